/-
  THE DISK, PART 8: Boot: of each file the bytes that are left.
-/
import Derived.Test.YtohbglopgjbfcaaDisk7
import Derived.Test.YtohbglopgjbfcaaIter
import Derived.Shelf.SlMaps.Clone
import Derived.BigRegionIn
set_option linter.unusedVariables false
namespace Go.Proofs.Ytohbglopgjbfcaa
open Go.RowKit Go.Maps Go.Sort Go.Shelf
attribute [local go_sem] Oper.semAt_some

set_option maxRecDepth 100000 in
set_option maxHeartbeats 1000000 in
/-- maps.Clone: a block of its own with the same entries. -/
theorem mclone_any (b : Nat) (es : Array MapEntry) (clock : Nat) (w : World) (hb : w.heap[b]? = some (.map es clock)) :
    Calls Try.prog 31 #[.map (some b)] w fun e w' => e = .returned (.map (some w.heap.size)) ∧ w.alloc (.map es clock) = w' := by
  have hq := fun w => run_eql_map_nil_sl (P := Try.prog) w 45 _ _ (some b) Try.underlying45
  go_enter Try.func31, Try.ntmps31
  go_wp2
  rw [run_callFunc_extern Try.func56 (by kernel_rfl) (by kernel_rfl) (by kernel_rfl) (e := Extern.MapsClone.clone) (by kernel_rfl), run_maps_clone_sl w 45 hb]
  simp only [Result.andThen]
  rw [Oper.upon_value]
  go_wp2
  rw [run_typeAssert_map_sl _ 45 20 _ _ _ Try.underlying45]
  simp only [Result.andThen]
  rw [Oper.upon_value]
  go_wp2
  go_ret
  exact ⟨rfl, rfl⟩

set_option maxHeartbeats 400000 in
/-- maps.All: the map is boxed; the iterator captures the box. -/
theorem mall_any (b : Nat) (w : World) :
    Calls Try.prog 30 #[.map (some b)] w fun e w' => e = .returned (.func (.func 55) #[] #[.pointer (some ⟨w.heap.size, 0, none⟩)]) ∧ w.alloc (.cells #[.map (some b)] 45) = w' := by
  have hmf : ∀ (fn : Fn) (first cap : Array Value) (w : World), (Instr.makeFunc fn first cap).run Try.prog w = .ok (.func fn first cap) w := fun _ _ _ _ => rfl
  go_enter Try.func30, Try.ntmps30
  go_wp2
  go_ret
  exact ⟨rfl, rfl⟩

/-- what the iterator gives. -/
theorem all_stops (n : Nat) (hn : 1 ≤ n) (Bm b nn Bk : Nat) (hBb : Bk ≤ b) (D0 : DataW Value) (w : World) (hBk : Bk ≤ w.heap.size) (hBm : Bm < w.heap.size)
    (hm : w.cell? ⟨Bm, 0, none⟩ = some (.map (some b))) (hown : w.ownsMap Try.prog 9 heldR b nn D0) :
    SeqStopsK Fence.wide n Try.prog 55 #[.pointer (some ⟨Bm, 0, none⟩)] (fun x : Ent D0 => encF x.1) (KW Bk) (AllOf D0) (PartOf D0) (Maps.size D0) w := fun l J Jx W hW hJ _ hY h0 => by
  have hown' : W.ownsMap Try.prog 9 heldR b nn D0 := by
    have hbl := hown.lt
    obtain ⟨es, clock, hb, Ft, hs, hD⟩ := hown
    exact ⟨es, clock, (hW.block b hbl).trans hb, Ft, hs, hD⟩
  exact all1_in Fence.wide n trivial rfl hn l Bm b nn Bk hBb D0 J Jx hY W (Nat.le_trans hBk hW.size) hJ ((hW.cell (p := ⟨Bm, 0, none⟩) hBm).trans hm) hown' h0

def bootF (keep : Int) (x : Bs × Bs) : Bs × Bs := if x.1 = x.2 then (x.1, x.1) else (torn x.1 x.2 keep, torn x.1 x.2 keep)
def DS.boot (s : DS) (keep : Int) : DS := { f := fun k => (s.f k).map (bootF keep), fuse := 0, dead := false, ops := s.ops }
/-- the disk while Boot goes through its files. -/
def DS.mid (s : DS) (keep : Int) (ks : List Bs) : DS := { s with f := fun k => if k ∈ ks then (s.f k).map (bootF keep) else s.f k }

/-- a store of a file that is there. -/
theorem DiskAt.storeOld {w' : World} {S : Nat → Prop} {d m n : Nat} {s : DS} (h' : DiskAt w' S d m n s) (k : Bs) (hk : k.length ≤ maxLen) (hn : n ≤ 1000000) (hold : (s.f k).isSome = true) (v : Value) (x : Bs × Bs) (hv : FileV w' S v x) :
    ∃ w3, (Instr.mapUpdate 45 (.map (some m)) (.string ⟨k.toArray⟩) v).run Try.prog w' = .ok () w3 ∧ Keep (isB m) w' w3 ∧ DiskAt w3 S d m n { s with f := s.f.put k x } := by
  obtain ⟨Dm, hM, hF⟩ := h'.map
  obtain ⟨w3, hst, own3, turn⟩ := hM.store keyedS Try.underlying45 (by unfold maxLen; omega) (keyS k hk) (val := v) hv.held
  have k3 : Keep (isB m) w' w3 := (Keep.refl _ _).grown turn.grown (fun k e => .inl (by cases e; rfl))
  have hsz : Maps.size (Dm.put (.string k) (.held v)) = Maps.size Dm := by
    rw [Maps.size_put (hM.tidy keyedS), if_pos (by rw [hF.dom]; exact hold)]
  have own4 := (ownsMap_size own3).mono (n' := n) (by rw [hsz]; exact hM.size_le)
  exact ⟨w3, hst, k3, h'.remap k3 ⟨rfl, rfl, rfl⟩ ⟨_, own4, (hF.keep k3 (notB h'.nm)).put (by obtain ⟨es, e⟩ := hM.isMap; exact ⟨es, e⟩) k (hv.keep k3 (notB h'.nm))⟩⟩

def keysOf {D0 : DataW Value} (ps : List (Ent D0)) : List Bs := ps.map fun q => q.1.1

/-- while Boot goes through the files. -/
structure MidAt (w W : World) (S : Nat → Prop) (d m n : Nat) (s : DS) (keep : Int) (D0 : DataW Value) (ks : List Bs) : Prop where
  kp : Keep (isB2 d m) w W
  sz : w.heap.size + 4 ≤ W.heap.size
  disk : DiskAt W S d m n (s.mid keep ks)
  files : FilesAt W S D0 s.f
  c0 : W.cell? ⟨w.heap.size, 0, none⟩ = some (.pointer (some ⟨d, 0, none⟩))
  c1 : W.cell? ⟨w.heap.size + 1, 0, none⟩ = some (.int .i64 keep)
def fromB (B : Nat) : Nat → Prop := fun b => B ≤ b
theorem MidAt.up {w W W' : World} {S : Nat → Prop} {d m n B : Nat} {s : DS} {keep : Int} {D0 : DataW Value} {ks : List Bs} (h : MidAt w W S d m n s keep D0 ks) (q : Keep (fromB B) W W') (hB : w.heap.size + 4 ≤ B) (hd : d < w.heap.size) (hm : m < w.heap.size) (hS : ∀ b, S b → b < w.heap.size) : MidAt w W' S d m n s keep D0 ks :=
  ⟨h.kp.trans' q (fun i hi e => by unfold fromB at e; omega),
   Nat.le_trans h.sz q.size,
   h.disk.keep q (fun b hb e => by have := hS b hb; unfold fromB at e; omega) (fun e => by unfold fromB at e; omega) (fun e => by unfold fromB at e; omega),
   h.files.keep q (fun b hb e => by have := hS b hb; unfold fromB at e; omega),
   q.cell (M := fromB B) (p := ⟨w.heap.size, 0, none⟩) (by unfold fromB; simp only; omega) h.c0, q.cell (M := fromB B) (p := ⟨w.heap.size + 1, 0, none⟩) (by unfold fromB; simp only; omega) h.c1⟩

theorem Keep.putObj {M : Nat → Prop} {a b : World} (h : Keep M a b) {r : Nat} (hr : M r) (o : Obj) : Keep M a (b.putObj r o) :=
  h.trans ⟨rfl, rfl, rfl, by simp, fun k _ hn => World.putObj_heap_other (fun e => hn (e ▸ hr))⟩
theorem kf_keep {B : Nat} {M : Nat → Prop} {X Y : World} (h : Keep M X Y) (hM : ∀ k, M k → k < B) : KeepsFrom B X Y :=
  ⟨h.size, fun i o hB hi _ => h.obj (fun e => by have := hM i e; omega) hi⟩
theorem ko_keep {X Y : World} (h : Keep noM X Y) : KeepsOthers X Y := ⟨h.size, fun i o hi _ => h.obj (not_noM _) hi⟩
theorem kf_down {B B' : Nat} {X Y : World} (h : KeepsFrom B X Y) (hb : B ≤ B') : KeepsFrom B' X Y := ⟨h.size, fun i o hB hi ho => h.same i o (Nat.le_trans hb hB) hi ho⟩

theorem FileV.same {w : World} {S : Nat → Prop} {a : Option Addr} {t : Bs} {c : Nat} {v : Value} (hv : v = .agg #[.slice a t.length c, .slice a t.length c]) (h1 : t.length ≤ c) (h2 : c ≤ maxLen) (h3 : t.length ≤ 262144) (hb : BytesAt w S a t) : FileV w S v (t, t) :=
  ⟨a, c, a, c, hv, h1, h1, h2, h2, h3, h3, hb, hb⟩

/-- a round of Boot's loop, behind its two stores into the box. -/
theorem mid_step {w W W7 w3 : World} {S : Nat → Prop} {d m n B : Nat} {s : DS} {keep : Int} {D0 : DataW Value} (pre : List (Ent D0)) (x : Ent D0) (y : Bs × Bs) (ko : KeepsOthers W W7) (M7 : MidAt w W7 S d m n s keep D0 (keysOf pre))
    (k3 : Keep (isB m) W7 w3) (D3 : DiskAt w3 S d m n { s.mid keep (keysOf pre) with f := (s.mid keep (keysOf pre)).f.put x.1.1 (bootF keep y) }) (hy : s.f x.1.1 = some y) (hd : d < w.heap.size) (hm : m < w.heap.size) (hS : ¬ S m) (hB : w.heap.size + 2 ≤ B) :
    KeepsFrom B W w3 ∧ KW (w.heap.size + 2) W w3 ∧ MidAt w w3 S d m n s keep D0 (keysOf (pre ++ [x])) := by
  have hkf : KeepsFrom (w.heap.size + 2) W w3 := (ko.from _).trans (kf_keep k3 (fun k e => by unfold isB at e; omega))
  refine ⟨kf_down hkf hB, KW.of_from hkf, ?_⟩
  refine ⟨M7.kp.trans (k3.mono (fun b _ e => .inr e)), Nat.le_trans M7.sz k3.size, ?_, M7.files.keep k3 (notB hS), k3.cell (M := isB m) (p := ⟨w.heap.size, 0, none⟩) (by unfold isB; simp only; omega) M7.c0, k3.cell (M := isB m) (p := ⟨w.heap.size + 1, 0, none⟩) (by unfold isB; simp only; omega) M7.c1⟩
  have e : ({ s.mid keep (keysOf pre) with f := (s.mid keep (keysOf pre)).f.put x.1.1 (bootF keep y) } : DS) = s.mid keep (keysOf (pre ++ [x])) := by
    unfold DS.mid Files.put keysOf
    refine congrArg (fun f => (DS.mk f s.fuse s.dead s.ops)) (funext fun k' => ?_)
    simp only [List.map_append, List.map_cons, List.map_nil, List.mem_append, List.mem_singleton]
    by_cases hk : k' = x.1.1
    · subst hk; simp [hy]
    · by_cases h : k' ∈ List.map (fun q : Ent D0 => q.1.1) pre <;> simp [h, hk]
  rw [← e]; exact D3

set_option maxRecDepth 100000 in
set_option maxHeartbeats 1000000 in
theorem Boot_any (w : World) (S : Nat → Prop) (hS : ∀ b, S b → b < w.heap.size) (d m n : Nat) (s : DS) (h : DiskAt w S d m n s) (hn : n ≤ 1000000) (keep : Int) (hk0 : -9223372036854775808 ≤ keep) (hk1 : keep ≤ 9223372036854775807) :
    Calls Try.prog 14 #[.pointer (some ⟨d, 0, none⟩), .int .i64 keep] w fun e w' => e = .returned (.tuple #[]) ∧ Keep (isB2 d m) w w' ∧ DiskAt w' S d m n (s.boot keep) := by
  have bx := boxes2 w (.pointer (some ⟨d, 0, none⟩)) (.int .i64 keep) 26 3
  have k1 : Keep noM w ((w.alloc (.cells #[.pointer (some ⟨d, 0, none⟩)] 26)).alloc (.cells #[.int .i64 keep] 3)) := ((Keep.refl _ w).alloc _).alloc _
  have h1 := h.keep k1 (fun _ _ => not_noM _) (not_noM _) (not_noM _)
  have hc0 := h1.cells.1
  obtain ⟨D0, ⟨es, clock, hbm, Ft, hsz, hD⟩, hF0⟩ := h1.map
  have hd := lt_of_obj h.disk
  have hm : m < w.heap.size := by obtain ⟨Dm, ⟨es, clock, hb, _⟩, _⟩ := h.map; exact lt_of_obj hb
  refine (callsIn_wide (n := 9)).1 ?_
  refine callsIn_of_wp_marks Try.func14 rfl trivial ?_ rfl
  simp only [Try.ntmps14, List.size_toArray, List.length_cons, List.length_nil, Nat.reduceAdd, Nat.reduceSub, Array.replicate_succ, Array.replicate_zero, List.push_toArray, List.append_toArray, List.nil_append, List.cons_append]
  gi_wp2_with fail
  refine ⟨trivial, ?_⟩
  refine (callsIn_wide.2 (mclone_any m es clock _ hbm)).mono ?_
  rintro e w1 ⟨rfl, hw1⟩
  have ownC : w1.ownsMap Try.prog 9 heldR (w.heap.size + 2) (Maps.size D0) D0 := by
    rw [← hw1]
    refine ⟨es, clock, ?_, Ft, by rw [hD]; simp [Maps.size, length_sorted], hD⟩
    have := heap_alloc_new ((w.alloc (.cells #[.pointer (some ⟨d, 0, none⟩)] 26)).alloc (.cells #[.int .i64 keep] 3)) (.map es clock)
    rwa [size_alloc', size_alloc'] at this
  have q1 : Keep noM ((w.alloc (.cells #[.pointer (some ⟨d, 0, none⟩)] 26)).alloc (.cells #[.int .i64 keep] 3)) w1 := by rw [← hw1]; exact alloc_keep _ _ _
  have sz1 : w1.heap.size = w.heap.size + 3 := by rw [← hw1]; simp
  have k2 : Keep noM w w1 := k1.trans q1
  have b1 := And.intro (q1.cell (M := noM) (not_noM _) bx.1) (q1.cell (M := noM) (not_noM _) bx.2)
  have hF1 := hF0.keep q1 (fun _ _ => not_noM _)
  have hs2 : ((w.alloc (.cells #[.pointer (some ⟨d, 0, none⟩)] 26)).alloc (.cells #[.int .i64 keep] 3)).heap.size = w.heap.size + 2 := by simp
  rw [hs2]
  clear hw1 q1 hF0 bx k1 h1 hc0 hbm Ft hsz hD
  gi_wp2_with fail
  refine ⟨trivial, ?_⟩
  refine (callsIn_wide.2 (mall_any _ _)).mono ?_
  rintro e w2 ⟨rfl, hw2⟩
  have q2 : Keep noM w1 w2 := by rw [← hw2]; exact alloc_keep _ _ _
  have cM : w2.cell? ⟨w.heap.size + 3, 0, none⟩ = some (.map (some (w.heap.size + 2))) := by
    rw [← hw2, ← sz1]; exact cell_new1 _ _ _
  have sz2 : w2.heap.size = w.heap.size + 4 := by rw [← hw2]; simp [sz1]
  rw [sz1]
  have k3 := k2.trans q2
  have ownD := ownsMap_keep ownC q2 (not_noM _)
  have b2 := And.intro (q2.cell (M := noM) (not_noM _) b1.1) (q2.cell (M := noM) (not_noM _) b1.2)
  have hF2 := hF1.keep q2 (fun _ _ => not_noM _)
  have h2 := h.keep k3 (fun _ _ => not_noM _) (not_noM _) (not_noM _)
  clear hw2 q2 k2 hF1 b1 ownC sz1 es clock h
  gi_wp2_with fail
  have M0 : MidAt w w2 S d m n s keep D0 [] := ⟨keepAll k3, by omega, by simpa [DS.mid] using h2, hF2, b2.1, b2.2⟩
  have MM := mkHid (And.intro M0 (And.intro hd (And.intro hm (And.intro hn (And.intro hk0 (And.intro hk1 hS))))))
  have HO := mkHid (And.intro ownD cM)
  clear k3 ownD b2 hF2 h2 cM hk0 hk1 hn M0 hS
  refine wpIn_rangeFunc_ownH rfl (by omega) (gf := 55) (lb := #[.pointer (some ⟨w.heap.size + 3, 0, none⟩)]) rfl trivial (enters_of Try.func55 (by kernel_rfl) rfl)
    (all_stops 8 (by omega) (w.heap.size + 3) (w.heap.size + 2) (Maps.size D0) (w.heap.size + 2) (Nat.le_refl _) D0 w2 (by omega) (by omega) HO.out.2 HO.out.1) (fun h k => h.trans k) (fun W l o o' a b c d => KW.put W l o o' a b c d) (Below.refl _ _) (fun _ => rfl)
    (fun (pre : List (Ent D0)) W => MidAt w W S d m n s keep D0 (keysOf pre))
    (fun _ _ _ => False)
    (fun pre A B row h hg hr => h.up (Keep.grown (Keep.refl _ _) hg (fun k e => .inl (hr k e).1)) (by omega) MM.out.2.1 MM.out.2.2.1 MM.out.2.2.2.2.2.2)
    (fun _ _ _ _ _ h _ _ => h)
    MM.out.1
    (fun (x : Ent D0) a' W => ∃ Bx, w2.heap.size ≤ Bx ∧ W.heap[Bx]? = some (.cells #[.slice x.1.2.a x.1.2.n x.1.2.c, .slice x.1.2.a2 x.1.2.n2 x.1.2.c2] 52 (0, 0)) ∧ a' = { tmps := #[.pointer (some ⟨d, 0, none⟩), .int .i64 keep, .pointer (some ⟨w.heap.size, 0, none⟩), .pointer (some ⟨w.heap.size + 1, 0, none⟩), .string ⟨x.1.1.toArray⟩, .pointer (some ⟨Bx, 0, none⟩), .pointer (some ⟨d, 0, none⟩), .bool false, .pointer (some ⟨d, 0, none⟩), .pointer (some ⟨d, 0, none⟩), .pointer (some ⟨d, 0, none⟩), .map (some m), .map (some (w.heap.size + 2)), .func (.func 55) #[] #[.pointer (some ⟨w.heap.size + 3, 0, none⟩)], .string ⟨x.1.1.toArray⟩, mkFV x.1.2, undef, undef, undef, undef, undef, undef, undef, undef, undef, undef, undef, undef, undef, undef, undef, undef, undef, undef, undef, undef, undef, undef, undef, undef, undef], defers := [] })
    (fun x a' _ A B row h hg hr => by
      obtain ⟨Bx, h1, h2, h3⟩ := h
      exact ⟨Bx, h1, (hg.block Bx (lt_of_obj h2) (fun e => by obtain ⟨o, ho, hc⟩ := (hr Bx e.symm).2; rw [h2] at ho; cases ho; cases hc)).trans h2, h3⟩) ?assign ?body ?done ?stop
  case assign =>
    intro l pre x W K hi hK
    have hq := alloc_keep (fromB w2.heap.size) W (.cells #[.slice x.1.2.a x.1.2.n x.1.2.c, .slice x.1.2.a2 x.1.2.n2 x.1.2.c2] 52)
    have hsz : w2.heap.size ≤ W.heap.size := by rw [sz2]; exact hi.sz
    gi_wp2
    refine hK _ _ ((KeepsOthers.alloc _ _).from _) (KW.of_from ((KeepsOthers.alloc _ _).from _)) (hi.up hq (by omega) MM.out.2.1 MM.out.2.2.1 MM.out.2.2.2.2.2.2) ⟨W.heap.size, hsz, heap_alloc_new _ _, rfl⟩
  case body =>
    rintro l pre x a' W hl hr hI ⟨Bx, hBx, hbox, rfl⟩ hlen
    obtain ⟨hval, hkl⟩ := x.2
    obtain ⟨k, hk⟩ : ∃ k, k = x.1.1 := ⟨_, rfl⟩
    obtain ⟨fv, hfv⟩ : ∃ fv, fv = x.1.2 := ⟨_, rfl⟩
    have hval' : ValAt D0 (k, fv) := by rw [hk, hfv]; exact hval
    rw [← hfv] at hbox
    rw [← hk] at hkl
    rw [← hfv, ← hk]
    have HKF := mkHid (And.intro hk hfv)
    clear hval hk hfv
    obtain ⟨y, hy, hFy⟩ : ∃ y, s.f k = some y ∧ FileV W S (mkFV fv) y := by
      have hh : Maps.has D0 (.string k) = true := has_true_of_atKey hval'
      rw [hI.files.dom] at hh
      obtain ⟨y, hy⟩ := Option.isSome_iff_exists.1 hh
      obtain ⟨v, hv, hF⟩ := hI.files.val k y hy
      refine ⟨y, hy, ?_⟩
      have := hval' .nil
      rw [hv] at this
      cases this
      exact hF
    clear hval'
    obtain ⟨a1, c1, a2, c2, he, hF⟩ := hFy
    obtain ⟨fa, fn, fc, fa2, fn2, fc2⟩ := fv
    simp at he
    obtain ⟨⟨rfl, rfl, rfl⟩, rfl, rfl, rfl⟩ := he
    have x0 : W.cell? ⟨Bx, 0, none⟩ = some (.slice fa y.1.length fc) := by simp [World.cell?, hbox]
    have x1 : W.cell? ⟨Bx, 1, none⟩ = some (.slice fa2 y.2.length fc2) := by simp [World.cell?, hbox]
    have x2 : W.frozen? ⟨Bx, 0, none⟩ = false := by simp [World.frozen?, hbox]
    have x3 : W.frozen? ⟨Bx, 1, none⟩ = false := by simp [World.frozen?, hbox]
    have HI := mkHid (And.intro hI (And.intro hF (And.intro hy (And.intro hkl hbox))))
    clear hI hF hy hkl hbox
    obtain ⟨eq, heq⟩ : ∃ b, b = decide (y.1 = y.2) := ⟨_, rfl⟩
    have HE := mkHid heq
    gi_wp2_with fail
    refine ⟨trivial, ?_⟩
    refine (CallsIn.inRound l (callsIn_wide.2 (equalB_any fa fa2 y.1 y.2 fc fc2 S S W HI.out.2.1.2.2.2.2.2.2.1 HI.out.2.1.2.2.2.2.2.2.2))).mono ?_
    rintro e W' ⟨rfl, rfl⟩
    rw [← heq]
    clear heq
    have c0 := HI.out.1.c0
    have hc0 := HI.out.1.disk.cells.1
    have hBw : Bx ≠ w.heap.size := by omega
    have hBd : Bx ≠ d := by omega
    have hBw' : w.heap.size ≠ Bx := hBw.symm
    have hBd' : d ≠ Bx := hBd.symm
    have c1 := HI.out.1.c1
    have hB1 : w.heap.size + 1 ≠ Bx := by omega
    have hkm : keysOf (pre ++ [x]) = keysOf pre ++ [k] := by simp [keysOf, HKF.out.1]
    have hold : ((s.mid keep (keysOf pre)).f k).isSome = true := by
      simp only [DS.mid]; split <;> simp [HI.out.2.2.1]
    have hyk : s.f x.1.1 = some y := by rw [← HKF.out.1]; exact HI.out.2.2.1
    have HS := mkHid (And.intro hold hyk)
    clear hkm hold hyk
    cases eq
    · gi_wp2_with fail
      refine ⟨trivial, ?_⟩
      refine (CallsIn.inRound l (callsIn_wide.2 (torn_any fa fa2 y.1 y.2 fc fc2 keep S S W HI.out.2.1.2.2.2.2.2.2.1 HI.out.2.1.2.2.2.2.2.2.2 HI.out.2.1.1 HI.out.2.1.2.2.1 HI.out.2.1.2.2.2.2.1 HI.out.2.1.2.2.2.2.2.1 MM.out.2.2.2.2.1 MM.out.2.2.2.2.2.1))).mono ?_
      rintro e W5 ⟨rfl, q5⟩
      obtain ⟨t, ht⟩ : ∃ t, t = torn y.1 y.2 keep := ⟨_, rfl⟩
      rw [← ht]
      have q5' : Keep (fromB w2.heap.size) W W5 := q5.mono (fun _ _ h => h.elim)
      have hBl : Bx < W.heap.size := lt_of_obj HI.out.2.2.2.2
      have x0' := q5.cell (M := noM) (not_noM _) x0
      have x1' := q5.cell (M := noM) (not_noM _) x1
      have x2' := (q5.frozen? (M := noM) (p := ⟨Bx, 0, none⟩) (not_noM _) hBl).trans x2
      have x3' := (q5.frozen? (M := noM) (p := ⟨Bx, 1, none⟩) (not_noM _) hBl).trans x3
      have c0' := q5.cell (M := noM) (not_noM _) c0
      have hc0' := q5.cell (M := noM) (not_noM _) hc0
      have HT := mkHid (And.intro ht (And.intro q5 q5'))
      clear ht q5 q5' x0 x1 x2 x3 c0 hc0 c1
      have q7 : Keep (fromB w2.heap.size) W (((W5.setCell ⟨Bx, 0, none⟩ (.slice fa t.length fc)).setCell ⟨Bx, 1, none⟩ (.slice fa t.length fc)).drew) := ((HT.out.2.2.setCell (p := ⟨Bx, 0, none⟩) (.inl hBx) _).setCell (p := ⟨Bx, 1, none⟩) (.inl hBx) _).drew
      have M7 := HI.out.1.up q7 (by omega) MM.out.2.1 MM.out.2.2.1 MM.out.2.2.2.2.2.2
      have z00 : (W5.setCell ⟨Bx, 0, none⟩ (.slice fa t.length fc)).cell? ⟨Bx, 0, none⟩ = some (.slice fa t.length fc) := World.cell?_setCell_same' _ _ _ (by rw [x0']; rfl)
      have z0 : (((W5.setCell ⟨Bx, 0, none⟩ (.slice fa t.length fc)).setCell ⟨Bx, 1, none⟩ (.slice fa t.length fc)).drew).cell? ⟨Bx, 0, none⟩ = some (.slice fa t.length fc) := by
        rw [World.cell?_drew, World.cell?_setCell_other _ _ _ _ (by intro e; simp at e)]; exact z00
      have z10 : (W5.setCell ⟨Bx, 0, none⟩ (.slice fa t.length fc)).cell? ⟨Bx, 1, none⟩ = some (.slice fa2 y.2.length fc2) := by
        rw [World.cell?_setCell_other _ _ _ _ (by intro e; simp at e)]; exact x1'
      have z1 : (((W5.setCell ⟨Bx, 0, none⟩ (.slice fa t.length fc)).setCell ⟨Bx, 1, none⟩ (.slice fa t.length fc)).drew).cell? ⟨Bx, 1, none⟩ = some (.slice fa t.length fc) := by
        rw [World.cell?_drew]; exact World.cell?_setCell_same' _ _ _ (by rw [z10]; rfl)
      have hF := HI.out.2.1
      have htl : t.length ≤ y.1.length := by rw [HT.out.1]; unfold torn; simp; omega
      have htb : BytesAt W S fa t := by rw [HT.out.1]; unfold torn BytesAt; rw [bcells_take]; exact hF.2.2.2.2.2.2.1.take _
      obtain ⟨v, hv⟩ : ∃ v, v = Value.agg #[Value.slice fa t.length fc, .slice fa t.length fc] := ⟨_, rfl⟩
      have hFV : FileV (((W5.setCell ⟨Bx, 0, none⟩ (.slice fa t.length fc)).setCell ⟨Bx, 1, none⟩ (.slice fa t.length fc)).drew) S v (t, t) :=
        .same hv (Nat.le_trans htl hF.1) hF.2.2.1 (Nat.le_trans htl hF.2.2.2.2.1) (htb.keep q7 (fun b hb e => by have := MM.out.2.2.2.2.2.2 b hb; unfold fromB at e; omega))
      obtain ⟨w3, hst, k3, D3⟩ := M7.disk.storeOld k HI.out.2.2.2.1 MM.out.2.2.2.1 HS.out.1 v (t, t) hFV
      rw [hv] at hst
      have hbf : bootF keep y = (t, t) := by unfold bootF; rw [if_neg (of_decide_eq_false HE.out.symm), HT.out.1]
      have HF := mkHid (mid_step pre x y (B := w2.heap.size) ((((ko_keep HT.out.2.1).trans (KeepsOthers.setCell W5 ⟨Bx, 0, none⟩ (.slice fa t.length fc))).trans (KeepsOthers.setCell _ ⟨Bx, 1, none⟩ (.slice fa t.length fc))).trans (KeepsOthers.drew _)) M7 k3 (by rw [← HKF.out.1, hbf]; exact D3) HS.out.2 MM.out.2.1 MM.out.2.2.1 M7.disk.nm (by omega))
      clear k3 hFV hF M7 q7 D3 hbf hv htl htb
      gi_wp2_with fail
      gi_region
      all_goals exact HF.out
    · have q7 : Keep (fromB w2.heap.size) W ((W.setCell ⟨Bx, 1, none⟩ (.slice fa y.1.length fc)).drew) := ((Keep.refl (fromB w2.heap.size) W).setCell (p := ⟨Bx, 1, none⟩) (.inl hBx) _).drew
      have M7 := HI.out.1.up q7 (by omega) MM.out.2.1 MM.out.2.2.1 MM.out.2.2.2.2.2.2
      have z0 : ((W.setCell ⟨Bx, 1, none⟩ (.slice fa y.1.length fc)).drew).cell? ⟨Bx, 0, none⟩ = some (.slice fa y.1.length fc) := by
        rw [World.cell?_drew, World.cell?_setCell_other _ _ _ _ (by intro e; simp at e)]; exact x0
      have z1 : ((W.setCell ⟨Bx, 1, none⟩ (.slice fa y.1.length fc)).drew).cell? ⟨Bx, 1, none⟩ = some (.slice fa y.1.length fc) := by
        rw [World.cell?_drew]; exact World.cell?_setCell_same' _ _ _ (by rw [x1]; rfl)
      have hF := HI.out.2.1
      obtain ⟨v, hv⟩ : ∃ v, v = Value.agg #[Value.slice fa y.1.length fc, .slice fa y.1.length fc] := ⟨_, rfl⟩
      have hFV : FileV ((W.setCell ⟨Bx, 1, none⟩ (.slice fa y.1.length fc)).drew) S v (y.1, y.1) :=
        .same hv hF.1 hF.2.2.1 hF.2.2.2.2.1 (hF.2.2.2.2.2.2.1.keep q7 (fun b hb e => by have := MM.out.2.2.2.2.2.2 b hb; unfold fromB at e; omega))
      obtain ⟨w3, hst, k3, D3⟩ := M7.disk.storeOld k HI.out.2.2.2.1 MM.out.2.2.2.1 HS.out.1 v (y.1, y.1) hFV
      rw [hv] at hst
      have hbf : bootF keep y = (y.1, y.1) := by simp [bootF, of_decide_eq_true HE.out.symm]
      have HF := mkHid (mid_step pre x y (B := w2.heap.size) (((KeepsOthers.setCell W ⟨Bx, 1, none⟩ (.slice fa y.1.length fc))).trans (KeepsOthers.drew _)) M7 k3 (by rw [← HKF.out.1, hbf]; exact D3) HS.out.2 MM.out.2.1 MM.out.2.2.1 M7.disk.nm (by omega))
      clear k3 hFV hF M7 q7 D3 hbf hv
      gi_wp2_with fail
      gi_region
      all_goals exact HF.out
  case done =>
    rintro D xs W hD hall hI hK
    have c0 := hI.c0
    have hdd := hI.disk.disk
    have y1 : W.cell? ⟨d, 1, none⟩ = some (.int .i64 (s.mid keep (keysOf xs)).fuse) := by simp [World.cell?, hdd]
    have y2 : W.cell? ⟨d, 2, none⟩ = some (.bool (s.mid keep (keysOf xs)).dead) := by simp [World.cell?, hdd]
    have y3 : W.frozen? ⟨d, 1, none⟩ = false := by simp [World.frozen?, hdd]
    have y4 : W.frozen? ⟨d, 2, none⟩ = false := by simp [World.frozen?, hdd]
    have HD := mkHid (And.intro hI (And.intro hall hK))
    have hdw : d ≠ w.heap.size := by omega
    have hdw' : w.heap.size ≠ d := by omega
    clear hI hall hK hdd
    gi_wp2_with fail
    gi_region
    have hK : (((W.setCell ⟨d, 1, none⟩ (.int .i64 0)).setCell ⟨d, 2, none⟩ (.bool false)).drew).heap[D]? = some (.deferred (some [])) := by
      have q : Keep (isB d) W (((W.setCell ⟨d, 1, none⟩ (.int .i64 0)).setCell ⟨d, 2, none⟩ (.bool false)).drew) := (((Keep.refl (isB d) W).setCell (p := ⟨d, 1, none⟩) (.inl rfl) _).setCell (p := ⟨d, 2, none⟩) (.inl rfl) _).drew
      exact q.obj (by unfold isB; omega) HD.out.2.2
    refine ⟨by simp, .inl ⟨_, _, rfl, run_takeDeferred hK, ?_⟩⟩
    refine ⟨_, results_none rfl _ _ _, rfl, ?_⟩
    obtain ⟨hI, hall, hK0⟩ := HD.out
    have hDd : D ≠ d := by omega
    have qF : Keep (fun b => b = d ∨ b = D) W ((((W.setCell ⟨d, 1, none⟩ (.int .i64 0)).setCell ⟨d, 2, none⟩ (.bool false)).drew).putObj D (.deferred none)) :=
      ((((Keep.refl _ W).setCell (p := ⟨d, 1, none⟩) (.inl (.inl rfl)) _).setCell (p := ⟨d, 2, none⟩) (.inl (.inl rfl)) _).drew).putObj (.inr rfl) _
    refine ⟨hI.kp.trans' qF (fun i hi e => e.elim (fun e => .inl e) (fun e => by omega)), ?_⟩
    have hf : (s.mid keep (keysOf xs)).f = (s.boot keep).f := by
      funext k
      simp only [DS.mid, DS.boot]
      by_cases hk : k ∈ keysOf xs
      · rw [if_pos hk]
      · rw [if_neg hk]
        have h0 : (s.f k).isSome = false := by
          rw [← hI.files.dom, ← Bool.not_eq_true, ← hall.2]; exact hk
        rw [Option.isSome_eq_false_iff, Option.isNone_iff_eq_none] at h0
        rw [h0]; rfl
    obtain ⟨Dm, h1', h2⟩ := hI.disk.map
    have hSD : ∀ b, S b → ¬ (b = d ∨ b = D) := fun b hb e => e.elim (fun e => hI.disk.nd (e ▸ hb)) (fun e => by have := MM.out.2.2.2.2.2.2 b hb; omega)
    refine ⟨?_, ⟨Dm, ownsMap_keep h1' qF (fun e => e.elim (fun e => hI.disk.ne e.symm) (fun e => by omega)), by rw [← hf]; exact h2.keep qF hSD⟩, hI.disk.nd, hI.disk.nm, by simp [DS.boot], by simp [DS.boot]⟩
    rw [World.putObj_heap_other (Ne.symm hDd)]
    show ((W.setCell ⟨d, 1, none⟩ (.int .i64 0)).setCell ⟨d, 2, none⟩ (.bool false)).heap[d]? = _
    rw [heap_set3 (heap_set3 hI.disk.disk _ _) _ _]
    simp [DS.boot, DS.mid]
  case stop =>
    rintro D c pre W hD _ h _
    exact h.elim
end Go.Proofs.Ytohbglopgjbfcaa
