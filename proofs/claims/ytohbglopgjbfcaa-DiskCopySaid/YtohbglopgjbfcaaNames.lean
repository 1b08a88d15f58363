/-
  THE NAMES OF A DISK's FILES, and of its reference's; what both are asked: Dead, Ops, Read; suretyref11.SameTexts.
-/
import Derived.Test.YtohbglopgjbfcaaRel
import Derived.Test.YtohbglopgjbfcaaKeysLaid
set_option linter.unusedVariables false
set_option linter.unusedSimpArgs false
namespace Go.Proofs.Ytohbglopgjbfcaa
open Go.RowKit Go.Maps Go.Sort Go.Shelf

theorem sortsK (m : Nat) : AnyZ.SortsIn Try.prog Try.sorted59_ren Fence.wide m :=
  ⟨fun blk off cap ss W hH hblk hsz => callsIn_wide.2 (AnyM.slices_Sort_string Try.sort68 blk off cap ss W hH hblk hsz),
   fun p cap W => callsIn_wide.2 (AnyM.slices_Sort_string_none Try.sort68 p cap W)⟩
theorem keysK (mb : Option Nat) (W : World) : CallsIn Fence.wide 5 Try.prog 60 #[.map mb] W fun e w' => e = .returned (.func (.func 69) #[] #[.pointer (some ⟨W.heap.size, 0, none⟩)]) ∧ w' = W.alloc (.cells #[.map mb] 45) :=
  AnyZ.keys_in Try.keys60 Fence.wide 5 trivial rfl mb W
def SortedPost {H : Type} (D0 : DataW H) (W : World) (e : Ending) (w' : World) : Prop := ∃ (v : Value) (ss : List (List UInt8)), e = .returned v ∧ ss.Perm (strKeys D0) ∧
      w'.ownsRow W.heap.size 9 1 v ss.length ((ss.mergeSort (fun x y => decide (x ≤ y))).map encStr) ∧ (v = .slice none 0 0 ↔ ss = []) ∧ Below W.heap.size W w'
set_option maxHeartbeats 1000000 in
theorem sortedK {H : Type} (b nn : Nat) (D0 : DataW H) (R : Value → Option (DataW H × List MemPlace)) (w : World) (hown : w.ownsMap Try.prog 9 R b nn D0) (hmax : Maps.size D0 ≤ maxLen) (hbytes : Maps.size D0 * 16 ≤ 140737488355328) :
    CallsIn Fence.wide 5 Try.prog 59 #[.func (.func 69) #[] #[.pointer (some ⟨w.heap.size, 0, none⟩)]] (w.alloc (.cells #[.map (some b)] 45)) (SortedPost D0 (w.alloc (.cells #[.map (some b)] 45))) := by
  have hbl := hown.lt
  have hseq : SeqGives Fence.wide 2 Try.prog 69 #[.pointer (some ⟨w.heap.size, 0, none⟩)] encStr (fun ss => ss.Perm (strKeys D0)) (Maps.size D0) (w.alloc (.cells #[.map (some b)] 45)) :=
    AnyZ.keys_gives (ρ := Try.keys60_ren) { Try.keys60 with } Fence.wide _ trivial rfl (by omega) w.heap.size b nn D0 _ (by simp) (by simp) (by
      obtain ⟨es, clock, hb, Ft, hs, hD⟩ := hown
      exact ⟨es, clock, (Below.heap_alloc _ _ b hbl).trans hb, Ft, hs, hD⟩)
  exact AnyZ.sorted_in Try.sorted59 Fence.wide 5 trivial trivial trivial trivial rfl (by omega) (sortsK _) (enters_of Try.func68 (by kernel_rfl) rfl) 69 #[.pointer (some ⟨w.heap.size, 0, none⟩)] trivial (enters_of Try.func69 (by kernel_rfl) rfl) _ _ hmax hbytes _ hseq

/-- texts in new memory. -/
def TextsPost (w : World) (l : List Bs) (e : Ending) (w' : World) : Prop :=
  ∃ a c, e = .returned (.slice a l.length c) ∧ Keep noM w w' ∧ l.length ≤ c ∧ c ≤ maxLen ∧ RowAt w' (fun b => w.heap.size ≤ b) a (scells l)

set_option maxHeartbeats 1000000 in
theorem Names_any (w : World) (S : Nat → Prop) (d m n : Nat) (s : DS) (h : DiskAt w S d m n s) (hn : n ≤ 1000000) (x : RS) (ha : Alike s x) :
    Calls Try.prog 35 #[.pointer (some ⟨d, 0, none⟩)] w (TextsPost w (x.L.map RF.name)) := by
  obtain ⟨Dm, hM, hF⟩ := h.map
  have hc0 := h.cells.1
  have hsz : Maps.size Dm ≤ n := by obtain ⟨es, clock, ho, Ft, hs, hD⟩ := hM; rw [hD]; simpa [Maps.size, length_sorted] using hs
  have HH := mkHid (And.intro hM (And.intro hF (And.intro ha (And.intro hsz hn))))
  clear h hM hF ha hsz hn
  refine (callsIn_wide (n := 6)).1 ?_
  refine callsIn_of_wp Try.func35 rfl trivial ?_ rfl
  simp only [Try.ntmps35, List.size_toArray, List.length_cons, List.length_nil, Nat.reduceAdd, Nat.reduceSub, Array.replicate_succ, Array.replicate_zero, List.push_toArray, List.append_toArray, List.nil_append, List.cons_append]
  gi_wp2_with fail
  refine ⟨trivial, ?_⟩
  refine (keysK _ _).mono ?_
  rintro e w1 ⟨rfl, rfl⟩
  gi_wp2_with fail
  refine ⟨trivial, ?_⟩
  refine (sortedK m n Dm heldR w HH.out.1 (by have := HH.out.2.2.2; unfold maxLen; omega) (by have := HH.out.2.2.2; omega)).mono ?_
  rintro e w2 ⟨v, ss, rfl, hperm, hrow, hnil, hb⟩
  have hms := HH.out.2.2.1.names HH.out.1 HH.out.2.1 hperm
  rw [hms] at hrow
  have hlen : ss.length = (x.L.map RF.name).length := by
    rw [← hms]; simp
  rw [hlen] at hrow
  obtain ⟨a, c, rfl, l1, l2, l3⟩ := owned_shape hrow
  have HX := mkHid (And.intro hb (And.intro l1 (And.intro l2 l3)))
  clear hb l1 l2 l3 hrow hnil hperm hms hlen
  gi_wp2
  go_ret
  obtain ⟨hb, l1, l2, l3⟩ := HX.out
  refine ⟨a, c, by simp, ?_, l1, l2, ?_⟩
  · exact ((alloc_keep noM w _).trans' (M' := noM) (Keep.of_below hb) (fun _ _ e => e))
  · have e : (x.L.map RF.name).map encStr = scells (x.L.map RF.name) := rfl
    rw [e] at l3
    exact l3.mono (fun b _ hb => by simp at hb; omega)

theorem Try.infoStr9 : (Try.prog.info? 9).map (fun i => (i.zero, i.size, i.bytes)) = some (some (.string ⟨#[]⟩), 1, 16) := by kernel_rfl
theorem scells_one (l : List Bs) : ∀ u ∈ scells l, u.oneCell' = true := by
  intro u hu; simp [scells] at hu; obtain ⟨c, _, rfl⟩ := hu; rfl
set_option maxRecDepth 100000 in
set_option maxHeartbeats 2000000 in
theorem RNames_any (w : World) (S T : Nat → Prop) (bx : Nat) (x : RS) (h : XAt w S T bx x) (hl : x.L.length ≤ 1000) :
    Calls Try.prog 37 #[.pointer (some ⟨bx, 0, none⟩)] w (TextsPost w (x.L.map RF.name)) := by
  obtain ⟨a, cap, R, hR, hb, hown, hT, hF⟩ := h.cells
  have hrow := rowAt_in hown hT
  have hnc : R.length ≤ cap ∧ cap ≤ maxLen := by obtain ⟨_, _, e, h1, h2, _⟩ := owned_shape hown; cases e; exact ⟨h1, h2⟩
  have hlen : R.length ≤ 1000 := by rw [← hR] at hl; simpa using hl
  have hc0w : w.cell? ⟨bx, 0, none⟩ = some (.slice a R.length cap) := by simp [World.cell?, hb]
  have hxl : x.L.length = R.length := by rw [← hR]; simp
  have hnm : ∀ j (hj : j < R.length), (x.L.take (j + 1)).map RF.name = (x.L.take j).map RF.name ++ [R[j].1.name] := by
    intro j hj
    rw [← hR, List.take_succ_eq_append_getElem (by simpa using hj), List.map_append]; simp
  have HH := mkHid (And.intro hrow (And.intro hc0w (And.intro hxl (And.intro hnm hnc))))
  clear h hF hR hrow hl hown hT hb hnc hc0w hnm hxl
  obtain ⟨i0, hi, hz0, hz1, hz2⟩ := info_parts Try.infoStr9
  have HI := mkHid (And.intro hi (And.intro hz0 (And.intro hz1 hz2)))
  clear hi hz0 hz1 hz2
  go_enter Try.func37, Try.ntmps37
  go_wp2_with fail
  go_loopw [3, 4] (fun v i wr => ∃ j : Nat, j ≤ R.length ∧ i = .int .i64 j ∧ Keep noM w wr ∧ wr.ownsRow w.heap.size 9 1 v j (scells ((x.L.take j).map RF.name))) (fun _ i _ => R.length - (intOf i).toNat)
  case atStart => exact ⟨0, by omega, rfl, Keep.refl _ _, World.ownsRow_nil _ _ _ _⟩
  case round =>
    obtain ⟨j, hj, rfl, kp, own⟩ := hrel
    have hc0 := kp.cell (M := noM) (not_noM _) HH.out.2.1
    have h1 := HH.out.2.2.2.2.1
    have h2 := HH.out.2.2.2.2.2
    have hsz : w.heap.size ≤ wr.heap.size := kp.size
    by_cases hlt : j < R.length
    · obtain ⟨b, off, hbe, hTb, hbl, e0, e1, e2⟩ := row_read (HH.out.1.keep kp (fun _ _ => not_noM _)) j hlt
      subst hbe
      obtain ⟨nm, hn⟩ : ∃ nm, nm = R[j].1.name := ⟨_, rfl⟩
      rw [← hn] at e0
      have hstep : scells ((x.L.take j).map RF.name) ++ [.string ⟨nm.toArray⟩] = scells ((x.L.take (j + 1)).map RF.name) := by
        rw [HH.out.2.2.2.1 j hlt, ← hn]
        simp [scells]
      have HK := mkHid (And.intro kp hstep)
      clear e1 e2 hn hstep kp
      have q0 : (wr.alloc (.cells #[.string ⟨nm.toArray⟩] 9)).cell? ⟨wr.heap.size, 0, none⟩ = some (.string ⟨nm.toArray⟩) := cell_new1 _ _ _
      obtain ⟨hi, hz0, hz1, hz2⟩ := HI.out
      go_wp2_with (at_builtin; first
        | (refine wpList_append_own _ rfl _ _ 63 rfl w.heap.size 9 i0 (.string ⟨#[]⟩) 1 16 Try.underlying63 hi hz0 hz1 hz2 rfl (by decide) _ j (scells ((x.L.take j).map RF.name)) rfl (own.alloc _) ⟨wr.heap.size, 0, none⟩ 1 1 [.string ⟨nm.toArray⟩] rfl rfl ?c1 ?c2 ?c3 ?c4 ?c5 ?_
           case c1 => intro k u hu; cases k with
             | zero => simp at hu; subst hu; exact q0
             | succ k => simp at hu
           case c2 => intro u hu; simp at hu; subst hu; rfl
           case c3 => unfold maxLen; omega
           case c4 => omega
           case c5 => simp; omega
           intro v' w1 hown' hgrow _
           rw [HK.out.2] at hown'
           have k1 : Keep noM w w1 := (HK.out.1.alloc (.cells #[.string ⟨nm.toArray⟩] 9)).grown hgrow (fun k e => .inr (by have := (own.alloc (.cells #[.string ⟨nm.toArray⟩] 9)).lt k e; omega))
           clear hgrow hi hz0 hz1 hz2 q0))
      go_roundw
      case rel => exact ⟨j + 1, by omega, by go_num, k1, hown'⟩
      case measure => simp [intOf]; omega
    · have hje : j = R.length := by omega
      have HE := mkHid (And.intro kp (And.intro own hje))
      clear kp hje
      obtain ⟨v', c', hv, l1, l2, l3⟩ := owned_shape own
      subst hv
      have H3 := mkHid (And.intro l1 (And.intro l2 l3))
      clear l1 l2 l3 own
      go_wp2
      go_ret
      refine ⟨v', c', ?_, HE.out.1, ?_, H3.out.2.1, ?_⟩
      · have := HE.out.2.2; have := HH.out.2.2.1; simp; omega
      · have := H3.out.1; have := HE.out.2.2; have := HH.out.2.2.1; simp; omega
      · have h9 := H3.out.2.2
        rw [List.take_of_length_le (by have := HE.out.2.2; have := HH.out.2.2.1; omega)] at h9
        exact h9

set_option maxHeartbeats 400000 in
theorem Dead_any (w : World) (S : Nat → Prop) (d m n : Nat) (s : DS) (h : DiskAt w S d m n s) : Calls Try.prog 38 #[.pointer (some ⟨d, 0, none⟩)] w fun e w' => e = .returned (.bool s.dead) ∧ w = w' := by
  obtain ⟨c0, c1, c2, c3, f0, f1, f2, f3, hlt⟩ := h.cells
  clear h
  go_enter Try.func38, Try.ntmps38
  go_wp2
  go_ret
  exact ⟨rfl, rfl⟩
set_option maxHeartbeats 400000 in
theorem Ops_any (w : World) (S : Nat → Prop) (d m n : Nat) (s : DS) (h : DiskAt w S d m n s) : Calls Try.prog 39 #[.pointer (some ⟨d, 0, none⟩)] w fun e w' => e = .returned (.int .i64 s.ops) ∧ w = w' := by
  obtain ⟨c0, c1, c2, c3, f0, f1, f2, f3, hlt⟩ := h.cells
  clear h
  go_enter Try.func39, Try.ntmps39
  go_wp2
  go_ret
  exact ⟨rfl, rfl⟩

/-- what the reference's Read hands back: its own bytes. -/
def RReadPost (w : World) (S : Nat → Prop) (x : RS) (k : Bs) (e : Ending) (w' : World) : Prop :=
  ∃ a c, e = .returned (.tuple #[.slice a (x.file k).data.length c, .int .i64 (if x.has k then 0 else 11)]) ∧ w = w' ∧ BytesAt w S a (x.file k).data
set_option maxHeartbeats 1000000 in
theorem RRead_any (w : World) (S T : Nat → Prop) (bx : Nat) (x : RS) (h : XAt w S T bx x) (hl : x.L.length ≤ 1000) (k : Bs) (hk : k.length ≤ maxLen) :
    Calls Try.prog 40 #[.pointer (some ⟨bx, 0, none⟩), .string ⟨k.toArray⟩] w (RReadPost w S x k) := by
  have HH := mkHid (And.intro h (And.intro hk hl))
  by_cases hf : findN x.L k < x.L.length
  · obtain ⟨b, off, n, cap, y, c0, hn, hb, ok, hnm, e0, e1, e2⟩ := h.found k hf
    have hI : findI x.L k = (findN x.L k : Nat) := by simp [findI, hf]
    have hnb : findN x.L k ≤ 1000 := by omega
    have hhas : x.has k = true := by simp [RS.has, hf]
    have HX := mkHid (And.intro ok.b1 (And.intro hhas hI))
    obtain ⟨z, hz⟩ : ∃ z, z = findN x.L k := ⟨_, rfl⟩
    rw [← hz] at e0 e1 e2 hn hnb
    have HZ := mkHid hz
    clear h ok hhas hI hz hf hl e0 e2 hnm
    go_enter Try.func40, Try.ntmps40
    go_wp2_with fail
    refine (find_any w S T bx x HH.out.1 (by have := HH.out.2.2; omega) k HH.out.2.1).mono ?_
    rintro e w' ⟨rfl, rfl⟩
    rw [HX.out.2.2, ← HZ.out]
    go_wp2
    go_ret2
    exact ⟨y.a1, y.c1, by simp [HX.out.2.1], rfl, HX.out.1⟩
  · have hI : findI x.L k = -1 := by simp [findI, hf]
    have hhas : x.has k = false := by simp [RS.has, hf]
    have hfile : x.file k = ⟨k, [], []⟩ := RS.file_none x k hf
    have HX := mkHid (And.intro hI (And.intro hhas hfile))
    clear h hI hhas hfile hf
    go_enter Try.func40, Try.ntmps40
    go_wp2_with fail
    refine (find_any w S T bx x HH.out.1 (by have := HH.out.2.2; omega) k HH.out.2.1).mono ?_
    rintro e w' ⟨rfl, rfl⟩
    rw [HX.out.1]
    go_wp2
    go_ret2
    exact ⟨none, 0, by simp [HX.out.2.1, HX.out.2.2], rfl, by rw [HX.out.2.2]; exact .nil _ _ _⟩

set_option maxHeartbeats 1000000 in
/-- the same texts. -/
theorem sameTexts_any (a b : Option Addr) (xs : List Bs) (ca cb : Nat) (S S' : Nat → Prop) (w : World) (hx : RowAt w S a (scells xs)) (hy : RowAt w S' b (scells xs)) (lx : xs.length ≤ maxLen) :
    Calls Try.prog 36 #[.slice a xs.length ca, .slice b xs.length cb] w fun e w' => e = .returned (.bool true) ∧ Keep noM w w' := by
  unfold maxLen at lx
  have hl1 : ((xs.length : Int) != (xs.length : Int)) = false := by simp
  go_enter Try.func36, Try.ntmps36
  go_wp2
  go_loopw [5] (fun i wr => ∃ k : Nat, k ≤ xs.length ∧ i = .int .i64 k ∧ ∃ n, wr = w.drewN n) (fun i _ => xs.length - (intOf i).toNat)
  case atStart => exact ⟨0, by omega, rfl, 0, rfl⟩
  case round =>
    obtain ⟨k, hk, rfl, n, rfl⟩ := hrel
    by_cases hlt : k < xs.length
    · obtain ⟨b1, o1, rfl, h1⟩ := hx.str hlt
      obtain ⟨b2, o2, rfl, h2⟩ := hy.str hlt
      obtain ⟨t, ht⟩ : ∃ t, t = xs[k] := ⟨_, rfl⟩
      rw [← ht] at h1 h2
      clear ht
      go_wp2
      go_quiet (fail)
      go_wp2
      go_roundw
      case rel => exact ⟨k + 1, by omega, by go_num, drewN_ex _ _⟩
      case measure => simp [intOf]; omega
    · go_wp2
      go_ret
      exact ⟨rfl, (Keep.refl _ _).drewN _⟩
end Go.Proofs.Ytohbglopgjbfcaa
