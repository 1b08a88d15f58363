/-
  THE DISK, PART 6: New, Write, Read, Fuse, Dead, Ops.
-/
import Derived.Test.YtohbglopgjbfcaaDisk5
namespace Go.Proofs.Ytohbglopgjbfcaa
open Go.RowKit Go.Maps

def DS.new : DS := { f := fun _ => none, fuse := 0, dead := false, ops := 0 }

set_option maxHeartbeats 400000 in
theorem New_any (w : World) : Calls Try.prog 8 #[] w fun e w' => e = .returned (.pointer (some ⟨w.heap.size + 1, 0, none⟩)) ∧ Keep noM w w' ∧ DiskAt w' (fun _ => False) (w.heap.size + 1) w.heap.size 0 DS.new ∧ w'.heap.size = w.heap.size + 2 := by
  have hmm := @run_makeMap Try.prog
  go_enter Try.func8, Try.ntmps8
  go_wp2
  go_ret
  refine ⟨rfl, ((Keep.refl _ w).alloc _).alloc _, ?_, by simp⟩
  have k1 : Keep noM (w.alloc (.map #[] 0)) ((w.alloc (.map #[] 0)).alloc (.cells #[.map (some w.heap.size), .int .i64 0, .bool false, .int .i64 0] 47)) := (Keep.refl _ _).alloc _
  refine ⟨?_, ⟨.map [], ownsMap_keep (World.ownsMap_made w _ _ _) k1 (not_noM _), ?_, ?_⟩, fun h => h, fun h => h, by simp [DS.new], by simp [DS.new]⟩
  · have := heap_alloc_new (w.alloc (.map #[] 0)) (.cells #[.map (some w.heap.size), .int .i64 0, .bool false, .int .i64 0] 47)
    rw [size_alloc'] at this; exact this
  · intro k; simp [Maps.has, DS.new]
  · intro k x hx; simp [DS.new] at hx

def DS.writeE (s : DS) (k b : Bs) : Int := if namesE s.dead [k] ≠ 0 then namesE s.dead [k] else s.putE b
def DS.write (s : DS) (k b : Bs) : DS := if namesE s.dead [k] ≠ 0 then s else s.putB k b
/-- the old blocks of S, and the new ones. -/
def newS (w : World) (S : Nat → Prop) : Nat → Prop := fun b => S b ∨ w.heap.size ≤ b

set_option maxHeartbeats 800000 in
theorem Write_any (w : World) (S : Nat → Prop) (d m n : Nat) (s : DS) (h : DiskAt w S d m n s) (ho : 0 ≤ s.ops) (ho' : s.ops ≤ 1000000) (hn : n ≤ 1000000) (k b : Bs) (hk : k.length ≤ maxLen) (a : Option Addr) (c : Nat) (Sb : Nat → Prop) (hb : BytesAt w Sb a b) (hbl : b.length ≤ 140737488355328) :
    Calls Try.prog 9 #[.pointer (some ⟨d, 0, none⟩), .string ⟨k.toArray⟩, .slice a b.length c] w (DPost w (newS w S) d m (n + 1) (s.writeE k b) (s.write k b)) := by
  have hrow := one_row w k
  have q1 := alloc_keep noM w (.cells #[.string ⟨k.toArray⟩] 9)
  have hd := lt_of_obj h.disk
  have hm : m < w.heap.size := by obtain ⟨Dm, ⟨es, clock, hb, _⟩, _⟩ := h.map; exact lt_of_obj hb
  have h1 := h.keep q1 (fun _ _ => not_noM _) (not_noM _) (not_noM _)
  have hc2 := h1.cells.2.2.1
  obtain ⟨z, hz0⟩ : ∃ z, z = namesE s.dead [k] := ⟨_, rfl⟩
  have HZ := mkHid hz0
  have HH := mkHid (And.intro hrow (And.intro ho (And.intro ho' (And.intro hn (And.intro hk (And.intro hc2 (And.intro hb (And.intro hbl (And.intro h (And.intro h1 (And.intro hd hm)))))))))))
  clear hrow ho ho' hn hk hc2 hb hbl h h1 hz0 q1 hd hm
  go_enter Try.func9, Try.ntmps9
  go_wp2_with fail
  obtain ⟨hrow, ho, ho', hn, hk, hc2, hb, hbl, h, h1, hd, hm⟩ := HH.out
  refine (names_any d s.dead _ [k] 1 _ _ hc2 hrow (one_ok hk) (by unfold maxLen; simp)).mono ?_
  rintro e w1 ⟨rfl, hw⟩
  have q1 : Keep noM w w1 := by rw [← hw]; exact alloc_keep _ _ _
  clear hw hrow ho ho' hn hk hc2 hb hbl h h1 hd hm
  rw [← HZ.out]
  have Q := mkHid q1
  clear q1
  by_cases hz : z = 0
  · have hz1 : (z != 0) = false := by simp [hz]
    have hz2 : (z == 0) = true := by simp [hz]
    have HE := mkHid hz
    clear hz
    go_wp2_with fail
    obtain ⟨hrow, ho, ho', hn, hk, hc2, hb, hbl, h, h1, hd, hm⟩ := HH.out
    refine (cloneB_any a b c Sb _ (hb.keep Q.out (fun _ _ => not_noM _)) hbl).mono ?_
    rintro e w2 ⟨a2, c2, rfl, q2, l1, l2, hb2⟩
    have Q2 := mkHid (And.intro q2 (And.intro l1 (And.intro l2 hb2)))
    clear q2 l1 l2 hb2 hrow ho ho' hn hk hc2 hb hbl h h1 hd hm
    go_wp2_with fail
    obtain ⟨q2, l1, l2, hb2⟩ := Q2.out
    obtain ⟨hrow, ho, ho', hn, hk, hc2, hb, hbl, h, h1, hd, hm⟩ := HH.out
    have q3 : Keep noM w w2 := Q.out.trans q2
    have hs1 := Q.out.size
    have h2 : DiskAt w2 (fun x => newS w S x ∧ x < w2.heap.size) d m n s :=
      (h.keep q3 (fun _ _ => not_noM _) (not_noM _) (not_noM _)).mono (fun x hx hs => ⟨.inl hs, hx⟩) (fun hh => hh.1.elim h.nd (by omega)) (fun hh => hh.1.elim h.nm (by omega))
    refine (put_any w2 _ (fun x hx => hx.2) d m n s h2 ho ho' hn k b hk a2 c2 (hb2.mono (fun x hx hs => ⟨.inr (by omega), hx⟩)) l1 l2).mono ?_
    rintro e w3 ⟨rfl, K, D⟩
    clear hrow ho ho' hn hk hc2 hb hbl h h1 hd hm q2 l1 l2 hb2 h2
    have HK := mkHid (And.intro K (And.intro D q3))
    clear K D q3
    go_wp2
    go_ret
    obtain ⟨K, D, q3⟩ := HK.out
    obtain ⟨hrow, ho, ho', hn, hk, hc2, hb, hbl, h, h1, hd, hm⟩ := HH.out
    refine ⟨by simp [DS.writeE, ← HZ.out, HE.out], (keepAll q3).trans K, ?_⟩
    rw [show s.write k b = s.putB k b by simp [DS.write, ← HZ.out, HE.out]]
    exact D.mono (fun x _ hx => hx.1) (fun hh => hh.elim h.nd (by omega)) (fun hh => hh.elim h.nm (by omega))
  · have hz1 : (z != 0) = true := by simp [hz]
    have hz2 : (z == 0) = false := by simp [hz]
    have HE := mkHid hz
    clear hz
    go_wp2
    go_ret
    obtain ⟨hrow, ho, ho', hn, hk, hc2, hb, hbl, h, h1, hd, hm⟩ := HH.out
    refine ⟨by simp [DS.writeE, ← HZ.out, HE.out], keepAll Q.out, ?_⟩
    rw [show s.write k b = s by simp [DS.write, ← HZ.out, HE.out]]
    exact ((h.keep Q.out (fun _ _ => not_noM _) (not_noM _) (not_noM _)).mono (fun x hx hs => .inl hs) (fun hh => hh.elim h.nd (by omega)) (fun hh => hh.elim h.nm (by omega))).more (by omega)

theorem fieldFile0 (u v : Value) (W : World) : (Instr.field 52 (.agg #[u, v]) 0).run Try.prog W = .ok u W := by kernel_rfl

/-- what Read hands back. -/
def ReadPost (w : World) (s : DS) (k : Bs) (e : Ending) (w' : World) : Prop :=
  ∃ a c, e = .returned (.tuple #[.slice a (look s k).1.length c, .int .i64 (if (s.f k).isSome then 0 else 11)]) ∧ Keep noM w w' ∧ (look s k).1.length ≤ c ∧ c ≤ maxLen ∧ BytesAt w' (fun b => w.heap.size ≤ b) a (look s k).1

set_option maxRecDepth 100000 in
set_option maxHeartbeats 800000 in
theorem Read_any (w : World) (S : Nat → Prop) (d m n : Nat) (s : DS) (h : DiskAt w S d m n s) (k : Bs) (hk : k.length ≤ maxLen) :
    Calls Try.prog 12 #[.pointer (some ⟨d, 0, none⟩), .string ⟨k.toArray⟩] w (ReadPost w s k) := by
  have HH := mkHid (And.intro h hk)
  clear h hk
  go_enter Try.func12, Try.ntmps12
  go_wp2_with fail
  refine (there_any w S d m n s HH.out.1 k HH.out.2).mono ?_
  rintro e w1 ⟨rfl, q1⟩
  have Q := mkHid q1
  clear q1
  cases hf : (s.f k).isSome
  · have HF := mkHid hf
    clear hf
    go_wp2
    go_ret2
    have hl : look s k = ([], []) := by have := HF.out; unfold look; cases h : s.f k <;> simp_all
    exact ⟨none, 0, by simp [hl, HF.out], Q.out, by simp [hl], by simp, by rw [hl]; exact .nil _ _ _⟩
  · have HF := mkHid hf
    clear hf
    have h1 := HH.out.1.keep Q.out (fun _ _ => not_noM _) (not_noM _) (not_noM _)
    have hc0 := h1.cells.1
    obtain ⟨v, ⟨a1, n1, a2, n2, rfl, hF⟩, HL⟩ := h1.look k HH.out.2
    have hr := (HL w1 (Keep.refl _ _)).2
    have HX := mkHid hF
    clear h1 hF HL
    have hfield : ∀ (u v : Value) (W : World), (Instr.field 52 (.agg #[u, v]) 0).run Try.prog W = .ok u W := fun u v W => fieldFile0 u v W
    go_wp2_with fail
    obtain ⟨e1, e2, e3, e4, e5, e6, e7, e8⟩ := HX.out
    refine (cloneB_any a1 (look s k).1 n1 S _ e7 (by omega)).mono ?_
    rintro e w2 ⟨a3, c3, rfl, q2, l1, l2, hb2⟩
    have Q2 := mkHid (And.intro q2 (And.intro l1 (And.intro l2 hb2)))
    clear q2 l1 l2 hb2 e1 e2 e3 e4 e5 e6 e7 e8
    go_wp2
    go_ret2
    obtain ⟨q2, l1, l2, hb2⟩ := Q2.out
    exact ⟨a3, c3, by simp [HF.out], Q.out.trans q2, l1, l2, hb2.mono (fun x _ hx => Nat.le_trans Q.out.size hx)⟩

def DS.fuseE (s : DS) : Int := if s.dead then 21 else 0
def DS.setFuse (s : DS) (q : Int) : DS := if s.dead then s else { s with fuse := max q 0 }

set_option maxHeartbeats 400000 in
theorem Fuse_any (w : World) (S : Nat → Prop) (d m n : Nat) (s : DS) (h : DiskAt w S d m n s) (q : Int) (hq : q ≤ 9223372036854775807) :
    Calls Try.prog 28 #[.pointer (some ⟨d, 0, none⟩), .int .i64 q] w (DPost w S d m n s.fuseE (s.setFuse q)) := by
  obtain ⟨c0, c1, c2, c3, f0, f1, f2, f3, hlt⟩ := h.cells
  have H := mkHid (And.intro h hq)
  clear h hq
  obtain ⟨dead, hd⟩ : ∃ b, b = s.dead := ⟨_, rfl⟩
  have HD := mkHid hd
  rw [← hd] at c2
  clear hd
  cases dead
  · by_cases hq : 0 ≤ q
    · go_enter Try.func28, Try.ntmps28
      go_wp2
      all_goals
        go_ret
        have e1 : s.dead = false := HD.out.symm
        have hk : Keep (isB d) w (w.setCell ⟨d, 1, none⟩ (.int .i64 q)) := (Keep.refl (isB d) w).setCell (p := ⟨d, 1, none⟩) (.inl rfl) _
        refine ⟨by simp [DS.fuseE, e1], isB_2 hk, ?_⟩
        rw [show s.setFuse q = { s with fuse := max q 0 } by simp [DS.setFuse, e1]]
        refine H.out.1.recell hk rfl (by simp; omega) (by simp; have := H.out.2; omega) ?_
        rw [heap_set3 H.out.1.disk]; simp [e1]; omega
    · go_enter Try.func28, Try.ntmps28
      go_wp2
      all_goals
        go_ret
        have e1 : s.dead = false := HD.out.symm
        have hk : Keep (isB d) w (w.setCell ⟨d, 1, none⟩ (.int .i64 0)) := (Keep.refl (isB d) w).setCell (p := ⟨d, 1, none⟩) (.inl rfl) _
        refine ⟨by simp [DS.fuseE, e1], isB_2 hk, ?_⟩
        rw [show s.setFuse q = { s with fuse := max q 0 } by simp [DS.setFuse, e1]]
        refine H.out.1.recell hk rfl (by simp; omega) (by simp; have := H.out.2; omega) ?_
        rw [heap_set3 H.out.1.disk]; simp [e1]; omega
  · go_enter Try.func28, Try.ntmps28
    go_wp2
    go_ret
    have e1 : s.dead = true := HD.out.symm
    refine ⟨by simp [DS.fuseE, e1], Keep.refl _ _, ?_⟩
    rw [show s.setFuse q = s by simp [DS.setFuse, e1]]
    exact H.out.1
end Go.Proofs.Ytohbglopgjbfcaa
