/-
  THE DISK, PART 7: Append.
-/
import Derived.Test.YtohbglopgjbfcaaDisk6
import Derived.Test.YtohbglopgjbfcaaConcat
namespace Go.Proofs.Ytohbglopgjbfcaa
open Go.RowKit Go.Maps

def DS.appendE (s : DS) (k b : Bs) : Int := if namesE s.dead [k] ≠ 0 then namesE s.dead [k] else s.putE ((look s k).1 ++ b)
def DS.append (s : DS) (k b : Bs) : DS := if namesE s.dead [k] ≠ 0 then s else s.putB k ((look s k).1 ++ b)

theorem cell_new2 (w : World) (u v : Value) (t : TypeId) : RowAt (w.alloc (.cells #[u, v] t)) (fun _ => True) (some ⟨w.heap.size, 0, none⟩) [u, v] :=
  RowAt.of_row (heap_alloc_new w _) trivial (by simp)

set_option maxRecDepth 100000 in
set_option maxHeartbeats 800000 in
theorem Append_any (w : World) (S : Nat → Prop) (d m n : Nat) (s : DS) (h : DiskAt w S d m n s) (ho : 0 ≤ s.ops) (ho' : s.ops ≤ 1000000) (hn : n ≤ 1000000) (k b : Bs) (hk : k.length ≤ maxLen) (a : Option Addr) (c : Nat) (Sb : Nat → Prop) (hb : BytesAt w Sb a b) (hbl : b.length ≤ 70368744177664) :
    Calls Try.prog 15 #[.pointer (some ⟨d, 0, none⟩), .string ⟨k.toArray⟩, .slice a b.length c] w (DPost w (newS w S) d m (n + 1) (s.appendE k b) (s.append k b)) := by
  have hrow := one_row w k
  have q1 := alloc_keep noM w (.cells #[.string ⟨k.toArray⟩] 9)
  have hd := lt_of_obj h.disk
  have hm : m < w.heap.size := by obtain ⟨Dm, ⟨es, clock, hb, _⟩, _⟩ := h.map; exact lt_of_obj hb
  have h1 := h.keep q1 (fun _ _ => not_noM _) (not_noM _) (not_noM _)
  have hc2 := h1.cells.2.2.1
  obtain ⟨z, hz0⟩ : ∃ z, z = namesE s.dead [k] := ⟨_, rfl⟩
  have HZ := mkHid hz0
  have HH := mkHid (And.intro hrow (And.intro ho (And.intro ho' (And.intro hn (And.intro hk (And.intro hc2 (And.intro hb (And.intro hbl (And.intro h (And.intro h1 (And.intro hd hm)))))))))))
  clear hrow ho ho' hn hk hc2 hb hbl h h1 hz0 q1 hd hm
  go_enter Try.func15, Try.ntmps15
  go_wp2_with fail
  obtain ⟨hrow, ho, ho', hn, hk, hc2, hb, hbl, h, h1, hd, hm⟩ := HH.out
  refine (names_any d s.dead _ [k] 1 _ _ hc2 hrow (one_ok hk) (by unfold maxLen; simp)).mono ?_
  rintro e w1 ⟨rfl, hw⟩
  have q1 : Keep noM w w1 := by rw [← hw]; exact alloc_keep _ _ _
  clear hw hrow ho ho' hn hk hc2 hb hbl h h1 hd hm
  rw [← HZ.out]
  have Q := mkHid q1
  clear q1
  by_cases hz : z = 0
  · have hz1 : (z != 0) = false := by simp [hz]
    have hz2 : (z == 0) = true := by simp [hz]
    have HE := mkHid hz
    clear hz
    obtain ⟨_, ho, ho', hn, hk, _, hb, hbl, h, _, hd, hm⟩ := HH.out
    have h2 := h.keep Q.out (fun _ _ => not_noM _) (not_noM _) (not_noM _)
    have hc0 := h2.cells.1
    obtain ⟨v, ⟨a1, n1, a2, n2, rfl, hF⟩, HL⟩ := h2.look k hk
    have hr := (HL w1 (Keep.refl _ _)).2
    have hb1 := hb.keep Q.out (fun _ _ => not_noM _)
    have hfield : ∀ (u v : Value) (W : World), (Instr.field 52 (.agg #[u, v]) 0).run Try.prog W = .ok u W := fun u v W => fieldFile0 u v W
    have q3 := alloc_keep noM w1 (.cells #[.slice a1 (look s k).1.length n1, .slice a b.length c] 23)
    have hrow2 := cell_new2 w1 (.slice a1 (look s k).1.length n1) (.slice a b.length c) 23
    obtain ⟨e1, e2, e3, e4, e5, e6, e7, e8⟩ := hF
    have HX := mkHid (And.intro (And.intro e5 (And.intro (e7.keep q3 (fun _ _ => not_noM _)) (hb1.keep q3 (fun _ _ => not_noM _)))) (And.intro q3 hrow2))
    clear ho ho' hn hk hb hbl h hd hm h2 e1 e2 e3 e4 e5 e6 e7 e8 HL hb1 q3 hrow2
    go_wp2_with fail
    obtain ⟨⟨e5, e7, hb1⟩, q3, hrow2⟩ := HX.out
    obtain ⟨_, ho, ho', hn, hk, _, hb, hbl, h, _, hd, hm⟩ := HH.out
    have hcc := concatB_any (some ⟨w1.heap.size, 0, none⟩) [(a1, n1, (look s k).1), (a, c, b)] 2 (fun _ => True) (fun x => S x ∨ Sb x) (w1.alloc (.cells #[.slice a1 (look s k).1.length n1, .slice a b.length c] 23)) (by simpa [pcells] using hrow2)
      (by intro x hx; simp at hx; rcases hx with rfl | rfl
          · exact e7.mono (fun _ _ h => .inl h)
          · exact hb1.mono (fun _ _ h => .inr h)) (by unfold maxLen; simp) (by simp [pbytes]; omega)
    simp only [pbytes, List.map_cons, List.map_nil, List.flatten_cons, List.flatten_nil, List.append_nil] at hcc
    refine hcc.mono ?_
    rintro e w2 ⟨a3, c3, rfl, q2, l1, l2, hb2⟩
    have Q2 := mkHid (And.intro (q3.trans q2) (And.intro l1 (And.intro l2 (hb2.mono (S' := fun b => w1.heap.size ≤ b) (fun x _ hx => by simp at hx; omega)))))
    clear q2 l1 l2 hb2 e5 e7 hb1 q3 hrow2 ho ho' hn hk hb hbl h hd hm hcc
    go_wp2_with fail
    obtain ⟨q2, l1, l2, hb2⟩ := Q2.out
    obtain ⟨_, ho, ho', hn, hk, _, hb, hbl, h, _, hd, hm⟩ := HH.out
    have q3 : Keep noM w w2 := Q.out.trans q2
    have hs1 := Q.out.size
    have h2 : DiskAt w2 (fun x => newS w S x ∧ x < w2.heap.size) d m n s :=
      (h.keep q3 (fun _ _ => not_noM _) (not_noM _) (not_noM _)).mono (fun x hx hs => ⟨.inl hs, hx⟩) (fun hh => hh.1.elim h.nd (by omega)) (fun hh => hh.1.elim h.nm (by omega))
    have hpt := put_any w2 _ (fun x hx => hx.2) d m n s h2 ho ho' hn k ((look s k).1 ++ b) hk a3 c3 (hb2.mono (fun x hx hs => ⟨.inr (by omega), hx⟩)) l1 l2
    rw [List.length_append] at hpt
    refine hpt.mono ?_
    rintro e w3 ⟨rfl, K, D⟩
    clear ho ho' hn hk hb hbl h hd hm q2 l1 l2 hb2 h2 hpt
    have HK := mkHid (And.intro K (And.intro D q3))
    clear K D q3
    go_wp2
    go_ret
    obtain ⟨K, D, q3⟩ := HK.out
    obtain ⟨_, ho, ho', hn, hk, _, hb, hbl, h, _, hd, hm⟩ := HH.out
    refine ⟨by simp [DS.appendE, ← HZ.out, HE.out], (keepAll q3).trans K, ?_⟩
    rw [show s.append k b = s.putB k ((look s k).1 ++ b) by simp [DS.append, ← HZ.out, HE.out]]
    exact D.mono (fun x _ hx => hx.1) (fun hh => hh.elim h.nd (by omega)) (fun hh => hh.elim h.nm (by omega))
  · have hz1 : (z != 0) = true := by simp [hz]
    have hz2 : (z == 0) = false := by simp [hz]
    have HE := mkHid hz
    clear hz
    go_wp2
    go_ret
    obtain ⟨hrow, ho, ho', hn, hk, hc2, hb, hbl, h, h1, hd, hm⟩ := HH.out
    refine ⟨by simp [DS.appendE, ← HZ.out, HE.out], keepAll Q.out, ?_⟩
    rw [show s.append k b = s by simp [DS.append, ← HZ.out, HE.out]]
    exact ((h.keep Q.out (fun _ _ => not_noM _) (not_noM _) (not_noM _)).mono (fun x hx hs => .inl hs) (fun hh => hh.elim h.nd (by omega)) (fun hh => hh.elim h.nm (by omega))).more (by omega)
end Go.Proofs.Ytohbglopgjbfcaa
