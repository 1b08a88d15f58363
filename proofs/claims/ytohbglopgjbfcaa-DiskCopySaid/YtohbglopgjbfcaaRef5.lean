/-
  THE REFERENCE DISK, PART 5: Do of a write (0).
-/
import Derived.Test.YtohbglopgjbfcaaRef4
set_option linter.unusedVariables false
set_option linter.unusedSimpArgs false
namespace Go.Proofs.Ytohbglopgjbfcaa
open Go.RowKit

def RS.preW (x : RS) (nm data : Bs) : Int := if x.dead then 21 else if !word nm then 1 else if 262144 < data.length then 3 else 0
def RS.doW (x : RS) (pre : Int) (L : List RF) : RS := if pre ≠ 0 then x else { x.burn with L := L }
theorem DoPost.stayW {w : World} {S T : Nat → Prop} {bx : Nat} {x : RS} (h : XAt w S T bx x) (hS : ∀ b, S b → b < w.heap.size) (pre : Int) (hp : pre ≠ 0) (L : List RF) : DoPost w S T bx (x.doE pre) (x.doW pre L) (.returned (.int .i64 pre)) w :=
  ⟨by simp [RS.doE, hp], Keep.refl _ _, S, T, fun _ => .inl, hS, fun _ => .inl, by rw [show x.doW pre L = x by simp [RS.doW, hp]]; exact h⟩
theorem DoPost.stayN {w w' : World} {S T : Nat → Prop} {bx : Nat} {x : RS} (h : XAt w S T bx x) (hS : ∀ b, S b → b < w.heap.size) (pre : Int) (hp : pre ≠ 0) (L : List RF) (k : Keep noM w w') : DoPost w S T bx (x.doE pre) (x.doW pre L) (.returned (.int .i64 pre)) w' :=
  ⟨by simp [RS.doE, hp], keepAll k, S, T, fun _ => .inl, fun b hb => Nat.lt_of_lt_of_le (hS b hb) k.size, fun _ => .inl, by rw [show x.doW pre L = x by simp [RS.doW, hp]]; exact h.keep k (fun _ _ => not_noM _)⟩
theorem DoPost.goneW {w w2 : World} {S T S' T' : Nat → Prop} {bx : Nat} {x x' : RS} (L : List RF) (hS : ∀ b, S' b → b < w2.heap.size) (hS' : ∀ b, S' b → S b ∨ w.heap.size ≤ b) (k : Keep (isB bx) w w2) (hT : ∀ b, T' b → T b ∨ w.heap.size ≤ b) (hX : XAt w2 S' T' bx x') (hx : x' = { x.burn with L := L }) :
    DoPost w S T bx (x.doE 0) (x.doW 0 L) (.returned (.int .i64 x.code)) w2 :=
  ⟨by simp [RS.doE], k, S', T', hS', hS, hT, by rw [show x.doW 0 L = x' by rw [hx]; simp [RS.doW]]; exact hX⟩
theorem RS.file_none (x : RS) (nm : Bs) (hf : ¬ findN x.L nm < x.L.length) : x.file nm = ⟨nm, [], []⟩ := by
  have : x.L.find? (fun r => r.name == nm) = none := by
    rw [List.find?_eq_none]
    intro r hr e
    exact hf (List.findIdx_lt_length_of_exists ⟨r, hr, e⟩)
  simp [RS.file, this]

set_option maxRecDepth 100000 in
set_option maxHeartbeats 4000000 in
theorem rdo0_any (w : World) (S T : Nat → Prop) (hS : ∀ b, S b → b < w.heap.size) (bx : Nat) (x : RS) (h : XAt w S T bx x) (hl : x.L.length ≤ 1000) (ho : 0 ≤ x.ops) (ho' : x.ops ≤ 1000000) (nm : Bs) (hnm : nm.length ≤ maxLen) (ab : Option Addr) (cb : Nat) (bs : Bs) (hbs : BytesAt w S ab bs) (hcb : bs.length ≤ cb) (hcm : cb ≤ maxLen) :
    Calls Try.prog 25 #[.pointer (some ⟨bx, 0, none⟩), .int .i64 0, .string ⟨nm.toArray⟩, .string ⟨#[]⟩, .slice ab bs.length cb] w (DoPost w S T bx (x.doE (x.preW nm bs)) (x.doW (x.preW nm bs) (putL x.L ⟨nm, bs, (x.file nm).safe⟩))) := by
  obtain ⟨a, n, cap, c0, c1, c2, c3, f1, f2, f3⟩ := h.mem
  have hbx := h.lt
  have hne : bx ≠ w.heap.size := by omega
  have hne' : w.heap.size ≠ bx := by omega
  have HH := mkHid (And.intro h (And.intro hS (And.intro hl (And.intro ho ho'))))
  have HBS := mkHid (And.intro hbs (And.intro hcb hcm))
  have q0 := h.fuse0
  have q1 := h.fuse1
  obtain ⟨dead, hd⟩ : ∃ d, d = x.dead := ⟨_, rfl⟩
  rw [← hd] at c2
  have HD := mkHid hd
  clear h hS hl hd hbs hcb hcm
  cases dead
  · go_enter Try.func25, Try.ntmps25
    go_wp2_with fail
    refine (RWord_any nm hnm _).mono ?_
    rintro e w1 ⟨rfl, rfl⟩
    obtain ⟨wd, hwd⟩ : ∃ b, b = word nm := ⟨_, rfl⟩
    rw [← hwd]
    have HW := mkHid hwd
    clear hwd
    cases wd
    · go_wp2
      go_ret
      rw [show x.preW nm bs = 1 by simp [RS.preW, ← HD.out, ← HW.out]]
      exact DoPost.stayW HH.out.1 HH.out.2.1 1 (by decide) _
    · go_wp2_with fail
      refine (find_any w S T bx x HH.out.1 (by have := HH.out.2.2.1; omega) nm hnm).mono ?_
      rintro e w1 ⟨rfl, rfl⟩
      by_cases hf : findN x.L nm < x.L.length
      · rw [show findI x.L nm = (findN x.L nm : Int) by simp [findI, hf]]
        obtain ⟨b, off, n', cap', y, c0', hlt, hbl, hok, hfn, e0, e1, e2⟩ := HH.out.1.found nm hf
        rw [c0] at c0'
        simp at c0'
        obtain ⟨rfl, rfl, rfl⟩ := c0'
        have HF := mkHid (And.intro hf (And.intro hok hfn))
        clear hf hok hfn
        obtain ⟨fi, hfi⟩ : ∃ fi, fi = findN x.L nm := ⟨_, rfl⟩
        rw [← hfi] at e0 e1 e2 hlt ⊢
        have hbne : b ≠ w.heap.size := by omega
        have HFI := mkHid hfi
        clear hfi
        by_cases hbl2 : bs.length ≤ 262144
        · have hpre : x.preW nm bs = 0 := by simp [RS.preW, ← HD.out, ← HW.out]; omega
          have HPR := mkHid hpre
          have HB2 := mkHid hbl2
          clear hpre
          by_cases hz : x.fuse = 0
          · rw [hz] at c1
            have HZ := mkHid hz
            clear hz q0 q1
            have hbt : x.burnt = false := by simp [RS.burnt, HZ.out]
            have hcd : x.code = 0 := by simp [RS.code, hbt]
            have HB := mkHid (And.intro hbt hcd)
            clear hbt hcd
            obtain ⟨kb, xb⟩ := HH.out.1.burn0 HZ.out
            have HXB := mkHid (And.intro kb xb)
            clear kb xb
            go_wp2_with fail
            refine (rput_any _ S T (fun b hb => Nat.lt_of_lt_of_le (HH.out.2.1 b hb) ((HXB.out.1.alloc (.cells #[.string ⟨nm.toArray⟩, .slice ab bs.length cb, .slice y.a2 ((x.file nm).safe : Bs).length y.c2] 75)).size)) bx x.burn (HXB.out.2.keep (alloc_keep noM _ (.cells #[.string ⟨nm.toArray⟩, .slice ab bs.length cb, .slice y.a2 ((x.file nm).safe : Bs).length y.c2] 75)) (fun _ _ => not_noM _)) (by have := HH.out.2.2.1; simp only [RS.burn]; omega) ⟨nm, bs, (x.file nm).safe⟩ ⟨ab, cb, y.a2, y.c2⟩ ⟨hnm, HB2.out, HF.out.2.1.l2, HBS.out.2.1, HF.out.2.1.k2, HBS.out.2.2, HF.out.2.1.m2, HBS.out.1.keep (HXB.out.1.alloc (.cells #[.string ⟨nm.toArray⟩, .slice ab bs.length cb, .slice y.a2 ((x.file nm).safe : Bs).length y.c2] 75)) (fun b hb e => HH.out.1.nx (e ▸ hb)), HF.out.2.1.b2.keep (HXB.out.1.alloc (.cells #[.string ⟨nm.toArray⟩, .slice ab bs.length cb, .slice y.a2 ((x.file nm).safe : Bs).length y.c2] 75)) (fun b hb e => HH.out.1.nx (e ▸ hb))⟩).mono ?_
            rintro e w2 ⟨rfl, K2, T', hT', X2⟩
            have HX2 := mkHid (And.intro K2 (And.intro hT' X2))
            clear K2 hT' X2
            go_wp2
            go_ret
            rw [HPR.out]
            have hfin := DoPost.goneW (w := w) (S := S) (T := T) (x := x) (putL x.L ⟨nm, bs, (x.file nm).safe⟩) (fun b hb => Nat.lt_of_lt_of_le (HH.out.2.1 b hb) (((HXB.out.1.alloc (.cells #[.string ⟨nm.toArray⟩, .slice ab bs.length cb, .slice y.a2 ((x.file nm).safe : Bs).length y.c2] 75)).trans HX2.out.1).size)) (fun b => .inl) ((HXB.out.1.alloc (.cells #[.string ⟨nm.toArray⟩, .slice ab bs.length cb, .slice y.a2 ((x.file nm).safe : Bs).length y.c2] 75)).trans HX2.out.1) (fun b hb => .inr (Nat.le_trans (HXB.out.1.alloc (.cells #[.string ⟨nm.toArray⟩, .slice ab bs.length cb, .slice y.a2 ((x.file nm).safe : Bs).length y.c2] 75)).size (HX2.out.2.1 b hb))) HX2.out.2.2 (by simp [RS.burn])
            rw [HB.out.2] at hfin
            exact hfin
          · by_cases h1 : x.fuse = 1
            · rw [h1] at c1
              have HZ := mkHid h1
              clear hz h1 q0 q1
              have hbt : x.burnt = true := by simp [RS.burnt, HZ.out]
              have hcd : x.code = 21 := by simp [RS.code, hbt]
              have HB := mkHid (And.intro hbt hcd)
              clear hbt hcd
              obtain ⟨kb, xb⟩ := HH.out.1.burn1 HZ.out
              have HXB := mkHid (And.intro kb xb)
              clear kb xb
              go_wp2_with fail
              refine (rput_any _ S T (fun b hb => Nat.lt_of_lt_of_le (HH.out.2.1 b hb) ((HXB.out.1.alloc (.cells #[.string ⟨nm.toArray⟩, .slice ab bs.length cb, .slice y.a2 ((x.file nm).safe : Bs).length y.c2] 75)).size)) bx x.burn (HXB.out.2.keep (alloc_keep noM _ (.cells #[.string ⟨nm.toArray⟩, .slice ab bs.length cb, .slice y.a2 ((x.file nm).safe : Bs).length y.c2] 75)) (fun _ _ => not_noM _)) (by have := HH.out.2.2.1; simp only [RS.burn]; omega) ⟨nm, bs, (x.file nm).safe⟩ ⟨ab, cb, y.a2, y.c2⟩ ⟨hnm, HB2.out, HF.out.2.1.l2, HBS.out.2.1, HF.out.2.1.k2, HBS.out.2.2, HF.out.2.1.m2, HBS.out.1.keep (HXB.out.1.alloc (.cells #[.string ⟨nm.toArray⟩, .slice ab bs.length cb, .slice y.a2 ((x.file nm).safe : Bs).length y.c2] 75)) (fun b hb e => HH.out.1.nx (e ▸ hb)), HF.out.2.1.b2.keep (HXB.out.1.alloc (.cells #[.string ⟨nm.toArray⟩, .slice ab bs.length cb, .slice y.a2 ((x.file nm).safe : Bs).length y.c2] 75)) (fun b hb e => HH.out.1.nx (e ▸ hb))⟩).mono ?_
              rintro e w2 ⟨rfl, K2, T', hT', X2⟩
              have HX2 := mkHid (And.intro K2 (And.intro hT' X2))
              clear K2 hT' X2
              go_wp2
              go_ret
              rw [HPR.out]
              have hfin := DoPost.goneW (w := w) (S := S) (T := T) (x := x) (putL x.L ⟨nm, bs, (x.file nm).safe⟩) (fun b hb => Nat.lt_of_lt_of_le (HH.out.2.1 b hb) (((HXB.out.1.alloc (.cells #[.string ⟨nm.toArray⟩, .slice ab bs.length cb, .slice y.a2 ((x.file nm).safe : Bs).length y.c2] 75)).trans HX2.out.1).size)) (fun b => .inl) ((HXB.out.1.alloc (.cells #[.string ⟨nm.toArray⟩, .slice ab bs.length cb, .slice y.a2 ((x.file nm).safe : Bs).length y.c2] 75)).trans HX2.out.1) (fun b hb => .inr (Nat.le_trans (HXB.out.1.alloc (.cells #[.string ⟨nm.toArray⟩, .slice ab bs.length cb, .slice y.a2 ((x.file nm).safe : Bs).length y.c2] 75)).size (HX2.out.2.1 b hb))) HX2.out.2.2 (by simp [RS.burn])
              rw [HB.out.2] at hfin
              exact hfin
            · have hg : 1 < x.fuse := by omega
              obtain ⟨z, hzz⟩ : ∃ z, z = x.fuse := ⟨_, rfl⟩
              rw [← hzz] at c1
              have z1 : (z - 1 == 0) = false := by rw [hzz]; simp; omega
              have z2 : 1 < z := by omega
              have z3 : z ≤ 9223372036854775807 := by omega
              have HZ := mkHid hg
              have hbt : x.burnt = false := by simp [RS.burnt]; omega
              have hcd : x.code = 0 := by simp [RS.code, hbt]
              have HB := mkHid (And.intro hbt hcd)
              have HZZ := mkHid hzz
              clear hz h1 hg q0 q1 hbt hcd hzz
              obtain ⟨kb, xb⟩ := HH.out.1.burn2 HZ.out
              have HXB := mkHid (And.intro kb xb)
              clear kb xb
              go_wp2_with fail
              try rw [HZZ.out]
              refine (rput_any _ S T (fun b hb => Nat.lt_of_lt_of_le (HH.out.2.1 b hb) ((HXB.out.1.alloc (.cells #[.string ⟨nm.toArray⟩, .slice ab bs.length cb, .slice y.a2 ((x.file nm).safe : Bs).length y.c2] 75)).size)) bx x.burn (HXB.out.2.keep (alloc_keep noM _ (.cells #[.string ⟨nm.toArray⟩, .slice ab bs.length cb, .slice y.a2 ((x.file nm).safe : Bs).length y.c2] 75)) (fun _ _ => not_noM _)) (by have := HH.out.2.2.1; simp only [RS.burn]; omega) ⟨nm, bs, (x.file nm).safe⟩ ⟨ab, cb, y.a2, y.c2⟩ ⟨hnm, HB2.out, HF.out.2.1.l2, HBS.out.2.1, HF.out.2.1.k2, HBS.out.2.2, HF.out.2.1.m2, HBS.out.1.keep (HXB.out.1.alloc (.cells #[.string ⟨nm.toArray⟩, .slice ab bs.length cb, .slice y.a2 ((x.file nm).safe : Bs).length y.c2] 75)) (fun b hb e => HH.out.1.nx (e ▸ hb)), HF.out.2.1.b2.keep (HXB.out.1.alloc (.cells #[.string ⟨nm.toArray⟩, .slice ab bs.length cb, .slice y.a2 ((x.file nm).safe : Bs).length y.c2] 75)) (fun b hb e => HH.out.1.nx (e ▸ hb))⟩).mono ?_
              rintro e w2 ⟨rfl, K2, T', hT', X2⟩
              have HX2 := mkHid (And.intro K2 (And.intro hT' X2))
              clear K2 hT' X2
              go_wp2
              go_ret
              rw [HPR.out]
              have hfin := DoPost.goneW (w := w) (S := S) (T := T) (x := x) (putL x.L ⟨nm, bs, (x.file nm).safe⟩) (fun b hb => Nat.lt_of_lt_of_le (HH.out.2.1 b hb) (((HXB.out.1.alloc (.cells #[.string ⟨nm.toArray⟩, .slice ab bs.length cb, .slice y.a2 ((x.file nm).safe : Bs).length y.c2] 75)).trans HX2.out.1).size)) (fun b => .inl) ((HXB.out.1.alloc (.cells #[.string ⟨nm.toArray⟩, .slice ab bs.length cb, .slice y.a2 ((x.file nm).safe : Bs).length y.c2] 75)).trans HX2.out.1) (fun b hb => .inr (Nat.le_trans (HXB.out.1.alloc (.cells #[.string ⟨nm.toArray⟩, .slice ab bs.length cb, .slice y.a2 ((x.file nm).safe : Bs).length y.c2] 75)).size (HX2.out.2.1 b hb))) HX2.out.2.2 (by simp [RS.burn])
              rw [HB.out.2] at hfin
              exact hfin
        · have hpre : x.preW nm bs = 3 := by simp [RS.preW, ← HD.out, ← HW.out]; omega
          have HPR := mkHid hpre
          clear hpre
          go_wp2
          go_ret
          rw [HPR.out]
          exact DoPost.stayN HH.out.1 HH.out.2.1 3 (by decide) _ (alloc_keep _ _ _)
      · rw [show findI x.L nm = -1 by simp [findI, hf]]
        have hnf := x.file_none nm hf
        have HNF := mkHid (show (x.file nm).safe = [] by rw [hnf])
        clear hf hnf
        by_cases hbl2 : bs.length ≤ 262144
        · have hpre : x.preW nm bs = 0 := by simp [RS.preW, ← HD.out, ← HW.out]; omega
          have HPR := mkHid hpre
          have HB2 := mkHid hbl2
          clear hpre
          by_cases hz : x.fuse = 0
          · rw [hz] at c1
            have HZ := mkHid hz
            clear hz q0 q1
            have hbt : x.burnt = false := by simp [RS.burnt, HZ.out]
            have hcd : x.code = 0 := by simp [RS.code, hbt]
            have HB := mkHid (And.intro hbt hcd)
            clear hbt hcd
            obtain ⟨kb, xb⟩ := HH.out.1.burn0 HZ.out
            have HXB := mkHid (And.intro kb xb)
            clear kb xb
            go_wp2_with fail
            refine (rput_any _ S T (fun b hb => Nat.lt_of_lt_of_le (HH.out.2.1 b hb) ((HXB.out.1.alloc (.cells #[.string ⟨nm.toArray⟩, .slice ab bs.length cb, .slice none ([] : Bs).length 0] 75)).size)) bx x.burn (HXB.out.2.keep (alloc_keep noM _ (.cells #[.string ⟨nm.toArray⟩, .slice ab bs.length cb, .slice none ([] : Bs).length 0] 75)) (fun _ _ => not_noM _)) (by have := HH.out.2.2.1; simp only [RS.burn]; omega) ⟨nm, bs, []⟩ ⟨ab, cb, none, 0⟩ ⟨hnm, HB2.out, by simp, HBS.out.2.1, by simp, HBS.out.2.2, by simp, HBS.out.1.keep (HXB.out.1.alloc (.cells #[.string ⟨nm.toArray⟩, .slice ab bs.length cb, .slice none ([] : Bs).length 0] 75)) (fun b hb e => HH.out.1.nx (e ▸ hb)), .nil _ _ _⟩).mono ?_
            rintro e w2 ⟨rfl, K2, T', hT', X2⟩
            have HX2 := mkHid (And.intro K2 (And.intro hT' X2))
            clear K2 hT' X2
            go_wp2
            go_ret
            rw [HPR.out]
            have hfin := DoPost.goneW (w := w) (S := S) (T := T) (x := x) (putL x.L ⟨nm, bs, []⟩) (fun b hb => Nat.lt_of_lt_of_le (HH.out.2.1 b hb) (((HXB.out.1.alloc (.cells #[.string ⟨nm.toArray⟩, .slice ab bs.length cb, .slice none ([] : Bs).length 0] 75)).trans HX2.out.1).size)) (fun b => .inl) ((HXB.out.1.alloc (.cells #[.string ⟨nm.toArray⟩, .slice ab bs.length cb, .slice none ([] : Bs).length 0] 75)).trans HX2.out.1) (fun b hb => .inr (Nat.le_trans (HXB.out.1.alloc (.cells #[.string ⟨nm.toArray⟩, .slice ab bs.length cb, .slice none ([] : Bs).length 0] 75)).size (HX2.out.2.1 b hb))) HX2.out.2.2 (by simp [RS.burn])
            rw [HB.out.2] at hfin
            rw [HNF.out]
            exact hfin
          · by_cases h1 : x.fuse = 1
            · rw [h1] at c1
              have HZ := mkHid h1
              clear hz h1 q0 q1
              have hbt : x.burnt = true := by simp [RS.burnt, HZ.out]
              have hcd : x.code = 21 := by simp [RS.code, hbt]
              have HB := mkHid (And.intro hbt hcd)
              clear hbt hcd
              obtain ⟨kb, xb⟩ := HH.out.1.burn1 HZ.out
              have HXB := mkHid (And.intro kb xb)
              clear kb xb
              go_wp2_with fail
              refine (rput_any _ S T (fun b hb => Nat.lt_of_lt_of_le (HH.out.2.1 b hb) ((HXB.out.1.alloc (.cells #[.string ⟨nm.toArray⟩, .slice ab bs.length cb, .slice none ([] : Bs).length 0] 75)).size)) bx x.burn (HXB.out.2.keep (alloc_keep noM _ (.cells #[.string ⟨nm.toArray⟩, .slice ab bs.length cb, .slice none ([] : Bs).length 0] 75)) (fun _ _ => not_noM _)) (by have := HH.out.2.2.1; simp only [RS.burn]; omega) ⟨nm, bs, []⟩ ⟨ab, cb, none, 0⟩ ⟨hnm, HB2.out, by simp, HBS.out.2.1, by simp, HBS.out.2.2, by simp, HBS.out.1.keep (HXB.out.1.alloc (.cells #[.string ⟨nm.toArray⟩, .slice ab bs.length cb, .slice none ([] : Bs).length 0] 75)) (fun b hb e => HH.out.1.nx (e ▸ hb)), .nil _ _ _⟩).mono ?_
              rintro e w2 ⟨rfl, K2, T', hT', X2⟩
              have HX2 := mkHid (And.intro K2 (And.intro hT' X2))
              clear K2 hT' X2
              go_wp2
              go_ret
              rw [HPR.out]
              have hfin := DoPost.goneW (w := w) (S := S) (T := T) (x := x) (putL x.L ⟨nm, bs, []⟩) (fun b hb => Nat.lt_of_lt_of_le (HH.out.2.1 b hb) (((HXB.out.1.alloc (.cells #[.string ⟨nm.toArray⟩, .slice ab bs.length cb, .slice none ([] : Bs).length 0] 75)).trans HX2.out.1).size)) (fun b => .inl) ((HXB.out.1.alloc (.cells #[.string ⟨nm.toArray⟩, .slice ab bs.length cb, .slice none ([] : Bs).length 0] 75)).trans HX2.out.1) (fun b hb => .inr (Nat.le_trans (HXB.out.1.alloc (.cells #[.string ⟨nm.toArray⟩, .slice ab bs.length cb, .slice none ([] : Bs).length 0] 75)).size (HX2.out.2.1 b hb))) HX2.out.2.2 (by simp [RS.burn])
              rw [HB.out.2] at hfin
              rw [HNF.out]
              exact hfin
            · have hg : 1 < x.fuse := by omega
              obtain ⟨z, hzz⟩ : ∃ z, z = x.fuse := ⟨_, rfl⟩
              rw [← hzz] at c1
              have z1 : (z - 1 == 0) = false := by rw [hzz]; simp; omega
              have z2 : 1 < z := by omega
              have z3 : z ≤ 9223372036854775807 := by omega
              have HZ := mkHid hg
              have hbt : x.burnt = false := by simp [RS.burnt]; omega
              have hcd : x.code = 0 := by simp [RS.code, hbt]
              have HB := mkHid (And.intro hbt hcd)
              have HZZ := mkHid hzz
              clear hz h1 hg q0 q1 hbt hcd hzz
              obtain ⟨kb, xb⟩ := HH.out.1.burn2 HZ.out
              have HXB := mkHid (And.intro kb xb)
              clear kb xb
              go_wp2_with fail
              try rw [HZZ.out]
              refine (rput_any _ S T (fun b hb => Nat.lt_of_lt_of_le (HH.out.2.1 b hb) ((HXB.out.1.alloc (.cells #[.string ⟨nm.toArray⟩, .slice ab bs.length cb, .slice none ([] : Bs).length 0] 75)).size)) bx x.burn (HXB.out.2.keep (alloc_keep noM _ (.cells #[.string ⟨nm.toArray⟩, .slice ab bs.length cb, .slice none ([] : Bs).length 0] 75)) (fun _ _ => not_noM _)) (by have := HH.out.2.2.1; simp only [RS.burn]; omega) ⟨nm, bs, []⟩ ⟨ab, cb, none, 0⟩ ⟨hnm, HB2.out, by simp, HBS.out.2.1, by simp, HBS.out.2.2, by simp, HBS.out.1.keep (HXB.out.1.alloc (.cells #[.string ⟨nm.toArray⟩, .slice ab bs.length cb, .slice none ([] : Bs).length 0] 75)) (fun b hb e => HH.out.1.nx (e ▸ hb)), .nil _ _ _⟩).mono ?_
              rintro e w2 ⟨rfl, K2, T', hT', X2⟩
              have HX2 := mkHid (And.intro K2 (And.intro hT' X2))
              clear K2 hT' X2
              go_wp2
              go_ret
              rw [HPR.out]
              have hfin := DoPost.goneW (w := w) (S := S) (T := T) (x := x) (putL x.L ⟨nm, bs, []⟩) (fun b hb => Nat.lt_of_lt_of_le (HH.out.2.1 b hb) (((HXB.out.1.alloc (.cells #[.string ⟨nm.toArray⟩, .slice ab bs.length cb, .slice none ([] : Bs).length 0] 75)).trans HX2.out.1).size)) (fun b => .inl) ((HXB.out.1.alloc (.cells #[.string ⟨nm.toArray⟩, .slice ab bs.length cb, .slice none ([] : Bs).length 0] 75)).trans HX2.out.1) (fun b hb => .inr (Nat.le_trans (HXB.out.1.alloc (.cells #[.string ⟨nm.toArray⟩, .slice ab bs.length cb, .slice none ([] : Bs).length 0] 75)).size (HX2.out.2.1 b hb))) HX2.out.2.2 (by simp [RS.burn])
              rw [HB.out.2] at hfin
              rw [HNF.out]
              exact hfin
        · have hpre : x.preW nm bs = 3 := by simp [RS.preW, ← HD.out, ← HW.out]; omega
          have HPR := mkHid hpre
          clear hpre
          go_wp2
          go_ret
          rw [HPR.out]
          exact DoPost.stayN HH.out.1 HH.out.2.1 3 (by decide) _ (alloc_keep _ _ _)
  · go_enter Try.func25, Try.ntmps25
    go_wp2
    go_ret
    rw [show x.preW nm bs = 21 by simp [RS.preW, ← HD.out]]
    exact DoPost.stayW HH.out.1 HH.out.2.1 21 (by decide) _
end Go.Proofs.Ytohbglopgjbfcaa
