/-
  suretylaw17.do, PART 4: the kinds 0, 1: what is written is a copy, whose source turns. (printed by wip/sh/gen_do3.py)
-/
import Derived.Test.YtohbglopgjbfcaaDo2
import Derived.Test.YtohbglopgjbfcaaAppB
import Derived.Laws.OwnMore
set_option linter.unusedVariables false
set_option linter.unusedSimpArgs false
namespace Go.Proofs.Ytohbglopgjbfcaa
open Go.RowKit

/-- bytes of one's own are turned, and the row stays. -/
theorem flip_own {w3 wr : World} {base g cap : Nat} {bs : Bs} {j : Nat} (hj : j < bs.length) (kp : Keep (isB g) w3 wr) (xs : Bs) (hl : xs.length = bs.length) (own : wr.ownsRow base 5 1 (.slice (some ⟨g, 0, none⟩) bs.length cap) bs.length (bcells xs)) (v : UInt8) :
    Keep (isB g) w3 (wr.setCell ⟨g, j, none⟩ (.int .u8 v.toNat)) ∧ (wr.setCell ⟨g, j, none⟩ (.int .u8 v.toNat)).ownsRow base 5 1 (.slice (some ⟨g, 0, none⟩) bs.length cap) bs.length (bcells (xs.set j v)) := by
  obtain ⟨h1, h2⟩ := own.stored j (.int .u8 v.toNat)
  refine ⟨kp.setCell (p := ⟨g, j, none⟩) (.inl rfl) _, ?_⟩
  rw [show bcells (xs.set j v) = (bcells xs).set j (.int .u8 v.toNat) by simp [bcells, List.map_set]]
  exact h1
theorem xor_all : ∀ n : Fin 256, ∃ k : Fin 256, bits BinOp.xor IntKind.u8 (n.val : Nat) 255 = ((k.val : Nat) : Int) := by decide +kernel
theorem xor_byte (c : UInt8) : ∃ v : UInt8, bits BinOp.xor IntKind.u8 c.toNat 255 = v.toNat := by
  obtain ⟨k, hk⟩ := xor_all ⟨c.toNat, c.toNat_lt⟩
  exact ⟨⟨⟨k.val, k.isLt⟩⟩, hk⟩
/-- the loop's own state. -/
def Flips (w3 wr : World) (base : Nat) (v : Value) (n : Nat) : Prop := ∃ xs : Bs, xs.length = n ∧ wr.ownsRow base 5 1 v n (bcells xs) ∧ Keep (fun b => v.ownBlock = some b) w3 wr

set_option maxRecDepth 100000 in
set_option maxHeartbeats 8000000 in
theorem do0_any (w0 w : World) (d m bx c : Nat) (s : DS) (x : RS) (h : Joint w0 w d m bx s x c) (hc : c ≤ 800) (a : ActV) (hok : ActOk w (fun b => b < w0.heap.size) a) (hfit : a.fit) (hk : pick a.kind 9 = 0) :
    Calls Try.prog 11 #[.pointer (some ⟨d, 0, none⟩), .pointer (some ⟨bx, 0, none⟩), .agg a.cells.toArray] w (DoEndB w0 d m bx (s.write a.name a.b) (x.doW (x.preW a.name a.b) (putL x.L ⟨a.name, a.b, (x.file a.name).safe⟩)) (c + 2) (decide (s.writeE a.name a.b = x.doE (x.preW a.name a.b)))) := by
  have HH := mkHid (And.intro h (And.intro hok (And.intro hk hfit)))
  have k0 := hok.k0
  have k1 := hok.k1
  obtain ⟨kd, nm, to, ab, cb, bs, q⟩ := a
  obtain ⟨x0, x1, x2, x3, x4⟩ := abox5 w (.int .i64 kd) (.string ⟨nm.toArray⟩) (.string ⟨to.toArray⟩) (.slice ab bs.length cb) (.int .i64 q) 36
  obtain ⟨W, hW⟩ : ∃ W, W = w.alloc (.cells #[.int .i64 kd, .string ⟨nm.toArray⟩, .string ⟨to.toArray⟩, .slice ab bs.length cb, .int .i64 q] 36) := ⟨_, rfl⟩
  rw [← hW] at x0 x1 x2 x3 x4
  have kW : Keep noM w W := by rw [hW]; exact alloc_keep _ _ _
  have JW := mkHid (h.keep kW)
  have HB := mkHid (hok.b.keep kW (fun _ _ => not_noM _))
  have HW := mkHid (And.intro kW (show W.heap.size = w.heap.size + 1 by rw [hW]; simp))
  simp only [ActV.cells] at k0 k1 ⊢
  clear h hok hfit
  go_enter Try.func11, Try.ntmps11
  go_wp2_with fail
  rw [← hW]
  clear hW
  refine (choose_any kd W k0 k1).mono ?_
  rintro e w1 ⟨rfl, rfl⟩
  rw [show pick kd 9 = 0 from HH.out.2.2.1]
  clear hk kW
  have hnd : ¬ isB2 d m w.heap.size := by
    obtain ⟨n, Sd, Sx, T, hn, hD, _⟩ := HH.out.1.st
    have := hD.lt
    unfold isB2; omega
  have hna : ∀ b, b < w0.heap.size → ¬ isB2 d m b := fun b hb => by have := HH.out.1.hd; have := HH.out.1.hm; unfold isB2; omega
  have hnx : w.heap.size ≠ bx := by
    obtain ⟨n, Sd, Sx, T, hn, hD, hX, _⟩ := HH.out.1.st
    have := hX.lt
    omega
  have HN := mkHid (And.intro hnd (And.intro hna hnx))
  clear hnd hna hnx
  have own0 : (W.alloc (.cells #[] 5)).ownsRow W.heap.size 5 1 (.slice (some ⟨W.heap.size, 0, none⟩) 0 0) ([] : Bs).length (bcells []) := World.ownsRow_made W #[] 0 (Nat.le_refl _) (by simp) rfl
  have hb1 := HB.out.keep (alloc_keep noM W (.cells #[] 5)) (fun _ _ => not_noM _)
  have hbz : ([] : Bs).length + bs.length ≤ 140737488355328 := by have : bs.length ≤ 2000 := HH.out.2.2.2.1; simp; omega
  have hsz0 : W.heap.size ≤ (W.alloc (.cells #[] 5)).heap.size := by simp
  have x3a : (W.alloc (.cells #[] 5)).cell? ⟨w.heap.size, 3, none⟩ = some (.slice ab bs.length cb) := (World.cell?_alloc_past (w := W) (.cells #[] 5) w.heap.size 3 (by have := HW.out.2; omega)).trans x3
  go_wp2_with (at_builtin; first
    | (refine wpList_appendB rfl _ _ rfl W.heap.size (.slice (some ⟨W.heap.size, 0, none⟩) 0 0) [] rfl own0 ab cb bs rfl _ hb1 hbz hsz0 ?_; intro v2 w2 own2 k2
       rw [List.nil_append] at own2
       have kk2 : Keep noM W w2 := (alloc_keep noM W (.cells #[] 5)).trans' k2 (fun i hi e => by simp [Value.ownBlock] at e; omega)
       obtain ⟨a2, c2, rfl, l1, l2, l3⟩ := owned_shape own2
       have y1 := kk2.cell (M := noM) (not_noM _) x1
       have y3 := kk2.cell (M := noM) (not_noM _) x3
       have HK2 := mkHid (And.intro kk2 (And.intro own2 (And.intro l1 (And.intro l2 l3))))
       clear kk2 own2 l1 l2 l3 k2 own0 hb1 hbz hsz0 x0 x1 x2 x3 x4 x3a))
  obtain ⟨n, Sd, Sx, T, hn, hD, hX, hSd, hSx, hT, hA⟩ := JW.out.st
  have HS := mkHid (And.intro hn (And.intro hD (And.intro hX (And.intro hSd (And.intro hSx (And.intro hT hA))))))
  clear hn hD hX hSd hSx hT hA
  refine (Write_any w2 Sd d m n s (HS.out.2.1.keep HK2.out.1 (fun _ _ => not_noM _) (not_noM _) (not_noM _)) JW.out.o0 (by have := JW.out.o1; omega) (by have := HS.out.1; omega) nm bs HH.out.2.1.nm a2 c2 _ HK2.out.2.2.2.2 (by have : bs.length ≤ 2000 := HH.out.2.2.2.1; omega)).mono ?_
  rintro e w3 ⟨rfl, K3, D3⟩
  have hW2 : W.heap.size ≤ w2.heap.size := HK2.out.1.size
  have hblk : ∀ b, (Value.slice a2 bs.length c2).ownBlock = some b → W.heap.size ≤ b ∧ b < w2.heap.size := fun b e => by
    have := HK2.out.2.1.lt b e; exact ⟨this.1, this.2⟩
  have hn2 : ∀ b, (Value.slice a2 bs.length c2).ownBlock = some b → ¬ isB2 d m b := fun b e => by
    have := (hblk b e).1; have := HS.out.2.1.lt; unfold isB2; omega
  have hwd : w.heap.size < W.heap.size := by have := HW.out.2; omega
  have z1 := K3.cell (M := isB2 d m) (p := ⟨w.heap.size, 1, none⟩) HN.out.1 y1
  have z3 := K3.cell (M := isB2 d m) (p := ⟨w.heap.size, 3, none⟩) HN.out.1 y3
  have own3 := ownsRow_keep HK2.out.2.1 K3 hn2
  have HK3 := mkHid (And.intro K3 (And.intro D3 (And.intro own3 (And.intro hblk hW2))))
  have h20 : bs.length ≤ 2000 := HH.out.2.2.2.1
  clear K3 D3 own3 hblk hn2 hW2 y1 y3
  go_wp2_with fail
  go_loopw [9] (fun i wr => ∃ j : Nat, j ≤ bs.length ∧ i = .int .i64 j ∧ Flips w3 wr W.heap.size (.slice a2 bs.length c2) bs.length) (fun i _ => bs.length - (intOf i).toNat)
  case atStart => exact ⟨0, by omega, rfl, bs, rfl, HK3.out.2.2.1, Keep.refl _ _⟩
  case round =>
    obtain ⟨j, hj, rfl, xs, hxl, own, kp⟩ := hrel
    by_cases hlt : j < bs.length
    · obtain ⟨g, hg⟩ : ∃ g, a2 = some ⟨g, 0, none⟩ := by
        rcases own.2 with ⟨e, e2⟩ | ⟨g, cap, cur, e, _⟩
        · exfalso
          omega
        · simp at e; exact ⟨g, e.1⟩
      subst hg
      have hjx : j < xs.length := by omega
      have hc := own.cellAt j (by omega)
      have hf := own.frozenAt j
      rw [List.getElem?_eq_getElem (by simpa using hjx), getElem_bcells] at hc
      obtain ⟨cv, hcv⟩ : ∃ cv, cv = xs[j] := ⟨_, rfl⟩
      rw [← hcv] at hc
      obtain ⟨v, hv⟩ := xor_byte cv
      have hkp : Keep (isB g) w3 wr := kp.mono (fun b _ e => by simp [Value.ownBlock] at e; exact e.symm)
      have FL := mkHid (flip_own hlt hkp xs hxl own v)
      have hxl2 := mkHid hxl
      clear hcv hkp own kp hxl hjx
      go_wp2
      go_roundw
      case rel => exact ⟨j + 1, by omega, by go_num, xs.set j v, by rw [List.length_set]; exact hxl2.out, FL.out.2, FL.out.1.mono (fun b _ e => by simp [Value.ownBlock]; exact e.symm)⟩
      case measure => simp [intOf]; omega
    · have hnw : ¬ (∃ b, (Value.slice a2 bs.length c2).ownBlock = some b ∧ b = w.heap.size) := by
        rintro ⟨b, e, rfl⟩
        have := (HK3.out.2.2.2.1 _ e).1; omega
      have u1 := kp.cell (p := ⟨w.heap.size, 1, none⟩) (fun e => hnw ⟨_, e, rfl⟩) z1
      have u3 := kp.cell (p := ⟨w.heap.size, 3, none⟩) (fun e => hnw ⟨_, e, rfl⟩) z3
      have KF : Keep (isB2 d m) W wr := ((keepAll HK2.out.1).trans HK3.out.1).trans' kp (fun i hi e => by have := (HK3.out.2.2.2.1 i e).1; omega)
      have DF : DiskAt wr (newS w2 Sd) d m (n + 1) (s.write nm bs) := HK3.out.2.1.keep kp (fun b hb e => by
        have h1 := HK3.out.2.2.2.1 b e
        rcases hb with hb | hb
        · have := (HS.out.2.2.2.1 b hb).1; omega
        · omega) (fun e => by have := (HK3.out.2.2.2.1 _ e).1; have := HS.out.2.1.lt; omega) (fun e => by have := (HK3.out.2.2.2.1 _ e).1; have := HS.out.2.1.lt; omega)
      have hq : s.ops ≤ (s.write nm bs).ops ∧ (s.write nm bs).ops ≤ s.ops + 1 := s.ops_write nm bs
      have o0 := JW.out.o0
      have J3 := JW.out.diskTurn HS.out.2.2.1 HS.out.2.2.2.1 HS.out.2.2.2.2.1 HS.out.2.2.2.2.2.1 HS.out.2.2.2.2.2.2 HS.out.2.1.lt KF DF (fun b hb => hb.imp id (fun h => by have := HK3.out.2.2.2.2; omega)) (by have := HS.out.1; omega) (by omega) hq.2
      have HBF := mkHid (HB.out.keep KF (fun b hb => HN.out.2.1 b hb))
      have J3 := mkHid J3
      clear KF DF hq o0 kp own hnw z1 z3
      go_wp2_with fail
      refine (joint_rdo0 J3.out (by omega) nm HH.out.2.1.nm ab cb bs HBF.out HH.out.2.1.cap HH.out.2.1.capm).mono ?_
      rintro e w4 ⟨rfl, K4, J4⟩
      have J4 := mkHid J4
      clear K4
      go_wp2
      go_ret
      refine ⟨ret_bool ?_, J4.out⟩
      rw [Bool.eq_iff_iff, beq_iff_eq, decide_eq_true_iff]

set_option maxRecDepth 100000 in
set_option maxHeartbeats 8000000 in
theorem do1_any (w0 w : World) (d m bx c : Nat) (s : DS) (x : RS) (h : Joint w0 w d m bx s x c) (hc : c ≤ 800) (a : ActV) (hok : ActOk w (fun b => b < w0.heap.size) a) (hfit : a.fit) (hk : pick a.kind 9 = 1) :
    Calls Try.prog 11 #[.pointer (some ⟨d, 0, none⟩), .pointer (some ⟨bx, 0, none⟩), .agg a.cells.toArray] w (DoEndB w0 d m bx (s.write a.name a.b) (x.doW (x.preW a.name a.b) (putL x.L ⟨a.name, a.b, (x.file a.name).safe⟩)) (c + 2) (decide (s.writeE a.name a.b = x.doE (x.preW a.name a.b)))) := by
  have HH := mkHid (And.intro h (And.intro hok (And.intro hk hfit)))
  have k0 := hok.k0
  have k1 := hok.k1
  obtain ⟨kd, nm, to, ab, cb, bs, q⟩ := a
  obtain ⟨x0, x1, x2, x3, x4⟩ := abox5 w (.int .i64 kd) (.string ⟨nm.toArray⟩) (.string ⟨to.toArray⟩) (.slice ab bs.length cb) (.int .i64 q) 36
  obtain ⟨W, hW⟩ : ∃ W, W = w.alloc (.cells #[.int .i64 kd, .string ⟨nm.toArray⟩, .string ⟨to.toArray⟩, .slice ab bs.length cb, .int .i64 q] 36) := ⟨_, rfl⟩
  rw [← hW] at x0 x1 x2 x3 x4
  have kW : Keep noM w W := by rw [hW]; exact alloc_keep _ _ _
  have JW := mkHid (h.keep kW)
  have HB := mkHid (hok.b.keep kW (fun _ _ => not_noM _))
  have HW := mkHid (And.intro kW (show W.heap.size = w.heap.size + 1 by rw [hW]; simp))
  simp only [ActV.cells] at k0 k1 ⊢
  clear h hok hfit
  go_enter Try.func11, Try.ntmps11
  go_wp2_with fail
  rw [← hW]
  clear hW
  refine (choose_any kd W k0 k1).mono ?_
  rintro e w1 ⟨rfl, rfl⟩
  rw [show pick kd 9 = 1 from HH.out.2.2.1]
  clear hk kW
  have hnd : ¬ isB2 d m w.heap.size := by
    obtain ⟨n, Sd, Sx, T, hn, hD, _⟩ := HH.out.1.st
    have := hD.lt
    unfold isB2; omega
  have hna : ∀ b, b < w0.heap.size → ¬ isB2 d m b := fun b hb => by have := HH.out.1.hd; have := HH.out.1.hm; unfold isB2; omega
  have hnx : w.heap.size ≠ bx := by
    obtain ⟨n, Sd, Sx, T, hn, hD, hX, _⟩ := HH.out.1.st
    have := hX.lt
    omega
  have HN := mkHid (And.intro hnd (And.intro hna hnx))
  clear hnd hna hnx
  have own0 : (W.alloc (.cells #[] 5)).ownsRow W.heap.size 5 1 (.slice (some ⟨W.heap.size, 0, none⟩) 0 0) ([] : Bs).length (bcells []) := World.ownsRow_made W #[] 0 (Nat.le_refl _) (by simp) rfl
  have hb1 := HB.out.keep (alloc_keep noM W (.cells #[] 5)) (fun _ _ => not_noM _)
  have hbz : ([] : Bs).length + bs.length ≤ 140737488355328 := by have : bs.length ≤ 2000 := HH.out.2.2.2.1; simp; omega
  have hsz0 : W.heap.size ≤ (W.alloc (.cells #[] 5)).heap.size := by simp
  have x3a : (W.alloc (.cells #[] 5)).cell? ⟨w.heap.size, 3, none⟩ = some (.slice ab bs.length cb) := (World.cell?_alloc_past (w := W) (.cells #[] 5) w.heap.size 3 (by have := HW.out.2; omega)).trans x3
  go_wp2_with (at_builtin; first
    | (refine wpList_appendB rfl _ _ rfl W.heap.size (.slice (some ⟨W.heap.size, 0, none⟩) 0 0) [] rfl own0 ab cb bs rfl _ hb1 hbz hsz0 ?_; intro v2 w2 own2 k2
       rw [List.nil_append] at own2
       have kk2 : Keep noM W w2 := (alloc_keep noM W (.cells #[] 5)).trans' k2 (fun i hi e => by simp [Value.ownBlock] at e; omega)
       obtain ⟨a2, c2, rfl, l1, l2, l3⟩ := owned_shape own2
       have y1 := kk2.cell (M := noM) (not_noM _) x1
       have y3 := kk2.cell (M := noM) (not_noM _) x3
       have HK2 := mkHid (And.intro kk2 (And.intro own2 (And.intro l1 (And.intro l2 l3))))
       clear kk2 own2 l1 l2 l3 k2 own0 hb1 hbz hsz0 x0 x1 x2 x3 x4 x3a))
  obtain ⟨n, Sd, Sx, T, hn, hD, hX, hSd, hSx, hT, hA⟩ := JW.out.st
  have HS := mkHid (And.intro hn (And.intro hD (And.intro hX (And.intro hSd (And.intro hSx (And.intro hT hA))))))
  clear hn hD hX hSd hSx hT hA
  refine (Write_any w2 Sd d m n s (HS.out.2.1.keep HK2.out.1 (fun _ _ => not_noM _) (not_noM _) (not_noM _)) JW.out.o0 (by have := JW.out.o1; omega) (by have := HS.out.1; omega) nm bs HH.out.2.1.nm a2 c2 _ HK2.out.2.2.2.2 (by have : bs.length ≤ 2000 := HH.out.2.2.2.1; omega)).mono ?_
  rintro e w3 ⟨rfl, K3, D3⟩
  have hW2 : W.heap.size ≤ w2.heap.size := HK2.out.1.size
  have hblk : ∀ b, (Value.slice a2 bs.length c2).ownBlock = some b → W.heap.size ≤ b ∧ b < w2.heap.size := fun b e => by
    have := HK2.out.2.1.lt b e; exact ⟨this.1, this.2⟩
  have hn2 : ∀ b, (Value.slice a2 bs.length c2).ownBlock = some b → ¬ isB2 d m b := fun b e => by
    have := (hblk b e).1; have := HS.out.2.1.lt; unfold isB2; omega
  have hwd : w.heap.size < W.heap.size := by have := HW.out.2; omega
  have z1 := K3.cell (M := isB2 d m) (p := ⟨w.heap.size, 1, none⟩) HN.out.1 y1
  have z3 := K3.cell (M := isB2 d m) (p := ⟨w.heap.size, 3, none⟩) HN.out.1 y3
  have own3 := ownsRow_keep HK2.out.2.1 K3 hn2
  have HK3 := mkHid (And.intro K3 (And.intro D3 (And.intro own3 (And.intro hblk hW2))))
  have h20 : bs.length ≤ 2000 := HH.out.2.2.2.1
  clear K3 D3 own3 hblk hn2 hW2 y1 y3
  go_wp2_with fail
  go_loopw [9] (fun i wr => ∃ j : Nat, j ≤ bs.length ∧ i = .int .i64 j ∧ Flips w3 wr W.heap.size (.slice a2 bs.length c2) bs.length) (fun i _ => bs.length - (intOf i).toNat)
  case atStart => exact ⟨0, by omega, rfl, bs, rfl, HK3.out.2.2.1, Keep.refl _ _⟩
  case round =>
    obtain ⟨j, hj, rfl, xs, hxl, own, kp⟩ := hrel
    by_cases hlt : j < bs.length
    · obtain ⟨g, hg⟩ : ∃ g, a2 = some ⟨g, 0, none⟩ := by
        rcases own.2 with ⟨e, e2⟩ | ⟨g, cap, cur, e, _⟩
        · exfalso
          omega
        · simp at e; exact ⟨g, e.1⟩
      subst hg
      have hjx : j < xs.length := by omega
      have hc := own.cellAt j (by omega)
      have hf := own.frozenAt j
      rw [List.getElem?_eq_getElem (by simpa using hjx), getElem_bcells] at hc
      obtain ⟨cv, hcv⟩ : ∃ cv, cv = xs[j] := ⟨_, rfl⟩
      rw [← hcv] at hc
      obtain ⟨v, hv⟩ := xor_byte cv
      have hkp : Keep (isB g) w3 wr := kp.mono (fun b _ e => by simp [Value.ownBlock] at e; exact e.symm)
      have FL := mkHid (flip_own hlt hkp xs hxl own v)
      have hxl2 := mkHid hxl
      clear hcv hkp own kp hxl hjx
      go_wp2
      go_roundw
      case rel => exact ⟨j + 1, by omega, by go_num, xs.set j v, by rw [List.length_set]; exact hxl2.out, FL.out.2, FL.out.1.mono (fun b _ e => by simp [Value.ownBlock]; exact e.symm)⟩
      case measure => simp [intOf]; omega
    · have hnw : ¬ (∃ b, (Value.slice a2 bs.length c2).ownBlock = some b ∧ b = w.heap.size) := by
        rintro ⟨b, e, rfl⟩
        have := (HK3.out.2.2.2.1 _ e).1; omega
      have u1 := kp.cell (p := ⟨w.heap.size, 1, none⟩) (fun e => hnw ⟨_, e, rfl⟩) z1
      have u3 := kp.cell (p := ⟨w.heap.size, 3, none⟩) (fun e => hnw ⟨_, e, rfl⟩) z3
      have KF : Keep (isB2 d m) W wr := ((keepAll HK2.out.1).trans HK3.out.1).trans' kp (fun i hi e => by have := (HK3.out.2.2.2.1 i e).1; omega)
      have DF : DiskAt wr (newS w2 Sd) d m (n + 1) (s.write nm bs) := HK3.out.2.1.keep kp (fun b hb e => by
        have h1 := HK3.out.2.2.2.1 b e
        rcases hb with hb | hb
        · have := (HS.out.2.2.2.1 b hb).1; omega
        · omega) (fun e => by have := (HK3.out.2.2.2.1 _ e).1; have := HS.out.2.1.lt; omega) (fun e => by have := (HK3.out.2.2.2.1 _ e).1; have := HS.out.2.1.lt; omega)
      have hq : s.ops ≤ (s.write nm bs).ops ∧ (s.write nm bs).ops ≤ s.ops + 1 := s.ops_write nm bs
      have o0 := JW.out.o0
      have J3 := JW.out.diskTurn HS.out.2.2.1 HS.out.2.2.2.1 HS.out.2.2.2.2.1 HS.out.2.2.2.2.2.1 HS.out.2.2.2.2.2.2 HS.out.2.1.lt KF DF (fun b hb => hb.imp id (fun h => by have := HK3.out.2.2.2.2; omega)) (by have := HS.out.1; omega) (by omega) hq.2
      have HBF := mkHid (HB.out.keep KF (fun b hb => HN.out.2.1 b hb))
      have J3 := mkHid J3
      clear KF DF hq o0 kp own hnw z1 z3
      go_wp2_with fail
      refine (joint_rdo0 J3.out (by omega) nm HH.out.2.1.nm ab cb bs HBF.out HH.out.2.1.cap HH.out.2.1.capm).mono ?_
      rintro e w4 ⟨rfl, K4, J4⟩
      have J4 := mkHid J4
      clear K4
      go_wp2
      go_ret
      refine ⟨ret_bool ?_, J4.out⟩
      rw [Bool.eq_iff_iff, beq_iff_eq, decide_eq_true_iff]
end Go.Proofs.Ytohbglopgjbfcaa
