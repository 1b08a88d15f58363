/-
  suretylaw17.do, PART 3: the kinds 7, 8. (printed by wip/sh/gen_do3.py)
-/
import Derived.Test.YtohbglopgjbfcaaDo2
set_option linter.unusedVariables false
set_option linter.unusedSimpArgs false
namespace Go.Proofs.Ytohbglopgjbfcaa
open Go.RowKit

def RS.setFuse (x : RS) (q : Int) : RS := if x.dead then x else { x with fuse := max q 0 }
theorem RS.setFuse_dead (x : RS) (q : Int) (h : x.dead = true) : x.setFuse q = x := by simp [RS.setFuse, h]
/-- the reference's fuse is laid. -/
theorem joint_rfuse {w0 w : World} {d m bx c : Nat} {s : DS} {x : RS} (h : Joint w0 w d m bx s x c) (q : Int) (z : Int) (hz : z = max q 0) (hq : q ≤ 9223372036854775807) (hd : x.dead = false) :
    Joint w0 (w.setCell ⟨bx, 1, none⟩ (.int .i64 z)) d m bx s (x.setFuse q) (c + 1) := by
  obtain ⟨n, Sd, Sx, T, hn, hD, hX, hSd, hSx, hT, hA⟩ := h.st
  have k : Keep (isB bx) w (w.setCell ⟨bx, 1, none⟩ (.int .i64 z)) := (Keep.refl (isB bx) w).setCell (p := ⟨bx, 1, none⟩) (.inl rfl) _
  have hx : x.setFuse q = { x with fuse := max q 0 } := by simp [RS.setFuse, hd]
  have p0 := h.p0
  refine h.refTurn hn hD hX hSd hSx hT k (fun b e => .inl e) (S' := Sx) (T' := T) (fun b hb => .inl hb) (fun b hb => by have := (hSx b hb).1; have := k.size; omega) (fun b hb => .inl hb) ?_ ?_ ?_ ?_
  · refine hX.recell k (by rw [hx]) (by rw [hx]; simp; omega) (by rw [hx]; simp; omega) fun a n cap hb => ?_
    rw [heap_set3 hb, hx, hz]; simp
  · rw [hx]; exact p0
  · rw [hx]; simp only; omega
  · rw [hx]; simp
theorem Joint.more {w0 w : World} {d m bx c c' : Nat} {s : DS} {x : RS} (h : Joint w0 w d m bx s x c) (hc : c ≤ c') : Joint w0 w d m bx s x c' := by
  obtain ⟨n, Sd, Sx, T, hn, hr⟩ := h.st
  exact ⟨h.kp, h.hd, h.hm, h.hx, h.nd, h.nm, ⟨n, Sd, Sx, T, Nat.le_trans hn hc, hr⟩, h.o0, by have := h.o1; omega, h.p0, by have := h.p1; omega, Nat.le_trans h.len hc⟩

set_option maxRecDepth 100000 in
set_option maxHeartbeats 8000000 in
theorem do7_dead (w0 w : World) (d m bx c : Nat) (s : DS) (x : RS) (h : Joint w0 w d m bx s x c) (hc : c ≤ 800) (a : ActV) (hok : ActOk w (fun b => b < w0.heap.size) a) (hfit : a.fit) (hk : pick a.kind 9 = 7) (hdx : x.dead = true) :
    Calls Try.prog 11 #[.pointer (some ⟨d, 0, none⟩), .pointer (some ⟨bx, 0, none⟩), .agg a.cells.toArray] w (DoEndB w0 d m bx (s.setFuse a.q) (x.setFuse a.q) (c + 2) (decide (s.fuseE = 21))) := by
  have HH := mkHid (And.intro h (And.intro hok (And.intro hk hfit)))
  have k0 := hok.k0
  have k1 := hok.k1
  obtain ⟨kd, nm, to, ab, cb, bs, q⟩ := a
  obtain ⟨x0, x1, x2, x3, x4⟩ := abox5 w (.int .i64 kd) (.string ⟨nm.toArray⟩) (.string ⟨to.toArray⟩) (.slice ab bs.length cb) (.int .i64 q) 36
  obtain ⟨W, hW⟩ : ∃ W, W = w.alloc (.cells #[.int .i64 kd, .string ⟨nm.toArray⟩, .string ⟨to.toArray⟩, .slice ab bs.length cb, .int .i64 q] 36) := ⟨_, rfl⟩
  rw [← hW] at x0 x1 x2 x3 x4
  have kW : Keep noM w W := by rw [hW]; exact alloc_keep _ _ _
  have JW := mkHid (h.keep kW)
  have HB := mkHid (hok.b.keep kW (fun _ _ => not_noM _))
  have HW := mkHid (And.intro kW (show W.heap.size = w.heap.size + 1 by rw [hW]; simp))
  simp only [ActV.cells] at k0 k1 ⊢
  clear h hok hfit
  go_enter Try.func11, Try.ntmps11
  go_wp2_with fail
  rw [← hW]
  clear hW
  refine (choose_any kd W k0 k1).mono ?_
  rintro e w1 ⟨rfl, rfl⟩
  rw [show pick kd 9 = 7 from HH.out.2.2.1]
  clear hk kW
  have hnd : ¬ isB2 d m w.heap.size := by
    obtain ⟨n, Sd, Sx, T, hn, hD, _⟩ := HH.out.1.st
    have := hD.lt
    unfold isB2; omega
  have hna : ∀ b, b < w0.heap.size → ¬ isB2 d m b := fun b hb => by have := HH.out.1.hd; have := HH.out.1.hm; unfold isB2; omega
  have hnx : w.heap.size ≠ bx := by
    obtain ⟨n, Sd, Sx, T, hn, hD, hX, _⟩ := HH.out.1.st
    have := hX.lt
    omega
  have HN := mkHid (And.intro hnd (And.intro hna hnx))
  clear hnd hna hnx
  have HXd := mkHid hdx
  clear hdx
  go_wp2_with fail
  refine (joint_fuse JW.out (by omega) q HH.out.2.1.q1).mono ?_
  rintro e w2 ⟨rfl, K2, J2⟩
  have HK2 := mkHid K2
  have J2 := mkHid J2
  clear K2
  obtain ⟨n9, Sd9, Sx9, T9, hn9, hD9, hX9, hSd9, hSx9, hT9, hA9⟩ := J2.out.st
  obtain ⟨xa, xn, xc, m0, m1, m2, m3, g1, g2, g3⟩ := hX9.mem
  rw [HXd.out] at m2
  have y4 := HK2.out.cell (M := isB2 d m) (p := ⟨w.heap.size, 4, none⟩) HN.out.1 x4
  clear hD9 hX9 hSd9 hSx9 hT9 hA9 hn9 x0 x1 x2 x3 x4
  go_wp2
  go_ret
  refine ⟨ret_bool ?_, ?_⟩
  · rw [Bool.eq_iff_iff, beq_iff_eq, decide_eq_true_iff]
  · rw [RS.setFuse_dead x q HXd.out]; exact J2.out.more (by omega)

set_option maxRecDepth 100000 in
set_option maxHeartbeats 8000000 in
theorem do7_pos (w0 w : World) (d m bx c : Nat) (s : DS) (x : RS) (h : Joint w0 w d m bx s x c) (hc : c ≤ 800) (a : ActV) (hok : ActOk w (fun b => b < w0.heap.size) a) (hfit : a.fit) (hk : pick a.kind 9 = 7) (hdx : x.dead = false) (hq0 : 0 ≤ a.q) :
    Calls Try.prog 11 #[.pointer (some ⟨d, 0, none⟩), .pointer (some ⟨bx, 0, none⟩), .agg a.cells.toArray] w (DoEndB w0 d m bx (s.setFuse a.q) (x.setFuse a.q) (c + 2) (decide (s.fuseE = 0))) := by
  have HH := mkHid (And.intro h (And.intro hok (And.intro hk hfit)))
  have k0 := hok.k0
  have k1 := hok.k1
  obtain ⟨kd, nm, to, ab, cb, bs, q⟩ := a
  obtain ⟨x0, x1, x2, x3, x4⟩ := abox5 w (.int .i64 kd) (.string ⟨nm.toArray⟩) (.string ⟨to.toArray⟩) (.slice ab bs.length cb) (.int .i64 q) 36
  obtain ⟨W, hW⟩ : ∃ W, W = w.alloc (.cells #[.int .i64 kd, .string ⟨nm.toArray⟩, .string ⟨to.toArray⟩, .slice ab bs.length cb, .int .i64 q] 36) := ⟨_, rfl⟩
  rw [← hW] at x0 x1 x2 x3 x4
  have kW : Keep noM w W := by rw [hW]; exact alloc_keep _ _ _
  have JW := mkHid (h.keep kW)
  have HB := mkHid (hok.b.keep kW (fun _ _ => not_noM _))
  have HW := mkHid (And.intro kW (show W.heap.size = w.heap.size + 1 by rw [hW]; simp))
  simp only [ActV.cells] at k0 k1 ⊢
  clear h hok hfit
  go_enter Try.func11, Try.ntmps11
  go_wp2_with fail
  rw [← hW]
  clear hW
  refine (choose_any kd W k0 k1).mono ?_
  rintro e w1 ⟨rfl, rfl⟩
  rw [show pick kd 9 = 7 from HH.out.2.2.1]
  clear hk kW
  have hnd : ¬ isB2 d m w.heap.size := by
    obtain ⟨n, Sd, Sx, T, hn, hD, _⟩ := HH.out.1.st
    have := hD.lt
    unfold isB2; omega
  have hna : ∀ b, b < w0.heap.size → ¬ isB2 d m b := fun b hb => by have := HH.out.1.hd; have := HH.out.1.hm; unfold isB2; omega
  have hnx : w.heap.size ≠ bx := by
    obtain ⟨n, Sd, Sx, T, hn, hD, hX, _⟩ := HH.out.1.st
    have := hX.lt
    omega
  have HN := mkHid (And.intro hnd (And.intro hna hnx))
  clear hnd hna hnx
  have HXd := mkHid hdx
  clear hdx
  go_wp2_with fail
  refine (joint_fuse JW.out (by omega) q HH.out.2.1.q1).mono ?_
  rintro e w2 ⟨rfl, K2, J2⟩
  have HK2 := mkHid K2
  have J2 := mkHid J2
  clear K2
  obtain ⟨n9, Sd9, Sx9, T9, hn9, hD9, hX9, hSd9, hSx9, hT9, hA9⟩ := J2.out.st
  obtain ⟨xa, xn, xc, m0, m1, m2, m3, g1, g2, g3⟩ := hX9.mem
  rw [HXd.out] at m2
  have y4 := HK2.out.cell (M := isB2 d m) (p := ⟨w.heap.size, 4, none⟩) HN.out.1 x4
  clear hD9 hX9 hSd9 hSx9 hT9 hA9 hn9 x0 x1 x2 x3 x4
  go_wp2
  go_ret
  refine ⟨ret_bool ?_, ?_⟩
  · rw [Bool.eq_iff_iff, beq_iff_eq, decide_eq_true_iff]
  · exact joint_rfuse J2.out q q (by omega) HH.out.2.1.q1 HXd.out

set_option maxRecDepth 100000 in
set_option maxHeartbeats 8000000 in
theorem do7_neg (w0 w : World) (d m bx c : Nat) (s : DS) (x : RS) (h : Joint w0 w d m bx s x c) (hc : c ≤ 800) (a : ActV) (hok : ActOk w (fun b => b < w0.heap.size) a) (hfit : a.fit) (hk : pick a.kind 9 = 7) (hdx : x.dead = false) (hq0 : a.q < 0) :
    Calls Try.prog 11 #[.pointer (some ⟨d, 0, none⟩), .pointer (some ⟨bx, 0, none⟩), .agg a.cells.toArray] w (DoEndB w0 d m bx (s.setFuse a.q) (x.setFuse a.q) (c + 2) (decide (s.fuseE = 0))) := by
  have HH := mkHid (And.intro h (And.intro hok (And.intro hk hfit)))
  have k0 := hok.k0
  have k1 := hok.k1
  obtain ⟨kd, nm, to, ab, cb, bs, q⟩ := a
  obtain ⟨x0, x1, x2, x3, x4⟩ := abox5 w (.int .i64 kd) (.string ⟨nm.toArray⟩) (.string ⟨to.toArray⟩) (.slice ab bs.length cb) (.int .i64 q) 36
  obtain ⟨W, hW⟩ : ∃ W, W = w.alloc (.cells #[.int .i64 kd, .string ⟨nm.toArray⟩, .string ⟨to.toArray⟩, .slice ab bs.length cb, .int .i64 q] 36) := ⟨_, rfl⟩
  rw [← hW] at x0 x1 x2 x3 x4
  have kW : Keep noM w W := by rw [hW]; exact alloc_keep _ _ _
  have JW := mkHid (h.keep kW)
  have HB := mkHid (hok.b.keep kW (fun _ _ => not_noM _))
  have HW := mkHid (And.intro kW (show W.heap.size = w.heap.size + 1 by rw [hW]; simp))
  simp only [ActV.cells] at k0 k1 ⊢
  clear h hok hfit
  go_enter Try.func11, Try.ntmps11
  go_wp2_with fail
  rw [← hW]
  clear hW
  refine (choose_any kd W k0 k1).mono ?_
  rintro e w1 ⟨rfl, rfl⟩
  rw [show pick kd 9 = 7 from HH.out.2.2.1]
  clear hk kW
  have hnd : ¬ isB2 d m w.heap.size := by
    obtain ⟨n, Sd, Sx, T, hn, hD, _⟩ := HH.out.1.st
    have := hD.lt
    unfold isB2; omega
  have hna : ∀ b, b < w0.heap.size → ¬ isB2 d m b := fun b hb => by have := HH.out.1.hd; have := HH.out.1.hm; unfold isB2; omega
  have hnx : w.heap.size ≠ bx := by
    obtain ⟨n, Sd, Sx, T, hn, hD, hX, _⟩ := HH.out.1.st
    have := hX.lt
    omega
  have HN := mkHid (And.intro hnd (And.intro hna hnx))
  clear hnd hna hnx
  have HXd := mkHid hdx
  clear hdx
  go_wp2_with fail
  refine (joint_fuse JW.out (by omega) q HH.out.2.1.q1).mono ?_
  rintro e w2 ⟨rfl, K2, J2⟩
  have HK2 := mkHid K2
  have J2 := mkHid J2
  clear K2
  obtain ⟨n9, Sd9, Sx9, T9, hn9, hD9, hX9, hSd9, hSx9, hT9, hA9⟩ := J2.out.st
  obtain ⟨xa, xn, xc, m0, m1, m2, m3, g1, g2, g3⟩ := hX9.mem
  rw [HXd.out] at m2
  have y4 := HK2.out.cell (M := isB2 d m) (p := ⟨w.heap.size, 4, none⟩) HN.out.1 x4
  clear hD9 hX9 hSd9 hSx9 hT9 hA9 hn9 x0 x1 x2 x3 x4
  go_wp2
  go_ret
  refine ⟨ret_bool ?_, ?_⟩
  · rw [Bool.eq_iff_iff, beq_iff_eq, decide_eq_true_iff]
  · exact joint_rfuse J2.out q 0 (by omega) HH.out.2.1.q1 HXd.out

set_option maxRecDepth 100000 in
set_option maxHeartbeats 8000000 in
theorem do8_any (w0 w : World) (d m bx c : Nat) (s : DS) (x : RS) (h : Joint w0 w d m bx s x c) (hc : c ≤ 800) (a : ActV) (hok : ActOk w (fun b => b < w0.heap.size) a) (hfit : a.fit) (hk : pick a.kind 9 = 8) :
    Calls Try.prog 11 #[.pointer (some ⟨d, 0, none⟩), .pointer (some ⟨bx, 0, none⟩), .agg a.cells.toArray] w (DoEndB w0 d m bx (s.boot a.q) (x.boot a.q) (c + 2) true) := by
  have HH := mkHid (And.intro h (And.intro hok (And.intro hk hfit)))
  have k0 := hok.k0
  have k1 := hok.k1
  obtain ⟨kd, nm, to, ab, cb, bs, q⟩ := a
  obtain ⟨x0, x1, x2, x3, x4⟩ := abox5 w (.int .i64 kd) (.string ⟨nm.toArray⟩) (.string ⟨to.toArray⟩) (.slice ab bs.length cb) (.int .i64 q) 36
  obtain ⟨W, hW⟩ : ∃ W, W = w.alloc (.cells #[.int .i64 kd, .string ⟨nm.toArray⟩, .string ⟨to.toArray⟩, .slice ab bs.length cb, .int .i64 q] 36) := ⟨_, rfl⟩
  rw [← hW] at x0 x1 x2 x3 x4
  have kW : Keep noM w W := by rw [hW]; exact alloc_keep _ _ _
  have JW := mkHid (h.keep kW)
  have HB := mkHid (hok.b.keep kW (fun _ _ => not_noM _))
  have HW := mkHid (And.intro kW (show W.heap.size = w.heap.size + 1 by rw [hW]; simp))
  simp only [ActV.cells] at k0 k1 ⊢
  clear h hok hfit
  go_enter Try.func11, Try.ntmps11
  go_wp2_with fail
  rw [← hW]
  clear hW
  refine (choose_any kd W k0 k1).mono ?_
  rintro e w1 ⟨rfl, rfl⟩
  rw [show pick kd 9 = 8 from HH.out.2.2.1]
  clear hk kW
  have hnd : ¬ isB2 d m w.heap.size := by
    obtain ⟨n, Sd, Sx, T, hn, hD, _⟩ := HH.out.1.st
    have := hD.lt
    unfold isB2; omega
  have hna : ∀ b, b < w0.heap.size → ¬ isB2 d m b := fun b hb => by have := HH.out.1.hd; have := HH.out.1.hm; unfold isB2; omega
  have hnx : w.heap.size ≠ bx := by
    obtain ⟨n, Sd, Sx, T, hn, hD, hX, _⟩ := HH.out.1.st
    have := hX.lt
    omega
  have HN := mkHid (And.intro hnd (And.intro hna hnx))
  clear hnd hna hnx
  go_wp2_with fail
  refine (joint_boot JW.out (by omega) q HH.out.2.1.q0 HH.out.2.1.q1).mono ?_
  rintro e w2 ⟨rfl, K2, J2⟩
  have y4 := K2.cell (M := isB2 d m) (p := ⟨w.heap.size, 4, none⟩) HN.out.1 x4
  have J2 := mkHid J2
  clear K2 x0 x1 x2 x3 x4
  go_wp2_with fail
  refine (joint_rboot J2.out (by omega) q HH.out.2.1.q0 HH.out.2.1.q1).mono ?_
  rintro e w3 ⟨rfl, K3, J3⟩
  have J3 := mkHid J3
  clear K3
  go_wp2
  go_ret
  exact ⟨rfl, J3.out⟩
end Go.Proofs.Ytohbglopgjbfcaa
