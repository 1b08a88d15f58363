/-
  suretylaw17.do, PART 2: the kinds 2, 3, 4, 5, 6. (printed by wip/sh/gen_do2.py)
-/
import Derived.Test.YtohbglopgjbfcaaJoint2
import Derived.Deep.RegionHeld3
set_option linter.unusedVariables false
set_option linter.unusedSimpArgs false
namespace Go.Proofs.Ytohbglopgjbfcaa
open Go.RowKit

/-- what an act comes to, and its answer. -/
def DoEndB (w0 : World) (d m bx : Nat) (s' : DS) (x' : RS) (c : Nat) (r : Bool) (e : Ending) (w' : World) : Prop :=
  e = .returned (.bool r) ∧ Joint w0 w' d m bx s' x' c

set_option maxRecDepth 100000 in
set_option maxHeartbeats 8000000 in
theorem do3_any (w0 w : World) (d m bx c : Nat) (s : DS) (x : RS) (h : Joint w0 w d m bx s x c) (hc : c ≤ 800) (a : ActV) (hok : ActOk w (fun b => b < w0.heap.size) a) (hfit : a.fit) (hk : pick a.kind 9 = 3) :
    Calls Try.prog 11 #[.pointer (some ⟨d, 0, none⟩), .pointer (some ⟨bx, 0, none⟩), .agg a.cells.toArray] w (DoEndB w0 d m bx (s.doS (s.preE [a.name] a.name) (s.f.put a.name ((look s a.name).1, (look s a.name).1))) (x.doS (x.pre 2 a.name []) (putL x.L ⟨a.name, (x.file a.name).data, (x.file a.name).data⟩)) (c + 2) (decide ((s.doE (s.preE [a.name] a.name)) = (x.doE (x.pre 2 a.name []))))) := by
  have HH := mkHid (And.intro h (And.intro hok (And.intro hk hfit)))
  have k0 := hok.k0
  have k1 := hok.k1
  obtain ⟨kd, nm, to, ab, cb, bs, q⟩ := a
  obtain ⟨x0, x1, x2, x3, x4⟩ := abox5 w (.int .i64 kd) (.string ⟨nm.toArray⟩) (.string ⟨to.toArray⟩) (.slice ab bs.length cb) (.int .i64 q) 36
  obtain ⟨W, hW⟩ : ∃ W, W = w.alloc (.cells #[.int .i64 kd, .string ⟨nm.toArray⟩, .string ⟨to.toArray⟩, .slice ab bs.length cb, .int .i64 q] 36) := ⟨_, rfl⟩
  rw [← hW] at x0 x1 x2 x3 x4
  have kW : Keep noM w W := by rw [hW]; exact alloc_keep _ _ _
  have JW := mkHid (h.keep kW)
  have HB := mkHid (hok.b.keep (kW.trans ((Keep.refl noM W).drew)) (fun _ _ => not_noM _))
  simp only [ActV.cells] at k0 k1 ⊢
  clear h hok hfit
  go_enter Try.func11, Try.ntmps11
  go_wp2_with fail
  rw [← hW]
  clear hW
  refine (choose_any kd W k0 k1).mono ?_
  rintro e w1 ⟨rfl, rfl⟩
  rw [show pick kd 9 = 3 from HH.out.2.2.1]
  clear hk kW
  go_wp2_with fail
  have hnd : ¬ isB2 d m w.heap.size := by
    obtain ⟨n, Sd, Sx, T, hn, hD, _⟩ := HH.out.1.st
    have := hD.lt
    unfold isB2; omega
  have hna : ∀ b, b < w0.heap.size → ¬ isB2 d m b := fun b hb => by have := HH.out.1.hd; have := HH.out.1.hm; unfold isB2; omega
  have hnx : w.heap.size ≠ bx := by
    obtain ⟨n, Sd, Sx, T, hn, hD, hX, _⟩ := HH.out.1.st
    have := hX.lt
    omega
  have HN := mkHid (And.intro hnd (And.intro hna hnx))
  clear hnd hna hnx
  have q1 : W.drew.cell? ⟨w.heap.size, 1, none⟩ = some (.string ⟨nm.toArray⟩) := (World.cell?_drew W _).trans x1
  have q2 : W.drew.cell? ⟨w.heap.size, 2, none⟩ = some (.string ⟨to.toArray⟩) := (World.cell?_drew W _).trans x2
  have q3 : W.drew.cell? ⟨w.heap.size, 3, none⟩ = some (.slice ab bs.length cb) := (World.cell?_drew W _).trans x3
  clear x0 x1 x2 x3 x4
  go_region_held3 (fun w' => w'.cell? ⟨w.heap.size, 1, none⟩ = some (.string ⟨nm.toArray⟩) ∧ w'.cell? ⟨w.heap.size, 2, none⟩ = some (.string ⟨to.toArray⟩) ∧ w'.cell? ⟨w.heap.size, 3, none⟩ = some (.slice ab bs.length cb)) (first | exact ⟨q1, q2, q3⟩ | exact ⟨y1, y2, y3⟩ | exact ⟨z1, z2, z3⟩) (first
    | (go_at_call 10; refine (joint_sync (JW.out.keep ((Keep.refl noM W).drew)) (by omega) nm HH.out.2.1.nm).mono ?_; rintro e w2 ⟨rfl, K2, J2⟩; have y1 := K2.cell (M := isB2 d m) (p := ⟨w.heap.size, 1, none⟩) HN.out.1 q1; have y2 := K2.cell (M := isB2 d m) (p := ⟨w.heap.size, 2, none⟩) HN.out.1 q2; have y3 := K2.cell (M := isB2 d m) (p := ⟨w.heap.size, 3, none⟩) HN.out.1 q3; have HB2 := mkHid (HB.out.keep K2 (fun b hb => HN.out.2.1 b hb)); have J2 := mkHid J2; clear K2)
    | (go_at_call 25; refine (joint_rdo2 J2.out (by omega) nm HH.out.2.1.nm).mono ?_; rintro e w3 ⟨rfl, K3, J3⟩; have z1 := K3.cell (M := isB bx) (p := ⟨w.heap.size, 1, none⟩) HN.out.2.2 y1; have z2 := K3.cell (M := isB bx) (p := ⟨w.heap.size, 2, none⟩) HN.out.2.2 y2; have z3 := K3.cell (M := isB bx) (p := ⟨w.heap.size, 3, none⟩) HN.out.2.2 y3; have J3 := mkHid J3; clear K3))
  go_wp2
  go_ret
  refine ⟨ret_bool ?_, J3.out⟩
  rw [Bool.eq_iff_iff, beq_iff_eq, decide_eq_true_iff]

set_option maxRecDepth 100000 in
set_option maxHeartbeats 8000000 in
theorem do4_any (w0 w : World) (d m bx c : Nat) (s : DS) (x : RS) (h : Joint w0 w d m bx s x c) (hc : c ≤ 800) (a : ActV) (hok : ActOk w (fun b => b < w0.heap.size) a) (hfit : a.fit) (hk : pick a.kind 9 = 4) :
    Calls Try.prog 11 #[.pointer (some ⟨d, 0, none⟩), .pointer (some ⟨bx, 0, none⟩), .agg a.cells.toArray] w (DoEndB w0 d m bx (s.doS (s.preE [a.name] a.name) (s.f.put a.name ((look s a.name).1, (look s a.name).1))) (x.doS (x.pre 2 a.name []) (putL x.L ⟨a.name, (x.file a.name).data, (x.file a.name).data⟩)) (c + 2) (decide ((s.doE (s.preE [a.name] a.name)) = (x.doE (x.pre 2 a.name []))))) := by
  have HH := mkHid (And.intro h (And.intro hok (And.intro hk hfit)))
  have k0 := hok.k0
  have k1 := hok.k1
  obtain ⟨kd, nm, to, ab, cb, bs, q⟩ := a
  obtain ⟨x0, x1, x2, x3, x4⟩ := abox5 w (.int .i64 kd) (.string ⟨nm.toArray⟩) (.string ⟨to.toArray⟩) (.slice ab bs.length cb) (.int .i64 q) 36
  obtain ⟨W, hW⟩ : ∃ W, W = w.alloc (.cells #[.int .i64 kd, .string ⟨nm.toArray⟩, .string ⟨to.toArray⟩, .slice ab bs.length cb, .int .i64 q] 36) := ⟨_, rfl⟩
  rw [← hW] at x0 x1 x2 x3 x4
  have kW : Keep noM w W := by rw [hW]; exact alloc_keep _ _ _
  have JW := mkHid (h.keep kW)
  have HB := mkHid (hok.b.keep (kW.trans ((Keep.refl noM W).drew)) (fun _ _ => not_noM _))
  simp only [ActV.cells] at k0 k1 ⊢
  clear h hok hfit
  go_enter Try.func11, Try.ntmps11
  go_wp2_with fail
  rw [← hW]
  clear hW
  refine (choose_any kd W k0 k1).mono ?_
  rintro e w1 ⟨rfl, rfl⟩
  rw [show pick kd 9 = 4 from HH.out.2.2.1]
  clear hk kW
  go_wp2_with fail
  have hnd : ¬ isB2 d m w.heap.size := by
    obtain ⟨n, Sd, Sx, T, hn, hD, _⟩ := HH.out.1.st
    have := hD.lt
    unfold isB2; omega
  have hna : ∀ b, b < w0.heap.size → ¬ isB2 d m b := fun b hb => by have := HH.out.1.hd; have := HH.out.1.hm; unfold isB2; omega
  have hnx : w.heap.size ≠ bx := by
    obtain ⟨n, Sd, Sx, T, hn, hD, hX, _⟩ := HH.out.1.st
    have := hX.lt
    omega
  have HN := mkHid (And.intro hnd (And.intro hna hnx))
  clear hnd hna hnx
  have q1 : W.drew.cell? ⟨w.heap.size, 1, none⟩ = some (.string ⟨nm.toArray⟩) := (World.cell?_drew W _).trans x1
  have q2 : W.drew.cell? ⟨w.heap.size, 2, none⟩ = some (.string ⟨to.toArray⟩) := (World.cell?_drew W _).trans x2
  have q3 : W.drew.cell? ⟨w.heap.size, 3, none⟩ = some (.slice ab bs.length cb) := (World.cell?_drew W _).trans x3
  clear x0 x1 x2 x3 x4
  go_region_held3 (fun w' => w'.cell? ⟨w.heap.size, 1, none⟩ = some (.string ⟨nm.toArray⟩) ∧ w'.cell? ⟨w.heap.size, 2, none⟩ = some (.string ⟨to.toArray⟩) ∧ w'.cell? ⟨w.heap.size, 3, none⟩ = some (.slice ab bs.length cb)) (first | exact ⟨q1, q2, q3⟩ | exact ⟨y1, y2, y3⟩ | exact ⟨z1, z2, z3⟩) (first
    | (go_at_call 10; refine (joint_sync (JW.out.keep ((Keep.refl noM W).drew)) (by omega) nm HH.out.2.1.nm).mono ?_; rintro e w2 ⟨rfl, K2, J2⟩; have y1 := K2.cell (M := isB2 d m) (p := ⟨w.heap.size, 1, none⟩) HN.out.1 q1; have y2 := K2.cell (M := isB2 d m) (p := ⟨w.heap.size, 2, none⟩) HN.out.1 q2; have y3 := K2.cell (M := isB2 d m) (p := ⟨w.heap.size, 3, none⟩) HN.out.1 q3; have HB2 := mkHid (HB.out.keep K2 (fun b hb => HN.out.2.1 b hb)); have J2 := mkHid J2; clear K2)
    | (go_at_call 25; refine (joint_rdo2 J2.out (by omega) nm HH.out.2.1.nm).mono ?_; rintro e w3 ⟨rfl, K3, J3⟩; have z1 := K3.cell (M := isB bx) (p := ⟨w.heap.size, 1, none⟩) HN.out.2.2 y1; have z2 := K3.cell (M := isB bx) (p := ⟨w.heap.size, 2, none⟩) HN.out.2.2 y2; have z3 := K3.cell (M := isB bx) (p := ⟨w.heap.size, 3, none⟩) HN.out.2.2 y3; have J3 := mkHid J3; clear K3))
  go_wp2
  go_ret
  refine ⟨ret_bool ?_, J3.out⟩
  rw [Bool.eq_iff_iff, beq_iff_eq, decide_eq_true_iff]

set_option maxRecDepth 100000 in
set_option maxHeartbeats 8000000 in
theorem do5_any (w0 w : World) (d m bx c : Nat) (s : DS) (x : RS) (h : Joint w0 w d m bx s x c) (hc : c ≤ 800) (a : ActV) (hok : ActOk w (fun b => b < w0.heap.size) a) (hfit : a.fit) (hk : pick a.kind 9 = 5) :
    Calls Try.prog 11 #[.pointer (some ⟨d, 0, none⟩), .pointer (some ⟨bx, 0, none⟩), .agg a.cells.toArray] w (DoEndB w0 d m bx (s.doS (s.preE [a.name, a.to] a.name) (renamed s.f a.name a.to)) (x.doS (x.pre 3 a.name a.to) (putL (dropL x.L a.name) ⟨a.to, (x.file a.name).data, (x.file a.name).safe⟩)) (c + 2) (decide ((s.doE (s.preE [a.name, a.to] a.name)) = (x.doE (x.pre 3 a.name a.to))))) := by
  have HH := mkHid (And.intro h (And.intro hok (And.intro hk hfit)))
  have k0 := hok.k0
  have k1 := hok.k1
  obtain ⟨kd, nm, to, ab, cb, bs, q⟩ := a
  obtain ⟨x0, x1, x2, x3, x4⟩ := abox5 w (.int .i64 kd) (.string ⟨nm.toArray⟩) (.string ⟨to.toArray⟩) (.slice ab bs.length cb) (.int .i64 q) 36
  obtain ⟨W, hW⟩ : ∃ W, W = w.alloc (.cells #[.int .i64 kd, .string ⟨nm.toArray⟩, .string ⟨to.toArray⟩, .slice ab bs.length cb, .int .i64 q] 36) := ⟨_, rfl⟩
  rw [← hW] at x0 x1 x2 x3 x4
  have kW : Keep noM w W := by rw [hW]; exact alloc_keep _ _ _
  have JW := mkHid (h.keep kW)
  have HB := mkHid (hok.b.keep (kW.trans ((Keep.refl noM W).drew)) (fun _ _ => not_noM _))
  simp only [ActV.cells] at k0 k1 ⊢
  clear h hok hfit
  go_enter Try.func11, Try.ntmps11
  go_wp2_with fail
  rw [← hW]
  clear hW
  refine (choose_any kd W k0 k1).mono ?_
  rintro e w1 ⟨rfl, rfl⟩
  rw [show pick kd 9 = 5 from HH.out.2.2.1]
  clear hk kW
  go_wp2_with fail
  have hnd : ¬ isB2 d m w.heap.size := by
    obtain ⟨n, Sd, Sx, T, hn, hD, _⟩ := HH.out.1.st
    have := hD.lt
    unfold isB2; omega
  have hna : ∀ b, b < w0.heap.size → ¬ isB2 d m b := fun b hb => by have := HH.out.1.hd; have := HH.out.1.hm; unfold isB2; omega
  have hnx : w.heap.size ≠ bx := by
    obtain ⟨n, Sd, Sx, T, hn, hD, hX, _⟩ := HH.out.1.st
    have := hX.lt
    omega
  have HN := mkHid (And.intro hnd (And.intro hna hnx))
  clear hnd hna hnx
  have q1 : W.drew.cell? ⟨w.heap.size, 1, none⟩ = some (.string ⟨nm.toArray⟩) := (World.cell?_drew W _).trans x1
  have q2 : W.drew.cell? ⟨w.heap.size, 2, none⟩ = some (.string ⟨to.toArray⟩) := (World.cell?_drew W _).trans x2
  have q3 : W.drew.cell? ⟨w.heap.size, 3, none⟩ = some (.slice ab bs.length cb) := (World.cell?_drew W _).trans x3
  clear x0 x1 x2 x3 x4
  go_region_held3 (fun w' => w'.cell? ⟨w.heap.size, 1, none⟩ = some (.string ⟨nm.toArray⟩) ∧ w'.cell? ⟨w.heap.size, 2, none⟩ = some (.string ⟨to.toArray⟩) ∧ w'.cell? ⟨w.heap.size, 3, none⟩ = some (.slice ab bs.length cb)) (first | exact ⟨q1, q2, q3⟩ | exact ⟨y1, y2, y3⟩ | exact ⟨z1, z2, z3⟩) (first
    | (go_at_call 26; refine (joint_rename (JW.out.keep ((Keep.refl noM W).drew)) (by omega) nm to HH.out.2.1.nm HH.out.2.1.to).mono ?_; rintro e w2 ⟨rfl, K2, J2⟩; have y1 := K2.cell (M := isB2 d m) (p := ⟨w.heap.size, 1, none⟩) HN.out.1 q1; have y2 := K2.cell (M := isB2 d m) (p := ⟨w.heap.size, 2, none⟩) HN.out.1 q2; have y3 := K2.cell (M := isB2 d m) (p := ⟨w.heap.size, 3, none⟩) HN.out.1 q3; have HB2 := mkHid (HB.out.keep K2 (fun b hb => HN.out.2.1 b hb)); have J2 := mkHid J2; clear K2)
    | (go_at_call 25; refine (joint_rdo3 J2.out (by omega) nm to HH.out.2.1.nm HH.out.2.1.to).mono ?_; rintro e w3 ⟨rfl, K3, J3⟩; have z1 := K3.cell (M := isB bx) (p := ⟨w.heap.size, 1, none⟩) HN.out.2.2 y1; have z2 := K3.cell (M := isB bx) (p := ⟨w.heap.size, 2, none⟩) HN.out.2.2 y2; have z3 := K3.cell (M := isB bx) (p := ⟨w.heap.size, 3, none⟩) HN.out.2.2 y3; have J3 := mkHid J3; clear K3))
  go_wp2
  go_ret
  refine ⟨ret_bool ?_, J3.out⟩
  rw [Bool.eq_iff_iff, beq_iff_eq, decide_eq_true_iff]

set_option maxRecDepth 100000 in
set_option maxHeartbeats 8000000 in
theorem do6_any (w0 w : World) (d m bx c : Nat) (s : DS) (x : RS) (h : Joint w0 w d m bx s x c) (hc : c ≤ 800) (a : ActV) (hok : ActOk w (fun b => b < w0.heap.size) a) (hfit : a.fit) (hk : pick a.kind 9 = 6) :
    Calls Try.prog 11 #[.pointer (some ⟨d, 0, none⟩), .pointer (some ⟨bx, 0, none⟩), .agg a.cells.toArray] w (DoEndB w0 d m bx (s.doS (s.preE [a.name] a.name) (s.f.del a.name)) (x.doS (x.pre 4 a.name []) (dropL x.L a.name)) (c + 2) (decide ((s.doE (s.preE [a.name] a.name)) = (x.doE (x.pre 4 a.name []))))) := by
  have HH := mkHid (And.intro h (And.intro hok (And.intro hk hfit)))
  have k0 := hok.k0
  have k1 := hok.k1
  obtain ⟨kd, nm, to, ab, cb, bs, q⟩ := a
  obtain ⟨x0, x1, x2, x3, x4⟩ := abox5 w (.int .i64 kd) (.string ⟨nm.toArray⟩) (.string ⟨to.toArray⟩) (.slice ab bs.length cb) (.int .i64 q) 36
  obtain ⟨W, hW⟩ : ∃ W, W = w.alloc (.cells #[.int .i64 kd, .string ⟨nm.toArray⟩, .string ⟨to.toArray⟩, .slice ab bs.length cb, .int .i64 q] 36) := ⟨_, rfl⟩
  rw [← hW] at x0 x1 x2 x3 x4
  have kW : Keep noM w W := by rw [hW]; exact alloc_keep _ _ _
  have JW := mkHid (h.keep kW)
  have HB := mkHid (hok.b.keep (kW.trans ((Keep.refl noM W).drew)) (fun _ _ => not_noM _))
  simp only [ActV.cells] at k0 k1 ⊢
  clear h hok hfit
  go_enter Try.func11, Try.ntmps11
  go_wp2_with fail
  rw [← hW]
  clear hW
  refine (choose_any kd W k0 k1).mono ?_
  rintro e w1 ⟨rfl, rfl⟩
  rw [show pick kd 9 = 6 from HH.out.2.2.1]
  clear hk kW
  go_wp2_with fail
  have hnd : ¬ isB2 d m w.heap.size := by
    obtain ⟨n, Sd, Sx, T, hn, hD, _⟩ := HH.out.1.st
    have := hD.lt
    unfold isB2; omega
  have hna : ∀ b, b < w0.heap.size → ¬ isB2 d m b := fun b hb => by have := HH.out.1.hd; have := HH.out.1.hm; unfold isB2; omega
  have hnx : w.heap.size ≠ bx := by
    obtain ⟨n, Sd, Sx, T, hn, hD, hX, _⟩ := HH.out.1.st
    have := hX.lt
    omega
  have HN := mkHid (And.intro hnd (And.intro hna hnx))
  clear hnd hna hnx
  have q1 : W.drew.cell? ⟨w.heap.size, 1, none⟩ = some (.string ⟨nm.toArray⟩) := (World.cell?_drew W _).trans x1
  have q2 : W.drew.cell? ⟨w.heap.size, 2, none⟩ = some (.string ⟨to.toArray⟩) := (World.cell?_drew W _).trans x2
  have q3 : W.drew.cell? ⟨w.heap.size, 3, none⟩ = some (.slice ab bs.length cb) := (World.cell?_drew W _).trans x3
  clear x0 x1 x2 x3 x4
  go_region_held3 (fun w' => w'.cell? ⟨w.heap.size, 1, none⟩ = some (.string ⟨nm.toArray⟩) ∧ w'.cell? ⟨w.heap.size, 2, none⟩ = some (.string ⟨to.toArray⟩) ∧ w'.cell? ⟨w.heap.size, 3, none⟩ = some (.slice ab bs.length cb)) (first | exact ⟨q1, q2, q3⟩ | exact ⟨y1, y2, y3⟩ | exact ⟨z1, z2, z3⟩) (first
    | (go_at_call 27; refine (joint_remove (JW.out.keep ((Keep.refl noM W).drew)) (by omega) nm HH.out.2.1.nm).mono ?_; rintro e w2 ⟨rfl, K2, J2⟩; have y1 := K2.cell (M := isB2 d m) (p := ⟨w.heap.size, 1, none⟩) HN.out.1 q1; have y2 := K2.cell (M := isB2 d m) (p := ⟨w.heap.size, 2, none⟩) HN.out.1 q2; have y3 := K2.cell (M := isB2 d m) (p := ⟨w.heap.size, 3, none⟩) HN.out.1 q3; have HB2 := mkHid (HB.out.keep K2 (fun b hb => HN.out.2.1 b hb)); have J2 := mkHid J2; clear K2)
    | (go_at_call 25; refine (joint_rdo4 J2.out (by omega) nm HH.out.2.1.nm).mono ?_; rintro e w3 ⟨rfl, K3, J3⟩; have z1 := K3.cell (M := isB bx) (p := ⟨w.heap.size, 1, none⟩) HN.out.2.2 y1; have z2 := K3.cell (M := isB bx) (p := ⟨w.heap.size, 2, none⟩) HN.out.2.2 y2; have z3 := K3.cell (M := isB bx) (p := ⟨w.heap.size, 3, none⟩) HN.out.2.2 y3; have J3 := mkHid J3; clear K3))
  go_wp2
  go_ret
  refine ⟨ret_bool ?_, J3.out⟩
  rw [Bool.eq_iff_iff, beq_iff_eq, decide_eq_true_iff]

set_option maxRecDepth 100000 in
set_option maxHeartbeats 8000000 in
theorem do2_any (w0 w : World) (d m bx c : Nat) (s : DS) (x : RS) (h : Joint w0 w d m bx s x c) (hc : c ≤ 800) (a : ActV) (hok : ActOk w (fun b => b < w0.heap.size) a) (hfit : a.fit) (hk : pick a.kind 9 = 2) :
    Calls Try.prog 11 #[.pointer (some ⟨d, 0, none⟩), .pointer (some ⟨bx, 0, none⟩), .agg a.cells.toArray] w (DoEndB w0 d m bx (s.append a.name a.b) (x.doW (x.preW a.name ((x.file a.name).data ++ a.b)) (putL x.L ⟨a.name, (x.file a.name).data ++ a.b, (x.file a.name).safe⟩)) (c + 2) (decide ((s.appendE a.name a.b) = (x.doE (x.preW a.name ((x.file a.name).data ++ a.b)))))) := by
  have HH := mkHid (And.intro h (And.intro hok (And.intro hk hfit)))
  have k0 := hok.k0
  have k1 := hok.k1
  obtain ⟨kd, nm, to, ab, cb, bs, q⟩ := a
  obtain ⟨x0, x1, x2, x3, x4⟩ := abox5 w (.int .i64 kd) (.string ⟨nm.toArray⟩) (.string ⟨to.toArray⟩) (.slice ab bs.length cb) (.int .i64 q) 36
  obtain ⟨W, hW⟩ : ∃ W, W = w.alloc (.cells #[.int .i64 kd, .string ⟨nm.toArray⟩, .string ⟨to.toArray⟩, .slice ab bs.length cb, .int .i64 q] 36) := ⟨_, rfl⟩
  rw [← hW] at x0 x1 x2 x3 x4
  have kW : Keep noM w W := by rw [hW]; exact alloc_keep _ _ _
  have JW := mkHid (h.keep kW)
  have HB := mkHid (hok.b.keep (kW.trans ((Keep.refl noM W).drew)) (fun _ _ => not_noM _))
  simp only [ActV.cells] at k0 k1 ⊢
  clear h hok hfit
  go_enter Try.func11, Try.ntmps11
  go_wp2_with fail
  rw [← hW]
  clear hW
  refine (choose_any kd W k0 k1).mono ?_
  rintro e w1 ⟨rfl, rfl⟩
  rw [show pick kd 9 = 2 from HH.out.2.2.1]
  clear hk kW
  go_wp2_with fail
  have hnd : ¬ isB2 d m w.heap.size := by
    obtain ⟨n, Sd, Sx, T, hn, hD, _⟩ := HH.out.1.st
    have := hD.lt
    unfold isB2; omega
  have hna : ∀ b, b < w0.heap.size → ¬ isB2 d m b := fun b hb => by have := HH.out.1.hd; have := HH.out.1.hm; unfold isB2; omega
  have hnx : w.heap.size ≠ bx := by
    obtain ⟨n, Sd, Sx, T, hn, hD, hX, _⟩ := HH.out.1.st
    have := hX.lt
    omega
  have HN := mkHid (And.intro hnd (And.intro hna hnx))
  clear hnd hna hnx
  have q1 : W.drew.cell? ⟨w.heap.size, 1, none⟩ = some (.string ⟨nm.toArray⟩) := (World.cell?_drew W _).trans x1
  have q2 : W.drew.cell? ⟨w.heap.size, 2, none⟩ = some (.string ⟨to.toArray⟩) := (World.cell?_drew W _).trans x2
  have q3 : W.drew.cell? ⟨w.heap.size, 3, none⟩ = some (.slice ab bs.length cb) := (World.cell?_drew W _).trans x3
  clear x0 x1 x2 x3 x4
  go_region_held3 (fun w' => w'.cell? ⟨w.heap.size, 1, none⟩ = some (.string ⟨nm.toArray⟩) ∧ w'.cell? ⟨w.heap.size, 2, none⟩ = some (.string ⟨to.toArray⟩) ∧ w'.cell? ⟨w.heap.size, 3, none⟩ = some (.slice ab bs.length cb)) (first | exact ⟨q1, q2, q3⟩ | exact ⟨y1, y2, y3⟩ | exact ⟨z1, z2, z3⟩) (first
    | (go_at_call 15; refine (joint_append (JW.out.keep ((Keep.refl noM W).drew)) (by omega) nm bs HH.out.2.1.nm ab cb _ HB.out (by have : bs.length ≤ 2000 := HH.out.2.2.2.1; omega)).mono ?_; rintro e w2 ⟨rfl, K2, J2⟩; have y1 := K2.cell (M := isB2 d m) (p := ⟨w.heap.size, 1, none⟩) HN.out.1 q1; have y2 := K2.cell (M := isB2 d m) (p := ⟨w.heap.size, 2, none⟩) HN.out.1 q2; have y3 := K2.cell (M := isB2 d m) (p := ⟨w.heap.size, 3, none⟩) HN.out.1 q3; have HB2 := mkHid (HB.out.keep K2 (fun b hb => HN.out.2.1 b hb)); have J2 := mkHid J2; clear K2)
    | (go_at_call 25; refine (joint_rdo1 J2.out (by omega) nm HH.out.2.1.nm ab cb bs HB2.out HH.out.2.1.cap HH.out.2.1.capm (by have : bs.length ≤ 2000 := HH.out.2.2.2.1; omega)).mono ?_; rintro e w3 ⟨rfl, K3, J3⟩; have z1 := K3.cell (M := isB bx) (p := ⟨w.heap.size, 1, none⟩) HN.out.2.2 y1; have z2 := K3.cell (M := isB bx) (p := ⟨w.heap.size, 2, none⟩) HN.out.2.2 y2; have z3 := K3.cell (M := isB bx) (p := ⟨w.heap.size, 3, none⟩) HN.out.2.2 y3; have J3 := mkHid J3; clear K3))
  go_wp2
  go_ret
  refine ⟨ret_bool ?_, J3.out⟩
  rw [Bool.eq_iff_iff, beq_iff_eq, decide_eq_true_iff]
end Go.Proofs.Ytohbglopgjbfcaa
