/-
  suretylaw17.DiskSwap: the walk: true, at every input.
-/
import Derived.Test.YtfligjbgiigojaaAwake17
import Derived.Test.YtfligjbgiigojaaSame
set_option linter.unusedVariables false
set_option linter.unusedSimpArgs false
namespace Go.Proofs.Ytfligjbgiigojaa
open Go.RowKit Go.Maps Go.Sort Go.Shelf

def sw1 (xs : Bs) : DS := DS.new.write [102] xs
def sw2 (xs : Bs) : DS := (sw1 xs).doS ((sw1 xs).preE [[102]] [102]) ((sw1 xs).f.put [102] ((look (sw1 xs) [102]).1, (look (sw1 xs) [102]).1))
def sw3 (xs : Bs) (q : Int) : DS := (sw2 xs).setFuse q
def sw4 (xs ys : Bs) (q : Int) : DS := (sw3 xs q).write [110, 101, 119] ys
def sw5 (xs ys : Bs) (q : Int) : DS := (sw4 xs ys q).doS ((sw4 xs ys q).preE [[110, 101, 119]] [110, 101, 119]) ((sw4 xs ys q).f.put [110, 101, 119] ((look (sw4 xs ys q) [110, 101, 119]).1, (look (sw4 xs ys q) [110, 101, 119]).1))
def sw6 (xs ys : Bs) (q : Int) : DS := (sw5 xs ys q).doS ((sw5 xs ys q).preE [[110, 101, 119], [102]] [110, 101, 119]) (renamed (sw5 xs ys q).f [110, 101, 119] [102])

theorem f_at : word [102] = true := by decide
theorem new_at : word [110, 101, 119] = true := by decide
theorem f_ne : ([102] : Bs) ≠ [110, 101, 119] := by decide

theorem sw2_eq (xs : Bs) (hx : xs.length ≤ 2000) : sw2 xs = { f := (DS.new.f.put [102] (xs, [])).put [102] (xs, xs), fuse := 0, dead := false, ops := 2 } := by
  unfold sw2 sw1
  simp [DS.write, DS.putB, DS.doS, DS.preE, namesE, f_at, DS.new, DS.burn, DS.burnt, look, Files.put, show ¬ 262144 < xs.length by omega]

theorem f_ne' : ([102] : Bs) = [110, 101, 119] ↔ False := by decide
theorem new_ne' : ([110, 101, 119] : Bs) = [102] ↔ False := by decide
theorem sw_e1 (xs ys : Bs) (q : Int) (hx : xs.length ≤ 2000) (hy : ys.length ≤ 2000) (h1 : 1 ≤ q) : (sw3 xs q).writeE [110, 101, 119] ys = if q = 1 then 21 else 0 := by
  unfold sw3; rw [sw2_eq xs hx]
  simp [DS.setFuse, DS.writeE, DS.putE, DS.codeOf, DS.burnt, namesE, new_at, show ¬ 262144 < ys.length by omega, show max q 0 = q by omega]
theorem sw4_eq (xs ys : Bs) (q : Int) (hx : xs.length ≤ 2000) (hy : ys.length ≤ 2000) (h1 : 1 ≤ q) :
    sw4 xs ys q = { f := ((DS.new.f.put [102] (xs, [])).put [102] (xs, xs)).put [110, 101, 119] (ys, []), fuse := q - 1, dead := decide (q = 1), ops := 3 } := by
  unfold sw4 sw3; rw [sw2_eq xs hx]
  have hq : ¬ q = 0 := by omega
  simp [DS.setFuse, DS.write, DS.putB, DS.new, DS.burn, look, Files.put, namesE, new_at, show ¬ 262144 < ys.length by omega, show max q 0 = q by omega, hq, new_ne']
theorem sw_e2 (xs ys : Bs) (q : Int) (hx : xs.length ≤ 2000) (hy : ys.length ≤ 2000) (h1 : 2 ≤ q) : (sw4 xs ys q).doE ((sw4 xs ys q).preE [[110, 101, 119]] [110, 101, 119]) = if q = 2 then 21 else 0 := by
  rw [sw4_eq xs ys q hx hy (by omega)]
  have e1 : ¬ q = 1 := by omega
  have e2 : q - 1 = 1 ↔ q = 2 := by omega
  simp [DS.doE, DS.preE, DS.codeOf, DS.burnt, namesE, new_at, e1, e2, Files.put]
theorem sw5_eq (xs ys : Bs) (q : Int) (hx : xs.length ≤ 2000) (hy : ys.length ≤ 2000) (h1 : 2 ≤ q) :
    sw5 xs ys q = { f := if q = 2 then (sw4 xs ys q).f else (sw4 xs ys q).f.put [110, 101, 119] (ys, ys), fuse := q - 2, dead := decide (q = 2), ops := 4 } := by
  unfold sw5
  rw [sw4_eq xs ys q hx hy (by omega)]
  have e1 : ¬ q = 1 := by omega
  have e0 : ¬ q - 1 = 0 := by omega
  have e2 : q - 1 = 1 ↔ q = 2 := by omega
  have e3 : q - 1 - 1 = q - 2 := by omega
  simp [DS.doS, DS.preE, DS.burn, DS.burnt, namesE, new_at, e0, e1, e2, e3, look, Files.put]
theorem sw_e3 (xs ys : Bs) (q : Int) (hx : xs.length ≤ 2000) (hy : ys.length ≤ 2000) (h1 : 3 ≤ q) : (sw5 xs ys q).doE ((sw5 xs ys q).preE [[110, 101, 119], [102]] [110, 101, 119]) = if q = 3 then 21 else 0 := by
  rw [sw5_eq xs ys q hx hy (by omega), sw4_eq xs ys q hx hy (by omega)]
  have e1 : ¬ q = 2 := by omega
  have e2 : q - 2 = 1 ↔ q = 3 := by omega
  simp [DS.doE, DS.preE, DS.codeOf, DS.burnt, namesE, new_at, f_at, e1, e2, Files.put]
theorem sw_b1 (xs ys : Bs) (keep : Int) (hx : xs.length ≤ 2000) (hy : ys.length ≤ 2000) : ((sw4 xs ys 1).boot keep).f [102] = some (xs, xs) := by
  rw [sw4_eq xs ys 1 hx hy (by omega)]
  simp [DS.boot, Files.put, f_ne', bootF]
theorem sw_b2 (xs ys : Bs) (keep : Int) (hx : xs.length ≤ 2000) (hy : ys.length ≤ 2000) : ((sw5 xs ys 2).boot keep).f [102] = some (xs, xs) := by
  rw [sw5_eq xs ys 2 hx hy (by omega), sw4_eq xs ys 2 hx hy (by omega)]
  simp [DS.boot, Files.put, f_ne', bootF]
theorem sw6_f (xs ys : Bs) (q : Int) (hx : xs.length ≤ 2000) (hy : ys.length ≤ 2000) (h1 : 3 ≤ q) : (sw6 xs ys q).f [102] = if q = 3 then some (xs, xs) else some (ys, ys) := by
  unfold sw6
  rw [sw5_eq xs ys q hx hy (by omega), sw4_eq xs ys q hx hy (by omega)]
  have e1 : ¬ q = 2 := by omega
  have e2 : q - 2 = 1 ↔ q = 3 := by omega
  by_cases h3 : q = 3
  · subst h3
    simp [DS.doS, DS.preE, DS.burn, DS.burnt, namesE, new_at, f_at, Files.put, renamed, Files.del, f_ne']
  · simp [DS.doS, DS.preE, DS.burn, DS.burnt, namesE, new_at, f_at, Files.put, renamed, Files.del, f_ne', e1, e2, h3]
theorem sw_b3 (xs ys : Bs) (q keep : Int) (hx : xs.length ≤ 2000) (hy : ys.length ≤ 2000) (h1 : 3 ≤ q) : ((sw6 xs ys q).boot keep).f [102] = if q = 3 then some (xs, xs) else some (ys, ys) := by
  simp only [DS.boot, sw6_f xs ys q hx hy h1]
  split <;> simp [bootF]

set_option maxRecDepth 100000 in
set_option maxHeartbeats 2000000 in
theorem swap_any (w : World) (S : Nat → Prop) (a b : Option Addr) (ca cb : Nat) (xs ys : Bs) (hx : BytesAt w S a xs) (hy : BytesAt w S b ys) (fz keep : Int) (f0 : 0 ≤ fz) (f1 : fz ≤ 255) (k0 : -9223372036854775808 ≤ keep) (k1 : keep ≤ 9223372036854775807) :
    Calls Try.prog 3 #[.slice a xs.length ca, .slice b ys.length cb, .int .u8 fz, .int .i64 keep] w fun e w' => e = .returned (.bool true) ∧ Keep noM w w' := by
  by_cases hl : xs.length ≤ 2000 ∧ ys.length ≤ 2000
  · obtain ⟨hx2, hy2⟩ := hl
    obtain ⟨q, hq⟩ : ∃ q, q = 1 + fz % 4 := ⟨_, rfl⟩
    have HH := mkHid (And.intro hx (And.intro hy (And.intro k0 k1)))
    have HQ := mkHid hq
    clear hx hy k0 k1 hq
    go_enter Try.func3, Try.ntmps3
    go_wp2_with fail
    refine (play_new w w (Keep.refl _ _)).mono ?_
    rintro e w1 ⟨rfl, K1, P1⟩
    obtain ⟨d, hd⟩ : ∃ d, d = w.heap.size + 1 := ⟨_, rfl⟩
    obtain ⟨m, hm⟩ : ∃ m, m = w.heap.size := ⟨_, rfl⟩
    rw [← hd, ← hm] at P1
    rw [← hd]
    have H1 := mkHid P1
    clear P1 K1 hd hm
    go_wp2_with fail
    refine (play_write H1.out (by omega) [102] xs (by unfold maxLen; decide) a ca S (HH.out.1.keep H1.out.kp (fun _ _ => not_noM _)) (by omega)).mono ?_
    rintro e w2 ⟨rfl, K2, P2⟩
    have H2 : Hid (Play w w2 d m (sw1 xs) 1) := mkHid P2
    clear P2 K2
    go_wp2_with fail
    refine (play_sync H2.out (by omega) [102] (by unfold maxLen; decide)).mono ?_
    rintro e w3 ⟨rfl, K3, P3⟩
    have H3 : Hid (Play w w3 d m (sw2 xs) 2) := mkHid P3
    clear P3 K3
    go_wp2_with fail
    refine (play_fuse H3.out (1 + fz % 4) (by omega)).mono ?_
    rintro e w4 ⟨rfl, K4, P4⟩
    rw [← HQ.out] at P4
    have H4 : Hid (Play w w4 d m (sw3 xs q) 3) := mkHid P4
    clear P4 K4
    go_wp2_with fail
    refine (play_write H4.out (by omega) [110, 101, 119] ys (by unfold maxLen; decide) b cb S (HH.out.2.1.keep H4.out.kp (fun _ _ => not_noM _)) (by omega)).mono ?_
    rintro e w5 ⟨rfl, K5, P5⟩
    have H5 : Hid (Play w w5 d m (sw4 xs ys q) 4) := mkHid P5
    clear P5 K5
    rw [sw_e1 xs ys q hx2 hy2 (by have := HQ.out; omega)]
    have hr : fz % 4 = 0 ∨ fz % 4 = 1 ∨ fz % 4 = 2 ∨ fz % 4 = 3 := by omega
    have HX := mkHid (And.intro hx2 hy2)
    rcases hr with hr | hr | hr | hr
    · have hq1 : q = 1 := by have := HQ.out; omega
      subst hq1
      have HR := mkHid hr
      clear hr hx2 hy2
      rw [if_pos rfl]
      go_wp2_with fail
      refine (play_boot H5.out (by omega) keep HH.out.2.2.1 HH.out.2.2.2).mono ?_
      rintro e u1 ⟨rfl, K6, P6⟩
      have B1 : Hid (Play w u1 d m ((sw4 xs ys 1).boot keep) 5) := mkHid P6
      clear P6 K6
      go_wp2_with fail
      refine (play_read B1.out [102] (by unfold maxLen; decide)).mono ?_
      rintro e u2 ⟨a', c', rfl, K7, l1, l2, hb⟩
      have hlook : (look ((sw4 xs ys 1).boot keep) [102]).1 = xs := by simp [look, sw_b1 xs ys keep HX.out.1 HX.out.2]
      have hsome : (((sw4 xs ys 1).boot keep).f [102]).isSome = true := by simp [sw_b1 xs ys keep HX.out.1 HX.out.2]
      rw [hlook] at hb l1 ⊢
      rw [hsome]
      have B2 := mkHid (And.intro (B1.out.kp.trans K7) hb)
      clear K7 l1 l2 hb hlook hsome
      go_wp2_with fail
      refine (same_any a' a xs xs c' ca _ S u2 B2.out.2 (HH.out.1.keep B2.out.1 (fun _ _ => not_noM _)) (by unfold maxLen; omega) (by unfold maxLen; omega)).mono ?_
      rintro e u3 ⟨rfl, K8⟩
      have B3 := mkHid (B2.out.1.trans K8)
      clear K8
      rw [decide_eq_true rfl]
      have hr := HR.out
      go_wp2_with fail
      refine (awake17_any _).mono ?_
      rintro e u4 ⟨rfl, K9⟩
      have B4 := mkHid (B3.out.trans K9)
      clear K9
      go_wp2
      go_ret
      exact ⟨rfl, B4.out⟩
    · have hq1 : q = 2 := by have := HQ.out; omega
      subst hq1
      have HR := mkHid hr
      clear hr hx2 hy2
      rw [if_neg (by decide)]
      go_wp2_with fail
      refine (play_sync H5.out (by omega) [110, 101, 119] (by unfold maxLen; decide)).mono ?_
      rintro e w6 ⟨rfl, K6, P6⟩
      have H6 : Hid (Play w w6 d m (sw5 xs ys 2) 5) := mkHid P6
      clear P6 K6
      rw [sw_e2 xs ys 2 HX.out.1 HX.out.2 (by decide)]
      rw [if_pos rfl]
      go_wp2_with fail
      refine (play_boot H6.out (by omega) keep HH.out.2.2.1 HH.out.2.2.2).mono ?_
      rintro e u1 ⟨rfl, K6, P6⟩
      have B1 : Hid (Play w u1 d m ((sw5 xs ys 2).boot keep) 6) := mkHid P6
      clear P6 K6
      go_wp2_with fail
      refine (play_read B1.out [102] (by unfold maxLen; decide)).mono ?_
      rintro e u2 ⟨a', c', rfl, K7, l1, l2, hb⟩
      have hlook : (look ((sw5 xs ys 2).boot keep) [102]).1 = xs := by simp [look, sw_b2 xs ys keep HX.out.1 HX.out.2]
      have hsome : (((sw5 xs ys 2).boot keep).f [102]).isSome = true := by simp [sw_b2 xs ys keep HX.out.1 HX.out.2]
      rw [hlook] at hb l1 ⊢
      rw [hsome]
      have B2 := mkHid (And.intro (B1.out.kp.trans K7) hb)
      clear K7 l1 l2 hb hlook hsome
      go_wp2_with fail
      refine (same_any a' a xs xs c' ca _ S u2 B2.out.2 (HH.out.1.keep B2.out.1 (fun _ _ => not_noM _)) (by unfold maxLen; omega) (by unfold maxLen; omega)).mono ?_
      rintro e u3 ⟨rfl, K8⟩
      have B3 := mkHid (B2.out.1.trans K8)
      clear K8
      rw [decide_eq_true rfl]
      have hr := HR.out
      go_wp2_with fail
      refine (awake17_any _).mono ?_
      rintro e u4 ⟨rfl, K9⟩
      have B4 := mkHid (B3.out.trans K9)
      clear K9
      go_wp2
      go_ret
      exact ⟨rfl, B4.out⟩
    · have hq1 : q = 3 := by have := HQ.out; omega
      subst hq1
      have HR := mkHid hr
      clear hr hx2 hy2
      rw [if_neg (by decide)]
      go_wp2_with fail
      refine (play_sync H5.out (by omega) [110, 101, 119] (by unfold maxLen; decide)).mono ?_
      rintro e w6 ⟨rfl, K6, P6⟩
      have H6 : Hid (Play w w6 d m (sw5 xs ys 3) 5) := mkHid P6
      clear P6 K6
      rw [sw_e2 xs ys 3 HX.out.1 HX.out.2 (by decide)]
      rw [if_neg (by decide)]
      go_wp2_with fail
      refine (play_rename H6.out (by omega) [110, 101, 119] [102] (by unfold maxLen; decide) (by unfold maxLen; decide)).mono ?_
      rintro e w7 ⟨rfl, K6, P6⟩
      have H7 : Hid (Play w w7 d m (sw6 xs ys 3) 6) := mkHid P6
      clear P6 K6
      rw [sw_e3 xs ys 3 HX.out.1 HX.out.2 (by decide)]
      rw [if_pos rfl]
      go_wp2_with fail
      refine (play_boot H7.out (by omega) keep HH.out.2.2.1 HH.out.2.2.2).mono ?_
      rintro e u1 ⟨rfl, K6, P6⟩
      have B1 : Hid (Play w u1 d m ((sw6 xs ys 3).boot keep) 7) := mkHid P6
      clear P6 K6
      go_wp2_with fail
      refine (play_read B1.out [102] (by unfold maxLen; decide)).mono ?_
      rintro e u2 ⟨a', c', rfl, K7, l1, l2, hb⟩
      have hlook : (look ((sw6 xs ys 3).boot keep) [102]).1 = xs := by simp [look, sw_b3 xs ys 3 keep HX.out.1 HX.out.2]
      have hsome : (((sw6 xs ys 3).boot keep).f [102]).isSome = true := by simp [sw_b3 xs ys 3 keep HX.out.1 HX.out.2]
      rw [hlook] at hb l1 ⊢
      rw [hsome]
      have B2 := mkHid (And.intro (B1.out.kp.trans K7) hb)
      clear K7 l1 l2 hb hlook hsome
      go_wp2_with fail
      refine (same_any a' a xs xs c' ca _ S u2 B2.out.2 (HH.out.1.keep B2.out.1 (fun _ _ => not_noM _)) (by unfold maxLen; omega) (by unfold maxLen; omega)).mono ?_
      rintro e u3 ⟨rfl, K8⟩
      have B3 := mkHid (B2.out.1.trans K8)
      clear K8
      rw [decide_eq_true rfl]
      have hr := HR.out
      go_wp2_with fail
      refine (awake17_any _).mono ?_
      rintro e u4 ⟨rfl, K9⟩
      have B4 := mkHid (B3.out.trans K9)
      clear K9
      go_wp2
      go_ret
      exact ⟨rfl, B4.out⟩
    · have hq1 : q = 4 := by have := HQ.out; omega
      subst hq1
      have HR := mkHid hr
      clear hr hx2 hy2
      rw [if_neg (by decide)]
      go_wp2_with fail
      refine (play_sync H5.out (by omega) [110, 101, 119] (by unfold maxLen; decide)).mono ?_
      rintro e w6 ⟨rfl, K6, P6⟩
      have H6 : Hid (Play w w6 d m (sw5 xs ys 4) 5) := mkHid P6
      clear P6 K6
      rw [sw_e2 xs ys 4 HX.out.1 HX.out.2 (by decide)]
      rw [if_neg (by decide)]
      go_wp2_with fail
      refine (play_rename H6.out (by omega) [110, 101, 119] [102] (by unfold maxLen; decide) (by unfold maxLen; decide)).mono ?_
      rintro e w7 ⟨rfl, K6, P6⟩
      have H7 : Hid (Play w w7 d m (sw6 xs ys 4) 6) := mkHid P6
      clear P6 K6
      rw [sw_e3 xs ys 4 HX.out.1 HX.out.2 (by decide)]
      rw [if_neg (by decide)]
      go_wp2_with fail
      refine (play_boot H7.out (by omega) keep HH.out.2.2.1 HH.out.2.2.2).mono ?_
      rintro e u1 ⟨rfl, K6, P6⟩
      have B1 : Hid (Play w u1 d m ((sw6 xs ys 4).boot keep) 7) := mkHid P6
      clear P6 K6
      go_wp2_with fail
      refine (play_read B1.out [102] (by unfold maxLen; decide)).mono ?_
      rintro e u2 ⟨a', c', rfl, K7, l1, l2, hb⟩
      have hlook : (look ((sw6 xs ys 4).boot keep) [102]).1 = ys := by simp [look, sw_b3 xs ys 4 keep HX.out.1 HX.out.2]
      have hsome : (((sw6 xs ys 4).boot keep).f [102]).isSome = true := by simp [sw_b3 xs ys 4 keep HX.out.1 HX.out.2]
      rw [hlook] at hb l1 ⊢
      rw [hsome]
      have B2 := mkHid (And.intro (B1.out.kp.trans K7) hb)
      clear K7 l1 l2 hb hlook hsome
      go_wp2_with fail
      refine (same_any a' b ys ys c' cb _ S u2 B2.out.2 (HH.out.2.1.keep B2.out.1 (fun _ _ => not_noM _)) (by unfold maxLen; omega) (by unfold maxLen; omega)).mono ?_
      rintro e u3 ⟨rfl, K8⟩
      have B3 := mkHid (B2.out.1.trans K8)
      clear K8
      rw [decide_eq_true rfl]
      have hr := HR.out
      go_wp2_with fail
      refine (awake17_any _).mono ?_
      rintro e u4 ⟨rfl, K9⟩
      have B4 := mkHid (B3.out.trans K9)
      clear K9
      go_wp2
      go_ret
      exact ⟨rfl, B4.out⟩
  · go_enter Try.func3, Try.ntmps3
    go_wp2_with fail
    all_goals first
      | (exfalso; omega)
      | (refine (awake17_any w).mono ?_; rintro e w1 ⟨rfl, K⟩; go_wp2; go_ret; exact ⟨rfl, K⟩)
end Go.Proofs.Ytfligjbgiigojaa
