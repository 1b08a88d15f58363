/-
  suretylaw17.DiskPlays: the walk: true, at every input.
-/
import Derived.Test.YtohbglopgjbfcaaSame17
import Derived.Test.YtohbglopgjbfcaaSafeWalk
set_option linter.unusedVariables false
set_option linter.unusedSimpArgs false
namespace Go.Proofs.Ytohbglopgjbfcaa
open Go.RowKit

theorem joint_same {w0 w : World} {d m bx c : Nat} {s : DS} {x : RS} (h : Joint w0 w d m bx s x c) (hc : c ≤ 900) (ha : Alike s x) :
    Calls Try.prog 16 #[.pointer (some ⟨d, 0, none⟩), .pointer (some ⟨bx, 0, none⟩)] w fun e w' => e = .returned (.bool true) ∧ Keep noM w w' := by
  obtain ⟨n, Sd, Sx, T, hn, hD, hX, _⟩ := h.st
  have hl := h.len
  exact same17_any w Sd d m n s hD (by omega) Sx T bx x hX (by omega) ha

/-- what the loop keeps. -/
def PlaySt (w wr : World) (d m bx : Nat) (c : Nat) (s : DS) (x : RS) : Prop := Joint w wr d m bx s x c ∧ Alike s x
def PlayEx (w wr : World) (d m bx : Nat) (c : Nat) (fresh : Bool) : Prop := ∃ s x, PlaySt w wr d m bx c s x ∧ (fresh = true → s = DS.new)

def noSuch : Bs := [110, 111, 45, 115, 117, 99, 104, 45, 102, 105, 108, 101]

set_option maxRecDepth 100000 in
set_option maxHeartbeats 4000000 in
theorem plays_any (w : World) (sa : Option Addr) (scap : Nat) (L : List ActV) (hA : ActsAt w (fun b => b < w.heap.size) sa L) (hL : L.length ≤ maxLen) :
    Calls Try.prog 4 #[.slice sa L.length scap] w fun e w' => e = .returned (.bool true) ∧ Keep noM w w' := by
  have HH := mkHid (And.intro hA hL)
  clear hA hL
  go_enter Try.func4, Try.ntmps4
  go_wp2_with fail
  refine (great_any w _ sa L scap HH.out.1 HH.out.2).mono ?_
  rintro e w1 ⟨g, rfl, hg, rfl⟩
  have HG := mkHid hg
  clear hg
  cases g
  · go_wp2_with fail
    refine (play_new w w (Keep.refl _ _)).mono ?_
    rintro e w3 ⟨rfl, K1, P1⟩
    obtain ⟨d, hd⟩ : ∃ d, d = w.heap.size + 1 := ⟨_, rfl⟩
    obtain ⟨m, hm⟩ : ∃ m, m = w.heap.size := ⟨_, rfl⟩
    rw [← hd, ← hm] at P1
    rw [← hd]
    have H1 := mkHid P1
    clear P1 K1 hd hm
    go_wp2_with fail
    obtain ⟨bx, hbx⟩ : ∃ bx, bx = w3.heap.size := ⟨_, rfl⟩
    have J0 := joint_start H1.out
    obtain ⟨w4, hw4⟩ : ∃ w4, w4 = w3.alloc (.cells #[.slice none 0 0, .int .i64 0, .bool false, .int .i64 0] 34) := ⟨_, rfl⟩
    rw [← hbx, ← hw4] at J0
    rw [← hbx, ← hw4]
    clear hbx hw4
    have HJ0 := mkHid J0
    clear J0
    go_loopw [5] (fun i wr => ∃ j : Nat, j ≤ L.length ∧ j ≤ 60 ∧ i = .int .i64 j ∧ PlayEx w wr d m bx (2 * j) (decide (j = 0))) (fun i _ => L.length - (intOf i).toNat)
    case atStart => exact ⟨0, by omega, by omega, rfl, DS.new, _, ⟨HJ0.out, Alike.new⟩, fun _ => rfl⟩
    case round =>
      obtain ⟨j, hj, hj60, rfl, s, x, ⟨J, ha⟩, hfr⟩ := hrel
      have HJ := mkHid (And.intro J (And.intro ha hfr))
      clear J ha hfr
      by_cases hlt : j < L.length ∧ j < 60
      · obtain ⟨hlt, h60⟩ := hlt
        obtain ⟨b5, off, rfl, hb, e0, e1, e2, e3, e4⟩ := (HH.out.1.keep HJ.out.1.kp (fun _ _ => not_noM _)).at j hlt
        obtain ⟨av, hav⟩ : ∃ av, av = L[j] := ⟨_, rfl⟩
        rw [← hav] at e0 e1 e2 e3 e4
        have hok : ActOk w (fun b => b < w.heap.size) av := by rw [hav]; exact HH.out.1.ok _ (List.getElem_mem _)
        have hfit : av.fit := by rw [hav]; exact HG.out trivial _ (List.mem_take_iff_getElem.2 ⟨j, by omega, rfl⟩)
        have HAV := mkHid (And.intro hok hfit)
        clear hav hok hfit
        obtain ⟨kd, nm, to, ab, cb2, bs, q⟩ := av
        simp only at e0 e1 e2 e3 e4
        go_wp2_with fail
        refine (do_any w _ d m bx (2 * j) s x HJ.out.1 (by omega) ⟨kd, nm, to, ab, cb2, bs, q⟩ (HAV.out.1.keep HJ.out.1.kp (fun _ _ => not_noM _)) HAV.out.2).mono ?_
        rintro e w5 ⟨rfl, J5⟩
        have hst := HJ.out.2.1.step ⟨kd, nm, to, ab, cb2, bs, q⟩
        rw [hst.2]
        have H5 := mkHid (And.intro J5 hst.1)
        clear J5 hst
        go_wp2_with fail
        refine (joint_same H5.out.1 (by omega) H5.out.2).mono ?_
        rintro e w6 ⟨rfl, K6⟩
        have H6 := mkHid (H5.out.1.keep K6)
        clear K6
        go_wp2
        go_roundw
        case rel => exact ⟨j + 1, by omega, by omega, by go_num, _, _, ⟨H6.out.more (by omega), H5.out.2⟩, fun h => by simp at h⟩
        case measure => simp [intOf]; omega
      · have hx1 : j < L.length → 60 ≤ j := fun h => by omega
        have HX1 := mkHid hx1
        clear hlt hx1
        have h2 : j < L.length → (60 : Int) ≤ (j : Int) := fun h => by have := HX1.out h; omega
        have h3 : j < L.length → decide ((j : Int) < 60) = false := fun h => decide_eq_false (by have := h2 h; omega)
        by_cases h1 : j < L.length
        all_goals first
          | (have h2 := h2 h1
             have h3 := h3 h1
             go_wp2_with fail)
          | (clear h2 h3
             go_wp2_with fail)
        all_goals
          refine (joint_read HJ.out.1 noSuch (by unfold maxLen; decide)).mono ?_
          rintro e w8 ⟨a8, c8, rfl, K8, l1, l2, hb8⟩
          have H8 := mkHid (HJ.out.1.kp.trans K8)
          clear K8 l1 l2 hb8
          have hz : L.length = 0 → (s.f noSuch).isSome = false := fun h => by
            have : s = DS.new := HJ.out.2.2 (by simp; omega)
            rw [this]; rfl
          have HZ := mkHid hz
          clear hz
          by_cases h0 : L.length = 0
          all_goals first
            | (rw [HZ.out h0]
               clear h0
               go_wp2_with fail)
            | (have h0 : 0 < L.length := by omega
               cases (s.f noSuch).isSome
               all_goals go_wp2_with fail)
          all_goals
            refine (awake17_any _).mono ?_
            rintro e w10 ⟨rfl, K10⟩
            have H10 := mkHid (H8.out.trans K10)
            clear K10
            go_wp2
            go_ret
            exact ⟨rfl, H10.out⟩
  · go_wp2_with fail
    refine (awake17_any _).mono ?_
    rintro e w1 ⟨rfl, K1⟩
    have K1 := mkHid K1
    go_wp2
    go_ret
    exact ⟨rfl, K1.out⟩
end Go.Proofs.Ytohbglopgjbfcaa
