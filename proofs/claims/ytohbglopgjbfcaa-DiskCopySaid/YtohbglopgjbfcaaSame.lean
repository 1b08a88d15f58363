/-
  suretyref01.Same: the two bytes slices are equal.
-/
import Derived.Test.YtohbglopgjbfcaaBytes
set_option linter.unusedVariables false
namespace Go.Proofs.Ytohbglopgjbfcaa
open Go.RowKit

theorem drewN_ex (w : World) (n : Nat) : ∃ m, w.drewN n = w.drewN m := ⟨n, rfl⟩
set_option maxHeartbeats 400000 in
theorem same_any (a b : Option Addr) (xs ys : List UInt8) (ca cb : Nat) (S S' : Nat → Prop) (w : World) (hx : BytesAt w S a xs) (hy : BytesAt w S' b ys) (lx : xs.length ≤ maxLen) (ly : ys.length ≤ maxLen) :
    Calls Try.prog 13 #[.slice a xs.length ca, .slice b ys.length cb] w fun e w' => e = .returned (.bool (decide (xs = ys))) ∧ Keep noM w w' := by
  unfold maxLen at lx ly
  by_cases hl : xs.length = ys.length
  · have hl1 : ((xs.length : Int) != (ys.length : Int)) = false := by simp [hl]
    have HL := mkHid hl; clear hl
    go_enter Try.func13, Try.ntmps13
    go_wp2
    go_loopw [5] (fun i wr => ∃ k : Nat, k ≤ xs.length ∧ i = .int .i64 k ∧ xs.take k = ys.take k ∧ ∃ n, wr = w.drewN n) (fun i _ => xs.length - (intOf i).toNat)
    case atStart => exact ⟨0, by omega, rfl, rfl, 0, rfl⟩
    case round =>
      obtain ⟨k, hk, rfl, ht, n, rfl⟩ := hrel
      have HT := mkHid ht; clear ht
      by_cases hlt : k < xs.length
      · have hlt2 : k < ys.length := by rw [← HL.out]; exact hlt
        obtain ⟨b1, o1, rfl, h1⟩ := hx.byte hlt
        obtain ⟨b2, o2, rfl, h2⟩ := hy.byte hlt2
        go_wp2
        go_quiet (fail)
        go_wp2
        · have hne : ((xs[k].toNat : Int) != (ys[k].toNat : Int)) = true := by assumption
          go_ret
          refine ⟨?_, ((Keep.refl _ _).drewN _).drewN _⟩
          have : xs ≠ ys := by
            rintro rfl
            simp at hne
          simp [this]
        · have heq : ((xs[k].toNat : Int) != (ys[k].toNat : Int)) = false := by assumption
          go_roundw
          case rel =>
            refine ⟨k + 1, by omega, by go_num, ?_, drewN_ex _ _⟩
            have e : xs[k] = ys[k] := by
              simp at heq; exact UInt8.toNat_inj.1 (by omega)
            rw [List.take_succ_eq_append_getElem hlt, List.take_succ_eq_append_getElem hlt2, HT.out, e]
          case measure => simp [intOf]; omega
      · go_wp2
        go_ret
        refine ⟨?_, (Keep.refl _ _).drewN _⟩
        have : xs = ys := by
          have h := HT.out
          rwa [List.take_of_length_le (by omega), List.take_of_length_le (by rw [← HL.out]; omega)] at h
        simp [this]
  · have hl1 : ((xs.length : Int) != (ys.length : Int)) = true := by simp; omega
    go_enter Try.func13, Try.ntmps13
    go_wp2
    go_ret
    have : xs ≠ ys := by rintro rfl; exact hl rfl
    exact ⟨by simp [this], Keep.refl _ _⟩
end Go.Proofs.Ytohbglopgjbfcaa
