/-
  THE REFERENCE, PART 0: suretyref06.Word, suretyref01.Pick.
-/
import Derived.Test.YtohbglopgjbfcaaBytes
set_option linter.unusedVariables false
set_option linter.unusedSimpArgs false
namespace Go.Proofs.Ytohbglopgjbfcaa
open Go.RowKit

theorem notWord (n : Int) : (!wordN n) = (!smallB n && !(decide (65 ≤ n) && decide (n ≤ 90)) && !(decide (48 ≤ n) && decide (n ≤ 57)) && decide (n ≠ 95) && decide (n ≠ 45) && decide (n ≠ 46)) := by
  simp [wordN, digitB, Bool.and_assoc]

set_option maxHeartbeats 1000000 in
theorem RWord_any (s : Bs) (hs : s.length ≤ maxLen) (w : World) : Calls Try.prog 48 #[.string ⟨s.toArray⟩] w fun e w' => e = .returned (.bool (word s)) ∧ w = w' := by
  unfold maxLen at hs
  by_cases h1 : 1 ≤ s.length ∧ s.length ≤ 24
  · obtain ⟨h1, h24⟩ := h1
    go_enter Try.func48, Try.ntmps48
    go_wp2
    go_loop [3, 4] (fun i _ => ∃ k : Nat, k ≤ s.length ∧ i = .int .i64 k ∧ (s.take k).all (fun c => wordN c.toNat) = true) (fun i _ => s.length - (intOf i).toNat)
    case atStart => exact ⟨0, by omega, rfl, by simp⟩
    case round =>
      obtain ⟨k, hk, rfl, ht⟩ := hrel
      have HT := mkHid ht; clear ht
      by_cases hlt : k < s.length
      · obtain ⟨c, hc⟩ : ∃ c, c = s[k] := ⟨_, rfl⟩
        have hidx : (⟨s.toArray⟩ : ByteArray)[k]'(by simpa [ByteArray.size] using hlt) = c := by rw [hc]; rfl
        obtain ⟨n, hn⟩ : ∃ n : Int, n = (c.toNat : Int) := ⟨_, rfl⟩
        have HC := mkHid (And.intro hc hn)
        clear hc
        go_wp2_with (go_at_call 66; refine (rsmall_any _ _).mono ?_; rintro e w' ⟨rfl, rfl⟩)
        all_goals first
          | (go_round
             case rel =>
               refine ⟨k + 1, by omega, by go_num, ?_⟩
               rw [List.take_succ_eq_append_getElem hlt, List.all_append, HT.out, ← HC.out.1]
               have : wordN c.toNat = true := by
                 unfold wordN digitB
                 simp_all
                 try omega
               simp [this]
             case measure => simp [intOf]; omega)
          | (go_ret
             refine ⟨ret_bool ?_, rfl⟩
             have hw : wordN c.toNat = false := by
               unfold wordN digitB
               simp_all
               try omega
             have : s.all (fun c => wordN c.toNat) = false := by
               rw [Bool.eq_false_iff]; intro h
               have := List.all_eq_true.1 h _ (List.getElem_mem hlt)
               rw [← HC.out.1, hw] at this; cases this
             simp [word, this])
      · go_wp2
        go_ret
        refine ⟨ret_bool ?_, rfl⟩
        have h := HT.out
        rw [List.take_of_length_le (by omega)] at h
        simp [word, h, h1, h24]
  · by_cases h0 : s.length < 1
    · go_enter Try.func48, Try.ntmps48
      go_wp2
      go_ret
      exact ⟨ret_bool (by simp [word]; omega), rfl⟩
    · have h2 : 24 < s.length := by omega
      go_enter Try.func48, Try.ntmps48
      go_wp2
      go_ret
      exact ⟨ret_bool (by simp [word]; omega), rfl⟩

def pick (k n : Int) : Int := if n < 1 then 0 else k % n
set_option maxHeartbeats 400000 in
theorem Pick_any (k n : Int) (w : World) (k0 : -9223372036854775808 ≤ k) (k1 : k ≤ 9223372036854775807) (n0 : -9223372036854775808 ≤ n) (n1 : n ≤ 4611686018427387904) :
    Calls Try.prog 47 #[.int .i64 k, .int .i64 n] w fun e w' => e = .returned (.int .i64 (pick k n)) ∧ w = w' := by
  by_cases hn : n < 1
  · go_enter Try.func47, Try.ntmps47
    go_wp2
    go_ret
    exact ⟨ret_i64 (by simp [pick, hn]), rfl⟩
  · obtain ⟨t0, t1, t2, t3, t4⟩ := tmod_twice k n (by omega)
    obtain ⟨r, hr⟩ : ∃ r, r = k.tmod n := ⟨_, rfl⟩
    have hpk : pick k n = if r < 0 then r + n else r := by
      unfold pick
      rw [if_neg hn, ← t4, ← hr]
      rw [← hr] at t0 t1 t2 t3
      split
      · rw [Int.tmod_eq_emod_of_nonneg (by omega), Int.emod_eq_of_lt (by omega) (by omega)]
      · rw [Int.tmod_eq_emod_of_nonneg (by omega), Int.add_emod_right, Int.emod_eq_of_lt (by omega) (by omega)]
    have hz : (n == 0) = false := by simp; omega
    rw [← hr] at t0 t1 t2 t3
    have HR := mkHid hpk
    have hr' := hr.symm
    clear hr
    have hn1 : 1 ≤ n := by omega
    clear t4 hpk hn
    by_cases hneg : r < 0
    · go_enter Try.func47, Try.ntmps47
      go_wp2
      go_ret
      exact ⟨ret_i64 (by rw [HR.out, if_pos hneg]), rfl⟩
    · go_enter Try.func47, Try.ntmps47
      go_wp2
      go_ret
      exact ⟨ret_i64 (by rw [HR.out, if_neg (by omega)]), rfl⟩
end Go.Proofs.Ytohbglopgjbfcaa
