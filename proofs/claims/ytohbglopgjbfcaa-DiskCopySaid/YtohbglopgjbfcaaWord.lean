/-
  THE NAMES OF FILES: addr.Word and suretyref06.Word answer 'word' of a text, whatever the text.
-/
import Derived.Test.YtohbglopgjbfcaaProg
import Derived.Test.YtohbglopgjbfcaaBase
set_option linter.unusedVariables false
namespace Go.Proofs.Ytohbglopgjbfcaa
open Go.RowKit

theorem ret_bool {a b : Bool} (h : a = b) : Ending.returned (.bool a) = .returned (.bool b) := by rw [h]
theorem ret_i64 {a b : Int} (h : a = b) : Ending.returned (.int .i64 a) = .returned (.int .i64 b) := by rw [h]

def smallB (n : Int) : Bool := decide (97 ≤ n) && decide (n ≤ 122)
def digitB (n : Int) : Bool := decide (48 ≤ n) && decide (n ≤ 57)
def wordN (n : Int) : Bool := smallB n || (decide (65 ≤ n) && decide (n ≤ 90)) || digitB n || decide (n = 95) || decide (n = 45) || decide (n = 46)
/-- may a text be a key? -/
def word (s : Bs) : Bool := decide (1 ≤ s.length) && decide (s.length ≤ 24) && s.all fun c => wordN c.toNat

theorem or32_all : ∀ n : Fin 256, (smallB (bits BinOp.or IntKind.u8 (n.val : Nat) 32) || digitB (n.val : Nat) || decide (((n.val : Nat) : Int) = 95) || decide (((n.val : Nat) : Int) = 45) || decide (((n.val : Nat) : Int) = 46)) = wordN (n.val : Nat) := by decide +kernel
theorem or32 (c : UInt8) : (smallB (bits BinOp.or IntKind.u8 c.toNat 32) || digitB c.toNat || decide ((c.toNat : Int) = 95) || decide ((c.toNat : Int) = 45) || decide ((c.toNat : Int) = 46)) = wordN c.toNat :=
  or32_all ⟨c.toNat, c.toNat_lt⟩

set_option maxHeartbeats 400000 in
theorem small_any (n : Int) (w : World) : Calls Try.prog 64 #[.int .u8 n] w fun e w' => e = .returned (.bool (smallB n)) ∧ w = w' := by
  go_enter Try.func64, Try.ntmps64
  go_wp2
  all_goals
    go_ret
    exact ⟨ret_bool (by unfold smallB; simp; try omega), rfl⟩
set_option maxHeartbeats 400000 in
theorem rsmall_any (n : Int) (w : World) : Calls Try.prog 66 #[.int .u8 n] w fun e w' => e = .returned (.bool (smallB n)) ∧ w = w' := by
  go_enter Try.func66, Try.ntmps66
  go_wp2
  all_goals
    go_ret
    exact ⟨ret_bool (by unfold smallB; simp; try omega), rfl⟩
set_option maxHeartbeats 400000 in
theorem digit_any (n : Int) (w : World) : Calls Try.prog 65 #[.int .u8 n] w fun e w' => e = .returned (.bool (digitB n)) ∧ w = w' := by
  go_enter Try.func65, Try.ntmps65
  go_wp2
  all_goals
    go_ret
    exact ⟨ret_bool (by unfold digitB; simp; try omega), rfl⟩
set_option maxHeartbeats 400000 in
theorem word1_any (c : UInt8) (w : World) : Calls Try.prog 63 #[.int .u8 c.toNat] w fun e w' => e = .returned (.bool (wordN c.toNat)) ∧ w = w' := by
  have H := mkHid (or32 c)
  go_enter Try.func63, Try.ntmps63
  go_wp2_with (first | (go_at_call 64; refine (small_any _ _).mono ?_; rintro e w' ⟨rfl, rfl⟩) | (go_at_call 65; refine (digit_any _ _).mono ?_; rintro e w' ⟨rfl, rfl⟩))
  all_goals
    go_ret
    refine ⟨ret_bool ?_, rfl⟩
    rw [← H.out]
    first | (simp [*]; done) | (rw [Bool.eq_iff_iff]; simp [*]; try omega)
set_option maxHeartbeats 400000 in
theorem spelled_any (s : Bs) (hs : s.length ≤ maxLen) (w : World) : Calls Try.prog 62 #[.string ⟨s.toArray⟩, .func (.func 63) #[] #[]] w fun e w' => e = .returned (.bool (word s)) ∧ w = w' := by
  unfold maxLen at hs
  by_cases h0 : s = []
  · subst h0
    go_enter Try.func62, Try.ntmps62
    go_wp2
    go_ret
    exact ⟨ret_bool (by simp [word]), rfl⟩
  · have h1 : s.isEmpty = false := by simpa using h0
    clear h0
    by_cases h24 : s.length ≤ 24
    · go_enter Try.func62, Try.ntmps62
      go_wp2
      go_loop [5, 15] (fun _ i => ∃ k : Nat, k ≤ s.length ∧ i = .int .i64 k ∧ (s.take k).all (fun c => wordN c.toNat) = true) (fun _ i => s.length - (intOf i).toNat)
      case atStart => exact ⟨0, by omega, rfl, by simp⟩
      case round =>
        obtain ⟨k, hk, rfl, ht⟩ := hrel
        have HT := mkHid ht; clear ht
        by_cases hlt : k < s.length
        · go_wp2_with (go_at_call 63; refine (word1_any s[k] _).mono ?_; rintro e w' ⟨rfl, rfl⟩)
          · have hne : (!wordN s[k].toNat) = true := by assumption
            go_ret
            refine ⟨ret_bool ?_, rfl⟩
            have : s.all (fun c => wordN c.toNat) = false := by
              rw [Bool.eq_false_iff]; intro h; rw [List.all_eq_true.1 h _ (List.getElem_mem hlt)] at hne; cases hne
            simp [word, this]
          · have hyes : (!wordN s[k].toNat) = false := by assumption
            simp at hyes
            go_round
            case rel => exact ⟨k + 1, by omega, by go_num, by rw [List.take_succ_eq_append_getElem hlt, List.all_append, HT.out]; simp [hyes]⟩
            case measure => simp [intOf]; omega
        · go_wp2
          go_ret
          refine ⟨ret_bool ?_, rfl⟩
          have h := HT.out
          rw [List.take_of_length_le (by omega)] at h
          simp only [word, h, h24, decide_true, Bool.and_true]
          have : s ≠ [] := by intro e; subst e; simp at h1
          have : 1 ≤ s.length := List.length_pos_iff.2 this
          simp [this]
    · go_enter Try.func62, Try.ntmps62
      go_wp2
      go_ret
      exact ⟨ret_bool (by simp [word, h24]), rfl⟩
set_option maxHeartbeats 400000 in
theorem Word_any (s : Bs) (hs : s.length ≤ maxLen) (w : World) : Calls Try.prog 43 #[.string ⟨s.toArray⟩] w fun e w' => e = .returned (.bool (word s)) ∧ w = w' := by
  go_enter Try.func43, Try.ntmps43
  go_wp2_with (go_at_call 62; refine (spelled_any s hs _).mono ?_; rintro e w' ⟨rfl, rfl⟩)
  go_ret
  exact ⟨rfl, rfl⟩
end Go.Proofs.Ytohbglopgjbfcaa
