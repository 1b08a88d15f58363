/-
  THE CALLS ON A nil DISK.
-/
import Derived.Test.YtfligjbgiigojaaAwake17
set_option linter.unusedVariables false
namespace Go.Proofs.Ytfligjbgiigojaa
open Go.RowKit Go.Maps Go.Sort Go.Shelf

set_option maxHeartbeats 400000 in
theorem write_nil (w : World) (k : ByteArray) (a : Option Addr) (n c : Nat) : Calls Try.prog 12 #[.pointer none, .string k, .slice a n c] w fun e w' => e = .returned (.int .i64 21) ∧ Keep noM w w' := by
  go_enter Try.func12, Try.ntmps12
  go_wp2_with fail
  refine (names_nil _ _).mono ?_
  rintro e w1 ⟨rfl, rfl⟩
  go_wp2
  go_ret
  exact ⟨rfl, alloc_keep _ _ _⟩
set_option maxHeartbeats 400000 in
theorem append_nil (w : World) (k : ByteArray) (a : Option Addr) (n c : Nat) : Calls Try.prog 21 #[.pointer none, .string k, .slice a n c] w fun e w' => e = .returned (.int .i64 21) ∧ Keep noM w w' := by
  go_enter Try.func21, Try.ntmps21
  go_wp2_with fail
  refine (names_nil _ _).mono ?_
  rintro e w1 ⟨rfl, rfl⟩
  go_wp2
  go_ret
  exact ⟨rfl, alloc_keep _ _ _⟩
set_option maxHeartbeats 400000 in
theorem sync_nil (w : World) (k : ByteArray) : Calls Try.prog 13 #[.pointer none, .string k] w fun e w' => e = .returned (.int .i64 21) ∧ Keep noM w w' := by
  go_enter Try.func13, Try.ntmps13
  go_wp2_with fail
  refine (names_nil _ _).mono ?_
  rintro e w1 ⟨rfl, rfl⟩
  go_wp2
  go_ret
  exact ⟨rfl, (((Keep.refl _ _).alloc _).alloc _).alloc _⟩
set_option maxHeartbeats 400000 in
theorem remove_nil (w : World) (k : ByteArray) : Calls Try.prog 24 #[.pointer none, .string k] w fun e w' => e = .returned (.int .i64 21) ∧ Keep noM w w' := by
  go_enter Try.func24, Try.ntmps24
  go_wp2_with fail
  refine (names_nil _ _).mono ?_
  rintro e w1 ⟨rfl, rfl⟩
  go_wp2
  go_ret
  exact ⟨rfl, (((Keep.refl _ _).alloc _).alloc _).alloc _⟩
set_option maxHeartbeats 400000 in
theorem rename_nil (w : World) (k l : ByteArray) : Calls Try.prog 15 #[.pointer none, .string k, .string l] w fun e w' => e = .returned (.int .i64 21) ∧ Keep noM w w' := by
  go_enter Try.func15, Try.ntmps15
  go_wp2_with fail
  refine (names_nil _ _).mono ?_
  rintro e w1 ⟨rfl, rfl⟩
  go_wp2
  go_ret
  exact ⟨rfl, ((((Keep.refl _ _).alloc _).alloc _).alloc _).alloc _⟩
set_option maxHeartbeats 400000 in
theorem fuse_nil (w : World) (q : Int) : Calls Try.prog 14 #[.pointer none, .int .i64 q] w fun e w' => e = .returned (.int .i64 21) ∧ Keep noM w w' := by
  go_enter Try.func14, Try.ntmps14
  go_wp2
  go_ret
  exact ⟨rfl, Keep.refl _ _⟩
set_option maxHeartbeats 400000 in
theorem read_nil (w : World) (k : ByteArray) : Calls Try.prog 17 #[.pointer none, .string k] w fun e w' => e = .returned (.tuple #[.slice none 0 0, .int .i64 11]) ∧ Keep noM w w' := by
  go_enter Try.func17, Try.ntmps17
  go_wp2
  go_ret2
  exact ⟨rfl, Keep.refl _ _⟩
set_option maxHeartbeats 400000 in
theorem namesOf_nil (w : World) : Calls Try.prog 25 #[.pointer none] w fun e w' => e = .returned (.slice none 0 0) ∧ Keep noM w w' := by
  go_enter Try.func25, Try.ntmps25
  go_wp2
  go_ret
  exact ⟨rfl, Keep.refl _ _⟩
set_option maxHeartbeats 400000 in
theorem dead_nil (w : World) : Calls Try.prog 26 #[.pointer none] w fun e w' => e = .returned (.bool false) ∧ Keep noM w w' := by
  go_enter Try.func26, Try.ntmps26
  go_wp2
  go_ret
  exact ⟨rfl, Keep.refl _ _⟩
set_option maxHeartbeats 400000 in
theorem ops_nil (w : World) : Calls Try.prog 27 #[.pointer none] w fun e w' => e = .returned (.int .i64 0) ∧ Keep noM w w' := by
  go_enter Try.func27, Try.ntmps27
  go_wp2
  go_ret
  exact ⟨rfl, Keep.refl _ _⟩
set_option maxHeartbeats 400000 in
theorem copy_nil (w : World) : Calls Try.prog 23 #[.pointer none] w fun e w' => e = .returned (.pointer none) ∧ Keep noM w w' := by
  go_enter Try.func23, Try.ntmps23
  go_wp2
  go_ret
  exact ⟨rfl, Keep.refl _ _⟩
set_option maxHeartbeats 400000 in
theorem boot_nil (w : World) (q : Int) : Calls Try.prog 16 #[.pointer none, .int .i64 q] w fun e w' => e = .returned (.tuple #[]) ∧ Keep noM w w' := by
  refine (callsIn_wide (n := 9)).1 ?_
  refine callsIn_of_wp_marks Try.func16 rfl trivial ?_ rfl
  simp only [Try.ntmps16, List.size_toArray, List.length_cons, List.length_nil, Nat.reduceAdd, Nat.reduceSub, Array.replicate_succ, Array.replicate_zero, List.push_toArray, List.append_toArray, List.nil_append, List.cons_append]
  gi_wp2_with fail
  refine ⟨_, results_none rfl _ _ _, rfl, ?_⟩
  exact ((Keep.refl _ _).alloc _).alloc _
end Go.Proofs.Ytfligjbgiigojaa
