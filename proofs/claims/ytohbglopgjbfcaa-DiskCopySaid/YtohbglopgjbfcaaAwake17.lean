/-
  suretylaw17.awake: true, at every world.
-/
import Derived.Test.YtohbglopgjbfcaaPlay
import Derived.Lib.SlBytesConst
set_option linter.unusedVariables false
namespace Go.Proofs.Ytohbglopgjbfcaa
open Go.RowKit Go.Maps Go.Sort Go.Shelf

theorem row_two (w : World) (x y : UInt8) : BytesAt (w.alloc (.cells #[.int .u8 x.toNat, .int .u8 y.toNat] 5 (2, 3))) (fun _ => True) (some ⟨w.heap.size, 0, none⟩) [x, y] :=
  RowAt.of_row (heap_alloc_new w _) trivial (by simp [bcells])

/-- the states that awake comes through. -/
def wk1 : DS := DS.new.write [102] [97, 98]
def wk2 : DS := wk1.doS (wk1.preE [[102]] [102]) (wk1.f.put [102] ((look wk1 [102]).1, (look wk1 [102]).1))
def wk3 : DS := wk2.append [102] [99, 100]
def wk4 : DS := wk3.boot 1
theorem wk_e1 : DS.new.writeE [102] [97, 98] = 0 := by decide
theorem wk_e2 : wk1.doE (wk1.preE [[102]] [102]) = 0 := by decide
theorem wk_e3 : wk2.appendE [102] [99, 100] = 0 := by decide
theorem wk_look : (look wk4 [102]).1 = [97, 98, 99] := by decide
theorem wk_some : (wk4.f [102]).isSome = true := by decide

set_option maxRecDepth 100000 in
set_option maxHeartbeats 1000000 in
theorem awake17_any (w : World) : Calls Try.prog 7 #[] w fun e w' => e = .returned (.bool true) ∧ Keep noM w w' := by
  have hcv := fun (w : World) (C : Array Value) (n c : Nat) => Lib.run_convert_bytes_const (P := Try.prog) w 23 5 C n c Try.underlying23 Try.underlying5
  go_enter Try.func7, Try.ntmps7
  go_wp2_with fail
  refine (play_new w w (Keep.refl _ _)).mono ?_
  rintro e w1 ⟨rfl, K1, P1⟩
  obtain ⟨d, hd⟩ : ∃ d, d = w.heap.size + 1 := ⟨_, rfl⟩
  obtain ⟨m, hm⟩ : ∃ m, m = w.heap.size := ⟨_, rfl⟩
  rw [← hd, ← hm] at P1
  rw [← hd]
  have H1 := mkHid P1
  clear P1 K1 hd hm
  go_wp2_with fail
  refine (play_write (H1.out.keep (alloc_keep _ _ _)) (by omega) [102] [97, 98] (by unfold maxLen; decide) _ 2 _ (row_two w1 97 98) (by decide)).mono ?_
  rintro e w2 ⟨rfl, K2, P2⟩
  have H2 : Hid (Play w w2 d m wk1 1) := mkHid P2
  rw [wk_e1]
  clear P2 K2
  go_wp2_with fail
  refine (play_sync H2.out (by omega) [102] (by unfold maxLen; decide)).mono ?_
  rintro e w3 ⟨rfl, K3, P3⟩
  have H3 : Hid (Play w w3 d m wk2 2) := mkHid P3
  rw [wk_e2]
  clear P3 K3
  go_wp2_with fail
  refine (play_append (H3.out.keep (alloc_keep _ _ _)) (by omega) [102] [99, 100] (by unfold maxLen; decide) _ 2 _ (row_two w3 99 100) (by decide)).mono ?_
  rintro e w4 ⟨rfl, K4, P4⟩
  have H4 : Hid (Play w w4 d m wk3 3) := mkHid P4
  rw [wk_e3]
  clear P4 K4
  go_wp2_with fail
  refine (play_boot H4.out (by omega) 1 (by omega) (by omega)).mono ?_
  rintro e w5 ⟨rfl, K5, P5⟩
  have H5 : Hid (Play w w5 d m wk4 4) := mkHid P5
  clear P5 K5
  go_wp2_with fail
  refine (play_read H5.out [102] (by unfold maxLen; decide)).mono ?_
  rintro e w6 ⟨a, c, rfl, K6, l1, l2, hb⟩
  rw [wk_look] at hb l1 ⊢
  rw [wk_some]
  have hs : (convert 23 9 (.slice a 3 c)).run Try.prog w6 = .ok (.string ⟨#[97, 98, 99]⟩) w6 := conv_bytes hb c
  have H6 := mkHid (H5.out.kp.trans K6)
  clear K6 l1 l2 hb
  go_wp2
  go_ret
  exact ⟨rfl, H6.out⟩
end Go.Proofs.Ytohbglopgjbfcaa
