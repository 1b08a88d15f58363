/-
  THE REFERENCE DISK, PART 7: starts, Boot.
-/
import Derived.Test.YtohbglopgjbfcaaRef4
set_option linter.unusedVariables false
set_option linter.unusedSimpArgs false
namespace Go.Proofs.Ytohbglopgjbfcaa
open Go.RowKit

set_option maxHeartbeats 1000000 in
theorem starts_any (a b : Option Addr) (xs ys : Bs) (ca cb : Nat) (S S' : Nat → Prop) (w : World) (hx : BytesAt w S a xs) (hy : BytesAt w S' b ys) (hca : xs.length ≤ ca) (lx : xs.length ≤ 262144) (ly : ys.length ≤ 262144) :
    Calls Try.prog 54 #[.slice a xs.length ca, .slice b ys.length cb] w fun e w' => e = .returned (.bool (ys.isPrefixOf xs)) ∧ Keep noM w w' := by
  by_cases h : ys.length ≤ xs.length
  · have HX := mkHid (And.intro hx hy)
    have ht : ys.length ≤ ca := by omega
    clear hx hy
    go_enter Try.func54, Try.ntmps54
    go_wp2_with fail
    have hb : BytesAt w S a (xs.take ys.length) := by unfold BytesAt; rw [bcells_take]; exact HX.out.1.take _
    have hl : (xs.take ys.length).length = ys.length := by simp; omega
    have hsm := same_any a b (xs.take ys.length) ys ca cb S S' w hb HX.out.2 (by unfold maxLen; rw [hl]; omega) (by unfold maxLen; omega)
    rw [hl] at hsm
    refine hsm.mono ?_
    rintro e w1 ⟨rfl, K⟩
    have HK := mkHid K
    clear K hsm hl hb
    go_wp2
    go_ret
    refine ⟨ret_bool ?_, HK.out⟩
    rw [Bool.eq_iff_iff, List.isPrefixOf_iff_prefix, List.prefix_iff_eq_take]
    simp [eq_comm]
  · go_enter Try.func54, Try.ntmps54
    go_wp2
    go_ret
    refine ⟨ret_bool ?_, Keep.refl _ _⟩
    rw [Bool.eq_iff_iff, List.isPrefixOf_iff_prefix]
    simp
    intro hp
    exact h hp.length_le
end Go.Proofs.Ytohbglopgjbfcaa
