/-
  suretylaw17.DiskCopy: at every input the law returns true, and its arguments read behind the call as they read before. No condition.
-/
import Derived.Test.YtohbglopgjbfcaaRows
import Derived.Test.YtohbglopgjbfcaaCopyWalk
import Derived.Test.YtohbglopgjbfcaaAct
import Derived.Test.YtohbglopgjbfcaaOpen
import Derived.ShutString
import Derived.Below
namespace Go.Proofs.Ytohbglopgjbfcaa.diskCopyDone
open Go.ChangeShapes Go.WideShapes Go.ChangeAt Go.RowKit
set_option linter.unusedVariables false

theorem own : ownKnob Try.prog.godebug = none := by kernel_rfl
theorem laidOut : laidOutB Try.prog = true := by kernel_rfl
theorem cells5 : Try.prog.cellsOf 5 = 1 := by kernel_rfl
theorem plain_bytes : ∀ n, plainT Try.prog n 23 = true := fun n => plain_of_closed (T := [23, 5]) (by kernel_rfl) n _ (by simp)
theorem plain_acts : ∀ n, plainT Try.prog n 22 = true := fun n => plain_of_closed (T := [22, 36, 3, 9, 23, 5]) (by kernel_rfl) n _ (by simp)

set_option maxRecDepth 100000 in
theorem lifted (os : Os) (started : os.Started) (H : Type) (enc : TypeId × Value → H) :
    ReturnsInHanded {} Try.checked os 5 .any (Rows.diskCopySpec.pre6 enc Try.prog Try.f5 Rows.diskCopyRow.domain false) (Rows.diskCopySpec.post enc Try.prog Try.f5 false true false false) := by
  refine returnsInHanded_of_change (C := Try.checked) own started (by kernel_rfl) Try.func5
    (ChangeSpec.witness6 (enc := enc) (C := Try.checked) false ⟨#[], #[.slice none 0 0, .slice none 0 0], []⟩ 8 (by kernel_rfl) (by kernel_rfl) (by kernel_rfl) (by kernel_rfl)) ?_
  intro W base args ds gs before hval0 hW hcnd _
  have hval : ∀ (j : Nat) t v, Try.f5.params[j]? = some t → args[j]? = some v → Value.okWide Try.prog W .any base t v := hval0
  have hW' := hW
  obtain ⟨p, q, hA0, hV, rfl, hfz, hnd⟩ := hW
  have hA : DataW.TrodAll enc Try.prog W 0 (fun _ => true) true Try.f5.params.toList args.toList ds p := hA0
  rw [Try.params5] at hA hval
  obtain ⟨v0, vs0, d0, ds0, p0, q0, hargs, rfl, rfl, h0, r0⟩ := trodAll_cons hA
  obtain ⟨v1, vs1, d1, ds1, p1, q1, rfl, rfl, rfl, h1, r1⟩ := trodAll_cons r0
  obtain ⟨rfl, rfl, rfl⟩ := trodAll_nil r1
  obtain rfl : args = #[v0, v1] := by cases args; simp_all
  obtain ⟨rfl, rfl⟩ := trodVars_none hV
  obtain ⟨a0, len0, cap0, rfl⟩ := okWide_slice Try.underlying22 (hval 0 22 v0 rfl rfl)
  have k0 := h0
  have lt0 : ∀ x ∈ p0, x.block < W.heap.size := by obtain ⟨m, hm⟩ := k0; exact DataW.trod_lt m _ _ _ hm
  obtain ⟨a1, len1, cap1, rfl⟩ := okWide_slice Try.underlying22 (hval 1 22 v1 rfl rfl)
  have k1 := h1
  have lt1 : ∀ x ∈ p1, x.block < W.heap.size := by obtain ⟨m, hm⟩ := k1; exact DataW.trod_lt m _ _ _ hm
  obtain ⟨b0, e0, l0, w0⟩ : ∃ L : List ActV, len0 = L.length ∧ L.length ≤ maxLen ∧ ActsAt W (fun b => b < W.heap.size) a0 L := by
    obtain ⟨m, hm⟩ := h0
    obtain ⟨d, hd⟩ := rep_of_trod m _ _ _ plain_acts hm
    obtain ⟨a, cap, L, e, hl, hb⟩ := acts_inv hd
    simp [Value.cells] at e
    obtain ⟨rfl, rfl, rfl⟩ := e
    exact ⟨L, rfl, hl, hb⟩
  subst e0
  obtain ⟨b1, e1, l1, w1⟩ : ∃ L : List ActV, len1 = L.length ∧ L.length ≤ maxLen ∧ ActsAt W (fun b => b < W.heap.size) a1 L := by
    obtain ⟨m, hm⟩ := h1
    obtain ⟨d, hd⟩ := rep_of_trod m _ _ _ plain_acts hm
    obtain ⟨a, cap, L, e, hl, hb⟩ := acts_inv hd
    simp [Value.cells] at e
    obtain ⟨rfl, rfl, rfl⟩ := e
    exact ⟨L, rfl, hl, hb⟩
  subst e1
  clear hA0 hval0
  refine (copy_any W a0 a1 cap0 cap1 b0 b1 w0 l0 w1 l1).mono fun e W' ⟨he, hk⟩ => ?_
  subst he
  have bel := hk.below
  exact ⟨_, rfl, _, _, _, [], _, [], hW', trodAll_mk1 (shut_bool Try.underlying4 _), (trodAll_cons_mk (Below.trod laidOut (by kernel_rfl) (of_decide_eq_true (by kernel_rfl)) k0 bel lt0) (trodAll_cons_mk (Below.trod laidOut (by kernel_rfl) (of_decide_eq_true (by kernel_rfl)) k1 bel lt1) trodAll_mk0)), rfl, bel.frame _, fun h => by cases h⟩

theorem over : Rows.diskCopyRow.holds Try.pinned (OpenSpec.ofChange Rows.diskCopySpec) :=
  OpenClaim.holds_of_wide 5 Try.f5 rfl rfl rfl rfl rfl rfl rfl ⟨rfl, rfl, rfl, rfl, rfl⟩ rfl rfl rfl rfl rfl (by kernel_rfl) Try.func5 (by kernel_rfl)
    (of_decide_eq_true (by kernel_rfl)) (by unfold Func.isWrapper; first | (rw [if_pos (by decide +kernel)]; kernel_rfl) | (rw [if_neg (by decide +kernel)]; exact ⟨rfl, rfl⟩))
    (fun os started H enc _ => lifted os started H enc)

end Go.Proofs.Ytohbglopgjbfcaa.diskCopyDone
namespace Go.Proofs.Ytohbglopgjbfcaa
theorem diskCopy_proved : Rows.DiskCopySaid := diskCopyDone.over
#print axioms diskCopy_proved
end Go.Proofs.Ytohbglopgjbfcaa
