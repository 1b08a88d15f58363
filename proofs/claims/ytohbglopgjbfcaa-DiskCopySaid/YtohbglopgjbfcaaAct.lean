/-
  A STEP OF THE LAWS (suretylaw17.Act) AS IT IS READ.
-/
import Derived.Test.YtohbglopgjbfcaaOpen
set_option linter.unusedVariables false
namespace Go.Proofs.Ytohbglopgjbfcaa
open Go.RowKit Go.ChangeShapes Go.WideShapes Go.ChangeAt

theorem cellsU8 : Try.prog.cellsOf 5 = 1 := by kernel_rfl
theorem cellsBytes : Try.prog.cellsOf 23 = 1 := by kernel_rfl
theorem cellsInt : Try.prog.cellsOf 3 = 1 := by kernel_rfl
theorem cellsStr : Try.prog.cellsOf 9 = 1 := by kernel_rfl
theorem cellsAct : Try.prog.cellsOf 36 = 5 := by kernel_rfl
theorem wf64 {n : Int} (h : (Lit.int .i64 n).wf = true) : -9223372036854775808 ≤ n ∧ n ≤ 9223372036854775807 := by simpa [Lit.wf, IntKind.signed, IntKind.bits, IntKind.min, IntKind.max] using h

/-- a step: kind, name, to, bytes, number. -/
structure ActV where
  kind : Int
  name : Bs
  to : Bs
  a : Option Addr
  cap : Nat
  b : Bs
  q : Int
def ActV.cells (x : ActV) : List Value := [.int .i64 x.kind, .string ⟨x.name.toArray⟩, .string ⟨x.to.toArray⟩, .slice x.a x.b.length x.cap, .int .i64 x.q]
structure ActOk (w : World) (S : Nat → Prop) (x : ActV) : Prop where
  k0 : -9223372036854775808 ≤ x.kind
  k1 : x.kind ≤ 9223372036854775807
  q0 : -9223372036854775808 ≤ x.q
  q1 : x.q ≤ 9223372036854775807
  nm : x.name.length ≤ maxLen
  to : x.to.length ≤ maxLen
  cap : x.b.length ≤ x.cap
  capm : x.cap ≤ maxLen
  b : BytesAt w S x.a x.b

set_option maxRecDepth 10000 in
theorem act_inv {w : World} {S : Nat → Prop} {cs : List Value} {d : D} (h : Rep Try.prog w S 36 cs d) : ∃ x : ActV, cs = x.cells ∧ ActOk w S x := by
  obtain ⟨xs, rfl, hl, hx, he⟩ := h.struct_inv Try.underlying36
  rw [cellsAct] at hl
  obtain ⟨c0, c1, c2, c3, c4, rfl⟩ : ∃ c0 c1 c2 c3 c4, cs = [c0, c1, c2, c3, c4] := by
    match cs, hl with
    | [c0, c1, c2, c3, c4], _ => exact ⟨_, _, _, _, _, rfl⟩
  have hx : xs.length = 5 := hx
  have e0 : Rep Try.prog w S 3 (List.take (Try.prog.cellsOf 3) (List.drop 0 [c0, c1, c2, c3, c4])) (xs[0]'(by omega)) := he 0 (by omega) _ rfl
  have e1 : Rep Try.prog w S 9 (List.take (Try.prog.cellsOf 9) (List.drop 1 [c0, c1, c2, c3, c4])) (xs[1]'(by omega)) := he 1 (by omega) _ rfl
  have e2 : Rep Try.prog w S 9 (List.take (Try.prog.cellsOf 9) (List.drop 2 [c0, c1, c2, c3, c4])) (xs[2]'(by omega)) := he 2 (by omega) _ rfl
  have e3 : Rep Try.prog w S 23 (List.take (Try.prog.cellsOf 23) (List.drop 3 [c0, c1, c2, c3, c4])) (xs[3]'(by omega)) := he 3 (by omega) _ rfl
  have e4 : Rep Try.prog w S 3 (List.take (Try.prog.cellsOf 3) (List.drop 4 [c0, c1, c2, c3, c4])) (xs[4]'(by omega)) := he 4 (by omega) _ rfl
  simp only [cellsInt, cellsStr, cellsBytes, List.drop_zero, List.drop_succ_cons, List.take_succ_cons, List.take_zero] at e0 e1 e2 e3 e4
  obtain ⟨kd, i0, _, w0⟩ := e0.int_inv Try.underlying3
  obtain ⟨nm, i1, _, w1⟩ := e1.str_inv Try.underlying9
  obtain ⟨to, i2, _, w2⟩ := e2.str_inv Try.underlying9
  obtain ⟨a, cap, bs, i3, w3, w3', hb⟩ := e3.bytes Try.underlying23 Try.underlying5 cellsU8
  obtain ⟨q, i4, _, w4⟩ := e4.int_inv Try.underlying3
  simp at i0 i1 i2 i3 i4
  refine ⟨⟨kd, nm, to, a, cap, bs, q⟩, by simp [ActV.cells, i0, i1, i2, i3, i4], ?_⟩
  exact ⟨(wf64 w0).1, (wf64 w0).2, (wf64 w4).1, (wf64 w4).2, w1, w2, w3, w3', hb⟩
end Go.Proofs.Ytohbglopgjbfcaa
