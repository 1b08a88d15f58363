/-
  'append(own, bs...)' of bytes: the source may be nil.
-/
import Derived.Test.YtohbglopgjbfcaaConcat
set_option linter.unusedVariables false
namespace Go.Proofs.Ytohbglopgjbfcaa
open Go.RowKit

theorem wpList_appendB {ops : Array Oper} {rest : List Oper} {o : Oper} {a : Act} {Q : Exit → Act → World → Prop} {w : World} (hgd : o.guard = none) (s x : Operand)
    (ho : o.op = .call { callee := .builtin .append, args := #[s, x], argTypes := #[23, 23] }) (base : Nat) (v : Value) (xs : Bs) (hs : a.eval s = v) (hown : w.ownsRow base 5 1 v xs.length (bcells xs))
    (ad : Option Addr) (c : Nat) (bs : Bs) (hx : a.eval x = .slice ad bs.length c) (S : Nat → Prop) (hb : BytesAt w S ad bs) (hbytes : xs.length + bs.length ≤ 140737488355328) (hbase : base ≤ w.heap.size)
    (h : ∀ v' w', w'.ownsRow base 5 1 v' (xs ++ bs).length (bcells (xs ++ bs)) → Keep (fun k => v.ownBlock = some k) w w' → wpList Try.prog ops Q rest (a.put o.dst v') w') : wpList Try.prog ops Q (o :: rest) a w := by
  obtain ⟨i0, hi, hz0, hz1, hz2⟩ := info_parts Try.infoU8
  cases ad with
  | none =>
    have hbs : bs = [] := by
      rcases hb with h | ⟨b, o, e, _⟩
      · simpa [bcells] using h
      · cases e
    subst hbs
    have hr := run_append_none0 23 o.type 5 i0 1 Try.underlying23 hi _ _ _ hown c
    exact Lib.wpList_append_run _ hgd s x _ _ ho _ _ hs hx _ _ hr (h v w (by simpa using hown) (Keep.refl _ _))
  | some ad =>
    refine wpList_append_own _ hgd s x 23 ho base 5 i0 (.int .u8 0) 1 1 Try.underlying23 hi hz0 hz1 hz2 rfl (by decide) v xs.length (bcells xs) hs hown ad bs.length c (bcells bs) hx (by simp) (row_cells hb) (bcells_oneCell _) (by unfold maxLen; omega) (by omega) hbase ?_
    intro v' w' h1 h2 _
    refine h v' w' (by rw [bcells_append, List.length_append]; exact h1) ((Keep.refl _ _).grown h2 (fun k e => .inl e))
end Go.Proofs.Ytohbglopgjbfcaa
