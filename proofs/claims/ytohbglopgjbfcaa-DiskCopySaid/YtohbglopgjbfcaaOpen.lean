/-
  THE ARGUMENTS' READINGS: of plain data, its parts.
-/
import Derived.Test.YtohbglopgjbfcaaWord
set_option linter.unusedVariables false
namespace Go.Proofs.Ytohbglopgjbfcaa
open Go.RowKit Go.ChangeShapes Go.WideShapes Go.ChangeAt

variable {P : Program} {w : World} {S : Nat → Prop}
theorem Rep.int_inv {t : TypeId} {k : IntKind} {cs : List Value} {d : D} (h : Rep P w S t cs d) (ht : P.underlying t = some (.int k)) : ∃ n, cs = [.int k n] ∧ d = .int n ∧ (Lit.int k n).wf = true := by
  cases h with
  | int ht' hw => rw [ht] at ht'; cases ht'; exact ⟨_, rfl, rfl, hw⟩
  | bool ht' => rw [ht] at ht'; cases ht'
  | str ht' _ => rw [ht] at ht'; cases ht'
  | slice _ ht' _ _ _ _ _ => rw [ht] at ht'; cases ht'
  | struct ht' _ _ _ => rw [ht] at ht'; cases ht'
  | array ht' _ _ _ => rw [ht] at ht'; cases ht'
theorem Rep.bool_inv {t : TypeId} {cs : List Value} {d : D} (h : Rep P w S t cs d) (ht : P.underlying t = some .bool) : ∃ b, cs = [.bool b] ∧ d = .bool b := by
  cases h with
  | int ht' hw => rw [ht] at ht'; cases ht'
  | bool ht' => exact ⟨_, rfl, rfl⟩
  | str ht' _ => rw [ht] at ht'; cases ht'
  | slice _ ht' _ _ _ _ _ => rw [ht] at ht'; cases ht'
  | struct ht' _ _ _ => rw [ht] at ht'; cases ht'
  | array ht' _ _ _ => rw [ht] at ht'; cases ht'
theorem Rep.str_inv {t : TypeId} {cs : List Value} {d : D} (h : Rep P w S t cs d) (ht : P.underlying t = some .string) : ∃ s : Bs, cs = [.string ⟨s.toArray⟩] ∧ d = .str s ∧ s.length ≤ maxLen := by
  cases h with
  | int ht' hw => rw [ht] at ht'; cases ht'
  | bool ht' => rw [ht] at ht'; cases ht'
  | str ht' hl => exact ⟨_, rfl, rfl, hl⟩
  | slice _ ht' _ _ _ _ _ => rw [ht] at ht'; cases ht'
  | struct ht' _ _ _ => rw [ht] at ht'; cases ht'
  | array ht' _ _ _ => rw [ht] at ht'; cases ht'
theorem Rep.slice_inv {t e : TypeId} {cs : List Value} {d : D} (h : Rep P w S t cs d) (ht : P.underlying t = some (.slice e)) :
    ∃ a cap xs css, cs = [.slice a xs.length cap] ∧ d = .slice xs ∧ xs.length ≤ cap ∧ cap ≤ maxLen ∧ ElemsAt w S (P.cellsOf e) a xs.length css ∧ ∀ i (h : i < xs.length), Rep P w S e (css i) xs[i] := by
  cases h with
  | int ht' hw => rw [ht] at ht'; cases ht'
  | bool ht' => rw [ht] at ht'; cases ht'
  | str ht' hl => rw [ht] at ht'; cases ht'
  | slice css ht' hl hc hm hr he => rw [ht] at ht'; cases ht'; subst hl; exact ⟨_, _, _, css, rfl, rfl, hc, hm, hr, he⟩
  | struct ht' _ _ _ => rw [ht] at ht'; cases ht'
  | array ht' _ _ _ => rw [ht] at ht'; cases ht'
theorem Rep.struct_inv {t : TypeId} {fs : Array Field} {cs : List Value} {d : D} (h : Rep P w S t cs d) (ht : P.underlying t = some (.struct fs)) :
    ∃ xs, d = .agg xs ∧ cs.length = P.cellsOf t ∧ xs.length = fs.size ∧ ∀ j (h : j < xs.length) f, fs[j]? = some f → Rep P w S f.type ((cs.drop f.offset).take (P.cellsOf f.type)) xs[j] := by
  cases h with
  | int ht' hw => rw [ht] at ht'; cases ht'
  | bool ht' => rw [ht] at ht'; cases ht'
  | str ht' hl => rw [ht] at ht'; cases ht'
  | slice _ ht' _ _ _ _ _ => rw [ht] at ht'; cases ht'
  | struct ht' hl hx he => rw [ht] at ht'; cases ht'; exact ⟨_, rfl, hl, hx, he⟩
  | array ht' _ _ _ => rw [ht] at ht'; cases ht'

def byteD : D → UInt8 | .int n => UInt8.ofNat n.toNat | _ => 0
theorem Rep.byte_inv {e : TypeId} {cs : List Value} {d : D} (h : Rep P w S e cs d) (he : P.underlying e = some (.int .u8)) : cs = [.int .u8 (byteD d).toNat] := by
  obtain ⟨n, rfl, rfl, hw⟩ := h.int_inv he
  have h1 : 0 ≤ n ∧ n ≤ 255 := by simpa [Lit.wf, IntKind.signed, IntKind.bits, IntKind.min, IntKind.max] using hw
  have : ((byteD (.int n)).toNat : Int) = n := by simp [byteD]; omega
  rw [this]
theorem Rep.bytes {t e : TypeId} {cs : List Value} {d : D} (h : Rep P w S t cs d) (ht : P.underlying t = some (.slice e)) (he : P.underlying e = some (.int .u8)) (hc : P.cellsOf e = 1) :
    ∃ a cap, ∃ bs : Bs, cs = [.slice a bs.length cap] ∧ bs.length ≤ cap ∧ cap ≤ maxLen ∧ BytesAt w S a bs := by
  obtain ⟨a, cap, xs, css, rfl, rfl, h1, h2, hr, hx⟩ := h.slice_inv ht
  refine ⟨a, cap, xs.map byteD, by simp, by simpa using h1, h2, ?_⟩
  rcases hr with hr | ⟨b, off, rfl, hb, hlt, hr⟩
  · exact .inl (by simp [bcells, List.eq_nil_of_length_eq_zero hr])
  · refine .inr ⟨b, off, rfl, hb, fun i hi => ?_⟩
    simp at hi
    have e1 := (hx i hi).byte_inv he
    have := (hr i hi).2 0 _ (by rw [e1]; rfl)
    rw [hc] at this
    simpa [bcells] using this
end Go.Proofs.Ytohbglopgjbfcaa
