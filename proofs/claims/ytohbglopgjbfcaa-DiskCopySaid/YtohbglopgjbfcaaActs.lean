/-
  A SCRIPT: a slice of steps as it is read; suretylaw17.great; choose.
-/
import Derived.Test.YtohbglopgjbfcaaAct
import Derived.Test.YtohbglopgjbfcaaRef0
set_option linter.unusedVariables false
set_option linter.unusedSimpArgs false
namespace Go.Proofs.Ytohbglopgjbfcaa
open Go.RowKit

instance : Inhabited ActV := ⟨⟨0, [], [], none, 0, [], 0⟩⟩
structure ActsAt (w : World) (S : Nat → Prop) (a : Option Addr) (L : List ActV) : Prop where
  el : ElemsAt w S 5 a L.length (fun i => (L.getD i default).cells)
  ok : ∀ x ∈ L, ActOk w S x
theorem ActOk.keep {w w' : World} {M S : Nat → Prop} {x : ActV} (h : ActOk w S x) (k : Keep M w w') (hs : ∀ b, S b → ¬ M b) : ActOk w' S x :=
  ⟨h.k0, h.k1, h.q0, h.q1, h.nm, h.to, h.cap, h.capm, h.b.keep k hs⟩
theorem ActsAt.keep {w w' : World} {M S : Nat → Prop} {a : Option Addr} {L : List ActV} (h : ActsAt w S a L) (k : Keep M w w') (hs : ∀ b, S b → ¬ M b) : ActsAt w' S a L :=
  ⟨h.el.keep k hs, fun x hx => (h.ok x hx).keep k hs⟩
theorem ActsAt.at {w : World} {S : Nat → Prop} {a : Option Addr} {L : List ActV} (h : ActsAt w S a L) (n : Nat) (hn : n < L.length) :
    ∃ b off, a = some ⟨b, off, none⟩ ∧ b < w.heap.size ∧ w.cell? ⟨b, off + n * 5, none⟩ = some (.int .i64 L[n].kind) ∧ w.cell? ⟨b, off + n * 5 + 1, none⟩ = some (.string ⟨L[n].name.toArray⟩) ∧ w.cell? ⟨b, off + n * 5 + 2, none⟩ = some (.string ⟨L[n].to.toArray⟩) ∧
      w.cell? ⟨b, off + n * 5 + 3, none⟩ = some (.slice L[n].a L[n].b.length L[n].cap) ∧ w.cell? ⟨b, off + n * 5 + 4, none⟩ = some (.int .i64 L[n].q) := by
  rcases h.el with h0 | ⟨b, off, rfl, hb, hlt, hc⟩
  · omega
  · have hh : ∀ j v, (L[n].cells)[j]? = some v → w.cell? ⟨b, off + n * 5 + j, none⟩ = some v := by
      intro j v hv
      have := (hc n hn).2 j v (by show (L.getD n default).cells[j]? = some v; rw [show L.getD n default = L[n] by simp [List.getD, List.getElem?_eq_getElem hn]]; exact hv)
      rw [show off + n * 5 + j = off + (n * 5 + j) by omega]; exact this
    exact ⟨b, off, rfl, hlt, hh 0 _ rfl, hh 1 _ rfl, hh 2 _ rfl, hh 3 _ rfl, hh 4 _ rfl⟩
theorem acts_inv {w : World} {S : Nat → Prop} {cs : List Value} {d : D} (h : Rep Try.prog w S 22 cs d) :
    ∃ a cap, ∃ L : List ActV, cs = [.slice a L.length cap] ∧ L.length ≤ maxLen ∧ ActsAt w S a L := by
  obtain ⟨a, cap, xs, css, rfl, rfl, h1, h2, hr, hx⟩ := h.slice_inv Try.underlying22
  have hA : ∀ i : Nat, ∃ x : ActV, i < xs.length → css i = x.cells ∧ ActOk w S x := by
    intro i
    by_cases hi : i < xs.length
    · obtain ⟨x, e, ok⟩ := act_inv (hx i hi)
      exact ⟨x, fun _ => ⟨e, ok⟩⟩
    · exact ⟨default, fun h => absurd h hi⟩
  obtain ⟨f, hf⟩ := Classical.axiomOfChoice hA
  refine ⟨a, cap, (List.range xs.length).map f, by simp, by simp; omega, ?_, ?_⟩
  · have hlen : ((List.range xs.length).map f).length = xs.length := by simp
    rw [hlen]
    rcases hr with hr | ⟨b, off, rfl, hb, hlt, hr⟩
    · exact .inl hr
    · refine .inr ⟨b, off, rfl, hb, hlt, fun i hi => ?_⟩
      have e : ((List.range xs.length).map f).getD i default = f i := by simp [List.getD, hi]
      show (((List.range xs.length).map f).getD i default).cells.length = 5 ∧ ∀ (j : Nat) (v : Value), (((List.range xs.length).map f).getD i default).cells[j]? = some v → w.cell? ⟨b, off + (i * 5 + j), none⟩ = some v
      rw [e, ← (hf i hi).1]
      rw [cellsAct] at hr
      exact hr i hi
  · intro x hx
    simp at hx
    obtain ⟨i, hi, rfl⟩ := hx
    exact (hf i hi).2

def ActV.fit (x : ActV) : Prop := x.b.length ≤ 2000 ∧ x.name.length ≤ 200 ∧ x.to.length ≤ 200
def GPost (L : List ActV) (w : World) (e : Ending) (w' : World) : Prop := ∃ g, e = .returned (.bool g) ∧ (g = false → ∀ x ∈ L.take 60, x.fit) ∧ w = w'
set_option maxRecDepth 100000 in
set_option maxHeartbeats 2000000 in
theorem great_any (w : World) (S : Nat → Prop) (a : Option Addr) (L : List ActV) (cap : Nat) (h : ActsAt w S a L) (hl : L.length ≤ maxLen) :
    Calls Try.prog 6 #[.slice a L.length cap] w (GPost L w) := by
  unfold maxLen at hl
  have HH := mkHid h
  clear h
  go_enter Try.func6, Try.ntmps6
  go_wp2
  go_loop [3] (fun i => ∃ j : Nat, j ≤ L.length ∧ j ≤ 60 ∧ i = .int .i64 j ∧ ∀ x ∈ L.take j, x.fit) (fun i => L.length - (intOf i).toNat)
  case atStart => exact ⟨0, by omega, by omega, rfl, by simp⟩
  case round =>
    obtain ⟨j, hj, hj60, rfl, hfit⟩ := hrel
    have HT := mkHid hfit
    clear hfit
    by_cases hlt : j < L.length ∧ j < 60
    · obtain ⟨hlt, h60⟩ := hlt
      obtain ⟨b, off, rfl, hb, e0, e1, e2, e3, e4⟩ := HH.out.at j hlt
      obtain ⟨x, hx⟩ : ∃ x, x = L[j] := ⟨_, rfl⟩
      rw [← hx] at e0 e1 e2 e3 e4
      have HX := mkHid hx
      clear hx
      go_wp2
      all_goals first
        | (go_round
           case rel =>
             refine ⟨j + 1, by omega, by omega, by go_num, ?_⟩
             rw [List.take_succ_eq_append_getElem hlt, ← HX.out]
             intro y hy
             rcases List.mem_append.1 hy with hy | hy
             · exact HT.out y hy
             · simp at hy; subst hy; exact ⟨by omega, by omega, by omega⟩
           case measure => simp [intOf]; omega)
        | (go_ret; exact ⟨true, rfl, by simp, rfl⟩)
    · have hall : ∀ x ∈ L.take 60, x.fit := by
        by_cases h6 : j = 60
        · subst h6; exact HT.out
        · have : L.take 60 = L.take j := by rw [List.take_of_length_le (by omega), List.take_of_length_le (by omega)]
          rw [this]; exact HT.out
      have HA := mkHid hall
      clear hall
      go_wp2
      all_goals
        go_ret
        exact ⟨false, rfl, fun _ => HA.out, rfl⟩
end Go.Proofs.Ytohbglopgjbfcaa
