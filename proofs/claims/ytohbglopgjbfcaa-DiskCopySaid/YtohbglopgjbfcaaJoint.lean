/-
  THE DISK AND THE REFERENCE SIDE BY SIDE, both made behind a world w0.
-/
import Derived.Test.YtohbglopgjbfcaaRef6
import Derived.Test.YtohbglopgjbfcaaActs
set_option linter.unusedVariables false
set_option linter.unusedSimpArgs false
namespace Go.Proofs.Ytohbglopgjbfcaa
open Go.RowKit

structure Joint (w0 w : World) (d m bx : Nat) (s : DS) (x : RS) (c : Nat) : Prop where
  kp : Keep noM w0 w
  hd : w0.heap.size ≤ d
  hm : w0.heap.size ≤ m
  hx : w0.heap.size ≤ bx
  nd : bx ≠ d
  nm : bx ≠ m
  st : ∃ n Sd Sx T, n ≤ c ∧ DiskAt w Sd d m n s ∧ XAt w Sx T bx x ∧ (∀ b, Sd b → b < w.heap.size ∧ b ≠ bx ∧ ¬ T b) ∧ (∀ b, Sx b → b < w.heap.size ∧ b ≠ d ∧ b ≠ m) ∧ (∀ b, T b → w0.heap.size ≤ b ∧ b ≠ d ∧ b ≠ m) ∧ (∀ b, b < w0.heap.size → Sx b)
  o0 : 0 ≤ s.ops
  o1 : s.ops ≤ c
  p0 : 0 ≤ x.ops
  p1 : x.ops ≤ c
  len : x.L.length ≤ c

theorem DiskAt.lt {w : World} {S : Nat → Prop} {d m n : Nat} {s : DS} (h : DiskAt w S d m n s) : d < w.heap.size ∧ m < w.heap.size :=
  ⟨lt_of_obj h.disk, by obtain ⟨Dm, ⟨es, clock, hb, _⟩, _⟩ := h.map; exact lt_of_obj hb⟩

/-- the disk has turned. -/
theorem Joint.diskTurn {w0 w w' : World} {d m bx c n' : Nat} {s s' : DS} {x : RS} {Sd S' Sx T : Nat → Prop} (h : Joint w0 w d m bx s x c)
    (hX : XAt w Sx T bx x) (hSd : ∀ b, Sd b → b < w.heap.size ∧ b ≠ bx ∧ ¬ T b) (hSx : ∀ b, Sx b → b < w.heap.size ∧ b ≠ d ∧ b ≠ m) (hT : ∀ b, T b → w0.heap.size ≤ b ∧ b ≠ d ∧ b ≠ m) (hA : ∀ b, b < w0.heap.size → Sx b) (hdm : d < w.heap.size ∧ m < w.heap.size)
    (K : Keep (isB2 d m) w w') (hD : DiskAt w' S' d m n' s') (hS' : ∀ b, S' b → Sd b ∨ w.heap.size ≤ b) (hn : n' ≤ c + 1) (o0 : 0 ≤ s'.ops) (o1 : s'.ops ≤ s.ops + 1) : Joint w0 w' d m bx s' x (c + 1) := by
  have hw0 := h.kp.size
  have h1 := h.hd
  have h2 := h.hm
  have h3 := h.hx
  have hbx := hX.lt
  have hsz := K.size
  have hp := h.o1
  have hq := h.p1
  have hl := h.len
  refine ⟨h.kp.trans' K (fun i hi e => by unfold isB2 at e; omega), h1, h2, h3, h.nd, h.nm, ⟨n', fun b => S' b ∧ b < w'.heap.size, Sx, T, hn, hD.mono (fun b hb hs => ⟨hs, hb⟩) (fun e => hD.nd e.1) (fun e => hD.nm e.1), hX.keep K (fun b hb e => ?_), ?_, ?_, hT, hA⟩, o0, by omega, h.p0, by omega, by omega⟩
  · unfold isB2 at e
    rcases hb with hb | hb | hb
    · have := hSx b hb; omega
    · have := hT b hb; omega
    · subst hb; rcases e with e | e
      · exact h.nd e
      · exact h.nm e
  · rintro b ⟨hb, hlt⟩
    rcases hS' b hb with hb | hb
    · exact ⟨hlt, (hSd b hb).2⟩
    · exact ⟨hlt, by omega, fun e => by have := (hX.dT b e).2.2; omega⟩
  · intro b hb
    have := hSx b hb
    exact ⟨by omega, this.2⟩

/-- the reference has turned. -/
theorem Joint.refTurn {w0 w w' : World} {d m bx c n : Nat} {s : DS} {x x' : RS} {M Sd Sx T S' T' : Nat → Prop} (h : Joint w0 w d m bx s x c) (hn : n ≤ c) (hD : DiskAt w Sd d m n s)
    (hX : XAt w Sx T bx x) (hSd : ∀ b, Sd b → b < w.heap.size ∧ b ≠ bx ∧ ¬ T b) (hSx : ∀ b, Sx b → b < w.heap.size ∧ b ≠ d ∧ b ≠ m) (hT : ∀ b, T b → w0.heap.size ≤ b ∧ b ≠ d ∧ b ≠ m)
    (K : Keep M w w') (hM : ∀ b, M b → b = bx ∨ T b) (hS' : ∀ b, S' b → Sx b ∨ w.heap.size ≤ b) (hS2 : ∀ b, S' b → b < w'.heap.size) (hT' : ∀ b, T' b → T b ∨ w.heap.size ≤ b) (hX' : XAt w' S' T' bx x') (q0 : 0 ≤ x'.ops) (q1 : x'.ops ≤ x.ops + 1) (hl : x'.L.length ≤ x.L.length + 1) : Joint w0 w' d m bx s x' (c + 1) := by
  have hw0 := h.kp.size
  have h1 := h.hd
  have h2 := h.hm
  have h3 := h.hx
  have hdm := hD.lt
  have hsz := K.size
  have hp := h.o1
  have hq := h.p1
  have hll := h.len
  have hTn : ∀ b, T' b → w0.heap.size ≤ b ∧ b ≠ d ∧ b ≠ m := fun b hb => (hT' b hb).elim (fun e => hT b e) (fun e => ⟨by omega, by omega, by omega⟩)
  refine ⟨h.kp.trans' K (fun i hi e => by
    rcases hM i e with e | e
    · omega
    · have := hT i e; omega), h1, h2, h3, h.nd, h.nm, ⟨n, Sd, fun b => S' b ∨ b < w0.heap.size, T', by omega, hD.keep K ?_ ?_ ?_, hX'.more (fun b _ hb => Or.inl hb) ?_ ?_, ?_, ?_, hTn, fun b hb => Or.inr hb⟩, h.o0, by omega, q0, by omega, by omega⟩
  · intro b hb e
    rcases hM b e with e | e
    · exact (hSd b hb).2.1 e
    · exact (hSd b hb).2.2 e
  · intro e
    rcases hM _ e with e | e
    · exact h.nd e.symm
    · exact (hT _ e).2.1 rfl
  · intro e
    rcases hM _ e with e | e
    · exact h.nm e.symm
    · exact (hT _ e).2.2 rfl
  · rintro b hb (e | e)
    · exact (hX'.dT b hb).1 e
    · have := hTn b hb; omega
  · rintro (e | e)
    · exact hX'.nx e
    · omega
  · intro b hb
    have := hSd b hb
    exact ⟨by omega, this.2.1, fun e => (hT' b e).elim this.2.2 (fun e => by omega)⟩
  · rintro b (hb | hb)
    · refine ⟨hS2 b hb, ?_⟩
      rcases hS' b hb with e | e
      · exact (hSx b e).2
      · exact ⟨by omega, by omega⟩
    · exact ⟨by omega, by omega, by omega⟩
end Go.Proofs.Ytohbglopgjbfcaa
