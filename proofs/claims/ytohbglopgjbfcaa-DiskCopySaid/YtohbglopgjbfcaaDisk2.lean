/-
  THE DISK, PART 2: the names of a call (names, with slices.ContainsFunc), whether a file is there.
-/
import Derived.Test.YtohbglopgjbfcaaDisk1
import Derived.WalkSpells
set_option linter.unusedVariables false
namespace Go.Proofs.Ytohbglopgjbfcaa
open Go.RowKit Go.Maps

def scells (l : List Bs) : List Value := l.map fun s => .string ⟨s.toArray⟩
@[simp] theorem length_scells (l : List Bs) : (scells l).length = l.length := by simp [scells]
theorem getElem_scells (l : List Bs) (i : Nat) (h : i < (scells l).length) : (scells l)[i] = .string ⟨(l[i]'(by simpa using h)).toArray⟩ := by simp [scells]
theorem RowAt.str {w : World} {S : Nat → Prop} {a : Option Addr} {xs : List Bs} (h : RowAt w S a (scells xs)) {k : Nat} (hk : k < xs.length) :
    ∃ b off, a = some ⟨b, off, none⟩ ∧ w.cell? ⟨b, off + k, none⟩ = some (.string ⟨xs[k].toArray⟩) := by
  obtain ⟨b, off, rfl, _, h⟩ := h.at (k := k) (by simpa using hk)
  exact ⟨b, off, rfl, by rw [h, getElem_scells]⟩

set_option maxHeartbeats 400000 in
theorem notWord_any (s : Bs) (hs : s.length ≤ maxLen) (w : World) : Calls Try.prog 42 #[.string ⟨s.toArray⟩] w fun e w' => e = .returned (.bool (!word s)) ∧ w = w' := by
  go_enter Try.func42, Try.ntmps42
  go_wp2_with (go_at_call 43; refine (Word_any s hs _).mono ?_; rintro e w' ⟨rfl, rfl⟩)
  go_ret
  exact ⟨rfl, rfl⟩

/-- the place of the first text that is no word, or -1. -/
def badAt (l : List Bs) : Int := match l.findIdx? (fun s => !word s) with | some i => i | none => -1

set_option maxHeartbeats 400000 in
theorem indexBad_any (a : Option Addr) (l : List Bs) (c : Nat) (S : Nat → Prop) (w : World) (h : RowAt w S a (scells l)) (hl : ∀ s ∈ l, s.length ≤ maxLen) (hn : l.length ≤ maxLen) :
    Calls Try.prog 61 #[.slice a l.length c, .func (.func 42) #[] #[]] w fun e w' => e = .returned (.int .i64 (badAt l)) ∧ w = w' := by
  unfold maxLen at hn
  go_enter Try.func61, Try.ntmps61
  go_wp2
  go_loop [5, 8] (fun _ i => ∃ k : Nat, k ≤ l.length ∧ i = .int .i64 k ∧ (∀ j (hj : j < l.length), j < k → word l[j] = true)) (fun _ i => l.length - (intOf i).toNat)
  case atStart => exact ⟨0, by omega, rfl, fun j _ h => by omega⟩
  case round =>
    obtain ⟨k, hk, rfl, ht⟩ := hrel
    have HT := mkHid ht; clear ht
    by_cases hlt : k < l.length
    · obtain ⟨b1, o1, rfl, h1⟩ := h.str hlt
      go_wp2_with (go_at_call 42; refine (notWord_any l[k] (hl _ (List.getElem_mem hlt)) _).mono ?_; rintro e w' ⟨rfl, rfl⟩)
      · have hne : (!word l[k]) = true := by assumption
        go_ret
        refine ⟨ret_i64 ?_, rfl⟩
        have : l.findIdx? (fun s => !word s) = some k := by
          rw [List.findIdx?_eq_some_iff_getElem]
          exact ⟨hlt, hne, fun j hj => by simp [HT.out j (by omega) hj]⟩
        simp [badAt, this]
      · have hyes : (!word l[k]) = false := by assumption
        go_round
        case rel => exact ⟨k + 1, by omega, by go_num, fun j hj hjk => by
          by_cases e : j = k
          · subst e; simpa using hyes
          · exact HT.out j hj (by omega)⟩
        case measure => simp [intOf]; omega
    · go_wp2
      go_ret
      refine ⟨ret_i64 ?_, rfl⟩
      have : l.findIdx? (fun s => !word s) = none := by
        rw [List.findIdx?_eq_none_iff]
        intro x hx
        obtain ⟨j, hj, rfl⟩ := List.mem_iff_getElem.1 hx
        simp [HT.out j hj (by omega)]
      simp [badAt, this]

theorem badAt_neg (l : List Bs) : decide (0 ≤ badAt l) = l.any fun s => !word s := by
  unfold badAt
  cases h : l.findIdx? (fun s => !word s) with
  | none =>
    have := List.findIdx?_eq_none_iff.1 h
    simp; intro x hx; simpa using this x hx
  | some i =>
    obtain ⟨hi, hp, _⟩ := List.findIdx?_eq_some_iff_getElem.1 h
    simp; exact ⟨_, List.getElem_mem hi, by simpa using hp⟩

set_option maxHeartbeats 400000 in
theorem anyBad_any (a : Option Addr) (l : List Bs) (c : Nat) (S : Nat → Prop) (w : World) (h : RowAt w S a (scells l)) (hl : ∀ s ∈ l, s.length ≤ maxLen) (hn : l.length ≤ maxLen) :
    Calls Try.prog 41 #[.slice a l.length c, .func (.func 42) #[] #[]] w fun e w' => e = .returned (.bool (l.any fun s => !word s)) ∧ w = w' := by
  have hb := mkHid (badAt_neg l)
  go_enter Try.func41, Try.ntmps41
  go_wp2_with (go_at_call 61; refine (indexBad_any a l c S _ h hl hn).mono ?_; rintro e w' ⟨rfl, rfl⟩)
  go_ret
  exact ⟨ret_bool (by rw [← hb.out]), rfl⟩

/-- what 'names' answers. -/
def namesE (dead : Bool) (l : List Bs) : Int := if dead then 21 else if l.any (fun s => !word s) then 1 else 0

set_option maxHeartbeats 400000 in
theorem names_nil (v : Value) (w : World) : Calls Try.prog 18 #[.pointer none, v] w fun e w' => e = .returned (.int .i64 21) ∧ w = w' := by
  go_enter Try.func18, Try.ntmps18
  go_wp2
  go_ret
  exact ⟨rfl, rfl⟩
set_option maxHeartbeats 400000 in
theorem names_any (dd : Nat) (dead : Bool) (a : Option Addr) (l : List Bs) (c : Nat) (S : Nat → Prop) (w : World) (hd : w.cell? ⟨dd, 2, none⟩ = some (.bool dead)) (h : RowAt w S a (scells l)) (hl : ∀ s ∈ l, s.length ≤ maxLen) (hn : l.length ≤ maxLen) :
    Calls Try.prog 18 #[.pointer (some ⟨dd, 0, none⟩), .slice a l.length c] w fun e w' => e = .returned (.int .i64 (namesE dead l)) ∧ w = w' := by
  cases dead
  · go_enter Try.func18, Try.ntmps18
    go_wp2_with (go_at_call 41; refine (anyBad_any a l c S _ h hl hn).mono ?_; rintro e w' ⟨rfl, rfl⟩)
    · have hb : (l.any fun s => !word s) = true := by assumption
      go_ret
      exact ⟨ret_i64 (by simp [namesE, hb]), rfl⟩
    · have hb : (l.any fun s => !word s) = false := by assumption
      go_ret
      exact ⟨ret_i64 (by simp [namesE, hb]), rfl⟩
  · go_enter Try.func18, Try.ntmps18
    go_wp2
    go_ret
    exact ⟨rfl, rfl⟩
end Go.Proofs.Ytohbglopgjbfcaa
