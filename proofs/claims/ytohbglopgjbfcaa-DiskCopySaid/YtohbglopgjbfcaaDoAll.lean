/-
  suretylaw17.do, WHOLE: an act, on both: what it comes to, and its answer.
-/
import Derived.Test.YtohbglopgjbfcaaDo3
import Derived.Test.YtohbglopgjbfcaaDo4
set_option linter.unusedVariables false
set_option linter.unusedSimpArgs false
namespace Go.Proofs.Ytohbglopgjbfcaa
open Go.RowKit

def stepS (s : DS) (a : ActV) : DS :=
  if pick a.kind 9 ≤ 1 then s.write a.name a.b
  else if pick a.kind 9 ≤ 2 then s.append a.name a.b
  else if pick a.kind 9 ≤ 4 then s.doS (s.preE [a.name] a.name) (s.f.put a.name ((look s a.name).1, (look s a.name).1))
  else if pick a.kind 9 ≤ 5 then s.doS (s.preE [a.name, a.to] a.name) (renamed s.f a.name a.to)
  else if pick a.kind 9 ≤ 6 then s.doS (s.preE [a.name] a.name) (s.f.del a.name)
  else if pick a.kind 9 ≤ 7 then s.setFuse a.q
  else s.boot a.q
def stepX (x : RS) (a : ActV) : RS :=
  if pick a.kind 9 ≤ 1 then x.doW (x.preW a.name a.b) (putL x.L ⟨a.name, a.b, (x.file a.name).safe⟩)
  else if pick a.kind 9 ≤ 2 then x.doW (x.preW a.name ((x.file a.name).data ++ a.b)) (putL x.L ⟨a.name, (x.file a.name).data ++ a.b, (x.file a.name).safe⟩)
  else if pick a.kind 9 ≤ 4 then x.doS (x.pre 2 a.name []) (putL x.L ⟨a.name, (x.file a.name).data, (x.file a.name).data⟩)
  else if pick a.kind 9 ≤ 5 then x.doS (x.pre 3 a.name a.to) (putL (dropL x.L a.name) ⟨a.to, (x.file a.name).data, (x.file a.name).safe⟩)
  else if pick a.kind 9 ≤ 6 then x.doS (x.pre 4 a.name []) (dropL x.L a.name)
  else if pick a.kind 9 ≤ 7 then x.setFuse a.q
  else x.boot a.q
def stepOk (s : DS) (x : RS) (a : ActV) : Bool :=
  if pick a.kind 9 ≤ 1 then decide (s.writeE a.name a.b = x.doE (x.preW a.name a.b))
  else if pick a.kind 9 ≤ 2 then decide (s.appendE a.name a.b = x.doE (x.preW a.name ((x.file a.name).data ++ a.b)))
  else if pick a.kind 9 ≤ 4 then decide (s.doE (s.preE [a.name] a.name) = x.doE (x.pre 2 a.name []))
  else if pick a.kind 9 ≤ 5 then decide (s.doE (s.preE [a.name, a.to] a.name) = x.doE (x.pre 3 a.name a.to))
  else if pick a.kind 9 ≤ 6 then decide (s.doE (s.preE [a.name] a.name) = x.doE (x.pre 4 a.name []))
  else if pick a.kind 9 ≤ 7 then (if x.dead then decide (s.fuseE = 21) else decide (s.fuseE = 0))
  else true

theorem pick_lt (k n : Int) (hn : 1 ≤ n) : 0 ≤ pick k n ∧ pick k n < n := by
  unfold pick
  rw [if_neg (by omega)]
  exact ⟨Int.emod_nonneg _ (by omega), Int.emod_lt_of_pos _ (by omega)⟩

theorem do_any (w0 w : World) (d m bx c : Nat) (s : DS) (x : RS) (h : Joint w0 w d m bx s x c) (hc : c ≤ 800) (a : ActV) (hok : ActOk w (fun b => b < w0.heap.size) a) (hfit : a.fit) :
    Calls Try.prog 11 #[.pointer (some ⟨d, 0, none⟩), .pointer (some ⟨bx, 0, none⟩), .agg a.cells.toArray] w (DoEndB w0 d m bx (stepS s a) (stepX x a) (c + 2) (stepOk s x a)) := by
  have hp := pick_lt a.kind 9 (by omega)
  have hcs : pick a.kind 9 = 0 ∨ pick a.kind 9 = 1 ∨ pick a.kind 9 = 2 ∨ pick a.kind 9 = 3 ∨ pick a.kind 9 = 4 ∨ pick a.kind 9 = 5 ∨ pick a.kind 9 = 6 ∨ pick a.kind 9 = 7 ∨ pick a.kind 9 = 8 := by omega
  rcases hcs with hk | hk | hk | hk | hk | hk | hk | hk | hk
  · simpa [stepS, stepX, stepOk, hk] using do0_any w0 w d m bx c s x h hc a hok hfit hk
  · simpa [stepS, stepX, stepOk, hk] using do1_any w0 w d m bx c s x h hc a hok hfit hk
  · simpa [stepS, stepX, stepOk, hk] using do2_any w0 w d m bx c s x h hc a hok hfit hk
  · simpa [stepS, stepX, stepOk, hk] using do3_any w0 w d m bx c s x h hc a hok hfit hk
  · simpa [stepS, stepX, stepOk, hk] using do4_any w0 w d m bx c s x h hc a hok hfit hk
  · simpa [stepS, stepX, stepOk, hk] using do5_any w0 w d m bx c s x h hc a hok hfit hk
  · simpa [stepS, stepX, stepOk, hk] using do6_any w0 w d m bx c s x h hc a hok hfit hk
  · cases hd : x.dead with
    | true => simpa [stepS, stepX, stepOk, hk, hd] using do7_dead w0 w d m bx c s x h hc a hok hfit hk hd
    | false =>
      by_cases hq : 0 ≤ a.q
      · simpa [stepS, stepX, stepOk, hk, hd] using do7_pos w0 w d m bx c s x h hc a hok hfit hk hd hq
      · simpa [stepS, stepX, stepOk, hk, hd] using do7_neg w0 w d m bx c s x h hc a hok hfit hk hd (by omega)
  · simpa [stepS, stepX, stepOk, hk] using do8_any w0 w d m bx c s x h hc a hok hfit hk

/-! ### what bears not on a file -/
def keptB : Bs := [107, 101, 112, 116]
theorem keptB_word : word keptB = true := by decide
theorem putB_other (s : DS) (k b k' : Bs) (h : k' ≠ k) : (s.putB k b).f k' = s.f k' := by
  unfold DS.putB; split
  · rfl
  · simp [Files.put, DS.burn, h]
theorem write_other (s : DS) (k b k' : Bs) (h : k' ≠ k) : (s.write k b).f k' = s.f k' := by
  unfold DS.write; split
  · rfl
  · exact putB_other _ _ _ _ h
theorem append_other (s : DS) (k b k' : Bs) (h : k' ≠ k) : (s.append k b).f k' = s.f k' := by
  unfold DS.append; split
  · rfl
  · exact putB_other _ _ _ _ h
theorem doS_other (s : DS) (pre : Int) (F : Files) (k' : Bs) (h : F k' = s.f k') : (s.doS pre F).f k' = s.f k' := by
  unfold DS.doS; split
  · rfl
  · simp only; split
    · rfl
    · exact h
theorem stepS_safe (s : DS) (a : ActV) (k x : Bs) (h1 : a.name ≠ k) (h2 : a.to ≠ k) (h : s.f k = some (x, x)) : (stepS s a).f k = some (x, x) := by
  have e1 := h1.symm
  have e2 := h2.symm
  unfold stepS
  split
  · rw [write_other _ _ _ _ e1, h]
  split
  · rw [append_other _ _ _ _ e1, h]
  split
  · rw [doS_other _ _ _ _ (by simp [Files.put, e1]), h]
  split
  · rw [doS_other _ _ _ _ (by simp [renamed, Files.put, Files.del, e1, e2]), h]
  split
  · rw [doS_other _ _ _ _ (by simp [Files.del, e1]), h]
  split
  · unfold DS.setFuse; split <;> exact h
  · simp [DS.boot, h, bootF]

/-- behind the acts: Boot, Append, Boot. -/
def sf1 (s : DS) (q : Int) : DS := s.boot q
def sf2 (s : DS) (q : Int) (more : Bs) : DS := (sf1 s q).append keptB more
def sf3 (s : DS) (q : Int) (more : Bs) : DS := (sf2 s q more).boot q
theorem sf1_f (s : DS) (q : Int) (x : Bs) (h : s.f keptB = some (x, x)) : (sf1 s q).f keptB = some (x, x) := by
  simp [sf1, DS.boot, h, bootF]
theorem sf2_e (s : DS) (q : Int) (x more : Bs) (h : s.f keptB = some (x, x)) (h1 : x.length ≤ 2000) (h2 : more.length ≤ 2000) : (sf1 s q).appendE keptB more = 0 := by
  have h3 := sf1_f s q x h
  have : ¬ 262144 < (x ++ more).length := by simp; omega
  simp [DS.appendE, namesE, keptB_word, DS.putE, look, h3, this, DS.codeOf, DS.burnt]
  simp [sf1, DS.boot]
  omega
theorem sf2_f (s : DS) (q : Int) (x more : Bs) (h : s.f keptB = some (x, x)) (h1 : x.length ≤ 2000) (h2 : more.length ≤ 2000) : (sf2 s q more).f keptB = some (x ++ more, x) := by
  have h3 := sf1_f s q x h
  have : ¬ 262144 < (x ++ more).length := by simp; omega
  have hd : (sf1 s q).dead = false := rfl
  have h4 : ¬ 262144 < x.length + more.length := by omega
  simp [sf2, DS.append, namesE, keptB_word, DS.putB, look, h3, hd, DS.burn, Files.put, h4]
theorem torn_pre (x more : Bs) (q : Int) : ∃ n, x.length ≤ n ∧ n ≤ (x ++ more).length ∧ torn (x ++ more) x q = (x ++ more).take n := by
  refine ⟨tornLen (x ++ more) x q, ?_, tornLen_le _ _ _, rfl⟩
  unfold tornLen
  rw [if_pos (by simp)]
  exact Nat.le_add_right _ _
theorem sf3_f (s : DS) (q : Int) (x more : Bs) (h : s.f keptB = some (x, x)) (h1 : x.length ≤ 2000) (h2 : more.length ≤ 2000) : ∃ n, x.length ≤ n ∧ n ≤ (x ++ more).length ∧ ((sf3 s q more).f keptB).isSome = true ∧ (look (sf3 s q more) keptB).1 = (x ++ more).take n := by
  have h3 := sf2_f s q x more h h1 h2
  by_cases he : x ++ more = x
  · refine ⟨(x ++ more).length, by simp, by omega, ?_, ?_⟩
    · simp [sf3, DS.boot, h3]
    · simp only [look, sf3, DS.boot, h3, Option.map_some, bootF, if_pos he, Option.getD_some, List.take_length]
  · obtain ⟨n, a1, a2, a3⟩ := torn_pre x more q
    refine ⟨n, a1, a2, ?_, ?_⟩
    · simp [sf3, DS.boot, h3]
    · simp only [look, sf3, DS.boot, h3, Option.map_some, bootF, if_neg he, Option.getD_some, a3]
end Go.Proofs.Ytohbglopgjbfcaa
