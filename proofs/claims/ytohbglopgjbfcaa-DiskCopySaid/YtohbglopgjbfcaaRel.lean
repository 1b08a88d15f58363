/-
  THE PLAIN LAW OF THE DISK AND ITS REFERENCE: the files of both are one, whatever is done; the answers are one.
-/
import Derived.Test.YtohbglopgjbfcaaDoAll
import Derived.Sort.Walk0
import Derived.Sort.KeysCollected
set_option linter.unusedVariables false
set_option linter.unusedSimpArgs false
namespace Go.Proofs.Ytohbglopgjbfcaa
open Go.RowKit

theorem bs_lt_irrefl (a : Bs) : ¬ a < a := List.lt_irrefl a
theorem bs_tri (a b : Bs) : a < b ∨ a = b ∨ b < a := by
  by_cases h : a < b
  · exact .inl h
  · by_cases h2 : b < a
    · exact .inr (.inr h2)
    · exact .inr (.inl (List.le_antisymm (List.not_lt.1 h2) (List.not_lt.1 h)))
theorem bs_lt_trans {a b c : Bs} (h : a < b) (k : b < c) : a < c := List.lt_trans h k
theorem bs_lt_asymm {a b : Bs} (h : a < b) : ¬ b < a := fun k => bs_lt_irrefl a (bs_lt_trans h k)

/-- names that rise. -/
def Rises (L : List RF) : Prop := L.Pairwise fun p q => p.name < q.name
def ltF (k : Bs) (r : RF) : Bool := decide (r.name < k)
def gtF (k : Bs) (r : RF) : Bool := decide (k < r.name)
def lookL (L : List RF) (k : Bs) : Option RF := L.find? fun r => r.name == k

theorem fold_done (f : RF) : ∀ (L : List RF) (acc : List RF), L.foldl (putStep RF.name f) (acc, true) = (acc ++ L.filter (fun r => !(r.name == f.name)), true)
  | [], acc => by simp
  | p :: L, acc => by
    rw [List.foldl_cons]
    by_cases h : p.name = f.name
    · simp only [putStep, h, if_true]
      rw [fold_done f L acc]
      simp [List.filter_cons, h]
    · have : putStep RF.name f (acc, true) p = (acc ++ [p], true) := by simp [putStep, h]
      rw [this, fold_done f L]
      simp [List.filter_cons, h]
theorem fold_put (f : RF) : ∀ (L : List RF) (acc : List RF), Rises L →
    (if (L.foldl (putStep RF.name f) (acc, false)).2 then (L.foldl (putStep RF.name f) (acc, false)).1 else (L.foldl (putStep RF.name f) (acc, false)).1 ++ [f]) = acc ++ (L.filter (ltF f.name) ++ f :: L.filter (gtF f.name))
  | [], acc, _ => by simp
  | p :: L, acc, hL => by
    obtain ⟨hp, hL'⟩ := List.pairwise_cons.1 hL
    rw [List.foldl_cons]
    rcases bs_tri p.name f.name with h | h | h
    · have hne : ¬ p.name = f.name := fun e => bs_lt_irrefl f.name (by rw [e] at h; exact h)
      have hb : Op.bytesLess p.name f.name = true := by rw [Go.Proofs.bytesLess_eq]; simpa using h
      have : putStep RF.name f (acc, false) p = (acc ++ [p], false) := by simp [putStep, hne, hb]
      rw [this, fold_put f L _ hL']
      have h2 : ¬ f.name < p.name := bs_lt_asymm h
      simp [List.filter_cons, ltF, gtF, h, h2]
    · have : putStep RF.name f (acc, false) p = (acc, false) := by simp [putStep, h]
      rw [this, fold_put f L _ hL']
      have h2 := bs_lt_irrefl f.name
      simp [List.filter_cons, ltF, gtF, h, h2]
    · have hne : ¬ p.name = f.name := fun e => bs_lt_irrefl f.name (by rw [e] at h; exact h)
      have hb : Op.bytesLess p.name f.name = false := by rw [Go.Proofs.bytesLess_eq]; simpa using bs_lt_asymm h
      have : putStep RF.name f (acc, false) p = (acc ++ [f, p], true) := by simp [putStep, hne, hb]
      rw [this, fold_done]
      have hall : ∀ q ∈ L, f.name < q.name := fun q hq => bs_lt_trans h (hp q hq)
      have e1 : L.filter (fun r => !(r.name == f.name)) = L := List.filter_eq_self.2 fun q hq => by
        have := hall q hq
        have hne : ¬ q.name = f.name := fun e => bs_lt_irrefl f.name (by rw [e] at this; exact this)
        simp [hne]
      have e2 : L.filter (ltF f.name) = [] := List.filter_eq_nil_iff.2 fun q hq => by
        simpa [ltF] using bs_lt_asymm (hall q hq)
      have e3 : L.filter (gtF f.name) = L := List.filter_eq_self.2 fun q hq => by simpa [gtF] using hall q hq
      have h2 : ¬ p.name < f.name := bs_lt_asymm h
      simp [List.filter_cons, ltF, gtF, h, h2, e1]
      rw [e2, e3]; simp
theorem putL_eq (L : List RF) (f : RF) (h : Rises L) : putL L f = L.filter (ltF f.name) ++ f :: L.filter (gtF f.name) := by
  have := fold_put f L [] h
  unfold putL putAll putAcc
  simpa using this
theorem putL_rises (L : List RF) (f : RF) (h : Rises L) : Rises (putL L f) := by
  rw [putL_eq L f h]
  refine List.pairwise_append.2 ⟨h.sublist List.filter_sublist, List.pairwise_cons.2 ⟨fun q hq => ?_, h.sublist List.filter_sublist⟩, fun p hp q hq => ?_⟩
  · have := (List.mem_filter.1 hq).2; simpa [gtF] using this
  · have h1 : p.name < f.name := by have := (List.mem_filter.1 hp).2; simpa [ltF] using this
    rcases List.mem_cons.1 hq with rfl | hq
    · exact h1
    · have h2 : f.name < q.name := by have := (List.mem_filter.1 hq).2; simpa [gtF] using this
      exact bs_lt_trans h1 h2
theorem dropL_rises (L : List RF) (k : Bs) (h : Rises L) : Rises (dropL L k) := h.sublist List.filter_sublist
theorem look_filter (P : Bs → Bool) (k : Bs) : ∀ L : List RF, lookL (L.filter fun r => P r.name) k = if P k then lookL L k else none
  | [] => by simp [lookL]
  | r :: L => by
    have ih := look_filter P k L
    unfold lookL at ih ⊢
    by_cases hP : P r.name
    · rw [List.filter_cons_of_pos (p := fun r : RF => P r.name) hP]
      by_cases hk : r.name = k
      · subst hk; simp [hP]
      · have : (r.name == k) = false := by simp [hk]
        rw [List.find?_cons, List.find?_cons, this]; exact ih
    · rw [List.filter_cons_of_neg (p := fun r : RF => P r.name) hP, ih]
      by_cases hk : r.name = k
      · subst hk; simp [hP]
      · have : (r.name == k) = false := by simp [hk]
        rw [List.find?_cons, this]
theorem look_put (L : List RF) (f : RF) (k : Bs) (h : Rises L) : lookL (putL L f) k = if k = f.name then some f else lookL L k := by
  rw [putL_eq L f h]
  have h1 := look_filter (fun n => decide (n < f.name)) k L
  have h2 := look_filter (fun n => decide (f.name < n)) k L
  have e1 : L.filter (ltF f.name) = L.filter fun r => decide (r.name < f.name) := rfl
  have e2 : L.filter (gtF f.name) = L.filter fun r => decide (f.name < r.name) := rfl
  rw [e1, e2]
  unfold lookL at h1 h2 ⊢
  rw [List.find?_append, List.find?_cons, h1]
  rcases bs_tri k f.name with h | h | h
  · have hne : ¬ k = f.name := fun e => bs_lt_irrefl f.name (by rw [e] at h; exact h)
    have hne' : (f.name == k) = false := by simp; exact fun e => hne e.symm
    rw [hne', h2]
    have := bs_lt_asymm h
    simp [h, hne, this]
  · subst h
    simp [bs_lt_irrefl f.name]
  · have hne : ¬ k = f.name := fun e => bs_lt_irrefl f.name (by rw [e] at h; exact h)
    have hne' : (f.name == k) = false := by simp; exact fun e => hne e.symm
    rw [hne', h2]
    have := bs_lt_asymm h
    simp [h, hne, this]
theorem look_drop (L : List RF) (n k : Bs) : lookL (dropL L n) k = if k = n then none else lookL L k := by
  have := look_filter (fun m => !(m == n)) k L
  unfold dropL
  rw [this]
  by_cases h : k = n <;> simp [h]
theorem look_map (g : RF → RF) (hg : ∀ r, (g r).name = r.name) (k : Bs) : ∀ L : List RF, lookL (L.map g) k = (lookL L k).map g
  | [] => rfl
  | r :: L => by
    have ih := look_map g hg k L
    unfold lookL at ih ⊢
    rw [List.map_cons, List.find?_cons, List.find?_cons, hg r]
    by_cases h : (r.name == k) = true
    · simp [h]
    · rw [Bool.not_eq_true] at h; rw [h]; exact ih

/-- the disk and the reference are one. -/
structure Alike (s : DS) (x : RS) : Prop where
  fuse : x.fuse = s.fuse
  dead : x.dead = s.dead
  ops : x.ops = s.ops
  rises : Rises x.L
  files : ∀ k, s.f k = (lookL x.L k).map fun r => (r.data, r.safe)

theorem Alike.new : Alike DS.new { L := [], fuse := 0, dead := false, ops := 0 } := ⟨rfl, rfl, rfl, List.Pairwise.nil, fun k => rfl⟩
theorem find_lookL (L : List RF) (k : Bs) : decide (findN L k < L.length) = (lookL L k).isSome := by
  unfold findN lookL
  rw [Bool.eq_iff_iff]
  simp [List.findIdx_lt_length]
theorem Alike.has {s : DS} {x : RS} (h : Alike s x) (k : Bs) : x.has k = (s.f k).isSome := by
  unfold RS.has; rw [find_lookL, h.files]; simp
theorem Alike.look {s : DS} {x : RS} (h : Alike s x) (k : Bs) : look s k = ((x.file k).data, (x.file k).safe) := by
  unfold Go.Proofs.Ytohbglopgjbfcaa.look RS.file
  rw [h.files]
  unfold lookL
  cases x.L.find? (fun r => r.name == k) <;> rfl
theorem Alike.put {s : DS} {x : RS} (h : Alike s x) (k : Bs) (d sf : Bs) : ∀ k', (s.f.put k (d, sf)) k' = (lookL (putL x.L ⟨k, d, sf⟩) k').map fun r => (r.data, r.safe) := fun k' => by
  rw [look_put _ _ _ h.rises]
  by_cases e : k' = k
  · simp [Files.put, e]
  · simp [Files.put, e, h.files]
theorem Alike.del {s : DS} {x : RS} (h : Alike s x) (k : Bs) : ∀ k', (s.f.del k) k' = (lookL (dropL x.L k) k').map fun r => (r.data, r.safe) := fun k' => by
  rw [look_drop]
  by_cases e : k' = k
  · simp [Files.del, e]
  · simp [Files.del, e, h.files]
theorem Alike.ren {s : DS} {x : RS} (h : Alike s x) (k to : Bs) : ∀ k', (renamed s.f k to) k' = (lookL (putL (dropL x.L k) ⟨to, (x.file k).data, (x.file k).safe⟩) k').map fun r => (r.data, r.safe) := fun k' => by
  rw [look_put _ _ _ (dropL_rises _ _ h.rises)]
  have hl := h.look k
  unfold Go.Proofs.Ytohbglopgjbfcaa.look at hl
  unfold renamed
  rw [hl]
  by_cases e : k' = to
  · simp [Files.put, e]
  · have := h.del k k'
    simp [Files.put, e, this]
theorem Alike.code {s : DS} {x : RS} (h : Alike s x) : x.code = s.codeOf := by
  unfold RS.code DS.codeOf RS.burnt DS.burnt; rw [h.fuse]
theorem names1 (dead : Bool) (k : Bs) : namesE dead [k] = if dead then 21 else if !word k then 1 else 0 := by
  unfold namesE; cases dead <;> simp
theorem names2 (dead : Bool) (k l : Bs) : namesE dead [k, l] = if dead then 21 else if !word k || !word l then 1 else 0 := by
  unfold namesE; cases dead <;> simp
theorem Alike.pre1 {s : DS} {x : RS} (h : Alike s x) (n : Int) (hn : n = 2 ∨ n = 4) (k : Bs) : x.pre n k [] = s.preE [k] k := by
  unfold RS.pre DS.preE
  rw [h.dead, h.has, names1]
  cases s.dead <;> cases word k <;> cases (s.f k).isSome <;> rcases hn with rfl | rfl <;> simp
theorem Alike.pre3 {s : DS} {x : RS} (h : Alike s x) (k to : Bs) : x.pre 3 k to = s.preE [k, to] k := by
  unfold RS.pre DS.preE
  rw [h.dead, h.has, names2]
  cases s.dead <;> cases word k <;> cases word to <;> cases (s.f k).isSome <;> simp
/-- burning, on both. -/
theorem Alike.burn {s : DS} {x : RS} (h : Alike s x) {F : Files} {L : List RF} (hr : Rises L) (hF : ∀ k, F k = (lookL L k).map fun r => (r.data, r.safe)) : Alike { s.burn with f := F } { x.burn with L := L } := by
  refine ⟨?_, ?_, ?_, hr, hF⟩
  · simp only [RS.burn, DS.burn]; rw [h.fuse]
  · simp only [RS.burn, DS.burn]; rw [h.fuse, h.dead]
  · simp only [RS.burn, DS.burn]; rw [h.ops]
theorem Alike.doS {s : DS} {x : RS} (h : Alike s x) (p q : Int) (hpq : q = p) {F : Files} {L : List RF} (hr : Rises L) (hF : ∀ k, F k = (lookL L k).map fun r => (r.data, r.safe)) : Alike (s.doS p F) (x.doS q L) := by
  subst hpq
  unfold DS.doS RS.doS
  by_cases hp : q ≠ 0
  · rw [if_pos hp, if_pos hp]; exact h
  · rw [if_neg hp, if_neg hp]
    have hb : x.burnt = s.burnt := by unfold RS.burnt DS.burnt; rw [h.fuse]
    rw [hb]
    cases s.burnt
    · exact h.burn hr hF
    · exact h.burn h.rises h.files
/-- a store of bytes, on both. -/
theorem Alike.store {s : DS} {x : RS} (h : Alike s x) (k b : Bs) : Alike (if namesE s.dead [k] ≠ 0 then s else s.putB k b) (x.doW (x.preW k b) (putL x.L ⟨k, b, (x.file k).safe⟩)) ∧ (if namesE s.dead [k] ≠ 0 then namesE s.dead [k] else s.putE b) = x.doE (x.preW k b) := by
  have hs : (Go.Proofs.Ytohbglopgjbfcaa.look s k).2 = (x.file k).safe := by rw [h.look]
  have hB : Alike { s.burn with f := s.f.put k (b, (Go.Proofs.Ytohbglopgjbfcaa.look s k).2) } { x.burn with L := putL x.L ⟨k, b, (x.file k).safe⟩ } := by
    rw [hs]; exact h.burn (putL_rises _ _ h.rises) (h.put k b _)
  rw [names1]
  unfold RS.preW RS.doW RS.doE DS.putB DS.putE
  rw [h.dead, h.code]
  cases s.dead <;> cases word k <;> by_cases hl : 262144 < b.length <;> simp [hl] <;> first | exact h | exact hB
theorem Alike.boot {s : DS} {x : RS} (h : Alike s x) (q : Int) : Alike (s.boot q) (x.boot q) := by
  refine ⟨rfl, rfl, h.ops, ?_, fun k => ?_⟩
  · simp only [RS.boot]
    exact List.pairwise_map.2 (h.rises.imp fun hh => hh)
  · simp only [RS.boot, DS.boot]
    rw [look_map (RF.boot q) (fun _ => rfl), h.files]
    cases lookL x.L k with
    | none => rfl
    | some r =>
      simp only [Option.map_some, RF.boot, bootB, bootF]
      split <;> rfl
theorem Alike.step {s : DS} {x : RS} (h : Alike s x) (a : ActV) : Alike (stepS s a) (stepX x a) ∧ stepOk s x a = true := by
  unfold stepS stepX stepOk
  have hl := h.look a.name
  by_cases h1 : pick a.kind 9 ≤ 1
  · simp only [if_pos h1]
    have := h.store a.name a.b
    exact ⟨this.1, decide_eq_true this.2⟩
  · simp only [if_neg h1]
    by_cases h2 : pick a.kind 9 ≤ 2
    · simp only [if_pos h2]
      have := h.store a.name ((x.file a.name).data ++ a.b)
      rw [show (x.file a.name).data = (Go.Proofs.Ytohbglopgjbfcaa.look s a.name).1 by rw [hl]] at this ⊢
      exact ⟨this.1, decide_eq_true this.2⟩
    · simp only [if_neg h2]
      by_cases h4 : pick a.kind 9 ≤ 4
      · simp only [if_pos h4]
        refine ⟨h.doS _ _ (h.pre1 2 (.inl rfl) _) (putL_rises _ _ h.rises) ?_, decide_eq_true ?_⟩
        · rw [show (Go.Proofs.Ytohbglopgjbfcaa.look s a.name).1 = (x.file a.name).data by rw [hl]]
          exact h.put _ _ _
        · rw [h.pre1 2 (.inl rfl)]; unfold DS.doE RS.doE; rw [h.code]
      · simp only [if_neg h4]
        by_cases h5 : pick a.kind 9 ≤ 5
        · simp only [if_pos h5]
          refine ⟨h.doS _ _ (h.pre3 _ _) (putL_rises _ _ (dropL_rises _ _ h.rises)) (h.ren _ _), decide_eq_true ?_⟩
          rw [h.pre3]; unfold DS.doE RS.doE; rw [h.code]
        · simp only [if_neg h5]
          by_cases h6 : pick a.kind 9 ≤ 6
          · simp only [if_pos h6]
            refine ⟨h.doS _ _ (h.pre1 4 (.inr rfl) _) (dropL_rises _ _ h.rises) (h.del _), decide_eq_true ?_⟩
            rw [h.pre1 4 (.inr rfl)]; unfold DS.doE RS.doE; rw [h.code]
          · simp only [if_neg h6]
            by_cases h7 : pick a.kind 9 ≤ 7
            · simp only [if_pos h7]
              unfold DS.setFuse RS.setFuse DS.fuseE
              rw [h.dead]
              cases hd : s.dead
              · exact ⟨⟨rfl, by simp [hd], h.ops, h.rises, h.files⟩, by simp⟩
              · exact ⟨h, by simp⟩
            · simp only [if_neg h7]
              exact ⟨h.boot _, trivial⟩
/-- the names, in order. -/
theorem Alike.names {s : DS} {x : RS} (h : Alike s x) {w : World} {S : Nat → Prop} {Dm : DataW Value} {m n : Nat} (hM : w.ownsMap Try.prog 9 heldR m n Dm) (hF : FilesAt w S Dm s.f) {ss : List Bs} (hs : ss.Perm (strKeys Dm)) :
    ss.mergeSort (fun a b => decide (a ≤ b)) = x.L.map RF.name := by
  obtain ⟨es, hD, hpw, _⟩ := hM.entries keyedS
  obtain ⟨es', hD', hko⟩ := hM.keysOf
  obtain rfl : es = es' := by rw [hD] at hD'; simpa using hD'
  subst hD
  have hr := h.rises
  have hnd : (x.L.map RF.name).Nodup := by
    refine List.pairwise_map.2 (List.Pairwise.imp ?_ hr)
    intro a b hlt e
    rw [e] at hlt
    exact bs_lt_irrefl _ hlt
  have hp : (x.L.map RF.name).Perm (strKeys (.map es)) := perm_strKeys hpw (fun p hp => by obtain ⟨v, hv⟩ := hko p hp; obtain ⟨y, _, hy, _⟩ := Maps.keyOf_str Try.underlying9 hv; exact ⟨y, hy⟩) hnd fun k => by
    rw [hF.dom k, h.files k]
    unfold lookL
    simp [List.find?_isSome]
  rw [mergeSort_of_perm (hs.trans hp.symm)]
  refine List.mergeSort_of_pairwise ?_
  refine List.pairwise_map.2 (hr.imp fun hlt => ?_)
  simp only [decide_eq_true_eq]
  exact List.not_lt.1 (bs_lt_asymm hlt)
end Go.Proofs.Ytohbglopgjbfcaa
