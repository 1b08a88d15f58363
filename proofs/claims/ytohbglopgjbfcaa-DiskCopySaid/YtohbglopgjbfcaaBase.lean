/-
  THE BASE OF THIS SEAT's PROOFS: what memory keeps ('Keep', 'Quiet'), rows of cells ('RowAt'), plain data in memory ('Rep'), and that an argument which reads as data is such a one ('rep_of_trod').
  No statement of the seat is proved here; it holds over any program.
-/
import Derived.WalkKit
import Derived.WalkSpells
import Derived.WalkLawsBesides
import Derived.ProofKit
import Derived.OpenShut
import Derived.ChangeOld
import Derived.Deep.QuietTactic
import Derived.BigQuiet
set_option linter.unusedVariables false
namespace Go.Proofs.Ytohbglopgjbfcaa
open Go.RowKit Go.ChangeShapes Go.WideShapes Go.ChangeAt

abbrev Bs := List UInt8

theorem mkHid {p : Prop} (h : p) : Hid p := h

/-! ### the world goes on -/

/-- nothing but draws. -/
def Quiet (w w' : World) : Prop := ∃ n, w' = w.drewN n
theorem Quiet.refl (w : World) : Quiet w w := ⟨0, rfl⟩
theorem Quiet.drewN (w : World) (n : Nat) : Quiet w (w.drewN n) := ⟨n, rfl⟩
theorem Quiet.drew (w : World) : Quiet w w.drew := ⟨1, rfl⟩
theorem Quiet.trans {a b c : World} (h : Quiet a b) (k : Quiet b c) : Quiet a c := by
  obtain ⟨n, rfl⟩ := h; obtain ⟨m, rfl⟩ := k; exact ⟨n + m, World.drewN_drewN _ _ _⟩
theorem Quiet.drewN' {a b : World} (h : Quiet a b) (n : Nat) : Quiet a (b.drewN n) := h.trans (Quiet.drewN b n)
theorem Quiet.drew' {a b : World} (h : Quiet a b) : Quiet a b.drew := h.trans (Quiet.drew b)
theorem Quiet.heap {a b : World} (h : Quiet a b) : b.heap = a.heap := by obtain ⟨n, rfl⟩ := h; rfl
theorem Quiet.cell {a b : World} (h : Quiet a b) (p : Addr) : b.cell? p = a.cell? p := by obtain ⟨n, rfl⟩ := h; rfl
theorem Quiet.frozen {a b : World} (h : Quiet a b) (p : Addr) : b.frozen? p = a.frozen? p := by obtain ⟨n, rfl⟩ := h; rfl

/-- the blocks that were there and are none of M's are as they were. -/
structure Keep (M : Nat → Prop) (w w' : World) : Prop where
  os : w'.os = w.os
  tape : w'.tape = w.tape
  output : w'.output = w.output
  size : w.heap.size ≤ w'.heap.size
  block : ∀ k, k < w.heap.size → ¬ M k → w'.heap[k]? = w.heap[k]?
def noM : Nat → Prop := fun _ => False
theorem not_noM (k : Nat) : ¬ noM k := fun h => h
theorem Keep.refl (M : Nat → Prop) (w : World) : Keep M w w := ⟨rfl, rfl, rfl, Nat.le_refl _, fun _ _ _ => rfl⟩
theorem Keep.mono {M M' : Nat → Prop} {w w' : World} (h : Keep M w w') (hm : ∀ k, k < w.heap.size → M k → M' k) : Keep M' w w' :=
  ⟨h.os, h.tape, h.output, h.size, fun k hk hn => h.block k hk fun hmk => hn (hm k hk hmk)⟩
theorem Keep.trans {M : Nat → Prop} {a b c : World} (h : Keep M a b) (k : Keep M b c) : Keep M a c :=
  ⟨k.os.trans h.os, k.tape.trans h.tape, k.output.trans h.output, Nat.le_trans h.size k.size, fun i hi hn => (k.block i (Nat.lt_of_lt_of_le hi h.size) hn).trans (h.block i hi hn)⟩
/-- the second step may write M' of which the first world knows only M. -/
theorem Keep.trans' {M M' : Nat → Prop} {a b c : World} (h : Keep M a b) (k : Keep M' b c) (hm : ∀ i, i < a.heap.size → M' i → M i) : Keep M a c :=
  ⟨k.os.trans h.os, k.tape.trans h.tape, k.output.trans h.output, Nat.le_trans h.size k.size, fun i hi hn => (k.block i (Nat.lt_of_lt_of_le hi h.size) fun q => hn (hm i hi q)).trans (h.block i hi hn)⟩
theorem Keep.of_quiet {M : Nat → Prop} {a b : World} (h : Quiet a b) : Keep M a b := by
  obtain ⟨n, rfl⟩ := h; exact ⟨rfl, rfl, rfl, Nat.le_refl _, fun _ _ _ => rfl⟩
theorem Keep.quiet {M : Nat → Prop} {a b c : World} (h : Keep M a b) (q : Quiet b c) : Keep M a c := h.trans (.of_quiet q)
theorem Keep.drew {M : Nat → Prop} {a b : World} (h : Keep M a b) : Keep M a b.drew := h.quiet (Quiet.drew b)
theorem Keep.drewN {M : Nat → Prop} {a b : World} (h : Keep M a b) (n : Nat) : Keep M a (b.drewN n) := h.quiet (Quiet.drewN b n)
theorem Keep.alloc {M : Nat → Prop} {a b : World} (h : Keep M a b) (o : Obj) : Keep M a (b.alloc o) :=
  h.trans ⟨rfl, rfl, rfl, by simp, fun k hk _ => Below.heap_alloc _ _ _ hk⟩
theorem Keep.setCell {M : Nat → Prop} {a b : World} (h : Keep M a b) {p : Addr} (hp : M p.block ∨ a.heap.size ≤ p.block) (u : Value) : Keep M a (b.setCell p u) :=
  h.trans' (M' := fun k => k = p.block) ⟨rfl, rfl, rfl, by simp [World.setCell], fun k _ hn => Below.heap_setCell _ _ _ _ hn⟩ (fun i hi e => by
    subst e; rcases hp with hp | hp
    · exact hp
    · omega)
theorem Keep.of_below {M : Nat → Prop} {a b : World} (h : Below a.heap.size a b) : Keep M a b := ⟨h.os, h.tape, h.output, h.size, fun k hk _ => h.block k hk⟩
theorem Keep.below {a b : World} (h : Keep noM a b) : Below a.heap.size a b := ⟨h.os, h.tape, h.output, h.size, fun k hk => h.block k hk (not_noM k)⟩
theorem Keep.grown {M : Nat → Prop} {a b c : World} {row : Option Nat} (h : Keep M a b) (hg : b.grownBy c row) (hr : ∀ k, row = some k → M k ∨ a.heap.size ≤ k) : Keep M a c :=
  h.trans' (M' := fun k => row = some k) ⟨hg.os, hg.tape, hg.output, hg.size, fun k hk hn => hg.block k hk (fun e => hn e.symm)⟩ (fun i hi e => by
    rcases hr i e with hp | hp
    · exact hp
    · omega)
theorem Keep.cell? {M : Nat → Prop} {w w' : World} (h : Keep M w w') {p : Addr} (hp : ¬ M p.block) (hb : p.block < w.heap.size) : w'.cell? p = w.cell? p :=
  World.cell?_of_block (w := w) (h.block p.block hb hp)
theorem Keep.cell {M : Nat → Prop} {w w' : World} (h : Keep M w w') {p : Addr} {v : Value} (hp : ¬ M p.block) (hc : w.cell? p = some v) : w'.cell? p = some v :=
  (h.cell? hp (World.block_lt_of_cell? w p hc)).trans hc
theorem Keep.frozen? {M : Nat → Prop} {w w' : World} (h : Keep M w w') {p : Addr} (hp : ¬ M p.block) (hb : p.block < w.heap.size) : w'.frozen? p = w.frozen? p :=
  World.frozen?_of_block (w := w) (h.block p.block hb hp)
theorem Keep.obj {M : Nat → Prop} {w w' : World} (h : Keep M w w') {k : Nat} {o : Obj} (hp : ¬ M k) (ho : w.heap[k]? = some o) : w'.heap[k]? = some o :=
  (h.block k (Array.getElem?_eq_some_iff.1 ho).1 hp).trans ho

theorem lt_of_obj {w : World} {k : Nat} {o : Obj} (h : w.heap[k]? = some o) : k < w.heap.size := (Array.getElem?_eq_some_iff.1 h).1

/-! ### a row of cells -/

/-- the cells cs lie in a row from address a on, in a block of S. -/
def RowAt (w : World) (S : Nat → Prop) (a : Option Addr) (cs : List Value) : Prop :=
  cs = [] ∨ ∃ b off, a = some ⟨b, off, none⟩ ∧ S b ∧ ∀ i (h : i < cs.length), w.cell? ⟨b, off + i, none⟩ = some cs[i]

theorem RowAt.nil (w : World) (S : Nat → Prop) (a : Option Addr) : RowAt w S a [] := .inl rfl
theorem RowAt.mono {w : World} {S S' : Nat → Prop} {a : Option Addr} {cs : List Value} (h : RowAt w S a cs) (hs : ∀ b, b < w.heap.size → S b → S' b) : RowAt w S' a cs := by
  rcases h with h | ⟨b, off, rfl, hb, h⟩
  · exact .inl h
  · by_cases hl : cs.length = 0
    · exact .inl (List.eq_nil_of_length_eq_zero hl)
    · exact .inr ⟨b, off, rfl, hs b (World.block_lt_of_cell? w _ (h 0 (by omega))) hb, h⟩
theorem RowAt.keep {w w' : World} {M S : Nat → Prop} {a : Option Addr} {cs : List Value} (h : RowAt w S a cs) (k : Keep M w w') (hs : ∀ b, S b → ¬ M b) : RowAt w' S a cs := by
  rcases h with h | ⟨b, off, rfl, hb, h⟩
  · exact .inl h
  · exact .inr ⟨b, off, rfl, hb, fun i hi => k.cell (p := ⟨b, off + i, none⟩) (hs b hb) (h i hi)⟩
theorem RowAt.quiet {w w' : World} {S : Nat → Prop} {a : Option Addr} {cs : List Value} (h : RowAt w S a cs) (q : Quiet w w') : RowAt w' S a cs :=
  h.keep (Keep.of_quiet (M := noM) q) fun _ _ => not_noM _
/-- a cell. -/
theorem RowAt.at {w : World} {S : Nat → Prop} {a : Option Addr} {cs : List Value} (h : RowAt w S a cs) {k : Nat} (hk : k < cs.length) :
    ∃ b off, a = some ⟨b, off, none⟩ ∧ S b ∧ w.cell? ⟨b, off + k, none⟩ = some cs[k] := by
  rcases h with h | ⟨b, off, rfl, hb, h⟩
  · subst h; simp at hk
  · exact ⟨b, off, rfl, hb, h k hk⟩
/-- the row is there. -/
theorem RowAt.open {w : World} {S : Nat → Prop} {a : Option Addr} {cs : List Value} (h : RowAt w S a cs) (hn : 0 < cs.length) :
    ∃ b off, a = some ⟨b, off, none⟩ ∧ S b ∧ b < w.heap.size ∧ ∀ i (h : i < cs.length), w.cell? ⟨b, off + i, none⟩ = some cs[i] := by
  rcases h with h | ⟨b, off, rfl, hb, h⟩
  · subst h; simp at hn
  · exact ⟨b, off, rfl, hb, World.block_lt_of_cell? w _ (h 0 hn), h⟩
theorem RowAt.take {w : World} {S : Nat → Prop} {a : Option Addr} {cs : List Value} (h : RowAt w S a cs) (n : Nat) : RowAt w S a (cs.take n) := by
  rcases h with h | ⟨b, off, rfl, hb, h⟩
  · exact .inl (by simp [h])
  · exact .inr ⟨b, off, rfl, hb, fun i hi => by rw [h i (by simp at hi; omega)]; simp⟩
theorem RowAt.drop {w : World} {S : Nat → Prop} {b off : Nat} {cs : List Value} (h : RowAt w S (some ⟨b, off, none⟩) cs) (n : Nat) : RowAt w S (some ⟨b, off + n, none⟩) (cs.drop n) := by
  rcases h with h | ⟨b', off', e, hb, h⟩
  · exact .inl (by simp [h])
  · simp at e; obtain ⟨rfl, rfl⟩ := e
    exact .inr ⟨b, off + n, rfl, hb, fun i hi => by simp at hi; rw [Nat.add_assoc, h (n + i) (by omega)]; simp⟩
/-- whatever a row's block holds from its start on. -/
theorem RowAt.of_row {w : World} {S : Nat → Prop} {g : Nat} {cur : Array Value} {e : TypeId} {fz : Nat × Nat} (hg : w.heap[g]? = some (.cells cur e fz)) (hS : S g) {cs : List Value} (h : cs = cur.toList.take cs.length) : RowAt w S (some ⟨g, 0, none⟩) cs := by
  refine .inr ⟨g, 0, rfl, hS, fun i hi => ?_⟩
  rw [Nat.zero_add, cell_of_row w g i cur e fz hg]
  have hlen : cs.length ≤ cur.toList.length := by
    have := congrArg List.length h
    simp at this; simp; omega
  have : cs[i]? = (cur.toList.take cs.length)[i]? := by rw [← h]
  rw [List.getElem?_eq_getElem hi, List.getElem?_take, if_pos hi] at this
  simpa using this.symm
/-- what the call owns is a row. -/
theorem rowAt_owned {w : World} {base : Nat} {e : TypeId} {size : Nat} {a : Option Addr} {n cap : Nat} {xs : List Value} (h : w.ownsRow base e size (.slice a n cap) n xs) : RowAt w (fun b => base ≤ b) a xs := by
  obtain ⟨hl, h⟩ := h
  rcases h with ⟨e0, h0⟩ | ⟨g, cap', cur, hv, hb, hg, hnc, hcm, hcs, ht⟩
  · subst h0; exact .inl (List.eq_nil_of_length_eq_zero (by simpa using hl))
  · simp at hv; obtain ⟨rfl, rfl⟩ := hv
    exact RowAt.of_row hg hb (by rw [hl]; exact ht.symm)

/-! ### bytes -/
def bcells (l : Bs) : List Value := l.map fun c => .int .u8 c.toNat
@[simp] theorem length_bcells (l : Bs) : (bcells l).length = l.length := by simp [bcells]
theorem getElem_bcells (l : Bs) (i : Nat) (h : i < (bcells l).length) : (bcells l)[i] = .int .u8 (l[i]'(by simpa using h)).toNat := by simp [bcells]
theorem bcells_append (a b : Bs) : bcells (a ++ b) = bcells a ++ bcells b := by simp [bcells]
theorem bcells_take (a : Bs) (n : Nat) : bcells (a.take n) = (bcells a).take n := by simp [bcells, List.map_take]
theorem bcells_drop (a : Bs) (n : Nat) : bcells (a.drop n) = (bcells a).drop n := by simp [bcells, List.map_drop]
theorem bcells_oneCell (l : Bs) : ∀ u ∈ bcells l, u.oneCell' = true := by
  intro u hu; simp [bcells] at hu; obtain ⟨c, _, rfl⟩ := hu; rfl
abbrev BytesAt (w : World) (S : Nat → Prop) (a : Option Addr) (l : Bs) : Prop := RowAt w S a (bcells l)
theorem RowAt.byte {w : World} {S : Nat → Prop} {a : Option Addr} {xs : Bs} (h : BytesAt w S a xs) {k : Nat} (hk : k < xs.length) :
    ∃ b off, a = some ⟨b, off, none⟩ ∧ w.cell? ⟨b, off + k, none⟩ = some (.int .u8 xs[k].toNat) := by
  obtain ⟨b, off, rfl, _, h⟩ := h.at (k := k) (by simpa using hk)
  exact ⟨b, off, rfl, by rw [h, getElem_bcells]⟩

/-- a text as a value. -/
def sv (s : Bs) : Value := .string ⟨s.toArray⟩

/-! ### plain data in memory -/
inductive D where
  | int (n : Int)
  | bool (b : Bool)
  | str (s : Bs)
  | slice (xs : List D)
  | agg (xs : List D)
  deriving Inhabited

/-- n elements of sz cells each, in a row. -/
def ElemsAt (w : World) (S : Nat → Prop) (sz : Nat) (a : Option Addr) (n : Nat) (css : Nat → List Value) : Prop :=
  n = 0 ∨ ∃ b off, a = some ⟨b, off, none⟩ ∧ S b ∧ b < w.heap.size ∧ ∀ i, i < n → (css i).length = sz ∧ ∀ j v, (css i)[j]? = some v → w.cell? ⟨b, off + (i * sz + j), none⟩ = some v

theorem ElemsAt.mono {w : World} {S S' : Nat → Prop} {sz : Nat} {a : Option Addr} {n : Nat} {css : Nat → List Value} (h : ElemsAt w S sz a n css) (hs : ∀ b, b < w.heap.size → S b → S' b) : ElemsAt w S' sz a n css := by
  rcases h with h | ⟨b, off, rfl, hb, hlt, h⟩
  · exact .inl h
  · exact .inr ⟨b, off, rfl, hs b hlt hb, hlt, h⟩
theorem ElemsAt.keep {w w' : World} {M S : Nat → Prop} {sz : Nat} {a : Option Addr} {n : Nat} {css : Nat → List Value} (h : ElemsAt w S sz a n css) (k : Keep M w w') (hs : ∀ b, S b → ¬ M b) : ElemsAt w' S sz a n css := by
  rcases h with h | ⟨b, off, rfl, hb, hlt, h⟩
  · exact .inl h
  · exact .inr ⟨b, off, rfl, hb, Nat.lt_of_lt_of_le hlt k.size, fun i hi => ⟨(h i hi).1, fun j v hv => k.cell (p := ⟨b, _, none⟩) (hs b hb) ((h i hi).2 j v hv)⟩⟩

/-- the cells cs, of type t, hold the datum; all memory that is met lies in blocks of S. -/
inductive Rep (P : Program) (w : World) (S : Nat → Prop) : TypeId → List Value → D → Prop
  | int {t : TypeId} {k : IntKind} {n : Int} (ht : P.underlying t = some (.int k)) (hw : (Lit.int k n).wf = true) : Rep P w S t [.int k n] (.int n)
  | bool {t : TypeId} {b : Bool} (ht : P.underlying t = some .bool) : Rep P w S t [.bool b] (.bool b)
  | str {t : TypeId} {s : Bs} (ht : P.underlying t = some .string) (hs : s.length ≤ maxLen) : Rep P w S t [.string ⟨s.toArray⟩] (.str s)
  | slice {t e : TypeId} {a : Option Addr} {len cap : Nat} {xs : List D} (css : Nat → List Value) (ht : P.underlying t = some (.slice e)) (hl : len = xs.length) (hc : len ≤ cap) (hm : cap ≤ maxLen)
      (hr : ElemsAt w S (P.cellsOf e) a xs.length css) (he : ∀ i (h : i < xs.length), Rep P w S e (css i) xs[i]) : Rep P w S t [.slice a len cap] (.slice xs)
  | struct {t : TypeId} {fs : Array Field} {cs : List Value} {xs : List D} (ht : P.underlying t = some (.struct fs)) (hl : cs.length = P.cellsOf t) (hx : xs.length = fs.size)
      (he : ∀ j (h : j < xs.length) f, fs[j]? = some f → Rep P w S f.type ((cs.drop f.offset).take (P.cellsOf f.type)) xs[j]) : Rep P w S t cs (.agg xs)
  | array {t e : TypeId} {n : Nat} {cs : List Value} {xs : List D} (ht : P.underlying t = some (.array n e)) (hl : cs.length = P.cellsOf t) (hx : xs.length = n)
      (he : ∀ j (h : j < xs.length), Rep P w S e ((cs.drop (j * P.cellsOf e)).take (P.cellsOf e)) xs[j]) : Rep P w S t cs (.agg xs)

theorem Rep.mono {P : Program} {w : World} {S S' : Nat → Prop} {t : TypeId} {cs : List Value} {d : D} (h : Rep P w S t cs d) (hs : ∀ b, b < w.heap.size → S b → S' b) : Rep P w S' t cs d := by
  induction h with
  | int ht hw => exact .int ht hw
  | bool ht => exact .bool ht
  | str ht hl => exact .str ht hl
  | slice css ht hl hc hm hr he ih => exact .slice css ht hl hc hm (hr.mono hs) ih
  | struct ht hl hx he ih => exact .struct ht hl hx ih
  | array ht hl hx he ih => exact .array ht hl hx ih
theorem Rep.keep {P : Program} {w w' : World} {M S : Nat → Prop} {t : TypeId} {cs : List Value} {d : D} (h : Rep P w S t cs d) (k : Keep M w w') (hs : ∀ b, S b → ¬ M b) : Rep P w' S t cs d := by
  induction h with
  | int ht hw => exact .int ht hw
  | bool ht => exact .bool ht
  | str ht hl => exact .str ht hl
  | slice css ht hl hc hm hr he ih => exact .slice css ht hl hc hm (hr.keep k hs) ih
  | struct ht hl hx he ih => exact .struct ht hl hx ih
  | array ht hl hx he ih => exact .array ht hl hx ih
theorem Rep.quiet {P : Program} {w w' : World} {S : Nat → Prop} {t : TypeId} {cs : List Value} {d : D} (h : Rep P w S t cs d) (q : Quiet w w') : Rep P w' S t cs d :=
  h.keep (Keep.of_quiet (M := noM) q) fun _ _ => not_noM _

section trod
variable {H : Type} {enc : TypeId × Value → H} {P : Program} {w : World} {spare : Nat → Bool} {held : Bool}

/-- a type of plain data: no pointer, map, interface, function, float. -/
def plainT (P : Program) : Nat → TypeId → Bool
  | 0, _ => true
  | n + 1, t => match P.underlying t with
    | some .bool | some (.int _) | some .string => true
    | some (.slice e) => 0 < P.cellsOf e && plainT P n e
    | some (.array _ e) => plainT P n e
    | some (.struct fs) => fs.all fun f => plainT P n f.type
    | _ => false

/-- one step of 'plainT', into the list T. -/
def plainStep (P : Program) (T : List TypeId) (t : TypeId) : Bool := match P.underlying t with
  | some .bool | some (.int _) | some .string => true
  | some (.slice e) => 0 < P.cellsOf e && T.contains e
  | some (.array _ e) => T.contains e
  | some (.struct fs) => fs.all fun f => T.contains f.type
  | _ => false
theorem plain_of_closed {T : List TypeId} (h : T.all (plainStep P T) = true) : ∀ n, ∀ t ∈ T, plainT P n t = true
  | 0, _, _ => rfl
  | n + 1, t, ht => by
    have h1 := List.all_eq_true.1 h t ht
    have ih := plain_of_closed h n
    unfold plainStep at h1
    unfold plainT
    split at h1 <;> simp_all

theorem rep_of_trod : ∀ (fuel : Nat) (t : TypeId) (cs : List Value) (x : DataW H × List MemPlace), (∀ n, plainT P n t = true) →
    DataW.trod enc P w 0 spare held fuel t cs = some x → ∃ d, Rep P w (fun b => b < w.heap.size) t cs d
  | 0, t, cs, x, _, h => by simp [DataW.trod] at h
  | fuel + 1, t, cs, x, hpl, h => by
    have h1 := hpl 1
    unfold plainT at h1
    cases hu : P.underlying t with
    | none => simp [hu] at h1
    | some dsc =>
      cases dsc with
      | bool => obtain ⟨b, rfl, _⟩ := DataW.trod_bool hu h; exact ⟨_, .bool hu⟩
      | int k => obtain ⟨n, rfl, _, hw⟩ := DataW.trod_int hu h; exact ⟨_, .int hu hw⟩
      | string =>
        obtain ⟨s, rfl, _, hs⟩ := DataW.trod_string hu h
        refine ⟨.str s.data.toList, ?_⟩
        have e : s = ⟨s.data.toList.toArray⟩ := by cases s; rfl
        rw [e]
        exact .str hu (by rw [Array.length_toList]; exact hs)
      | slice e =>
        have he : ∀ n, plainT P n e = true := fun n => by have := hpl (n + 1); unfold plainT at this; simp [hu] at this; exact this.2
        have hpos : 0 < P.cellsOf e := by have := hpl 1; unfold plainT at this; simp [hu] at this; exact this.1
        rcases DataW.trod_slice hu h with ⟨rfl, _⟩ | ⟨a, len, cap, elems, rest, n, hfu, rfl, _, _, hlc, hcm, hlen, hel, _⟩
        · exact ⟨.slice [], .slice (fun _ => []) hu rfl (by simp) (by simp) (.inl rfl) (by simp)⟩
        · obtain rfl : fuel = n := by omega
          have key : ∀ i, i < len → ∃ c d, w.cells? 0 (a.add (i * P.cellsOf e)) (P.cellsOf e) = some c ∧ Rep P w (fun b => b < w.heap.size) e c d := by
            intro i hi
            have := hel i hi
            rw [List.getElem?_eq_getElem (by omega)] at this
            obtain ⟨c, hc, ht⟩ := Option.bind_eq_some_iff.1 this
            obtain ⟨d, hd⟩ := rep_of_trod fuel e c _ he ht
            exact ⟨c, d, hc, hd⟩
          by_cases h0 : len = 0
          · subst h0
            exact ⟨.slice [], .slice (fun _ => []) hu rfl (by simp) hcm (.inl rfl) (by simp)⟩
          · have hex : ∃ F : Nat → List Value × D, ∀ i, i < len → w.cells? 0 (a.add (i * P.cellsOf e)) (P.cellsOf e) = some (F i).1 ∧ Rep P w (fun b => b < w.heap.size) e (F i).1 (F i).2 :=
              ⟨fun i => if hi : i < len then ((key i hi).choose, (key i hi).choose_spec.choose) else default, fun i hi => by simp only [hi, dif_pos]; exact (key i hi).choose_spec.choose_spec⟩
            obtain ⟨F, hF⟩ := hex
            obtain ⟨b, off, spot⟩ := a
            obtain ⟨_, hl0, hc0⟩ := World.cells?_some (hF 0 (by omega)).1
            have hc00 := hc0 0 hpos
            rw [List.getElem?_eq_getElem (by omega)] at hc00
            have hspot : spot = none := by simpa [Addr.add] using World.cell?_spot hc00
            subst hspot
            have hlt : b < w.heap.size := by simpa [Addr.add] using World.block_lt_of_cell? w _ hc00
            have hadd : ∀ o n, (⟨b, o, none⟩ : Addr).add n = ⟨b, o + n, none⟩ := fun o n => by unfold Addr.add; split <;> simp_all
            refine ⟨.slice ((List.range len).map fun i => (F i).2), .slice (fun i => (F i).1) hu (by simp) hlc hcm (.inr ⟨b, off, rfl, hlt, hlt, ?_⟩) ?_⟩
            · intro i hi
              simp at hi
              obtain ⟨_, hl, hc⟩ := World.cells?_some (hF i hi).1
              refine ⟨hl, fun j v hv => ?_⟩
              have hj : j < P.cellsOf e := by rw [← hl]; exact (List.getElem?_eq_some_iff.1 hv).1
              have := hc j hj
              rw [hadd, hadd, hv] at this
              simpa [Nat.add_assoc] using this
            · intro i hi
              simp at hi
              simpa using (hF i hi).2
      | struct fs =>
        have he : ∀ f ∈ fs.toList, ∀ n, plainT P n f.type = true := fun f hf n => by
          have := hpl (n + 1); unfold plainT at this; simp only [hu] at this
          rw [← Array.all_toList, List.all_eq_true] at this
          exact this f hf
        obtain ⟨xs, n, hfu, _, hl, hx, hf⟩ := DataW.trod_struct hu h
        obtain rfl : fuel = n := by omega
        have key : ∀ j, j < xs.length → ∃ d, ∀ f, fs[j]? = some f → Rep P w (fun b => b < w.heap.size) f.type ((cs.drop f.offset).take (P.cellsOf f.type)) d := by
          intro j hj
          have hfj : fs[j]? = some fs[j] := Array.getElem?_eq_getElem (by omega)
          have := hf j _ hfj
          rw [List.getElem?_eq_getElem hj] at this
          obtain ⟨d, hd⟩ := rep_of_trod fuel _ _ _ (he _ (by simp)) this
          exact ⟨d, fun f hf' => by rw [hfj] at hf'; cases hf'; exact hd⟩
        have hex : ∃ F : Nat → D, ∀ j, j < xs.length → ∀ f, fs[j]? = some f → Rep P w (fun b => b < w.heap.size) f.type ((cs.drop f.offset).take (P.cellsOf f.type)) (F j) :=
          ⟨fun j => if hj : j < xs.length then (key j hj).choose else default, fun j hj => by simp only [hj, dif_pos]; exact (key j hj).choose_spec⟩
        obtain ⟨F, hF⟩ := hex
        refine ⟨.agg ((List.range fs.size).map F), .struct hu hl (by simp) fun j hj f hfj => ?_⟩
        simp at hj
        simpa using hF j (by omega) f hfj
      | array n e =>
        have he : ∀ m, plainT P m e = true := fun m => by have := hpl (m + 1); unfold plainT at this; simp only [hu] at this; exact this
        obtain ⟨xs, m, hfu, _, hl, hx, hf⟩ := DataW.trod_array hu h
        obtain rfl : fuel = m := by omega
        have key : ∀ j, j < n → ∃ d, Rep P w (fun b => b < w.heap.size) e ((cs.drop (j * P.cellsOf e)).take (P.cellsOf e)) d := by
          intro j hj
          have := hf j hj
          rw [List.getElem?_eq_getElem (by omega)] at this
          exact rep_of_trod fuel _ _ _ he this
        have hex : ∃ F : Nat → D, ∀ j, j < n → Rep P w (fun b => b < w.heap.size) e ((cs.drop (j * P.cellsOf e)).take (P.cellsOf e)) (F j) :=
          ⟨fun j => if hj : j < n then (key j hj).choose else default, fun j hj => by simp only [hj, dif_pos]; exact (key j hj).choose_spec⟩
        obtain ⟨F, hF⟩ := hex
        refine ⟨.agg ((List.range n).map F), .array hu hl (by simp) fun j hj => ?_⟩
        simp at hj
        simpa using hF j hj
      | _ => simp [hu] at h1
end trod
end Go.Proofs.Ytohbglopgjbfcaa
