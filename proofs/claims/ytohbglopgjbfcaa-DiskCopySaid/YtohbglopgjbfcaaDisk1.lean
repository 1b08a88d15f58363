/-
  THE DISK, PART 1: what a disk is in memory ('DiskAt'); burn, names, there.
-/
import Derived.Test.YtohbglopgjbfcaaWord
import Derived.Maps.OwnSet
set_option linter.unusedVariables false
namespace Go.Proofs.Ytohbglopgjbfcaa
open Go.RowKit Go.Maps

/-- a file's value, by its shape: two slices. -/
def isFile : Value → Bool
  | .agg c => match c.toList with
    | [.slice _ _ _, .slice _ _ _] => true
    | _ => false
  | _ => false
/-- an element as it stands. -/
def heldR (v : Value) : Option (DataW Value × List MemPlace) := if isFile v then some (.held v, []) else none
theorem heldR_inv {v : Value} {d : DataW Value} {ps : List MemPlace} (h : heldR v = some (d, ps)) : d = .held v := by
  unfold heldR at h; split at h <;> simp at h; exact h.1.symm
theorem isFile_inv {v : Value} (h : isFile v = true) : ∃ a n c a' n' c', v = .agg #[.slice a n c, .slice a' n' c'] := by
  unfold isFile at h
  split at h
  · rename_i c
    split at h
    · rename_i a n c' a' n' c'' e
      refine ⟨a, n, c', a', n', c'', ?_⟩
      congr 1
      cases c; simp at e; rw [e]
    · cases h
  · cases h
theorem heldR_shape {v : Value} {z : DataW Value × List MemPlace} (h : heldR v = some z) : ∃ a n c a' n' c', v = .agg #[.slice a n c, .slice a' n' c'] := by
  unfold heldR at h; split at h
  · exact isFile_inv ‹_›
  · cases h

/-- a file's value: its bytes and what of them is safe. -/
def FileV (w : World) (S : Nat → Prop) (v : Value) (x : Bs × Bs) : Prop :=
  ∃ a1 c1 a2 c2, v = .agg #[.slice a1 x.1.length c1, .slice a2 x.2.length c2] ∧ x.1.length ≤ c1 ∧ x.2.length ≤ c2 ∧ c1 ≤ maxLen ∧ c2 ≤ maxLen ∧ x.1.length ≤ 262144 ∧ x.2.length ≤ 262144 ∧ BytesAt w S a1 x.1 ∧ BytesAt w S a2 x.2
theorem FileV.held {w : World} {S : Nat → Prop} {v : Value} {x : Bs × Bs} (h : FileV w S v x) : heldR v = some (.held v, []) := by
  obtain ⟨a1, c1, a2, c2, rfl, _⟩ := h; rfl
theorem FileV.mono {w : World} {S S' : Nat → Prop} {v : Value} {x : Bs × Bs} (h : FileV w S v x) (hs : ∀ b, b < w.heap.size → S b → S' b) : FileV w S' v x := by
  obtain ⟨a1, c1, a2, c2, rfl, h1, h2, h3, h4, h5, h6, h7, h8⟩ := h
  exact ⟨a1, c1, a2, c2, rfl, h1, h2, h3, h4, h5, h6, h7.mono hs, h8.mono hs⟩
theorem FileV.keep {w w' : World} {M S : Nat → Prop} {v : Value} {x : Bs × Bs} (h : FileV w S v x) (k : Keep M w w') (hs : ∀ b, S b → ¬ M b) : FileV w' S v x := by
  obtain ⟨a1, c1, a2, c2, rfl, h1, h2, h3, h4, h5, h6, h7, h8⟩ := h
  exact ⟨a1, c1, a2, c2, rfl, h1, h2, h3, h4, h5, h6, h7.keep k hs, h8.keep k hs⟩

abbrev Files := Bs → Option (Bs × Bs)
def Files.put (f : Files) (k : Bs) (x : Bs × Bs) : Files := fun k' => if k' = k then some x else f k'
def Files.del (f : Files) (k : Bs) : Files := fun k' => if k' = k then none else f k'

/-- the files of a map's datum. -/
structure FilesAt (w : World) (S : Nat → Prop) (Dm : DataW Value) (f : Files) : Prop where
  dom : ∀ k, Maps.has Dm (.string k) = (f k).isSome
  val : ∀ k x, f k = some x → ∃ v, (∀ z, Dm.atKey (.string k) z = .held v) ∧ FileV w S v x
theorem FilesAt.mono {w : World} {S S' : Nat → Prop} {Dm : DataW Value} {f : Files} (h : FilesAt w S Dm f) (hs : ∀ b, b < w.heap.size → S b → S' b) : FilesAt w S' Dm f :=
  ⟨h.dom, fun k x hx => let ⟨v, h1, h2⟩ := h.val k x hx; ⟨v, h1, h2.mono hs⟩⟩
theorem FilesAt.keep {w w' : World} {M S : Nat → Prop} {Dm : DataW Value} {f : Files} (h : FilesAt w S Dm f) (k : Keep M w w') (hs : ∀ b, S b → ¬ M b) : FilesAt w' S Dm f :=
  ⟨h.dom, fun k' x hx => let ⟨v, h1, h2⟩ := h.val k' x hx; ⟨v, h1, h2.keep k hs⟩⟩

/-- a disk's state. -/
structure DS where
  f : Files
  fuse : Int
  dead : Bool
  ops : Int

/-- the disk in block d, its map in block m, its bytes in blocks of S. -/
structure DiskAt (w : World) (S : Nat → Prop) (d m n : Nat) (s : DS) : Prop where
  disk : w.heap[d]? = some (.cells #[.map (some m), .int .i64 s.fuse, .bool s.dead, .int .i64 s.ops] 47 (0, 0))
  map : ∃ Dm, w.ownsMap Try.prog 9 heldR m n Dm ∧ FilesAt w S Dm s.f
  nd : ¬ S d
  nm : ¬ S m
  fuse0 : 0 ≤ s.fuse
  fuse1 : s.fuse ≤ 9223372036854775807

theorem DiskAt.ne {w : World} {S : Nat → Prop} {d m n : Nat} {s : DS} (h : DiskAt w S d m n s) : d ≠ m := by
  rintro rfl
  obtain ⟨Dm, ⟨es, clock, hb, _⟩, _⟩ := h.map
  rw [h.disk] at hb; cases hb
theorem DiskAt.mono {w : World} {S S' : Nat → Prop} {d m n : Nat} {s : DS} (h : DiskAt w S d m n s) (hs : ∀ b, b < w.heap.size → S b → S' b) (nd : ¬ S' d) (nm : ¬ S' m) : DiskAt w S' d m n s :=
  let ⟨Dm, h1, h2⟩ := h.map
  ⟨h.disk, ⟨Dm, h1, h2.mono hs⟩, nd, nm, h.fuse0, h.fuse1⟩
theorem ownsMap_keep {w w' : World} {M : Nat → Prop} {P : Program} {k : TypeId} {R : Value → Option (DataW Value × List MemPlace)} {b n : Nat} {Dm : DataW Value} (h : w.ownsMap P k R b n Dm) (kp : Keep M w w') (hb : ¬ M b) : w'.ownsMap P k R b n Dm := by
  obtain ⟨es, clock, ho, F, hs, hD⟩ := h
  exact ⟨es, clock, kp.obj hb ho, F, hs, hD⟩
theorem ownsMap_size {w : World} {P : Program} {k : TypeId} {R : Value → Option (DataW Value × List MemPlace)} {b n : Nat} {Dm : DataW Value} (h : w.ownsMap P k R b n Dm) : w.ownsMap P k R b (Maps.size Dm) Dm := by
  obtain ⟨es, clock, ho, F, _, hD⟩ := h
  exact ⟨es, clock, ho, F, by rw [hD]; simp [Maps.size, length_sorted], hD⟩
theorem DiskAt.more {w : World} {S : Nat → Prop} {d m n n' : Nat} {s : DS} (h : DiskAt w S d m n s) (hn : n ≤ n') : DiskAt w S d m n' s :=
  let ⟨Dm, h1, h2⟩ := h.map
  ⟨h.disk, ⟨Dm, h1.mono hn, h2⟩, h.nd, h.nm, h.fuse0, h.fuse1⟩
/-- what writes none of the disk's blocks, nor its bytes. -/
theorem DiskAt.keep {w w' : World} {M S : Nat → Prop} {d m n : Nat} {s : DS} (h : DiskAt w S d m n s) (k : Keep M w w') (hs : ∀ b, S b → ¬ M b) (hd : ¬ M d) (hm : ¬ M m) : DiskAt w' S d m n s :=
  let ⟨Dm, h1, h2⟩ := h.map
  ⟨k.obj hd h.disk, ⟨Dm, ownsMap_keep h1 k hm, h2.keep k hs⟩, h.nd, h.nm, h.fuse0, h.fuse1⟩
theorem DiskAt.cells {w : World} {S : Nat → Prop} {d m n : Nat} {s : DS} (h : DiskAt w S d m n s) :
    w.cell? ⟨d, 0, none⟩ = some (.map (some m)) ∧ w.cell? ⟨d, 1, none⟩ = some (.int .i64 s.fuse) ∧ w.cell? ⟨d, 2, none⟩ = some (.bool s.dead) ∧ w.cell? ⟨d, 3, none⟩ = some (.int .i64 s.ops) ∧
    w.frozen? ⟨d, 0, none⟩ = false ∧ w.frozen? ⟨d, 1, none⟩ = false ∧ w.frozen? ⟨d, 2, none⟩ = false ∧ w.frozen? ⟨d, 3, none⟩ = false ∧ d < w.heap.size := by
  have := h.disk
  refine ⟨?_, ?_, ?_, ?_, ?_, ?_, ?_, ?_, lt_of_obj this⟩ <;> simp [World.cell?, World.frozen?, this]

/-- the change is counted: does it burn the fuse? -/
def DS.burnt (s : DS) : Bool := decide (s.fuse = 1)
def DS.burn (s : DS) : DS := { s with ops := s.ops + 1, fuse := if s.fuse = 0 then 0 else s.fuse - 1, dead := if s.fuse = 0 then s.dead else decide (s.fuse = 1) }

theorem heap_set3 {w : World} {d : Nat} {cs : Array Value} {t : TypeId} {fz : Nat × Nat} (h : w.heap[d]? = some (.cells cs t fz)) (i : Nat) (v : Value) :
    (w.setCell ⟨d, i, none⟩ v).heap[d]? = some (.cells (cs.setIfInBounds i v) t fz) := by
  simp only [World.setCell, Array.getElem?_modify]
  rw [h]; simp

def isB (d : Nat) : Nat → Prop := fun b => b = d
def isB2 (d m : Nat) : Nat → Prop := fun b => b = d ∨ b = m
/-- the disk's own cells, new. -/
theorem DiskAt.recell {w w' : World} {S : Nat → Prop} {d m n : Nat} {s s' : DS} (h : DiskAt w S d m n s) (k : Keep (isB d) w w') (hf : s'.f = s.f) (h0 : 0 ≤ s'.fuse) (h1 : s'.fuse ≤ 9223372036854775807)
    (hd : w'.heap[d]? = some (.cells #[.map (some m), .int .i64 s'.fuse, .bool s'.dead, .int .i64 s'.ops] 47 (0, 0))) : DiskAt w' S d m n s' :=
  let ⟨Dm, h1', h2⟩ := h.map
  ⟨hd, ⟨Dm, ownsMap_keep h1' k (fun e => h.ne e.symm), by rw [hf]; exact h2.keep k (fun b hb e => h.nd (e ▸ hb))⟩, h.nd, h.nm, h0, h1⟩

set_option maxHeartbeats 400000 in
theorem burn_any (w : World) (S : Nat → Prop) (d m n : Nat) (s : DS) (h : DiskAt w S d m n s) (ho : 0 ≤ s.ops) (ho' : s.ops ≤ 1000000) :
    Calls Try.prog 45 #[.pointer (some ⟨d, 0, none⟩)] w fun e w' => e = .returned (.bool s.burnt) ∧ Keep (isB d) w w' ∧ DiskAt w' S d m n s.burn := by
  obtain ⟨c0, c1, c2, c3, f0, f1, f2, f3, hlt⟩ := h.cells
  have h0 := h.fuse0
  have h1 := h.fuse1
  have H := mkHid h; clear h
  by_cases hz : s.fuse = 0
  · have hz1 : (s.fuse == 0) = true := by simp [hz]
    have Z := mkHid hz; clear hz
    go_enter Try.func45, Try.ntmps45
    go_wp2
    go_ret
    have hk : Keep (isB d) w (w.setCell ⟨d, 3, none⟩ (.int .i64 (s.ops + 1))) := (Keep.refl (isB d) w).setCell (p := ⟨d, 3, none⟩) (.inl rfl) _
    refine ⟨by simp [DS.burnt, Z.out], hk, H.out.recell hk rfl (by simp [DS.burn, Z.out]) (by simp [DS.burn, Z.out]) ?_⟩
    rw [heap_set3 H.out.disk]; simp [DS.burn, Z.out]
  · have hz1 : (s.fuse == 0) = false := by simp [hz]
    have hb : (s.fuse - 1 == 0) = decide (s.fuse = 1) := by rw [Bool.eq_iff_iff]; simp; omega
    have Z := mkHid hz; clear hz
    have B := mkHid hb; clear hb
    go_enter Try.func45, Try.ntmps45
    go_wp2
    go_ret
    have hk : Keep (isB d) w (((w.setCell ⟨d, 3, none⟩ (.int .i64 (s.ops + 1))).setCell ⟨d, 1, none⟩ (.int .i64 (s.fuse - 1))).setCell ⟨d, 2, none⟩ (.bool (s.fuse - 1 == 0))) :=
      (((Keep.refl (isB d) w).setCell (p := ⟨d, 3, none⟩) (.inl rfl) _).setCell (p := ⟨d, 1, none⟩) (.inl rfl) _).setCell (p := ⟨d, 2, none⟩) (.inl rfl) _
    refine ⟨by simp [DS.burnt, B.out], hk, H.out.recell hk rfl ?_ ?_ ?_⟩
    · simp [DS.burn, Z.out]; have := Z.out; omega
    · simp [DS.burn, Z.out]; omega
    · rw [heap_set3 (heap_set3 (heap_set3 H.out.disk _ _) _ _)]; simp [DS.burn, Z.out, B.out]
end Go.Proofs.Ytohbglopgjbfcaa
