/-
  THE REFERENCE DISK, PART 1: how it lies in memory; find.
-/
import Derived.Test.YtohbglopgjbfcaaRef0
import Derived.Test.YtohbglopgjbfcaaSame
set_option linter.unusedVariables false
set_option linter.unusedSimpArgs false
namespace Go.Proofs.Ytohbglopgjbfcaa
open Go.RowKit

/-- a file of the reference's. -/
structure RF where
  name : Bs
  data : Bs
  safe : Bs
structure RFC where
  a1 : Option Addr
  c1 : Nat
  a2 : Option Addr
  c2 : Nat
def fileC (x : RF) (y : RFC) : List Value := [.string ⟨x.name.toArray⟩, .slice y.a1 x.data.length y.c1, .slice y.a2 x.safe.length y.c2]
structure FileOk (w : World) (S : Nat → Prop) (x : RF) (y : RFC) : Prop where
  nm : x.name.length ≤ maxLen
  l1 : x.data.length ≤ 262144
  l2 : x.safe.length ≤ 262144
  k1 : x.data.length ≤ y.c1
  k2 : x.safe.length ≤ y.c2
  m1 : y.c1 ≤ maxLen
  m2 : y.c2 ≤ maxLen
  b1 : BytesAt w S y.a1 x.data
  b2 : BytesAt w S y.a2 x.safe
theorem FileOk.keep {w w' : World} {M S : Nat → Prop} {x : RF} {y : RFC} (h : FileOk w S x y) (k : Keep M w w') (hs : ∀ b, S b → ¬ M b) : FileOk w' S x y :=
  ⟨h.nm, h.l1, h.l2, h.k1, h.k2, h.m1, h.m2, h.b1.keep k hs, h.b2.keep k hs⟩
theorem FileOk.mono {w : World} {S S' : Nat → Prop} {x : RF} {y : RFC} (h : FileOk w S x y) (hs : ∀ b, b < w.heap.size → S b → S' b) : FileOk w S' x y :=
  ⟨h.nm, h.l1, h.l2, h.k1, h.k2, h.m1, h.m2, h.b1.mono hs, h.b2.mono hs⟩

/-- files in a row, their cells. -/
abbrev Row := List (RF × RFC)
def Row.cells (L : Row) : List Value := (L.map fun p => fileC p.1 p.2).flatten
theorem Row.length_cells (L : Row) : (Row.cells L).length = 3 * L.length := by
  induction L with
  | nil => rfl
  | cons p L ih => simp only [Row.cells, List.map_cons, List.flatten_cons, List.length_append] at *; rw [ih]; simp [fileC]; omega
theorem Row.cells_append (A B : Row) : Row.cells (A ++ B) = Row.cells A ++ Row.cells B := by simp [Row.cells]
theorem Row.cells_at (L : Row) (k : Nat) (hk : k < L.length) (j : Nat) (hj : j < 3) : (Row.cells L)[3 * k + j]? = (fileC L[k].1 L[k].2)[j]? := by
  induction L generalizing k with
  | nil => simp at hk
  | cons p L ih =>
    have e : Row.cells (p :: L) = fileC p.1 p.2 ++ Row.cells L := by simp [Row.cells]
    rw [e]
    cases k with
    | zero => rw [List.getElem?_append_left (by simp [fileC]; omega)]; simp
    | succ k =>
      rw [List.getElem?_append_right (by simp [fileC]; omega)]
      have : 3 * (k + 1) + j - (fileC p.1 p.2).length = 3 * k + j := by simp [fileC]; omega
      rw [this, ih k (by simpa using hk)]
      rfl

structure RS where
  L : List RF
  fuse : Int
  dead : Bool
  ops : Int

/-- an owned row, in a world that has kept its block. -/
theorem ownsRow_keep {w w' : World} {M : Nat → Prop} {base : Nat} {e : TypeId} {size : Nat} {v : Value} {n : Nat} {xs : List Value} (h : w.ownsRow base e size v n xs) (k : Keep M w w') (hM : ∀ g, v.ownBlock = some g → ¬ M g) : w'.ownsRow base e size v n xs := by
  obtain ⟨hl, h⟩ := h
  refine ⟨hl, ?_⟩
  rcases h with h | ⟨g, cap, cur, rfl, h1, h2, h3⟩
  · exact .inl h
  · exact .inr ⟨g, cap, cur, rfl, h1, k.obj (hM g rfl) h2, h3⟩
theorem rowAt_in {w : World} {T : Nat → Prop} {base : Nat} {e : TypeId} {size : Nat} {a : Option Addr} {n cap : Nat} {xs : List Value} (h : w.ownsRow base e size (.slice a n cap) n xs) (hT : ∀ p, a = some p → T p.block) : RowAt w T a xs := by
  rcases rowAt_owned h with h | ⟨b, off, rfl, _, h⟩
  · exact .inl h
  · exact .inr ⟨b, off, rfl, hT _ rfl, h⟩

/-- the reference's disk at bx; its row in blocks of T; bytes in S. -/
structure XAt (w : World) (S T : Nat → Prop) (bx : Nat) (x : RS) : Prop where
  cells : ∃ (a : Option Addr) (cap : Nat) (R : Row), R.map (·.1) = x.L ∧ w.heap[bx]? = some (.cells #[.slice a R.length cap, .int .i64 x.fuse, .bool x.dead, .int .i64 x.ops] 34 (0, 0)) ∧
    w.ownsRow 0 75 3 (.slice a R.length cap) R.length (Row.cells R) ∧ (∀ p, a = some p → T p.block) ∧ (∀ p ∈ R, FileOk w S p.1 p.2)
  dT : ∀ b, T b → ¬ S b ∧ b ≠ bx ∧ b < w.heap.size
  nx : ¬ S bx
  fuse0 : 0 ≤ x.fuse
  fuse1 : x.fuse ≤ 9223372036854775807

def findN (L : List RF) (k : Bs) : Nat := L.findIdx fun r => r.name == k
def findI (L : List RF) (k : Bs) : Int := if findN L k < L.length then findN L k else -1

set_option maxHeartbeats 1000000 in
theorem find_any (w : World) (S T : Nat → Prop) (bx : Nat) (x : RS) (h : XAt w S T bx x) (hl : x.L.length ≤ 1000000) (k : Bs) (hk : k.length ≤ maxLen) :
    Calls Try.prog 49 #[.pointer (some ⟨bx, 0, none⟩), .string ⟨k.toArray⟩] w fun e w' => e = .returned (.int .i64 (findI x.L k)) ∧ w = w' := by
  obtain ⟨a, cap, R, hR, hb, hown, hT, hF⟩ := h.cells
  have hrow := rowAt_in hown hT
  have hnc : R.length ≤ cap ∧ cap ≤ maxLen := by obtain ⟨_, _, e, h1, h2, _⟩ := owned_shape hown; cases e; exact ⟨h1, h2⟩
  obtain ⟨h1, h2⟩ := hnc
  have hc0 : w.cell? ⟨bx, 0, none⟩ = some (.slice a R.length cap) := by simp [World.cell?, hb]
  have hlen : R.length ≤ 1000000 := by rw [← hR] at hl; simpa using hl
  have HH := mkHid (And.intro hR hrow)
  clear h hb hF hR hrow hl hown hT
  go_enter Try.func49, Try.ntmps49
  go_wp2
  go_loop [5] (fun i => ∃ n : Nat, n ≤ R.length ∧ i = .int .i64 n ∧ ∀ r ∈ (x.L.take n), r.name ≠ k) (fun i => R.length - (intOf i).toNat)
  case atStart => exact ⟨0, by omega, rfl, by simp⟩
  case round =>
    obtain ⟨n, hn, rfl, ht⟩ := hrel
    have HT := mkHid ht; clear ht
    by_cases hlt : n < R.length
    · obtain ⟨b, off, rfl, hbg, hbl, hcs⟩ := HH.out.2.open (by rw [Row.length_cells]; omega)
      have e0 : w.cell? ⟨b, off + n * 3, none⟩ = some (.string ⟨R[n].1.name.toArray⟩) := by
        have := Row.cells_at R n hlt 0 (by omega)
        rw [List.getElem?_eq_getElem (by rw [Row.length_cells]; omega)] at this
        have h3 := hcs (3 * n + 0) (by rw [Row.length_cells]; omega)
        rw [show off + n * 3 = off + (3 * n + 0) by omega, h3, this]; rfl
      have hrn : R[n].1 = x.L[n]'(by rw [← HH.out.1]; simpa using hlt) := by simp [← HH.out.1]
      rw [hrn] at e0
      have hltL : n < x.L.length := by rw [← HH.out.1]; simpa using hlt
      by_cases he : x.L[n].name = k
      · rw [he] at e0
        have HE := mkHid (And.intro he hltL)
        clear hcs hrn he
        go_wp2
        go_ret
        refine ⟨ret_i64 ?_, rfl⟩
        obtain ⟨he, hltL⟩ := HE.out
        have : findN x.L k = n := by
          unfold findN
          rw [List.findIdx_eq (by omega)]
          refine ⟨by simp [he], fun j hj => ?_⟩
          have := HT.out (x.L[j]'(by omega)) (List.mem_take_iff_getElem.2 ⟨j, by omega, rfl⟩)
          simpa using this
        simp [findI, this, hltL]
      · obtain ⟨nm, hnm⟩ : ∃ nm, nm = x.L[n].name := ⟨_, rfl⟩
        rw [← hnm] at e0
        have hne : (nm == k) = false := by rw [beq_eq_false_iff_ne, hnm]; exact he
        clear hnm
        have HE := mkHid (And.intro he hltL)
        clear hcs hrn he
        go_wp2
        go_round
        case rel =>
          refine ⟨n + 1, by omega, by go_num, ?_⟩
          obtain ⟨he, hltL⟩ := HE.out
          rw [List.take_succ_eq_append_getElem hltL]
          intro r hr
          rcases List.mem_append.1 hr with hr | hr
          · exact HT.out r hr
          · simp at hr; subst hr; exact he
        case measure => simp [intOf]; omega
    · go_wp2
      go_ret
      refine ⟨ret_i64 ?_, rfl⟩
      have hl : x.L.length = R.length := by rw [← HH.out.1]; simp
      have : ¬ findN x.L k < x.L.length := by
        unfold findN
        rw [List.findIdx_lt_length]
        rintro ⟨r, hr, e⟩
        exact HT.out r (by rw [List.take_of_length_le (by omega)]; exact hr) (by simpa using e)
      simp [findI, this]
end Go.Proofs.Ytohbglopgjbfcaa
