/-
  THE REFERENCE DISK, PART 2: drop, put.
-/
import Derived.Test.YtohbglopgjbfcaaRef1
import Derived.Test.YtohbglopgjbfcaaPlay
set_option linter.unusedVariables false
set_option linter.unusedSimpArgs false
namespace Go.Proofs.Ytohbglopgjbfcaa
open Go.RowKit

theorem Try.infoFile : (Try.prog.info? 75).map (fun i => (i.zero, i.size, i.bytes)) = some (some (.agg #[.string ⟨#[]⟩, .slice none 0 0, .slice none 0 0]), 3, 64) := by kernel_rfl
theorem info_parts3 {o : Option TypeInfo} {z : Option Value} {a b : Nat} (h : o.map (fun i => (i.zero, i.size, i.bytes)) = some (z, a, b)) : ∃ i, o = some i ∧ i.zero = z ∧ i.size = a ∧ i.bytes = b := by
  cases o with
  | none => simp at h
  | some i => simp at h; exact ⟨i, rfl, h.1, h.2.1, h.2.2⟩

/-- a file of the row, its three cells. -/
theorem row_read {w : World} {T : Nat → Prop} {a : Option Addr} {R : Row} (h : RowAt w T a (Row.cells R)) (n : Nat) (hlt : n < R.length) :
    ∃ b off, a = some ⟨b, off, none⟩ ∧ T b ∧ b < w.heap.size ∧ w.cell? ⟨b, off + n * 3, none⟩ = some (.string ⟨R[n].1.name.toArray⟩) ∧
      w.cell? ⟨b, off + n * 3 + 1, none⟩ = some (.slice R[n].2.a1 R[n].1.data.length R[n].2.c1) ∧ w.cell? ⟨b, off + n * 3 + 2, none⟩ = some (.slice R[n].2.a2 R[n].1.safe.length R[n].2.c2) := by
  obtain ⟨b, off, rfl, hb, hbl, hcs⟩ := h.open (by rw [Row.length_cells]; omega)
  have hh : ∀ j (hj : j < 3), w.cell? ⟨b, off + n * 3 + j, none⟩ = (fileC R[n].1 R[n].2)[j]? := by
    intro j hj
    have := Row.cells_at R n hlt j hj
    rw [List.getElem?_eq_getElem (by rw [Row.length_cells]; omega)] at this
    have h3 := hcs (3 * n + j) (by rw [Row.length_cells]; omega)
    rw [show off + n * 3 + j = off + (3 * n + j) by omega, h3, this]
  exact ⟨b, off, rfl, hb, hbl, hh 0 (by omega), hh 1 (by omega), hh 2 (by omega)⟩

theorem file_one (nm : ByteArray) (a1 a2 : Option Addr) (n1 c1 n2 c2 : Nat) : ∀ u ∈ [Value.string nm, .slice a1 n1 c1, .slice a2 n2 c2], u.oneCell' = true := by
  intro u hu
  simp at hu
  rcases hu with rfl | rfl | rfl <;> rfl
theorem file_new (w : World) (v1 v2 v3 : Value) (t : TypeId) : ∀ j u, [v1, v2, v3][j]? = some u → (w.alloc (.cells #[v1, v2, v3] t)).cell? ((⟨w.heap.size, 0, none⟩ : Addr).add j) = some u :=
  row_cells (RowAt.of_row (S := fun _ => True) (heap_alloc_new w _) trivial (by simp))

/-- the row behind a call that has put the files of R' into new memory. -/
def dropR (R : Row) (k : Bs) : Row := R.filter fun p => !(p.1.name == k)
def dropL (L : List RF) (k : Bs) : List RF := L.filter fun r => !(r.name == k)
theorem dropR_map (R : Row) (k : Bs) : (dropR R k).map (·.1) = dropL (R.map (·.1)) k := by
  simp [dropR, dropL, List.filter_map, Function.comp_def]

/-- a change of the reference's disk. -/
def RPost (w : World) (S : Nat → Prop) (bx : Nat) (x' : RS) (e : Ending) (w' : World) : Prop :=
  e = .returned (.tuple #[]) ∧ Keep (isB bx) w w' ∧ ∃ T', (∀ b, T' b → w.heap.size ≤ b) ∧ XAt w' S T' bx x'

theorem own_base {W : World} {base base' : Nat} {e : TypeId} {size : Nat} {v : Value} {k : Nat} {xs : List Value} (h : W.ownsRow base e size v k xs) (hb : base' ≤ base) : W.ownsRow base' e size v k xs :=
  ⟨h.1, h.2.elim Or.inl (fun ⟨g, cap, cur, hv, hg, r⟩ => Or.inr ⟨g, cap, cur, hv, Nat.le_trans hb hg, r⟩)⟩
theorem xat_new {w wr : World} {S T : Nat → Prop} {bx : Nat} {x : RS} (h : XAt w S T bx x) (hS : ∀ b, S b → b < w.heap.size) (kp : Keep noM w wr) (R' : Row) (a' : Option Addr) (c' : Nat)
    (own : wr.ownsRow w.heap.size 75 3 (.slice a' R'.length c') R'.length (Row.cells R')) (hF : ∀ p ∈ R', FileOk w S p.1 p.2) :
    Keep (isB bx) w (wr.setCell ⟨bx, 0, none⟩ (.slice a' R'.length c')) ∧ ∃ T', (∀ b, T' b → w.heap.size ≤ b) ∧ XAt (wr.setCell ⟨bx, 0, none⟩ (.slice a' R'.length c')) S T' bx { x with L := R'.map (·.1) } := by
  obtain ⟨a, cap, R, hR, hb, hown, hT, _⟩ := h.cells
  have hbx := lt_of_obj hb
  have hbwr := kp.obj (not_noM _) hb
  have k1 : Keep (isB bx) wr (wr.setCell ⟨bx, 0, none⟩ (.slice a' R'.length c')) := (Keep.refl (isB bx) wr).setCell (p := ⟨bx, 0, none⟩) (.inl rfl) _
  have kk : Keep (isB bx) w (wr.setCell ⟨bx, 0, none⟩ (.slice a' R'.length c')) := (keepAll kp).trans k1
  refine ⟨kk, fun b => w.heap.size ≤ b ∧ b < wr.heap.size, fun b hb => hb.1, ⟨a', c', R', rfl, ?_, ?_, ?_, ?_⟩, ?_, h.nx, h.fuse0, h.fuse1⟩
  · rw [heap_set3 hbwr]; simp
  · exact own_base (ownsRow_keep own k1 (fun g hg e => by have := (own.lt g hg).1; unfold isB at e; omega)) (Nat.zero_le _)
  · rintro p rfl
    exact own.lt p.block rfl
  · intro p hp
    exact (hF p hp).keep kk (fun b hb e => h.nx (e ▸ hb))
  · intro b hb
    have hsz := k1.size
    exact ⟨fun hs => by have := hS b hs; omega, by omega, by omega⟩

set_option maxRecDepth 100000 in
set_option maxHeartbeats 2000000 in
theorem drop_any (w : World) (S T : Nat → Prop) (hS : ∀ b, S b → b < w.heap.size) (bx : Nat) (x : RS) (h : XAt w S T bx x) (hl : x.L.length ≤ 1000000) (k : Bs) (hk : k.length ≤ maxLen) :
    Calls Try.prog 51 #[.pointer (some ⟨bx, 0, none⟩), .string ⟨k.toArray⟩] w (RPost w S bx { x with L := dropL x.L k }) := by
  obtain ⟨a, cap, R, hR, hb, hown, hT, hF⟩ := h.cells
  have hrow := rowAt_in hown hT
  have hnc : R.length ≤ cap ∧ cap ≤ maxLen := by obtain ⟨_, _, e, h1, h2, _⟩ := owned_shape hown; cases e; exact ⟨h1, h2⟩
  obtain ⟨h1, h2⟩ := hnc
  have hlen : R.length ≤ 1000000 := by rw [← hR] at hl; simpa using hl
  have hbx := lt_of_obj hb
  have HH := mkHid (And.intro h (And.intro hR (And.intro hrow (And.intro hb hF))))
  have hc0w : w.cell? ⟨bx, 0, none⟩ = some (.slice a R.length cap) := by simp [World.cell?, hb]
  have HC0 := mkHid hc0w
  clear h hF hR hrow hl hown hT hb
  go_enter Try.func51, Try.ntmps51
  go_wp2
  obtain ⟨i0, hi, hz0, hz1, hz2⟩ := info_parts3 Try.infoFile
  go_loopw [4, 5] (fun v i wr => ∃ j : Nat, j ≤ R.length ∧ i = .int .i64 j ∧ Keep noM w wr ∧ wr.ownsRow w.heap.size 75 3 v (dropR (R.take j) k).length (Row.cells (dropR (R.take j) k))) (fun _ i _ => R.length - (intOf i).toNat)
  case atStart => exact ⟨0, by omega, rfl, Keep.refl _ _, World.ownsRow_nil _ _ _ _⟩
  case round =>
    obtain ⟨j, hj, rfl, kp, own⟩ := hrel
    clear hc0w
    have hc0 := kp.cell (M := noM) (not_noM _) HC0.out
    have hsz := kp.size
    by_cases hlt : j < R.length
    · obtain ⟨b, off, rfl, hTb, hbl, e0, e1, e2⟩ := row_read (HH.out.2.2.1.keep kp (fun _ _ => not_noM _)) j hlt
      have hrs : R.take (j + 1) = R.take j ++ [R[j]] := List.take_succ_eq_append_getElem hlt
      obtain ⟨⟨p, y⟩, hp⟩ : ∃ p : RF × RFC, p = R[j] := ⟨_, rfl⟩
      rw [← hp] at e0 e1 e2 hrs
      have HK := mkHid (And.intro kp (And.intro hrs hp))
      clear kp hrs hp
      obtain ⟨nm, dt, sf⟩ := p
      obtain ⟨a1, c1, a2, c2⟩ := y
      simp only at e0 e1 e2
      by_cases he : nm = k
      · subst he
        have HO := mkHid own
        clear own
        go_wp2
        go_roundw
        case rel =>
          refine ⟨j + 1, by omega, by go_num, HK.out.1, ?_⟩
          have : dropR (R.take (j + 1)) nm = dropR (R.take j) nm := by rw [HK.out.2.1]; simp [dropR]
          rw [this]; exact HO.out
        case measure => simp [intOf]; omega
      · have hne : (nm == k) = false := by rw [beq_eq_false_iff_ne]; exact he
        have HE := mkHid he
        clear he
        have own2 := ownsRow_keep own (alloc_keep noM wr (.cells #[.string ⟨nm.toArray⟩, .slice a1 dt.length c1, .slice a2 sf.length c2] 75)) (fun _ _ => not_noM _)
        have hnew := file_new wr (.string ⟨nm.toArray⟩) (.slice a1 dt.length c1) (.slice a2 sf.length c2) 75
        have hdl : (dropR (R.take j) k).length ≤ 1000000 := by
          have := List.length_filter_le (fun p : RF × RFC => !(p.1.name == k)) (R.take j)
          unfold dropR; simp at this ⊢; omega
        have hbase : w.heap.size ≤ (wr.alloc (.cells #[.string ⟨nm.toArray⟩, .slice a1 dt.length c1, .slice a2 sf.length c2] 75)).heap.size := by simp; omega
        go_wp2_with (at_builtin; refine wpList_append_own _ rfl _ _ 32 rfl w.heap.size 75 i0 _ 3 64 Try.underlying32 hi hz0 hz1 hz2 rfl (by decide) _ _ _ rfl own2 ⟨wr.heap.size, 0, none⟩ 1 1 [.string ⟨nm.toArray⟩, .slice a1 dt.length c1, .slice a2 sf.length c2] rfl (by simp) hnew (file_one _ _ _ _ _ _ _) (by unfold maxLen; omega) (by omega) hbase ?_; intro v' w2 own3 hg2 hn2)
        have K2 : Keep noM w w2 := (HK.out.1.alloc _).grown hg2 (fun k e => .inr (own2.lt k e).1)
        have HS2 := mkHid (And.intro K2 own3)
        clear K2 own3 hg2 hn2 own own2 hnew
        go_wp2
        go_roundw
        case rel =>
          refine ⟨j + 1, by omega, by go_num, HS2.out.1, ?_⟩
          have : dropR (R.take (j + 1)) k = dropR (R.take j) k ++ [R[j]] := by rw [HK.out.2.1, ← HK.out.2.2]; simp [dropR, HE.out]
          rw [this, Row.cells_append, ← HK.out.2.2]
          simpa [Row.cells, fileC] using HS2.out.2
        case measure => simp [intOf]; omega
    · have hall : R.take j = R := List.take_of_length_le (by omega)
      rw [hall] at own
      obtain ⟨a', c', rfl, h1', h2', h3'⟩ := owned_shape own
      have hbwr : wr.heap[bx]? = some (.cells #[.slice a R.length cap, .int .i64 x.fuse, .bool x.dead, .int .i64 x.ops] 34 (0, 0)) := kp.obj (not_noM _) HH.out.2.2.2.1
      have y2 : wr.frozen? ⟨bx, 0, none⟩ = false := by simp [World.frozen?, hbwr]
      have HS := mkHid (And.intro kp (And.intro own hbwr))
      clear kp own hall hbwr h3'
      go_wp2
      go_end0
      have hx := xat_new HH.out.1 hS HS.out.1 (dropR R k) a' c' HS.out.2.1 (fun p hp => HH.out.2.2.2.2 p ((List.mem_filter.1 hp).1))
      rw [dropR_map, HH.out.2.1] at hx
      exact ⟨rfl, hx⟩
end Go.Proofs.Ytohbglopgjbfcaa
