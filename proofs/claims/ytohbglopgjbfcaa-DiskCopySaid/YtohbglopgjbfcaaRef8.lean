/-
  THE REFERENCE DISK, PART 8: Boot.
-/
import Derived.Test.YtohbglopgjbfcaaRef7
import Derived.Deep.RegionWith
set_option linter.unusedVariables false
set_option linter.unusedSimpArgs false
namespace Go.Proofs.Ytohbglopgjbfcaa
open Go.RowKit

def bootB (keep : Int) (data safe : Bs) : Bs := (bootF keep (data, safe)).1
def RF.boot (keep : Int) (r : RF) : RF := ⟨r.name, bootB keep r.data r.safe, bootB keep r.data r.safe⟩
def bootR (keep : Int) (p : RF × RFC) : RF × RFC := (p.1.boot keep, ⟨p.2.a1, p.2.c1, p.2.a1, p.2.c1⟩)
def RS.boot (x : RS) (keep : Int) : RS := { L := x.L.map (RF.boot keep), fuse := 0, dead := false, ops := x.ops }
def rowJ (keep : Int) (R : Row) (j : Nat) : Row := (R.take j).map (bootR keep) ++ R.drop j
theorem rowJ_len (keep : Int) (R : Row) (j : Nat) : (rowJ keep R j).length = R.length := by simp [rowJ]; omega
theorem rowJ_at (keep : Int) (R : Row) (j : Nat) (h : j < R.length) : (rowJ keep R j)[j]'(by rw [rowJ_len]; exact h) = R[j] := by
  simp [rowJ, List.getElem_append, show ¬ j < min j R.length by omega, show min j R.length = j by omega]
theorem rowJ_succ (keep : Int) (R : Row) (j : Nat) (h : j < R.length) : rowJ keep R (j + 1) = (rowJ keep R j).set j (bootR keep R[j]) := by
  apply List.ext_getElem?
  intro i
  rw [List.getElem?_set]
  simp only [rowJ, List.getElem?_append, List.length_map, List.length_take, List.getElem?_map, List.getElem?_take, List.getElem?_drop]
  by_cases hi : i < j
  · simp [show i < min (j + 1) R.length by omega, show i < j + 1 by omega, show ¬ j = i by omega, show i < min j R.length by omega, hi]
  · by_cases he : i = j
    · subst he
      simp [show i < min (i + 1) R.length by omega, h]
      omega
    · simp [show ¬ i < min (j + 1) R.length by omega, show ¬ j = i by omega, show ¬ i < min j R.length by omega]
      congr 1; omega
theorem bootB_len (keep : Int) (d s : Bs) : (bootB keep d s).length ≤ d.length := by
  unfold bootB bootF; split
  · simp
  · simp [torn]; omega
theorem bootB_take (keep : Int) (d s : Bs) : ∃ n, bootB keep d s = d.take n := by
  unfold bootB bootF; split
  · exact ⟨d.length, by simp⟩
  · exact ⟨_, rfl⟩
theorem FileOk.boot {w : World} {S : Nat → Prop} {x : RF} {y : RFC} (h : FileOk w S x y) (keep : Int) : FileOk w S (bootR keep (x, y)).1 (bootR keep (x, y)).2 := by
  have hl := bootB_len keep x.data x.safe
  obtain ⟨n, hn⟩ := bootB_take keep x.data x.safe
  have hb : BytesAt w S y.a1 (bootB keep x.data x.safe) := by rw [hn]; unfold BytesAt; rw [bcells_take]; exact h.b1.take _
  have h1 := h.l1
  have h2 := h.k1
  exact ⟨h.nm, by simp only [bootR, RF.boot]; omega, by simp only [bootR, RF.boot]; omega, by simp only [bootR, RF.boot]; omega, by simp only [bootR, RF.boot]; omega, h.m1, h.m1, hb, hb⟩

/-- three cells of a row, stored: the row with that file. -/
theorem own_set {w : World} {g cap n : Nat} {R : Row} (hn : n = R.length) (own : w.ownsRow 0 75 3 (.slice (some ⟨g, 0, none⟩) n cap) n (Row.cells R)) (j : Nat) (hj : j < R.length) (p : RF × RFC) :
    (((w.setCell ⟨g, j * 3, none⟩ (.string ⟨p.1.name.toArray⟩)).setCell ⟨g, j * 3 + 1, none⟩ (.slice p.2.a1 p.1.data.length p.2.c1)).setCell ⟨g, j * 3 + 2, none⟩ (.slice p.2.a2 p.1.safe.length p.2.c2)).ownsRow 0 75 3 (.slice (some ⟨g, 0, none⟩) n cap) n (Row.cells (R.set j p)) := by
  obtain ⟨hl, h⟩ := own
  rcases h with ⟨h, _⟩ | ⟨g', cap', cur, e, h0, h1, h2, h3, h4, h5⟩
  · cases h
  · cases e
    refine ⟨by rw [Row.length_cells, List.length_set, hn]; omega, .inr ⟨g, cap, _, rfl, h0, heap_set3 (heap_set3 (heap_set3 h1 _ _) _ _) _ _, h2, h3, by simp [h4], ?_⟩⟩
    apply List.ext_getElem?
    intro i
    have hc : ∀ q, q < R.length → ∀ r, r < 3 → (Row.cells (R.set j p))[3 * q + r]? = if q = j then (fileC p.1 p.2)[r]? else (Row.cells R)[3 * q + r]? := by
      intro q hq r hr
      rw [Row.cells_at (R.set j p) q (by simpa using hq) r hr, Row.cells_at R q hq r hr, List.getElem_set]
      by_cases h : q = j
      · simp [h]
      · simp [h, Ne.symm h]
    by_cases hi : i < n * 3
    · have hq : i / 3 < R.length := by omega
      have hr : i % 3 < 3 := by omega
      have hii : 3 * (i / 3) + i % 3 = i := by omega
      have := hc (i / 3) hq (i % 3) hr
      rw [hii] at this
      rw [this]
      have h5' := congrArg (fun l : List Value => l[i]?) h5
      simp only [List.getElem?_take, hi, if_true] at h5' ⊢
      simp only [Array.getElem?_toList] at h5' ⊢
      have hcs : n * 3 ≤ cur.size := by rw [h4]; omega
      by_cases hqj : i / 3 = j
      · rw [if_pos hqj]
        have : i % 3 = 0 ∨ i % 3 = 1 ∨ i % 3 = 2 := by omega
        rcases this with hm | hm | hm
        · have : i = j * 3 := by omega
          subst this
          simp [hm, fileC, Array.getElem?_setIfInBounds, show j * 3 < cur.size by omega]
        · have : i = j * 3 + 1 := by omega
          subst this
          simp [hm, fileC, Array.getElem?_setIfInBounds, show j * 3 + 1 < cur.size by omega]
        · have : i = j * 3 + 2 := by omega
          subst this
          simp [hm, fileC, Array.getElem?_setIfInBounds, show j * 3 + 2 < cur.size by omega]
      · rw [if_neg hqj, ← h5']
        simp [Array.getElem?_setIfInBounds, show ¬ j * 3 = i by omega, show ¬ j * 3 + 1 = i by omega, show ¬ j * 3 + 2 = i by omega]
    · rw [List.getElem?_take, if_neg hi, List.getElem?_eq_none]
      rw [Row.length_cells, List.length_set]; omega

theorem i64wrap_small (n : Int) (h0 : -9223372036854775808 ≤ n) (h1 : n ≤ 9223372036854775807) : IntKind.i64.wrap n = n := by
  unfold IntKind.wrap
  simp [IntKind.bits, IntKind.signed]
  split <;> omega
theorem boot_round {w wb : World} {T : Nat → Prop} {g cap : Nat} {keep : Int} {R : Row} {j : Nat} (hj : j < R.length) (kp : Keep T w wb) (hT : T g) (own : wb.ownsRow 0 75 3 (.slice (some ⟨g, 0, none⟩) R.length cap) R.length (Row.cells (rowJ keep R j))) (nm : Bs) (a1 : Option Addr) (dl c1 : Nat)
    (h0 : nm = R[j].1.name) (h1 : a1 = R[j].2.a1) (h2 : dl = (bootB keep R[j].1.data R[j].1.safe).length) (h3 : c1 = R[j].2.c1) (W : World)
    (hW : W = ((wb.setCell ⟨g, j * 3, none⟩ (.string ⟨nm.toArray⟩)).setCell ⟨g, j * 3 + 1, none⟩ (.slice a1 dl c1)).setCell ⟨g, j * 3 + 2, none⟩ (.slice a1 dl c1)) :
    ∀ n, Keep T w (W.drewN n) ∧ (W.drewN n).ownsRow 0 75 3 (.slice (some ⟨g, 0, none⟩) R.length cap) R.length (Row.cells (rowJ keep R (j + 1))) := by
  intro n
  have hs := own_set (n := R.length) (rowJ_len keep R j).symm own j (by rw [rowJ_len]; exact hj) (bootR keep R[j])
  rw [← rowJ_succ keep R j hj] at hs
  subst hW h0 h1 h2 h3
  have k2 : Keep T wb _ := (((Keep.refl T wb).setCell (p := ⟨g, j * 3, none⟩) (.inl hT) (.string ⟨R[j].1.name.toArray⟩)).setCell (p := ⟨g, j * 3 + 1, none⟩) (.inl hT) (.slice R[j].2.a1 (bootB keep R[j].1.data R[j].1.safe).length R[j].2.c1)).setCell (p := ⟨g, j * 3 + 2, none⟩) (.inl hT) (.slice R[j].2.a1 (bootB keep R[j].1.data R[j].1.safe).length R[j].2.c1)
  exact ⟨(kp.trans k2).drewN n, hs⟩

set_option maxRecDepth 100000 in
set_option maxHeartbeats 40000000 in
theorem rboot_any (w : World) (S T : Nat → Prop) (hS : ∀ b, S b → b < w.heap.size) (bx : Nat) (x : RS) (h : XAt w S T bx x) (hl : x.L.length ≤ 1000) (keep : Int) (hk0 : -9223372036854775808 ≤ keep) (hk1 : keep ≤ 9223372036854775807) :
    Calls Try.prog 29 #[.pointer (some ⟨bx, 0, none⟩), .int .i64 keep] w fun e w' => e = .returned (.tuple #[]) ∧ Keep (fun b => b = bx ∨ T b) w w' ∧ XAt w' S T bx (x.boot keep) := by
  obtain ⟨a, cap, R, hR, hb, hown, hT, hF⟩ := h.cells
  have hlen : R.length ≤ 1000 := by rw [← hR] at hl; simpa using hl
  have hbx := lt_of_obj hb
  have hc0w : w.cell? ⟨bx, 0, none⟩ = some (.slice a R.length cap) := by simp [World.cell?, hb]
  have HH := mkHid (And.intro h (And.intro hR (And.intro hb (And.intro hT (And.intro hF hc0w)))))
  have HK := mkHid (And.intro hk0 (And.intro hk1 hS))
  have HO := mkHid hown
  clear h hF hR hl hown hT hb hc0w hk0 hk1 hS
  go_enter Try.func29, Try.ntmps29
  go_wp2
  go_loopw [4, 5, 6] (fun i _ _ wr => ∃ j : Nat, j ≤ R.length ∧ i = .int .i64 j ∧ Keep T w wr ∧ wr.ownsRow 0 75 3 (.slice a R.length cap) R.length (Row.cells (rowJ keep R j))) (fun i _ _ _ => R.length - (intOf i).toNat)
  case atStart => exact ⟨0, by omega, rfl, Keep.refl _ _, by simpa [rowJ] using HO.out⟩
  case round =>
    obtain ⟨j, hj, rfl, kp, own⟩ := hrel
    have hnT : ¬ T bx := fun e => (HH.out.1.dT bx e).2.1 rfl
    have hc0 := kp.cell (M := T) (p := ⟨bx, 0, none⟩) hnT HH.out.2.2.2.2.2
    have hsz := kp.size
    by_cases hlt : j < R.length
    · obtain ⟨g, cap', rfl, hgs⟩ : ∃ g cap', a = some ⟨g, 0, none⟩ ∧ g < wr.heap.size := by
        have hlt2 := own.lt
        rcases own.2 with ⟨e, h0⟩ | ⟨g, c, cur, e, _⟩
        · omega
        · cases e; exact ⟨g, cap, rfl, (hlt2 g rfl).2⟩
      have hTg : T g := HH.out.2.2.2.1 _ rfl
      have hrow := rowAt_in (T := T) own (fun p hp => by cases hp; exact hTg)
      obtain ⟨b', off', hbe, _, _, e0, e1, e2⟩ := row_read hrow j (by rw [rowJ_len]; exact hlt)
      cases hbe
      rw [rowJ_at keep R j hlt] at e0 e1 e2
      obtain ⟨⟨p, y⟩, hp⟩ : ∃ p : RF × RFC, p = R[j] := ⟨_, rfl⟩
      rw [← hp] at e0 e1 e2
      have hok : FileOk w S p y := by have := HH.out.2.2.2.2.1 R[j] (List.getElem_mem _); rw [← hp] at this; exact this
      have hgx : g ≠ bx := (HH.out.1.dT g hTg).2.1
      have HR := mkHid (And.intro kp (And.intro own (And.intro hp (And.intro hok hTg))))
      clear kp own hp hok hTg hrow hnT
      obtain ⟨nm, dt, sf⟩ := p
      obtain ⟨a1, c1, a2, c2⟩ := y
      simp only [Nat.zero_add] at e0 e1 e2
      have hgw : g ≠ wr.heap.size := by omega
      have hxw : bx ≠ wr.heap.size := by omega
      have kA : Keep noM wr (wr.alloc (.cells #[.string ⟨nm.toArray⟩, .slice a1 dt.length c1, .slice a2 sf.length c2] 75)) := alloc_keep _ _ _
      have kwA := HR.out.1.trans' kA (fun i hi e => e.elim)
      have hbd := HR.out.2.2.2.1.b1.keep kwA (fun b hb e => (HH.out.1.dT b e).1 hb)
      have hbs := HR.out.2.2.2.1.b2.keep kwA (fun b hb e => (HH.out.1.dT b e).1 hb)
      have hl1 := HR.out.2.2.2.1.l1
      have hl2 := HR.out.2.2.2.1.l2
      simp only at hbd hbs hl1 hl2
      have HB := mkHid (And.intro hbd hbs)
      clear hbd hbs kwA kA
      go_wp2_with fail
      refine (same_any a1 a2 dt sf c1 c2 S S _ HB.out.1 HB.out.2 (by unfold maxLen; omega) (by unfold maxLen; omega)).mono ?_
      rintro e w1 ⟨rfl, K1⟩
      have gb := K1.obj (not_noM _) (heap_alloc_new wr (.cells #[.string ⟨nm.toArray⟩, .slice a1 dt.length c1, .slice a2 sf.length c2] 75))
      have g0 : w1.cell? ⟨wr.heap.size, 0, none⟩ = some (.string ⟨nm.toArray⟩) := by simp [World.cell?, gb]
      have g1 : w1.cell? ⟨wr.heap.size, 1, none⟩ = some (.slice a1 dt.length c1) := by simp [World.cell?, gb]
      have g2 : w1.cell? ⟨wr.heap.size, 2, none⟩ = some (.slice a2 sf.length c2) := by simp [World.cell?, gb]
      have gf1 : w1.frozen? ⟨wr.heap.size, 1, none⟩ = false := by simp [World.frozen?, gb]
      have gf2 : w1.frozen? ⟨wr.heap.size, 2, none⟩ = false := by simp [World.frozen?, gb]
      have k1 : Keep noM wr w1 := (alloc_keep noM wr (.cells #[.string ⟨nm.toArray⟩, .slice a1 dt.length c1, .slice a2 sf.length c2] 75)).trans K1
      have own1 := ownsRow_keep HR.out.2.1 k1 (fun _ _ => not_noM _)
      have hc1 := k1.cell (M := noM) (not_noM _) hc0
      have e0' := k1.cell (M := noM) (not_noM _) e0
      have e1' := k1.cell (M := noM) (not_noM _) e1
      have e2' := k1.cell (M := noM) (not_noM _) e2
      have hfr : ∀ i, w1.frozen? ⟨g, i, none⟩ = false := by
        rcases own1.2 with ⟨e, _⟩ | ⟨g', c, cur, e, _, hg, _⟩
        · cases e
        · cases e; intro i; simp [World.frozen?, hg]
      have r0 := hfr (j * 3)
      have r1 := hfr (j * 3 + 1)
      have r2 := hfr (j * 3 + 2)
      have HK1 := mkHid (And.intro K1 (And.intro k1 own1))
      clear K1 k1 own1 gb hc0 e0 e1 e2 hfr
      obtain ⟨eq, heq⟩ : ∃ b, b = decide (dt = sf) := ⟨_, rfl⟩
      rw [← heq]
      have HE := mkHid heq
      clear heq
      have hgw' : wr.heap.size ≠ g := hgw.symm
      have hxw' : wr.heap.size ≠ bx := hxw.symm
      have hgx' : bx ≠ g := hgx.symm
      cases eq
      · have kb1 := HK1.out.1
        have hbA := (HB.out.1).keep kb1 (fun _ _ => not_noM _)
        have hbB := (HB.out.2).keep kb1 (fun _ _ => not_noM _)
        have hca : dt.length ≤ c1 := HR.out.2.2.2.1.k1
        have hcm : c1 ≤ maxLen := HR.out.2.2.2.1.m1
        have HB2 := mkHid (And.intro hbA hbB)
        clear kb1 hbA hbB
        go_wp2_with fail
        refine (starts_any a1 a2 dt sf c1 c2 S S _ HB2.out.1 HB2.out.2 hca hl1 hl2).mono ?_
        rintro e w2 ⟨rfl, K2⟩
        have g0 := K2.cell (M := noM) (not_noM _) g0
        have g1 := K2.cell (M := noM) (not_noM _) g1
        have g2 := K2.cell (M := noM) (not_noM _) g2
        have hc1 := K2.cell (M := noM) (not_noM _) hc1
        have e0' := K2.cell (M := noM) (not_noM _) e0'
        have e1' := K2.cell (M := noM) (not_noM _) e1'
        have e2' := K2.cell (M := noM) (not_noM _) e2'
        have gb2 : w2.heap[wr.heap.size]? = some (.cells #[.string ⟨nm.toArray⟩, .slice a1 dt.length c1, .slice a2 sf.length c2] 75) := K2.obj (not_noM _) (HK1.out.1.obj (not_noM _) (heap_alloc_new wr _))
        have gf1 : w2.frozen? ⟨wr.heap.size, 1, none⟩ = false := by simp [World.frozen?, gb2]
        have gf2 : w2.frozen? ⟨wr.heap.size, 2, none⟩ = false := by simp [World.frozen?, gb2]
        have own2 := ownsRow_keep HK1.out.2.2 K2 (fun _ _ => not_noM _)
        have hfr : ∀ i, w2.frozen? ⟨g, i, none⟩ = false := by
          rcases own2.2 with ⟨e, _⟩ | ⟨g', c, cur, e, _, hg, _⟩
          · cases e
          · cases e; intro i; simp [World.frozen?, hg]
        have r0 := hfr (j * 3)
        have r1 := hfr (j * 3 + 1)
        have r2 := hfr (j * 3 + 2)
        have HK2 := mkHid (And.intro K2 own2)
        clear K2 own2 hfr gb2
        obtain ⟨px, hpx⟩ : ∃ b, b = sf.isPrefixOf dt := ⟨_, rfl⟩
        rw [← hpx]
        have HP := mkHid hpx
        cases px
        · clear hpx
          have hk0 := HK.out.1
          have hk1 := HK.out.2.1
          obtain ⟨pk, hpk⟩ : ∃ pk, pick keep (dt.length + 1) = pk := ⟨_, rfl⟩
          have hpk' : pick keep ((dt.length : Int) - 0 + 1) = pk := by rw [Int.sub_zero]; exact hpk
          have hp0 : 0 ≤ pk ∧ pk ≤ dt.length := by
            rw [← hpk]; unfold pick; rw [if_neg (by omega)]
            have e0 := Int.emod_lt_of_pos keep (show (0 : Int) < dt.length + 1 by omega)
            have e1 := Int.emod_nonneg keep (show ((dt.length : Int) + 1) ≠ 0 by omega)
            omega
          obtain ⟨hp0, hp1⟩ := hp0
          have hpc : pk ≤ c1 := by omega
          have HPK := mkHid hpk
          clear hpk
          have hw1 := i64wrap_small (dt.length : Int) (by omega) (by omega)
          have hw2 := i64wrap_small ((dt.length : Int) + 1) (by omega) (by omega)
          have hw3 := i64wrap_small pk (by omega) (by omega)
          go_wp2
          go_region_with (go_at_call 47; refine (Pick_any _ _ _ hk0 hk1 (by omega) (by omega)).mono ?_; rintro e w' ⟨rfl, rfl⟩; first | rw [hpk'] | rw [HPK.out])
          all_goals
            clear hpk' hw1 hw2 hw3
            have hpl : (pk.toNat : Int) = pk := by omega
            go_wp2
            go_region
            all_goals
              go_wp2
              go_roundw
              case rel =>
                have kS : Keep noM wr ((w2.setCell ⟨wr.heap.size, 1, none⟩ (.slice a1 pk.toNat c1)).setCell ⟨wr.heap.size, 2, none⟩ (.slice a1 pk.toNat c1)) := ((HK1.out.2.1.trans HK2.out.1).setCell (p := ⟨wr.heap.size, 1, none⟩) (.inr (Nat.le_refl _)) _).setCell (p := ⟨wr.heap.size, 2, none⟩) (.inr (Nat.le_refl _)) _
                have hfin := boot_round (keep := keep) (R := R) (j := j) hlt (HR.out.1.trans' kS (fun i hi e => e.elim)) HR.out.2.2.2.2 (ownsRow_keep HR.out.2.1 kS (fun _ _ => not_noM _)) nm a1 pk.toNat c1 (by rw [← HR.out.2.2.1]) (by rw [← HR.out.2.2.1]) (by
                  rw [← HR.out.2.2.1]; simp only; rw [bootB, bootF, if_neg (of_decide_eq_false HE.out.symm)]
                  simp only [torn, tornLen, ← HP.out, List.length_take]
                  have := HPK.out
                  unfold pick at this
                  rw [if_neg (by omega)] at this
                  simp at this ⊢
                  omega) (by rw [← HR.out.2.2.1]) _ rfl
                exact ⟨j + 1, by omega, by go_num, (hfin 2).1, (hfin 2).2⟩
              case measure => simp [intOf]; omega
        · have hle : sf.length ≤ dt.length := (List.isPrefixOf_iff_prefix.1 hpx.symm).length_le
          clear hpx
          have hk0 := HK.out.1
          have hk1 := HK.out.2.1
          obtain ⟨pk, hpk⟩ : ∃ pk, pick keep ((dt.length : Int) - sf.length + 1) = pk := ⟨_, rfl⟩
          have hpk' := hpk
          have hp0 : 0 ≤ pk ∧ pk ≤ dt.length - sf.length := by
            rw [← hpk]; unfold pick; rw [if_neg (by omega)]
            have e0 := Int.emod_lt_of_pos keep (show (0 : Int) < dt.length - sf.length + 1 by omega)
            have e1 := Int.emod_nonneg keep (show ((dt.length : Int) - sf.length + 1) ≠ 0 by omega)
            omega
          obtain ⟨hp0, hp1⟩ := hp0
          have hpc : (sf.length : Int) + pk ≤ c1 := by omega
          have hpc0 : (0 : Int) ≤ (sf.length : Int) + pk := by omega
          have HPK := mkHid hpk
          clear hpk
          have hw1 := i64wrap_small ((dt.length : Int) - sf.length) (by omega) (by omega)
          have hw2 := i64wrap_small ((dt.length : Int) - sf.length + 1) (by omega) (by omega)
          have hw3 := i64wrap_small ((sf.length : Int) + pk) (by omega) (by omega)
          go_wp2
          go_region_with (go_at_call 47; refine (Pick_any _ _ _ hk0 hk1 (by omega) (by omega)).mono ?_; rintro e w' ⟨rfl, rfl⟩; first | rw [hpk'] | rw [HPK.out])
          all_goals
            clear hpk' hw1 hw2 hw3
            have hpl : (((sf.length : Int) + pk).toNat : Int) = sf.length + pk := by omega
            go_wp2
            go_region
            all_goals
              go_wp2
              go_roundw
              case rel =>
                have kS : Keep noM wr ((w2.setCell ⟨wr.heap.size, 1, none⟩ (.slice a1 ((sf.length : Int) + pk).toNat c1)).setCell ⟨wr.heap.size, 2, none⟩ (.slice a1 ((sf.length : Int) + pk).toNat c1)) := ((HK1.out.2.1.trans HK2.out.1).setCell (p := ⟨wr.heap.size, 1, none⟩) (.inr (Nat.le_refl _)) _).setCell (p := ⟨wr.heap.size, 2, none⟩) (.inr (Nat.le_refl _)) _
                have hfin := boot_round (keep := keep) (R := R) (j := j) hlt (HR.out.1.trans' kS (fun i hi e => e.elim)) HR.out.2.2.2.2 (ownsRow_keep HR.out.2.1 kS (fun _ _ => not_noM _)) nm a1 ((sf.length : Int) + pk).toNat c1 (by rw [← HR.out.2.2.1]) (by rw [← HR.out.2.2.1]) (by
                  rw [← HR.out.2.2.1]; simp only; rw [bootB, bootF, if_neg (of_decide_eq_false HE.out.symm)]
                  simp only [torn, tornLen, ← HP.out, List.length_take]
                  have := HPK.out
                  unfold pick at this
                  rw [if_neg (by omega)] at this
                  simp at this ⊢
                  omega) (by rw [← HR.out.2.2.1]) _ rfl
                exact ⟨j + 1, by omega, by go_num, (hfin 2).1, (hfin 2).2⟩
              case measure => simp [intOf]; omega
      · go_wp2
        go_region
        all_goals
          go_wp2
          go_roundw
          case rel =>
            have kS : Keep noM wr (w1.setCell ⟨wr.heap.size, 2, none⟩ (.slice a1 dt.length c1)) := HK1.out.2.1.setCell (p := ⟨wr.heap.size, 2, none⟩) (.inr (Nat.le_refl _)) _
            have hfin := boot_round (keep := keep) (R := R) (j := j) hlt (HR.out.1.trans' kS (fun i hi e => e.elim)) HR.out.2.2.2.2 (ownsRow_keep HR.out.2.1 kS (fun _ _ => not_noM _)) nm a1 dt.length c1 (by rw [← HR.out.2.2.1]) (by rw [← HR.out.2.2.1]) (by rw [← HR.out.2.2.1]; simp only; rw [bootB, bootF, if_pos (of_decide_eq_true HE.out.symm)]) (by rw [← HR.out.2.2.1]) _ rfl
            exact ⟨j + 1, by omega, by go_num, (hfin 1).1, (hfin 1).2⟩
          case measure => simp [intOf]; omega
    · have hall : rowJ keep R j = R.map (bootR keep) := by simp [rowJ, List.take_of_length_le (show R.length ≤ j by omega), List.drop_of_length_le (show R.length ≤ j by omega)]
      rw [hall] at own
      have hbw : wr.heap[bx]? = some (.cells #[.slice a R.length cap, .int .i64 x.fuse, .bool x.dead, .int .i64 x.ops] 34 (0, 0)) := kp.obj hnT HH.out.2.2.1
      have d1 : wr.cell? ⟨bx, 1, none⟩ = some (.int .i64 x.fuse) := by simp [World.cell?, hbw]
      have d2 : wr.cell? ⟨bx, 2, none⟩ = some (.bool x.dead) := by simp [World.cell?, hbw]
      have d3 : wr.frozen? ⟨bx, 1, none⟩ = false := by simp [World.frozen?, hbw]
      have d4 : wr.frozen? ⟨bx, 2, none⟩ = false := by simp [World.frozen?, hbw]
      have HR := mkHid (And.intro kp (And.intro own (And.intro hbw hnT)))
      clear kp own hbw hnT hall
      go_wp2
      go_end0
      obtain ⟨kp, own, hbw, hnT⟩ := HR.out
      obtain ⟨h, hR, hb, hT, hF, _⟩ := HH.out
      have k2 : Keep (isB bx) wr ((wr.setCell ⟨bx, 1, none⟩ (.int .i64 0)).setCell ⟨bx, 2, none⟩ (.bool false)) := ((Keep.refl (isB bx) wr).setCell (p := ⟨bx, 1, none⟩) (.inl rfl) _).setCell (p := ⟨bx, 2, none⟩) (.inl rfl) _
      have kk : Keep (fun b => b = bx ∨ T b) w ((wr.setCell ⟨bx, 1, none⟩ (.int .i64 0)).setCell ⟨bx, 2, none⟩ (.bool false)) := (kp.mono (fun _ _ e => Or.inr e)).trans (k2.mono (fun _ _ e => Or.inl e))
      refine ⟨rfl, kk, ⟨a, cap, R.map (bootR keep), ?_, ?_, ?_, hT, ?_⟩, fun b hb => ⟨(h.dT b hb).1, (h.dT b hb).2.1, Nat.lt_of_lt_of_le (h.dT b hb).2.2 kk.size⟩, h.nx, by simp [RS.boot], by simp [RS.boot]⟩
      · simp only [RS.boot, ← hR, List.map_map]; rfl
      · rw [heap_set3 (heap_set3 hbw _ _) _ _]; simp [RS.boot]
      · rw [List.length_map]
        refine ownsRow_keep own k2 (fun g hg e => ?_)
        cases a with
        | none => simp [Value.ownBlock] at hg
        | some p => simp [Value.ownBlock] at hg; exact (h.dT _ (hT p rfl)).2.1 (hg.trans e)
      · intro p hp
        obtain ⟨q, hq, rfl⟩ := List.mem_map.1 hp
        exact ((hF q hq).boot keep).keep kk (fun b hb e => e.elim (fun e => h.nx (e ▸ hb)) (fun e => (h.dT b e).1 hb))
end Go.Proofs.Ytohbglopgjbfcaa
