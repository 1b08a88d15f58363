/-
  THE REFERENCE DISK, PART 3: put.
-/
import Derived.Test.YtohbglopgjbfcaaRef2
set_option linter.unusedVariables false
set_option linter.unusedSimpArgs false
namespace Go.Proofs.Ytohbglopgjbfcaa
open Go.RowKit

/-- one step of put. -/
def putStep {α : Type} (nm : α → Bs) (f : α) (s : List α × Bool) (p : α) : List α × Bool :=
  if nm p = nm f then s else if !s.2 && !Op.bytesLess (nm p) (nm f) then (s.1 ++ [f, p], true) else (s.1 ++ [p], s.2)
def putAcc {α : Type} (nm : α → Bs) (f : α) (L : List α) : List α × Bool := L.foldl (putStep nm f) ([], false)
def putAll {α : Type} (nm : α → Bs) (f : α) (L : List α) : List α := if (putAcc nm f L).2 then (putAcc nm f L).1 else (putAcc nm f L).1 ++ [f]
abbrev rnm (p : RF × RFC) : Bs := p.1.name
def putL (L : List RF) (f : RF) : List RF := putAll RF.name f L

theorem putStep_len {α : Type} (nm : α → Bs) (f : α) (s : List α × Bool) (p : α) : (putStep nm f s p).1.length ≤ s.1.length + 2 := by
  unfold putStep; split
  · omega
  · split <;> simp
theorem putAcc_len {α : Type} (nm : α → Bs) (f : α) (L : List α) : (putAcc nm f L).1.length ≤ 2 * L.length := by
  have : ∀ (L : List α) (s : List α × Bool), (L.foldl (putStep nm f) s).1.length ≤ s.1.length + 2 * L.length := by
    intro L
    induction L with
    | nil => intro s; simp
    | cons p L ih => intro s; have h1 := ih (putStep nm f s p); have h2 := putStep_len nm f s p; simp only [List.foldl_cons, List.length_cons]; omega
  simpa [putAcc] using this L ([], false)
theorem putAcc_succ {α : Type} (nm : α → Bs) (f : α) (L : List α) (j : Nat) (h : j < L.length) : putAcc nm f (L.take (j + 1)) = putStep nm f (putAcc nm f (L.take j)) L[j] := by
  unfold putAcc; rw [List.take_succ_eq_append_getElem h, List.foldl_append]; rfl
theorem putAcc_mem {α : Type} (nm : α → Bs) (f : α) (L : List α) : ∀ p ∈ (putAcc nm f L).1, p = f ∨ p ∈ L := by
  have : ∀ (L : List α) (s : List α × Bool) (p : α), p ∈ (L.foldl (putStep nm f) s).1 → p ∈ s.1 ∨ p = f ∨ p ∈ L := by
    intro L
    induction L with
    | nil => intro s p h; exact .inl h
    | cons q L ih =>
      intro s p h
      rcases ih _ _ h with h | h | h
      · unfold putStep at h
        split at h
        · exact .inl h
        · split at h <;> (simp at h; rcases h with h | h | h <;> simp_all)
      · exact .inr (.inl h)
      · exact .inr (.inr (List.mem_cons_of_mem _ h))
  intro p hp
  rcases this L _ p hp with h | h
  · simp at h
  · exact h
theorem putStep_map (f : RF × RFC) (s : Row × Bool) (p : RF × RFC) : ((putStep rnm f s p).1.map (·.1), (putStep rnm f s p).2) = putStep RF.name f.1 (s.1.map (·.1), s.2) p.1 := by
  unfold putStep rnm
  simp only
  split
  · rfl
  · split <;> simp
theorem putAcc_map (f : RF × RFC) (R : Row) : ((putAcc rnm f R).1.map (·.1), (putAcc rnm f R).2) = putAcc RF.name f.1 (R.map (·.1)) := by
  have : ∀ (R : Row) (s : Row × Bool), ((R.foldl (putStep rnm f) s).1.map (·.1), (R.foldl (putStep rnm f) s).2) = (R.map (·.1)).foldl (putStep RF.name f.1) (s.1.map (·.1), s.2) := by
    intro R
    induction R with
    | nil => intro s; rfl
    | cons p R ih => intro s; simp only [List.foldl_cons, List.map_cons]; rw [ih, ← putStep_map]
  exact this R ([], false)
theorem putAll_map (f : RF × RFC) (R : Row) : (putAll rnm f R).map (·.1) = putL (R.map (·.1)) f.1 := by
  have h := putAcc_map f R
  have h1 : (putAcc rnm f R).1.map (·.1) = (putAcc RF.name f.1 (R.map (·.1))).1 := by rw [← h]
  have h2 : (putAcc rnm f R).2 = (putAcc RF.name f.1 (R.map (·.1))).2 := by rw [← h]
  unfold putL putAll
  rw [← h2]
  split
  · exact h1
  · rw [List.map_append, h1]; rfl

theorem box3 (w : World) (v0 v1 v2 : Value) (t : TypeId) :
    (w.alloc (.cells #[v0, v1, v2] t)).cell? ⟨w.heap.size, 0, none⟩ = some v0 ∧ (w.alloc (.cells #[v0, v1, v2] t)).cell? ⟨w.heap.size, 1, none⟩ = some v1 ∧ (w.alloc (.cells #[v0, v1, v2] t)).cell? ⟨w.heap.size, 2, none⟩ = some v2 := by
  refine ⟨?_, ?_, ?_⟩ <;> (rw [World.cell?_alloc_at _ _ _ _ rfl]; rfl)

set_option maxRecDepth 100000 in
set_option maxHeartbeats 2000000 in
theorem rput_any (w : World) (S T : Nat → Prop) (hS : ∀ b, S b → b < w.heap.size) (bx : Nat) (x : RS) (h : XAt w S T bx x) (hl : x.L.length ≤ 100000) (f : RF) (y : RFC) (hf : FileOk w S f y) :
    Calls Try.prog 50 #[.pointer (some ⟨bx, 0, none⟩), .agg (fileC f y).toArray] w (RPost w S bx { x with L := putL x.L f }) := by
  obtain ⟨a, cap, R, hR, hb, hown, hT, hF⟩ := h.cells
  have hrow := rowAt_in hown hT
  have hnc : R.length ≤ cap ∧ cap ≤ maxLen := by obtain ⟨_, _, e, h1, h2, _⟩ := owned_shape hown; cases e; exact ⟨h1, h2⟩
  obtain ⟨h1, h2⟩ := hnc
  have hlen : R.length ≤ 100000 := by rw [← hR] at hl; simpa using hl
  have hbx := lt_of_obj hb
  have hc0w : w.cell? ⟨bx, 0, none⟩ = some (.slice a R.length cap) := by simp [World.cell?, hb]
  obtain ⟨fp, hfp⟩ : ∃ fp : RF × RFC, fp = (f, y) := ⟨_, rfl⟩
  have HH := mkHid (And.intro h (And.intro hR (And.intro hrow (And.intro hb (And.intro hF (And.intro hf hfp))))))
  clear h hF hR hrow hl hown hT hb hf hfp
  obtain ⟨fn, fd, fs⟩ := f
  obtain ⟨fa1, fc1, fa2, fc2⟩ := y
  obtain ⟨g0, g1, g2⟩ := box3 w (.string ⟨fn.toArray⟩) (.slice fa1 fd.length fc1) (.slice fa2 fs.length fc2) 75
  obtain ⟨w0, hw0⟩ : ∃ w0, w0 = w.alloc (.cells #[.string ⟨fn.toArray⟩, .slice fa1 fd.length fc1, .slice fa2 fs.length fc2] 75) := ⟨_, rfl⟩
  rw [← hw0] at g0 g1 g2
  have k0 : Keep noM w w0 := by rw [hw0]; exact alloc_keep _ _ _
  have hc0 := k0.cell (M := noM) (not_noM _) hc0w
  have HW := mkHid hw0
  have HG := mkHid (And.intro g0 (And.intro g1 (And.intro g2 (And.intro hc0 k0))))
  simp only [fileC]
  go_enter Try.func50, Try.ntmps50
  go_wp2_with fail
  rw [← hw0]
  clear hw0 g0 g1 g2 hc0 k0 hc0w
  obtain ⟨i0, hi, hz0, hz1, hz2⟩ := info_parts3 Try.infoFile
  go_loopw [4, 5, 6] (fun v dn i wr => ∃ j : Nat, j ≤ R.length ∧ i = .int .i64 j ∧ dn = .bool (putAcc rnm fp (R.take j)).2 ∧ Keep noM w0 wr ∧ wr.ownsRow w0.heap.size 75 3 v (putAcc rnm fp (R.take j)).1.length (Row.cells (putAcc rnm fp (R.take j)).1)) (fun _ _ i _ => R.length - (intOf i).toNat)
  case atStart => exact ⟨0, by omega, rfl, rfl, Keep.refl _ _, World.ownsRow_nil _ _ _ _⟩
  case round =>
    obtain ⟨j, hj, rfl, rfl, kp, own⟩ := hrel
    obtain ⟨g0, g1, g2, hc0, k0⟩ := HG.out
    have hc0 := kp.cell (M := noM) (not_noM _) hc0
    have g0 := kp.cell (M := noM) (not_noM _) g0
    have g1 := kp.cell (M := noM) (not_noM _) g1
    have g2 := kp.cell (M := noM) (not_noM _) g2
    have hsz : w0.heap.size ≤ wr.heap.size := kp.size
    have kw := k0.trans kp
    clear k0
    by_cases hlt : j < R.length
    · obtain ⟨b, off, rfl, hTb, hbl, e0, e1, e2⟩ := row_read (HH.out.2.2.1.keep kw (fun _ _ => not_noM _)) j hlt
      have hrs := putAcc_succ rnm fp R j hlt
      obtain ⟨dn, hdn⟩ : ∃ dn, dn = (putAcc rnm fp (R.take j)).2 := ⟨_, rfl⟩
      obtain ⟨acc, hacc⟩ : ∃ acc, acc = (putAcc rnm fp (R.take j)).1 := ⟨_, rfl⟩
      obtain ⟨b', off', hbe, _, _, z0, z1, z2⟩ := row_read HH.out.2.2.1 j hlt
      simp at hbe; obtain ⟨rfl, rfl⟩ := hbe
      obtain ⟨⟨p, y⟩, hp⟩ : ∃ p : RF × RFC, p = R[j] := ⟨_, rfl⟩
      rw [← hp] at z0 z1 z2
      have hal := putAcc_len rnm fp (R.take j)
      have hal2 : acc.length ≤ 200000 := by rw [hacc]; simp at hal; omega
      rw [← hp] at e0 e1 e2 hrs
      rw [← hacc] at own
      rw [← hdn]
      have HK := mkHid (And.intro kp (And.intro hrs (And.intro hp (And.intro hdn hacc))))
      clear kp hrs hp hdn hacc hal kw
      obtain ⟨nm, dt, sf⟩ := p
      obtain ⟨a1, c1, a2, c2⟩ := y
      simp only at e0 e1 e2
      have HE0 := mkHid (And.intro z0 (And.intro z1 z2))
      clear z0 z1 z2
      by_cases he : nm = fn
      · subst he
        have HO := mkHid own
        clear own
        go_wp2
        go_quiet (fail)
        go_wp2
        go_roundw
        case rel =>
          obtain ⟨kp, hrs, hp, hdn, hacc⟩ := HK.out
          have hfp := HH.out.2.2.2.2.2.2
          have hst : putAcc rnm fp (R.take (j + 1)) = putAcc rnm fp (R.take j) := by rw [hrs]; unfold putStep; rw [if_pos (by rw [hfp])]
          refine ⟨j + 1, by omega, by go_num, by rw [hst, hdn], kp.drewN _, ?_⟩
          rw [hst, ← hacc]; exact ownsRow_keep HO.out ((Keep.refl noM _).drewN _) (fun _ _ => not_noM _)
        case measure => simp [intOf]; omega
      · have hne : (nm == fn) = false := by rw [beq_eq_false_iff_ne]; exact he
        have HE := mkHid he
        clear he
        cases dn
        · cases hgt : Op.bytesLess nm fn
          · have HGT := mkHid hgt
            go_wp2
            go_quiet (fail)
            generalize nq = n1
            go_wp2
            go_quiet (fail)
            obtain ⟨wq, hwq⟩ : ∃ wq, wq = wr.drewN (n1 + nq) := ⟨_, rfl⟩
            have kq : Keep noM wr wq := by rw [hwq]; exact (Keep.refl _ _).drewN _
            first | rw [World.drewN_drewN, ← hwq] | rw [← hwq]
            have hc0 := kq.cell (M := noM) (not_noM _) hc0
            have g0 := kq.cell (M := noM) (not_noM _) g0
            have g1 := kq.cell (M := noM) (not_noM _) g1
            have g2 := kq.cell (M := noM) (not_noM _) g2
            have e0 := kq.cell (M := noM) (not_noM _) e0
            have e1 := kq.cell (M := noM) (not_noM _) e1
            have e2 := kq.cell (M := noM) (not_noM _) e2
            have own := ownsRow_keep own kq (fun _ _ => not_noM _)
            have hsq : w0.heap.size ≤ wq.heap.size := Nat.le_trans hsz kq.size
            have KQ := mkHid kq
            clear hwq kq
            have own2 := ownsRow_keep own (alloc_keep noM wq (.cells #[.string ⟨fn.toArray⟩, .slice fa1 fd.length fc1, .slice fa2 fs.length fc2] 75)) (fun _ _ => not_noM _)
            have hnew := file_new wq (.string ⟨fn.toArray⟩) (.slice fa1 fd.length fc1) (.slice fa2 fs.length fc2) 75
            have hbase : w0.heap.size ≤ (wq.alloc (.cells #[.string ⟨fn.toArray⟩, .slice fa1 fd.length fc1, .slice fa2 fs.length fc2] 75)).heap.size := by simp; omega
            go_wp2_with (at_builtin; first
              | (refine wpList_append_own _ rfl _ _ 32 rfl w0.heap.size 75 i0 _ 3 64 Try.underlying32 hi hz0 hz1 hz2 rfl (by decide) _ _ _ rfl own2 ⟨wq.heap.size, 0, none⟩ 1 1 [.string ⟨fn.toArray⟩, .slice fa1 fd.length fc1, .slice fa2 fs.length fc2] rfl (by simp) hnew (file_one _ _ _ _ _ _ _) (by unfold maxLen; omega) (by omega) hbase ?_; intro v2 w2 own3 hg2 hn2
                 have kk : Keep noM w0 w2 := ((HK.out.1.trans KQ.out).alloc _).grown hg2 (fun k e => .inr (own2.lt k e).1)
                 have kw : Keep noM w w2 := HG.out.2.2.2.2.trans kk
                 have hc0 := kk.cell (M := noM) (not_noM _) HG.out.2.2.2.1
                 have e0 := kw.cell (M := noM) (not_noM _) HE0.out.1
                 have e1 := kw.cell (M := noM) (not_noM _) HE0.out.2.1
                 have e2 := kw.cell (M := noM) (not_noM _) HE0.out.2.2
                 have KK := mkHid kk
                 have own4 := ownsRow_keep own3 (alloc_keep noM w2 (.cells #[.string ⟨nm.toArray⟩, .slice a1 dt.length c1, .slice a2 sf.length c2] 75)) (fun _ _ => not_noM _)
                 have hnew2 := file_new w2 (.string ⟨nm.toArray⟩) (.slice a1 dt.length c1) (.slice a2 sf.length c2) 75
                 have hbase2 : w0.heap.size ≤ (w2.alloc (.cells #[.string ⟨nm.toArray⟩, .slice a1 dt.length c1, .slice a2 sf.length c2] 75)).heap.size := by have := kk.size; simp; omega
                 clear kk kw hg2 hn2 own2 hnew hbase)
              | (refine wpList_append_own _ rfl _ _ 32 rfl w0.heap.size 75 i0 _ 3 64 Try.underlying32 hi hz0 hz1 hz2 rfl (by decide) _ _ _ rfl own4 ⟨w2.heap.size, 0, none⟩ 1 1 [.string ⟨nm.toArray⟩, .slice a1 dt.length c1, .slice a2 sf.length c2] rfl (by simp) hnew2 (file_one _ _ _ _ _ _ _) (by unfold maxLen; omega) (by omega) hbase2 ?_; intro v3 w3 own5 hg3 hn3))
            have HS2 : Hid (Keep noM w0 w3 ∧ w3.ownsRow w0.heap.size 75 3 v3 (acc.length + 1 + 1) (Row.cells acc ++ [.string ⟨fn.toArray⟩, .slice fa1 fd.length fc1, .slice fa2 fs.length fc2] ++ [.string ⟨nm.toArray⟩, .slice a1 dt.length c1, .slice a2 sf.length c2])) := mkHid (And.intro ((KK.out.alloc _).grown hg3 (fun k e => .inr (own4.lt k e).1)) own5)
            clear own3 own4 own5 hg3 hn3 own hnew2
            go_wp2
            go_roundw
            case rel =>
              obtain ⟨kp, hrs, hp, hdn, hacc⟩ := HK.out
              have hfp := HH.out.2.2.2.2.2.2
              have hst : putAcc rnm fp (R.take (j + 1)) = (acc ++ [fp, R[j]], true) := by
                rw [hrs, ← hp]; unfold putStep; rw [if_neg (by rw [hfp]; exact HE.out), ← hdn, ← hacc, if_pos (by simp only [hfp, rnm]; simp; exact HGT.out)]
              refine ⟨j + 1, by omega, by go_num, by rw [hst], HS2.out.1, ?_⟩
              rw [hst, Row.cells_append, ← hp, hfp]
              simpa [Row.cells, fileC] using HS2.out.2
            case measure => simp [intOf]; omega
          · have HGT := mkHid hgt
            go_wp2
            go_quiet (fail)
            generalize nq = n1
            go_wp2
            go_quiet (fail)
            obtain ⟨wq, hwq⟩ : ∃ wq, wq = wr.drewN (n1 + nq) := ⟨_, rfl⟩
            have kq : Keep noM wr wq := by rw [hwq]; exact (Keep.refl _ _).drewN _
            first | rw [World.drewN_drewN, ← hwq] | rw [← hwq]
            have hc0 := kq.cell (M := noM) (not_noM _) hc0
            have g0 := kq.cell (M := noM) (not_noM _) g0
            have g1 := kq.cell (M := noM) (not_noM _) g1
            have g2 := kq.cell (M := noM) (not_noM _) g2
            have e0 := kq.cell (M := noM) (not_noM _) e0
            have e1 := kq.cell (M := noM) (not_noM _) e1
            have e2 := kq.cell (M := noM) (not_noM _) e2
            have own := ownsRow_keep own kq (fun _ _ => not_noM _)
            have hsq : w0.heap.size ≤ wq.heap.size := Nat.le_trans hsz kq.size
            have KQ := mkHid kq
            clear hwq kq
            have own2 := ownsRow_keep own (alloc_keep noM wq (.cells #[.string ⟨nm.toArray⟩, .slice a1 dt.length c1, .slice a2 sf.length c2] 75)) (fun _ _ => not_noM _)
            have hnew := file_new wq (.string ⟨nm.toArray⟩) (.slice a1 dt.length c1) (.slice a2 sf.length c2) 75
            have hbase : w0.heap.size ≤ (wq.alloc (.cells #[.string ⟨nm.toArray⟩, .slice a1 dt.length c1, .slice a2 sf.length c2] 75)).heap.size := by simp; omega
            go_wp2_with (at_builtin; refine wpList_append_own _ rfl _ _ 32 rfl w0.heap.size 75 i0 _ 3 64 Try.underlying32 hi hz0 hz1 hz2 rfl (by decide) _ _ _ rfl own2 ⟨wq.heap.size, 0, none⟩ 1 1 [.string ⟨nm.toArray⟩, .slice a1 dt.length c1, .slice a2 sf.length c2] rfl (by simp) hnew (file_one _ _ _ _ _ _ _) (by unfold maxLen; omega) (by omega) hbase ?_; intro v2 w2 own3 hg2 hn2)
            have HS2 : Hid (Keep noM w0 w2 ∧ w2.ownsRow w0.heap.size 75 3 v2 (acc.length + 1) (Row.cells acc ++ [.string ⟨nm.toArray⟩, .slice a1 dt.length c1, .slice a2 sf.length c2])) := mkHid (And.intro (((HK.out.1.trans KQ.out).alloc _).grown hg2 (fun k e => .inr (own2.lt k e).1)) own3)
            clear own3 hg2 hn2 own own2 hnew
            go_wp2
            go_roundw
            case rel =>
              obtain ⟨kp, hrs, hp, hdn, hacc⟩ := HK.out
              have hfp := HH.out.2.2.2.2.2.2
              have hst : putAcc rnm fp (R.take (j + 1)) = (acc ++ [R[j]], false) := by
                rw [hrs, ← hp]; unfold putStep; rw [if_neg (by rw [hfp]; exact HE.out), ← hdn, ← hacc, if_neg (by simp only [hfp, rnm]; simp; exact HGT.out)]
              refine ⟨j + 1, by omega, by go_num, by rw [hst], HS2.out.1, ?_⟩
              rw [hst, Row.cells_append, ← hp]
              simpa [Row.cells, fileC] using HS2.out.2
            case measure => simp [intOf]; omega
        · skip
          go_wp2
          go_quiet (fail)
          generalize nq = n1
          go_wp2
          go_quiet (fail)
          obtain ⟨wq, hwq⟩ : ∃ wq, wq = wr.drewN (n1 + nq) := ⟨_, rfl⟩
          have kq : Keep noM wr wq := by rw [hwq]; exact (Keep.refl _ _).drewN _
          first | rw [World.drewN_drewN, ← hwq] | rw [← hwq]
          have hc0 := kq.cell (M := noM) (not_noM _) hc0
          have g0 := kq.cell (M := noM) (not_noM _) g0
          have g1 := kq.cell (M := noM) (not_noM _) g1
          have g2 := kq.cell (M := noM) (not_noM _) g2
          have e0 := kq.cell (M := noM) (not_noM _) e0
          have e1 := kq.cell (M := noM) (not_noM _) e1
          have e2 := kq.cell (M := noM) (not_noM _) e2
          have own := ownsRow_keep own kq (fun _ _ => not_noM _)
          have hsq : w0.heap.size ≤ wq.heap.size := Nat.le_trans hsz kq.size
          have KQ := mkHid kq
          clear hwq kq
          have own2 := ownsRow_keep own (alloc_keep noM wq (.cells #[.string ⟨nm.toArray⟩, .slice a1 dt.length c1, .slice a2 sf.length c2] 75)) (fun _ _ => not_noM _)
          have hnew := file_new wq (.string ⟨nm.toArray⟩) (.slice a1 dt.length c1) (.slice a2 sf.length c2) 75
          have hbase : w0.heap.size ≤ (wq.alloc (.cells #[.string ⟨nm.toArray⟩, .slice a1 dt.length c1, .slice a2 sf.length c2] 75)).heap.size := by simp; omega
          go_wp2_with (at_builtin; refine wpList_append_own _ rfl _ _ 32 rfl w0.heap.size 75 i0 _ 3 64 Try.underlying32 hi hz0 hz1 hz2 rfl (by decide) _ _ _ rfl own2 ⟨wq.heap.size, 0, none⟩ 1 1 [.string ⟨nm.toArray⟩, .slice a1 dt.length c1, .slice a2 sf.length c2] rfl (by simp) hnew (file_one _ _ _ _ _ _ _) (by unfold maxLen; omega) (by omega) hbase ?_; intro v2 w2 own3 hg2 hn2)
          have HS2 : Hid (Keep noM w0 w2 ∧ w2.ownsRow w0.heap.size 75 3 v2 (acc.length + 1) (Row.cells acc ++ [.string ⟨nm.toArray⟩, .slice a1 dt.length c1, .slice a2 sf.length c2])) := mkHid (And.intro (((HK.out.1.trans KQ.out).alloc _).grown hg2 (fun k e => .inr (own2.lt k e).1)) own3)
          clear own3 hg2 hn2 own own2 hnew
          go_wp2
          go_roundw
          case rel =>
            obtain ⟨kp, hrs, hp, hdn, hacc⟩ := HK.out
            have hfp := HH.out.2.2.2.2.2.2
            have hst : putAcc rnm fp (R.take (j + 1)) = (acc ++ [R[j]], true) := by
              rw [hrs, ← hp]; unfold putStep; rw [if_neg (by rw [hfp]; exact HE.out), ← hdn, ← hacc, if_neg (by simp)]
            refine ⟨j + 1, by omega, by go_num, by rw [hst], HS2.out.1, ?_⟩
            rw [hst, Row.cells_append, ← hp]
            simpa [Row.cells, fileC] using HS2.out.2
          case measure => simp [intOf]; omega
    · have hall : R.take j = R := List.take_of_length_le (by omega)
      rw [hall] at own ⊢
      have hal := putAcc_len rnm fp R
      have hbwr : wr.heap[bx]? = some (.cells #[.slice a R.length cap, .int .i64 x.fuse, .bool x.dead, .int .i64 x.ops] 34 (0, 0)) := kw.obj (not_noM _) HH.out.2.2.2.1
      have y2 : wr.frozen? ⟨bx, 0, none⟩ = false := by simp [World.frozen?, hbwr]
      have hmem : ∀ p ∈ putAll rnm fp R, FileOk w S p.1 p.2 := by
        obtain ⟨h, hR, hrow, hb, hF, hf, hfp⟩ := HH.out
        have hm := putAcc_mem rnm fp R
        intro p hp
        have : p = fp ∨ p ∈ R := by
          unfold putAll at hp
          split at hp
          · exact hm p hp
          · rcases List.mem_append.1 hp with hp | hp
            · exact hm p hp
            · simp at hp; exact .inl hp
        rcases this with rfl | h
        · rw [hfp]; exact hf
        · exact hF p h
      have HM := mkHid hmem
      clear hmem
      obtain ⟨dn, hdn⟩ : ∃ dn, dn = (putAcc rnm fp R).2 := ⟨_, rfl⟩
      obtain ⟨acc, hacc⟩ : ∃ acc, acc = (putAcc rnm fp R).1 := ⟨_, rfl⟩
      rw [← hacc] at own hal
      rw [← hdn]
      have HK := mkHid (And.intro kp (And.intro kw (And.intro hdn hacc)))
      clear kp kw hdn hacc hbwr hall
      cases dn
      · have own2 := ownsRow_keep own (alloc_keep noM wr (.cells #[.string ⟨fn.toArray⟩, .slice fa1 fd.length fc1, .slice fa2 fs.length fc2] 75)) (fun _ _ => not_noM _)
        have hnew := file_new wr (.string ⟨fn.toArray⟩) (.slice fa1 fd.length fc1) (.slice fa2 fs.length fc2) 75
        have hbase : w0.heap.size ≤ (wr.alloc (.cells #[.string ⟨fn.toArray⟩, .slice fa1 fd.length fc1, .slice fa2 fs.length fc2] 75)).heap.size := by simp; omega
        go_wp2_with (at_builtin; refine wpList_append_own _ rfl _ _ 32 rfl w0.heap.size 75 i0 _ 3 64 Try.underlying32 hi hz0 hz1 hz2 rfl (by decide) _ _ _ rfl own2 ⟨wr.heap.size, 0, none⟩ 1 1 [.string ⟨fn.toArray⟩, .slice fa1 fd.length fc1, .slice fa2 fs.length fc2] rfl (by simp) hnew (file_one _ _ _ _ _ _ _) (by unfold maxLen; omega) (by omega) hbase ?_; intro v2 w2 own3 hg2 hn2
                     have kk : Keep noM w0 w2 := ((HK.out.1).alloc _).grown hg2 (fun k e => .inr (own2.lt k e).1)
                     have KK := mkHid kk
                     have kw : Keep noM w w2 := HG.out.2.2.2.2.trans kk
                     have hc0 := kk.cell (M := noM) (not_noM _) HG.out.2.2.2.1
                     have hbw2 : w2.heap[bx]? = some (.cells #[.slice a R.length cap, .int .i64 x.fuse, .bool x.dead, .int .i64 x.ops] 34 (0, 0)) := kw.obj (not_noM _) HH.out.2.2.2.1
                     have y2 : w2.frozen? ⟨bx, 0, none⟩ = false := by simp [World.frozen?, hbw2]
                     obtain ⟨a', c', rfl, l1, l2, l3⟩ := owned_shape own3
                     have OW := mkHid own3
                     clear kk kw hg2 hn2 own2 hnew hbase hbw2 own3 own)
        go_end0
        have hput : putAll rnm fp R = acc ++ [fp] := by unfold putAll; rw [← HK.out.2.2.1, ← HK.out.2.2.2]; rfl
        have hxn := xat_new HH.out.1 hS (HG.out.2.2.2.2.trans KK.out) (putAll rnm fp R) a' c' (by rw [hput, Row.cells_append, HH.out.2.2.2.2.2.2]; simpa [Row.cells, fileC] using own_base OW.out HG.out.2.2.2.2.size) HM.out
        rw [putAll_map, HH.out.2.1] at hxn
        have hfp : fp.1 = ⟨fn, fd, fs⟩ := by rw [HH.out.2.2.2.2.2.2]
        rw [hfp] at hxn
        have hl2 : (putAll rnm fp R).length = acc.length + 1 := by rw [hput]; simp
        rw [hl2] at hxn
        exact ⟨rfl, hxn⟩
      · obtain ⟨a', c', rfl, l1, l2, l3⟩ := owned_shape own
        have OW := mkHid own
        clear own l3
        go_wp2
        go_end0
        have hput : putAll rnm fp R = acc := by unfold putAll; rw [← HK.out.2.2.1, ← HK.out.2.2.2]; rfl
        have hxn := xat_new HH.out.1 hS HK.out.2.1 (putAll rnm fp R) a' c' (by rw [hput]; exact own_base OW.out HG.out.2.2.2.2.size) HM.out
        rw [putAll_map, HH.out.2.1] at hxn
        have hfp : fp.1 = ⟨fn, fd, fs⟩ := by rw [HH.out.2.2.2.2.2.2]
        rw [hfp, hput] at hxn
        exact ⟨rfl, hxn⟩
end Go.Proofs.Ytohbglopgjbfcaa
