/-
  THE REFERENCE DISK, PART 4: Do.
-/
import Derived.Test.YtohbglopgjbfcaaRef3
set_option linter.unusedVariables false
set_option linter.unusedSimpArgs false
namespace Go.Proofs.Ytohbglopgjbfcaa
open Go.RowKit

def RS.burnt (x : RS) : Bool := decide (x.fuse = 1)
def RS.burn (x : RS) : RS := { x with ops := x.ops + 1, fuse := if x.fuse = 0 then 0 else x.fuse - 1, dead := if x.fuse = 0 then x.dead else decide (x.fuse = 1) }
def RS.code (x : RS) : Int := if x.burnt then 21 else 0
def RS.file (x : RS) (nm : Bs) : RF := (x.L.find? fun r => r.name == nm).getD ⟨nm, [], []⟩
def RS.has (x : RS) (nm : Bs) : Bool := decide (findN x.L nm < x.L.length)

/-- a call that answers a number. -/
def DoPost (w : World) (S T : Nat → Prop) (bx : Nat) (code : Int) (x' : RS) (e : Ending) (w' : World) : Prop :=
  e = .returned (.int .i64 code) ∧ Keep (isB bx) w w' ∧ ∃ S' T', (∀ b, S' b → S b ∨ w.heap.size ≤ b) ∧ (∀ b, S' b → b < w'.heap.size) ∧ (∀ b, T' b → T b ∨ w.heap.size ≤ b) ∧ XAt w' S' T' bx x'

theorem XAt.lt {w : World} {S T : Nat → Prop} {bx : Nat} {x : RS} (h : XAt w S T bx x) : bx < w.heap.size := by
  obtain ⟨a, cap, R, hR, hb, _⟩ := h.cells; exact lt_of_obj hb
theorem XAt.keep {w w' : World} {S T M : Nat → Prop} {bx : Nat} {x : RS} (h : XAt w S T bx x) (k : Keep M w w') (hM : ∀ b, S b ∨ T b ∨ b = bx → ¬ M b) : XAt w' S T bx x := by
  obtain ⟨a, cap, R, hR, hb, ho, hT, hF⟩ := h.cells
  refine ⟨⟨a, cap, R, hR, k.obj (hM _ (.inr (.inr rfl))) hb, ownsRow_keep ho k ?_, hT, fun p hp => (hF p hp).keep k (fun b hb => hM b (.inl hb))⟩, fun b hb => ⟨(h.dT b hb).1, (h.dT b hb).2.1, Nat.lt_of_lt_of_le (h.dT b hb).2.2 k.size⟩, h.nx, h.fuse0, h.fuse1⟩
  intro g hg
  cases a with
  | none => simp [Value.ownBlock] at hg
  | some p => simp [Value.ownBlock] at hg; exact hg ▸ hM _ (.inr (.inl (hT p rfl)))
/-- the disk's own cells, new. -/
theorem XAt.recell {w w' : World} {S T : Nat → Prop} {bx : Nat} {x x' : RS} (h : XAt w S T bx x) (k : Keep (isB bx) w w') (hL : x'.L = x.L) (h0 : 0 ≤ x'.fuse) (h1 : x'.fuse ≤ 9223372036854775807)
    (hb : ∀ a n cap, w.heap[bx]? = some (.cells #[.slice a n cap, .int .i64 x.fuse, .bool x.dead, .int .i64 x.ops] 34 (0, 0)) → w'.heap[bx]? = some (.cells #[.slice a n cap, .int .i64 x'.fuse, .bool x'.dead, .int .i64 x'.ops] 34 (0, 0))) : XAt w' S T bx x' := by
  obtain ⟨a, cap, R, hR, hb0, ho, hT, hF⟩ := h.cells
  refine ⟨⟨a, cap, R, by rw [hL]; exact hR, hb _ _ _ hb0, ownsRow_keep ho k ?_, hT, fun p hp => (hF p hp).keep k (fun b hb e => h.nx (e ▸ hb))⟩, fun b hb => ⟨(h.dT b hb).1, (h.dT b hb).2.1, Nat.lt_of_lt_of_le (h.dT b hb).2.2 k.size⟩, h.nx, h0, h1⟩
  intro g hg
  cases a with
  | none => simp [Value.ownBlock] at hg
  | some p => simp [Value.ownBlock] at hg; exact fun e => (h.dT _ (hT p rfl)).2.1 (hg.trans e)
theorem XAt.mem {w : World} {S T : Nat → Prop} {bx : Nat} {x : RS} (h : XAt w S T bx x) :
    ∃ a n cap, w.cell? ⟨bx, 0, none⟩ = some (.slice a n cap) ∧ w.cell? ⟨bx, 1, none⟩ = some (.int .i64 x.fuse) ∧ w.cell? ⟨bx, 2, none⟩ = some (.bool x.dead) ∧ w.cell? ⟨bx, 3, none⟩ = some (.int .i64 x.ops) ∧
    w.frozen? ⟨bx, 1, none⟩ = false ∧ w.frozen? ⟨bx, 2, none⟩ = false ∧ w.frozen? ⟨bx, 3, none⟩ = false := by
  obtain ⟨a, cap, R, hR, hb, _⟩ := h.cells
  refine ⟨a, R.length, cap, ?_, ?_, ?_, ?_, ?_, ?_, ?_⟩ <;> simp [World.cell?, World.frozen?, hb]

/-- the file that is found. -/
theorem XAt.found {w : World} {S T : Nat → Prop} {bx : Nat} {x : RS} (h : XAt w S T bx x) (nm : Bs) (hf : findN x.L nm < x.L.length) :
    ∃ b off n cap, ∃ y : RFC, w.cell? ⟨bx, 0, none⟩ = some (.slice (some ⟨b, off, none⟩) n cap) ∧ findN x.L nm < n ∧ b < w.heap.size ∧ FileOk w S (x.file nm) y ∧ (x.file nm).name = nm ∧
      w.cell? ⟨b, off + findN x.L nm * 3, none⟩ = some (.string ⟨nm.toArray⟩) ∧ w.cell? ⟨b, off + findN x.L nm * 3 + 1, none⟩ = some (.slice y.a1 (x.file nm).data.length y.c1) ∧ w.cell? ⟨b, off + findN x.L nm * 3 + 2, none⟩ = some (.slice y.a2 (x.file nm).safe.length y.c2) := by
  obtain ⟨a, cap, R, hR, hb, ho, hT, hF⟩ := h.cells
  have hlt : findN x.L nm < R.length := by rw [← hR] at hf ⊢; simpa using hf
  obtain ⟨b, off, rfl, _, hbl, e0, e1, e2⟩ := row_read (rowAt_in ho hT) (findN x.L nm) hlt
  have he : (R[findN x.L nm]).1 = x.L[findN x.L nm] := by simp [← hR]
  have hfile : x.file nm = x.L[findN x.L nm] := by
    have : x.L.find? (fun r => r.name == nm) = some (x.L[findN x.L nm]) := by
      unfold findN
      rw [List.find?_eq_some_iff_getElem]
      refine ⟨List.findIdx_getElem (p := fun r : RF => r.name == nm) (w := hf), findN x.L nm, hf, rfl, fun j hj => ?_⟩
      have := List.not_of_lt_findIdx hj
      simpa using this
    simp [RS.file, this]
  have hn : (x.file nm).name = nm := by
    rw [hfile]
    have h0 := List.findIdx_getElem (p := fun r : RF => r.name == nm) (w := hf)
    have h1 : (x.L[List.findIdx (fun r : RF => r.name == nm) x.L]'hf).name = nm := by simpa using h0
    exact h1
  refine ⟨b, off, R.length, cap, (R[findN x.L nm]).2, ?_, hlt, hbl, ?_, hn, ?_, ?_, ?_⟩
  · simp [World.cell?, hb]
  · rw [hfile, ← he]; exact hF _ (List.getElem_mem _)
  · rw [e0, he, ← hfile, hn]
  · rw [e1, he, ← hfile]
  · rw [e2, he, ← hfile]

/-- what Do answers, and what it makes of the disk: ahead of the change. -/
def RS.pre (x : RS) (k : Int) (nm to : Bs) : Int :=
  if x.dead then 21 else if !word nm || (decide (k = 3) && !word to) then 1 else if !x.has nm && decide (1 < k) then 11 else 0
def RS.doE (x : RS) (pre : Int) : Int := if pre ≠ 0 then pre else x.code
def RS.doS (x : RS) (pre : Int) (L : List RF) : RS := if pre ≠ 0 then x else { x.burn with L := if x.burnt then x.L else L }

-- GENERATED FROM HERE ON (wip/sh/gen_ref4.py)

theorem XAt.burn0 {w : World} {S T : Nat → Prop} {bx : Nat} {x : RS} (h : XAt w S T bx x) (hz : x.fuse = 0) :
    Keep (isB bx) w (w.setCell ⟨bx, 3, none⟩ (.int .i64 (x.ops + 1))) ∧ XAt (w.setCell ⟨bx, 3, none⟩ (.int .i64 (x.ops + 1))) S T bx x.burn := by
  have k : Keep (isB bx) w (w.setCell ⟨bx, 3, none⟩ (.int .i64 (x.ops + 1))) := (Keep.refl (isB bx) w).setCell (p := ⟨bx, 3, none⟩) (.inl rfl) _
  refine ⟨k, h.recell k rfl (by simp [RS.burn, hz]) (by simp [RS.burn, hz]) fun a n cap hb => ?_⟩
  rw [heap_set3 hb]; simp [RS.burn, hz]
theorem XAt.burn1 {w : World} {S T : Nat → Prop} {bx : Nat} {x : RS} (h : XAt w S T bx x) (hz : x.fuse = 1) :
    Keep (isB bx) w (((w.setCell ⟨bx, 3, none⟩ (.int .i64 (x.ops + 1))).setCell ⟨bx, 1, none⟩ (.int .i64 0)).setCell ⟨bx, 2, none⟩ (.bool true)) ∧ XAt (((w.setCell ⟨bx, 3, none⟩ (.int .i64 (x.ops + 1))).setCell ⟨bx, 1, none⟩ (.int .i64 0)).setCell ⟨bx, 2, none⟩ (.bool true)) S T bx x.burn := by
  have k : Keep (isB bx) w (((w.setCell ⟨bx, 3, none⟩ (.int .i64 (x.ops + 1))).setCell ⟨bx, 1, none⟩ (.int .i64 0)).setCell ⟨bx, 2, none⟩ (.bool true)) := (((Keep.refl (isB bx) w).setCell (p := ⟨bx, 3, none⟩) (.inl rfl) _).setCell (p := ⟨bx, 1, none⟩) (.inl rfl) _).setCell (p := ⟨bx, 2, none⟩) (.inl rfl) _
  refine ⟨k, h.recell k rfl (by simp [RS.burn, hz]) (by simp [RS.burn, hz]) fun a n cap hb => ?_⟩
  rw [heap_set3 (heap_set3 (heap_set3 hb _ _) _ _)]; simp [RS.burn, hz]
theorem XAt.burn2 {w : World} {S T : Nat → Prop} {bx : Nat} {x : RS} (h : XAt w S T bx x) (hz : 1 < x.fuse) :
    Keep (isB bx) w (((w.setCell ⟨bx, 3, none⟩ (.int .i64 (x.ops + 1))).setCell ⟨bx, 1, none⟩ (.int .i64 (x.fuse - 1))).setCell ⟨bx, 2, none⟩ (.bool false)) ∧ XAt (((w.setCell ⟨bx, 3, none⟩ (.int .i64 (x.ops + 1))).setCell ⟨bx, 1, none⟩ (.int .i64 (x.fuse - 1))).setCell ⟨bx, 2, none⟩ (.bool false)) S T bx x.burn := by
  have k : Keep (isB bx) w (((w.setCell ⟨bx, 3, none⟩ (.int .i64 (x.ops + 1))).setCell ⟨bx, 1, none⟩ (.int .i64 (x.fuse - 1))).setCell ⟨bx, 2, none⟩ (.bool false)) := (((Keep.refl (isB bx) w).setCell (p := ⟨bx, 3, none⟩) (.inl rfl) _).setCell (p := ⟨bx, 1, none⟩) (.inl rfl) _).setCell (p := ⟨bx, 2, none⟩) (.inl rfl) _
  have h0 : ¬ x.fuse = 0 := by omega
  have h1 : ¬ x.fuse = 1 := by omega
  have h2 := h.fuse1
  refine ⟨k, h.recell k rfl (by simp [RS.burn, h0]; omega) (by simp [RS.burn, h0]; omega) fun a n cap hb => ?_⟩
  rw [heap_set3 (heap_set3 (heap_set3 hb _ _) _ _)]; simp [RS.burn, h0, h1]

/-- nothing is done. -/
theorem DoPost.stay {w : World} {S T : Nat → Prop} {bx : Nat} {x : RS} (h : XAt w S T bx x) (hS : ∀ b, S b → b < w.heap.size) (pre : Int) (hp : pre ≠ 0) (L : List RF) : DoPost w S T bx (x.doE pre) (x.doS pre L) (.returned (.int .i64 pre)) w :=
  ⟨by simp [RS.doE, hp], Keep.refl _ _, S, T, fun _ => .inl, hS, fun _ => .inl, by rw [show x.doS pre L = x by simp [RS.doS, hp]]; exact h⟩
/-- a change whose disk is there. -/
theorem DoPost.gone {w w2 : World} {S T S' T' : Nat → Prop} {bx : Nat} {x x' : RS} (L : List RF) (hS : ∀ b, S' b → b < w2.heap.size) (hS' : ∀ b, S' b → S b ∨ w.heap.size ≤ b) (k : Keep (isB bx) w w2) (hT : ∀ b, T' b → T b ∨ w.heap.size ≤ b) (hX : XAt w2 S' T' bx x') (hx : x' = { x.burn with L := if x.burnt then x.L else L }) :
    DoPost w S T bx (x.doE 0) (x.doS 0 L) (.returned (.int .i64 x.code)) w2 :=
  ⟨by simp [RS.doE], k, S', T', hS', hS, hT, by rw [show x.doS 0 L = x' by rw [hx]; simp [RS.doS]]; exact hX⟩

set_option maxRecDepth 100000 in
set_option maxHeartbeats 4000000 in
theorem rdo4_any (w : World) (S T : Nat → Prop) (hS : ∀ b, S b → b < w.heap.size) (bx : Nat) (x : RS) (h : XAt w S T bx x) (hl : x.L.length ≤ 1000) (ho : 0 ≤ x.ops) (ho' : x.ops ≤ 1000000) (nm : Bs) (hnm : nm.length ≤ maxLen) :
    Calls Try.prog 25 #[.pointer (some ⟨bx, 0, none⟩), .int .i64 4, .string ⟨nm.toArray⟩, .string ⟨#[]⟩, .slice none 0 0] w (DoPost w S T bx (x.doE (x.pre 4 nm [])) (x.doS (x.pre 4 nm []) (dropL x.L nm))) := by
  obtain ⟨a, n, cap, c0, c1, c2, c3, f1, f2, f3⟩ := h.mem
  have hbx := h.lt
  have hne : bx ≠ w.heap.size := by omega
  have hne' : w.heap.size ≠ bx := by omega
  have HH := mkHid (And.intro h (And.intro hS (And.intro hl (And.intro ho ho'))))
  have q0 := h.fuse0
  have q1 := h.fuse1
  obtain ⟨dead, hd⟩ : ∃ d, d = x.dead := ⟨_, rfl⟩
  rw [← hd] at c2
  have HD := mkHid hd
  clear h hS hl hd
  cases dead
  · go_enter Try.func25, Try.ntmps25
    go_wp2_with fail
    refine (RWord_any nm hnm _).mono ?_
    rintro e w1 ⟨rfl, rfl⟩
    obtain ⟨wd, hwd⟩ : ∃ b, b = word nm := ⟨_, rfl⟩
    rw [← hwd]
    have HW := mkHid hwd
    clear hwd
    cases wd
    · go_wp2
      go_ret
      rw [show x.pre 4 nm [] = 1 by simp [RS.pre, ← HD.out, ← HW.out]]
      exact DoPost.stay HH.out.1 HH.out.2.1 1 (by decide) _
    · go_wp2_with fail
      refine (find_any w S T bx x HH.out.1 (by have := HH.out.2.2.1; omega) nm hnm).mono ?_
      rintro e w1 ⟨rfl, rfl⟩
      by_cases hf : findN x.L nm < x.L.length
      · rw [show findI x.L nm = (findN x.L nm : Int) by simp [findI, hf]]
        obtain ⟨b, off, n', cap', y, c0', hlt, hbl, hok, hfn, e0, e1, e2⟩ := HH.out.1.found nm hf
        rw [c0] at c0'
        simp at c0'
        obtain ⟨rfl, rfl, rfl⟩ := c0'
        have HF := mkHid (And.intro hf (And.intro hok hfn))
        clear hf hok hfn
        obtain ⟨fi, hfi⟩ : ∃ fi, fi = findN x.L nm := ⟨_, rfl⟩
        rw [← hfi] at e0 e1 e2 hlt ⊢
        have hbne : b ≠ w.heap.size := by omega
        have HFI := mkHid hfi
        clear hfi
        have hpre : x.pre 4 nm [] = 0 := by simp [RS.pre, RS.has, ← HD.out, ← HW.out, HF.out.1]
        have HPR := mkHid hpre
        clear hpre
        by_cases hz : x.fuse = 0
        · rw [hz] at c1
          have HZ := mkHid hz
          clear hz q0 q1
          have hbt : x.burnt = false := by simp [RS.burnt, HZ.out]
          have hcd : x.code = 0 := by simp [RS.code, hbt]
          have HB := mkHid (And.intro hbt hcd)
          clear hbt hcd
          obtain ⟨kb, xb⟩ := HH.out.1.burn0 HZ.out
          have HXB := mkHid (And.intro kb xb)
          clear kb xb
          go_wp2_with fail
          refine (drop_any _ S T (fun b hb => Nat.lt_of_lt_of_le (HH.out.2.1 b hb) ((HXB.out.1.alloc (.cells #[.string ⟨nm.toArray⟩, .slice y.a1 (x.file nm).data.length y.c1, .slice y.a2 (x.file nm).safe.length y.c2] 75)).size)) bx x.burn (HXB.out.2.keep (alloc_keep noM _ (.cells #[.string ⟨nm.toArray⟩, .slice y.a1 (x.file nm).data.length y.c1, .slice y.a2 (x.file nm).safe.length y.c2] 75)) (fun _ _ => not_noM _)) (by have := HH.out.2.2.1; simp only [RS.burn]; omega) nm hnm).mono ?_
          rintro e w2 ⟨rfl, K2, T', hT', X2⟩
          have HX2 := mkHid (And.intro K2 (And.intro hT' X2))
          clear K2 hT' X2
          go_wp2
          go_ret
          rw [HPR.out]
          have hfin := DoPost.gone (w := w) (S := S) (T := T) (x := x) (dropL x.L nm) (fun b hb => Nat.lt_of_lt_of_le (HH.out.2.1 b hb) (((HXB.out.1.alloc (.cells #[.string ⟨nm.toArray⟩, .slice y.a1 (x.file nm).data.length y.c1, .slice y.a2 (x.file nm).safe.length y.c2] 75)).trans HX2.out.1).size)) (fun b => .inl) ((HXB.out.1.alloc (.cells #[.string ⟨nm.toArray⟩, .slice y.a1 (x.file nm).data.length y.c1, .slice y.a2 (x.file nm).safe.length y.c2] 75)).trans HX2.out.1) (fun b hb => .inr (Nat.le_trans (HXB.out.1.alloc (.cells #[.string ⟨nm.toArray⟩, .slice y.a1 (x.file nm).data.length y.c1, .slice y.a2 (x.file nm).safe.length y.c2] 75)).size (HX2.out.2.1 b hb))) HX2.out.2.2 (by simp [HB.out.1, RS.burn])
          rw [HB.out.2] at hfin
          exact hfin
        · by_cases h1 : x.fuse = 1
          · rw [h1] at c1
            have HZ := mkHid h1
            clear hz h1 q0 q1
            have hbt : x.burnt = true := by simp [RS.burnt, HZ.out]
            have hcd : x.code = 21 := by simp [RS.code, hbt]
            have HB := mkHid (And.intro hbt hcd)
            clear hbt hcd
            obtain ⟨kb, xb⟩ := HH.out.1.burn1 HZ.out
            have HXB := mkHid (And.intro kb xb)
            clear kb xb
            go_wp2
            go_ret
            rw [HPR.out]
            have hfin := DoPost.gone (w := w) (S := S) (T := T) (x := x) (dropL x.L nm) (fun b hb => Nat.lt_of_lt_of_le (HH.out.2.1 b hb) ((HXB.out.1.alloc (.cells #[.string ⟨nm.toArray⟩, .slice y.a1 (x.file nm).data.length y.c1, .slice y.a2 (x.file nm).safe.length y.c2] 75)).size)) (fun b => .inl) (HXB.out.1.alloc (.cells #[.string ⟨nm.toArray⟩, .slice y.a1 (x.file nm).data.length y.c1, .slice y.a2 (x.file nm).safe.length y.c2] 75)) (fun b => .inl) (HXB.out.2.keep (alloc_keep noM _ (.cells #[.string ⟨nm.toArray⟩, .slice y.a1 (x.file nm).data.length y.c1, .slice y.a2 (x.file nm).safe.length y.c2] 75)) (fun _ _ => not_noM _)) (by simp [HB.out.1, RS.burn])
            rw [HB.out.2] at hfin
            exact hfin
          · have hg : 1 < x.fuse := by omega
            obtain ⟨z, hzz⟩ : ∃ z, z = x.fuse := ⟨_, rfl⟩
            rw [← hzz] at c1
            have z1 : (z - 1 == 0) = false := by rw [hzz]; simp; omega
            have z2 : 1 < z := by omega
            have z3 : z ≤ 9223372036854775807 := by omega
            have HZ := mkHid hg
            have hbt : x.burnt = false := by simp [RS.burnt]; omega
            have hcd : x.code = 0 := by simp [RS.code, hbt]
            have HB := mkHid (And.intro hbt hcd)
            have HZZ := mkHid hzz
            clear hz h1 hg q0 q1 hbt hcd hzz
            obtain ⟨kb, xb⟩ := HH.out.1.burn2 HZ.out
            have HXB := mkHid (And.intro kb xb)
            clear kb xb
            go_wp2_with fail
            try rw [HZZ.out]
            refine (drop_any _ S T (fun b hb => Nat.lt_of_lt_of_le (HH.out.2.1 b hb) ((HXB.out.1.alloc (.cells #[.string ⟨nm.toArray⟩, .slice y.a1 (x.file nm).data.length y.c1, .slice y.a2 (x.file nm).safe.length y.c2] 75)).size)) bx x.burn (HXB.out.2.keep (alloc_keep noM _ (.cells #[.string ⟨nm.toArray⟩, .slice y.a1 (x.file nm).data.length y.c1, .slice y.a2 (x.file nm).safe.length y.c2] 75)) (fun _ _ => not_noM _)) (by have := HH.out.2.2.1; simp only [RS.burn]; omega) nm hnm).mono ?_
            rintro e w2 ⟨rfl, K2, T', hT', X2⟩
            have HX2 := mkHid (And.intro K2 (And.intro hT' X2))
            clear K2 hT' X2
            go_wp2
            go_ret
            rw [HPR.out]
            have hfin := DoPost.gone (w := w) (S := S) (T := T) (x := x) (dropL x.L nm) (fun b hb => Nat.lt_of_lt_of_le (HH.out.2.1 b hb) (((HXB.out.1.alloc (.cells #[.string ⟨nm.toArray⟩, .slice y.a1 (x.file nm).data.length y.c1, .slice y.a2 (x.file nm).safe.length y.c2] 75)).trans HX2.out.1).size)) (fun b => .inl) ((HXB.out.1.alloc (.cells #[.string ⟨nm.toArray⟩, .slice y.a1 (x.file nm).data.length y.c1, .slice y.a2 (x.file nm).safe.length y.c2] 75)).trans HX2.out.1) (fun b hb => .inr (Nat.le_trans (HXB.out.1.alloc (.cells #[.string ⟨nm.toArray⟩, .slice y.a1 (x.file nm).data.length y.c1, .slice y.a2 (x.file nm).safe.length y.c2] 75)).size (HX2.out.2.1 b hb))) HX2.out.2.2 (by simp [HB.out.1, RS.burn])
            rw [HB.out.2] at hfin
            exact hfin
      · rw [show findI x.L nm = -1 by simp [findI, hf]]
        have HF := mkHid hf
        clear hf
        go_wp2
        go_ret
        rw [show x.pre 4 nm [] = 11 by simp [RS.pre, RS.has, ← HD.out, ← HW.out, HF.out]]
        exact DoPost.stay HH.out.1 HH.out.2.1 11 (by decide) _
  · go_enter Try.func25, Try.ntmps25
    go_wp2
    go_ret
    rw [show x.pre 4 nm [] = 21 by simp [RS.pre, ← HD.out]]
    exact DoPost.stay HH.out.1 HH.out.2.1 21 (by decide) _

set_option maxRecDepth 100000 in
set_option maxHeartbeats 4000000 in
theorem rdo2_any (w : World) (S T : Nat → Prop) (hS : ∀ b, S b → b < w.heap.size) (bx : Nat) (x : RS) (h : XAt w S T bx x) (hl : x.L.length ≤ 1000) (ho : 0 ≤ x.ops) (ho' : x.ops ≤ 1000000) (nm : Bs) (hnm : nm.length ≤ maxLen) :
    Calls Try.prog 25 #[.pointer (some ⟨bx, 0, none⟩), .int .i64 2, .string ⟨nm.toArray⟩, .string ⟨#[]⟩, .slice none 0 0] w (DoPost w S T bx (x.doE (x.pre 2 nm [])) (x.doS (x.pre 2 nm []) (putL x.L ⟨nm, (x.file nm).data, (x.file nm).data⟩))) := by
  obtain ⟨a, n, cap, c0, c1, c2, c3, f1, f2, f3⟩ := h.mem
  have hbx := h.lt
  have hne : bx ≠ w.heap.size := by omega
  have hne' : w.heap.size ≠ bx := by omega
  have HH := mkHid (And.intro h (And.intro hS (And.intro hl (And.intro ho ho'))))
  have q0 := h.fuse0
  have q1 := h.fuse1
  obtain ⟨dead, hd⟩ : ∃ d, d = x.dead := ⟨_, rfl⟩
  rw [← hd] at c2
  have HD := mkHid hd
  clear h hS hl hd
  cases dead
  · go_enter Try.func25, Try.ntmps25
    go_wp2_with fail
    refine (RWord_any nm hnm _).mono ?_
    rintro e w1 ⟨rfl, rfl⟩
    obtain ⟨wd, hwd⟩ : ∃ b, b = word nm := ⟨_, rfl⟩
    rw [← hwd]
    have HW := mkHid hwd
    clear hwd
    cases wd
    · go_wp2
      go_ret
      rw [show x.pre 2 nm [] = 1 by simp [RS.pre, ← HD.out, ← HW.out]]
      exact DoPost.stay HH.out.1 HH.out.2.1 1 (by decide) _
    · go_wp2_with fail
      refine (find_any w S T bx x HH.out.1 (by have := HH.out.2.2.1; omega) nm hnm).mono ?_
      rintro e w1 ⟨rfl, rfl⟩
      by_cases hf : findN x.L nm < x.L.length
      · rw [show findI x.L nm = (findN x.L nm : Int) by simp [findI, hf]]
        obtain ⟨b, off, n', cap', y, c0', hlt, hbl, hok, hfn, e0, e1, e2⟩ := HH.out.1.found nm hf
        rw [c0] at c0'
        simp at c0'
        obtain ⟨rfl, rfl, rfl⟩ := c0'
        have HF := mkHid (And.intro hf (And.intro hok hfn))
        clear hf hok hfn
        obtain ⟨fi, hfi⟩ : ∃ fi, fi = findN x.L nm := ⟨_, rfl⟩
        rw [← hfi] at e0 e1 e2 hlt ⊢
        have hbne : b ≠ w.heap.size := by omega
        have HFI := mkHid hfi
        clear hfi
        have hpre : x.pre 2 nm [] = 0 := by simp [RS.pre, RS.has, ← HD.out, ← HW.out, HF.out.1]
        have HPR := mkHid hpre
        clear hpre
        by_cases hz : x.fuse = 0
        · rw [hz] at c1
          have HZ := mkHid hz
          clear hz q0 q1
          have hbt : x.burnt = false := by simp [RS.burnt, HZ.out]
          have hcd : x.code = 0 := by simp [RS.code, hbt]
          have HB := mkHid (And.intro hbt hcd)
          clear hbt hcd
          obtain ⟨kb, xb⟩ := HH.out.1.burn0 HZ.out
          have HXB := mkHid (And.intro kb xb)
          clear kb xb
          go_wp2_with fail
          refine (rput_any _ S T (fun b hb => Nat.lt_of_lt_of_le (HH.out.2.1 b hb) ((HXB.out.1.alloc (.cells #[.string ⟨nm.toArray⟩, .slice y.a1 (x.file nm).data.length y.c1, .slice y.a1 (x.file nm).data.length y.c1] 75)).size)) bx x.burn (HXB.out.2.keep (alloc_keep noM _ (.cells #[.string ⟨nm.toArray⟩, .slice y.a1 (x.file nm).data.length y.c1, .slice y.a1 (x.file nm).data.length y.c1] 75)) (fun _ _ => not_noM _)) (by have := HH.out.2.2.1; simp only [RS.burn]; omega) ⟨nm, (x.file nm).data, (x.file nm).data⟩ ⟨y.a1, y.c1, y.a1, y.c1⟩ ⟨hnm, HF.out.2.1.l1, HF.out.2.1.l1, HF.out.2.1.k1, HF.out.2.1.k1, HF.out.2.1.m1, HF.out.2.1.m1, HF.out.2.1.b1.keep (HXB.out.1.alloc (.cells #[.string ⟨nm.toArray⟩, .slice y.a1 (x.file nm).data.length y.c1, .slice y.a1 (x.file nm).data.length y.c1] 75)) (fun b hb e => HH.out.1.nx (e ▸ hb)), HF.out.2.1.b1.keep (HXB.out.1.alloc (.cells #[.string ⟨nm.toArray⟩, .slice y.a1 (x.file nm).data.length y.c1, .slice y.a1 (x.file nm).data.length y.c1] 75)) (fun b hb e => HH.out.1.nx (e ▸ hb))⟩).mono ?_
          rintro e w2 ⟨rfl, K2, T', hT', X2⟩
          have HX2 := mkHid (And.intro K2 (And.intro hT' X2))
          clear K2 hT' X2
          go_wp2
          go_ret
          rw [HPR.out]
          have hfin := DoPost.gone (w := w) (S := S) (T := T) (x := x) (putL x.L ⟨nm, (x.file nm).data, (x.file nm).data⟩) (fun b hb => Nat.lt_of_lt_of_le (HH.out.2.1 b hb) (((HXB.out.1.alloc (.cells #[.string ⟨nm.toArray⟩, .slice y.a1 (x.file nm).data.length y.c1, .slice y.a1 (x.file nm).data.length y.c1] 75)).trans HX2.out.1).size)) (fun b => .inl) ((HXB.out.1.alloc (.cells #[.string ⟨nm.toArray⟩, .slice y.a1 (x.file nm).data.length y.c1, .slice y.a1 (x.file nm).data.length y.c1] 75)).trans HX2.out.1) (fun b hb => .inr (Nat.le_trans (HXB.out.1.alloc (.cells #[.string ⟨nm.toArray⟩, .slice y.a1 (x.file nm).data.length y.c1, .slice y.a1 (x.file nm).data.length y.c1] 75)).size (HX2.out.2.1 b hb))) HX2.out.2.2 (by simp [HB.out.1, RS.burn])
          rw [HB.out.2] at hfin
          exact hfin
        · by_cases h1 : x.fuse = 1
          · rw [h1] at c1
            have HZ := mkHid h1
            clear hz h1 q0 q1
            have hbt : x.burnt = true := by simp [RS.burnt, HZ.out]
            have hcd : x.code = 21 := by simp [RS.code, hbt]
            have HB := mkHid (And.intro hbt hcd)
            clear hbt hcd
            obtain ⟨kb, xb⟩ := HH.out.1.burn1 HZ.out
            have HXB := mkHid (And.intro kb xb)
            clear kb xb
            go_wp2
            go_ret
            rw [HPR.out]
            have hfin := DoPost.gone (w := w) (S := S) (T := T) (x := x) (putL x.L ⟨nm, (x.file nm).data, (x.file nm).data⟩) (fun b hb => Nat.lt_of_lt_of_le (HH.out.2.1 b hb) ((HXB.out.1.alloc (.cells #[.string ⟨nm.toArray⟩, .slice y.a1 (x.file nm).data.length y.c1, .slice y.a2 (x.file nm).safe.length y.c2] 75)).size)) (fun b => .inl) (HXB.out.1.alloc (.cells #[.string ⟨nm.toArray⟩, .slice y.a1 (x.file nm).data.length y.c1, .slice y.a2 (x.file nm).safe.length y.c2] 75)) (fun b => .inl) (HXB.out.2.keep (alloc_keep noM _ (.cells #[.string ⟨nm.toArray⟩, .slice y.a1 (x.file nm).data.length y.c1, .slice y.a2 (x.file nm).safe.length y.c2] 75)) (fun _ _ => not_noM _)) (by simp [HB.out.1, RS.burn])
            rw [HB.out.2] at hfin
            exact hfin
          · have hg : 1 < x.fuse := by omega
            obtain ⟨z, hzz⟩ : ∃ z, z = x.fuse := ⟨_, rfl⟩
            rw [← hzz] at c1
            have z1 : (z - 1 == 0) = false := by rw [hzz]; simp; omega
            have z2 : 1 < z := by omega
            have z3 : z ≤ 9223372036854775807 := by omega
            have HZ := mkHid hg
            have hbt : x.burnt = false := by simp [RS.burnt]; omega
            have hcd : x.code = 0 := by simp [RS.code, hbt]
            have HB := mkHid (And.intro hbt hcd)
            have HZZ := mkHid hzz
            clear hz h1 hg q0 q1 hbt hcd hzz
            obtain ⟨kb, xb⟩ := HH.out.1.burn2 HZ.out
            have HXB := mkHid (And.intro kb xb)
            clear kb xb
            go_wp2_with fail
            try rw [HZZ.out]
            refine (rput_any _ S T (fun b hb => Nat.lt_of_lt_of_le (HH.out.2.1 b hb) ((HXB.out.1.alloc (.cells #[.string ⟨nm.toArray⟩, .slice y.a1 (x.file nm).data.length y.c1, .slice y.a1 (x.file nm).data.length y.c1] 75)).size)) bx x.burn (HXB.out.2.keep (alloc_keep noM _ (.cells #[.string ⟨nm.toArray⟩, .slice y.a1 (x.file nm).data.length y.c1, .slice y.a1 (x.file nm).data.length y.c1] 75)) (fun _ _ => not_noM _)) (by have := HH.out.2.2.1; simp only [RS.burn]; omega) ⟨nm, (x.file nm).data, (x.file nm).data⟩ ⟨y.a1, y.c1, y.a1, y.c1⟩ ⟨hnm, HF.out.2.1.l1, HF.out.2.1.l1, HF.out.2.1.k1, HF.out.2.1.k1, HF.out.2.1.m1, HF.out.2.1.m1, HF.out.2.1.b1.keep (HXB.out.1.alloc (.cells #[.string ⟨nm.toArray⟩, .slice y.a1 (x.file nm).data.length y.c1, .slice y.a1 (x.file nm).data.length y.c1] 75)) (fun b hb e => HH.out.1.nx (e ▸ hb)), HF.out.2.1.b1.keep (HXB.out.1.alloc (.cells #[.string ⟨nm.toArray⟩, .slice y.a1 (x.file nm).data.length y.c1, .slice y.a1 (x.file nm).data.length y.c1] 75)) (fun b hb e => HH.out.1.nx (e ▸ hb))⟩).mono ?_
            rintro e w2 ⟨rfl, K2, T', hT', X2⟩
            have HX2 := mkHid (And.intro K2 (And.intro hT' X2))
            clear K2 hT' X2
            go_wp2
            go_ret
            rw [HPR.out]
            have hfin := DoPost.gone (w := w) (S := S) (T := T) (x := x) (putL x.L ⟨nm, (x.file nm).data, (x.file nm).data⟩) (fun b hb => Nat.lt_of_lt_of_le (HH.out.2.1 b hb) (((HXB.out.1.alloc (.cells #[.string ⟨nm.toArray⟩, .slice y.a1 (x.file nm).data.length y.c1, .slice y.a1 (x.file nm).data.length y.c1] 75)).trans HX2.out.1).size)) (fun b => .inl) ((HXB.out.1.alloc (.cells #[.string ⟨nm.toArray⟩, .slice y.a1 (x.file nm).data.length y.c1, .slice y.a1 (x.file nm).data.length y.c1] 75)).trans HX2.out.1) (fun b hb => .inr (Nat.le_trans (HXB.out.1.alloc (.cells #[.string ⟨nm.toArray⟩, .slice y.a1 (x.file nm).data.length y.c1, .slice y.a1 (x.file nm).data.length y.c1] 75)).size (HX2.out.2.1 b hb))) HX2.out.2.2 (by simp [HB.out.1, RS.burn])
            rw [HB.out.2] at hfin
            exact hfin
      · rw [show findI x.L nm = -1 by simp [findI, hf]]
        have HF := mkHid hf
        clear hf
        go_wp2
        go_ret
        rw [show x.pre 2 nm [] = 11 by simp [RS.pre, RS.has, ← HD.out, ← HW.out, HF.out]]
        exact DoPost.stay HH.out.1 HH.out.2.1 11 (by decide) _
  · go_enter Try.func25, Try.ntmps25
    go_wp2
    go_ret
    rw [show x.pre 2 nm [] = 21 by simp [RS.pre, ← HD.out]]
    exact DoPost.stay HH.out.1 HH.out.2.1 21 (by decide) _

set_option maxRecDepth 100000 in
set_option maxHeartbeats 4000000 in
theorem rdo3_any (w : World) (S T : Nat → Prop) (hS : ∀ b, S b → b < w.heap.size) (bx : Nat) (x : RS) (h : XAt w S T bx x) (hl : x.L.length ≤ 1000) (ho : 0 ≤ x.ops) (ho' : x.ops ≤ 1000000) (nm : Bs) (hnm : nm.length ≤ maxLen) (to : Bs) (hto : to.length ≤ maxLen) :
    Calls Try.prog 25 #[.pointer (some ⟨bx, 0, none⟩), .int .i64 3, .string ⟨nm.toArray⟩, .string ⟨to.toArray⟩, .slice none 0 0] w (DoPost w S T bx (x.doE (x.pre 3 nm to)) (x.doS (x.pre 3 nm to) (putL (dropL x.L nm) ⟨to, (x.file nm).data, (x.file nm).safe⟩))) := by
  obtain ⟨a, n, cap, c0, c1, c2, c3, f1, f2, f3⟩ := h.mem
  have hbx := h.lt
  have hne : bx ≠ w.heap.size := by omega
  have hne' : w.heap.size ≠ bx := by omega
  have HH := mkHid (And.intro h (And.intro hS (And.intro hl (And.intro ho ho'))))
  have q0 := h.fuse0
  have q1 := h.fuse1
  obtain ⟨dead, hd⟩ : ∃ d, d = x.dead := ⟨_, rfl⟩
  rw [← hd] at c2
  have HD := mkHid hd
  clear h hS hl hd
  cases dead
  · go_enter Try.func25, Try.ntmps25
    go_wp2_with fail
    refine (RWord_any nm hnm _).mono ?_
    rintro e w1 ⟨rfl, rfl⟩
    obtain ⟨wd, hwd⟩ : ∃ b, b = word nm := ⟨_, rfl⟩
    rw [← hwd]
    have HW := mkHid hwd
    clear hwd
    cases wd
    · go_wp2
      go_ret
      rw [show x.pre 3 nm to = 1 by simp [RS.pre, ← HD.out, ← HW.out]]
      exact DoPost.stay HH.out.1 HH.out.2.1 1 (by decide) _
    · go_wp2_with fail
      refine (RWord_any to hto _).mono ?_
      rintro e w1 ⟨rfl, rfl⟩
      obtain ⟨wd2, hwd2⟩ : ∃ b, b = word to := ⟨_, rfl⟩
      rw [← hwd2]
      have HW2 := mkHid hwd2
      clear hwd2
      cases wd2
      · go_wp2
        go_ret
        rw [show x.pre 3 nm to = 1 by simp [RS.pre, ← HD.out, ← HW.out, ← HW2.out]]
        exact DoPost.stay HH.out.1 HH.out.2.1 1 (by decide) _
      · go_wp2_with fail
        refine (find_any w S T bx x HH.out.1 (by have := HH.out.2.2.1; omega) nm hnm).mono ?_
        rintro e w1 ⟨rfl, rfl⟩
        by_cases hf : findN x.L nm < x.L.length
        · rw [show findI x.L nm = (findN x.L nm : Int) by simp [findI, hf]]
          obtain ⟨b, off, n', cap', y, c0', hlt, hbl, hok, hfn, e0, e1, e2⟩ := HH.out.1.found nm hf
          rw [c0] at c0'
          simp at c0'
          obtain ⟨rfl, rfl, rfl⟩ := c0'
          have HF := mkHid (And.intro hf (And.intro hok hfn))
          clear hf hok hfn
          obtain ⟨fi, hfi⟩ : ∃ fi, fi = findN x.L nm := ⟨_, rfl⟩
          rw [← hfi] at e0 e1 e2 hlt ⊢
          have hbne : b ≠ w.heap.size := by omega
          have HFI := mkHid hfi
          clear hfi
          have hpre : x.pre 3 nm to = 0 := by simp [RS.pre, RS.has, ← HD.out, ← HW.out, ← HW2.out, HF.out.1]
          have HPR := mkHid hpre
          clear hpre
          by_cases hz : x.fuse = 0
          · rw [hz] at c1
            have HZ := mkHid hz
            clear hz q0 q1
            have hbt : x.burnt = false := by simp [RS.burnt, HZ.out]
            have hcd : x.code = 0 := by simp [RS.code, hbt]
            have HB := mkHid (And.intro hbt hcd)
            clear hbt hcd
            obtain ⟨kb, xb⟩ := HH.out.1.burn0 HZ.out
            have HXB := mkHid (And.intro kb xb)
            clear kb xb
            go_wp2_with fail
            obtain ⟨W, hW⟩ : ∃ W, W = (w.setCell ⟨bx, 3, none⟩ (.int .i64 (x.ops + 1))).alloc (.cells #[.string ⟨nm.toArray⟩, .slice y.a1 (x.file nm).data.length y.c1, .slice y.a2 (x.file nm).safe.length y.c2] 75) := ⟨_, rfl⟩
            have kW : Keep (isB bx) w W := by rw [hW]; exact HXB.out.1.alloc (.cells #[.string ⟨nm.toArray⟩, .slice y.a1 (x.file nm).data.length y.c1, .slice y.a2 (x.file nm).safe.length y.c2] 75)
            have xW : XAt W S T bx x.burn := by rw [hW]; exact HXB.out.2.keep (alloc_keep noM _ (.cells #[.string ⟨nm.toArray⟩, .slice y.a1 (x.file nm).data.length y.c1, .slice y.a2 (x.file nm).safe.length y.c2] 75)) (fun _ _ => not_noM _)
            have sW : W.heap.size = w.heap.size + 1 := by rw [hW]; simp [World.setCell]
            have gW : W.heap[w.heap.size]? = some (.cells #[.string ⟨nm.toArray⟩, .slice y.a1 (x.file nm).data.length y.c1, .slice y.a2 (x.file nm).safe.length y.c2] 75) := by
              have := heap_alloc_new (w.setCell ⟨bx, 3, none⟩ (.int .i64 (x.ops + 1))) (.cells #[.string ⟨nm.toArray⟩, .slice y.a1 (x.file nm).data.length y.c1, .slice y.a2 (x.file nm).safe.length y.c2] 75)
              rw [← hW] at this
              simpa [World.setCell] using this
            rw [← hW]
            refine (drop_any W S T (fun b hb => Nat.lt_of_lt_of_le (HH.out.2.1 b hb) kW.size) bx x.burn xW (by have := HH.out.2.2.1; simp only [RS.burn]; omega) nm hnm).mono ?_
            rintro e w2 ⟨rfl, K2, T', hT', X2⟩
            have gb : w2.heap[w.heap.size]? = some (.cells #[.string ⟨nm.toArray⟩, .slice y.a1 (x.file nm).data.length y.c1, .slice y.a2 (x.file nm).safe.length y.c2] 75) := K2.obj (by unfold isB; omega) gW
            have g0 : w2.cell? ⟨w.heap.size, 0, none⟩ = some (.string ⟨nm.toArray⟩) := by simp [World.cell?, gb]
            have g1 : w2.cell? ⟨w.heap.size, 1, none⟩ = some (.slice y.a1 (x.file nm).data.length y.c1) := by simp [World.cell?, gb]
            have g2 : w2.cell? ⟨w.heap.size, 2, none⟩ = some (.slice y.a2 (x.file nm).safe.length y.c2) := by simp [World.cell?, gb]
            have g3 : w2.frozen? ⟨w.heap.size, 0, none⟩ = false := by simp [World.frozen?, gb]
            have HX2 := mkHid (And.intro K2 (And.intro hT' (And.intro X2 (And.intro kW sW))))
            clear K2 hT' X2 kW xW sW gW hW gb
            go_wp2_with fail
            have KS : Keep (isB w.heap.size) w2 (w2.setCell ⟨w.heap.size, 0, none⟩ (.string ⟨to.toArray⟩)) := (Keep.refl (isB w.heap.size) w2).setCell (p := ⟨w.heap.size, 0, none⟩) (.inl rfl) _
            have kall : Keep (isB bx) w (w2.setCell ⟨w.heap.size, 0, none⟩ (.string ⟨to.toArray⟩)) := (HX2.out.2.2.2.1.trans HX2.out.1).trans' KS (fun i hi e => by unfold isB at e; omega)
            have KA := mkHid kall
            have hdl : (dropL x.L nm).length ≤ x.L.length := List.length_filter_le _ _
            refine (rput_any _ S T' (fun b hb => Nat.lt_of_lt_of_le (HH.out.2.1 b hb) KA.out.size) bx _ (HX2.out.2.2.1.keep KS (fun b hb e => by
              unfold isB at e
              rcases hb with hb | hb | hb
              · have := HH.out.2.1 b hb; omega
              · have := HX2.out.2.1 b hb; have := HX2.out.2.2.2.2; omega
              · omega)) (by have := HH.out.2.2.1; simp only [RS.burn]; omega) ⟨to, (x.file nm).data, (x.file nm).safe⟩ y ⟨hto, HF.out.2.1.l1, HF.out.2.1.l2, HF.out.2.1.k1, HF.out.2.1.k2, HF.out.2.1.m1, HF.out.2.1.m2, HF.out.2.1.b1.keep KA.out (fun b hb e => HH.out.1.nx (e ▸ hb)), HF.out.2.1.b2.keep KA.out (fun b hb e => HH.out.1.nx (e ▸ hb))⟩).mono ?_
            rintro e w3 ⟨rfl, K3, T2, hT2, X3⟩
            have HX3 := mkHid (And.intro K3 (And.intro hT2 X3))
            clear K3 hT2 X3 KS kall g0 g1 g2 g3
            go_wp2
            go_ret
            rw [HPR.out]
            have hfin := DoPost.gone (w := w) (S := S) (T := T) (x := x) (putL (dropL x.L nm) ⟨to, (x.file nm).data, (x.file nm).safe⟩) (fun b hb => Nat.lt_of_lt_of_le (HH.out.2.1 b hb) ((KA.out.trans HX3.out.1).size)) (fun b => .inl) (KA.out.trans HX3.out.1) (fun b hb => .inr (Nat.le_trans KA.out.size (HX3.out.2.1 b hb))) HX3.out.2.2 (by simp [HB.out.1, RS.burn])
            rw [HB.out.2] at hfin
            exact hfin
          · by_cases h1 : x.fuse = 1
            · rw [h1] at c1
              have HZ := mkHid h1
              clear hz h1 q0 q1
              have hbt : x.burnt = true := by simp [RS.burnt, HZ.out]
              have hcd : x.code = 21 := by simp [RS.code, hbt]
              have HB := mkHid (And.intro hbt hcd)
              clear hbt hcd
              obtain ⟨kb, xb⟩ := HH.out.1.burn1 HZ.out
              have HXB := mkHid (And.intro kb xb)
              clear kb xb
              go_wp2
              go_ret
              rw [HPR.out]
              have hfin := DoPost.gone (w := w) (S := S) (T := T) (x := x) (putL (dropL x.L nm) ⟨to, (x.file nm).data, (x.file nm).safe⟩) (fun b hb => Nat.lt_of_lt_of_le (HH.out.2.1 b hb) ((HXB.out.1.alloc (.cells #[.string ⟨nm.toArray⟩, .slice y.a1 (x.file nm).data.length y.c1, .slice y.a2 (x.file nm).safe.length y.c2] 75)).size)) (fun b => .inl) (HXB.out.1.alloc (.cells #[.string ⟨nm.toArray⟩, .slice y.a1 (x.file nm).data.length y.c1, .slice y.a2 (x.file nm).safe.length y.c2] 75)) (fun b => .inl) (HXB.out.2.keep (alloc_keep noM _ (.cells #[.string ⟨nm.toArray⟩, .slice y.a1 (x.file nm).data.length y.c1, .slice y.a2 (x.file nm).safe.length y.c2] 75)) (fun _ _ => not_noM _)) (by simp [HB.out.1, RS.burn])
              rw [HB.out.2] at hfin
              exact hfin
            · have hg : 1 < x.fuse := by omega
              obtain ⟨z, hzz⟩ : ∃ z, z = x.fuse := ⟨_, rfl⟩
              rw [← hzz] at c1
              have z1 : (z - 1 == 0) = false := by rw [hzz]; simp; omega
              have z2 : 1 < z := by omega
              have z3 : z ≤ 9223372036854775807 := by omega
              have HZ := mkHid hg
              have hbt : x.burnt = false := by simp [RS.burnt]; omega
              have hcd : x.code = 0 := by simp [RS.code, hbt]
              have HB := mkHid (And.intro hbt hcd)
              have HZZ := mkHid hzz
              clear hz h1 hg q0 q1 hbt hcd hzz
              obtain ⟨kb, xb⟩ := HH.out.1.burn2 HZ.out
              have HXB := mkHid (And.intro kb xb)
              clear kb xb
              go_wp2_with fail
              try rw [HZZ.out]
              obtain ⟨W, hW⟩ : ∃ W, W = (((w.setCell ⟨bx, 3, none⟩ (.int .i64 (x.ops + 1))).setCell ⟨bx, 1, none⟩ (.int .i64 (x.fuse - 1))).setCell ⟨bx, 2, none⟩ (.bool false)).alloc (.cells #[.string ⟨nm.toArray⟩, .slice y.a1 (x.file nm).data.length y.c1, .slice y.a2 (x.file nm).safe.length y.c2] 75) := ⟨_, rfl⟩
              have kW : Keep (isB bx) w W := by rw [hW]; exact HXB.out.1.alloc (.cells #[.string ⟨nm.toArray⟩, .slice y.a1 (x.file nm).data.length y.c1, .slice y.a2 (x.file nm).safe.length y.c2] 75)
              have xW : XAt W S T bx x.burn := by rw [hW]; exact HXB.out.2.keep (alloc_keep noM _ (.cells #[.string ⟨nm.toArray⟩, .slice y.a1 (x.file nm).data.length y.c1, .slice y.a2 (x.file nm).safe.length y.c2] 75)) (fun _ _ => not_noM _)
              have sW : W.heap.size = w.heap.size + 1 := by rw [hW]; simp [World.setCell]
              have gW : W.heap[w.heap.size]? = some (.cells #[.string ⟨nm.toArray⟩, .slice y.a1 (x.file nm).data.length y.c1, .slice y.a2 (x.file nm).safe.length y.c2] 75) := by
                have := heap_alloc_new (((w.setCell ⟨bx, 3, none⟩ (.int .i64 (x.ops + 1))).setCell ⟨bx, 1, none⟩ (.int .i64 (x.fuse - 1))).setCell ⟨bx, 2, none⟩ (.bool false)) (.cells #[.string ⟨nm.toArray⟩, .slice y.a1 (x.file nm).data.length y.c1, .slice y.a2 (x.file nm).safe.length y.c2] 75)
                rw [← hW] at this
                simpa [World.setCell] using this
              rw [← hW]
              refine (drop_any W S T (fun b hb => Nat.lt_of_lt_of_le (HH.out.2.1 b hb) kW.size) bx x.burn xW (by have := HH.out.2.2.1; simp only [RS.burn]; omega) nm hnm).mono ?_
              rintro e w2 ⟨rfl, K2, T', hT', X2⟩
              have gb : w2.heap[w.heap.size]? = some (.cells #[.string ⟨nm.toArray⟩, .slice y.a1 (x.file nm).data.length y.c1, .slice y.a2 (x.file nm).safe.length y.c2] 75) := K2.obj (by unfold isB; omega) gW
              have g0 : w2.cell? ⟨w.heap.size, 0, none⟩ = some (.string ⟨nm.toArray⟩) := by simp [World.cell?, gb]
              have g1 : w2.cell? ⟨w.heap.size, 1, none⟩ = some (.slice y.a1 (x.file nm).data.length y.c1) := by simp [World.cell?, gb]
              have g2 : w2.cell? ⟨w.heap.size, 2, none⟩ = some (.slice y.a2 (x.file nm).safe.length y.c2) := by simp [World.cell?, gb]
              have g3 : w2.frozen? ⟨w.heap.size, 0, none⟩ = false := by simp [World.frozen?, gb]
              have HX2 := mkHid (And.intro K2 (And.intro hT' (And.intro X2 (And.intro kW sW))))
              clear K2 hT' X2 kW xW sW gW hW gb
              go_wp2_with fail
              have KS : Keep (isB w.heap.size) w2 (w2.setCell ⟨w.heap.size, 0, none⟩ (.string ⟨to.toArray⟩)) := (Keep.refl (isB w.heap.size) w2).setCell (p := ⟨w.heap.size, 0, none⟩) (.inl rfl) _
              have kall : Keep (isB bx) w (w2.setCell ⟨w.heap.size, 0, none⟩ (.string ⟨to.toArray⟩)) := (HX2.out.2.2.2.1.trans HX2.out.1).trans' KS (fun i hi e => by unfold isB at e; omega)
              have KA := mkHid kall
              have hdl : (dropL x.L nm).length ≤ x.L.length := List.length_filter_le _ _
              refine (rput_any _ S T' (fun b hb => Nat.lt_of_lt_of_le (HH.out.2.1 b hb) KA.out.size) bx _ (HX2.out.2.2.1.keep KS (fun b hb e => by
                unfold isB at e
                rcases hb with hb | hb | hb
                · have := HH.out.2.1 b hb; omega
                · have := HX2.out.2.1 b hb; have := HX2.out.2.2.2.2; omega
                · omega)) (by have := HH.out.2.2.1; simp only [RS.burn]; omega) ⟨to, (x.file nm).data, (x.file nm).safe⟩ y ⟨hto, HF.out.2.1.l1, HF.out.2.1.l2, HF.out.2.1.k1, HF.out.2.1.k2, HF.out.2.1.m1, HF.out.2.1.m2, HF.out.2.1.b1.keep KA.out (fun b hb e => HH.out.1.nx (e ▸ hb)), HF.out.2.1.b2.keep KA.out (fun b hb e => HH.out.1.nx (e ▸ hb))⟩).mono ?_
              rintro e w3 ⟨rfl, K3, T2, hT2, X3⟩
              have HX3 := mkHid (And.intro K3 (And.intro hT2 X3))
              clear K3 hT2 X3 KS kall g0 g1 g2 g3
              go_wp2
              go_ret
              rw [HPR.out]
              have hfin := DoPost.gone (w := w) (S := S) (T := T) (x := x) (putL (dropL x.L nm) ⟨to, (x.file nm).data, (x.file nm).safe⟩) (fun b hb => Nat.lt_of_lt_of_le (HH.out.2.1 b hb) ((KA.out.trans HX3.out.1).size)) (fun b => .inl) (KA.out.trans HX3.out.1) (fun b hb => .inr (Nat.le_trans KA.out.size (HX3.out.2.1 b hb))) HX3.out.2.2 (by simp [HB.out.1, RS.burn])
              rw [HB.out.2] at hfin
              exact hfin
        · rw [show findI x.L nm = -1 by simp [findI, hf]]
          have HF := mkHid hf
          clear hf
          go_wp2
          go_ret
          rw [show x.pre 3 nm to = 11 by simp [RS.pre, RS.has, ← HD.out, ← HW.out, ← HW2.out, HF.out]]
          exact DoPost.stay HH.out.1 HH.out.2.1 11 (by decide) _
  · go_enter Try.func25, Try.ntmps25
    go_wp2
    go_ret
    rw [show x.pre 3 nm to = 21 by simp [RS.pre, ← HD.out]]
    exact DoPost.stay HH.out.1 HH.out.2.1 21 (by decide) _
end Go.Proofs.Ytohbglopgjbfcaa
