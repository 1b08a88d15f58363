/-
  THE DISK, PART 4: a change, which may burn the fuse and ends by a deferred call.
-/
import Derived.Test.YtohbglopgjbfcaaDisk3
import Derived.Defers
namespace Go.Proofs.Ytohbglopgjbfcaa
open Go.RowKit Go.Maps

set_option maxHeartbeats 400000 in
theorem chg1_any (u : FrameMode) (pb pe : Nat) (b : Bool) (x : Int) (w : World) (hb : w.cell? ⟨pb, 0, none⟩ = some (.bool b)) (he : w.cell? ⟨pe, 0, none⟩ = some (.int .i64 x)) (hf : w.frozen? ⟨pe, 0, none⟩ = false) :
    CallsD Try.prog 46 #[.pointer (some ⟨pb, 0, none⟩), .pointer (some ⟨pe, 0, none⟩)] u w fun e u' w' =>
      u' = u ∧ (e = .returned (.tuple #[]) ∧ w' = if b then w.setCell ⟨pe, 0, none⟩ (.int .i64 21) else w) := by
  cases b
  · go_enter_d Try.func46, Try.ntmps46
    go_wp2
    go_end0
    exact ⟨rfl, rfl⟩
  · go_enter_d Try.func46, Try.ntmps46
    go_wp2
    go_end0
    exact ⟨rfl, rfl⟩

/-- the answer of a change. -/
def DS.codeOf (s : DS) : Int := if s.burnt then 21 else 0

/-- what a change comes to. -/
def ChgPost (w : World) (S : Nat → Prop) (d m n' : Nat) (s : DS) (late : Bool) (F : Files) (e : Ending) (w' : World) : Prop :=
  e = .returned (.int .i64 s.codeOf) ∧ Keep (isB2 d m) w w' ∧ DiskAt w' S d m n' { s.burn with f := if s.burnt && !late then s.f else F }

theorem isB_2 {d m : Nat} {w w' : World} (h : Keep (isB d) w w') : Keep (isB2 d m) w w' := h.mono fun _ _ e => .inl e
theorem isB_2' {d m : Nat} {w w' : World} (h : Keep (isB m) w w') : Keep (isB2 d m) w w' := h.mono fun _ _ e => .inr e
theorem not_isB2 {d m b : Nat} (h1 : b ≠ d) (h2 : b ≠ m) : ¬ isB2 d m b := fun h => h.elim h1 h2

set_option maxRecDepth 100000 in
set_option maxHeartbeats 800000 in
/-- a change: 'do' is what the closure g makes of the files. -/
theorem change_any (w : World) (S : Nat → Prop) (d m n n' : Nat) (s : DS) (h : DiskAt w S d m n s) (ho : 0 ≤ s.ops) (ho' : s.ops ≤ 1000000) (late : Bool) (g : Nat) (cap : Array Value) (F : Files) (hnn : n ≤ n') (hS : ∀ b, S b → b < w.heap.size) (hg : ∀ W, (callFunc g cap).run Try.prog W = .ok (.enter g cap) W)
    (hdo : ∀ W, Keep (isB d) w W → DiskAt W S d m n s.burn → Calls Try.prog g cap W fun e w' => e = .returned (.tuple #[]) ∧ Keep (isB m) W w' ∧ DiskAt w' S d m n' { s.burn with f := F }) :
    Calls Try.prog 22 #[.pointer (some ⟨d, 0, none⟩), .bool late, .func (.func g) #[] cap] w (ChgPost w S d m n' s late F) := by
  have hmf : ∀ (fn : Fn) (first cap : Array Value) (w : World), (Instr.makeFunc fn first cap).run Try.prog w = .ok (.func fn first cap) w := fun _ _ _ _ => rfl
  have hd := lt_of_obj h.disk
  have hdd : w.heap.size ≠ d := by omega
  have hmm : w.heap.size ≠ m := by obtain ⟨Dm, ⟨es, clock, hb, _⟩, _⟩ := h.map; have := lt_of_obj hb; omega
  have H := mkHid h
  have HDO := mkHid hdo
  obtain ⟨bt, hbt⟩ : ∃ bt, bt = s.burnt := ⟨_, rfl⟩
  have HB := mkHid hbt
  have HO := mkHid (And.intro ho ho')
  clear h hdo ho ho'
  go_enter_defers Try.func22, Try.ntmps22
  go_wp2_with fail
  refine (burn_any (w.alloc (.cells #[.int .i64 0] 28)) S d m n s (H.out.keep ((Keep.refl noM _).alloc _) (fun _ _ => not_noM _) (not_noM _) (not_noM _)) HO.out.1 HO.out.2).mono ?_
  rintro e w1 ⟨he, K1, D1⟩
  rw [← hbt] at he
  subst he
  clear hbt
  have kw1 : Keep (isB d) w w1 := ((Keep.refl (isB d) w).alloc _).trans K1
  have z1 := K1.cell (M := isB d) (p := ⟨w.heap.size, 0, none⟩) hdd (World.cell?_alloc_at (w := w) #[.int .i64 0] 28 w.heap.size 0 rfl)
  have z2 := (K1.frozen? (M := isB d) (p := ⟨w.heap.size, 0, none⟩) hdd (by simp)).trans (World.frozen?_alloc_at (w := w) #[.int .i64 0] 28 w.heap.size 0 rfl)
  have z3 : w.heap.size < w1.heap.size := by have := K1.size; simp at this; omega
  have z4 : w1.heap.size ≠ m := by obtain ⟨Dm, ⟨es, clock, hb, _⟩, _⟩ := D1.map; have := lt_of_obj hb; omega
  have z5 : w1.heap.size ≠ d := by have := lt_of_obj D1.disk; omega
  have z6 : w.heap.size ≠ w1.heap.size := by omega
  simp at z1
  have HK := mkHid (And.intro K1 (And.intro kw1 D1))
  clear K1 kw1 D1
  cases bt
  · go_wp2_with fail
    refine (HDO.out (w1.alloc (.cells #[.bool false] 4)) (HK.out.2.1.alloc _) (HK.out.2.2.keep ((Keep.refl noM _).alloc _) (fun _ _ => not_noM _) (not_noM _) (not_noM _))).mono ?_
    rintro e w2 ⟨rfl, K2, D2⟩
    have y1 := K2.cell (M := isB m) (p := ⟨w1.heap.size, 0, none⟩) z4 (World.cell?_alloc_at (w := w1) #[.bool false] 4 w1.heap.size 0 rfl)
    have y2 := K2.cell (M := isB m) (p := ⟨w.heap.size, 0, none⟩) hmm ((World.cell?_alloc_past (w := w1) (.cells #[.bool false] 4) w.heap.size 0 z3).trans z1)
    have y3 := (K2.frozen? (M := isB m) (p := ⟨w.heap.size, 0, none⟩) hmm (by simp; omega)).trans ((World.frozen?_alloc_past (w := w1) (.cells #[.bool false] 4) w.heap.size 0 z3).trans z2)
    simp at y1
    have HK2 := mkHid (And.intro K2 D2)
    clear K2 D2
    go_wp2_with fail
    have yA : (w2.setCell ⟨w.heap.size, 0, none⟩ (.int .i64 0)).cell? ⟨w.heap.size, 0, none⟩ = some (.int .i64 0) := World.cell?_setCell_same' _ _ _ (by rw [y2]; rfl)
    refine leaves_cons (f := 46) (args := #[.pointer (some ⟨w1.heap.size, 0, none⟩), .pointer (some ⟨w.heap.size, 0, none⟩)]) (by simp) (by simp [go_sem]) ?_
    refine (chg1_any .returning w1.heap.size w.heap.size false 0 _ ?_ ?_ ?_).mono ?_
    · rw [World.cell?_setCell_other _ _ _ _ (by intro e; simp at e; first | done | omega)]; exact y1
    · exact yA
    · rw [World.frozen?_setCell]; exact y3
    rintro e u' w'' ⟨rfl, rfl, rfl⟩
    simp [Leaves, settle, results, Try.results22, go_sem, yA]
    refine ⟨by simp [DS.codeOf, ← HB.out], ?_, ?_⟩
    · exact (((isB_2 HK.out.2.1).alloc _).trans (isB_2' HK2.out.1)).setCell (p := ⟨w.heap.size, 0, none⟩) (.inr (Nat.le_refl _)) _
    · have k3 : Keep (isB w.heap.size) w2 (w2.setCell ⟨w.heap.size, 0, none⟩ (.int .i64 0)) := (Keep.refl (isB w.heap.size) _).setCell (p := ⟨w.heap.size, 0, none⟩) (.inl rfl) _
      have := HK2.out.2.keep k3 (fun b hb e => by have := hS b hb; unfold isB at e; omega) (fun e => hdd e.symm) (fun e => hmm e.symm)
      simpa [← HB.out] using this
  · cases late
    · -- burnt, and not done
      go_wp2
      have yA : (w1.setCell ⟨w.heap.size, 0, none⟩ (.int .i64 21)).cell? ⟨w.heap.size, 0, none⟩ = some (.int .i64 21) := World.cell?_setCell_same' _ _ _ (by rw [z1]; rfl)
      have yB : ((w1.setCell ⟨w.heap.size, 0, none⟩ (.int .i64 21)).alloc (.cells #[.bool true] 4)).cell? ⟨w.heap.size, 0, none⟩ = some (.int .i64 21) := by
        rw [World.cell?_alloc_past _ _ _ (by simp [World.setCell]; omega)]; exact yA
      simp [bodyPostD, Leaves, results, Try.results22, go_sem, yB]
      refine ⟨by simp [DS.codeOf, ← HB.out], ?_, ?_⟩
      · exact ((isB_2 HK.out.2.1).setCell (p := ⟨w.heap.size, 0, none⟩) (.inr (Nat.le_refl _)) _).alloc _
      · have k3 : Keep (isB w.heap.size) w1 ((w1.setCell ⟨w.heap.size, 0, none⟩ (.int .i64 21)).alloc (.cells #[.bool true] 4)) := ((Keep.refl (isB w.heap.size) _).setCell (p := ⟨w.heap.size, 0, none⟩) (.inl rfl) _).alloc _
        have := (HK.out.2.2.keep k3 (fun b hb e => by have := hS b hb; unfold isB at e; omega) (fun e => hdd e.symm) (fun e => hmm e.symm)).more hnn
        simpa [← HB.out, DS.burn] using this
    · go_wp2_with fail
      refine (HDO.out (w1.alloc (.cells #[.bool true] 4)) (HK.out.2.1.alloc _) (HK.out.2.2.keep ((Keep.refl noM _).alloc _) (fun _ _ => not_noM _) (not_noM _) (not_noM _))).mono ?_
      rintro e w2 ⟨rfl, K2, D2⟩
      have y1 := K2.cell (M := isB m) (p := ⟨w1.heap.size, 0, none⟩) z4 (World.cell?_alloc_at (w := w1) #[.bool true] 4 w1.heap.size 0 rfl)
      have y2 := K2.cell (M := isB m) (p := ⟨w.heap.size, 0, none⟩) hmm ((World.cell?_alloc_past (w := w1) (.cells #[.bool true] 4) w.heap.size 0 z3).trans z1)
      have y3 := (K2.frozen? (M := isB m) (p := ⟨w.heap.size, 0, none⟩) hmm (by simp; omega)).trans ((World.frozen?_alloc_past (w := w1) (.cells #[.bool true] 4) w.heap.size 0 z3).trans z2)
      simp at y1
      have HK2 := mkHid (And.intro K2 D2)
      clear K2 D2
      go_wp2_with fail
      have yA : (w2.setCell ⟨w.heap.size, 0, none⟩ (.int .i64 0)).cell? ⟨w.heap.size, 0, none⟩ = some (.int .i64 0) := World.cell?_setCell_same' _ _ _ (by rw [y2]; rfl)
      refine leaves_cons (f := 46) (args := #[.pointer (some ⟨w1.heap.size, 0, none⟩), .pointer (some ⟨w.heap.size, 0, none⟩)]) (by simp) (by simp [go_sem]) ?_
      refine (chg1_any .returning w1.heap.size w.heap.size true 0 _ ?_ ?_ ?_).mono ?_
      · rw [World.cell?_setCell_other _ _ _ _ (by intro e; simp at e; first | done | omega)]; exact y1
      · exact yA
      · rw [World.frozen?_setCell]; exact y3
      rintro e u' w'' ⟨rfl, rfl, rfl⟩
      have yB : ((w2.setCell ⟨w.heap.size, 0, none⟩ (.int .i64 0)).setCell ⟨w.heap.size, 0, none⟩ (.int .i64 21)).cell? ⟨w.heap.size, 0, none⟩ = some (.int .i64 21) := World.cell?_setCell_same' _ _ _ (by rw [yA]; rfl)
      simp [Leaves, settle, results, Try.results22, go_sem, yB]
      refine ⟨by simp [DS.codeOf, ← HB.out], ?_, ?_⟩
      · exact ((((isB_2 HK.out.2.1).alloc _).trans (isB_2' HK2.out.1)).setCell (p := ⟨w.heap.size, 0, none⟩) (.inr (Nat.le_refl _)) _).setCell (p := ⟨w.heap.size, 0, none⟩) (.inr (Nat.le_refl _)) _
      · have k3 : Keep (isB w.heap.size) w2 ((w2.setCell ⟨w.heap.size, 0, none⟩ (.int .i64 0)).setCell ⟨w.heap.size, 0, none⟩ (.int .i64 21)) := ((Keep.refl (isB w.heap.size) _).setCell (p := ⟨w.heap.size, 0, none⟩) (.inl rfl) _).setCell (p := ⟨w.heap.size, 0, none⟩) (.inl rfl) _
        have := HK2.out.2.keep k3 (fun b hb e => by have := hS b hb; unfold isB at e; omega) (fun e => hdd e.symm) (fun e => hmm e.symm)
        simpa [← HB.out] using this
end Go.Proofs.Ytohbglopgjbfcaa
