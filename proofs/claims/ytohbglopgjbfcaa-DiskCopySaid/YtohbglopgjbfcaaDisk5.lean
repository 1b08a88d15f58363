/-
  THE DISK, PART 5: its calls: New, Write, Sync, Rename, Remove, Fuse, Dead, Ops, Read.
-/
import Derived.Test.YtohbglopgjbfcaaDisk4
import Derived.Test.YtohbglopgjbfcaaBytes
namespace Go.Proofs.Ytohbglopgjbfcaa
open Go.RowKit Go.Maps

/-- a call's post: the answer, the new state. -/
def DPost (w : World) (S : Nat → Prop) (d m n : Nat) (code : Int) (s' : DS) (e : Ending) (w' : World) : Prop :=
  e = .returned (.int .i64 code) ∧ Keep (isB2 d m) w w' ∧ DiskAt w' S d m n s'

theorem cell_new1 (w : World) (v : Value) (t : TypeId) : (w.alloc (.cells #[v] t)).cell? ⟨w.heap.size, 0, none⟩ = some v := by
  rw [World.cell?_alloc_at _ _ _ _ rfl]; rfl

theorem size_alloc' (w : World) (o : Obj) : (w.alloc o).heap.size = w.heap.size + 1 := by simp
/-- two boxes. -/
theorem boxes2 (w : World) (u v : Value) (t t' : TypeId) :
    ((w.alloc (.cells #[u] t)).alloc (.cells #[v] t')).cell? ⟨w.heap.size, 0, none⟩ = some u ∧
    ((w.alloc (.cells #[u] t)).alloc (.cells #[v] t')).cell? ⟨w.heap.size + 1, 0, none⟩ = some v := by
  constructor
  · rw [World.cell?_alloc_past _ _ _ (by simp)]; exact cell_new1 _ _ _
  · have := cell_new1 (w.alloc (.cells #[u] t)) v t'
    rwa [size_alloc'] at this
/-- three boxes. -/
theorem boxes3 (w : World) (u v x : Value) (t t' t'' : TypeId) :
    (((w.alloc (.cells #[u] t)).alloc (.cells #[v] t')).alloc (.cells #[x] t'')).cell? ⟨w.heap.size, 0, none⟩ = some u ∧
    (((w.alloc (.cells #[u] t)).alloc (.cells #[v] t')).alloc (.cells #[x] t'')).cell? ⟨w.heap.size + 1, 0, none⟩ = some v ∧
    (((w.alloc (.cells #[u] t)).alloc (.cells #[v] t')).alloc (.cells #[x] t'')).cell? ⟨w.heap.size + 1 + 1, 0, none⟩ = some x := by
  refine ⟨?_, ?_, ?_⟩
  · rw [World.cell?_alloc_past _ _ _ (by simp; omega)]; exact (boxes2 _ _ _ _ _).1
  · rw [World.cell?_alloc_past _ _ _ (by simp)]; exact (boxes2 _ _ _ _ _).2
  · have := cell_new1 ((w.alloc (.cells #[u] t)).alloc (.cells #[v] t')) x t''
    rwa [size_alloc', size_alloc'] at this
theorem alloc_keep (M : Nat → Prop) (w : World) (o : Obj) : Keep M w (w.alloc o) := (Keep.refl M w).alloc o

def DS.putB (s : DS) (k b : Bs) : DS := if 262144 < b.length then s else { s.burn with f := s.f.put k (b, (look s k).2) }
def DS.putE (s : DS) (b : Bs) : Int := if 262144 < b.length then 3 else s.codeOf

set_option maxHeartbeats 800000 in
theorem put_any (w : World) (S : Nat → Prop) (hS : ∀ b, S b → b < w.heap.size) (d m n : Nat) (s : DS) (h : DiskAt w S d m n s) (ho : 0 ≤ s.ops) (ho' : s.ops ≤ 1000000) (hn : n ≤ 1000000) (k b : Bs) (hk : k.length ≤ maxLen) (a : Option Addr) (c : Nat)
    (hb : BytesAt w S a b) (hbc : b.length ≤ c) (hcb : c ≤ maxLen) :
    Calls Try.prog 19 #[.pointer (some ⟨d, 0, none⟩), .string ⟨k.toArray⟩, .slice a b.length c] w (DPost w S d m (n + 1) (s.putE b) (s.putB k b)) := by
  have hd := lt_of_obj h.disk
  have HS := mkHid hS
  have HH := mkHid (And.intro h (And.intro ho (And.intro ho' (And.intro hn (And.intro hk (And.intro hb (And.intro hbc hcb)))))))
  clear h ho ho' hn hk hb hbc hcb
  have hmf : ∀ (fn : Fn) (first cap : Array Value) (w : World), (Instr.makeFunc fn first cap).run Try.prog w = .ok (.func fn first cap) w := fun _ _ _ _ => rfl
  by_cases hl : 262144 < b.length
  · have hl' : (262144 : Int) < (b.length : Int) := by omega
    go_enter Try.func19, Try.ntmps19
    go_wp2
    go_ret
    have k1 : Keep noM w (((w.alloc (.cells #[.pointer (some ⟨d, 0, none⟩)] 26)).alloc (.cells #[.string ⟨k.toArray⟩] 9)).alloc (.cells #[.slice a b.length c] 23)) := (((Keep.refl _ w).alloc _).alloc _).alloc _
    refine ⟨by simp [DS.putE, hl], k1.mono (fun _ _ h => h.elim), ?_⟩
    simp only [DS.putB, hl, if_true]
    exact (HH.out.1.keep k1 (fun _ _ => not_noM _) (not_noM _) (not_noM _)).more (by omega)
  · have hl' : ¬ (262144 : Int) < (b.length : Int) := by omega
    have HL := mkHid hl
    clear hl
    go_enter Try.func19, Try.ntmps19
    go_wp2_with fail
    obtain ⟨h, ho, ho', hn, hk, hb, hbc, hcb⟩ := HH.out
    have k1 : Keep noM w (((w.alloc (.cells #[.pointer (some ⟨d, 0, none⟩)] 26)).alloc (.cells #[.string ⟨k.toArray⟩] 9)).alloc (.cells #[.slice a b.length c] 23)) := (((Keep.refl _ w).alloc _).alloc _).alloc _
    have bx := boxes3 w (.pointer (some ⟨d, 0, none⟩)) (.string ⟨k.toArray⟩) (.slice a b.length c) 26 9 23
    have h1 := h.keep k1 (fun _ _ => not_noM _) (not_noM _) (not_noM _)
    refine (change_any _ S d m n (n + 1) s h1 ho ho' true 44 _ (s.f.put k (b, (look s k).2)) (by omega) (fun b hb => by have := hS b hb; simp; omega) (fun W => Try.call44 _ W) ?_).mono ?_
    · intro W kW dW
      have l0 : w.heap.size ≠ d := by omega
      exact put1_any W S d m n s.burn dW w.heap.size (w.heap.size + 1) (w.heap.size + 1 + 1) k b hk a c (kW.cell (M := isB d) (p := ⟨w.heap.size, 0, none⟩) (by unfold isB; simp only; omega) bx.1) (kW.cell (M := isB d) (p := ⟨w.heap.size + 1, 0, none⟩) (by unfold isB; simp only; omega) bx.2.1) (kW.cell (M := isB d) (p := ⟨w.heap.size + 1 + 1, 0, none⟩) (by unfold isB; simp only; omega) bx.2.2)
        ((hb.keep k1 (fun _ _ => not_noM _)).keep kW (notB h.nd)) hbc hcb (by omega) hn
    · rintro e w' ⟨rfl, K, D⟩
      go_wp2
      go_ret
      exact ⟨by simp [DS.putE, HL.out], (k1.mono (fun _ _ h => h.elim)).trans K, by simpa [DS.putB, HL.out] using D⟩

theorem keepAll {M : Nat → Prop} {w w' : World} (h : Keep noM w w') : Keep M w w' := h.mono fun _ _ h => h.elim
theorem one_row (w : World) (k : Bs) : RowAt (w.alloc (.cells #[.string ⟨k.toArray⟩] 9)) (fun _ => True) (some ⟨w.heap.size, 0, none⟩) (scells [k]) :=
  RowAt.of_row (heap_alloc_new w _) trivial (by simp [scells])

/-- what is refused ahead of a change of a file that must be there. -/
def DS.preE (s : DS) (l : List Bs) (k : Bs) : Int := if namesE s.dead l ≠ 0 then namesE s.dead l else if (s.f k).isSome then 0 else 11
def DS.doE (s : DS) (pre : Int) : Int := if pre ≠ 0 then pre else s.codeOf
/-- a change that is not done if the fuse burns. -/
def DS.doS (s : DS) (pre : Int) (F : Files) : DS := if pre ≠ 0 then s else { s.burn with f := if s.burnt then s.f else F }

/-- the two boxes of a call, the disk, in a world that has grown. -/
structure In2 (w0 w : World) (S : Nat → Prop) (d m n : Nat) (s : DS) (k : Bs) : Prop where
  kp : Keep noM w0 w
  disk : DiskAt w S d m n s
  hS : ∀ b, S b → b < w0.heap.size
  c0 : w.cell? ⟨w0.heap.size, 0, none⟩ = some (.pointer (some ⟨d, 0, none⟩))
  c1 : w.cell? ⟨w0.heap.size + 1, 0, none⟩ = some (.string ⟨k.toArray⟩)
theorem In2.step {w0 w w' : World} {S : Nat → Prop} {d m n : Nat} {s : DS} {k : Bs} (h : In2 w0 w S d m n s k) (q : Keep noM w w') : In2 w0 w' S d m n s k :=
  ⟨h.kp.trans q, h.disk.keep q (fun _ _ => not_noM _) (not_noM _) (not_noM _), h.hS, q.cell (M := noM) (not_noM _) h.c0, q.cell (M := noM) (not_noM _) h.c1⟩
theorem In2.start {w : World} {S : Nat → Prop} {d m n : Nat} {s : DS} (k : Bs) (h : DiskAt w S d m n s) (hS : ∀ b, S b → b < w.heap.size) :
    In2 w ((w.alloc (.cells #[.pointer (some ⟨d, 0, none⟩)] 26)).alloc (.cells #[.string ⟨k.toArray⟩] 9)) S d m n s k :=
  have q : Keep noM w ((w.alloc (.cells #[.pointer (some ⟨d, 0, none⟩)] 26)).alloc (.cells #[.string ⟨k.toArray⟩] 9)) := ((Keep.refl _ w).alloc _).alloc _
  ⟨q, h.keep q (fun _ _ => not_noM _) (not_noM _) (not_noM _), hS, (boxes2 _ _ _ _ _).1, (boxes2 _ _ _ _ _).2⟩

theorem one_ok {k : Bs} (hk : k.length ≤ maxLen) : ∀ s ∈ [k], s.length ≤ maxLen := by intro s hs; simp at hs; subst hs; exact hk

set_option maxHeartbeats 800000 in
theorem Sync_any (w : World) (S : Nat → Prop) (hS : ∀ b, S b → b < w.heap.size) (d m n : Nat) (s : DS) (h : DiskAt w S d m n s) (ho : 0 ≤ s.ops) (ho' : s.ops ≤ 1000000) (hn : n ≤ 1000000) (k : Bs) (hk : k.length ≤ maxLen) :
    Calls Try.prog 10 #[.pointer (some ⟨d, 0, none⟩), .string ⟨k.toArray⟩] w (DPost w S d m (n + 1) (s.doE (s.preE [k] k)) (s.doS (s.preE [k] k) (s.f.put k ((look s k).1, (look s k).1)))) := by
  have hmf : ∀ (fn : Fn) (first cap : Array Value) (w : World), (Instr.makeFunc fn first cap).run Try.prog w = .ok (.func fn first cap) w := fun _ _ _ _ => rfl
  have I0 := In2.start k h hS
  have I1 := mkHid (I0.step (alloc_keep noM _ (.cells #[.string ⟨k.toArray⟩] 9)))
  have hrow := one_row ((w.alloc (.cells #[.pointer (some ⟨d, 0, none⟩)] 26)).alloc (.cells #[.string ⟨k.toArray⟩] 9)) k
  rw [size_alloc', size_alloc'] at hrow
  have hc2 := I1.out.disk.cells.2.2.1
  obtain ⟨c, hc⟩ : ∃ c, c = namesE s.dead [k] := ⟨_, rfl⟩
  have HC := mkHid hc
  have HH := mkHid (And.intro hrow (And.intro ho (And.intro ho' (And.intro hn (And.intro hk hc2)))))
  have hd := lt_of_obj h.disk
  clear h ho ho' hn hk hrow hS I0 hc2 hc
  go_enter Try.func10, Try.ntmps10
  go_wp2_with fail
  refine (names_any d s.dead _ [k] 1 _ _ HH.out.2.2.2.2.2 HH.out.1 (one_ok HH.out.2.2.2.2.1) (by unfold maxLen; simp)).mono ?_
  rintro e w1 ⟨rfl, hw⟩
  have I2 : In2 w w1 S d m n s k := by rw [← hw]; exact I1.out
  clear hw I1
  rw [← HC.out]
  have c0 := I2.c0
  have c1 := I2.c1
  have I3 := mkHid I2
  clear I2
  by_cases hz : c = 0
  · have hz1 : (c != 0) = false := by simp [hz]
    have HZ := mkHid hz
    clear hz
    go_wp2_with fail
    clear c0 c1
    refine (there_any _ S d m n s I3.out.disk k HH.out.2.2.2.2.1).mono ?_
    rintro e w2 ⟨rfl, kq⟩
    have I4 := I3.out.step kq
    have c0 := I4.c0
    have c1 := I4.c1
    have I5 := mkHid I4
    clear kq I4
    cases hf : (s.f k).isSome
    · have hp : s.preE [k] k = 11 := by simp [DS.preE, ← HC.out, HZ.out, hf]
      have HP := mkHid hp
      clear hp hf
      go_wp2
      go_ret
      refine ⟨by simp [HP.out, DS.doE], keepAll I5.out.kp, ?_⟩
      rw [HP.out]
      exact I5.out.disk.more (by omega)
    · have hp : s.preE [k] k = 0 := by simp [DS.preE, ← HC.out, HZ.out, hf]
      have HP := mkHid hp
      clear hp hf
      go_wp2_with fail
      clear c0 c1
      have I := I5.out
      refine (change_any _ S d m n (n + 1) s I.disk HH.out.2.1 HH.out.2.2.1 false 23 _ (s.f.put k ((look s k).1, (look s k).1)) (by omega) (fun b hb => Nat.lt_of_lt_of_le (I.hS b hb) I.kp.size) (fun W => Try.call23 _ W) ?_).mono ?_
      · intro W kW dW
        exact sync1_any W S d m n s.burn dW w.heap.size (w.heap.size + 1) k HH.out.2.2.2.2.1 (kW.cell (M := isB d) (p := ⟨w.heap.size, 0, none⟩) (by unfold isB; simp only; omega) I.c0) (kW.cell (M := isB d) (p := ⟨w.heap.size + 1, 0, none⟩) (by unfold isB; simp only; omega) I.c1) HH.out.2.2.2.1
      · rintro e w' ⟨rfl, K, D⟩
        go_wp2
        go_ret
        exact ⟨by simp [HP.out, DS.doE], (keepAll I.kp).trans K, by rw [HP.out]; simpa [DS.doS] using D⟩
  · have hz1 : (c != 0) = true := by simp [hz]
    have HZ := mkHid hz
    clear hz
    go_wp2
    go_ret
    have hp : s.preE [k] k = c ∧ c ≠ 0 := ⟨by simp [DS.preE, ← HC.out, HZ.out], HZ.out⟩
    refine ⟨by simp [hp.1, DS.doE, hp.2], keepAll I3.out.kp, ?_⟩
    rw [hp.1, show s.doS c _ = s by simp [DS.doS, hp.2]]
    exact I3.out.disk.more (by omega)
set_option maxHeartbeats 800000 in
theorem Remove_any (w : World) (S : Nat → Prop) (hS : ∀ b, S b → b < w.heap.size) (d m n : Nat) (s : DS) (h : DiskAt w S d m n s) (ho : 0 ≤ s.ops) (ho' : s.ops ≤ 1000000) (hn : n ≤ 1000000) (k : Bs) (hk : k.length ≤ maxLen) :
    Calls Try.prog 27 #[.pointer (some ⟨d, 0, none⟩), .string ⟨k.toArray⟩] w (DPost w S d m n (s.doE (s.preE [k] k)) (s.doS (s.preE [k] k) (s.f.del k))) := by
  have hmf : ∀ (fn : Fn) (first cap : Array Value) (w : World), (Instr.makeFunc fn first cap).run Try.prog w = .ok (.func fn first cap) w := fun _ _ _ _ => rfl
  have I0 := In2.start k h hS
  have I1 := mkHid (I0.step (alloc_keep noM _ (.cells #[.string ⟨k.toArray⟩] 9)))
  have hrow := one_row ((w.alloc (.cells #[.pointer (some ⟨d, 0, none⟩)] 26)).alloc (.cells #[.string ⟨k.toArray⟩] 9)) k
  rw [size_alloc', size_alloc'] at hrow
  have hc2 := I1.out.disk.cells.2.2.1
  obtain ⟨c, hc⟩ : ∃ c, c = namesE s.dead [k] := ⟨_, rfl⟩
  have HC := mkHid hc
  have HH := mkHid (And.intro hrow (And.intro ho (And.intro ho' (And.intro hn (And.intro hk hc2)))))
  have hd := lt_of_obj h.disk
  clear h ho ho' hn hk hrow hS I0 hc2 hc
  go_enter Try.func27, Try.ntmps27
  go_wp2_with fail
  refine (names_any d s.dead _ [k] 1 _ _ HH.out.2.2.2.2.2 HH.out.1 (one_ok HH.out.2.2.2.2.1) (by unfold maxLen; simp)).mono ?_
  rintro e w1 ⟨rfl, hw⟩
  have I2 : In2 w w1 S d m n s k := by rw [← hw]; exact I1.out
  clear hw I1
  rw [← HC.out]
  have c0 := I2.c0
  have c1 := I2.c1
  have I3 := mkHid I2
  clear I2
  by_cases hz : c = 0
  · have hz1 : (c != 0) = false := by simp [hz]
    have HZ := mkHid hz
    clear hz
    go_wp2_with fail
    clear c0 c1
    refine (there_any _ S d m n s I3.out.disk k HH.out.2.2.2.2.1).mono ?_
    rintro e w2 ⟨rfl, kq⟩
    have I4 := I3.out.step kq
    have c0 := I4.c0
    have c1 := I4.c1
    have I5 := mkHid I4
    clear kq I4
    cases hf : (s.f k).isSome
    · have hp : s.preE [k] k = 11 := by simp [DS.preE, ← HC.out, HZ.out, hf]
      have HP := mkHid hp
      clear hp hf
      go_wp2
      go_ret
      refine ⟨by simp [HP.out, DS.doE], keepAll I5.out.kp, ?_⟩
      rw [HP.out]
      exact I5.out.disk.more (by omega)
    · have hp : s.preE [k] k = 0 := by simp [DS.preE, ← HC.out, HZ.out, hf]
      have HP := mkHid hp
      clear hp hf
      go_wp2_with fail
      clear c0 c1
      have I := I5.out
      refine (change_any _ S d m n n s I.disk HH.out.2.1 HH.out.2.2.1 false 53 _ (s.f.del k) (by omega) (fun b hb => Nat.lt_of_lt_of_le (I.hS b hb) I.kp.size) (fun W => Try.call53 _ W) ?_).mono ?_
      · intro W kW dW
        exact remove1_any W S d m n s.burn dW w.heap.size (w.heap.size + 1) k HH.out.2.2.2.2.1 (kW.cell (M := isB d) (p := ⟨w.heap.size, 0, none⟩) (by unfold isB; simp only; omega) I.c0) (kW.cell (M := isB d) (p := ⟨w.heap.size + 1, 0, none⟩) (by unfold isB; simp only; omega) I.c1)
      · rintro e w' ⟨rfl, K, D⟩
        go_wp2
        go_ret
        exact ⟨by simp [HP.out, DS.doE], (keepAll I.kp).trans K, by rw [HP.out]; simpa [DS.doS] using D⟩
  · have hz1 : (c != 0) = true := by simp [hz]
    have HZ := mkHid hz
    clear hz
    go_wp2
    go_ret
    have hp : s.preE [k] k = c ∧ c ≠ 0 := ⟨by simp [DS.preE, ← HC.out, HZ.out], HZ.out⟩
    refine ⟨by simp [hp.1, DS.doE, hp.2], keepAll I3.out.kp, ?_⟩
    rw [hp.1, show s.doS c _ = s by simp [DS.doS, hp.2]]
    exact I3.out.disk.more (by omega)
/-- the three boxes of a call, the disk, in a world that has grown. -/
structure In3 (w0 w : World) (S : Nat → Prop) (d m n : Nat) (s : DS) (k to : Bs) : Prop where
  kp : Keep noM w0 w
  disk : DiskAt w S d m n s
  hS : ∀ b, S b → b < w0.heap.size
  c0 : w.cell? ⟨w0.heap.size, 0, none⟩ = some (.pointer (some ⟨d, 0, none⟩))
  c1 : w.cell? ⟨w0.heap.size + 1, 0, none⟩ = some (.string ⟨k.toArray⟩)
  c2 : w.cell? ⟨w0.heap.size + 1 + 1, 0, none⟩ = some (.string ⟨to.toArray⟩)
theorem In3.step {w0 w w' : World} {S : Nat → Prop} {d m n : Nat} {s : DS} {k to : Bs} (h : In3 w0 w S d m n s k to) (q : Keep noM w w') : In3 w0 w' S d m n s k to :=
  ⟨h.kp.trans q, h.disk.keep q (fun _ _ => not_noM _) (not_noM _) (not_noM _), h.hS, q.cell (M := noM) (not_noM _) h.c0, q.cell (M := noM) (not_noM _) h.c1, q.cell (M := noM) (not_noM _) h.c2⟩
theorem In3.start {w : World} {S : Nat → Prop} {d m n : Nat} {s : DS} (k to : Bs) (h : DiskAt w S d m n s) (hS : ∀ b, S b → b < w.heap.size) :
    In3 w (((w.alloc (.cells #[.pointer (some ⟨d, 0, none⟩)] 26)).alloc (.cells #[.string ⟨k.toArray⟩] 9)).alloc (.cells #[.string ⟨to.toArray⟩] 9)) S d m n s k to :=
  have q : Keep noM w (((w.alloc (.cells #[.pointer (some ⟨d, 0, none⟩)] 26)).alloc (.cells #[.string ⟨k.toArray⟩] 9)).alloc (.cells #[.string ⟨to.toArray⟩] 9)) := (((Keep.refl _ w).alloc _).alloc _).alloc _
  have b := boxes3 w (.pointer (some ⟨d, 0, none⟩)) (.string ⟨k.toArray⟩) (.string ⟨to.toArray⟩) 26 9 9
  ⟨q, h.keep q (fun _ _ => not_noM _) (not_noM _) (not_noM _), hS, b.1, b.2.1, b.2.2⟩
theorem two_row (w : World) (k to : Bs) : RowAt (w.alloc (.cells #[.string ⟨k.toArray⟩, .string ⟨to.toArray⟩] 9)) (fun _ => True) (some ⟨w.heap.size, 0, none⟩) (scells [k, to]) :=
  RowAt.of_row (heap_alloc_new w _) trivial (by simp [scells])
theorem two_ok {k to : Bs} (hk : k.length ≤ maxLen) (hto : to.length ≤ maxLen) : ∀ s ∈ [k, to], s.length ≤ maxLen := by intro s hs; simp at hs; rcases hs with rfl | rfl <;> assumption

set_option maxHeartbeats 800000 in
theorem Rename_any (w : World) (S : Nat → Prop) (hS : ∀ b, S b → b < w.heap.size) (d m n : Nat) (s : DS) (h : DiskAt w S d m n s) (ho : 0 ≤ s.ops) (ho' : s.ops ≤ 1000000) (hn : n ≤ 1000000) (k to : Bs) (hk : k.length ≤ maxLen) (hto : to.length ≤ maxLen) :
    Calls Try.prog 26 #[.pointer (some ⟨d, 0, none⟩), .string ⟨k.toArray⟩, .string ⟨to.toArray⟩] w (DPost w S d m (n + 1) (s.doE (s.preE [k, to] k)) (s.doS (s.preE [k, to] k) (renamed s.f k to))) := by
  have hmf : ∀ (fn : Fn) (first cap : Array Value) (w : World), (Instr.makeFunc fn first cap).run Try.prog w = .ok (.func fn first cap) w := fun _ _ _ _ => rfl
  have I0 := In3.start k to h hS
  have I1 := mkHid (I0.step (alloc_keep noM _ (.cells #[.string ⟨k.toArray⟩, .string ⟨to.toArray⟩] 9)))
  have hrow := two_row (((w.alloc (.cells #[.pointer (some ⟨d, 0, none⟩)] 26)).alloc (.cells #[.string ⟨k.toArray⟩] 9)).alloc (.cells #[.string ⟨to.toArray⟩] 9)) k to
  rw [size_alloc', size_alloc', size_alloc'] at hrow
  have hc2 := I1.out.disk.cells.2.2.1
  obtain ⟨c, hc⟩ : ∃ c, c = namesE s.dead [k, to] := ⟨_, rfl⟩
  have HC := mkHid hc
  have HH := mkHid (And.intro hrow (And.intro ho (And.intro ho' (And.intro hn (And.intro hk (And.intro hto hc2))))))
  have hd := lt_of_obj h.disk
  clear h ho ho' hn hk hto hrow hS I0 hc2 hc
  go_enter Try.func26, Try.ntmps26
  go_wp2_with fail
  refine (names_any d s.dead _ [k, to] 2 _ _ HH.out.2.2.2.2.2.2 HH.out.1 (two_ok HH.out.2.2.2.2.1 HH.out.2.2.2.2.2.1) (by unfold maxLen; simp)).mono ?_
  rintro e w1 ⟨rfl, hw⟩
  have I2 : In3 w w1 S d m n s k to := by rw [← hw]; exact I1.out
  clear hw I1
  rw [← HC.out]
  have c0 := I2.c0
  have c1 := I2.c1
  have c2 := I2.c2
  have I3 := mkHid I2
  clear I2
  by_cases hz : c = 0
  · have hz1 : (c != 0) = false := by simp [hz]
    have HZ := mkHid hz
    clear hz
    go_wp2_with fail
    clear c0 c1 c2
    refine (there_any _ S d m n s I3.out.disk k HH.out.2.2.2.2.1).mono ?_
    rintro e w2 ⟨rfl, kq⟩
    have I4 := I3.out.step kq
    have c0 := I4.c0
    have c1 := I4.c1
    have c2 := I4.c2
    have I5 := mkHid I4
    clear kq I4
    cases hf : (s.f k).isSome
    · have hp : s.preE [k, to] k = 11 := by simp [DS.preE, ← HC.out, HZ.out, hf]
      have HP := mkHid hp
      clear hp hf
      go_wp2
      go_ret
      refine ⟨by simp [HP.out, DS.doE], keepAll I5.out.kp, ?_⟩
      rw [HP.out]
      exact I5.out.disk.more (by omega)
    · have hp : s.preE [k, to] k = 0 := by simp [DS.preE, ← HC.out, HZ.out, hf]
      have HP := mkHid hp
      clear hp hf
      go_wp2_with fail
      clear c0 c1 c2
      have I := I5.out
      refine (change_any _ S d m n (n + 1) s I.disk HH.out.2.1 HH.out.2.2.1 false 52 _ (renamed s.f k to) (by omega) (fun b hb => Nat.lt_of_lt_of_le (I.hS b hb) I.kp.size) (fun W => Try.call52 _ W) ?_).mono ?_
      · intro W kW dW
        exact rename1_any W S d m n s.burn dW w.heap.size (w.heap.size + 1) (w.heap.size + 1 + 1) k to HH.out.2.2.2.2.1 HH.out.2.2.2.2.2.1 (kW.cell (M := isB d) (p := ⟨w.heap.size, 0, none⟩) (by unfold isB; simp only; omega) I.c0) (kW.cell (M := isB d) (p := ⟨w.heap.size + 1, 0, none⟩) (by unfold isB; simp only; omega) I.c1) (kW.cell (M := isB d) (p := ⟨w.heap.size + 1 + 1, 0, none⟩) (by unfold isB; simp only; omega) I.c2) HH.out.2.2.2.1
      · rintro e w' ⟨rfl, K, D⟩
        go_wp2
        go_ret
        exact ⟨by simp [HP.out, DS.doE], (keepAll I.kp).trans K, by rw [HP.out]; simpa [DS.doS] using D⟩
  · have hz1 : (c != 0) = true := by simp [hz]
    have HZ := mkHid hz
    clear hz
    go_wp2
    go_ret
    have hp : s.preE [k, to] k = c ∧ c ≠ 0 := ⟨by simp [DS.preE, ← HC.out, HZ.out], HZ.out⟩
    refine ⟨by simp [hp.1, DS.doE, hp.2], keepAll I3.out.kp, ?_⟩
    rw [hp.1, show s.doS c _ = s by simp [DS.doS, hp.2]]
    exact I3.out.disk.more (by omega)
end Go.Proofs.Ytohbglopgjbfcaa
