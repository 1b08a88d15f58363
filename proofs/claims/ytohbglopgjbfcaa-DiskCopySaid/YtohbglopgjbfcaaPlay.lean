/-
  THE DISK IN PLAY: a disk made behind a world w0; each call's contract over it.
-/
import Derived.Test.YtohbglopgjbfcaaBoot
set_option linter.unusedVariables false
namespace Go.Proofs.Ytohbglopgjbfcaa
open Go.RowKit Go.Maps Go.Sort Go.Shelf

/-- the blocks made since w0 but for d and m. -/
def PS (w0 w : World) (d m : Nat) : Nat → Prop := fun b => w0.heap.size ≤ b ∧ b < w.heap.size ∧ b ≠ d ∧ b ≠ m
structure Play (w0 w : World) (d m : Nat) (s : DS) (c : Nat) : Prop where
  kp : Keep noM w0 w
  hd : w0.heap.size ≤ d
  hm : w0.heap.size ≤ m
  disk : ∃ n, n ≤ c ∧ DiskAt w (PS w0 w d m) d m n s
  o0 : 0 ≤ s.ops
  o1 : s.ops ≤ c

theorem Play.keep {w0 w w' : World} {d m : Nat} {s : DS} {c : Nat} (h : Play w0 w d m s c) (q : Keep noM w w') : Play w0 w' d m s c :=
  let ⟨n, hn, hD⟩ := h.disk
  ⟨h.kp.trans q, h.hd, h.hm, ⟨n, hn, (hD.keep q (fun _ _ => not_noM _) (not_noM _) (not_noM _)).mono (fun b _ hb => ⟨hb.1, Nat.lt_of_lt_of_le hb.2.1 q.size, hb.2.2⟩) (fun h => h.2.2.1 rfl) (fun h => h.2.2.2 rfl)⟩, h.o0, h.o1⟩
theorem Play.more {w0 w : World} {d m : Nat} {s : DS} {c c' : Nat} (h : Play w0 w d m s c) (hc : c ≤ c') : Play w0 w d m s c' :=
  let ⟨n, hn, hD⟩ := h.disk
  ⟨h.kp, h.hd, h.hm, ⟨n, Nat.le_trans hn hc, hD⟩, h.o0, by have := h.o1; omega⟩
theorem Play.turn {w0 w w' : World} {d m c n : Nat} {s s' : DS} {S : Nat → Prop} (h : Play w0 w d m s c) (K : Keep (isB2 d m) w w') (hD : DiskAt w' S d m n s') (hS : ∀ b, S b → PS w0 w d m b ∨ w.heap.size ≤ b) (hn : n ≤ c + 1) (o0 : 0 ≤ s'.ops) (o1 : s'.ops ≤ s.ops + 1) : Play w0 w' d m s' (c + 1) := by
  obtain ⟨n0, hn0, hD0⟩ := h.disk
  have hdw := lt_of_obj hD0.disk
  have hmw : m < w.heap.size := by obtain ⟨Dm, ⟨es, clock, hb, _⟩, _⟩ := hD0.map; exact lt_of_obj hb
  have hw0 := h.kp.size
  have h1 := h.hd
  have h2 := h.hm
  refine ⟨h.kp.trans' K (fun i hi e => by unfold isB2 at e; omega), h1, h2, ⟨n, hn, hD.mono (fun b hb hs => ?_) (fun h => h.2.2.1 rfl) (fun h => h.2.2.2 rfl)⟩, o0, by have := h.o1; omega⟩
  have hsz := K.size
  rcases hS b hs with h | h
  · exact ⟨h.1, hb, h.2.2⟩
  · exact ⟨by omega, hb, by omega, by omega⟩
theorem PS.lt {w0 w : World} {d m : Nat} : ∀ b, PS w0 w d m b → b < w.heap.size := fun _ h => h.2.1

theorem DS.ops_putB (s : DS) (k b : Bs) : s.ops ≤ (s.putB k b).ops ∧ (s.putB k b).ops ≤ s.ops + 1 := by
  unfold DS.putB; split <;> simp [DS.burn] <;> omega
theorem DS.ops_write (s : DS) (k b : Bs) : s.ops ≤ (s.write k b).ops ∧ (s.write k b).ops ≤ s.ops + 1 := by
  unfold DS.write; split
  · omega
  · exact s.ops_putB k b
theorem DS.ops_append (s : DS) (k b : Bs) : s.ops ≤ (s.append k b).ops ∧ (s.append k b).ops ≤ s.ops + 1 := by
  unfold DS.append; split
  · omega
  · exact s.ops_putB k _
theorem DS.ops_doS (s : DS) (pre : Int) (F : Files) : s.ops ≤ (s.doS pre F).ops ∧ (s.doS pre F).ops ≤ s.ops + 1 := by
  unfold DS.doS; split <;> simp [DS.burn] <;> omega
theorem DS.ops_setFuse (s : DS) (q : Int) : (s.setFuse q).ops = s.ops := by unfold DS.setFuse; split <;> rfl

/-- a call's end over a disk in play. -/
def PPost (w0 w : World) (d m : Nat) (code : Int) (s' : DS) (c : Nat) (e : Ending) (w' : World) : Prop :=
  e = .returned (.int .i64 code) ∧ Keep (isB2 d m) w w' ∧ Play w0 w' d m s' c

theorem play_new (w0 w : World) (h : Keep noM w0 w) : Calls Try.prog 8 #[] w fun e w' => e = .returned (.pointer (some ⟨w.heap.size + 1, 0, none⟩)) ∧ Keep noM w w' ∧ Play w0 w' (w.heap.size + 1) w.heap.size DS.new 0 := by
  refine (New_any w).mono ?_
  rintro e w' ⟨rfl, K, hD, hs⟩
  refine ⟨rfl, K, h.trans K, by have := h.size; omega, h.size, ⟨0, Nat.le_refl _, hD.mono (fun _ _ h => h.elim) (fun h => h.2.2.1 rfl) (fun h => h.2.2.2 rfl)⟩, by simp [DS.new], by simp [DS.new]⟩
theorem play_write {w0 w : World} {d m c : Nat} {s : DS} (h : Play w0 w d m s c) (hc : c ≤ 1000) (k b : Bs) (hk : k.length ≤ maxLen) (a : Option Addr) (cap : Nat) (Sb : Nat → Prop) (hb : BytesAt w Sb a b) (hbl : b.length ≤ 140737488355328) :
    Calls Try.prog 9 #[.pointer (some ⟨d, 0, none⟩), .string ⟨k.toArray⟩, .slice a b.length cap] w (PPost w0 w d m (s.writeE k b) (s.write k b) (c + 1)) := by
  obtain ⟨n, hn, hD⟩ := h.disk
  have o0 := h.o0
  have o1 := h.o1
  refine (Write_any w _ d m n s hD o0 (by omega) (by omega) k b hk a cap Sb hb hbl).mono ?_
  rintro e w' ⟨rfl, K, D'⟩
  have := s.ops_write k b
  exact ⟨rfl, K, h.turn K D' (fun b h => h) (by omega) (by omega) this.2⟩
theorem play_append {w0 w : World} {d m c : Nat} {s : DS} (h : Play w0 w d m s c) (hc : c ≤ 1000) (k b : Bs) (hk : k.length ≤ maxLen) (a : Option Addr) (cap : Nat) (Sb : Nat → Prop) (hb : BytesAt w Sb a b) (hbl : b.length ≤ 70368744177664) :
    Calls Try.prog 15 #[.pointer (some ⟨d, 0, none⟩), .string ⟨k.toArray⟩, .slice a b.length cap] w (PPost w0 w d m (s.appendE k b) (s.append k b) (c + 1)) := by
  obtain ⟨n, hn, hD⟩ := h.disk
  have o0 := h.o0
  have o1 := h.o1
  refine (Append_any w _ d m n s hD o0 (by omega) (by omega) k b hk a cap Sb hb hbl).mono ?_
  rintro e w' ⟨rfl, K, D'⟩
  have := s.ops_append k b
  exact ⟨rfl, K, h.turn K D' (fun b h => h) (by omega) (by omega) this.2⟩
theorem play_sync {w0 w : World} {d m c : Nat} {s : DS} (h : Play w0 w d m s c) (hc : c ≤ 1000) (k : Bs) (hk : k.length ≤ maxLen) :
    Calls Try.prog 10 #[.pointer (some ⟨d, 0, none⟩), .string ⟨k.toArray⟩] w (PPost w0 w d m (s.doE (s.preE [k] k)) (s.doS (s.preE [k] k) (s.f.put k ((look s k).1, (look s k).1))) (c + 1)) := by
  obtain ⟨n, hn, hD⟩ := h.disk
  have o0 := h.o0
  have o1 := h.o1
  refine (Sync_any w _ PS.lt d m n s hD o0 (by omega) (by omega) k hk).mono ?_
  rintro e w' ⟨rfl, K, D'⟩
  have := s.ops_doS (s.preE [k] k) (s.f.put k ((look s k).1, (look s k).1))
  exact ⟨rfl, K, h.turn K D' (fun b h => .inl h) (by omega) (by omega) this.2⟩
theorem play_remove {w0 w : World} {d m c : Nat} {s : DS} (h : Play w0 w d m s c) (hc : c ≤ 1000) (k : Bs) (hk : k.length ≤ maxLen) :
    Calls Try.prog 27 #[.pointer (some ⟨d, 0, none⟩), .string ⟨k.toArray⟩] w (PPost w0 w d m (s.doE (s.preE [k] k)) (s.doS (s.preE [k] k) (s.f.del k)) (c + 1)) := by
  obtain ⟨n, hn, hD⟩ := h.disk
  have o0 := h.o0
  have o1 := h.o1
  refine (Remove_any w _ PS.lt d m n s hD o0 (by omega) (by omega) k hk).mono ?_
  rintro e w' ⟨rfl, K, D'⟩
  have := s.ops_doS (s.preE [k] k) (s.f.del k)
  exact ⟨rfl, K, h.turn K D' (fun b h => .inl h) (by omega) (by omega) this.2⟩
theorem play_rename {w0 w : World} {d m c : Nat} {s : DS} (h : Play w0 w d m s c) (hc : c ≤ 1000) (k to : Bs) (hk : k.length ≤ maxLen) (hto : to.length ≤ maxLen) :
    Calls Try.prog 26 #[.pointer (some ⟨d, 0, none⟩), .string ⟨k.toArray⟩, .string ⟨to.toArray⟩] w (PPost w0 w d m (s.doE (s.preE [k, to] k)) (s.doS (s.preE [k, to] k) (renamed s.f k to)) (c + 1)) := by
  obtain ⟨n, hn, hD⟩ := h.disk
  have o0 := h.o0
  have o1 := h.o1
  refine (Rename_any w _ PS.lt d m n s hD o0 (by omega) (by omega) k to hk hto).mono ?_
  rintro e w' ⟨rfl, K, D'⟩
  have := s.ops_doS (s.preE [k, to] k) (renamed s.f k to)
  exact ⟨rfl, K, h.turn K D' (fun b h => .inl h) (by omega) (by omega) this.2⟩
theorem play_fuse {w0 w : World} {d m c : Nat} {s : DS} (h : Play w0 w d m s c) (q : Int) (hq : q ≤ 9223372036854775807) :
    Calls Try.prog 28 #[.pointer (some ⟨d, 0, none⟩), .int .i64 q] w (PPost w0 w d m s.fuseE (s.setFuse q) (c + 1)) := by
  obtain ⟨n, hn, hD⟩ := h.disk
  refine (Fuse_any w _ d m n s hD q hq).mono ?_
  rintro e w' ⟨rfl, K, D'⟩
  have := s.ops_setFuse q
  have o0 := h.o0
  exact ⟨rfl, K, h.turn K D' (fun b h => .inl h) (by omega) (by omega) (by omega)⟩
theorem play_boot {w0 w : World} {d m c : Nat} {s : DS} (h : Play w0 w d m s c) (hc : c ≤ 1000) (keep : Int) (hk0 : -9223372036854775808 ≤ keep) (hk1 : keep ≤ 9223372036854775807) :
    Calls Try.prog 14 #[.pointer (some ⟨d, 0, none⟩), .int .i64 keep] w fun e w' => e = .returned (.tuple #[]) ∧ Keep (isB2 d m) w w' ∧ Play w0 w' d m (s.boot keep) (c + 1) := by
  obtain ⟨n, hn, hD⟩ := h.disk
  refine (Boot_any w _ PS.lt d m n s hD (by omega) keep hk0 hk1).mono ?_
  rintro e w' ⟨rfl, K, D'⟩
  have o0 := h.o0
  exact ⟨rfl, K, h.turn K D' (fun b h => .inl h) (by omega) (by simpa [DS.boot] using o0) (by simp [DS.boot]; omega)⟩
theorem play_read {w0 w : World} {d m c : Nat} {s : DS} (h : Play w0 w d m s c) (k : Bs) (hk : k.length ≤ maxLen) :
    Calls Try.prog 12 #[.pointer (some ⟨d, 0, none⟩), .string ⟨k.toArray⟩] w (ReadPost w s k) := by
  obtain ⟨n, hn, hD⟩ := h.disk
  exact Read_any w _ d m n s hD k hk
end Go.Proofs.Ytohbglopgjbfcaa
