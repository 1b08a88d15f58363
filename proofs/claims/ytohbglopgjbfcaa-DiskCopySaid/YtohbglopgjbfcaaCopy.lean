/-
  A COPY OF A DISK; the reference's copy: a row of its own.
-/
import Derived.Test.YtohbglopgjbfcaaSame17
import Derived.Test.YtohbglopgjbfcaaSafeWalk
import Derived.Test.YtohbglopgjbfcaaPlaysWalk
import Derived.Deep.AppendLies
set_option linter.unusedVariables false
set_option linter.unusedSimpArgs false
namespace Go.Proofs.Ytohbglopgjbfcaa
open Go.RowKit Go.Maps

/-- what Copy hands back: a disk of its own, the same bytes. -/
def CopyPost (w : World) (S : Nat → Prop) (n : Nat) (s : DS) (e : Ending) (w' : World) : Prop :=
  e = .returned (.pointer (some ⟨w.heap.size, 0, none⟩)) ∧ Keep noM w w' ∧ DiskAt w' S w.heap.size (w.heap.size + 1) n s ∧ w'.heap.size = w.heap.size + 2

set_option maxRecDepth 100000 in
set_option maxHeartbeats 1000000 in
theorem Copy_any (w : World) (S : Nat → Prop) (hS : ∀ b, S b → b < w.heap.size) (d m n : Nat) (s : DS) (h : DiskAt w S d m n s) :
    Calls Try.prog 17 #[.pointer (some ⟨d, 0, none⟩)] w (CopyPost w S n s) := by
  obtain ⟨c0, c1, c2, c3, f0, f1, f2, f3, hlt⟩ := h.cells
  obtain ⟨Dm, ⟨es, clock, hb, F, hsz, hD⟩, hF⟩ := h.map
  have HH := mkHid (And.intro h (And.intro hS (And.intro hb (And.intro F (And.intro hsz (And.intro hD hF))))))
  clear h hS hb F hsz hD hF
  go_enter Try.func17, Try.ntmps17
  go_wp2_with fail
  have k1 := alloc_keep noM w (.cells #[.map (some m), .int .i64 s.fuse, .bool s.dead, .int .i64 s.ops] 47)
  refine (mclone_any m es clock _ (k1.obj (not_noM _) HH.out.2.2.1)).mono ?_
  rintro e w2 ⟨rfl, rfl⟩
  clear k1
  go_wp2
  go_ret
  obtain ⟨h, hS, hb, F, hsz, hD, hF⟩ := HH.out
  have k1 := alloc_keep noM w (.cells #[.map (some (w.heap.size + 1)), .int .i64 s.fuse, .bool s.dead, .int .i64 s.ops] 47)
  have k2 := k1.alloc (.map es clock)
  refine ⟨rfl, k2, ?_, by simp⟩
  refine ⟨?_, ⟨Dm, ⟨es, clock, ?_, F, hsz, hD⟩, hF.keep k2 (fun _ _ => not_noM _)⟩, fun e => by have := hS _ e; omega, fun e => by have := hS _ e; omega, h.fuse0, h.fuse1⟩
  · exact (alloc_keep noM _ (.map es clock)).obj (not_noM _) (heap_alloc_new w _)
  · have := heap_alloc_new (w.alloc (.cells #[.map (some (w.heap.size + 1)), .int .i64 s.fuse, .bool s.dead, .int .i64 s.ops] 47)) (.map es clock)
    rw [size_alloc'] at this; exact this

/-- append onto a row of one's own, of a row that may be nil. -/
theorem run_append_row {w : World} (t ty e : TypeId) (base : Nat) (i : TypeInfo) (z : Value) (size bytes : Nat) (ht : Try.prog.underlying t = some (.slice e)) (hi : Try.prog.info? e = some i) (hz : i.zero = some z)
    (hsize : i.size = size) (hby : i.bytes = bytes) (hzs : z.cells.size = size) (hsz : 0 < size) (v : Value) (n : Nat) (xs : List Value) (hown : w.ownsRow base e size v n xs)
    (S : Nat → Prop) (A : Option Addr) (k c : Nat) (news : List Value) (hr : RowAt w S A news) (hl : news.length = k * size) (h1 : ∀ u ∈ news, u.oneCell' = true) (h63 : n + k ≤ maxLen) (hbytes : (n + k) * bytes ≤ 140737488355328) (hbase : base ≤ w.heap.size) :
    ∃ v' w', (Builtin.append_ #[t, t] ty #[v, .slice A k c]).run Try.prog w = .ok v' w' ∧ w'.ownsRow base e size v' (n + k) (xs ++ news) ∧ w.grownBy w' v.ownBlock := by
  cases A with
  | none =>
    have hn : news = [] := by
      rcases hr with h | ⟨b, o, e, _⟩
      · exact h
      · cases e
    subst hn
    have hk : k = 0 := by
      rw [List.length_nil] at hl
      rcases Nat.mul_eq_zero.1 hl.symm with h | h
      · exact h
      · omega
    subst hk
    exact ⟨v, w, run_append_none0 t ty e i size ht hi _ _ _ hown c, by simpa using hown, World.grownBy.refl w _⟩
  | some ad =>
    obtain ⟨v', w', hrun, h2, h3, _⟩ := run_append_own (P := Try.prog) w base t ty e i z size bytes ht hi hz hsize hby hzs hsz v n xs hown ad k c news hl (row_cells hr) h1 h63 hbytes hbase
    exact ⟨v', w', hrun, h2, h3⟩
theorem step_append_row {w : World} {ops : Array Oper} {o : Oper} {a : Act} {K : Act → World → Prop} {Q : Exit → Act → World → Prop} {E : Prop} (hgd : o.guard = none) (s x : Operand) (t : TypeId)
    (ho : o.op = .call { callee := .builtin .append, args := #[s, x], argTypes := #[t, t] })
    (base : Nat) (e : TypeId) (i : TypeInfo) (z : Value) (size bytes : Nat) (ht : Try.prog.underlying t = some (.slice e)) (hi : Try.prog.info? e = some i) (hz : i.zero = some z)
    (hsize : i.size = size) (hby : i.bytes = bytes) (hzs : z.cells.size = size) (hsz : 0 < size)
    (v : Value) (n : Nat) (xs : List Value) (hs : a.eval s = v) (hown : w.ownsRow base e size v n xs)
    (S : Nat → Prop) (A : Option Addr) (k c : Nat) (news : List Value) (hx : a.eval x = .slice A k c) (hr : RowAt w S A news) (hl : news.length = k * size) (h1 : ∀ u ∈ news, u.oneCell' = true)
    (h63 : n + k ≤ maxLen) (hbytes : (n + k) * bytes ≤ 140737488355328) (hbase : base ≤ w.heap.size)
    (h : ∀ v' w', w'.ownsRow base e size v' (n + k) (xs ++ news) → w.grownBy w' v.ownBlock → K (a.put o.dst v') w') :
    if Region.wanted o (yielded ops a.tmps) = true then Oper.wp Try.prog o a w K Q else E := by
  have hw : Region.wanted o (yielded ops a.tmps) = true := by simp [Region.wanted, hgd]
  rw [if_pos hw]
  obtain ⟨v', w', hrun, h2, h3⟩ := run_append_row t o.type e base i z size bytes ht hi hz hsize hby hzs hsz v n xs hown S A k c news hr hl h1 h63 hbytes hbase
  unfold Oper.wp execOp
  simp only [ho, resolve, invoke, builtin, Sem.run_bind, Sem.run_pure, Result.andThen_ok, List.map_toArray, List.map_cons, List.map_nil, hs, hx, hrun]
  exact h v' w' h2 h3
theorem rowcells_one (R : Row) : ∀ u ∈ Row.cells R, u.oneCell' = true := by
  intro u hu
  simp only [Row.cells, List.mem_flatten, List.mem_map] at hu
  obtain ⟨l, ⟨p, hp, rfl⟩, hu⟩ := hu
  simp [fileC] at hu
  rcases hu with rfl | rfl | rfl <;> rfl
end Go.Proofs.Ytohbglopgjbfcaa
