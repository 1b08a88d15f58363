/-
  suretylaw17.DiskNil: the walk: true, at every input.
-/
import Derived.Test.YtfligjbgiigojaaNil
set_option linter.unusedVariables false
namespace Go.Proofs.Ytfligjbgiigojaa
open Go.RowKit Go.Maps Go.Sort Go.Shelf

theorem box5 (w : World) (v0 v1 v2 v3 v4 : Value) (t : TypeId) :
    (w.alloc (.cells #[v0, v1, v2, v3, v4] t)).cell? ⟨w.heap.size, 1, none⟩ = some v1 ∧ (w.alloc (.cells #[v0, v1, v2, v3, v4] t)).cell? ⟨w.heap.size, 2, none⟩ = some v2 ∧ (w.alloc (.cells #[v0, v1, v2, v3, v4] t)).cell? ⟨w.heap.size, 3, none⟩ = some v3 ∧ (w.alloc (.cells #[v0, v1, v2, v3, v4] t)).cell? ⟨w.heap.size, 4, none⟩ = some v4 := by
  refine ⟨?_, ?_, ?_, ?_⟩ <;> (rw [World.cell?_alloc_at _ _ _ _ rfl]; rfl)

set_option maxRecDepth 100000 in
set_option maxHeartbeats 2000000 in
theorem nil_any (w : World) (kd : Int) (nm to : ByteArray) (a : Option Addr) (n c : Nat) (q : Int) :
    Calls Try.prog 7 #[.agg #[.int .i64 kd, .string nm, .string to, .slice a n c, .int .i64 q]] w fun e w' => e = .returned (.bool true) ∧ Keep noM w w' := by
  obtain ⟨x1, x2, x3, x4⟩ := box5 w (.int .i64 kd) (.string nm) (.string to) (.slice a n c) (.int .i64 q) 43
  have K := mkHid (alloc_keep noM w (.cells #[.int .i64 kd, .string nm, .string to, .slice a n c, .int .i64 q] 43))
  go_enter Try.func7, Try.ntmps7
  go_wp2_with fail
  refine (read_nil _ nm).mono ?_
  rintro e w1 ⟨rfl, q1⟩
  have y1 := q1.cell (M := noM) (not_noM _) x1
  have y2 := q1.cell (M := noM) (not_noM _) x2
  have y3 := q1.cell (M := noM) (not_noM _) x3
  have y4 := q1.cell (M := noM) (not_noM _) x4
  have K2 := mkHid (K.out.trans q1)
  clear K q1 x1 x2 x3 x4
  have K := K2
  clear K2
  have x1 := y1
  have x2 := y2
  have x3 := y3
  have x4 := y4
  clear y1 y2 y3 y4
  go_wp2_with fail
  refine (boot_nil _ q).mono ?_
  rintro e w2 ⟨rfl, q1⟩
  have y1 := q1.cell (M := noM) (not_noM _) x1
  have y2 := q1.cell (M := noM) (not_noM _) x2
  have y3 := q1.cell (M := noM) (not_noM _) x3
  have y4 := q1.cell (M := noM) (not_noM _) x4
  have K2 := mkHid (K.out.trans q1)
  clear K q1 x1 x2 x3 x4
  have K := K2
  clear K2
  have x1 := y1
  have x2 := y2
  have x3 := y3
  have x4 := y4
  clear y1 y2 y3 y4
  go_wp2_with fail
  refine (write_nil _ nm a n c).mono ?_
  rintro e w3 ⟨rfl, q1⟩
  have y1 := q1.cell (M := noM) (not_noM _) x1
  have y2 := q1.cell (M := noM) (not_noM _) x2
  have y3 := q1.cell (M := noM) (not_noM _) x3
  have y4 := q1.cell (M := noM) (not_noM _) x4
  have K2 := mkHid (K.out.trans q1)
  clear K q1 x1 x2 x3 x4
  have K := K2
  clear K2
  have x1 := y1
  have x2 := y2
  have x3 := y3
  have x4 := y4
  clear y1 y2 y3 y4
  go_wp2_with fail
  refine (append_nil _ nm a n c).mono ?_
  rintro e w4 ⟨rfl, q1⟩
  have y1 := q1.cell (M := noM) (not_noM _) x1
  have y2 := q1.cell (M := noM) (not_noM _) x2
  have y3 := q1.cell (M := noM) (not_noM _) x3
  have y4 := q1.cell (M := noM) (not_noM _) x4
  have K2 := mkHid (K.out.trans q1)
  clear K q1 x1 x2 x3 x4
  have K := K2
  clear K2
  have x1 := y1
  have x2 := y2
  have x3 := y3
  have x4 := y4
  clear y1 y2 y3 y4
  go_wp2_with fail
  refine (sync_nil _ nm).mono ?_
  rintro e w5 ⟨rfl, q1⟩
  have y1 := q1.cell (M := noM) (not_noM _) x1
  have y2 := q1.cell (M := noM) (not_noM _) x2
  have y3 := q1.cell (M := noM) (not_noM _) x3
  have y4 := q1.cell (M := noM) (not_noM _) x4
  have K2 := mkHid (K.out.trans q1)
  clear K q1 x1 x2 x3 x4
  have K := K2
  clear K2
  have x1 := y1
  have x2 := y2
  have x3 := y3
  have x4 := y4
  clear y1 y2 y3 y4
  go_wp2_with fail
  refine (rename_nil _ nm to).mono ?_
  rintro e w6 ⟨rfl, q1⟩
  have y1 := q1.cell (M := noM) (not_noM _) x1
  have y2 := q1.cell (M := noM) (not_noM _) x2
  have y3 := q1.cell (M := noM) (not_noM _) x3
  have y4 := q1.cell (M := noM) (not_noM _) x4
  have K2 := mkHid (K.out.trans q1)
  clear K q1 x1 x2 x3 x4
  have K := K2
  clear K2
  have x1 := y1
  have x2 := y2
  have x3 := y3
  have x4 := y4
  clear y1 y2 y3 y4
  go_wp2_with fail
  refine (remove_nil _ nm).mono ?_
  rintro e w7 ⟨rfl, q1⟩
  have y1 := q1.cell (M := noM) (not_noM _) x1
  have y2 := q1.cell (M := noM) (not_noM _) x2
  have y3 := q1.cell (M := noM) (not_noM _) x3
  have y4 := q1.cell (M := noM) (not_noM _) x4
  have K2 := mkHid (K.out.trans q1)
  clear K q1 x1 x2 x3 x4
  have K := K2
  clear K2
  have x1 := y1
  have x2 := y2
  have x3 := y3
  have x4 := y4
  clear y1 y2 y3 y4
  go_wp2_with fail
  refine (fuse_nil _ q).mono ?_
  rintro e w8 ⟨rfl, q1⟩
  have y1 := q1.cell (M := noM) (not_noM _) x1
  have y2 := q1.cell (M := noM) (not_noM _) x2
  have y3 := q1.cell (M := noM) (not_noM _) x3
  have y4 := q1.cell (M := noM) (not_noM _) x4
  have K2 := mkHid (K.out.trans q1)
  clear K q1 x1 x2 x3 x4
  have K := K2
  clear K2
  have x1 := y1
  have x2 := y2
  have x3 := y3
  have x4 := y4
  clear y1 y2 y3 y4
  go_wp2_with fail
  refine (namesOf_nil _).mono ?_
  rintro e w9 ⟨rfl, q1⟩
  have y1 := q1.cell (M := noM) (not_noM _) x1
  have y2 := q1.cell (M := noM) (not_noM _) x2
  have y3 := q1.cell (M := noM) (not_noM _) x3
  have y4 := q1.cell (M := noM) (not_noM _) x4
  have K2 := mkHid (K.out.trans q1)
  clear K q1 x1 x2 x3 x4
  have K := K2
  clear K2
  have x1 := y1
  have x2 := y2
  have x3 := y3
  have x4 := y4
  clear y1 y2 y3 y4
  go_wp2_with fail
  refine (dead_nil _).mono ?_
  rintro e w10 ⟨rfl, q1⟩
  have y1 := q1.cell (M := noM) (not_noM _) x1
  have y2 := q1.cell (M := noM) (not_noM _) x2
  have y3 := q1.cell (M := noM) (not_noM _) x3
  have y4 := q1.cell (M := noM) (not_noM _) x4
  have K2 := mkHid (K.out.trans q1)
  clear K q1 x1 x2 x3 x4
  have K := K2
  clear K2
  have x1 := y1
  have x2 := y2
  have x3 := y3
  have x4 := y4
  clear y1 y2 y3 y4
  go_wp2_with fail
  refine (ops_nil _).mono ?_
  rintro e w11 ⟨rfl, q1⟩
  have y1 := q1.cell (M := noM) (not_noM _) x1
  have y2 := q1.cell (M := noM) (not_noM _) x2
  have y3 := q1.cell (M := noM) (not_noM _) x3
  have y4 := q1.cell (M := noM) (not_noM _) x4
  have K2 := mkHid (K.out.trans q1)
  clear K q1 x1 x2 x3 x4
  have K := K2
  clear K2
  have x1 := y1
  have x2 := y2
  have x3 := y3
  have x4 := y4
  clear y1 y2 y3 y4
  go_wp2_with fail
  refine (copy_nil _).mono ?_
  rintro e w12 ⟨rfl, q1⟩
  have y1 := q1.cell (M := noM) (not_noM _) x1
  have y2 := q1.cell (M := noM) (not_noM _) x2
  have y3 := q1.cell (M := noM) (not_noM _) x3
  have y4 := q1.cell (M := noM) (not_noM _) x4
  have K2 := mkHid (K.out.trans q1)
  clear K q1 x1 x2 x3 x4
  have K := K2
  clear K2
  have x1 := y1
  have x2 := y2
  have x3 := y3
  have x4 := y4
  clear y1 y2 y3 y4
  go_wp2_with fail
  refine (awake17_any _).mono ?_
  rintro e w13 ⟨rfl, q1⟩
  have K2 := mkHid (K.out.trans q1)
  clear K q1 x1 x2 x3 x4
  go_wp2
  go_ret
  exact ⟨rfl, K2.out⟩
end Go.Proofs.Ytfligjbgiigojaa
