/-
  suretylaw17.choose; the joint state goes on.
-/
import Derived.Test.YtohbglopgjbfcaaJoint
set_option linter.unusedVariables false
set_option linter.unusedSimpArgs false
namespace Go.Proofs.Ytohbglopgjbfcaa
open Go.RowKit

set_option maxHeartbeats 400000 in
theorem choose_any (k : Int) (w : World) (k0 : -9223372036854775808 ≤ k) (k1 : k ≤ 9223372036854775807) : Calls Try.prog 24 #[.int .i64 k] w fun e w' => e = .returned (.int .i64 (pick k 9)) ∧ w = w' := by
  go_enter Try.func24, Try.ntmps24
  go_wp2_with fail
  refine (Pick_any k 9 _ k0 k1 (by omega) (by omega)).mono ?_
  rintro e w' ⟨rfl, rfl⟩
  go_wp2
  go_ret
  exact ⟨rfl, rfl⟩

theorem abox5 (w : World) (v0 v1 v2 v3 v4 : Value) (t : TypeId) :
    (w.alloc (.cells #[v0, v1, v2, v3, v4] t)).cell? ⟨w.heap.size, 0, none⟩ = some v0 ∧ (w.alloc (.cells #[v0, v1, v2, v3, v4] t)).cell? ⟨w.heap.size, 1, none⟩ = some v1 ∧ (w.alloc (.cells #[v0, v1, v2, v3, v4] t)).cell? ⟨w.heap.size, 2, none⟩ = some v2 ∧ (w.alloc (.cells #[v0, v1, v2, v3, v4] t)).cell? ⟨w.heap.size, 3, none⟩ = some v3 ∧ (w.alloc (.cells #[v0, v1, v2, v3, v4] t)).cell? ⟨w.heap.size, 4, none⟩ = some v4 := by
  refine ⟨?_, ?_, ?_, ?_, ?_⟩ <;> (rw [World.cell?_alloc_at _ _ _ _ rfl]; rfl)

theorem Joint.keep {w0 w w' : World} {d m bx : Nat} {s : DS} {x : RS} {c : Nat} (h : Joint w0 w d m bx s x c) (q : Keep noM w w') : Joint w0 w' d m bx s x c := by
  obtain ⟨n, Sd, Sx, T, hn, hD, hX, hSd, hSx, hT, hA⟩ := h.st
  have hsz := q.size
  exact ⟨h.kp.trans q, h.hd, h.hm, h.hx, h.nd, h.nm, ⟨n, Sd, Sx, T, hn, hD.keep q (fun _ _ => not_noM _) (not_noM _) (not_noM _), hX.keep q (fun _ _ => not_noM _), fun b hb => ⟨by have := (hSd b hb).1; omega, (hSd b hb).2⟩, fun b hb => ⟨by have := (hSx b hb).1; omega, (hSx b hb).2⟩, hT, hA⟩, h.o0, h.o1, h.p0, h.p1, h.len⟩

theorem joint_remove {w0 w : World} {d m bx c : Nat} {s : DS} {x : RS} (h : Joint w0 w d m bx s x c) (hc : c ≤ 900) (k : Bs) (hk : k.length ≤ maxLen) :
    Calls Try.prog 27 #[.pointer (some ⟨d, 0, none⟩), .string ⟨k.toArray⟩] w fun e w' => e = .returned (.int .i64 (s.doE (s.preE [k] k))) ∧ Keep (isB2 d m) w w' ∧ Joint w0 w' d m bx (s.doS (s.preE [k] k) (s.f.del k)) x (c + 1) := by
  obtain ⟨n, Sd, Sx, T, hn, hD, hX, hSd, hSx, hT, hA⟩ := h.st
  have o0 := h.o0
  have o1 := h.o1
  refine (Remove_any w Sd (fun b hb => (hSd b hb).1) d m n s hD o0 (by omega) (by omega) k hk).mono ?_
  rintro e w' ⟨rfl, K, D'⟩
  have := s.ops_doS (s.preE [k] k) (s.f.del k)
  exact ⟨rfl, K, h.diskTurn hX hSd hSx hT hA hD.lt K D' (fun b h => .inl h) (by omega) (by omega) this.2⟩

theorem RS.ops_doS (x : RS) (pre : Int) (L : List RF) : x.ops ≤ (x.doS pre L).ops ∧ (x.doS pre L).ops ≤ x.ops + 1 := by
  unfold RS.doS; split <;> simp [RS.burn] <;> omega
theorem RS.len_doS (x : RS) (pre : Int) (L : List RF) (hL : L.length ≤ x.L.length + 1) : (x.doS pre L).L.length ≤ x.L.length + 1 := by
  unfold RS.doS; split
  · omega
  · simp only; split
    · omega
    · exact hL
theorem joint_rdo4 {w0 w : World} {d m bx c : Nat} {s : DS} {x : RS} (h : Joint w0 w d m bx s x c) (hc : c ≤ 900) (k : Bs) (hk : k.length ≤ maxLen) :
    Calls Try.prog 25 #[.pointer (some ⟨bx, 0, none⟩), .int .i64 4, .string ⟨k.toArray⟩, .string ⟨#[]⟩, .slice none 0 0] w fun e w' => e = .returned (.int .i64 (x.doE (x.pre 4 k []))) ∧ Keep (isB bx) w w' ∧ Joint w0 w' d m bx s (x.doS (x.pre 4 k []) (dropL x.L k)) (c + 1) := by
  obtain ⟨n, Sd, Sx, T, hn, hD, hX, hSd, hSx, hT, hA⟩ := h.st
  have o0 := h.p0
  have o1 := h.p1
  have hl := h.len
  refine (rdo4_any w Sx T (fun b hb => (hSx b hb).1) bx x hX (by omega) o0 (by omega) k hk).mono ?_
  rintro e w' ⟨rfl, K, S', T', hS', hS2, hT', X'⟩
  have h1 := x.ops_doS (x.pre 4 k []) (dropL x.L k)
  have h2 := x.len_doS (x.pre 4 k []) (dropL x.L k) (by have := List.length_filter_le (fun r : RF => !(r.name == k)) x.L; unfold dropL; omega)
  exact ⟨rfl, K, h.refTurn hn hD hX hSd hSx hT K (fun b e => .inl e) hS' hS2 hT' X' (by omega) h1.2 h2⟩

end Go.Proofs.Ytohbglopgjbfcaa
