/-
  slices.Concat of bytes: new memory, the bytes one behind the other.
-/
import Derived.Test.YtohbglopgjbfcaaBytes
import Derived.Lib.AppendZeros
import Derived.Laws.AppendOwnNone
namespace Go.Proofs.Ytohbglopgjbfcaa
open Go.RowKit

/-- what an owned slice becomes when nothing is put behind it. -/
theorem run_append_none0 {w : World} {base : Nat} (t ty e : TypeId) (i : TypeInfo) (size : Nat) (ht : Try.prog.underlying t = some (.slice e)) (hi : Try.prog.info? e = some i)
    (v : Value) (n : Nat) (xs : List Value) (hown : w.ownsRow base e size v n xs) (c : Nat) :
    (Builtin.append_ #[t, t] ty #[v, .slice none 0 c]).run Try.prog w = .ok v w := by
  rcases hown.2 with ⟨rfl, rfl⟩ | ⟨g, cap, cur, rfl, _, _, hnc, _⟩
  · simp [Builtin.append_, run_underlying ht, sizeOf, typeInfo, hi, Builtin.lenOf, Builtin.firstCells]
  · simp [Builtin.append_, run_underlying ht, sizeOf, typeInfo, hi, Builtin.lenOf, Builtin.firstCells, hnc, storeCells]

set_option maxRecDepth 100000 in
set_option maxHeartbeats 400000 in
/-- slices.Grow(nil, n): an empty slice of the call's own. -/
theorem growB_any (n : Nat) (hn : n ≤ 140737488355328) (w : World) :
    Calls Try.prog 58 #[.slice none 0 0, .int .i64 n] w fun e w' => ∃ v, e = .returned v ∧ Keep noM w w' ∧ w'.ownsRow w.heap.size 5 1 v 0 [] := by
  by_cases h0 : n = 0
  · subst h0
    clear hn
    go_enter Try.func58, Try.ntmps58
    go_wp2
    go_ret
    exact ⟨_, rfl, Keep.refl _ _, World.ownsRow_nil _ _ _ _⟩
  · obtain ⟨i0, hi, hz0, hz1, hz2⟩ := info_parts Try.infoU8
    have hz1' : 0 < i0.size := by omega
    have hpos : 0 < n := by omega
    have hr := Lib.run_append_nil_zeros (P := Try.prog) w 23 3 23 5 i0 (.int .u8 0) .i64 .i64 Try.underlying23 Try.underlying3 hi hz0 n hpos hz1' (by omega) (by rw [hz2]; omega)
    have hge := grownCap_ge w n 0 5
    have hle := grownCap_le_maxLen w n 0 5 (by unfold maxLen; omega)
    obtain ⟨C, hC⟩ : ∃ C, C = grownCap w n 0 5 := ⟨_, rfl⟩
    rw [← hC] at hr hge hle
    obtain ⟨cur, hcur⟩ : ∃ cur, cur = Builtin.zeroCells (Value.int .u8 0).cells n ++ Builtin.zeroCells (Value.int .u8 0).cells (C - n) := ⟨_, rfl⟩
    rw [← hcur] at hr
    have hcs : cur.size = C * 1 := by rw [hcur]; simp [size_zeroCells, Value.cells]; omega
    have hp1 : (0 : Int) < (n : Int) := by omega
    have HN := mkHid (And.intro hn (And.intro hle (And.intro hcs (And.intro hC (And.intro hcur hz2)))))
    clear hle hcs hC hcur hz2
    go_enter Try.func58, Try.ntmps58
    go_wp2_with (at_builtin; refine Lib.wpList_append_run _ rfl _ _ _ _ rfl _ _ rfl rfl _ _ hr ?_)
    go_wp2
    go_ret
    obtain ⟨_, hle, hcs, hC, hcur, hz2⟩ := HN.out
    refine ⟨_, rfl, ((Keep.refl _ w).drew).alloc _, ?_⟩
    exact World.ownsRow_made w.drew cur C (Nat.le_refl _) hle hcs

/-- what is laid one behind the other: an address, a capacity, the bytes. -/
abbrev Piece := Option Addr × Nat × Bs
def pcells (l : List Piece) : List Value := l.map fun x => .slice x.1 x.2.2.length x.2.1
def pbytes (l : List Piece) : Bs := (l.map (·.2.2)).flatten
@[simp] theorem length_pcells (l : List Piece) : (pcells l).length = l.length := by simp [pcells]
theorem getElem_pcells (l : List Piece) (i : Nat) (h : i < (pcells l).length) : (pcells l)[i] = .slice (l[i]'(by simpa using h)).1 (l[i]'(by simpa using h)).2.2.length (l[i]'(by simpa using h)).2.1 := by simp [pcells]
theorem RowAt.piece {w : World} {S : Nat → Prop} {a : Option Addr} {xs : List Piece} (h : RowAt w S a (pcells xs)) {k : Nat} (hk : k < xs.length) :
    ∃ b off, a = some ⟨b, off, none⟩ ∧ w.cell? ⟨b, off + k, none⟩ = some (.slice xs[k].1 xs[k].2.2.length xs[k].2.1) := by
  obtain ⟨b, off, rfl, _, h⟩ := h.at (k := k) (by simpa using hk)
  exact ⟨b, off, rfl, by rw [h, getElem_pcells]⟩
theorem pbytes_take (l : List Piece) (k : Nat) (hk : k < l.length) : pbytes (l.take (k + 1)) = pbytes (l.take k) ++ l[k].2.2 := by
  unfold pbytes
  rw [List.take_succ_eq_append_getElem hk, List.map_append, List.flatten_append]; simp
theorem pbytes_take_le (l : List Piece) (k : Nat) : (pbytes (l.take k)).length ≤ (pbytes l).length := by
  have : pbytes l = pbytes (l.take k) ++ pbytes (l.drop k) := by unfold pbytes; rw [← List.flatten_append, ← List.map_append, List.take_append_drop]
  rw [this]; simp

set_option maxRecDepth 100000 in
set_option maxHeartbeats 1000000 in
theorem concatB_any (a : Option Addr) (l : List Piece) (c : Nat) (S Sp : Nat → Prop) (w : World) (h : RowAt w S a (pcells l)) (hp : ∀ x ∈ l, BytesAt w Sp x.1 x.2.2) (hl : l.length ≤ maxLen) (hn : (pbytes l).length ≤ 140737488355328) :
    Calls Try.prog 34 #[.slice a l.length c] w (NewBytes w (pbytes l)) := by
  have HP := mkHid hp
  have HR := mkHid h
  unfold maxLen at hl
  clear hp
  go_enter Try.func34, Try.ntmps34
  go_wp2
  go_loop [3, 11] (fun sz i => ∃ k : Nat, k ≤ l.length ∧ i = .int .i64 k ∧ sz = .int .i64 (pbytes (l.take k)).length) (fun _ i => l.length - (intOf i).toNat)
  case atStart => exact ⟨0, by omega, rfl, by simp [pbytes]⟩
  case round =>
    obtain ⟨k, hk, rfl, rfl⟩ := hrel
    have hle := pbytes_take_le l k
    by_cases hlt : k < l.length
    · have hsn := pbytes_take l k hlt
      have hle2 := pbytes_take_le l (k + 1)
      obtain ⟨b1, o1, rfl, h1⟩ := h.piece hlt
      have hsum : (pbytes (l.take (k + 1))).length = (pbytes (l.take k)).length + l[k].2.2.length := by rw [hsn]; simp
      have hb : (pbytes (l.take k)).length + l[k].2.2.length ≤ 140737488355328 := by omega
      have HS := mkHid hsum
      clear hsn hsum hle2 h
      go_wp2
      go_round
      case rel => exact ⟨k + 1, by omega, by go_num, by rw [HS.out]; go_num⟩
      case measure => simp [intOf]; omega
    · have e : k = l.length := by omega
      have hall : l.take k = l := List.take_of_length_le (by omega)
      rw [hall]
      clear hall hle e
      go_wp2_with fail
      refine (growB_any (pbytes l).length hn _).mono ?_
      rintro e w1 ⟨v, rfl, q1, own1⟩
      have Q := mkHid (And.intro q1 own1)
      clear q1 own1
      go_wp2_with fail
      obtain ⟨i0, hi, hz0, hz1, hz2⟩ := info_parts Try.infoU8
      obtain ⟨wo, hwo⟩ : ∃ wo : World, wo = w1 := ⟨_, rfl⟩
      go_loopw [6, 27] (fun v i wr => ∃ j : Nat, j ≤ l.length ∧ i = .int .i64 j ∧ Keep noM w wr ∧ wr.ownsRow w.heap.size 5 1 v (pbytes (l.take j)).length (bcells (pbytes (l.take j)))) (fun _ i _ => l.length - (intOf i).toNat)
      case atStart => exact ⟨0, by omega, rfl, Q.out.1, by simpa [pbytes, bcells] using Q.out.2⟩
      case round =>
        obtain ⟨j, hj, rfl, kp, own⟩ := hrel
        clear hwo Q wo hlt hk
        have hle := pbytes_take_le l j
        by_cases hlt : j < l.length
        · have hsn := pbytes_take l j hlt
          have hle2 := pbytes_take_le l (j + 1)
          obtain ⟨b1, o1, rfl, h1⟩ := (HR.out.keep kp (fun _ _ => not_noM _)).piece hlt
          have hrow := (HP.out l[j] (List.getElem_mem hlt)).keep kp (fun _ _ => not_noM _)
          have hsum : (pbytes (l.take (j + 1))).length = (pbytes (l.take j)).length + l[j].2.2.length := by rw [hsn]; simp
          have hb : (pbytes (l.take j)).length + l[j].2.2.length ≤ 140737488355328 := by omega
          have HS := mkHid (And.intro hsn (And.intro hsum (And.intro kp own)))
          have hbase : w.heap.size ≤ wr.heap.size := kp.size
          clear hsn hsum hle2 kp hle
          obtain ⟨⟨pa, pc, pb⟩, hpe⟩ : ∃ x : Piece, x = l[j] := ⟨_, rfl⟩
          rw [← hpe] at h1 hrow hb
          have HE := mkHid hpe
          clear hpe
          simp only at h1 hrow hb
          cases pa with
          | none =>
            have hpb : pb = [] := by
              rcases hrow with h | ⟨b, o, e, _⟩
              · simpa [bcells] using h
              · cases e
            subst hpb
            have hr := run_append_none0 23 23 5 i0 1 Try.underlying23 hi _ _ _ own pc
            go_wp2_with (at_builtin; refine Lib.wpList_append_run _ rfl _ _ _ _ rfl _ _ rfl rfl _ _ hr ?_)
            go_roundw
            case rel =>
              refine ⟨j + 1, by omega, by go_num, HS.out.2.2.1, ?_⟩
              rw [HS.out.1, ← HE.out]; simpa using HS.out.2.2.2
            case measure => simp [intOf]; omega
          | some ad =>
            have hc := row_cells hrow
            go_wp2_with (at_builtin; refine wpList_append_own _ rfl _ _ 23 rfl w.heap.size 5 i0 (.int .u8 0) 1 1 Try.underlying23 hi hz0 hz1 hz2 rfl (by decide) _ _ _ rfl own ad pb.length pc (bcells pb) rfl (by simp) hc (bcells_oneCell _) (by unfold maxLen; omega) (by omega) hbase ?_; intro v' w2 own2 hg2 hn2)
            have K2 := HS.out.2.2.1.grown hg2 (fun k e => .inr (own.lt k e).1)
            have HS2 := mkHid (And.intro K2 own2)
            clear K2 own2 hg2 hn2 own hrow hc
            go_wp2
            go_roundw
            case rel =>
              refine ⟨j + 1, by omega, by go_num, HS2.out.1, ?_⟩
              rw [HS.out.1, ← HE.out, bcells_append]; simpa using HS2.out.2
            case measure => simp [intOf]; omega
        · have hall : l.take j = l := List.take_of_length_le (by omega)
          rw [hall] at own
          have HS := mkHid (And.intro kp own)
          clear kp own hall hle
          go_wp2
          go_ret
          obtain ⟨a', c', rfl, h1, h2, h3⟩ := owned_shape HS.out.2
          exact ⟨a', c', rfl, HS.out.1, h1, h2, h3⟩
end Go.Proofs.Ytohbglopgjbfcaa
