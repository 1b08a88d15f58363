/-
  BYTES: slices.Clone and slices.Concat of bytes are new memory with the same bytes.
-/
import Derived.Test.YtohbglopgjbfcaaWord
import Derived.ArgAppend
import Derived.Laws.BytesArg
import Derived.IntWalk
namespace Go.Proofs.Ytohbglopgjbfcaa
open Go.RowKit

theorem Try.infoU8 : (Try.prog.info? 5).map (fun i => (i.zero, i.size, i.bytes)) = some (some (.int .u8 0), 1, 1) := by kernel_rfl

/-- what an owned slice's value is. -/
theorem owned_shape {w : World} {base : Nat} {e : TypeId} {size : Nat} {v : Value} {n : Nat} {xs : List Value} (h : w.ownsRow base e size v n xs) :
    ∃ a c, v = .slice a n c ∧ n ≤ c ∧ c ≤ maxLen ∧ RowAt w (fun b => base ≤ b) a xs := by
  have h' := h
  obtain ⟨hl, h⟩ := h
  rcases h with ⟨rfl, rfl⟩ | ⟨g, cap, cur, rfl, hb, hg, hnc, hcm, hcs, ht⟩
  · exact ⟨none, 0, rfl, Nat.le_refl _, by simp, rowAt_owned h'⟩
  · exact ⟨_, cap, rfl, hnc, hcm, rowAt_owned h'⟩

/-- a new slice of these bytes is handed back, and nothing that was there is turned. -/
def NewBytes (w : World) (bs : Bs) (e : Ending) (w' : World) : Prop :=
  ∃ a c, e = .returned (.slice a bs.length c) ∧ Keep noM w w' ∧ bs.length ≤ c ∧ c ≤ maxLen ∧ BytesAt w' (fun b => w.heap.size ≤ b) a bs

theorem cells_add {w : World} {S : Nat → Prop} {b off : Nat} {cs : List Value} (h : RowAt w S (some ⟨b, off, none⟩) cs) : ∀ j u, cs[j]? = some u → w.cell? ((⟨b, off, none⟩ : Addr).add j) = some u := by
  intro j u hu
  have hj : j < cs.length := (List.getElem?_eq_some_iff.1 hu).1
  have hadd : (⟨b, off, none⟩ : Addr).add j = ⟨b, off + j, none⟩ := by unfold Addr.add; split <;> simp_all
  obtain ⟨b', o', e, _, h2⟩ := h.at hj
  simp at e; obtain ⟨rfl, rfl⟩ := e
  rw [hadd, h2]; rw [List.getElem?_eq_getElem hj] at hu; exact hu
theorem row_cells {w : World} {S : Nat → Prop} {ad : Addr} {cs : List Value} (h : RowAt w S (some ad) cs) : ∀ j u, cs[j]? = some u → w.cell? (ad.add j) = some u := by
  intro j u hu
  have hj : j < cs.length := (List.getElem?_eq_some_iff.1 hu).1
  obtain ⟨b', o', e, _, _⟩ := h.at hj
  cases e
  exact cells_add h j u hu

set_option maxHeartbeats 400000 in
theorem cloneB_any (a : Option Addr) (bs : Bs) (c : Nat) (S : Nat → Prop) (w : World) (h : BytesAt w S a bs) (hl : bs.length ≤ 140737488355328) :
    Calls Try.prog 20 #[.slice a bs.length c] w (NewBytes w bs) := by
  cases a with
  | none =>
    have hb : bs = [] := by
      rcases h with h | ⟨b, o, e, _⟩
      · simpa [bcells] using h
      · cases e
    subst hb
    clear hl h
    have hnil : ∀ W : World, (binOp .eql 23 (.slice none 0 c) (.slice none 0 0)).run Try.prog W = .ok (.bool true) W := fun W => by kernel_rfl
    simp only [List.length_nil]
    go_enter Try.func20, Try.ntmps20
    go_wp2
    go_ret
    exact ⟨none, 0, rfl, Keep.refl _ _, by simp, by simp, .nil _ _ _⟩
  | some ad =>
    obtain ⟨i0, hi, hz0, hz1, hz2⟩ := info_parts Try.infoU8
    have hnil : ∀ W : World, (binOp .eql 23 (.slice (some ad) bs.length c) (.slice none 0 0)).run Try.prog W = .ok (.bool false) W := fun W => by kernel_rfl
    have hc : ∀ j u, (bcells bs)[j]? = some u → (w.alloc (.cells #[] 5)).cell? (ad.add j) = some u := fun j u hu => by
      have h1 := row_cells h j u hu
      rw [World.cell?_alloc_old _ _ _ (by have := World.block_lt_of_cell? w _ h1; omega)]; exact h1
    go_enter Try.func20, Try.ntmps20
    go_wp2_with (at_builtin; refine wpList_append_own _ rfl _ _ 23 rfl w.heap.size 5 i0 (.int .u8 0) 1 1 Try.underlying23 hi hz0 hz1 hz2 rfl (by decide) _ 0 [] rfl (World.ownsRow_made w #[] 0 (Nat.le_refl _) (by simp) rfl) ad bs.length c (bcells bs) rfl (by simp) hc (bcells_oneCell _) (by unfold maxLen; omega) (by omega) (by simp) ?_; intro v' w1 hown' hgrow hn)
    obtain ⟨a', c', rfl, h1, h2, h3⟩ := owned_shape hown'
    go_ret
    refine ⟨a', c', by simp, ((Keep.refl noM w).alloc _).grown hgrow (fun k e => .inr (by cases e; exact Nat.le_refl _)), by simpa using h1, h2, by simpa using h3⟩

/-- 'string(b)'. -/
theorem conv_bytes {w : World} {S : Nat → Prop} {a : Option Addr} {bs : Bs} (h : BytesAt w S a bs) (c : Nat) :
    (convert 23 9 (.slice a bs.length c)).run Try.prog w = .ok (.string ⟨bs.toArray⟩) w := by
  cases a with
  | none =>
    have hb : bs = [] := by
      rcases h with h | ⟨b, o, e, _⟩
      · simpa [bcells] using h
      · cases e
    subst hb
    exact run_convert_bytes_nil w 23 5 Try.underlying23 Try.underlying5 0 c 9 Try.underlying9
  | some ad =>
    have hl : (loadCells ad bs.length).run Try.prog w = .ok ((bs.map fun c => (c.toNat : Int)).map (Value.int .u8)).toArray w := by
      have := run_loadCells_list (P := Try.prog) w ad (bcells bs) (row_cells h)
      simpa [bcells, Function.comp_def] using this
    rw [run_convert_bytes_string w 23 9 5 _ bs.length c Try.underlying23 Try.underlying5 Try.underlying9,
      run_bytesToString w _ bs.length c (bs.map fun c => (c.toNat : Int)) hl, foldl_push_bytes]
    simp [ByteArray.empty, ByteArray.emptyWithCapacity, Function.comp_def]
    rfl

set_option maxHeartbeats 400000 in
theorem equalB_any (a b : Option Addr) (xs ys : Bs) (ca cb : Nat) (S S' : Nat → Prop) (w : World) (hx : BytesAt w S a xs) (hy : BytesAt w S' b ys) :
    Calls Try.prog 32 #[.slice a xs.length ca, .slice b ys.length cb] w fun e w' => e = .returned (.bool (decide (xs = ys))) ∧ w = w' := by
  have c1 := conv_bytes hx ca
  have c2 := conv_bytes hy cb
  go_enter Try.func32, Try.ntmps32
  go_wp2
  go_ret
  refine ⟨ret_bool ?_, rfl⟩
  rw [Bool.eq_iff_iff]; simp

set_option maxHeartbeats 400000 in
theorem prefixB_any (a b : Option Addr) (xs ys : Bs) (ca cb : Nat) (S S' : Nat → Prop) (w : World) (hx : BytesAt w S a xs) (hy : BytesAt w S' b ys) (hca : xs.length ≤ ca) (_lx : xs.length ≤ 262144) (_ly : ys.length ≤ 262144) :
    Calls Try.prog 57 #[.slice a xs.length ca, .slice b ys.length cb] w fun e w' => e = .returned (.bool (ys.isPrefixOf xs)) ∧ w = w' := by
  by_cases hl : ys.length ≤ xs.length
  · have HX := mkHid (And.intro hx hy)
    have e1 : (xs.take ys.length).length = ys.length := by simp; omega
    have h1 : BytesAt w S a (xs.take ys.length) := by unfold BytesAt; rw [bcells_take]; exact hx.take _
    have E := mkHid (And.intro e1 h1)
    clear e1 h1 hx hy
    go_enter Try.func57, Try.ntmps57
    go_wp2_with fail
    obtain ⟨e1, h1⟩ := E.out
    obtain ⟨hx, hy⟩ := HX.out
    have hc := equalB_any a b (xs.take ys.length) ys ca cb S S' w h1 hy
    rw [e1] at hc
    refine hc.mono ?_
    rintro e w' ⟨rfl, rfl⟩
    clear hc hx hy e1 h1
    go_wp2
    go_ret
    refine ⟨ret_bool ?_, rfl⟩
    rw [Bool.eq_iff_iff]
    simp only [decide_eq_true_eq, List.isPrefixOf_iff_prefix]
    exact ⟨fun h => by rw [← h]; exact List.take_prefix _ _, fun h => (List.prefix_iff_eq_take.1 h).symm⟩
  · go_enter Try.func57, Try.ntmps57
    go_wp2
    go_ret
    refine ⟨ret_bool ?_, rfl⟩
    symm
    rw [Bool.eq_false_iff]
    intro h
    have := (List.isPrefixOf_iff_prefix.1 h).length_le
    omega

theorem alloc_keep' (M : Nat → Prop) (w : World) (o : Obj) : Keep M w (w.alloc o) := (Keep.refl M w).alloc o
/-- how long what is left of a file's bytes is. -/
def tornLen (data safe : Bs) (keep : Int) : Nat :=
  let base := if safe.isPrefixOf data then safe.length else 0
  let n : Int := data.length - base + 1
  base + (keep % n).toNat
def torn (data safe : Bs) (keep : Int) : Bs := data.take (tornLen data safe keep)

theorem tmod_twice (k n : Int) (hn : 0 < n) : 0 ≤ k.tmod n + n ∧ k.tmod n + n < 2 * n ∧ -n < k.tmod n ∧ k.tmod n < n ∧ (k.tmod n + n).tmod n = k % n := by
  have h1 := Int.tmod_lt_of_pos k hn
  have e0 := Int.emod_lt_of_pos k hn
  have e1 := Int.emod_nonneg k (show n ≠ 0 by omega)
  have hna : (n.natAbs : Int) = n := by omega
  have h3 : k.tmod n = if 0 ≤ k ∨ n ∣ k then k % n else k % n - n := by rw [Int.tmod_eq_emod]; split <;> simp [hna]
  have h2 : -n < k.tmod n := by
    rw [h3]; split
    · omega
    · rename_i h
      have : k % n ≠ 0 := fun e => h (.inr (Int.dvd_of_emod_eq_zero e))
      omega
  refine ⟨by omega, by omega, h2, h1, ?_⟩
  rw [Int.tmod_eq_emod_of_nonneg (by omega), Int.add_emod_right, h3]
  split
  · exact Int.emod_emod_of_dvd k (Int.dvd_refl n)
  · rw [Int.sub_emod_right]; exact Int.emod_emod_of_dvd k (Int.dvd_refl n)
theorem tornLen_le (data safe : Bs) (keep : Int) : tornLen data safe keep ≤ data.length := by
  unfold tornLen
  simp only
  split
  · rename_i h
    have := (List.isPrefixOf_iff_prefix.1 h).length_le
    have h1 := Int.emod_lt_of_pos keep (show (0 : Int) < data.length - safe.length + 1 by omega)
    have h2 := Int.emod_nonneg keep (show (data.length - safe.length + 1 : Int) ≠ 0 by omega)
    omega
  · have h1 := Int.emod_lt_of_pos keep (show (0 : Int) < data.length - ((0 : Nat) : Int) + 1 by omega)
    have h2 := Int.emod_nonneg keep (show (data.length - ((0 : Nat) : Int) + 1 : Int) ≠ 0 by omega)
    omega

set_option maxHeartbeats 800000 in
theorem torn_any (a b : Option Addr) (data safe : Bs) (ca cb : Nat) (keep : Int) (S S' : Nat → Prop) (w : World) (hx : BytesAt w S a data) (hy : BytesAt w S' b safe) (hca : data.length ≤ ca) (hcm : ca ≤ maxLen) (lx : data.length ≤ 262144) (ly : safe.length ≤ 262144)
    (_hk0 : -9223372036854775808 ≤ keep) (_hk1 : keep ≤ 9223372036854775807) :
    Calls Try.prog 33 #[.agg #[.slice a data.length ca, .slice b safe.length cb], .int .i64 keep] w fun e w' => e = .returned (.slice a (torn data safe keep).length ca) ∧ Keep noM w w' := by
  have HX := mkHid (And.intro hx (And.intro hy hcm))
  have q1 : Keep noM w (w.alloc (.cells #[.slice a data.length ca, .slice b safe.length cb] 52)) := alloc_keep' _ _ _
  clear hx hy hcm
  go_enter Try.func33, Try.ntmps33
  go_wp2_with fail
  obtain ⟨hx, hy, hcm⟩ := HX.out
  refine (prefixB_any a b data safe ca cb S S' _ (hx.keep q1 (fun _ _ => not_noM _)) (hy.keep q1 (fun _ _ => not_noM _)) hca lx ly).mono ?_
  rintro e w1 ⟨rfl, hw⟩
  have Q : Keep noM w w1 := by rw [← hw]; exact q1
  have d0 : w1.cell? ⟨w.heap.size, 0, none⟩ = some (.slice a data.length ca) := by rw [← hw, World.cell?_alloc_at _ _ _ _ rfl]; rfl
  have d1 : w1.cell? ⟨w.heap.size, 1, none⟩ = some (.slice b safe.length cb) := by rw [← hw, World.cell?_alloc_at _ _ _ _ rfl]; rfl
  clear hw hx hy hcm q1
  have QQ := mkHid Q
  clear Q
  have hm : (2 : Int) ^ 63 - 1 = 9223372036854775807 := by decide
  cases hp : safe.isPrefixOf data
  · go_wp2
    obtain ⟨t1, t2, t3, t4, t5⟩ := tmod_twice keep (data.length + 1) (by omega)
    have e0 := Int.emod_lt_of_pos keep (show (0 : Int) < data.length + 1 by omega)
    have e1 := Int.emod_nonneg keep (show (data.length + 1 : Int) ≠ 0 by omega)
    have r1 : IntKind.i64.wrap (keep.tmod (data.length + 1) + (data.length + 1)) = keep.tmod (data.length + 1) + (data.length + 1) := IntWalk.i64_in _ (by omega)
    have r2 : IntKind.i64.wrap (keep.tmod (data.length + 1)) = keep.tmod (data.length + 1) := IntWalk.i64_in _ (by omega)
    have r3 : IntKind.i64.wrap (keep % (data.length + 1)) = keep % (data.length + 1) := IntWalk.i64_in _ (by omega)
    go_quiet (fail)
    go_wp2
    go_ret
    have hlen : (torn data safe keep).length = (keep % (data.length + 1 : Int)).toNat := by
      unfold torn; rw [List.length_take, Nat.min_eq_left (tornLen_le _ _ _)]; simp [tornLen, hp]
    exact ⟨by rw [hlen]; rfl, QQ.out.drewN nq⟩
  · have hle := (List.isPrefixOf_iff_prefix.1 hp).length_le
    go_wp2
    obtain ⟨t1, t2, t3, t4, t5⟩ := tmod_twice keep (data.length - safe.length + 1) (by omega)
    have e0 := Int.emod_lt_of_pos keep (show (0 : Int) < data.length - safe.length + 1 by omega)
    have e1 := Int.emod_nonneg keep (show (data.length - safe.length + 1 : Int) ≠ 0 by omega)
    have r1 : IntKind.i64.wrap (keep.tmod (data.length - safe.length + 1) + (data.length - safe.length + 1)) = keep.tmod (data.length - safe.length + 1) + (data.length - safe.length + 1) := IntWalk.i64_in _ (by omega)
    have r2 : IntKind.i64.wrap (keep.tmod (data.length - safe.length + 1)) = keep.tmod (data.length - safe.length + 1) := IntWalk.i64_in _ (by omega)
    have r3 : IntKind.i64.wrap (safe.length + keep % (data.length - safe.length + 1)) = safe.length + keep % (data.length - safe.length + 1) := IntWalk.i64_in _ (by omega)
    have r4 : 0 ≤ safe.length + keep % (data.length - safe.length + 1) := by omega
    have r5 : safe.length + keep % (data.length - safe.length + 1) ≤ ca := by omega
    go_quiet (fail)
    go_wp2
    go_ret
    have hlen : (torn data safe keep).length = (safe.length + keep % (data.length - safe.length + 1 : Int)).toNat := by
      unfold torn; rw [List.length_take, Nat.min_eq_left (tornLen_le _ _ _)]; simp [tornLen, hp]; omega
    exact ⟨by rw [hlen]; rfl, QQ.out.drewN nq⟩
end Go.Proofs.Ytohbglopgjbfcaa
