/-
  maps.All over the disk's map: what its iterator hands to a loop's body, whatever the body.
-/
import Derived.Test.YtohbglopgjbfcaaDisk1
import Derived.RangeFuncMany
import Derived.RangeFuncLeaves
import Derived.RangeFuncNested
import Derived.RangeFuncBound
import Derived.Sort.MapsRangeIn
import Derived.Sort.KeysCollected
import Derived.OwnWalkIn
import Derived.TacticsInMore
import Derived.RegionIn
import Derived.LoopNIn
import Derived.LoopIn
import Derived.Shelf.Abstract
import Derived.Maps.OwnIn
namespace Go.Proofs.Ytohbglopgjbfcaa
open Go.RowKit Go.Maps Go.Sort Go.Shelf

theorem keyedS' : Keyed Try.prog 9 := string_keyed Try.underlying9

/-- a file as it lies in the map: two slices. -/
structure FV where
  a : Option Addr
  n : Nat
  c : Nat
  a2 : Option Addr
  n2 : Nat
  c2 : Nat
abbrev mkFV (c : FV) : Value := .agg #[.slice c.a c.n c.c, .slice c.a2 c.n2 c.c2]
theorem heldR_mk (c : FV) : heldR (mkFV c) = some (.held (mkFV c), []) := rfl
def ValAt (D0 : DataW Value) (p : Bs × FV) : Prop := ∀ zd, D0.atKey (.string p.1) zd = .held (mkFV p.2)
abbrev encF (p : Bs × FV) : Array Value := #[encStr p.1, mkFV p.2]
/-- an entry of the map: all that a loop's body may know of what it is handed. -/
abbrev Ent (D0 : DataW Value) := { p : Bs × FV // ValAt D0 p ∧ p.1.length ≤ maxLen }
def AllOf (D0 : DataW Value) (ps : List (Ent D0)) : Prop := (ps.map (·.1.1)).Perm (strKeys D0) ∧ (∀ x, x ∈ ps.map (·.1.1) ↔ Maps.has D0 (.string x) = true)
def PartOf (D0 : DataW Value) (ps : List (Ent D0)) : Prop := (ps.map (·.1.1)).Nodup ∧ (∀ x ∈ ps.map (·.1.1), Maps.has D0 (.string x) = true)

/-- maps and walks from block B on lie as they lay. -/
structure KW (B : Nat) (W W' : World) : Prop where
  size : W.heap.size ≤ W'.heap.size
  same : ∀ (k : Nat) (o : Obj), B ≤ k → W.heap[k]? = some o → o.isWalk = true → W'.heap[k]? = some o
theorem KW.trans {B : Nat} {X Y Z : World} (h : KW B X Y) (k : KW B Y Z) : KW B X Z := ⟨Nat.le_trans h.size k.size, fun i o hB hi ho => k.same i o hB (h.same i o hB hi ho) ho⟩
theorem KW.of_from {B : Nat} {X Y : World} (h : KeepsFrom B X Y) : KW B X Y := ⟨h.size, fun i o hB hi ho => h.same i o hB hi (Obj.not_cells_of_walk ho)⟩
theorem KW.of_keep {B : Nat} {M : Nat → Prop} {X Y : World} (h : Keep M X Y) (hM : ∀ k, M k → k < B) : KW B X Y :=
  ⟨h.size, fun i o hB hi ho => h.obj (fun e => by have := hM i e; omega) hi⟩
theorem KW.put {B w : Nat} (W : World) (l : Nat) (o o' : Obj) (_ : w ≤ l) (h : W.heap[l]? = some o) (_ : o.isCells = false) (hw : o.isWalk = false) : KW B W (W.putObj l o') :=
  ⟨(KeepsWalks.putObj o' h hw).size, fun k o2 _ hk ho => (KeepsWalks.putObj o' h hw).same k o2 hk ho⟩
theorem ranges_KW {B : Nat} {P : Program} {k : TypeId} {R : Value → Option (DataW Value × List MemPlace)} {w w' : World} {b r n : Nat} {D : DataW Value} {left : Lit → Bool} {cnt : Nat}
    (h : w.ranges P k R b r n D left cnt) (hk : KW B w w') (hb : B ≤ b) (hr : B ≤ r) : w'.ranges P k R b r n D left cnt := by
  obtain ⟨es, clock, since, seen, c0, hbb, F, hs, hD, hrr, rest⟩ := h
  exact ⟨es, clock, since, seen, c0, hk.same b _ hb hbb rfl, F, hs, hD, hk.same r _ hr hrr rfl, rest⟩

set_option maxRecDepth 100000 in
set_option maxHeartbeats 1000000 in
theorem all1_in (F : Fence) (n : Nat) (h8 : F.fn 55) (hro : F.round = none) (hn : 1 ≤ n) (l Bm b nn Bk : Nat) (hBb : Bk ≤ b) (D0 : DataW Value) (J Jx : List (Ent D0) → World → Prop)
    (hY : ∀ pre x W, J pre W → pre.length < Maps.size D0 → YieldAt F (n - 1) Try.prog l (encF x.1) W fun e W' =>
      (e = .returned (.bool true) ∧ J (pre ++ [x]) W' ∧ KW Bk W W') ∨ (e = .returned (.bool false) ∧ Jx (pre ++ [x]) W'))
    (W : World) (hBW : Bk ≤ W.heap.size) (hJ : AbidesFrom W.heap.size J) (hm : W.cell? ⟨Bm, 0, none⟩ = some (.map (some b))) (hown : W.ownsMap Try.prog 9 heldR b nn D0) (h0 : J [] W) :
    CallsIn F n Try.prog 55 #[.func (.yield l) #[] #[], .pointer (some ⟨Bm, 0, none⟩)] W fun e W' => (∃ v, e = .returned v) ∧
      ((∃ ps, AllOf D0 ps ∧ J ps W') ∨ (∃ pre, PartOf D0 pre ∧ Jx pre W')) := by
  refine callsIn_of_wp Try.func55 rfl h8 ?_ hro
  simp only [Try.ntmps55, List.size_toArray, List.length_cons, List.length_nil, Nat.reduceAdd, Nat.reduceSub, Array.replicate_succ, Array.replicate_zero, List.push_toArray, List.append_toArray, List.nil_append, List.cons_append]
  gi_wp2_with (first
    | (gi_at_range; refine wpListIn_range_own _ rfl _ 45 rfl 9 52 keyedS' Try.underlying45 _ b nn _ rfl hown ?_; intro w0 hrg0 hg0 hs0)
    | gi_in)
  go_frame
  gi_loopw [3, 4] (fun _ _ wr => ∃ (left : Lit → Bool) (cnt : Nat) (ps : List (Ent D0)), wr.ranges Try.prog 9 heldR b W.heap.size nn D0 left cnt ∧ ps.length + cnt ≤ Maps.size D0 ∧ Collected D0 left (ps.map (·.1.1)) ∧ J ps wr)
    (fun _ _ wr => wr.rangeLeft b W.heap.size)
  case atStart =>
    exact ⟨_, _, [], hrg0, by simp, Collected.start D0, hJ [] W w0 none h0 hg0 (fun r e => by cases e)⟩
  case round =>
    obtain ⟨left, cnt, ps, hrg, hcs, hC, hJs⟩ := hrel
    gi_wp2_with (first
      | (gi_at_next; refine wpListIn_next_ranges _ rfl _ rfl 9 keyedS' heldR encStr mkFV (fun key kl hk => by obtain ⟨x, hx, _⟩ := Maps.keyOf_str Try.underlying9 hk; exact ⟨x, hx⟩) (fun v y hv => by obtain ⟨a, n, c, a', n', c', e⟩ := heldR_shape hv; exact ⟨⟨a, n, c, a', n', c'⟩, e⟩) b W.heap.size nn _ _ _ rfl hrg ?_ ?_)
      | gi_in)
    · -- NOTHING IS LEFT
      intro hc0 hl0
      gi_wp2
      go_end0
      exact ⟨⟨_, rfl⟩, .inl ⟨ps, ⟨hC.perm hown keyedS' Try.underlying9 hl0, fun x => by rw [hC.2 x, hl0]; simp⟩, hJs⟩⟩
    · -- AN ENTRY HAS COME: yield(k, v)
      intro x c kl yd yp w2 cnt2 hkey hlk hv hat hrg2 hlt hg2 hs2 hen
      obtain ⟨x', ex, rfl, hxl⟩ := Maps.keyOf_str Try.underlying9 hkey
      obtain rfl : x = x' := encStr_inj ex
      have hat' : ValAt D0 (x, c) := by
        intro zd
        have h1 : heldR (mkFV c) = some (yd, yp) := hv
        rw [heldR_mk] at h1
        have h2 := hat zd
        simp at h1
        rw [h2, ← h1.1]
      have hJ2 : J ps w2 := hJ ps wr w2 (some W.heap.size) hJs hg2 (fun r e => by cases e; exact ⟨Nat.le_refl _, hrg.iter_walk⟩)
      have hJ3 : J ps (w2.alloc (.cells #[.slice c.a c.n c.c, .slice c.a2 c.n2 c.c2] 52)) := hJ ps w2 _ none hJ2 (World.grownBy_alloc w2 _ none) (fun r e => by cases e)
      have kal : KW Bk w2 (w2.alloc (.cells #[.slice c.a c.n c.c, .slice c.a2 c.n2 c.c2] 52)) := KW.of_from ((KeepsOthers.alloc _ _).from _)
      obtain ⟨fn, tmps, assign, body, hy, hR⟩ := hY ps ⟨(x, c), hat', hxl⟩ _ hJ3 (by omega)
      dsimp only [encF] at hy
      have hC2 : Collected D0 (fun z => left z && !z.sameKey (.string x)) ((ps ++ [(⟨(x, c), hat', hxl⟩ : Ent D0)]).map fun q => q.1.1) := by simpa using hC.step hlk hat'
      have HH := mkHid (And.intro hC2 (And.intro hrg2 (And.intro hrg (And.intro kal (And.intro hlt hcs)))))
      clear hs2 hC2 hrg2 hrg hlt hJ2 hJ3 kal hat hv hJs hC hg2 hkey hlk hcs
      gi_wp2
      refine hR.mono ?_
      obtain ⟨hC2, hrg2, hrg, kal, hlt, hcs⟩ := HH.out
      rintro e W3 (⟨rfl, hJ3, hk3⟩ | ⟨rfl, hJx3⟩)
      · clear hR hy hen hC2 hrg2 hrg kal hlt hcs
        gi_wp2
        obtain ⟨hC2, hrg2, hrg, kal, hlt, hcs⟩ := HH.out
        have hrg3 := ranges_KW hrg2 (kal.trans hk3) hBb hBW
        go_roundw
        case rel => exact ⟨_, cnt2, ps ++ [⟨(x, c), hat', hxl⟩], hrg3, by simp; omega, hC2, hJ3⟩
        case measure => rw [hrg3.left_eq, hrg.left_eq]; exact hlt
      · clear hR hy hen hC2 hrg2 hrg kal hlt hcs
        gi_wp2
        obtain ⟨hC2, hrg2, hrg, kal, hlt, hcs⟩ := HH.out
        refine bodyPost_ret (results_none rfl _ _ _) rfl ?_
        exact ⟨⟨_, rfl⟩, .inr ⟨ps ++ [⟨(x, c), hat', hxl⟩], ⟨hC2.1, fun y hy => ((hC2.2 y).1 hy).1⟩, hJx3⟩⟩
end Go.Proofs.Ytohbglopgjbfcaa
