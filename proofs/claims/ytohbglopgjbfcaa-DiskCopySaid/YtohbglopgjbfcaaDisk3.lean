/-
  THE DISK, PART 3: the map of files: a look-up, a store; 'there', the closures of a change.
-/
import Derived.Test.YtohbglopgjbfcaaDisk2
set_option linter.unusedVariables false
namespace Go.Proofs.Ytohbglopgjbfcaa
open Go.RowKit Go.Maps

theorem keyedS : Keyed Try.prog 9 := string_keyed Try.underlying9
theorem keyS (k : Bs) (hk : k.length ≤ maxLen) : keyOf Try.prog 9 (.string ⟨k.toArray⟩) = some (.string k) := by
  have := Go.WideMaps.keyOf_string_mk (P := Try.prog) (s := ⟨k.toArray⟩) Try.underlying9 (by simpa [ByteArray.size] using hk)
  simpa using this
theorem zeroFile (w : World) : (zeroValue 52).run Try.prog w = .ok (.agg #[.slice none 0 0, .slice none 0 0]) w := by kernel_rfl

def look (s : DS) (k : Bs) : Bs × Bs := (s.f k).getD ([], [])

theorem FileV.zero (w : World) (S : Nat → Prop) : FileV w S (.agg #[.slice none 0 0, .slice none 0 0]) ([], []) :=
  ⟨none, 0, none, 0, rfl, by simp, by simp, by simp, by simp, by simp, by simp, .nil _ _ _, .nil _ _ _⟩

/-- a look-up, in whatever world has grown. -/
theorem DiskAt.look {w : World} {S : Nat → Prop} {d m n : Nat} {s : DS} (h : DiskAt w S d m n s) (k : Bs) (hk : k.length ≤ maxLen) :
    ∃ v, FileV w S v (Go.Proofs.Ytohbglopgjbfcaa.look s k) ∧ ∀ w', Keep noM w w' →
      (Instr.lookup 45 (.map (some m)) (.string ⟨k.toArray⟩) true).run Try.prog w' = .ok (.tuple #[v, .bool (s.f k).isSome]) w' ∧
      (Instr.lookup 45 (.map (some m)) (.string ⟨k.toArray⟩) false).run Try.prog w' = .ok v w' := by
  obtain ⟨Dm, h1, h2⟩ := h.map
  obtain ⟨v, ps, hr, hv⟩ := h1.look_ok keyedS Try.underlying45 (zeroFile w) (zd := .held (.agg #[.slice none 0 0, .slice none 0 0])) (zp := []) rfl (keyS k hk)
  have e1 := heldR_inv hv
  refine ⟨v, ?_, fun w' kp => ?_⟩
  · unfold Go.Proofs.Ytohbglopgjbfcaa.look
    cases hf : s.f k with
    | none =>
      have hh : Maps.has Dm (.string k) = false := by rw [h2.dom, hf]; rfl
      rw [Maps.atKey_of_not_has hh] at e1
      cases e1
      exact FileV.zero _ _
    | some x =>
      obtain ⟨u, hu, hF⟩ := h2.val k x hf
      rw [hu] at e1; cases e1
      exact hF
  · have h1' := ownsMap_keep h1 kp (not_noM _)
    obtain ⟨v1, ps1, hr1, hv1⟩ := h1'.look_ok keyedS Try.underlying45 (zeroFile w') (zd := .held (.agg #[.slice none 0 0, .slice none 0 0])) (zp := []) rfl (keyS k hk)
    obtain ⟨v2, ps2, hr2, hv2⟩ := h1'.lookup keyedS Try.underlying45 (zeroFile w') (zd := .held (.agg #[.slice none 0 0, .slice none 0 0])) (zp := []) rfl (keyS k hk)
    have q1 := heldR_inv hv1
    have q2 := heldR_inv hv2
    rw [e1] at q1 q2
    cases q1; cases q2
    rw [h2.dom] at hr1
    exact ⟨hr1, hr2⟩

set_option maxRecDepth 100000 in
set_option maxHeartbeats 400000 in
theorem there_any (w : World) (S : Nat → Prop) (d m n : Nat) (s : DS) (h : DiskAt w S d m n s) (k : Bs) (hk : k.length ≤ maxLen) :
    Calls Try.prog 21 #[.pointer (some ⟨d, 0, none⟩), .string ⟨k.toArray⟩] w fun e w' => e = .returned (.int .i64 (if (s.f k).isSome then 0 else 11)) ∧ Keep noM w w' := by
  obtain ⟨c0, c1, c2, c3, f0, f1, f2, f3, hlt⟩ := h.cells
  obtain ⟨v, ⟨a1, n1, a2, n2, rfl, H⟩, HL⟩ := h.look k hk
  have hr := (HL w (Keep.refl _ w)).1
  clear H HL hk h
  cases hf : (s.f k).isSome
  · rw [hf] at hr
    clear hf
    go_enter Try.func21, Try.ntmps21
    go_wp2
    go_ret
    exact ⟨rfl, (Keep.refl _ _).alloc _⟩
  · rw [hf] at hr
    clear hf
    go_enter Try.func21, Try.ntmps21
    go_wp2
    go_ret
    exact ⟨rfl, (Keep.refl _ _).alloc _⟩

theorem keyLitS (k : Bs) : WideAt.IsKeyLit (.string k) := by simp [WideAt.IsKeyLit]
theorem FilesAt.put {w : World} {S : Nat → Prop} {Dm : DataW Value} {f : Files} (h : FilesAt w S Dm f) (hi : Maps.IsMap Dm) (k : Bs) {v : Value} {x : Bs × Bs} (hv : FileV w S v x) :
    FilesAt w S (Dm.put (.string k) (.held v)) (f.put k x) := by
  refine ⟨fun k' => ?_, fun k' y hy => ?_⟩
  · by_cases hkk : k' = k
    · subst hkk
      rw [Maps.has_put_same hi (keyLitS _)]; simp [Files.put]
    · rw [Maps.has_put_other (fun e => hkk (by cases e; rfl)), h.dom]; simp [Files.put, hkk]
  · by_cases hkk : k' = k
    · subst hkk
      simp only [Files.put, if_true] at hy
      cases hy
      exact ⟨_, fun z => Maps.atKey_put_same hi (keyLitS _) _ z, hv⟩
    · simp only [Files.put, hkk, if_false] at hy
      obtain ⟨u, hu, hF⟩ := h.val k' y hy
      exact ⟨u, fun z => by rw [Maps.atKey_put_other (fun e => hkk (by cases e; rfl))]; exact hu z, hF⟩
theorem FilesAt.del {w : World} {S : Nat → Prop} {Dm : DataW Value} {f : Files} (h : FilesAt w S Dm f) (k : Bs) :
    FilesAt w S (Dm.del (.string k)) (f.del k) := by
  refine ⟨fun k' => ?_, fun k' y hy => ?_⟩
  · by_cases hkk : k' = k
    · subst hkk
      rw [Maps.has_del_same]; simp [Files.del]
    · rw [Maps.has_del_other (fun e => hkk (by cases e; rfl)), h.dom]; simp [Files.del, hkk]
  · by_cases hkk : k' = k
    · subst hkk
      simp [Files.del] at hy
    · simp only [Files.del, hkk, if_false] at hy
      obtain ⟨u, hu, hF⟩ := h.val k' y hy
      exact ⟨u, fun z => by rw [Maps.atKey_del_other (fun e => hkk (by cases e; rfl))]; exact hu z, hF⟩

theorem notB {S : Nat → Prop} {m : Nat} (h : ¬ S m) : ∀ b, S b → ¬ isB m b := fun b hb e => h (e ▸ hb)
/-- the map of the disk, new. -/
theorem DiskAt.remap {w w' : World} {S : Nat → Prop} {d m n n' : Nat} {s s' : DS} (h : DiskAt w S d m n s) (k : Keep (isB m) w w') (hs : s'.fuse = s.fuse ∧ s'.dead = s.dead ∧ s'.ops = s.ops)
    (hm : ∃ Dm, w'.ownsMap Try.prog 9 heldR m n' Dm ∧ FilesAt w' S Dm s'.f) : DiskAt w' S d m n' s' := by
  obtain ⟨e1, e2, e3⟩ := hs
  exact ⟨k.obj (fun e => h.ne e) (by rw [e1, e2, e3]; exact h.disk), hm, h.nd, h.nm, by rw [e1]; exact h.fuse0, by rw [e1]; exact h.fuse1⟩
/-- a store into the disk's map, in a world that has grown. -/
theorem DiskAt.store {w w' : World} {S : Nat → Prop} {d m n : Nat} {s : DS} (h : DiskAt w S d m n s) (kp : Keep noM w w') (k : Bs) (hk : k.length ≤ maxLen) (hn : n ≤ 1000000) (v : Value) (x : Bs × Bs) (hv : FileV w S v x) :
    ∃ w3, (Instr.mapUpdate 45 (.map (some m)) (.string ⟨k.toArray⟩) v).run Try.prog w' = .ok () w3 ∧ Keep (isB m) w w3 ∧ Keep (isB m) w' w3 ∧ DiskAt w3 S d m (n + 1) { s with f := s.f.put k x } := by
  have h' := h.keep kp (fun _ _ => not_noM _) (not_noM _) (not_noM _)
  obtain ⟨Dm, hM, hF⟩ := h'.map
  obtain ⟨w3, hst, own3, turn⟩ := hM.store keyedS Try.underlying45 (by unfold maxLen; omega) (keyS k hk) (val := v) hv.held
  have k3 : Keep (isB m) w' w3 := (Keep.refl _ _).grown turn.grown (fun k e => .inl (by cases e; rfl))
  have kw : Keep (isB m) w w3 := (kp.mono (fun _ _ h => h.elim)).trans k3
  exact ⟨w3, hst, kw, k3, h'.remap k3 ⟨rfl, rfl, rfl⟩ ⟨_, own3, (hF.keep k3 (notB h.nm)).put (by obtain ⟨es, e⟩ := hM.isMap; exact ⟨es, e⟩) k (hv.keep kw (notB h.nm))⟩⟩
/-- a file taken out of the disk's map. -/
theorem DiskAt.drop {w w' : World} {S : Nat → Prop} {d m n : Nat} {s : DS} (h : DiskAt w S d m n s) (kp : Keep noM w w') (k : Bs) (hk : k.length ≤ maxLen) :
    ∃ w3, (Builtin.delete_ #[45, 9] 0 #[.map (some m), .string ⟨k.toArray⟩]).run Try.prog w' = .ok (.tuple #[]) w3 ∧ Keep (isB m) w w3 ∧ Keep (isB m) w' w3 ∧ DiskAt w3 S d m n { s with f := s.f.del k } := by
  have h' := h.keep kp (fun _ _ => not_noM _) (not_noM _) (not_noM _)
  obtain ⟨Dm, hM, hF⟩ := h'.map
  obtain ⟨w3, hst, own3, turn⟩ := hM.drop keyedS Try.underlying45 (keyS k hk) 0
  have k3 : Keep (isB m) w' w3 := (Keep.refl _ _).grown turn.grown (fun k e => .inl (by cases e; rfl))
  have kw : Keep (isB m) w w3 := (kp.mono (fun _ _ h => h.elim)).trans k3
  exact ⟨w3, hst, kw, k3, h'.remap k3 ⟨rfl, rfl, rfl⟩ ⟨_, own3, (hF.keep k3 (notB h.nm)).del k⟩⟩

set_option maxHeartbeats 400000 in
theorem put1_any (w : World) (S : Nat → Prop) (d m n : Nat) (s : DS) (h : DiskAt w S d m n s) (p0 p1 p2 : Nat) (k b : Bs) (hk : k.length ≤ maxLen) (a : Option Addr) (cb : Nat)
    (h0 : w.cell? ⟨p0, 0, none⟩ = some (.pointer (some ⟨d, 0, none⟩))) (h1 : w.cell? ⟨p1, 0, none⟩ = some (.string ⟨k.toArray⟩)) (h2 : w.cell? ⟨p2, 0, none⟩ = some (.slice a b.length cb)) (hb : BytesAt w S a b) (hbc : b.length ≤ cb) (hcb : cb ≤ maxLen) (hbl : b.length ≤ 262144) (hn : n ≤ 1000000) :
    Calls Try.prog 44 #[.pointer (some ⟨p0, 0, none⟩), .pointer (some ⟨p1, 0, none⟩), .pointer (some ⟨p2, 0, none⟩)] w fun e w' =>
      e = .returned (.tuple #[]) ∧ Keep (isB m) w w' ∧ DiskAt w' S d m (n + 1) { s with f := s.f.put k (b, (look s k).2) } := by
  obtain ⟨c0, c1, c2, c3, f0, f1, f2, f3, hlt⟩ := h.cells
  have l0 := World.block_lt_of_cell? w _ h0
  have l1 := World.block_lt_of_cell? w _ h1
  have l2 := World.block_lt_of_cell? w _ h2
  simp only at l0 l1 l2
  obtain ⟨v, ⟨a1, n1, a2, n2, rfl, HF⟩, HL⟩ := h.look k hk
  have hr1 := (HL _ (((Keep.refl _ w).alloc (.cells #[.slice none 0 0, .slice none 0 0] 52)).drew)).2
  have hr2 := (HL _ ((Keep.refl _ w).drew)).2
  clear HL
  have hv : FileV w S (.agg #[.slice a b.length cb, .slice a2 (Go.Proofs.Ytohbglopgjbfcaa.look s k).2.length n2]) (b, (Go.Proofs.Ytohbglopgjbfcaa.look s k).2) := by
    obtain ⟨e1, e2, e3, e4, e5, e6, e7, e8⟩ := HF; exact ⟨a, cb, a2, n2, rfl, hbc, e2, hcb, e4, hbl, e6, hb, e8⟩
  obtain ⟨w3, hst, K1, K2, HD⟩ := h.store (w' := (w.alloc (.cells #[.slice a b.length cb, .slice a2 (Go.Proofs.Ytohbglopgjbfcaa.look s k).2.length n2] 52)).drew.drew) ((((Keep.refl _ w).alloc _).drew).drew) k hk hn
    (.agg #[.slice a b.length cb, .slice a2 (Go.Proofs.Ytohbglopgjbfcaa.look s k).2.length n2]) (b, (Go.Proofs.Ytohbglopgjbfcaa.look s k).2) hv
  have H := mkHid (And.intro K1 HD)
  clear h hk hcb hb HF K1 K2 HD hv
  go_enter Try.func44, Try.ntmps44
  go_wp2
  go_region
  all_goals
    go_wp2
    go_region
    all_goals
      go_wp2
      go_end0
      exact ⟨rfl, H.out.1, H.out.2⟩

set_option maxHeartbeats 400000 in
theorem sync1_any (w : World) (S : Nat → Prop) (d m n : Nat) (s : DS) (h : DiskAt w S d m n s) (p0 p1 : Nat) (k : Bs) (hk : k.length ≤ maxLen)
    (h0 : w.cell? ⟨p0, 0, none⟩ = some (.pointer (some ⟨d, 0, none⟩))) (h1 : w.cell? ⟨p1, 0, none⟩ = some (.string ⟨k.toArray⟩)) (hn : n ≤ 1000000) :
    Calls Try.prog 23 #[.pointer (some ⟨p0, 0, none⟩), .pointer (some ⟨p1, 0, none⟩)] w fun e w' =>
      e = .returned (.tuple #[]) ∧ Keep (isB m) w w' ∧ DiskAt w' S d m (n + 1) { s with f := s.f.put k ((look s k).1, (look s k).1) } := by
  obtain ⟨c0, c1, c2, c3, f0, f1, f2, f3, hlt⟩ := h.cells
  have l0 := World.block_lt_of_cell? w _ h0
  have l1 := World.block_lt_of_cell? w _ h1
  simp only at l0 l1
  obtain ⟨v, ⟨a1, n1, a2, n2, rfl, HF⟩, HL⟩ := h.look k hk
  have hr1 := (HL _ (((Keep.refl _ w).alloc (.cells #[.slice none 0 0, .slice none 0 0] 52)).drew)).2
  have hr2 := (HL _ ((Keep.refl _ w).drew)).2
  clear HL
  have hv : FileV w S (.agg #[.slice a1 (Go.Proofs.Ytohbglopgjbfcaa.look s k).1.length n1, .slice a1 (Go.Proofs.Ytohbglopgjbfcaa.look s k).1.length n1]) ((Go.Proofs.Ytohbglopgjbfcaa.look s k).1, (Go.Proofs.Ytohbglopgjbfcaa.look s k).1) := by
    obtain ⟨e1, e2, e3, e4, e5, e6, e7, e8⟩ := HF; exact ⟨a1, n1, a1, n1, rfl, e1, e1, e3, e3, e5, e5, e7, e7⟩
  obtain ⟨w3, hst, K1, K2, HD⟩ := h.store (w' := (w.alloc (.cells #[.slice a1 (Go.Proofs.Ytohbglopgjbfcaa.look s k).1.length n1, .slice a1 (Go.Proofs.Ytohbglopgjbfcaa.look s k).1.length n1] 52)).drew.drew) ((((Keep.refl _ w).alloc _).drew).drew) k hk hn
    (.agg #[.slice a1 (Go.Proofs.Ytohbglopgjbfcaa.look s k).1.length n1, .slice a1 (Go.Proofs.Ytohbglopgjbfcaa.look s k).1.length n1]) ((Go.Proofs.Ytohbglopgjbfcaa.look s k).1, (Go.Proofs.Ytohbglopgjbfcaa.look s k).1) hv
  have H := mkHid (And.intro K1 HD)
  clear h hk HF K1 K2 HD hv
  go_enter Try.func23, Try.ntmps23
  go_wp2
  go_region
  all_goals
    go_wp2
    go_region
    all_goals
      go_wp2
      go_end0
      exact ⟨rfl, H.out.1, H.out.2⟩

set_option maxHeartbeats 400000 in
theorem remove1_any (w : World) (S : Nat → Prop) (d m n : Nat) (s : DS) (h : DiskAt w S d m n s) (p0 p1 : Nat) (k : Bs) (hk : k.length ≤ maxLen)
    (h0 : w.cell? ⟨p0, 0, none⟩ = some (.pointer (some ⟨d, 0, none⟩))) (h1 : w.cell? ⟨p1, 0, none⟩ = some (.string ⟨k.toArray⟩)) :
    Calls Try.prog 53 #[.pointer (some ⟨p0, 0, none⟩), .pointer (some ⟨p1, 0, none⟩)] w fun e w' =>
      e = .returned (.tuple #[]) ∧ Keep (isB m) w w' ∧ DiskAt w' S d m n { s with f := s.f.del k } := by
  obtain ⟨c0, c1, c2, c3, f0, f1, f2, f3, hlt⟩ := h.cells
  obtain ⟨w3, hst, K1, K2, HD⟩ := h.drop (w' := w.drew) ((Keep.refl _ w).drew) k hk
  have H := mkHid (And.intro K1 HD)
  clear h hk K1 K2 HD
  go_enter Try.func53, Try.ntmps53
  go_wp2
  go_region
  go_wp2
  go_end0
  exact ⟨rfl, H.out.1, H.out.2⟩

theorem DiskAt.neCell {w : World} {S : Nat → Prop} {d m n : Nat} {s : DS} (h : DiskAt w S d m n s) {p : Addr} {v : Value} (hc : w.cell? p = some v) : p.block ≠ m := by
  rintro rfl
  obtain ⟨Dm, ⟨es, clock, hb, _⟩, _⟩ := h.map
  simp [World.cell?, hb] at hc

/-- what Rename makes of the files. -/
def renamed (f : Files) (k to : Bs) : Files := (f.del k).put to ((f k).getD ([], []))

set_option maxHeartbeats 800000 in
theorem rename1_any (w : World) (S : Nat → Prop) (d m n : Nat) (s : DS) (h : DiskAt w S d m n s) (p0 p1 p2 : Nat) (k to : Bs) (hk : k.length ≤ maxLen) (hto : to.length ≤ maxLen)
    (h0 : w.cell? ⟨p0, 0, none⟩ = some (.pointer (some ⟨d, 0, none⟩))) (h1 : w.cell? ⟨p1, 0, none⟩ = some (.string ⟨k.toArray⟩)) (h2 : w.cell? ⟨p2, 0, none⟩ = some (.string ⟨to.toArray⟩)) (hn : n ≤ 1000000) :
    Calls Try.prog 52 #[.pointer (some ⟨p0, 0, none⟩), .pointer (some ⟨p1, 0, none⟩), .pointer (some ⟨p2, 0, none⟩)] w fun e w' =>
      e = .returned (.tuple #[]) ∧ Keep (isB m) w w' ∧ DiskAt w' S d m (n + 1) { s with f := renamed s.f k to } := by
  obtain ⟨c0, c1, c2, c3, f0, f1, f2, f3, hlt⟩ := h.cells
  have l0 := World.block_lt_of_cell? w _ h0
  have l1 := World.block_lt_of_cell? w _ h1
  have l2 := World.block_lt_of_cell? w _ h2
  have n0 := h.neCell h0
  have n1' := h.neCell h1
  have n2' := h.neCell h2
  have n3 := h.neCell c0
  have lm : m < w.heap.size := by obtain ⟨Dm, ⟨es, clock, hb, _⟩, _⟩ := h.map; exact lt_of_obj hb
  simp only at l0 l1 l2 n0 n1' n2' n3
  obtain ⟨v, HF0, HL⟩ := h.look k hk
  have HF := HF0
  obtain ⟨a1, n1, a2, n2, rfl, HF1⟩ := HF0
  have hr1 := (HL _ (((Keep.refl _ w).alloc (.cells #[.slice none 0 0, .slice none 0 0] 52)).drew)).2
  have hr2 := (HL _ ((Keep.refl _ w).drew)).2
  obtain ⟨w3, hst, K1, K2, HD⟩ := h.drop (w' := (w.alloc (.cells #[.slice a1 (Go.Proofs.Ytohbglopgjbfcaa.look s k).1.length n1, .slice a2 (Go.Proofs.Ytohbglopgjbfcaa.look s k).2.length n2] 52)).drew.drew) ((((Keep.refl _ w).alloc _).drew).drew) k hk
  have g0 := K1.cell (M := isB m) (p := ⟨p0, 0, none⟩) n0 h0
  have g1 := K1.cell (M := isB m) (p := ⟨p1, 0, none⟩) n1' h1
  have g2 := K1.cell (M := isB m) (p := ⟨p2, 0, none⟩) n2' h2
  have g3 := K1.cell (M := isB m) (p := ⟨d, 0, none⟩) n3 c0
  have gz : w.heap.size ≠ m := by omega
  have g4 := K2.cell (M := isB m) (p := ⟨w.heap.size, 0, none⟩) (v := .slice a1 (Go.Proofs.Ytohbglopgjbfcaa.look s k).1.length n1) gz (World.cell?_alloc_at (w := w) _ _ _ _ rfl)
  have g5 := K2.cell (M := isB m) (p := ⟨w.heap.size, 1, none⟩) (v := .slice a2 (Go.Proofs.Ytohbglopgjbfcaa.look s k).2.length n2) gz (World.cell?_alloc_at (w := w) _ _ _ _ rfl)
  have HF3 := HF.keep K1 (notB h.nm)
  obtain ⟨w4, hst4, K3, K4, HD4⟩ := HD.store (w' := w3.drew) ((Keep.refl _ w3).drew) to hto hn _ _ HF3
  have K5 := K1.trans K3
  have H := mkHid (And.intro K5 HD4)
  clear h hk hto HF HF1 HL K1 K2 K3 K4 HD HF3 HD4 K5 n0 n1' n2' n3 gz
  go_enter Try.func52, Try.ntmps52
  go_wp2
  go_region
  all_goals
    go_wp2
    go_region
    all_goals
      go_wp2
      go_region
      all_goals
        go_wp2
        go_end0
        exact ⟨rfl, H.out.1, H.out.2⟩
end Go.Proofs.Ytohbglopgjbfcaa
