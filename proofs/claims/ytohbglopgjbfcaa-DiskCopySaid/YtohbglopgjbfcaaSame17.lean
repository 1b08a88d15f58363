/-
  suretylaw17.same: true, where the disk and its reference are one.
-/
import Derived.Test.YtohbglopgjbfcaaNames
import Derived.Deep.RegionHeld3
set_option linter.unusedVariables false
set_option linter.unusedSimpArgs false
namespace Go.Proofs.Ytohbglopgjbfcaa
open Go.RowKit

theorem XAt.names {w : World} {S T : Nat → Prop} {bx : Nat} {x : RS} (h : XAt w S T bx x) : ∀ k ∈ x.L.map RF.name, k.length ≤ maxLen := by
  obtain ⟨a, cap, R, hR, hb, hown, hT, hF⟩ := h.cells
  intro k hk
  rw [← hR] at hk
  simp at hk
  obtain ⟨p, ⟨q, hp⟩, rfl⟩ := hk
  exact (hF _ hp).nm
theorem Alike.there {s : DS} {x : RS} (h : Alike s x) : ∀ k ∈ x.L.map RF.name, (s.f k).isSome = true := by
  intro k hk
  simp at hk
  obtain ⟨r, hr, rfl⟩ := hk
  rw [h.files]
  unfold lookL
  simp [List.find?_isSome]
  exact ⟨r, hr, rfl⟩

set_option maxRecDepth 100000 in
set_option maxHeartbeats 4000000 in
theorem same17_any (w : World) (Sd : Nat → Prop) (d m n : Nat) (s : DS) (hD : DiskAt w Sd d m n s) (hn : n ≤ 1000000) (Sx T : Nat → Prop) (bx : Nat) (x : RS) (hX : XAt w Sx T bx x) (hl : x.L.length ≤ 1000) (ha : Alike s x) :
    Calls Try.prog 16 #[.pointer (some ⟨d, 0, none⟩), .pointer (some ⟨bx, 0, none⟩)] w fun e w' => e = .returned (.bool true) ∧ Keep noM w w' := by
  have HN := Names_any w Sd d m n s hD hn x ha
  have hsome := ha.there
  have hnms := hX.names
  obtain ⟨l, hll⟩ : ∃ l, l = x.L.map RF.name := ⟨_, rfl⟩
  have hlen : l.length ≤ 1000 := by rw [hll]; simpa using hl
  rw [← hll] at HN hsome hnms
  obtain ⟨xa, xn, xc, m0, m1, m2, m3, g1, g2, g3⟩ := hX.mem
  rw [ha.dead] at m2
  rw [ha.ops] at m3
  obtain ⟨dd, hdd⟩ : ∃ dd, dd = s.dead := ⟨_, rfl⟩
  obtain ⟨oo, hoo⟩ : ∃ oo, oo = s.ops := ⟨_, rfl⟩
  rw [← hdd] at m2
  rw [← hoo] at m3
  have HH := mkHid (And.intro hD (And.intro hX (And.intro ha (And.intro HN (And.intro hsome (And.intro hnms (And.intro hl (And.intro hll (And.intro hdd hoo)))))))))
  have HM := mkHid (And.intro m2 m3)
  clear hD hX ha HN hsome hnms hl hll hdd hoo m0 m1 m2 m3 g1 g2 g3
  go_enter Try.func16, Try.ntmps16
  go_wp2_with fail
  refine (HH.out.2.2.2.1).mono ?_
  rintro e w1 ⟨a1, c1, rfl, K1, l1, l2, h1⟩
  have H1 := mkHid (And.intro K1 (And.intro l1 (And.intro l2 h1)))
  clear K1 l1 l2 h1
  have q2 : w1.drew.cell? ⟨bx, 2, none⟩ = some (.bool dd) := (World.cell?_drew w1 _).trans (H1.out.1.cell (M := noM) (not_noM _) HM.out.1)
  have q3 : w1.drew.cell? ⟨bx, 3, none⟩ = some (.int .i64 oo) := (World.cell?_drew w1 _).trans (H1.out.1.cell (M := noM) (not_noM _) HM.out.2)
  go_wp2_with fail
  go_region_held3 (fun w' => w'.cell? ⟨bx, 2, none⟩ = some (.bool dd) ∧ w'.cell? ⟨bx, 3, none⟩ = some (.int .i64 oo)) (first | exact ⟨q2, q3⟩ | exact ⟨y2, y3⟩ | exact ⟨z2, z3⟩) (first
    | (go_at_call 37; refine (RNames_any w1.drew Sx T bx x (HH.out.2.1.keep (H1.out.1.drew) (fun _ _ => not_noM _)) HH.out.2.2.2.2.2.2.1).mono ?_; rw [← HH.out.2.2.2.2.2.2.2.1]; rintro e w2 ⟨a2, c2, rfl, K2, l1, l2, h2⟩; have y2 := K2.cell (M := noM) (not_noM _) q2; have y3 := K2.cell (M := noM) (not_noM _) q3; have H2 := mkHid (And.intro (H1.out.1.drew.trans K2) (And.intro (H1.out.2.2.2.keep (Keep.trans (Keep.drew (Keep.refl noM w1)) K2) (fun _ _ => not_noM _)) h2)); clear K2 l1 l2 h2)
    | (go_at_call 36; refine (sameTexts_any a1 a2 l c1 c2 _ _ w2 H2.out.2.1 H2.out.2.2 (by unfold maxLen; omega)).mono ?_; rintro e w3 ⟨rfl, K3⟩; have z2 := K3.cell (M := noM) (not_noM _) y2; have z3 := K3.cell (M := noM) (not_noM _) y3; have H3 := mkHid (And.intro (H2.out.1.trans K3) (H2.out.2.1.keep K3 (fun _ _ => not_noM _))); clear K3)
    | (go_at_call 38; refine (Dead_any w3 Sd d m n s (HH.out.1.keep H3.out.1 (fun _ _ => not_noM _) (not_noM _) (not_noM _))).mono ?_; rw [← HH.out.2.2.2.2.2.2.2.2.1]; rintro e w4 ⟨rfl, rfl⟩)
    | (go_at_call 39; refine (Ops_any w3 Sd d m n s (HH.out.1.keep H3.out.1 (fun _ _ => not_noM _) (not_noM _) (not_noM _))).mono ?_; rw [← HH.out.2.2.2.2.2.2.2.2.2]; rintro e w4 ⟨rfl, rfl⟩))
  go_wp2_with fail
  go_loopw [6] (fun i wr => ∃ k : Nat, k ≤ l.length ∧ i = .int .i64 k ∧ Keep noM w3 wr) (fun i _ => l.length - (intOf i).toNat)
  case atStart => exact ⟨0, by omega, rfl, Keep.refl _ _⟩
  case round =>
    obtain ⟨k, hk, rfl, kp⟩ := hrel
    have hcn := H1.out.2.2.1
    have hcl := H1.out.2.1
    unfold maxLen at hcn
    by_cases hlt : k < l.length
    · obtain ⟨b1, o1, hae, e1⟩ := (H3.out.2.keep kp (fun _ _ => not_noM _)).str hlt
      subst hae
      obtain ⟨t, ht⟩ : ∃ t, t = l[k] := ⟨_, rfl⟩
      rw [← ht] at e1
      have hmem : t ∈ l := by rw [ht]; exact List.getElem_mem _
      have HT := mkHid (And.intro hmem (And.intro (HH.out.2.2.2.2.1 t hmem) (HH.out.2.2.2.2.2.1 t hmem)))
      have HK := mkHid (H3.out.1.trans kp)
      have HK0 := mkHid kp
      clear ht hmem kp
      go_wp2_with fail
      refine (Read_any wr Sd d m n s (HH.out.1.keep HK.out (fun _ _ => not_noM _) (not_noM _) (not_noM _)) t HT.out.2.2).mono ?_
      rintro e w4 ⟨a4, c4, rfl, K4, l1, l2, h4⟩
      rw [HT.out.2.1]
      have e1 := K4.cell (M := noM) (not_noM _) e1
      obtain ⟨ds, hds⟩ : ∃ ds, ds = (look s t).1 := ⟨_, rfl⟩
      rw [← hds] at l1 h4 ⊢
      have hdx : (x.file t).data = ds := by rw [hds, HH.out.2.2.1.look]
      have H4 := mkHid (And.intro K4 (And.intro l1 (And.intro l2 (And.intro h4 hdx))))
      clear K4 l1 l2 h4 hds hdx
      go_wp2_with fail
      refine (RRead_any w4 Sx T bx x (HH.out.2.1.keep (HK.out.trans H4.out.1) (fun _ _ => not_noM _)) HH.out.2.2.2.2.2.2.1 t HT.out.2.2).mono ?_
      rintro e w5 ⟨a5, c5, rfl, rfl, h5⟩
      rw [HH.out.2.2.1.has, HT.out.2.1]
      rw [H4.out.2.2.2.2] at h5 ⊢
      have H5 := mkHid h5
      clear h5
      go_wp2_with fail
      refine (same_any a4 a5 ds ds c4 c5 _ _ w4 H4.out.2.2.2.1 H5.out (by have := H4.out.2.1; have := H4.out.2.2.1; omega) (by have := H4.out.2.1; have := H4.out.2.2.1; omega)).mono ?_
      rintro e w6 ⟨rfl, K6⟩
      rw [decide_eq_true rfl]
      have H6 := mkHid ((HK0.out.trans H4.out.1).trans K6)
      clear K6
      go_wp2
      go_roundw
      case rel => exact ⟨k + 1, by omega, by go_num, H6.out⟩
      case measure => simp [intOf]; omega
    · have HK := mkHid (H3.out.1.trans kp)
      clear kp
      go_wp2
      go_ret
      exact ⟨rfl, HK.out⟩
end Go.Proofs.Ytohbglopgjbfcaa
