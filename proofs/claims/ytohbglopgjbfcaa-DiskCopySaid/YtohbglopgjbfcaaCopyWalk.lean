/-
  suretylaw17.DiskCopy: the walk: true, at every input.
-/
import Derived.Test.YtohbglopgjbfcaaCopy
set_option linter.unusedVariables false
set_option linter.unusedSimpArgs false
namespace Go.Proofs.Ytohbglopgjbfcaa
open Go.RowKit

theorem ActsAt.mono {w : World} {S S' : Nat → Prop} {a : Option Addr} {L : List ActV} (h : ActsAt w S a L) (hs : ∀ b, b < w.heap.size → S b → S' b) : ActsAt w S' a L :=
  ⟨h.el.mono hs, fun x hx => have q := h.ok x hx; ⟨q.k0, q.k1, q.q0, q.q1, q.nm, q.to, q.cap, q.capm, q.b.mono hs⟩⟩

/-- the copies side by side, made behind wr. -/
theorem joint_copy {wr w5 W : World} {bx c n : Nat} {s : DS} {x : RS} {Sd Sx T : Nat → Prop} (o0 : 0 ≤ s.ops) (o1 : s.ops ≤ c) (p0 : 0 ≤ x.ops) (p1 : x.ops ≤ c) (len : x.L.length ≤ c) (hn : n ≤ c)
    (hSd : ∀ b, Sd b → b < wr.heap.size) (hSx : ∀ b, Sx b → b < wr.heap.size) (hX : XAt wr Sx T bx x)
    (hD5 : DiskAt w5 Sd wr.heap.size (wr.heap.size + 1) n s) (k5 : Keep noM wr w5) (hs5 : w5.heap.size = wr.heap.size + 2)
    (by_ : Nat) (kW : Keep noM w5 W) (a' : Option Addr) (c' : Nat) (R : Row) (hR : R.map (·.1) = x.L) (hF : ∀ p ∈ R, FileOk wr Sx p.1 p.2)
    (own : W.ownsRow w5.heap.size 75 3 (.slice a' R.length c') R.length (Row.cells R)) (hby : W.heap[by_]? = some (.cells #[.slice a' R.length c', .int .i64 x.fuse, .bool x.dead, .int .i64 x.ops] 34 (0, 0)))
    (hlt : w5.heap.size ≤ by_) (hne : ∀ b, (Value.slice a' R.length c').ownBlock = some b → b ≠ by_) :
    Joint wr W wr.heap.size (wr.heap.size + 1) by_ s x c := by
  have hsz := kW.size
  have hk := k5.trans kW
  refine ⟨hk, Nat.le_refl _, by omega, by omega, by omega, by omega, ⟨n, Sd, fun b => b < wr.heap.size, fun b => (Value.slice a' R.length c').ownBlock = some b, hn, hD5.keep kW (fun _ _ => not_noM _) (not_noM _) (not_noM _), ?_, ?_, ?_, ?_, fun b hb => hb⟩, o0, o1, p0, p1, len⟩
  · refine ⟨⟨a', c', R, hR, hby, ⟨own.1, ?_⟩, ?_, fun p hp => ((hF p hp).keep hk (fun _ _ => not_noM _)).mono (fun b _ hb => hSx b hb)⟩, ?_, by omega, hX.fuse0, hX.fuse1⟩
    · rcases own.2 with h | ⟨g, cap, cur, e, hb, r⟩
      · exact .inl h
      · exact .inr ⟨g, cap, cur, e, Nat.zero_le _, r⟩
    · intro p hp; subst hp; simp [Value.ownBlock]
    · intro b hb
      have := own.lt b hb
      exact ⟨by omega, hne b hb, this.2⟩
  · intro b hb
    have h1 := hSd b hb
    refine ⟨by omega, by omega, fun e => ?_⟩
    have := (own.lt b e).1
    omega
  · intro b hb
    have hb : b < wr.heap.size := hb
    omega
  · intro b hb
    have := (own.lt b hb).1
    omega

def CopySt (wr W : World) (c' m' by_ c : Nat) : Prop := ∃ s x, Joint wr W c' m' by_ s x c ∧ Alike s x

set_option maxRecDepth 100000 in
set_option maxHeartbeats 8000000 in
theorem copy_any (w : World) (sa ma : Option Addr) (scap mcap : Nat) (L M : List ActV) (hA : ActsAt w (fun b => b < w.heap.size) sa L) (hL : L.length ≤ maxLen) (hB : ActsAt w (fun b => b < w.heap.size) ma M) (hM : M.length ≤ maxLen) :
    Calls Try.prog 5 #[.slice sa L.length scap, .slice ma M.length mcap] w fun e w' => e = .returned (.bool true) ∧ Keep noM w w' := by
  have HH := mkHid (And.intro hA (And.intro hL (And.intro hB hM)))
  clear hA hL hB hM
  go_enter Try.func5, Try.ntmps5
  go_wp2_with fail
  refine (great_any w _ sa L scap HH.out.1 HH.out.2.1).mono ?_
  rintro e w1 ⟨g, rfl, hg, rfl⟩
  have HG := mkHid hg
  clear hg
  cases g
  · go_wp2_with fail
    refine (great_any w _ ma M mcap HH.out.2.2.1 HH.out.2.2.2).mono ?_
    rintro e w1 ⟨g, rfl, hg, rfl⟩
    have HG2 := mkHid hg
    clear hg
    cases g
    · go_wp2_with fail
      refine (play_new w w (Keep.refl _ _)).mono ?_
      rintro e w3 ⟨rfl, K1, P1⟩
      obtain ⟨d, hd⟩ : ∃ d, d = w.heap.size + 1 := ⟨_, rfl⟩
      obtain ⟨m, hm⟩ : ∃ m, m = w.heap.size := ⟨_, rfl⟩
      rw [← hd, ← hm] at P1
      rw [← hd]
      have H1 := mkHid P1
      clear P1 K1 hd hm
      go_wp2_with fail
      obtain ⟨bx, hbx⟩ : ∃ bx, bx = w3.heap.size := ⟨_, rfl⟩
      have J0 := joint_start H1.out
      obtain ⟨w4, hw4⟩ : ∃ w4, w4 = w3.alloc (.cells #[.slice none 0 0, .int .i64 0, .bool false, .int .i64 0] 34) := ⟨_, rfl⟩
      rw [← hbx, ← hw4] at J0
      rw [← hbx, ← hw4]
      clear hbx hw4
      have HJ0 := mkHid J0
      clear J0
      go_loopw [7] (fun i wr => ∃ j : Nat, j ≤ L.length ∧ j ≤ 60 ∧ i = .int .i64 j ∧ CopySt w wr d m bx (2 * j)) (fun i _ => L.length - (intOf i).toNat)
      case atStart => exact ⟨0, by omega, by omega, rfl, DS.new, _, HJ0.out, Alike.new⟩
      case round =>
        obtain ⟨j, hj, hj60, rfl, s, x, J, ha⟩ := hrel
        have HJ := mkHid (And.intro J ha)
        clear J ha
        by_cases hlt : j < L.length ∧ j < 60
        · obtain ⟨hlt, h60⟩ := hlt
          obtain ⟨b5, off, rfl, hb, e0, e1, e2, e3, e4⟩ := (HH.out.1.keep HJ.out.1.kp (fun _ _ => not_noM _)).at j hlt
          obtain ⟨av, hav⟩ : ∃ av, av = L[j] := ⟨_, rfl⟩
          rw [← hav] at e0 e1 e2 e3 e4
          have hok : ActOk w (fun b => b < w.heap.size) av := by rw [hav]; exact HH.out.1.ok _ (List.getElem_mem _)
          have hfit : av.fit := by rw [hav]; exact HG.out trivial _ (List.mem_take_iff_getElem.2 ⟨j, by omega, rfl⟩)
          have HAV := mkHid (And.intro hok hfit)
          clear hav hok hfit
          obtain ⟨kd, nm, to, ab, cb2, bs, q⟩ := av
          simp only at e0 e1 e2 e3 e4
          go_wp2_with fail
          refine (do_any w _ d m bx (2 * j) s x HJ.out.1 (by omega) ⟨kd, nm, to, ab, cb2, bs, q⟩ (HAV.out.1.keep HJ.out.1.kp (fun _ _ => not_noM _)) HAV.out.2).mono ?_
          rintro e w5 ⟨rfl, J5⟩
          have hst := HJ.out.2.step ⟨kd, nm, to, ab, cb2, bs, q⟩
          rw [hst.2]
          have H5 := mkHid (And.intro J5 hst.1)
          clear J5 hst
          go_wp2
          go_roundw
          case rel => exact ⟨j + 1, by omega, by omega, by go_num, _, _, H5.out.1.more (by omega), H5.out.2⟩
          case measure => simp [intOf]; omega
        · have hx1 : j < L.length → 60 ≤ j := fun h => by omega
          have HX1 := mkHid hx1
          clear hlt hx1
          have h2 : j < L.length → (60 : Int) ≤ (j : Int) := fun h => by have := HX1.out h; omega
          have h3 : j < L.length → decide ((j : Int) < 60) = false := fun h => decide_eq_false (by have := h2 h; omega)
          obtain ⟨cc, hcc⟩ : ∃ cc, cc = 2 * j := ⟨_, rfl⟩
          have hcc2 : cc ≤ 120 := by omega
          have HJ : Hid (Joint w wr d m bx s x cc ∧ Alike s x) := mkHid (by rw [hcc]; exact HJ.out)
          clear hcc
          by_cases h1 : j < L.length
          all_goals first
            | (have h2 := h2 h1
               have h3 := h3 h1
               go_wp2_with fail)
            | (clear h2 h3
               go_wp2_with fail)
          all_goals
            obtain ⟨wo, hwo⟩ : ∃ wo : World, wo = wr := ⟨_, rfl⟩
            rw [← hwo]
            have HJ : Hid (Joint w wo d m bx s x cc ∧ Alike s x) := mkHid (by rw [hwo]; exact HJ.out)
            clear hwo
            obtain ⟨n, Sd, Sx, T, hn, hD, hX, hSd, hSx, hT, hA⟩ := HJ.out.1.st
            obtain ⟨a, cap, R, hR, hbo, hown, hTa, hF⟩ := hX.cells
            have hrow := rowAt_in hown hTa
            have hnc : R.length ≤ cap ∧ cap ≤ maxLen := by obtain ⟨_, _, e, h1, h2, _⟩ := owned_shape hown; cases e; exact ⟨h1, h2⟩
            have hlen : R.length ≤ 120 := by have h9 := HJ.out.1.len; rw [← hR] at h9; simp at h9; omega
            have HS := mkHid (And.intro hn (And.intro hD (And.intro hX (And.intro hSd (And.intro hSx (And.intro hR (And.intro hbo (And.intro hrow (And.intro hF hnc)))))))))
            clear hn hD hX hSd hSx hT hA hR hbo hown hTa hF hrow hnc
            refine (Copy_any wo Sd (fun b hb => (HS.out.2.2.2.1 b hb).1) d m n s HS.out.2.1).mono ?_
            rintro e w5 ⟨rfl, K5, D5, s5⟩
            have H5 := mkHid (And.intro K5 (And.intro D5 s5))
            clear K5 D5 s5
            have hc0 : wo.cell? ⟨bx, 0, none⟩ = some (.slice a R.length cap) := by simp [World.cell?, HS.out.2.2.2.2.2.2.1]
            have hc1 : wo.cell? ⟨bx, 1, none⟩ = some (.int .i64 x.fuse) := by simp [World.cell?, HS.out.2.2.2.2.2.2.1]
            have hc2 : wo.cell? ⟨bx, 2, none⟩ = some (.bool x.dead) := by simp [World.cell?, HS.out.2.2.2.2.2.2.1]
            have hc3 : wo.cell? ⟨bx, 3, none⟩ = some (.int .i64 x.ops) := by simp [World.cell?, HS.out.2.2.2.2.2.2.1]
            have q0 := H5.out.1.cell (M := noM) (not_noM _) hc0
            have q1 := H5.out.1.cell (M := noM) (not_noM _) hc1
            have q2 := H5.out.1.cell (M := noM) (not_noM _) hc2
            have q3 := H5.out.1.cell (M := noM) (not_noM _) hc3
            clear hc0 hc1 hc2 hc3
            have own0 : ((w5.alloc (.cells #[] 75)).drew).ownsRow w5.heap.size 75 3 (.slice (some ⟨w5.heap.size, 0, none⟩) 0 0) 0 [] := World.ownsRow_made w5 #[] 0 (Nat.le_refl _) (by simp) rfl
            have hr0 : RowAt ((w5.alloc (.cells #[] 75)).drew) T a (Row.cells R) := ((HS.out.2.2.2.2.2.2.2.1.keep H5.out.1 (fun _ _ => not_noM _)).keep ((alloc_keep noM w5 (.cells #[] 75)).drew) (fun _ _ => not_noM _))
            obtain ⟨i0, hi, hz0, hz1, hz2⟩ := info_parts3 Try.infoFile
            have hnb : (0 + R.length) * 64 ≤ 140737488355328 := by omega
            have hnm : 0 + R.length ≤ maxLen := by unfold maxLen; omega
            have hbz : w5.heap.size ≤ ((w5.alloc (.cells #[] 75)).drew).heap.size := by simp
            go_wp2_with fail
            go_region_held3 (fun w' => w'.cell? ⟨bx, 0, none⟩ = some (.slice a R.length cap) ∧ w'.cell? ⟨bx, 1, none⟩ = some (.int .i64 x.fuse) ∧ w'.cell? ⟨bx, 2, none⟩ = some (.bool x.dead) ∧ w'.cell? ⟨bx, 3, none⟩ = some (.int .i64 x.ops))
              (first | exact ⟨q0, q1, q2, q3⟩ | exact ⟨z0, z1, z2, z3⟩ | go_keep)
              ((refine step_append_row (by rfl) _ _ _ (by rfl) w5.heap.size 75 i0 _ 3 64 Try.underlying32 hi hz0 hz1 hz2 rfl (by omega) (.slice (some ⟨w5.heap.size, 0, none⟩) 0 0) 0 [] (by rfl) own0 T a R.length cap (Row.cells R) (by rfl) hr0 (by rw [Row.length_cells]; omega) (rowcells_one R) hnm hnb hbz ?_; intro v1 w6 own1 hgrow; have kg : Keep noM w5 w6 := ((alloc_keep noM w5 (.cells #[] 75)).drew).grown hgrow (fun k e => .inr (by simp [Value.ownBlock] at e; omega)); have z0 := kg.cell (M := noM) (not_noM _) q0; have z1 := kg.cell (M := noM) (not_noM _) q1; have z2 := kg.cell (M := noM) (not_noM _) q2; have z3 := kg.cell (M := noM) (not_noM _) q3; rw [List.nil_append, Nat.zero_add] at own1; obtain ⟨a1, c1, hv1, l1, l2, l3⟩ := owned_shape own1; subst hv1; have HK := mkHid (And.intro kg (And.intro own1 (And.intro l1 l2))); clear kg own1 hgrow own0 hr0 hi hz0 hz1 hz2 l1 l2 l3))
            go_wp2_with fail
            obtain ⟨W, hW⟩ : ∃ W, W = w6.alloc (.cells #[.slice a1 R.length c1, .int .i64 x.fuse, .bool x.dead, .int .i64 x.ops] 34) := ⟨_, rfl⟩
            obtain ⟨yb, hyb⟩ : ∃ yb, yb = w6.heap.size := ⟨_, rfl⟩
            obtain ⟨c', hc'⟩ : ∃ c', c' = wo.heap.size := ⟨_, rfl⟩
            have JC : Joint wo W wo.heap.size (wo.heap.size + 1) yb s x cc := by
              have k6 := alloc_keep noM w6 (.cells #[.slice a1 R.length c1, .int .i64 x.fuse, .bool x.dead, .int .i64 x.ops] 34)
              rw [← hW] at k6
              refine joint_copy HJ.out.1.o0 HJ.out.1.o1 HJ.out.1.p0 HJ.out.1.p1 HJ.out.1.len HS.out.1 (fun b hb => (HS.out.2.2.2.1 b hb).1) (fun b hb => (HS.out.2.2.2.2.1 b hb).1) HS.out.2.2.1 H5.out.2.1 H5.out.1 H5.out.2.2 yb (HK.out.1.trans k6) a1 c1 R HS.out.2.2.2.2.2.1 HS.out.2.2.2.2.2.2.2.2.1 (ownsRow_keep HK.out.2.1 k6 (fun _ _ => not_noM _)) ?_ ?_ ?_
              · rw [hW, hyb]; exact heap_alloc_new w6 _
              · rw [hyb]; exact HK.out.1.size
              · intro b hb; have := (HK.out.2.1.lt b hb).2; omega
            rw [← hW, ← hyb, ← hc']
            rw [← hc'] at JC
            have HJC := mkHid JC
            have HC' := mkHid hc'
            clear hW hyb hc' JC q0 q1 q2 q3 z0 z1 z2 z3 hnb hnm hbz
            go_loopw [10] (fun i wr => ∃ k : Nat, k ≤ M.length ∧ k ≤ 60 ∧ i = .int .i64 k ∧ CopySt wo wr c' (c' + 1) yb (cc + 2 * k)) (fun i _ => M.length - (intOf i).toNat)
            case atStart => exact ⟨0, by omega, by omega, rfl, s, x, HJC.out, HJ.out.2⟩
            case round =>
              obtain ⟨k, hk, hk60, rfl, s2, x2, J2, ha2⟩ := hrel
              have HJ2 := mkHid (And.intro J2 ha2)
              clear J2 ha2
              by_cases hlt : k < M.length ∧ k < 60
              · obtain ⟨hlt, h60⟩ := hlt
                have hMo : ActsAt wo (fun b => b < wo.heap.size) ma M := (HH.out.2.2.1.keep HJ.out.1.kp (fun _ _ => not_noM _)).mono (fun b hb _ => hb)
                obtain ⟨b5, off, rfl, hb, e0, e1, e2, e3, e4⟩ := (hMo.keep HJ2.out.1.kp (fun _ _ => not_noM _)).at k hlt
                obtain ⟨av, hav⟩ : ∃ av, av = M[k] := ⟨_, rfl⟩
                rw [← hav] at e0 e1 e2 e3 e4
                have hok : ActOk wo (fun b => b < wo.heap.size) av := by rw [hav]; exact hMo.ok _ (List.getElem_mem _)
                have hfit : av.fit := by rw [hav]; exact HG2.out trivial _ (List.mem_take_iff_getElem.2 ⟨k, by omega, rfl⟩)
                have HAV := mkHid (And.intro hok hfit)
                clear hav hok hfit hMo
                obtain ⟨kd, nm, to, ab, cb2, bs, q⟩ := av
                simp only at e0 e1 e2 e3 e4
                go_wp2_with fail
                refine (do_any wo _ c' (c' + 1) yb (cc + 2 * k) s2 x2 HJ2.out.1 (by omega) ⟨kd, nm, to, ab, cb2, bs, q⟩ (HAV.out.1.keep HJ2.out.1.kp (fun _ _ => not_noM _)) HAV.out.2).mono ?_
                rintro e w7 ⟨rfl, J7⟩
                have hst := HJ2.out.2.step ⟨kd, nm, to, ab, cb2, bs, q⟩
                rw [hst.2]
                have H7 := mkHid (And.intro J7 hst.1)
                clear J7 hst
                go_wp2_with fail
                refine (joint_same H7.out.1 (by omega) H7.out.2).mono ?_
                rintro e w8 ⟨rfl, K8⟩
                have H8 := mkHid (And.intro (H7.out.1.keep K8) (H7.out.1.kp.trans K8))
                clear K8
                go_wp2_with fail
                refine (joint_same (HJ.out.1.keep H8.out.2) (by omega) HJ.out.2).mono ?_
                rintro e w9 ⟨rfl, K9⟩
                have H9 := mkHid (H8.out.1.keep K9)
                clear K9
                go_wp2
                go_roundw
                case rel => exact ⟨k + 1, by omega, by omega, by go_num, _, _, H9.out.more (by omega), H7.out.2⟩
                case measure => simp [intOf]; omega
              · have hx1 : k < M.length → 60 ≤ k := fun h => by omega
                have HX2 := mkHid hx1
                clear hlt hx1
                have h5 : k < M.length → (60 : Int) ≤ (k : Int) := fun h => by have := HX2.out h; omega
                have h6 : k < M.length → decide ((k : Int) < 60) = false := fun h => decide_eq_false (by have := h5 h; omega)
                by_cases h4 : k < M.length
                all_goals first
                  | (have h5 := h5 h4
                     have h6 := h6 h4
                     go_wp2_with fail)
                  | (clear h5 h6
                     go_wp2_with fail)
                all_goals
                  refine (awake17_any _).mono ?_
                  rintro e w10 ⟨rfl, K10⟩
                  have H10 := mkHid ((HJ.out.1.kp.trans HJ2.out.1.kp).trans K10)
                  clear K10
                  go_wp2
                  go_ret
                  exact ⟨rfl, H10.out⟩
    · go_wp2_with fail
      refine (awake17_any _).mono ?_
      rintro e w1 ⟨rfl, K1⟩
      have K1 := mkHid K1
      go_wp2
      go_ret
      exact ⟨rfl, K1.out⟩
  · go_wp2_with fail
    refine (awake17_any _).mono ?_
    rintro e w1 ⟨rfl, K1⟩
    have K1 := mkHid K1
    go_wp2
    go_ret
    exact ⟨rfl, K1.out⟩
end Go.Proofs.Ytohbglopgjbfcaa
