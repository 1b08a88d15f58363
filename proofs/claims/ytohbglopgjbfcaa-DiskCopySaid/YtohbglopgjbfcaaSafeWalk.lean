/-
  suretylaw17.DiskSafe: the walk: true, at every input.
-/
import Derived.Test.YtohbglopgjbfcaaDoAll
import Derived.Test.YtohbglopgjbfcaaAwake17
set_option linter.unusedVariables false
set_option linter.unusedSimpArgs false
namespace Go.Proofs.Ytohbglopgjbfcaa
open Go.RowKit

/-- a disk in play, and a reference without files, newly made. -/
theorem joint_start {w0 w : World} {d m c : Nat} {s : DS} (h : Play w0 w d m s c) :
    Joint w0 (w.alloc (.cells #[.slice none 0 0, .int .i64 0, .bool false, .int .i64 0] 34)) d m w.heap.size s { L := [], fuse := 0, dead := false, ops := 0 } c := by
  obtain ⟨n, hn, hD⟩ := h.disk
  have k := alloc_keep noM w (.cells #[.slice none 0 0, .int .i64 0, .bool false, .int .i64 0] 34)
  have hs := h.kp.size
  have hdm := hD.lt
  refine ⟨h.kp.trans k, h.hd, h.hm, hs, by omega, by omega, ⟨n, PS w0 w d m, fun b => b < w0.heap.size, fun _ => False, hn, hD.keep k (fun _ _ => not_noM _) (not_noM _) (not_noM _), ?_, ?_, ?_, fun _ h => h.elim, fun _ h => h⟩, h.o0, h.o1, by simp, by simp, by simp⟩
  · refine ⟨⟨none, 0, [], rfl, by simpa using heap_alloc_new w _, World.ownsRow_nil _ _ _ _, by simp, by simp⟩, fun _ h => h.elim, by omega, by simp, by simp⟩
  · intro b hb
    have := hb.2.1
    exact ⟨by simp; omega, by omega, fun h => h⟩
  · intro b hb
    have h1 := h.hd
    have h2 := h.hm
    exact ⟨by simp; omega, by omega, by omega⟩

theorem joint_read {w0 w : World} {d m bx c : Nat} {s : DS} {x : RS} (h : Joint w0 w d m bx s x c) (k : Bs) (hk : k.length ≤ maxLen) :
    Calls Try.prog 12 #[.pointer (some ⟨d, 0, none⟩), .string ⟨k.toArray⟩] w (ReadPost w s k) := by
  obtain ⟨n, Sd, Sx, T, hn, hD, _⟩ := h.st
  exact Read_any w _ d m n s hD k hk
/-- what the loop keeps. -/
def SafeSt (w wr : World) (d m bx : Nat) (xs : Bs) (c : Nat) : Prop := ∃ s x, Joint w wr d m bx s x c ∧ s.f keptB = some (xs, xs)

def sfA (xs : Bs) : DS := DS.new.write keptB xs
def sfB (xs : Bs) : DS := (sfA xs).doS ((sfA xs).preE [keptB] keptB) ((sfA xs).f.put keptB ((look (sfA xs) keptB).1, (look (sfA xs) keptB).1))
theorem sfA_e (xs : Bs) (h : xs.length ≤ 2000) : DS.new.writeE keptB xs = 0 := by
  simp [DS.writeE, DS.new, namesE, keptB_word, DS.putE, DS.codeOf, DS.burnt]; omega
theorem sfA_eq (xs : Bs) (h : xs.length ≤ 2000) : sfA xs = { f := DS.new.f.put keptB (xs, []), fuse := 0, dead := false, ops := 1 } := by
  have h4 : ¬ 262144 < xs.length := by omega
  simp [sfA, DS.write, DS.new, namesE, keptB_word, DS.putB, DS.burn, look, h4]
theorem sfB_e (xs : Bs) (h : xs.length ≤ 2000) : (sfA xs).doE ((sfA xs).preE [keptB] keptB) = 0 := by
  rw [sfA_eq xs h]
  simp [DS.doE, DS.preE, namesE, keptB_word, DS.codeOf, DS.burnt, Files.put]
theorem sfB_f (xs : Bs) (h : xs.length ≤ 2000) : (sfB xs).f keptB = some (xs, xs) := by
  unfold sfB
  rw [sfA_eq xs h]
  simp [DS.doS, DS.preE, namesE, keptB_word, DS.burnt, Files.put, look, DS.burn]

set_option maxRecDepth 100000 in
set_option maxHeartbeats 4000000 in
theorem safe_any (w : World) (sa : Option Addr) (scap : Nat) (L : List ActV) (hA : ActsAt w (fun b => b < w.heap.size) sa L) (hL : L.length ≤ maxLen) (a b : Option Addr) (ca cb : Nat) (xs more : Bs) (hx : BytesAt w (fun b => b < w.heap.size) a xs) (hy : BytesAt w (fun b => b < w.heap.size) b more)
    (keep : Int) (k0 : -9223372036854775808 ≤ keep) (k1 : keep ≤ 9223372036854775807) :
    Calls Try.prog 3 #[.slice sa L.length scap, .slice a xs.length ca, .slice b more.length cb, .int .i64 keep] w fun e w' => e = .returned (.bool true) ∧ Keep noM w w' := by
  by_cases hl : xs.length ≤ 2000 ∧ more.length ≤ 2000
  · obtain ⟨hx2, hy2⟩ := hl
    have HH := mkHid (And.intro hA (And.intro hx (And.intro hy (And.intro k0 (And.intro k1 hL)))))
    clear hA hx hy k0 k1 hL
    go_enter Try.func3, Try.ntmps3
    go_wp2_with fail
    refine (great_any w _ sa L scap HH.out.1 HH.out.2.2.2.2.2).mono ?_
    rintro e w1 ⟨g, rfl, hg, rfl⟩
    have HG := mkHid hg
    clear hg
    cases g
    · go_wp2_with fail
      refine (play_new w w (Keep.refl _ _)).mono ?_
      rintro e w1 ⟨rfl, K1, P1⟩
      obtain ⟨d, hd⟩ : ∃ d, d = w.heap.size + 1 := ⟨_, rfl⟩
      obtain ⟨m, hm⟩ : ∃ m, m = w.heap.size := ⟨_, rfl⟩
      rw [← hd, ← hm] at P1
      rw [← hd]
      have H1 := mkHid P1
      clear P1 K1 hd hm
      go_wp2_with fail
      refine (play_write H1.out (by omega) keptB xs (by unfold maxLen; decide) a ca _ (HH.out.2.1.keep H1.out.kp (fun _ _ => not_noM _)) (by omega)).mono ?_
      rintro e w2 ⟨rfl, K2, P2⟩
      have H2 : Hid (Play w w2 d m (sfA xs) 1) := mkHid P2
      rw [sfA_e xs hx2]
      clear P2 K2
      go_wp2_with fail
      refine (play_sync H2.out (by omega) keptB (by unfold maxLen; decide)).mono ?_
      rintro e w3 ⟨rfl, K3, P3⟩
      have H3 : Hid (Play w w3 d m (sfB xs) 2) := mkHid P3
      rw [sfB_e xs hx2]
      clear P3 K3
      go_wp2_with fail
      obtain ⟨bx, hbx⟩ : ∃ bx, bx = w3.heap.size := ⟨_, rfl⟩
      have J0 := joint_start H3.out
      obtain ⟨w4, hw4⟩ : ∃ w4, w4 = w3.alloc (.cells #[.slice none 0 0, .int .i64 0, .bool false, .int .i64 0] 34) := ⟨_, rfl⟩
      rw [← hbx, ← hw4] at J0
      rw [← hbx, ← hw4]
      clear hbx hw4
      have HJ0 := mkHid J0
      clear J0
      go_loopw [11] (fun i wr => ∃ j : Nat, j ≤ L.length ∧ j ≤ 60 ∧ i = .int .i64 j ∧ SafeSt w wr d m bx xs (2 + 2 * j)) (fun i _ => L.length - (intOf i).toNat)
      case atStart => exact ⟨0, by omega, by omega, rfl, sfB xs, _, HJ0.out, sfB_f xs hx2⟩
      case round =>
        obtain ⟨j, hj, hj60, rfl, s, x, J, hs⟩ := hrel
        have HJ := mkHid (And.intro J hs)
        clear J hs
        by_cases hlt : j < L.length ∧ j < 60
        · obtain ⟨hlt, h60⟩ := hlt
          obtain ⟨b5, off, rfl, hb, e0, e1, e2, e3, e4⟩ := (HH.out.1.keep HJ.out.1.kp (fun _ _ => not_noM _)).at j hlt
          obtain ⟨av, hav⟩ : ∃ av, av = L[j] := ⟨_, rfl⟩
          rw [← hav] at e0 e1 e2 e3 e4
          have hok : ActOk w (fun b => b < w.heap.size) av := by rw [hav]; exact HH.out.1.ok _ (List.getElem_mem _)
          have hfit : av.fit := by rw [hav]; exact HG.out trivial _ (List.mem_take_iff_getElem.2 ⟨j, by omega, rfl⟩)
          have HAV := mkHid (And.intro hok hfit)
          clear hav hok hfit
          obtain ⟨kd, nm, to, ab, cb2, bs, q⟩ := av
          simp only at e0 e1 e2 e3 e4
          by_cases hn : nm = keptB
          · subst hn
            go_wp2
            go_roundw
            case rel => exact ⟨j + 1, by omega, by omega, by go_num, s, x, (HJ.out.1.keep (alloc_keep _ _ _)).more (by omega), HJ.out.2⟩
            case measure => simp [intOf]; omega
          · by_cases ht : to = keptB
            · subst ht
              have n1 : (nm == [107, 101, 112, 116]) = false := by rw [beq_eq_false_iff_ne]; exact hn
              have HN := mkHid hn
              clear hn
              go_wp2
              go_roundw
              case rel => exact ⟨j + 1, by omega, by omega, by go_num, s, x, (HJ.out.1.keep (alloc_keep _ _ _)).more (by omega), HJ.out.2⟩
              case measure => simp [intOf]; omega
            · have n1 : (nm == [107, 101, 112, 116]) = false := by rw [beq_eq_false_iff_ne]; exact hn
              have n2 : (to == [107, 101, 112, 116]) = false := by rw [beq_eq_false_iff_ne]; exact ht
              have HN := mkHid (And.intro hn ht)
              clear hn ht
              go_wp2_with fail
              have hka := alloc_keep noM wr (.cells #[.int .i64 kd, .string ⟨nm.toArray⟩, .string ⟨to.toArray⟩, .slice ab bs.length cb2, .int .i64 q] 36)
              refine (do_any w _ d m bx (2 + 2 * j) s x (HJ.out.1.keep hka) (by omega) ⟨kd, nm, to, ab, cb2, bs, q⟩ (HAV.out.1.keep ((HJ.out.1.keep hka).kp) (fun _ _ => not_noM _)) HAV.out.2).mono ?_
              rintro e w5 ⟨rfl, J5⟩
              have hs5 := stepS_safe s ⟨kd, nm, to, ab, cb2, bs, q⟩ keptB xs HN.out.1 HN.out.2 HJ.out.2
              obtain ⟨s5, hs5e⟩ : ∃ s5, s5 = stepS s ⟨kd, nm, to, ab, cb2, bs, q⟩ := ⟨_, rfl⟩
              rw [← hs5e] at J5 hs5
              have H5 := mkHid (And.intro J5 hs5)
              clear hka J5 hs5 hs5e
              go_wp2_with fail
              refine (joint_read H5.out.1 keptB (by unfold maxLen; decide)).mono ?_
              rintro e w6 ⟨a6, c6, rfl, K6, l1, l2, hb6⟩
              have hlook : (look s5 keptB).1 = xs := by simp [look, H5.out.2]
              have hsome : (s5.f keptB).isSome = true := by simp [H5.out.2]
              rw [hlook] at l1 hb6 ⊢
              rw [hsome]
              have H6 := mkHid (And.intro K6 (And.intro l1 (And.intro l2 hb6)))
              clear hlook hsome K6 l1 l2 hb6
              go_wp2_with fail
              have J6 := H5.out.1.keep H6.out.1
              refine (same_any a6 a xs xs c6 ca _ _ _ H6.out.2.2.2 (HH.out.2.1.keep J6.kp (fun _ _ => not_noM _)) (by unfold maxLen; omega) (by unfold maxLen; omega)).mono ?_
              rintro e w7 ⟨rfl, K7⟩
              have H7 := mkHid (J6.keep K7)
              clear J6 K7
              rw [decide_eq_true rfl]
              go_wp2
              go_roundw
              case rel => exact ⟨j + 1, by omega, by omega, by go_num, s5, _, H7.out, H5.out.2⟩
              case measure => simp [intOf]; omega
        · have hx1 : j < L.length → 60 ≤ j := fun h => by omega
          have HX1 := mkHid hx1
          clear hlt hx1
          have h2 : j < L.length → (60 : Int) ≤ (j : Int) := fun h => by have := HX1.out h; omega
          have h3 : j < L.length → decide ((j : Int) < 60) = false := fun h => decide_eq_false (by have := h2 h; omega)
          by_cases h1 : j < L.length
          all_goals first
            | (have h2 := h2 h1
               have h3 := h3 h1
               go_wp2_with fail)
            | (clear h2 h3
               go_wp2_with fail)
          all_goals
            refine (joint_boot HJ.out.1 (by omega) keep HH.out.2.2.2.1 HH.out.2.2.2.2.1).mono ?_
            rintro e w5 ⟨rfl, K5, J5⟩
            have H5 : Hid (Joint w w5 d m bx (sf1 s keep) x (2 + 2 * j + 1)) := mkHid J5
            clear K5 J5
            go_wp2_with fail
            refine (joint_append H5.out (by omega) keptB more (by unfold maxLen; decide) b cb _ (HH.out.2.2.1.keep H5.out.kp (fun _ _ => not_noM _)) (by omega)).mono ?_
            rintro e w6 ⟨rfl, K6, J6⟩
            have H6 : Hid (Joint w w6 d m bx (sf2 s keep more) x (2 + 2 * j + 1 + 1)) := mkHid J6
            rw [sf2_e s keep xs more HJ.out.2 hx2 hy2]
            clear K6 J6
            go_wp2_with fail
            refine (joint_boot H6.out (by omega) keep HH.out.2.2.2.1 HH.out.2.2.2.2.1).mono ?_
            rintro e w7 ⟨rfl, K7, J7⟩
            have H7 : Hid (Joint w w7 d m bx (sf3 s keep more) x (2 + 2 * j + 1 + 1 + 1)) := mkHid J7
            clear K7 J7
            go_wp2_with fail
            refine (joint_read H7.out keptB (by unfold maxLen; decide)).mono ?_
            rintro e w8 ⟨a8, c8, rfl, K8, l1, l2, hb8⟩
            obtain ⟨n8, m1, m2, hsome, hlook⟩ := sf3_f s keep xs more HJ.out.2 hx2 hy2
            rw [hlook] at l1 hb8 ⊢
            rw [hsome]
            obtain ⟨ys, hys⟩ : ∃ ys, ys = (xs ++ more).take n8 := ⟨_, rfl⟩
            rw [← hys] at l1 hb8 ⊢
            have hyl : ys.length = n8 := by rw [hys]; simp at m2 ⊢; omega
            have HY := mkHid (And.intro hys hyl)
            have y1 : xs.length ≤ ys.length := by omega
            have y2 : ys.length ≤ xs.length + more.length := by simp at m2; omega
            have H8 := mkHid (And.intro (H7.out.kp.trans K8) (And.intro l1 (And.intro l2 hb8)))
            clear hsome hlook hys hyl K8 l1 l2 hb8 m1 m2
            have own0 : (w8.alloc (.cells #[] 5)).ownsRow w8.heap.size 5 1 (.slice (some ⟨w8.heap.size, 0, none⟩) 0 0) ([] : Bs).length (bcells []) := World.ownsRow_made w8 #[] 0 (Nat.le_refl _) (by simp) rfl
            have hb1 := (HH.out.2.1.keep H8.out.1 (fun _ _ => not_noM _)).keep (alloc_keep noM w8 (.cells #[] 5)) (fun _ _ => not_noM _)
            have hb2 := (HH.out.2.2.1.keep H8.out.1 (fun _ _ => not_noM _)).keep (alloc_keep noM w8 (.cells #[] 5)) (fun _ _ => not_noM _)
            have hbz : ([] : Bs).length + xs.length ≤ 140737488355328 := by simp; omega
            have hsz0 : w8.heap.size ≤ (w8.alloc (.cells #[] 5)).heap.size := by simp
            go_wp2_with (at_builtin; first
              | (refine wpList_appendB rfl _ _ rfl w8.heap.size (.slice (some ⟨w8.heap.size, 0, none⟩) 0 0) [] rfl own0 a ca xs rfl _ hb1 hbz hsz0 ?_; intro v2 w2' own2 k2
                 rw [List.nil_append] at own2
                 have kk2 : Keep noM w8 w2' := (alloc_keep noM w8 (.cells #[] 5)).trans' k2 (fun i hi e => by simp [Value.ownBlock] at e; omega)
                 have hb2 := hb2.keep k2 (fun b hb e => by simp [Value.ownBlock] at e; have := H8.out.1.size; omega)
                 have hbz : xs.length + more.length ≤ 140737488355328 := by omega
                 have hsz0 : w8.heap.size ≤ w2'.heap.size := kk2.size
                 have HK2 := mkHid kk2
                 clear kk2 k2 own0 hb1)
              | (refine wpList_appendB rfl _ _ rfl w8.heap.size v2 xs rfl own2 b cb more rfl _ hb2 hbz hsz0 ?_; intro v3 w3' own3 k3
                 obtain ⟨a3, c3, rfl, l1, l2, l3⟩ := owned_shape own3
                 have kk3 : Keep noM w8 w3' := HK2.out.trans' k3 (fun i hi e => by have := (own2.lt i e).1; omega)
                 have y3 : ys.length ≤ c3 := by simp at l1; omega
                 have HK3 := mkHid (And.intro kk3 (And.intro l2 l3))
                 clear l1
                 clear kk3 k3 own2 own3 hb2 l2 l3))
            have hyt : BytesAt w3' (fun b => w8.heap.size ≤ b) a3 ys := by
              have h9 := HK3.out.2.2.take n8
              rw [← bcells_take, ← HY.out.1] at h9
              exact h9
            refine (same_any a8 a3 ys ys c8 c3 _ _ _ (H8.out.2.2.2.keep HK3.out.1 (fun _ _ => not_noM _)) hyt (by unfold maxLen; omega) (by unfold maxLen; omega)).mono ?_
            rintro e w9 ⟨rfl, K9⟩
            have H9 := mkHid ((H8.out.1.trans HK3.out.1).trans K9)
            clear hyt K9
            rw [decide_eq_true rfl]
            go_wp2_with fail
            refine (awake17_any _).mono ?_
            rintro e w10 ⟨rfl, K10⟩
            have H10 := mkHid (H9.out.trans K10)
            clear K10
            go_wp2
            go_ret
            exact ⟨rfl, H10.out⟩
    · go_wp2_with fail
      refine (awake17_any _).mono ?_
      rintro e w1 ⟨rfl, K1⟩
      have K1 := mkHid K1
      go_wp2
      go_ret
      exact ⟨rfl, K1.out⟩
  · have HH := mkHid (And.intro hA hL)
    clear hA hx hy k0 k1 hL
    go_enter Try.func3, Try.ntmps3
    go_wp2_with fail
    refine (great_any w _ sa L scap HH.out.1 HH.out.2).mono ?_
    rintro e w1 ⟨g, rfl, hg, rfl⟩
    clear hg
    by_cases h1 : 2000 < xs.length
    all_goals first
      | (have h2 : 2000 < more.length := by omega
         have h3 : xs.length ≤ 2000 := by omega
         clear hl h1
         cases g
         all_goals
           go_wp2_with fail
           refine (awake17_any _).mono ?_
           rintro e w1 ⟨rfl, K1⟩
           have K1 := mkHid K1
           go_wp2
           go_ret
           exact ⟨rfl, K1.out⟩)
      | (clear hl
         cases g
         all_goals
           go_wp2_with fail
           refine (awake17_any _).mono ?_
           rintro e w1 ⟨rfl, K1⟩
           have K1 := mkHid K1
           go_wp2
           go_ret
           exact ⟨rfl, K1.out⟩)
end Go.Proofs.Ytohbglopgjbfcaa
