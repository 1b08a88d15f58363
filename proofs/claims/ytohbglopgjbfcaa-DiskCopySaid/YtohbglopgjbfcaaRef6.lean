/-
  THE REFERENCE DISK, PART 6: Do of an append (1).
-/
import Derived.Test.YtohbglopgjbfcaaRef5
import Derived.Test.YtohbglopgjbfcaaAppB
set_option linter.unusedVariables false
set_option linter.unusedSimpArgs false
namespace Go.Proofs.Ytohbglopgjbfcaa
open Go.RowKit

theorem XAt.more {w : World} {S S' T : Nat → Prop} {bx : Nat} {x : RS} (h : XAt w S T bx x) (hs : ∀ b, b < w.heap.size → S b → S' b) (hd : ∀ b, T b → ¬ S' b) (hb : ¬ S' bx) : XAt w S' T bx x := by
  obtain ⟨a, cap, R, hR, hb0, ho, hT, hF⟩ := h.cells
  exact ⟨⟨a, cap, R, hR, hb0, ho, hT, fun p hp => (hF p hp).mono hs⟩, fun b hb => ⟨hd b hb, (h.dT b hb).2.1, (h.dT b hb).2.2⟩, hb, h.fuse0, h.fuse1⟩
/-- the blocks made behind the box. -/
def S1 (w w3 : World) (S : Nat → Prop) : Nat → Prop := fun b => S b ∨ (w.heap.size + 1 ≤ b ∧ b < w3.heap.size)

set_option maxRecDepth 100000 in
set_option maxHeartbeats 4000000 in
theorem rdo1_any (w : World) (S T : Nat → Prop) (hS : ∀ b, S b → b < w.heap.size) (bx : Nat) (x : RS) (h : XAt w S T bx x) (hl : x.L.length ≤ 1000) (ho : 0 ≤ x.ops) (ho' : x.ops ≤ 1000000) (nm : Bs) (hnm : nm.length ≤ maxLen) (ab : Option Addr) (cb : Nat) (bs : Bs) (hbs : BytesAt w S ab bs) (hcb : bs.length ≤ cb) (hcm : cb ≤ maxLen) (hbz : bs.length ≤ 262144) :
    Calls Try.prog 25 #[.pointer (some ⟨bx, 0, none⟩), .int .i64 1, .string ⟨nm.toArray⟩, .string ⟨#[]⟩, .slice ab bs.length cb] w (DoPost w S T bx (x.doE (x.preW nm ((x.file nm).data ++ bs))) (x.doW (x.preW nm ((x.file nm).data ++ bs)) (putL x.L ⟨nm, (x.file nm).data ++ bs, (x.file nm).safe⟩))) := by
  obtain ⟨a, n, cap, c0, c1, c2, c3, f1, f2, f3⟩ := h.mem
  have hbx := h.lt
  have hne : bx ≠ w.heap.size := by omega
  have hne' : w.heap.size ≠ bx := by omega
  have HH := mkHid (And.intro h (And.intro hS (And.intro hl (And.intro ho ho'))))
  have HBS := mkHid (And.intro hbs (And.intro hcb hcm))
  have q0 := h.fuse0
  have q1 := h.fuse1
  obtain ⟨dead, hd⟩ : ∃ d, d = x.dead := ⟨_, rfl⟩
  rw [← hd] at c2
  have HD := mkHid hd
  clear h hS hl hd hbs hcb hcm
  cases dead
  · go_enter Try.func25, Try.ntmps25
    go_wp2_with fail
    refine (RWord_any nm hnm _).mono ?_
    rintro e w1 ⟨rfl, rfl⟩
    obtain ⟨wd, hwd⟩ : ∃ b, b = word nm := ⟨_, rfl⟩
    rw [← hwd]
    have HW := mkHid hwd
    clear hwd
    cases wd
    · go_wp2
      go_ret
      rw [show x.preW nm ((x.file nm).data ++ bs) = 1 by simp [RS.preW, ← HD.out, ← HW.out]]
      exact DoPost.stayW HH.out.1 HH.out.2.1 1 (by decide) _
    · go_wp2_with fail
      refine (find_any w S T bx x HH.out.1 (by have := HH.out.2.2.1; omega) nm hnm).mono ?_
      rintro e w1 ⟨rfl, rfl⟩
      by_cases hf : findN x.L nm < x.L.length
      · rw [show findI x.L nm = (findN x.L nm : Int) by simp [findI, hf]]
        obtain ⟨b, off, n', cap', y, c0', hlt, hbl, hok, hfn, e0, e1, e2⟩ := HH.out.1.found nm hf
        rw [c0] at c0'
        simp at c0'
        obtain ⟨rfl, rfl, rfl⟩ := c0'
        have HF := mkHid (And.intro hf (And.intro hok hfn))
        clear hf hok hfn
        obtain ⟨fi, hfi⟩ : ∃ fi, fi = findN x.L nm := ⟨_, rfl⟩
        rw [← hfi] at e0 e1 e2 hlt ⊢
        have hbne : b ≠ w.heap.size := by omega
        have HFI := mkHid hfi
        clear hfi
        obtain ⟨D, hD⟩ : ∃ D, D = (x.file nm).data ++ bs := ⟨_, rfl⟩
        have hDx : D = (x.file nm).data ++ bs := by rw [hD]
        rw [← hDx]
        have HDD := mkHid (And.intro hD hDx)
        clear hD hDx
        obtain ⟨wB, hwB⟩ : ∃ wB, wB = w.alloc (.cells #[.string ⟨nm.toArray⟩, .slice y.a1 (x.file nm).data.length y.c1, .slice y.a2 (x.file nm).safe.length y.c2] 75) := ⟨_, rfl⟩
        have kB : Keep noM w wB := by rw [hwB]; exact alloc_keep _ _ _
        have sB : wB.heap.size = w.heap.size + 1 := by rw [hwB]; simp
        have gB : wB.heap[w.heap.size]? = some (.cells #[.string ⟨nm.toArray⟩, .slice y.a1 (x.file nm).data.length y.c1, .slice y.a2 (x.file nm).safe.length y.c2] 75) := by rw [hwB]; exact heap_alloc_new _ _
        have own0 : (wB.alloc (.cells #[] 5)).ownsRow wB.heap.size 5 1 (.slice (some ⟨wB.heap.size, 0, none⟩) 0 0) ([] : Bs).length (bcells []) := World.ownsRow_made wB #[] 0 (Nat.le_refl _) (by simp) rfl
        have k0 : Keep noM w (wB.alloc (.cells #[] 5)) := kB.alloc _
        have hb1 : BytesAt (wB.alloc (.cells #[] 5)) S y.a1 (x.file nm).data := HF.out.2.1.b1.keep k0 (fun _ _ => not_noM _)
        have hb1' : BytesAt (wB.alloc (.cells #[] 5)) S y.a1 (x.file nm).data := hb1
        have hlf : (x.file nm).data.length ≤ 262144 := HF.out.2.1.l1
        rw [sB] at own0
        have HBX := mkHid (And.intro kB (And.intro sB (And.intro gB (And.intro k0 hb1))))
        have HWB := mkHid hwB
        rw [hwB] at own0 hb1' k0
        clear kB sB gB hb1 hwB
        by_cases hbl2 : D.length ≤ 262144
        · have hpre : x.preW nm D = 0 := by simp [RS.preW, ← HD.out, ← HW.out]; omega
          have HPR := mkHid hpre
          have HB2 := mkHid hbl2
          have HDL := mkHid hbl2
          clear hpre
          by_cases hz : x.fuse = 0
          · rw [hz] at c1
            have HZ := mkHid hz
            clear hz q0 q1
            have hbt : x.burnt = false := by simp [RS.burnt, HZ.out]
            have hcd : x.code = 0 := by simp [RS.code, hbt]
            have HB := mkHid (And.intro hbt hcd)
            clear hbt hcd
            go_wp2_with (at_builtin; first
              | (refine wpList_appendB rfl _ _ rfl (w.heap.size + 1) (.slice (some ⟨w.heap.size + 1, 0, none⟩) 0 0) [] rfl own0 y.a1 y.c1 (x.file nm).data rfl S hb1' (by simp <;> omega) (by simp) ?_; intro v2 w2 own2 k2
                 have kk2 : Keep noM (w.alloc (.cells #[.string ⟨nm.toArray⟩, .slice y.a1 (x.file nm).data.length y.c1, .slice y.a2 (x.file nm).safe.length y.c2] 75)) w2 := (alloc_keep noM (w.alloc (.cells #[.string ⟨nm.toArray⟩, .slice y.a1 (x.file nm).data.length y.c1, .slice y.a2 (x.file nm).safe.length y.c2] 75)) (.cells #[] 5)).trans' k2 (fun i hi e => by simp [Value.ownBlock] at e hi; omega)
                 have kw2 : Keep noM w w2 := (alloc_keep noM w (.cells #[.string ⟨nm.toArray⟩, .slice y.a1 (x.file nm).data.length y.c1, .slice y.a2 (x.file nm).safe.length y.c2] 75)).trans kk2
                 have hb2 := HBS.out.1.keep kw2 (fun _ _ => not_noM _)
                 have hsz2 : w.heap.size + 1 ≤ w2.heap.size := by have := kk2.size; simp at this; omega
                 have hbd : (([] : Bs) ++ (x.file nm).data).length + bs.length ≤ 140737488355328 := by simp <;> omega
                 have HK2 := mkHid (And.intro kk2 kw2)
                 clear kk2 kw2 k2 own0 hb1')
              | (refine wpList_appendB rfl _ _ rfl (w.heap.size + 1) v2 (([] : Bs) ++ (x.file nm).data) rfl own2 ab cb bs rfl S hb2 hbd hsz2 ?_; intro v3 w3 own3 k3
                 have hDn : ([] : Bs) ++ (x.file nm).data ++ bs = D := by rw [HDD.out.1, List.nil_append]
                 rw [hDn] at own3
                 obtain ⟨a3, c3', rfl, l1, l2, l3⟩ := owned_shape own3
                 have kk3 : Keep noM (w.alloc (.cells #[.string ⟨nm.toArray⟩, .slice y.a1 (x.file nm).data.length y.c1, .slice y.a2 (x.file nm).safe.length y.c2] 75)) w3 := HK2.out.1.trans' k3 (fun i hi e => by have := (own2.lt i e).1; simp at hi; omega)
                 have kw3 : Keep noM w w3 := (alloc_keep noM w (.cells #[.string ⟨nm.toArray⟩, .slice y.a1 (x.file nm).data.length y.c1, .slice y.a2 (x.file nm).safe.length y.c2] 75)).trans kk3
                 have c0 := kw3.cell (M := noM) (not_noM _) c0
                 have c1 := kw3.cell (M := noM) (not_noM _) c1
                 have c2 := kw3.cell (M := noM) (not_noM _) c2
                 have c3 := kw3.cell (M := noM) (not_noM _) c3
                 have f1 := (kw3.frozen? (M := noM) (p := ⟨bx, 1, none⟩) (not_noM _) hbx).trans f1
                 have f2 := (kw3.frozen? (M := noM) (p := ⟨bx, 2, none⟩) (not_noM _) hbx).trans f2
                 have f3 := (kw3.frozen? (M := noM) (p := ⟨bx, 3, none⟩) (not_noM _) hbx).trans f3
                 have gb := kk3.obj (not_noM _) (heap_alloc_new w (.cells #[.string ⟨nm.toArray⟩, .slice y.a1 (x.file nm).data.length y.c1, .slice y.a2 (x.file nm).safe.length y.c2] 75))
                 have g0 : w3.cell? ⟨w.heap.size, 0, none⟩ = some (.string ⟨nm.toArray⟩) := by simp [World.cell?, gb]
                 have g1 : w3.cell? ⟨w.heap.size, 1, none⟩ = some (.slice y.a1 (x.file nm).data.length y.c1) := by simp [World.cell?, gb]
                 have g2 : w3.cell? ⟨w.heap.size, 2, none⟩ = some (.slice y.a2 (x.file nm).safe.length y.c2) := by simp [World.cell?, gb]
                 have g3 : w3.frozen? ⟨w.heap.size, 1, none⟩ = false := by simp [World.frozen?, gb]
                 have hs3 : w.heap.size + 1 ≤ w3.heap.size := by have := kk3.size; simp at this; omega
                 have hS3 : ∀ b, S1 w w3 S b → b < w3.heap.size := fun b hb => hb.elim (fun h => by have := HH.out.2.1 b h; omega) (fun h => h.2)
                 have HNB : Hid (∀ b, S1 w w3 S b → ¬ (b = bx ∨ b = w.heap.size)) := mkHid (fun b hb e => by
                   have := HH.out.2.1 b
                   rcases hb with hb | hb
                   · rcases e with e | e
                     · exact HH.out.1.nx (e ▸ hb)
                     · have := this hb; omega
                   · omega)
                 have X3 : XAt w3 (S1 w w3 S) T bx x := (HH.out.1.keep kw3 (fun _ _ => not_noM _)).more (fun b _ hb => Or.inl hb) (fun b hb e => by
                   rcases e with e | e
                   · exact (HH.out.1.dT b hb).1 e
                   · have := (HH.out.1.dT b hb).2.2; omega) (fun e => by
                   rcases e with e | e
                   · exact HH.out.1.nx e
                   · omega)
                 have HX3 := mkHid (And.intro kw3 (And.intro X3 (And.intro l1 (And.intro l2 (And.intro (l3.mono (S' := S1 w w3 S) (fun b hb h => Or.inr ⟨h, hb⟩)) hS3)))))
                 clear kk3 kw3 gb hs3 hS3 X3 l1 l2 l3 own2 own3 k3 hb2 hbd hsz2 hDn HK2))
            obtain ⟨kb, xb⟩ := HX3.out.2.1.burn0 HZ.out
            have KS : Keep (isB w.heap.size) (w3.setCell ⟨bx, 3, none⟩ (.int .i64 (x.ops + 1))) ((w3.setCell ⟨bx, 3, none⟩ (.int .i64 (x.ops + 1))).setCell ⟨w.heap.size, 1, none⟩ (.slice a3 D.length c3')) := (Keep.refl (isB w.heap.size) _).setCell (p := ⟨w.heap.size, 1, none⟩) (.inl rfl) _
            have KA : Hid (Keep (fun b => b = bx ∨ b = w.heap.size) w3 ((w3.setCell ⟨bx, 3, none⟩ (.int .i64 (x.ops + 1))).setCell ⟨w.heap.size, 1, none⟩ (.slice a3 D.length c3'))) := mkHid ((kb.mono (fun _ _ e => Or.inl e)).trans (KS.mono (fun _ _ e => Or.inr e)))
            have KW : Hid (Keep (isB bx) w ((w3.setCell ⟨bx, 3, none⟩ (.int .i64 (x.ops + 1))).setCell ⟨w.heap.size, 1, none⟩ (.slice a3 D.length c3'))) := mkHid (((keepAll HX3.out.1).trans kb).trans' KS (fun i hi e => by unfold isB at e; omega))
            have XB : Hid (XAt ((w3.setCell ⟨bx, 3, none⟩ (.int .i64 (x.ops + 1))).setCell ⟨w.heap.size, 1, none⟩ (.slice a3 D.length c3')) (S1 w w3 S) T bx x.burn) := mkHid (xb.keep KS (fun b hb e => by
              unfold isB at e
              rcases hb with hb | hb | hb
              · rcases hb with hb | hb
                · have := HH.out.2.1 b hb; omega
                · omega
              · have := (HH.out.1.dT b hb).2.2; omega
              · omega))
            clear kb xb KS
            refine (rput_any _ (S1 w w3 S) T (fun b hb => Nat.lt_of_lt_of_le (HX3.out.2.2.2.2.2 b hb) KA.out.size) bx x.burn XB.out (by have := HH.out.2.2.1; simp only [RS.burn]; omega) ⟨nm, D, (x.file nm).safe⟩ ⟨a3, c3', y.a2, y.c2⟩ ⟨hnm, HB2.out, HF.out.2.1.l2, HX3.out.2.2.1, HF.out.2.1.k2, HX3.out.2.2.2.1, HF.out.2.1.m2, HX3.out.2.2.2.2.1.keep KA.out HNB.out, ((HF.out.2.1.b2.keep HX3.out.1 (fun _ _ => not_noM _)).mono (fun b _ hb => Or.inl hb)).keep KA.out HNB.out⟩).mono ?_
            rintro e w4 ⟨rfl, K2, T', hT', X2⟩
            have HX2 := mkHid (And.intro K2 (And.intro hT' X2))
            clear K2 hT' X2
            go_wp2
            go_ret
            rw [← HDD.out.2, HPR.out]
            have hfin := DoPost.goneW (w := w) (S := S) (T := T) (x := x) (putL x.L ⟨nm, D, (x.file nm).safe⟩) (fun b hb => Nat.lt_of_lt_of_le (HX3.out.2.2.2.2.2 b hb) (Nat.le_trans KA.out.size HX2.out.1.size)) (fun b hb => hb.imp id (fun h => by omega)) (KW.out.trans HX2.out.1) (fun b hb => .inr (Nat.le_trans KW.out.size (HX2.out.2.1 b hb))) HX2.out.2.2 (by simp [RS.burn])
            rw [HB.out.2] at hfin
            exact hfin
          · by_cases h1 : x.fuse = 1
            · rw [h1] at c1
              have HZ := mkHid h1
              clear hz h1 q0 q1
              have hbt : x.burnt = true := by simp [RS.burnt, HZ.out]
              have hcd : x.code = 21 := by simp [RS.code, hbt]
              have HB := mkHid (And.intro hbt hcd)
              clear hbt hcd
              go_wp2_with (at_builtin; first
                | (refine wpList_appendB rfl _ _ rfl (w.heap.size + 1) (.slice (some ⟨w.heap.size + 1, 0, none⟩) 0 0) [] rfl own0 y.a1 y.c1 (x.file nm).data rfl S hb1' (by simp <;> omega) (by simp) ?_; intro v2 w2 own2 k2
                   have kk2 : Keep noM (w.alloc (.cells #[.string ⟨nm.toArray⟩, .slice y.a1 (x.file nm).data.length y.c1, .slice y.a2 (x.file nm).safe.length y.c2] 75)) w2 := (alloc_keep noM (w.alloc (.cells #[.string ⟨nm.toArray⟩, .slice y.a1 (x.file nm).data.length y.c1, .slice y.a2 (x.file nm).safe.length y.c2] 75)) (.cells #[] 5)).trans' k2 (fun i hi e => by simp [Value.ownBlock] at e hi; omega)
                   have kw2 : Keep noM w w2 := (alloc_keep noM w (.cells #[.string ⟨nm.toArray⟩, .slice y.a1 (x.file nm).data.length y.c1, .slice y.a2 (x.file nm).safe.length y.c2] 75)).trans kk2
                   have hb2 := HBS.out.1.keep kw2 (fun _ _ => not_noM _)
                   have hsz2 : w.heap.size + 1 ≤ w2.heap.size := by have := kk2.size; simp at this; omega
                   have hbd : (([] : Bs) ++ (x.file nm).data).length + bs.length ≤ 140737488355328 := by simp <;> omega
                   have HK2 := mkHid (And.intro kk2 kw2)
                   clear kk2 kw2 k2 own0 hb1')
                | (refine wpList_appendB rfl _ _ rfl (w.heap.size + 1) v2 (([] : Bs) ++ (x.file nm).data) rfl own2 ab cb bs rfl S hb2 hbd hsz2 ?_; intro v3 w3 own3 k3
                   have hDn : ([] : Bs) ++ (x.file nm).data ++ bs = D := by rw [HDD.out.1, List.nil_append]
                   rw [hDn] at own3
                   obtain ⟨a3, c3', rfl, l1, l2, l3⟩ := owned_shape own3
                   have kk3 : Keep noM (w.alloc (.cells #[.string ⟨nm.toArray⟩, .slice y.a1 (x.file nm).data.length y.c1, .slice y.a2 (x.file nm).safe.length y.c2] 75)) w3 := HK2.out.1.trans' k3 (fun i hi e => by have := (own2.lt i e).1; simp at hi; omega)
                   have kw3 : Keep noM w w3 := (alloc_keep noM w (.cells #[.string ⟨nm.toArray⟩, .slice y.a1 (x.file nm).data.length y.c1, .slice y.a2 (x.file nm).safe.length y.c2] 75)).trans kk3
                   have c0 := kw3.cell (M := noM) (not_noM _) c0
                   have c1 := kw3.cell (M := noM) (not_noM _) c1
                   have c2 := kw3.cell (M := noM) (not_noM _) c2
                   have c3 := kw3.cell (M := noM) (not_noM _) c3
                   have f1 := (kw3.frozen? (M := noM) (p := ⟨bx, 1, none⟩) (not_noM _) hbx).trans f1
                   have f2 := (kw3.frozen? (M := noM) (p := ⟨bx, 2, none⟩) (not_noM _) hbx).trans f2
                   have f3 := (kw3.frozen? (M := noM) (p := ⟨bx, 3, none⟩) (not_noM _) hbx).trans f3
                   have gb := kk3.obj (not_noM _) (heap_alloc_new w (.cells #[.string ⟨nm.toArray⟩, .slice y.a1 (x.file nm).data.length y.c1, .slice y.a2 (x.file nm).safe.length y.c2] 75))
                   have g0 : w3.cell? ⟨w.heap.size, 0, none⟩ = some (.string ⟨nm.toArray⟩) := by simp [World.cell?, gb]
                   have g1 : w3.cell? ⟨w.heap.size, 1, none⟩ = some (.slice y.a1 (x.file nm).data.length y.c1) := by simp [World.cell?, gb]
                   have g2 : w3.cell? ⟨w.heap.size, 2, none⟩ = some (.slice y.a2 (x.file nm).safe.length y.c2) := by simp [World.cell?, gb]
                   have g3 : w3.frozen? ⟨w.heap.size, 1, none⟩ = false := by simp [World.frozen?, gb]
                   have hs3 : w.heap.size + 1 ≤ w3.heap.size := by have := kk3.size; simp at this; omega
                   have hS3 : ∀ b, S1 w w3 S b → b < w3.heap.size := fun b hb => hb.elim (fun h => by have := HH.out.2.1 b h; omega) (fun h => h.2)
                   have HNB : Hid (∀ b, S1 w w3 S b → ¬ (b = bx ∨ b = w.heap.size)) := mkHid (fun b hb e => by
                     have := HH.out.2.1 b
                     rcases hb with hb | hb
                     · rcases e with e | e
                       · exact HH.out.1.nx (e ▸ hb)
                       · have := this hb; omega
                     · omega)
                   have X3 : XAt w3 (S1 w w3 S) T bx x := (HH.out.1.keep kw3 (fun _ _ => not_noM _)).more (fun b _ hb => Or.inl hb) (fun b hb e => by
                     rcases e with e | e
                     · exact (HH.out.1.dT b hb).1 e
                     · have := (HH.out.1.dT b hb).2.2; omega) (fun e => by
                     rcases e with e | e
                     · exact HH.out.1.nx e
                     · omega)
                   have HX3 := mkHid (And.intro kw3 (And.intro X3 (And.intro l1 (And.intro l2 (And.intro (l3.mono (S' := S1 w w3 S) (fun b hb h => Or.inr ⟨h, hb⟩)) hS3)))))
                   clear kk3 kw3 gb hs3 hS3 X3 l1 l2 l3 own2 own3 k3 hb2 hbd hsz2 hDn HK2))
              obtain ⟨kb, xb⟩ := HX3.out.2.1.burn1 HZ.out
              have KS : Keep (isB w.heap.size) (((w3.setCell ⟨bx, 3, none⟩ (.int .i64 (x.ops + 1))).setCell ⟨bx, 1, none⟩ (.int .i64 0)).setCell ⟨bx, 2, none⟩ (.bool true)) ((((w3.setCell ⟨bx, 3, none⟩ (.int .i64 (x.ops + 1))).setCell ⟨bx, 1, none⟩ (.int .i64 0)).setCell ⟨bx, 2, none⟩ (.bool true)).setCell ⟨w.heap.size, 1, none⟩ (.slice a3 D.length c3')) := (Keep.refl (isB w.heap.size) _).setCell (p := ⟨w.heap.size, 1, none⟩) (.inl rfl) _
              have KA : Hid (Keep (fun b => b = bx ∨ b = w.heap.size) w3 ((((w3.setCell ⟨bx, 3, none⟩ (.int .i64 (x.ops + 1))).setCell ⟨bx, 1, none⟩ (.int .i64 0)).setCell ⟨bx, 2, none⟩ (.bool true)).setCell ⟨w.heap.size, 1, none⟩ (.slice a3 D.length c3'))) := mkHid ((kb.mono (fun _ _ e => Or.inl e)).trans (KS.mono (fun _ _ e => Or.inr e)))
              have KW : Hid (Keep (isB bx) w ((((w3.setCell ⟨bx, 3, none⟩ (.int .i64 (x.ops + 1))).setCell ⟨bx, 1, none⟩ (.int .i64 0)).setCell ⟨bx, 2, none⟩ (.bool true)).setCell ⟨w.heap.size, 1, none⟩ (.slice a3 D.length c3'))) := mkHid (((keepAll HX3.out.1).trans kb).trans' KS (fun i hi e => by unfold isB at e; omega))
              have XB : Hid (XAt ((((w3.setCell ⟨bx, 3, none⟩ (.int .i64 (x.ops + 1))).setCell ⟨bx, 1, none⟩ (.int .i64 0)).setCell ⟨bx, 2, none⟩ (.bool true)).setCell ⟨w.heap.size, 1, none⟩ (.slice a3 D.length c3')) (S1 w w3 S) T bx x.burn) := mkHid (xb.keep KS (fun b hb e => by
                unfold isB at e
                rcases hb with hb | hb | hb
                · rcases hb with hb | hb
                  · have := HH.out.2.1 b hb; omega
                  · omega
                · have := (HH.out.1.dT b hb).2.2; omega
                · omega))
              clear kb xb KS
              refine (rput_any _ (S1 w w3 S) T (fun b hb => Nat.lt_of_lt_of_le (HX3.out.2.2.2.2.2 b hb) KA.out.size) bx x.burn XB.out (by have := HH.out.2.2.1; simp only [RS.burn]; omega) ⟨nm, D, (x.file nm).safe⟩ ⟨a3, c3', y.a2, y.c2⟩ ⟨hnm, HB2.out, HF.out.2.1.l2, HX3.out.2.2.1, HF.out.2.1.k2, HX3.out.2.2.2.1, HF.out.2.1.m2, HX3.out.2.2.2.2.1.keep KA.out HNB.out, ((HF.out.2.1.b2.keep HX3.out.1 (fun _ _ => not_noM _)).mono (fun b _ hb => Or.inl hb)).keep KA.out HNB.out⟩).mono ?_
              rintro e w4 ⟨rfl, K2, T', hT', X2⟩
              have HX2 := mkHid (And.intro K2 (And.intro hT' X2))
              clear K2 hT' X2
              go_wp2
              go_ret
              rw [← HDD.out.2, HPR.out]
              have hfin := DoPost.goneW (w := w) (S := S) (T := T) (x := x) (putL x.L ⟨nm, D, (x.file nm).safe⟩) (fun b hb => Nat.lt_of_lt_of_le (HX3.out.2.2.2.2.2 b hb) (Nat.le_trans KA.out.size HX2.out.1.size)) (fun b hb => hb.imp id (fun h => by omega)) (KW.out.trans HX2.out.1) (fun b hb => .inr (Nat.le_trans KW.out.size (HX2.out.2.1 b hb))) HX2.out.2.2 (by simp [RS.burn])
              rw [HB.out.2] at hfin
              exact hfin
            · have hg : 1 < x.fuse := by omega
              obtain ⟨z, hzz⟩ : ∃ z, z = x.fuse := ⟨_, rfl⟩
              rw [← hzz] at c1
              have z1 : (z - 1 == 0) = false := by rw [hzz]; simp; omega
              have z2 : 1 < z := by omega
              have z3 : z ≤ 9223372036854775807 := by omega
              have HZ := mkHid hg
              have hbt : x.burnt = false := by simp [RS.burnt]; omega
              have hcd : x.code = 0 := by simp [RS.code, hbt]
              have HB := mkHid (And.intro hbt hcd)
              have HZZ := mkHid hzz
              clear hz h1 hg q0 q1 hbt hcd hzz
              go_wp2_with (at_builtin; first
                | (refine wpList_appendB rfl _ _ rfl (w.heap.size + 1) (.slice (some ⟨w.heap.size + 1, 0, none⟩) 0 0) [] rfl own0 y.a1 y.c1 (x.file nm).data rfl S hb1' (by simp <;> omega) (by simp) ?_; intro v2 w2 own2 k2
                   have kk2 : Keep noM (w.alloc (.cells #[.string ⟨nm.toArray⟩, .slice y.a1 (x.file nm).data.length y.c1, .slice y.a2 (x.file nm).safe.length y.c2] 75)) w2 := (alloc_keep noM (w.alloc (.cells #[.string ⟨nm.toArray⟩, .slice y.a1 (x.file nm).data.length y.c1, .slice y.a2 (x.file nm).safe.length y.c2] 75)) (.cells #[] 5)).trans' k2 (fun i hi e => by simp [Value.ownBlock] at e hi; omega)
                   have kw2 : Keep noM w w2 := (alloc_keep noM w (.cells #[.string ⟨nm.toArray⟩, .slice y.a1 (x.file nm).data.length y.c1, .slice y.a2 (x.file nm).safe.length y.c2] 75)).trans kk2
                   have hb2 := HBS.out.1.keep kw2 (fun _ _ => not_noM _)
                   have hsz2 : w.heap.size + 1 ≤ w2.heap.size := by have := kk2.size; simp at this; omega
                   have hbd : (([] : Bs) ++ (x.file nm).data).length + bs.length ≤ 140737488355328 := by simp <;> omega
                   have HK2 := mkHid (And.intro kk2 kw2)
                   clear kk2 kw2 k2 own0 hb1')
                | (refine wpList_appendB rfl _ _ rfl (w.heap.size + 1) v2 (([] : Bs) ++ (x.file nm).data) rfl own2 ab cb bs rfl S hb2 hbd hsz2 ?_; intro v3 w3 own3 k3
                   have hDn : ([] : Bs) ++ (x.file nm).data ++ bs = D := by rw [HDD.out.1, List.nil_append]
                   rw [hDn] at own3
                   obtain ⟨a3, c3', rfl, l1, l2, l3⟩ := owned_shape own3
                   have kk3 : Keep noM (w.alloc (.cells #[.string ⟨nm.toArray⟩, .slice y.a1 (x.file nm).data.length y.c1, .slice y.a2 (x.file nm).safe.length y.c2] 75)) w3 := HK2.out.1.trans' k3 (fun i hi e => by have := (own2.lt i e).1; simp at hi; omega)
                   have kw3 : Keep noM w w3 := (alloc_keep noM w (.cells #[.string ⟨nm.toArray⟩, .slice y.a1 (x.file nm).data.length y.c1, .slice y.a2 (x.file nm).safe.length y.c2] 75)).trans kk3
                   have c0 := kw3.cell (M := noM) (not_noM _) c0
                   have c1 := kw3.cell (M := noM) (not_noM _) c1
                   have c2 := kw3.cell (M := noM) (not_noM _) c2
                   have c3 := kw3.cell (M := noM) (not_noM _) c3
                   have f1 := (kw3.frozen? (M := noM) (p := ⟨bx, 1, none⟩) (not_noM _) hbx).trans f1
                   have f2 := (kw3.frozen? (M := noM) (p := ⟨bx, 2, none⟩) (not_noM _) hbx).trans f2
                   have f3 := (kw3.frozen? (M := noM) (p := ⟨bx, 3, none⟩) (not_noM _) hbx).trans f3
                   have gb := kk3.obj (not_noM _) (heap_alloc_new w (.cells #[.string ⟨nm.toArray⟩, .slice y.a1 (x.file nm).data.length y.c1, .slice y.a2 (x.file nm).safe.length y.c2] 75))
                   have g0 : w3.cell? ⟨w.heap.size, 0, none⟩ = some (.string ⟨nm.toArray⟩) := by simp [World.cell?, gb]
                   have g1 : w3.cell? ⟨w.heap.size, 1, none⟩ = some (.slice y.a1 (x.file nm).data.length y.c1) := by simp [World.cell?, gb]
                   have g2 : w3.cell? ⟨w.heap.size, 2, none⟩ = some (.slice y.a2 (x.file nm).safe.length y.c2) := by simp [World.cell?, gb]
                   have g3 : w3.frozen? ⟨w.heap.size, 1, none⟩ = false := by simp [World.frozen?, gb]
                   have hs3 : w.heap.size + 1 ≤ w3.heap.size := by have := kk3.size; simp at this; omega
                   have hS3 : ∀ b, S1 w w3 S b → b < w3.heap.size := fun b hb => hb.elim (fun h => by have := HH.out.2.1 b h; omega) (fun h => h.2)
                   have HNB : Hid (∀ b, S1 w w3 S b → ¬ (b = bx ∨ b = w.heap.size)) := mkHid (fun b hb e => by
                     have := HH.out.2.1 b
                     rcases hb with hb | hb
                     · rcases e with e | e
                       · exact HH.out.1.nx (e ▸ hb)
                       · have := this hb; omega
                     · omega)
                   have X3 : XAt w3 (S1 w w3 S) T bx x := (HH.out.1.keep kw3 (fun _ _ => not_noM _)).more (fun b _ hb => Or.inl hb) (fun b hb e => by
                     rcases e with e | e
                     · exact (HH.out.1.dT b hb).1 e
                     · have := (HH.out.1.dT b hb).2.2; omega) (fun e => by
                     rcases e with e | e
                     · exact HH.out.1.nx e
                     · omega)
                   have HX3 := mkHid (And.intro kw3 (And.intro X3 (And.intro l1 (And.intro l2 (And.intro (l3.mono (S' := S1 w w3 S) (fun b hb h => Or.inr ⟨h, hb⟩)) hS3)))))
                   clear kk3 kw3 gb hs3 hS3 X3 l1 l2 l3 own2 own3 k3 hb2 hbd hsz2 hDn HK2))
              obtain ⟨kb, xb⟩ := HX3.out.2.1.burn2 HZ.out
              have KS : Keep (isB w.heap.size) (((w3.setCell ⟨bx, 3, none⟩ (.int .i64 (x.ops + 1))).setCell ⟨bx, 1, none⟩ (.int .i64 (x.fuse - 1))).setCell ⟨bx, 2, none⟩ (.bool false)) ((((w3.setCell ⟨bx, 3, none⟩ (.int .i64 (x.ops + 1))).setCell ⟨bx, 1, none⟩ (.int .i64 (x.fuse - 1))).setCell ⟨bx, 2, none⟩ (.bool false)).setCell ⟨w.heap.size, 1, none⟩ (.slice a3 D.length c3')) := (Keep.refl (isB w.heap.size) _).setCell (p := ⟨w.heap.size, 1, none⟩) (.inl rfl) _
              have KA : Hid (Keep (fun b => b = bx ∨ b = w.heap.size) w3 ((((w3.setCell ⟨bx, 3, none⟩ (.int .i64 (x.ops + 1))).setCell ⟨bx, 1, none⟩ (.int .i64 (x.fuse - 1))).setCell ⟨bx, 2, none⟩ (.bool false)).setCell ⟨w.heap.size, 1, none⟩ (.slice a3 D.length c3'))) := mkHid ((kb.mono (fun _ _ e => Or.inl e)).trans (KS.mono (fun _ _ e => Or.inr e)))
              have KW : Hid (Keep (isB bx) w ((((w3.setCell ⟨bx, 3, none⟩ (.int .i64 (x.ops + 1))).setCell ⟨bx, 1, none⟩ (.int .i64 (x.fuse - 1))).setCell ⟨bx, 2, none⟩ (.bool false)).setCell ⟨w.heap.size, 1, none⟩ (.slice a3 D.length c3'))) := mkHid (((keepAll HX3.out.1).trans kb).trans' KS (fun i hi e => by unfold isB at e; omega))
              have XB : Hid (XAt ((((w3.setCell ⟨bx, 3, none⟩ (.int .i64 (x.ops + 1))).setCell ⟨bx, 1, none⟩ (.int .i64 (x.fuse - 1))).setCell ⟨bx, 2, none⟩ (.bool false)).setCell ⟨w.heap.size, 1, none⟩ (.slice a3 D.length c3')) (S1 w w3 S) T bx x.burn) := mkHid (xb.keep KS (fun b hb e => by
                unfold isB at e
                rcases hb with hb | hb | hb
                · rcases hb with hb | hb
                  · have := HH.out.2.1 b hb; omega
                  · omega
                · have := (HH.out.1.dT b hb).2.2; omega
                · omega))
              clear kb xb KS
              try rw [HZZ.out]
              refine (rput_any _ (S1 w w3 S) T (fun b hb => Nat.lt_of_lt_of_le (HX3.out.2.2.2.2.2 b hb) KA.out.size) bx x.burn XB.out (by have := HH.out.2.2.1; simp only [RS.burn]; omega) ⟨nm, D, (x.file nm).safe⟩ ⟨a3, c3', y.a2, y.c2⟩ ⟨hnm, HB2.out, HF.out.2.1.l2, HX3.out.2.2.1, HF.out.2.1.k2, HX3.out.2.2.2.1, HF.out.2.1.m2, HX3.out.2.2.2.2.1.keep KA.out HNB.out, ((HF.out.2.1.b2.keep HX3.out.1 (fun _ _ => not_noM _)).mono (fun b _ hb => Or.inl hb)).keep KA.out HNB.out⟩).mono ?_
              rintro e w4 ⟨rfl, K2, T', hT', X2⟩
              have HX2 := mkHid (And.intro K2 (And.intro hT' X2))
              clear K2 hT' X2
              go_wp2
              go_ret
              rw [← HDD.out.2, HPR.out]
              have hfin := DoPost.goneW (w := w) (S := S) (T := T) (x := x) (putL x.L ⟨nm, D, (x.file nm).safe⟩) (fun b hb => Nat.lt_of_lt_of_le (HX3.out.2.2.2.2.2 b hb) (Nat.le_trans KA.out.size HX2.out.1.size)) (fun b hb => hb.imp id (fun h => by omega)) (KW.out.trans HX2.out.1) (fun b hb => .inr (Nat.le_trans KW.out.size (HX2.out.2.1 b hb))) HX2.out.2.2 (by simp [RS.burn])
              rw [HB.out.2] at hfin
              exact hfin
        · have hpre : x.preW nm D = 3 := by simp [RS.preW, ← HD.out, ← HW.out]; omega
          have HPR := mkHid hpre
          clear hpre
          go_wp2_with (at_builtin; first
            | (refine wpList_appendB rfl _ _ rfl (w.heap.size + 1) (.slice (some ⟨w.heap.size + 1, 0, none⟩) 0 0) [] rfl own0 y.a1 y.c1 (x.file nm).data rfl S hb1' (by simp <;> omega) (by simp) ?_; intro v2 w2 own2 k2
               have kk2 : Keep noM (w.alloc (.cells #[.string ⟨nm.toArray⟩, .slice y.a1 (x.file nm).data.length y.c1, .slice y.a2 (x.file nm).safe.length y.c2] 75)) w2 := (alloc_keep noM (w.alloc (.cells #[.string ⟨nm.toArray⟩, .slice y.a1 (x.file nm).data.length y.c1, .slice y.a2 (x.file nm).safe.length y.c2] 75)) (.cells #[] 5)).trans' k2 (fun i hi e => by simp [Value.ownBlock] at e hi; omega)
               have kw2 : Keep noM w w2 := (alloc_keep noM w (.cells #[.string ⟨nm.toArray⟩, .slice y.a1 (x.file nm).data.length y.c1, .slice y.a2 (x.file nm).safe.length y.c2] 75)).trans kk2
               have hb2 := HBS.out.1.keep kw2 (fun _ _ => not_noM _)
               have hsz2 : w.heap.size + 1 ≤ w2.heap.size := by have := kk2.size; simp at this; omega
               have hbd : (([] : Bs) ++ (x.file nm).data).length + bs.length ≤ 140737488355328 := by simp <;> omega
               have HK2 := mkHid (And.intro kk2 kw2)
               clear kk2 kw2 k2 own0 hb1')
            | (refine wpList_appendB rfl _ _ rfl (w.heap.size + 1) v2 (([] : Bs) ++ (x.file nm).data) rfl own2 ab cb bs rfl S hb2 hbd hsz2 ?_; intro v3 w3 own3 k3
               have hDn : ([] : Bs) ++ (x.file nm).data ++ bs = D := by rw [HDD.out.1, List.nil_append]
               rw [hDn] at own3
               obtain ⟨a3, c3', rfl, l1, l2, l3⟩ := owned_shape own3
               have kk3 : Keep noM (w.alloc (.cells #[.string ⟨nm.toArray⟩, .slice y.a1 (x.file nm).data.length y.c1, .slice y.a2 (x.file nm).safe.length y.c2] 75)) w3 := HK2.out.1.trans' k3 (fun i hi e => by have := (own2.lt i e).1; simp at hi; omega)
               have kw3 : Keep noM w w3 := (alloc_keep noM w (.cells #[.string ⟨nm.toArray⟩, .slice y.a1 (x.file nm).data.length y.c1, .slice y.a2 (x.file nm).safe.length y.c2] 75)).trans kk3
               have c0 := kw3.cell (M := noM) (not_noM _) c0
               have c1 := kw3.cell (M := noM) (not_noM _) c1
               have c2 := kw3.cell (M := noM) (not_noM _) c2
               have c3 := kw3.cell (M := noM) (not_noM _) c3
               have f1 := (kw3.frozen? (M := noM) (p := ⟨bx, 1, none⟩) (not_noM _) hbx).trans f1
               have f2 := (kw3.frozen? (M := noM) (p := ⟨bx, 2, none⟩) (not_noM _) hbx).trans f2
               have f3 := (kw3.frozen? (M := noM) (p := ⟨bx, 3, none⟩) (not_noM _) hbx).trans f3
               have gb := kk3.obj (not_noM _) (heap_alloc_new w (.cells #[.string ⟨nm.toArray⟩, .slice y.a1 (x.file nm).data.length y.c1, .slice y.a2 (x.file nm).safe.length y.c2] 75))
               have g0 : w3.cell? ⟨w.heap.size, 0, none⟩ = some (.string ⟨nm.toArray⟩) := by simp [World.cell?, gb]
               have g1 : w3.cell? ⟨w.heap.size, 1, none⟩ = some (.slice y.a1 (x.file nm).data.length y.c1) := by simp [World.cell?, gb]
               have g2 : w3.cell? ⟨w.heap.size, 2, none⟩ = some (.slice y.a2 (x.file nm).safe.length y.c2) := by simp [World.cell?, gb]
               have g3 : w3.frozen? ⟨w.heap.size, 1, none⟩ = false := by simp [World.frozen?, gb]
               have hs3 : w.heap.size + 1 ≤ w3.heap.size := by have := kk3.size; simp at this; omega
               have hS3 : ∀ b, S1 w w3 S b → b < w3.heap.size := fun b hb => hb.elim (fun h => by have := HH.out.2.1 b h; omega) (fun h => h.2)
               have HNB : Hid (∀ b, S1 w w3 S b → ¬ (b = bx ∨ b = w.heap.size)) := mkHid (fun b hb e => by
                 have := HH.out.2.1 b
                 rcases hb with hb | hb
                 · rcases e with e | e
                   · exact HH.out.1.nx (e ▸ hb)
                   · have := this hb; omega
                 · omega)
               have X3 : XAt w3 (S1 w w3 S) T bx x := (HH.out.1.keep kw3 (fun _ _ => not_noM _)).more (fun b _ hb => Or.inl hb) (fun b hb e => by
                 rcases e with e | e
                 · exact (HH.out.1.dT b hb).1 e
                 · have := (HH.out.1.dT b hb).2.2; omega) (fun e => by
                 rcases e with e | e
                 · exact HH.out.1.nx e
                 · omega)
               have HX3 := mkHid (And.intro kw3 (And.intro X3 (And.intro l1 (And.intro l2 (And.intro (l3.mono (S' := S1 w w3 S) (fun b hb h => Or.inr ⟨h, hb⟩)) hS3)))))
               clear kk3 kw3 gb hs3 hS3 X3 l1 l2 l3 own2 own3 k3 hb2 hbd hsz2 hDn HK2))
          go_ret
          rw [← HDD.out.2, HPR.out]
          exact DoPost.stayN HH.out.1 HH.out.2.1 3 (by decide) _ HX3.out.1
      · rw [show findI x.L nm = -1 by simp [findI, hf]]
        have hnf := x.file_none nm hf
        have HNF2 := mkHid (show (x.file nm).data = [] by rw [hnf])
        have HNF := mkHid (show (x.file nm).safe = [] by rw [hnf])
        clear hf hnf
        obtain ⟨D, hD⟩ : ∃ D, D = ([] : Bs) ++ bs := ⟨_, rfl⟩
        have hDx : D = (x.file nm).data ++ bs := by rw [hD]; rw [HNF2.out]
        rw [← hDx]
        have HDD := mkHid (And.intro hD hDx)
        clear hD hDx
        obtain ⟨wB, hwB⟩ : ∃ wB, wB = w.alloc (.cells #[.string ⟨nm.toArray⟩, .slice none ([] : Bs).length 0, .slice none ([] : Bs).length 0] 75) := ⟨_, rfl⟩
        have kB : Keep noM w wB := by rw [hwB]; exact alloc_keep _ _ _
        have sB : wB.heap.size = w.heap.size + 1 := by rw [hwB]; simp
        have gB : wB.heap[w.heap.size]? = some (.cells #[.string ⟨nm.toArray⟩, .slice none ([] : Bs).length 0, .slice none ([] : Bs).length 0] 75) := by rw [hwB]; exact heap_alloc_new _ _
        have own0 : (wB.alloc (.cells #[] 5)).ownsRow wB.heap.size 5 1 (.slice (some ⟨wB.heap.size, 0, none⟩) 0 0) ([] : Bs).length (bcells []) := World.ownsRow_made wB #[] 0 (Nat.le_refl _) (by simp) rfl
        have k0 : Keep noM w (wB.alloc (.cells #[] 5)) := kB.alloc _
        have hb1 : BytesAt (wB.alloc (.cells #[] 5)) S none ([] : Bs) := (RowAt.nil _ _ _)
        have hb1' : BytesAt (wB.alloc (.cells #[] 5)) S none ([] : Bs) := hb1
        have hlf : ([] : Bs).length ≤ 262144 := (Nat.zero_le _)
        rw [sB] at own0
        have HBX := mkHid (And.intro kB (And.intro sB (And.intro gB (And.intro k0 hb1))))
        have HWB := mkHid hwB
        rw [hwB] at own0 hb1' k0
        clear kB sB gB hb1 hwB
        by_cases hbl2 : D.length ≤ 262144
        · have hpre : x.preW nm D = 0 := by simp [RS.preW, ← HD.out, ← HW.out]; omega
          have HPR := mkHid hpre
          have HB2 := mkHid hbl2
          have HDL := mkHid hbl2
          clear hpre
          by_cases hz : x.fuse = 0
          · rw [hz] at c1
            have HZ := mkHid hz
            clear hz q0 q1
            have hbt : x.burnt = false := by simp [RS.burnt, HZ.out]
            have hcd : x.code = 0 := by simp [RS.code, hbt]
            have HB := mkHid (And.intro hbt hcd)
            clear hbt hcd
            go_wp2_with (at_builtin; first
              | (refine wpList_appendB rfl _ _ rfl (w.heap.size + 1) (.slice (some ⟨w.heap.size + 1, 0, none⟩) 0 0) [] rfl own0 none 0 ([] : Bs) rfl S hb1' (by simp <;> omega) (by simp) ?_; intro v2 w2 own2 k2
                 have kk2 : Keep noM (w.alloc (.cells #[.string ⟨nm.toArray⟩, .slice none ([] : Bs).length 0, .slice none ([] : Bs).length 0] 75)) w2 := (alloc_keep noM (w.alloc (.cells #[.string ⟨nm.toArray⟩, .slice none ([] : Bs).length 0, .slice none ([] : Bs).length 0] 75)) (.cells #[] 5)).trans' k2 (fun i hi e => by simp [Value.ownBlock] at e hi; omega)
                 have kw2 : Keep noM w w2 := (alloc_keep noM w (.cells #[.string ⟨nm.toArray⟩, .slice none ([] : Bs).length 0, .slice none ([] : Bs).length 0] 75)).trans kk2
                 have hb2 := HBS.out.1.keep kw2 (fun _ _ => not_noM _)
                 have hsz2 : w.heap.size + 1 ≤ w2.heap.size := by have := kk2.size; simp at this; omega
                 have hbd : (([] : Bs) ++ ([] : Bs)).length + bs.length ≤ 140737488355328 := by simp <;> omega
                 have HK2 := mkHid (And.intro kk2 kw2)
                 clear kk2 kw2 k2 own0 hb1')
              | (refine wpList_appendB rfl _ _ rfl (w.heap.size + 1) v2 (([] : Bs) ++ ([] : Bs)) rfl own2 ab cb bs rfl S hb2 hbd hsz2 ?_; intro v3 w3 own3 k3
                 have hDn : ([] : Bs) ++ ([] : Bs) ++ bs = D := by rw [HDD.out.1, List.nil_append]
                 rw [hDn] at own3
                 obtain ⟨a3, c3', rfl, l1, l2, l3⟩ := owned_shape own3
                 have kk3 : Keep noM (w.alloc (.cells #[.string ⟨nm.toArray⟩, .slice none ([] : Bs).length 0, .slice none ([] : Bs).length 0] 75)) w3 := HK2.out.1.trans' k3 (fun i hi e => by have := (own2.lt i e).1; simp at hi; omega)
                 have kw3 : Keep noM w w3 := (alloc_keep noM w (.cells #[.string ⟨nm.toArray⟩, .slice none ([] : Bs).length 0, .slice none ([] : Bs).length 0] 75)).trans kk3
                 have c0 := kw3.cell (M := noM) (not_noM _) c0
                 have c1 := kw3.cell (M := noM) (not_noM _) c1
                 have c2 := kw3.cell (M := noM) (not_noM _) c2
                 have c3 := kw3.cell (M := noM) (not_noM _) c3
                 have f1 := (kw3.frozen? (M := noM) (p := ⟨bx, 1, none⟩) (not_noM _) hbx).trans f1
                 have f2 := (kw3.frozen? (M := noM) (p := ⟨bx, 2, none⟩) (not_noM _) hbx).trans f2
                 have f3 := (kw3.frozen? (M := noM) (p := ⟨bx, 3, none⟩) (not_noM _) hbx).trans f3
                 have gb := kk3.obj (not_noM _) (heap_alloc_new w (.cells #[.string ⟨nm.toArray⟩, .slice none ([] : Bs).length 0, .slice none ([] : Bs).length 0] 75))
                 have g0 : w3.cell? ⟨w.heap.size, 0, none⟩ = some (.string ⟨nm.toArray⟩) := by simp [World.cell?, gb]
                 have g1 : w3.cell? ⟨w.heap.size, 1, none⟩ = some (.slice none ([] : Bs).length 0) := by simp [World.cell?, gb]
                 have g2 : w3.cell? ⟨w.heap.size, 2, none⟩ = some (.slice none ([] : Bs).length 0) := by simp [World.cell?, gb]
                 have g3 : w3.frozen? ⟨w.heap.size, 1, none⟩ = false := by simp [World.frozen?, gb]
                 have hs3 : w.heap.size + 1 ≤ w3.heap.size := by have := kk3.size; simp at this; omega
                 have hS3 : ∀ b, S1 w w3 S b → b < w3.heap.size := fun b hb => hb.elim (fun h => by have := HH.out.2.1 b h; omega) (fun h => h.2)
                 have HNB : Hid (∀ b, S1 w w3 S b → ¬ (b = bx ∨ b = w.heap.size)) := mkHid (fun b hb e => by
                   have := HH.out.2.1 b
                   rcases hb with hb | hb
                   · rcases e with e | e
                     · exact HH.out.1.nx (e ▸ hb)
                     · have := this hb; omega
                   · omega)
                 have X3 : XAt w3 (S1 w w3 S) T bx x := (HH.out.1.keep kw3 (fun _ _ => not_noM _)).more (fun b _ hb => Or.inl hb) (fun b hb e => by
                   rcases e with e | e
                   · exact (HH.out.1.dT b hb).1 e
                   · have := (HH.out.1.dT b hb).2.2; omega) (fun e => by
                   rcases e with e | e
                   · exact HH.out.1.nx e
                   · omega)
                 have HX3 := mkHid (And.intro kw3 (And.intro X3 (And.intro l1 (And.intro l2 (And.intro (l3.mono (S' := S1 w w3 S) (fun b hb h => Or.inr ⟨h, hb⟩)) hS3)))))
                 clear kk3 kw3 gb hs3 hS3 X3 l1 l2 l3 own2 own3 k3 hb2 hbd hsz2 hDn HK2))
            obtain ⟨kb, xb⟩ := HX3.out.2.1.burn0 HZ.out
            have KS : Keep (isB w.heap.size) (w3.setCell ⟨bx, 3, none⟩ (.int .i64 (x.ops + 1))) ((w3.setCell ⟨bx, 3, none⟩ (.int .i64 (x.ops + 1))).setCell ⟨w.heap.size, 1, none⟩ (.slice a3 D.length c3')) := (Keep.refl (isB w.heap.size) _).setCell (p := ⟨w.heap.size, 1, none⟩) (.inl rfl) _
            have KA : Hid (Keep (fun b => b = bx ∨ b = w.heap.size) w3 ((w3.setCell ⟨bx, 3, none⟩ (.int .i64 (x.ops + 1))).setCell ⟨w.heap.size, 1, none⟩ (.slice a3 D.length c3'))) := mkHid ((kb.mono (fun _ _ e => Or.inl e)).trans (KS.mono (fun _ _ e => Or.inr e)))
            have KW : Hid (Keep (isB bx) w ((w3.setCell ⟨bx, 3, none⟩ (.int .i64 (x.ops + 1))).setCell ⟨w.heap.size, 1, none⟩ (.slice a3 D.length c3'))) := mkHid (((keepAll HX3.out.1).trans kb).trans' KS (fun i hi e => by unfold isB at e; omega))
            have XB : Hid (XAt ((w3.setCell ⟨bx, 3, none⟩ (.int .i64 (x.ops + 1))).setCell ⟨w.heap.size, 1, none⟩ (.slice a3 D.length c3')) (S1 w w3 S) T bx x.burn) := mkHid (xb.keep KS (fun b hb e => by
              unfold isB at e
              rcases hb with hb | hb | hb
              · rcases hb with hb | hb
                · have := HH.out.2.1 b hb; omega
                · omega
              · have := (HH.out.1.dT b hb).2.2; omega
              · omega))
            clear kb xb KS
            refine (rput_any _ (S1 w w3 S) T (fun b hb => Nat.lt_of_lt_of_le (HX3.out.2.2.2.2.2 b hb) KA.out.size) bx x.burn XB.out (by have := HH.out.2.2.1; simp only [RS.burn]; omega) ⟨nm, D, []⟩ ⟨a3, c3', none, 0⟩ ⟨hnm, HB2.out, by simp, HX3.out.2.2.1, by simp, HX3.out.2.2.2.1, by simp, HX3.out.2.2.2.2.1.keep KA.out HNB.out, .nil _ _ _⟩).mono ?_
            rintro e w4 ⟨rfl, K2, T', hT', X2⟩
            have HX2 := mkHid (And.intro K2 (And.intro hT' X2))
            clear K2 hT' X2
            go_wp2
            go_ret
            rw [← HDD.out.2, HPR.out]
            have hfin := DoPost.goneW (w := w) (S := S) (T := T) (x := x) (putL x.L ⟨nm, D, []⟩) (fun b hb => Nat.lt_of_lt_of_le (HX3.out.2.2.2.2.2 b hb) (Nat.le_trans KA.out.size HX2.out.1.size)) (fun b hb => hb.imp id (fun h => by omega)) (KW.out.trans HX2.out.1) (fun b hb => .inr (Nat.le_trans KW.out.size (HX2.out.2.1 b hb))) HX2.out.2.2 (by simp [RS.burn])
            rw [HB.out.2] at hfin
            rw [HNF.out]
            exact hfin
          · by_cases h1 : x.fuse = 1
            · rw [h1] at c1
              have HZ := mkHid h1
              clear hz h1 q0 q1
              have hbt : x.burnt = true := by simp [RS.burnt, HZ.out]
              have hcd : x.code = 21 := by simp [RS.code, hbt]
              have HB := mkHid (And.intro hbt hcd)
              clear hbt hcd
              go_wp2_with (at_builtin; first
                | (refine wpList_appendB rfl _ _ rfl (w.heap.size + 1) (.slice (some ⟨w.heap.size + 1, 0, none⟩) 0 0) [] rfl own0 none 0 ([] : Bs) rfl S hb1' (by simp <;> omega) (by simp) ?_; intro v2 w2 own2 k2
                   have kk2 : Keep noM (w.alloc (.cells #[.string ⟨nm.toArray⟩, .slice none ([] : Bs).length 0, .slice none ([] : Bs).length 0] 75)) w2 := (alloc_keep noM (w.alloc (.cells #[.string ⟨nm.toArray⟩, .slice none ([] : Bs).length 0, .slice none ([] : Bs).length 0] 75)) (.cells #[] 5)).trans' k2 (fun i hi e => by simp [Value.ownBlock] at e hi; omega)
                   have kw2 : Keep noM w w2 := (alloc_keep noM w (.cells #[.string ⟨nm.toArray⟩, .slice none ([] : Bs).length 0, .slice none ([] : Bs).length 0] 75)).trans kk2
                   have hb2 := HBS.out.1.keep kw2 (fun _ _ => not_noM _)
                   have hsz2 : w.heap.size + 1 ≤ w2.heap.size := by have := kk2.size; simp at this; omega
                   have hbd : (([] : Bs) ++ ([] : Bs)).length + bs.length ≤ 140737488355328 := by simp <;> omega
                   have HK2 := mkHid (And.intro kk2 kw2)
                   clear kk2 kw2 k2 own0 hb1')
                | (refine wpList_appendB rfl _ _ rfl (w.heap.size + 1) v2 (([] : Bs) ++ ([] : Bs)) rfl own2 ab cb bs rfl S hb2 hbd hsz2 ?_; intro v3 w3 own3 k3
                   have hDn : ([] : Bs) ++ ([] : Bs) ++ bs = D := by rw [HDD.out.1, List.nil_append]
                   rw [hDn] at own3
                   obtain ⟨a3, c3', rfl, l1, l2, l3⟩ := owned_shape own3
                   have kk3 : Keep noM (w.alloc (.cells #[.string ⟨nm.toArray⟩, .slice none ([] : Bs).length 0, .slice none ([] : Bs).length 0] 75)) w3 := HK2.out.1.trans' k3 (fun i hi e => by have := (own2.lt i e).1; simp at hi; omega)
                   have kw3 : Keep noM w w3 := (alloc_keep noM w (.cells #[.string ⟨nm.toArray⟩, .slice none ([] : Bs).length 0, .slice none ([] : Bs).length 0] 75)).trans kk3
                   have c0 := kw3.cell (M := noM) (not_noM _) c0
                   have c1 := kw3.cell (M := noM) (not_noM _) c1
                   have c2 := kw3.cell (M := noM) (not_noM _) c2
                   have c3 := kw3.cell (M := noM) (not_noM _) c3
                   have f1 := (kw3.frozen? (M := noM) (p := ⟨bx, 1, none⟩) (not_noM _) hbx).trans f1
                   have f2 := (kw3.frozen? (M := noM) (p := ⟨bx, 2, none⟩) (not_noM _) hbx).trans f2
                   have f3 := (kw3.frozen? (M := noM) (p := ⟨bx, 3, none⟩) (not_noM _) hbx).trans f3
                   have gb := kk3.obj (not_noM _) (heap_alloc_new w (.cells #[.string ⟨nm.toArray⟩, .slice none ([] : Bs).length 0, .slice none ([] : Bs).length 0] 75))
                   have g0 : w3.cell? ⟨w.heap.size, 0, none⟩ = some (.string ⟨nm.toArray⟩) := by simp [World.cell?, gb]
                   have g1 : w3.cell? ⟨w.heap.size, 1, none⟩ = some (.slice none ([] : Bs).length 0) := by simp [World.cell?, gb]
                   have g2 : w3.cell? ⟨w.heap.size, 2, none⟩ = some (.slice none ([] : Bs).length 0) := by simp [World.cell?, gb]
                   have g3 : w3.frozen? ⟨w.heap.size, 1, none⟩ = false := by simp [World.frozen?, gb]
                   have hs3 : w.heap.size + 1 ≤ w3.heap.size := by have := kk3.size; simp at this; omega
                   have hS3 : ∀ b, S1 w w3 S b → b < w3.heap.size := fun b hb => hb.elim (fun h => by have := HH.out.2.1 b h; omega) (fun h => h.2)
                   have HNB : Hid (∀ b, S1 w w3 S b → ¬ (b = bx ∨ b = w.heap.size)) := mkHid (fun b hb e => by
                     have := HH.out.2.1 b
                     rcases hb with hb | hb
                     · rcases e with e | e
                       · exact HH.out.1.nx (e ▸ hb)
                       · have := this hb; omega
                     · omega)
                   have X3 : XAt w3 (S1 w w3 S) T bx x := (HH.out.1.keep kw3 (fun _ _ => not_noM _)).more (fun b _ hb => Or.inl hb) (fun b hb e => by
                     rcases e with e | e
                     · exact (HH.out.1.dT b hb).1 e
                     · have := (HH.out.1.dT b hb).2.2; omega) (fun e => by
                     rcases e with e | e
                     · exact HH.out.1.nx e
                     · omega)
                   have HX3 := mkHid (And.intro kw3 (And.intro X3 (And.intro l1 (And.intro l2 (And.intro (l3.mono (S' := S1 w w3 S) (fun b hb h => Or.inr ⟨h, hb⟩)) hS3)))))
                   clear kk3 kw3 gb hs3 hS3 X3 l1 l2 l3 own2 own3 k3 hb2 hbd hsz2 hDn HK2))
              obtain ⟨kb, xb⟩ := HX3.out.2.1.burn1 HZ.out
              have KS : Keep (isB w.heap.size) (((w3.setCell ⟨bx, 3, none⟩ (.int .i64 (x.ops + 1))).setCell ⟨bx, 1, none⟩ (.int .i64 0)).setCell ⟨bx, 2, none⟩ (.bool true)) ((((w3.setCell ⟨bx, 3, none⟩ (.int .i64 (x.ops + 1))).setCell ⟨bx, 1, none⟩ (.int .i64 0)).setCell ⟨bx, 2, none⟩ (.bool true)).setCell ⟨w.heap.size, 1, none⟩ (.slice a3 D.length c3')) := (Keep.refl (isB w.heap.size) _).setCell (p := ⟨w.heap.size, 1, none⟩) (.inl rfl) _
              have KA : Hid (Keep (fun b => b = bx ∨ b = w.heap.size) w3 ((((w3.setCell ⟨bx, 3, none⟩ (.int .i64 (x.ops + 1))).setCell ⟨bx, 1, none⟩ (.int .i64 0)).setCell ⟨bx, 2, none⟩ (.bool true)).setCell ⟨w.heap.size, 1, none⟩ (.slice a3 D.length c3'))) := mkHid ((kb.mono (fun _ _ e => Or.inl e)).trans (KS.mono (fun _ _ e => Or.inr e)))
              have KW : Hid (Keep (isB bx) w ((((w3.setCell ⟨bx, 3, none⟩ (.int .i64 (x.ops + 1))).setCell ⟨bx, 1, none⟩ (.int .i64 0)).setCell ⟨bx, 2, none⟩ (.bool true)).setCell ⟨w.heap.size, 1, none⟩ (.slice a3 D.length c3'))) := mkHid (((keepAll HX3.out.1).trans kb).trans' KS (fun i hi e => by unfold isB at e; omega))
              have XB : Hid (XAt ((((w3.setCell ⟨bx, 3, none⟩ (.int .i64 (x.ops + 1))).setCell ⟨bx, 1, none⟩ (.int .i64 0)).setCell ⟨bx, 2, none⟩ (.bool true)).setCell ⟨w.heap.size, 1, none⟩ (.slice a3 D.length c3')) (S1 w w3 S) T bx x.burn) := mkHid (xb.keep KS (fun b hb e => by
                unfold isB at e
                rcases hb with hb | hb | hb
                · rcases hb with hb | hb
                  · have := HH.out.2.1 b hb; omega
                  · omega
                · have := (HH.out.1.dT b hb).2.2; omega
                · omega))
              clear kb xb KS
              refine (rput_any _ (S1 w w3 S) T (fun b hb => Nat.lt_of_lt_of_le (HX3.out.2.2.2.2.2 b hb) KA.out.size) bx x.burn XB.out (by have := HH.out.2.2.1; simp only [RS.burn]; omega) ⟨nm, D, []⟩ ⟨a3, c3', none, 0⟩ ⟨hnm, HB2.out, by simp, HX3.out.2.2.1, by simp, HX3.out.2.2.2.1, by simp, HX3.out.2.2.2.2.1.keep KA.out HNB.out, .nil _ _ _⟩).mono ?_
              rintro e w4 ⟨rfl, K2, T', hT', X2⟩
              have HX2 := mkHid (And.intro K2 (And.intro hT' X2))
              clear K2 hT' X2
              go_wp2
              go_ret
              rw [← HDD.out.2, HPR.out]
              have hfin := DoPost.goneW (w := w) (S := S) (T := T) (x := x) (putL x.L ⟨nm, D, []⟩) (fun b hb => Nat.lt_of_lt_of_le (HX3.out.2.2.2.2.2 b hb) (Nat.le_trans KA.out.size HX2.out.1.size)) (fun b hb => hb.imp id (fun h => by omega)) (KW.out.trans HX2.out.1) (fun b hb => .inr (Nat.le_trans KW.out.size (HX2.out.2.1 b hb))) HX2.out.2.2 (by simp [RS.burn])
              rw [HB.out.2] at hfin
              rw [HNF.out]
              exact hfin
            · have hg : 1 < x.fuse := by omega
              obtain ⟨z, hzz⟩ : ∃ z, z = x.fuse := ⟨_, rfl⟩
              rw [← hzz] at c1
              have z1 : (z - 1 == 0) = false := by rw [hzz]; simp; omega
              have z2 : 1 < z := by omega
              have z3 : z ≤ 9223372036854775807 := by omega
              have HZ := mkHid hg
              have hbt : x.burnt = false := by simp [RS.burnt]; omega
              have hcd : x.code = 0 := by simp [RS.code, hbt]
              have HB := mkHid (And.intro hbt hcd)
              have HZZ := mkHid hzz
              clear hz h1 hg q0 q1 hbt hcd hzz
              go_wp2_with (at_builtin; first
                | (refine wpList_appendB rfl _ _ rfl (w.heap.size + 1) (.slice (some ⟨w.heap.size + 1, 0, none⟩) 0 0) [] rfl own0 none 0 ([] : Bs) rfl S hb1' (by simp <;> omega) (by simp) ?_; intro v2 w2 own2 k2
                   have kk2 : Keep noM (w.alloc (.cells #[.string ⟨nm.toArray⟩, .slice none ([] : Bs).length 0, .slice none ([] : Bs).length 0] 75)) w2 := (alloc_keep noM (w.alloc (.cells #[.string ⟨nm.toArray⟩, .slice none ([] : Bs).length 0, .slice none ([] : Bs).length 0] 75)) (.cells #[] 5)).trans' k2 (fun i hi e => by simp [Value.ownBlock] at e hi; omega)
                   have kw2 : Keep noM w w2 := (alloc_keep noM w (.cells #[.string ⟨nm.toArray⟩, .slice none ([] : Bs).length 0, .slice none ([] : Bs).length 0] 75)).trans kk2
                   have hb2 := HBS.out.1.keep kw2 (fun _ _ => not_noM _)
                   have hsz2 : w.heap.size + 1 ≤ w2.heap.size := by have := kk2.size; simp at this; omega
                   have hbd : (([] : Bs) ++ ([] : Bs)).length + bs.length ≤ 140737488355328 := by simp <;> omega
                   have HK2 := mkHid (And.intro kk2 kw2)
                   clear kk2 kw2 k2 own0 hb1')
                | (refine wpList_appendB rfl _ _ rfl (w.heap.size + 1) v2 (([] : Bs) ++ ([] : Bs)) rfl own2 ab cb bs rfl S hb2 hbd hsz2 ?_; intro v3 w3 own3 k3
                   have hDn : ([] : Bs) ++ ([] : Bs) ++ bs = D := by rw [HDD.out.1, List.nil_append]
                   rw [hDn] at own3
                   obtain ⟨a3, c3', rfl, l1, l2, l3⟩ := owned_shape own3
                   have kk3 : Keep noM (w.alloc (.cells #[.string ⟨nm.toArray⟩, .slice none ([] : Bs).length 0, .slice none ([] : Bs).length 0] 75)) w3 := HK2.out.1.trans' k3 (fun i hi e => by have := (own2.lt i e).1; simp at hi; omega)
                   have kw3 : Keep noM w w3 := (alloc_keep noM w (.cells #[.string ⟨nm.toArray⟩, .slice none ([] : Bs).length 0, .slice none ([] : Bs).length 0] 75)).trans kk3
                   have c0 := kw3.cell (M := noM) (not_noM _) c0
                   have c1 := kw3.cell (M := noM) (not_noM _) c1
                   have c2 := kw3.cell (M := noM) (not_noM _) c2
                   have c3 := kw3.cell (M := noM) (not_noM _) c3
                   have f1 := (kw3.frozen? (M := noM) (p := ⟨bx, 1, none⟩) (not_noM _) hbx).trans f1
                   have f2 := (kw3.frozen? (M := noM) (p := ⟨bx, 2, none⟩) (not_noM _) hbx).trans f2
                   have f3 := (kw3.frozen? (M := noM) (p := ⟨bx, 3, none⟩) (not_noM _) hbx).trans f3
                   have gb := kk3.obj (not_noM _) (heap_alloc_new w (.cells #[.string ⟨nm.toArray⟩, .slice none ([] : Bs).length 0, .slice none ([] : Bs).length 0] 75))
                   have g0 : w3.cell? ⟨w.heap.size, 0, none⟩ = some (.string ⟨nm.toArray⟩) := by simp [World.cell?, gb]
                   have g1 : w3.cell? ⟨w.heap.size, 1, none⟩ = some (.slice none ([] : Bs).length 0) := by simp [World.cell?, gb]
                   have g2 : w3.cell? ⟨w.heap.size, 2, none⟩ = some (.slice none ([] : Bs).length 0) := by simp [World.cell?, gb]
                   have g3 : w3.frozen? ⟨w.heap.size, 1, none⟩ = false := by simp [World.frozen?, gb]
                   have hs3 : w.heap.size + 1 ≤ w3.heap.size := by have := kk3.size; simp at this; omega
                   have hS3 : ∀ b, S1 w w3 S b → b < w3.heap.size := fun b hb => hb.elim (fun h => by have := HH.out.2.1 b h; omega) (fun h => h.2)
                   have HNB : Hid (∀ b, S1 w w3 S b → ¬ (b = bx ∨ b = w.heap.size)) := mkHid (fun b hb e => by
                     have := HH.out.2.1 b
                     rcases hb with hb | hb
                     · rcases e with e | e
                       · exact HH.out.1.nx (e ▸ hb)
                       · have := this hb; omega
                     · omega)
                   have X3 : XAt w3 (S1 w w3 S) T bx x := (HH.out.1.keep kw3 (fun _ _ => not_noM _)).more (fun b _ hb => Or.inl hb) (fun b hb e => by
                     rcases e with e | e
                     · exact (HH.out.1.dT b hb).1 e
                     · have := (HH.out.1.dT b hb).2.2; omega) (fun e => by
                     rcases e with e | e
                     · exact HH.out.1.nx e
                     · omega)
                   have HX3 := mkHid (And.intro kw3 (And.intro X3 (And.intro l1 (And.intro l2 (And.intro (l3.mono (S' := S1 w w3 S) (fun b hb h => Or.inr ⟨h, hb⟩)) hS3)))))
                   clear kk3 kw3 gb hs3 hS3 X3 l1 l2 l3 own2 own3 k3 hb2 hbd hsz2 hDn HK2))
              obtain ⟨kb, xb⟩ := HX3.out.2.1.burn2 HZ.out
              have KS : Keep (isB w.heap.size) (((w3.setCell ⟨bx, 3, none⟩ (.int .i64 (x.ops + 1))).setCell ⟨bx, 1, none⟩ (.int .i64 (x.fuse - 1))).setCell ⟨bx, 2, none⟩ (.bool false)) ((((w3.setCell ⟨bx, 3, none⟩ (.int .i64 (x.ops + 1))).setCell ⟨bx, 1, none⟩ (.int .i64 (x.fuse - 1))).setCell ⟨bx, 2, none⟩ (.bool false)).setCell ⟨w.heap.size, 1, none⟩ (.slice a3 D.length c3')) := (Keep.refl (isB w.heap.size) _).setCell (p := ⟨w.heap.size, 1, none⟩) (.inl rfl) _
              have KA : Hid (Keep (fun b => b = bx ∨ b = w.heap.size) w3 ((((w3.setCell ⟨bx, 3, none⟩ (.int .i64 (x.ops + 1))).setCell ⟨bx, 1, none⟩ (.int .i64 (x.fuse - 1))).setCell ⟨bx, 2, none⟩ (.bool false)).setCell ⟨w.heap.size, 1, none⟩ (.slice a3 D.length c3'))) := mkHid ((kb.mono (fun _ _ e => Or.inl e)).trans (KS.mono (fun _ _ e => Or.inr e)))
              have KW : Hid (Keep (isB bx) w ((((w3.setCell ⟨bx, 3, none⟩ (.int .i64 (x.ops + 1))).setCell ⟨bx, 1, none⟩ (.int .i64 (x.fuse - 1))).setCell ⟨bx, 2, none⟩ (.bool false)).setCell ⟨w.heap.size, 1, none⟩ (.slice a3 D.length c3'))) := mkHid (((keepAll HX3.out.1).trans kb).trans' KS (fun i hi e => by unfold isB at e; omega))
              have XB : Hid (XAt ((((w3.setCell ⟨bx, 3, none⟩ (.int .i64 (x.ops + 1))).setCell ⟨bx, 1, none⟩ (.int .i64 (x.fuse - 1))).setCell ⟨bx, 2, none⟩ (.bool false)).setCell ⟨w.heap.size, 1, none⟩ (.slice a3 D.length c3')) (S1 w w3 S) T bx x.burn) := mkHid (xb.keep KS (fun b hb e => by
                unfold isB at e
                rcases hb with hb | hb | hb
                · rcases hb with hb | hb
                  · have := HH.out.2.1 b hb; omega
                  · omega
                · have := (HH.out.1.dT b hb).2.2; omega
                · omega))
              clear kb xb KS
              try rw [HZZ.out]
              refine (rput_any _ (S1 w w3 S) T (fun b hb => Nat.lt_of_lt_of_le (HX3.out.2.2.2.2.2 b hb) KA.out.size) bx x.burn XB.out (by have := HH.out.2.2.1; simp only [RS.burn]; omega) ⟨nm, D, []⟩ ⟨a3, c3', none, 0⟩ ⟨hnm, HB2.out, by simp, HX3.out.2.2.1, by simp, HX3.out.2.2.2.1, by simp, HX3.out.2.2.2.2.1.keep KA.out HNB.out, .nil _ _ _⟩).mono ?_
              rintro e w4 ⟨rfl, K2, T', hT', X2⟩
              have HX2 := mkHid (And.intro K2 (And.intro hT' X2))
              clear K2 hT' X2
              go_wp2
              go_ret
              rw [← HDD.out.2, HPR.out]
              have hfin := DoPost.goneW (w := w) (S := S) (T := T) (x := x) (putL x.L ⟨nm, D, []⟩) (fun b hb => Nat.lt_of_lt_of_le (HX3.out.2.2.2.2.2 b hb) (Nat.le_trans KA.out.size HX2.out.1.size)) (fun b hb => hb.imp id (fun h => by omega)) (KW.out.trans HX2.out.1) (fun b hb => .inr (Nat.le_trans KW.out.size (HX2.out.2.1 b hb))) HX2.out.2.2 (by simp [RS.burn])
              rw [HB.out.2] at hfin
              rw [HNF.out]
              exact hfin
        · have hpre : x.preW nm D = 3 := by simp [RS.preW, ← HD.out, ← HW.out]; omega
          have HPR := mkHid hpre
          clear hpre
          go_wp2_with (at_builtin; first
            | (refine wpList_appendB rfl _ _ rfl (w.heap.size + 1) (.slice (some ⟨w.heap.size + 1, 0, none⟩) 0 0) [] rfl own0 none 0 ([] : Bs) rfl S hb1' (by simp <;> omega) (by simp) ?_; intro v2 w2 own2 k2
               have kk2 : Keep noM (w.alloc (.cells #[.string ⟨nm.toArray⟩, .slice none ([] : Bs).length 0, .slice none ([] : Bs).length 0] 75)) w2 := (alloc_keep noM (w.alloc (.cells #[.string ⟨nm.toArray⟩, .slice none ([] : Bs).length 0, .slice none ([] : Bs).length 0] 75)) (.cells #[] 5)).trans' k2 (fun i hi e => by simp [Value.ownBlock] at e hi; omega)
               have kw2 : Keep noM w w2 := (alloc_keep noM w (.cells #[.string ⟨nm.toArray⟩, .slice none ([] : Bs).length 0, .slice none ([] : Bs).length 0] 75)).trans kk2
               have hb2 := HBS.out.1.keep kw2 (fun _ _ => not_noM _)
               have hsz2 : w.heap.size + 1 ≤ w2.heap.size := by have := kk2.size; simp at this; omega
               have hbd : (([] : Bs) ++ ([] : Bs)).length + bs.length ≤ 140737488355328 := by simp <;> omega
               have HK2 := mkHid (And.intro kk2 kw2)
               clear kk2 kw2 k2 own0 hb1')
            | (refine wpList_appendB rfl _ _ rfl (w.heap.size + 1) v2 (([] : Bs) ++ ([] : Bs)) rfl own2 ab cb bs rfl S hb2 hbd hsz2 ?_; intro v3 w3 own3 k3
               have hDn : ([] : Bs) ++ ([] : Bs) ++ bs = D := by rw [HDD.out.1, List.nil_append]
               rw [hDn] at own3
               obtain ⟨a3, c3', rfl, l1, l2, l3⟩ := owned_shape own3
               have kk3 : Keep noM (w.alloc (.cells #[.string ⟨nm.toArray⟩, .slice none ([] : Bs).length 0, .slice none ([] : Bs).length 0] 75)) w3 := HK2.out.1.trans' k3 (fun i hi e => by have := (own2.lt i e).1; simp at hi; omega)
               have kw3 : Keep noM w w3 := (alloc_keep noM w (.cells #[.string ⟨nm.toArray⟩, .slice none ([] : Bs).length 0, .slice none ([] : Bs).length 0] 75)).trans kk3
               have c0 := kw3.cell (M := noM) (not_noM _) c0
               have c1 := kw3.cell (M := noM) (not_noM _) c1
               have c2 := kw3.cell (M := noM) (not_noM _) c2
               have c3 := kw3.cell (M := noM) (not_noM _) c3
               have f1 := (kw3.frozen? (M := noM) (p := ⟨bx, 1, none⟩) (not_noM _) hbx).trans f1
               have f2 := (kw3.frozen? (M := noM) (p := ⟨bx, 2, none⟩) (not_noM _) hbx).trans f2
               have f3 := (kw3.frozen? (M := noM) (p := ⟨bx, 3, none⟩) (not_noM _) hbx).trans f3
               have gb := kk3.obj (not_noM _) (heap_alloc_new w (.cells #[.string ⟨nm.toArray⟩, .slice none ([] : Bs).length 0, .slice none ([] : Bs).length 0] 75))
               have g0 : w3.cell? ⟨w.heap.size, 0, none⟩ = some (.string ⟨nm.toArray⟩) := by simp [World.cell?, gb]
               have g1 : w3.cell? ⟨w.heap.size, 1, none⟩ = some (.slice none ([] : Bs).length 0) := by simp [World.cell?, gb]
               have g2 : w3.cell? ⟨w.heap.size, 2, none⟩ = some (.slice none ([] : Bs).length 0) := by simp [World.cell?, gb]
               have g3 : w3.frozen? ⟨w.heap.size, 1, none⟩ = false := by simp [World.frozen?, gb]
               have hs3 : w.heap.size + 1 ≤ w3.heap.size := by have := kk3.size; simp at this; omega
               have hS3 : ∀ b, S1 w w3 S b → b < w3.heap.size := fun b hb => hb.elim (fun h => by have := HH.out.2.1 b h; omega) (fun h => h.2)
               have HNB : Hid (∀ b, S1 w w3 S b → ¬ (b = bx ∨ b = w.heap.size)) := mkHid (fun b hb e => by
                 have := HH.out.2.1 b
                 rcases hb with hb | hb
                 · rcases e with e | e
                   · exact HH.out.1.nx (e ▸ hb)
                   · have := this hb; omega
                 · omega)
               have X3 : XAt w3 (S1 w w3 S) T bx x := (HH.out.1.keep kw3 (fun _ _ => not_noM _)).more (fun b _ hb => Or.inl hb) (fun b hb e => by
                 rcases e with e | e
                 · exact (HH.out.1.dT b hb).1 e
                 · have := (HH.out.1.dT b hb).2.2; omega) (fun e => by
                 rcases e with e | e
                 · exact HH.out.1.nx e
                 · omega)
               have HX3 := mkHid (And.intro kw3 (And.intro X3 (And.intro l1 (And.intro l2 (And.intro (l3.mono (S' := S1 w w3 S) (fun b hb h => Or.inr ⟨h, hb⟩)) hS3)))))
               clear kk3 kw3 gb hs3 hS3 X3 l1 l2 l3 own2 own3 k3 hb2 hbd hsz2 hDn HK2))
          go_ret
          rw [← HDD.out.2, HPR.out]
          exact DoPost.stayN HH.out.1 HH.out.2.1 3 (by decide) _ HX3.out.1
  · go_enter Try.func25, Try.ntmps25
    go_wp2
    go_ret
    rw [show x.preW nm ((x.file nm).data ++ bs) = 21 by simp [RS.preW, ← HD.out]]
    exact DoPost.stayW HH.out.1 HH.out.2.1 21 (by decide) _
end Go.Proofs.Ytohbglopgjbfcaa
