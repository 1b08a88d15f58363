/-
  THE DISK AND THE REFERENCE SIDE BY SIDE, PART 2: each call.
-/
import Derived.Test.YtohbglopgjbfcaaDo
import Derived.Test.YtohbglopgjbfcaaRef8
set_option linter.unusedVariables false
set_option linter.unusedSimpArgs false
namespace Go.Proofs.Ytohbglopgjbfcaa
open Go.RowKit

theorem joint_write {w0 w : World} {d m bx c : Nat} {s : DS} {x : RS} (h : Joint w0 w d m bx s x c) (hc : c ≤ 900) (k b : Bs) (hk : k.length ≤ maxLen) (a : Option Addr) (cap : Nat) (Sb : Nat → Prop) (hb : BytesAt w Sb a b) (hbl : b.length ≤ 140737488355328) :
    Calls Try.prog 9 #[.pointer (some ⟨d, 0, none⟩), .string ⟨k.toArray⟩, .slice a b.length cap] w fun e w' => e = .returned (.int .i64 (s.writeE k b)) ∧ Keep (isB2 d m) w w' ∧ Joint w0 w' d m bx (s.write k b) x (c + 1) := by
  obtain ⟨n, Sd, Sx, T, hn, hD, hX, hSd, hSx, hT, hA⟩ := h.st
  have o0 := h.o0
  have o1 := h.o1
  refine (Write_any w Sd d m n s hD o0 (by omega) (by omega) k b hk a cap Sb hb hbl).mono ?_
  rintro e w' ⟨rfl, K, D'⟩
  have hq : s.ops ≤ (s.write k b).ops ∧ (s.write k b).ops ≤ s.ops + 1 := s.ops_write k b
  exact ⟨rfl, K, h.diskTurn hX hSd hSx hT hA hD.lt K D' (fun b h => h) (by omega) (by omega) hq.2⟩
theorem joint_append {w0 w : World} {d m bx c : Nat} {s : DS} {x : RS} (h : Joint w0 w d m bx s x c) (hc : c ≤ 900) (k b : Bs) (hk : k.length ≤ maxLen) (a : Option Addr) (cap : Nat) (Sb : Nat → Prop) (hb : BytesAt w Sb a b) (hbl : b.length ≤ 70368744177664) :
    Calls Try.prog 15 #[.pointer (some ⟨d, 0, none⟩), .string ⟨k.toArray⟩, .slice a b.length cap] w fun e w' => e = .returned (.int .i64 (s.appendE k b)) ∧ Keep (isB2 d m) w w' ∧ Joint w0 w' d m bx (s.append k b) x (c + 1) := by
  obtain ⟨n, Sd, Sx, T, hn, hD, hX, hSd, hSx, hT, hA⟩ := h.st
  have o0 := h.o0
  have o1 := h.o1
  refine (Append_any w Sd d m n s hD o0 (by omega) (by omega) k b hk a cap Sb hb hbl).mono ?_
  rintro e w' ⟨rfl, K, D'⟩
  have hq : s.ops ≤ (s.append k b).ops ∧ (s.append k b).ops ≤ s.ops + 1 := s.ops_append k b
  exact ⟨rfl, K, h.diskTurn hX hSd hSx hT hA hD.lt K D' (fun b h => h) (by omega) (by omega) hq.2⟩
theorem joint_sync {w0 w : World} {d m bx c : Nat} {s : DS} {x : RS} (h : Joint w0 w d m bx s x c) (hc : c ≤ 900) (k : Bs) (hk : k.length ≤ maxLen)  :
    Calls Try.prog 10 #[.pointer (some ⟨d, 0, none⟩), .string ⟨k.toArray⟩] w fun e w' => e = .returned (.int .i64 (s.doE (s.preE [k] k))) ∧ Keep (isB2 d m) w w' ∧ Joint w0 w' d m bx (s.doS (s.preE [k] k) (s.f.put k ((look s k).1, (look s k).1))) x (c + 1) := by
  obtain ⟨n, Sd, Sx, T, hn, hD, hX, hSd, hSx, hT, hA⟩ := h.st
  have o0 := h.o0
  have o1 := h.o1
  refine (Sync_any w Sd (fun b hb => (hSd b hb).1) d m n s hD o0 (by omega) (by omega) k hk).mono ?_
  rintro e w' ⟨rfl, K, D'⟩
  have hq : s.ops ≤ (s.doS (s.preE [k] k) (s.f.put k ((look s k).1, (look s k).1))).ops ∧ (s.doS (s.preE [k] k) (s.f.put k ((look s k).1, (look s k).1))).ops ≤ s.ops + 1 := s.ops_doS _ _
  exact ⟨rfl, K, h.diskTurn hX hSd hSx hT hA hD.lt K D' (fun b h => .inl h) (by omega) (by omega) hq.2⟩
theorem joint_rename {w0 w : World} {d m bx c : Nat} {s : DS} {x : RS} (h : Joint w0 w d m bx s x c) (hc : c ≤ 900) (k to : Bs) (hk : k.length ≤ maxLen) (hto : to.length ≤ maxLen)  :
    Calls Try.prog 26 #[.pointer (some ⟨d, 0, none⟩), .string ⟨k.toArray⟩, .string ⟨to.toArray⟩] w fun e w' => e = .returned (.int .i64 (s.doE (s.preE [k, to] k))) ∧ Keep (isB2 d m) w w' ∧ Joint w0 w' d m bx (s.doS (s.preE [k, to] k) (renamed s.f k to)) x (c + 1) := by
  obtain ⟨n, Sd, Sx, T, hn, hD, hX, hSd, hSx, hT, hA⟩ := h.st
  have o0 := h.o0
  have o1 := h.o1
  refine (Rename_any w Sd (fun b hb => (hSd b hb).1) d m n s hD o0 (by omega) (by omega) k to hk hto).mono ?_
  rintro e w' ⟨rfl, K, D'⟩
  have hq : s.ops ≤ (s.doS (s.preE [k, to] k) (renamed s.f k to)).ops ∧ (s.doS (s.preE [k, to] k) (renamed s.f k to)).ops ≤ s.ops + 1 := s.ops_doS _ _
  exact ⟨rfl, K, h.diskTurn hX hSd hSx hT hA hD.lt K D' (fun b h => .inl h) (by omega) (by omega) hq.2⟩
theorem joint_fuse {w0 w : World} {d m bx c : Nat} {s : DS} {x : RS} (h : Joint w0 w d m bx s x c) (hc : c ≤ 900) (q : Int) (hq : q ≤ 9223372036854775807) :
    Calls Try.prog 28 #[.pointer (some ⟨d, 0, none⟩), .int .i64 q] w fun e w' => e = .returned (.int .i64 s.fuseE) ∧ Keep (isB2 d m) w w' ∧ Joint w0 w' d m bx (s.setFuse q) x (c + 1) := by
  obtain ⟨n, Sd, Sx, T, hn, hD, hX, hSd, hSx, hT, hA⟩ := h.st
  have o0 := h.o0
  have o1 := h.o1
  refine (Fuse_any w Sd d m n s hD q hq).mono ?_
  rintro e w' ⟨rfl, K, D'⟩
  have hq2 : s.ops ≤ (s.setFuse q).ops ∧ (s.setFuse q).ops ≤ s.ops + 1 := by rw [s.ops_setFuse q]; omega
  exact ⟨rfl, K, h.diskTurn hX hSd hSx hT hA hD.lt K D' (fun b h => .inl h) (by omega) (by omega) hq2.2⟩
theorem joint_boot {w0 w : World} {d m bx c : Nat} {s : DS} {x : RS} (h : Joint w0 w d m bx s x c) (hc : c ≤ 900) (keep : Int) (hk0 : -9223372036854775808 ≤ keep) (hk1 : keep ≤ 9223372036854775807) :
    Calls Try.prog 14 #[.pointer (some ⟨d, 0, none⟩), .int .i64 keep] w fun e w' => e = .returned (.tuple #[]) ∧ Keep (isB2 d m) w w' ∧ Joint w0 w' d m bx (s.boot keep) x (c + 1) := by
  obtain ⟨n, Sd, Sx, T, hn, hD, hX, hSd, hSx, hT, hA⟩ := h.st
  have o0 := h.o0
  have o1 := h.o1
  refine (Boot_any w Sd (fun b hb => (hSd b hb).1) d m n s hD (by omega) keep hk0 hk1).mono ?_
  rintro e w' ⟨rfl, K, D'⟩
  have hq : s.ops ≤ (s.boot keep).ops ∧ (s.boot keep).ops ≤ s.ops + 1 := by simp only [DS.boot]; omega
  exact ⟨rfl, K, h.diskTurn hX hSd hSx hT hA hD.lt K D' (fun b h => .inl h) (by omega) (by omega) hq.2⟩
theorem putStep_len2 {α : Type} (nm : α → Bs) (f : α) (s : List α × Bool) (p : α) : (putStep nm f s p).1.length + (!(putStep nm f s p).2).toNat ≤ s.1.length + (!s.2).toNat + 1 := by
  obtain ⟨l, b⟩ := s
  unfold putStep
  split
  · omega
  · cases b <;> split <;> simp_all
theorem putFold_len {α : Type} (nm : α → Bs) (f : α) : ∀ (L : List α) (s : List α × Bool), (L.foldl (putStep nm f) s).1.length + (!(L.foldl (putStep nm f) s).2).toNat ≤ s.1.length + (!s.2).toNat + L.length
  | [], s => Nat.le_refl _
  | p :: L, s => by
    have h1 := putFold_len nm f L (putStep nm f s p)
    have h2 := putStep_len2 nm f s p
    rw [List.foldl_cons, List.length_cons]
    omega
theorem putAll_len {α : Type} (nm : α → Bs) (f : α) (L : List α) : (putAll nm f L).length ≤ L.length + 1 := by
  have h := putFold_len nm f L ([], false)
  unfold putAll putAcc
  split
  · rename_i e; rw [e] at h; simp at h; omega
  · rename_i e
    rw [Bool.not_eq_true] at e
    rw [e] at h; simp at h; simp; omega
theorem putL_len (L : List RF) (f : RF) : (putL L f).length ≤ L.length + 1 := putAll_len _ _ _
theorem dropL_len (L : List RF) (k : Bs) : (dropL L k).length ≤ L.length := List.length_filter_le _ _
theorem RS.ops_doW (x : RS) (pre : Int) (L : List RF) : x.ops ≤ (x.doW pre L).ops ∧ (x.doW pre L).ops ≤ x.ops + 1 := by
  unfold RS.doW; split <;> simp [RS.burn] <;> omega
theorem RS.len_doW (x : RS) (pre : Int) (L : List RF) (hL : L.length ≤ x.L.length + 1) : (x.doW pre L).L.length ≤ x.L.length + 1 := by
  unfold RS.doW; split
  · omega
  · exact hL
theorem joint_rdo2 {w0 w : World} {d m bx c : Nat} {s : DS} {x : RS} (h : Joint w0 w d m bx s x c) (hc : c ≤ 900) (k : Bs) (hk : k.length ≤ maxLen) :
    Calls Try.prog 25 #[.pointer (some ⟨bx, 0, none⟩), .int .i64 2, .string ⟨k.toArray⟩, .string ⟨#[]⟩, .slice none 0 0] w fun e w' => e = .returned (.int .i64 (x.doE (x.pre 2 k []))) ∧ Keep (isB bx) w w' ∧ Joint w0 w' d m bx s (x.doS (x.pre 2 k []) (putL x.L ⟨k, (x.file k).data, (x.file k).data⟩)) (c + 1) := by
  obtain ⟨n, Sd, Sx, T, hn, hD, hX, hSd, hSx, hT, hA⟩ := h.st
  have o0 := h.p0
  have o1 := h.p1
  have hl := h.len
  refine (rdo2_any w Sx T (fun b hb => (hSx b hb).1) bx x hX (by omega) o0 (by omega) k hk).mono ?_
  rintro e w' ⟨rfl, K, S', T', hS', hS2, hT', X'⟩
  have h1 : x.ops ≤ (x.doS (x.pre 2 k []) (putL x.L ⟨k, (x.file k).data, (x.file k).data⟩)).ops ∧ (x.doS (x.pre 2 k []) (putL x.L ⟨k, (x.file k).data, (x.file k).data⟩)).ops ≤ x.ops + 1 := x.ops_doS _ _
  have h2 : (x.doS (x.pre 2 k []) (putL x.L ⟨k, (x.file k).data, (x.file k).data⟩)).L.length ≤ x.L.length + 1 := x.len_doS _ _ (putL_len _ _)
  exact ⟨rfl, K, h.refTurn hn hD hX hSd hSx hT K (fun b e => .inl e) hS' hS2 hT' X' (by omega) h1.2 h2⟩
theorem joint_rdo3 {w0 w : World} {d m bx c : Nat} {s : DS} {x : RS} (h : Joint w0 w d m bx s x c) (hc : c ≤ 900) (k to : Bs) (hk : k.length ≤ maxLen) (hto : to.length ≤ maxLen) :
    Calls Try.prog 25 #[.pointer (some ⟨bx, 0, none⟩), .int .i64 3, .string ⟨k.toArray⟩, .string ⟨to.toArray⟩, .slice none 0 0] w fun e w' => e = .returned (.int .i64 (x.doE (x.pre 3 k to))) ∧ Keep (isB bx) w w' ∧ Joint w0 w' d m bx s (x.doS (x.pre 3 k to) (putL (dropL x.L k) ⟨to, (x.file k).data, (x.file k).safe⟩)) (c + 1) := by
  obtain ⟨n, Sd, Sx, T, hn, hD, hX, hSd, hSx, hT, hA⟩ := h.st
  have o0 := h.p0
  have o1 := h.p1
  have hl := h.len
  refine (rdo3_any w Sx T (fun b hb => (hSx b hb).1) bx x hX (by omega) o0 (by omega) k hk to hto).mono ?_
  rintro e w' ⟨rfl, K, S', T', hS', hS2, hT', X'⟩
  have h1 : x.ops ≤ (x.doS (x.pre 3 k to) (putL (dropL x.L k) ⟨to, (x.file k).data, (x.file k).safe⟩)).ops ∧ (x.doS (x.pre 3 k to) (putL (dropL x.L k) ⟨to, (x.file k).data, (x.file k).safe⟩)).ops ≤ x.ops + 1 := x.ops_doS _ _
  have h2 : (x.doS (x.pre 3 k to) (putL (dropL x.L k) ⟨to, (x.file k).data, (x.file k).safe⟩)).L.length ≤ x.L.length + 1 := x.len_doS _ _ (by have h1 := putL_len (dropL x.L k) ⟨to, (x.file k).data, (x.file k).safe⟩; have h2 := dropL_len x.L k; omega)
  exact ⟨rfl, K, h.refTurn hn hD hX hSd hSx hT K (fun b e => .inl e) hS' hS2 hT' X' (by omega) h1.2 h2⟩
theorem joint_rdo0 {w0 w : World} {d m bx c : Nat} {s : DS} {x : RS} (h : Joint w0 w d m bx s x c) (hc : c ≤ 900) (k : Bs) (hk : k.length ≤ maxLen) (ab : Option Addr) (cb : Nat) (bs : Bs) (hbs : BytesAt w (fun b => b < w0.heap.size) ab bs) (hcb : bs.length ≤ cb) (hcm : cb ≤ maxLen) :
    Calls Try.prog 25 #[.pointer (some ⟨bx, 0, none⟩), .int .i64 0, .string ⟨k.toArray⟩, .string ⟨#[]⟩, .slice ab bs.length cb] w fun e w' => e = .returned (.int .i64 (x.doE (x.preW k bs))) ∧ Keep (isB bx) w w' ∧ Joint w0 w' d m bx s (x.doW (x.preW k bs) (putL x.L ⟨k, bs, (x.file k).safe⟩)) (c + 1) := by
  obtain ⟨n, Sd, Sx, T, hn, hD, hX, hSd, hSx, hT, hA⟩ := h.st
  have o0 := h.p0
  have o1 := h.p1
  have hl := h.len
  refine (rdo0_any w Sx T (fun b hb => (hSx b hb).1) bx x hX (by omega) o0 (by omega) k hk ab cb bs (hbs.mono (fun b _ hb => hA b hb)) hcb hcm).mono ?_
  rintro e w' ⟨rfl, K, S', T', hS', hS2, hT', X'⟩
  have h1 : x.ops ≤ (x.doW (x.preW k bs) (putL x.L ⟨k, bs, (x.file k).safe⟩)).ops ∧ (x.doW (x.preW k bs) (putL x.L ⟨k, bs, (x.file k).safe⟩)).ops ≤ x.ops + 1 := x.ops_doW _ _
  have h2 : (x.doW (x.preW k bs) (putL x.L ⟨k, bs, (x.file k).safe⟩)).L.length ≤ x.L.length + 1 := x.len_doW _ _ (putL_len _ _)
  exact ⟨rfl, K, h.refTurn hn hD hX hSd hSx hT K (fun b e => .inl e) hS' hS2 hT' X' (by omega) h1.2 h2⟩
theorem joint_rdo1 {w0 w : World} {d m bx c : Nat} {s : DS} {x : RS} (h : Joint w0 w d m bx s x c) (hc : c ≤ 900) (k : Bs) (hk : k.length ≤ maxLen) (ab : Option Addr) (cb : Nat) (bs : Bs) (hbs : BytesAt w (fun b => b < w0.heap.size) ab bs) (hcb : bs.length ≤ cb) (hcm : cb ≤ maxLen) (hbz : bs.length ≤ 262144) :
    Calls Try.prog 25 #[.pointer (some ⟨bx, 0, none⟩), .int .i64 1, .string ⟨k.toArray⟩, .string ⟨#[]⟩, .slice ab bs.length cb] w fun e w' => e = .returned (.int .i64 (x.doE (x.preW k ((x.file k).data ++ bs)))) ∧ Keep (isB bx) w w' ∧ Joint w0 w' d m bx s (x.doW (x.preW k ((x.file k).data ++ bs)) (putL x.L ⟨k, (x.file k).data ++ bs, (x.file k).safe⟩)) (c + 1) := by
  obtain ⟨n, Sd, Sx, T, hn, hD, hX, hSd, hSx, hT, hA⟩ := h.st
  have o0 := h.p0
  have o1 := h.p1
  have hl := h.len
  refine (rdo1_any w Sx T (fun b hb => (hSx b hb).1) bx x hX (by omega) o0 (by omega) k hk ab cb bs (hbs.mono (fun b _ hb => hA b hb)) hcb hcm hbz).mono ?_
  rintro e w' ⟨rfl, K, S', T', hS', hS2, hT', X'⟩
  have h1 : x.ops ≤ (x.doW (x.preW k ((x.file k).data ++ bs)) (putL x.L ⟨k, (x.file k).data ++ bs, (x.file k).safe⟩)).ops ∧ (x.doW (x.preW k ((x.file k).data ++ bs)) (putL x.L ⟨k, (x.file k).data ++ bs, (x.file k).safe⟩)).ops ≤ x.ops + 1 := x.ops_doW _ _
  have h2 : (x.doW (x.preW k ((x.file k).data ++ bs)) (putL x.L ⟨k, (x.file k).data ++ bs, (x.file k).safe⟩)).L.length ≤ x.L.length + 1 := x.len_doW _ _ (putL_len _ _)
  exact ⟨rfl, K, h.refTurn hn hD hX hSd hSx hT K (fun b e => .inl e) hS' hS2 hT' X' (by omega) h1.2 h2⟩
theorem joint_rboot {w0 w : World} {d m bx c : Nat} {s : DS} {x : RS} (h : Joint w0 w d m bx s x c) (hc : c ≤ 900) (keep : Int) (hk0 : -9223372036854775808 ≤ keep) (hk1 : keep ≤ 9223372036854775807) :
    Calls Try.prog 29 #[.pointer (some ⟨bx, 0, none⟩), .int .i64 keep] w fun e w' => e = .returned (.tuple #[]) ∧ Keep noM w0 w' ∧ Joint w0 w' d m bx s (x.boot keep) (c + 1) := by
  obtain ⟨n, Sd, Sx, T, hn, hD, hX, hSd, hSx, hT, hA⟩ := h.st
  have o0 := h.p0
  have hl := h.len
  refine (rboot_any w Sx T (fun b hb => (hSx b hb).1) bx x hX (by omega) keep hk0 hk1).mono ?_
  rintro e w' ⟨rfl, K, X'⟩
  have J := h.refTurn hn hD hX hSd hSx hT K (fun b e => e) (S' := Sx) (T' := T) (fun b hb => .inl hb) (fun b hb => Nat.lt_of_lt_of_le (hSx b hb).1 K.size) (fun b hb => .inl hb) X' (by simpa [RS.boot] using o0) (by simp [RS.boot]; omega) (by simp [RS.boot])
  exact ⟨rfl, J.kp, J⟩
end Go.Proofs.Ytohbglopgjbfcaa
