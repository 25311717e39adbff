/-
  Sorting in place in ZM: merging, the search of the cut; the last thing among others.
-/
import Derived.Test.YtoeppobpnhlebaaMrV9
namespace Go.Proofs.Ytoeppobpnhlebaa
open Go Go.RowKit
set_option linter.unusedVariables false
set_option linter.unusedSimpArgs false
variable {tb : List (FuncId × Bool)} {L : Nat → Bool} {H : ZH} {K : ZV → ZH → Prop}
variable {o g a b m n f : Nat} {ex : Bool} {D D0 : List Int} {fn : FuncId} {caps : List ZV} {cf : Int → Int → Int} {S : ZS} {KK : AExit → ZS → ZH → Prop}
set_option maxHeartbeats 4000000 in
theorem symB2_z (ho : o < H.length) (hL : L o = true) (hn1 : n ≤ 1000) (hD : D.length = n) (hf : CmpZ tb L H o g fn caps D0 cf) (hp : D.Perm D0) (s0 : S 0 = .own o g 0 n ex) (s1 : S 1 = Z64 (a : Int)) (s2 : S 2 = Z64 (m : Int)) (s3 : S 3 = Z64 (b : Int)) (s4 : S 4 = .func fn caps)
    (ham : a < m) (hmb : m < b) (hb : b ≤ n)
    (hr : ∀ S', KK .ret S' (bk H o g (mvL m (m - bsF (fun h => !ltC cf (D.getD m 0) (D.getD h 0)) b a m) D))) : zW (constX tb) (cFunc Try.prog) Gh.no L c_symB2 S (bk H o g D) KK := by
  simp only [c_symB2]
  have HR := Lib.hid hr
  have HF := Lib.hid hf
  have HP := Lib.hid hp
  obtain ⟨P, hP⟩ : ∃ P : Nat → Bool, P = fun h => !ltC cf (D.getD m 0) (D.getD h 0) := ⟨_, rfl⟩
  rw [← hP] at HR
  have HPP := Lib.hid hP
  obtain ⟨E, hE⟩ : ∃ E, E = bsF P b a m := ⟨_, rfl⟩
  rw [← hE] at HR
  have hEb := bsF_ok (P := P) (f := b) (i := a) (j := m) (by omega) (by omega)
  rw [← hE] at hEb
  have HE := Lib.hid hE
  have HEB := Lib.hid hEb
  clear hr hf hp hP hE hEb
  repeat' (first | (simp only [zmPack, zxPack, ne_eq, zfree, owners, Nat.reduceLT, List.contains_cons, List.contains_nil, Nat.reduceBEq, BEq.rfl, chunk, setAt, List.lookup_cons, List.lookup_nil, reduceCtorEq, Nat.reduceEqDiff, reduceIte, implies_true, forall_const, Nat.reduceMul, Nat.reduceSub, Nat.reduceAdd, Nat.reduceLeDiff, s0, s1, s2, s3, s4, *]) | (simp only [zgoO, zgoG, zO_nil, zthen_normal, zgoC]) | (with_reducible apply And.intro) | (with_reducible intro _))
  refine zW_whileK [(0, .own o g 0 n ex), (2, Z64 (m : Int)), (4, .func fn caps)] b (fun r s h => ∃ i j : Nat, s 14 = Z64 (i : Int) ∧ s 15 = Z64 (j : Int) ∧ h = bk H o g D ∧ bsF P r i j = E ∧ a ≤ i ∧ j ≤ m ∧ j - i ≤ r) (by repeat' (first | exact trivial | (refine ⟨rfl, ?_⟩) | (refine ⟨by simp only [zupd_at, Nat.reduceEqDiff, reduceIte]; assumption, ?_⟩))) rfl ⟨a, m, rfl, rfl, rfl, HE.out.symm, Nat.le_refl _, Nat.le_refl _, by omega⟩ ?_
  clear s0 s1 s2 s3 s4
  rintro r s h ⟨i, j, f10, f11, rfl, hbs, hi, hj, hr⟩ ⟨f0, f1, f4, -⟩
  by_cases hij : i < j
  · obtain ⟨r, rfl⟩ : ∃ r', r = r' + 1 := ⟨r - 1, by omega⟩
    unfold bsF at hbs
    rw [if_pos hij] at hbs
    have d1 : (i : Int) < (j : Int) := by omega
    have w1 : IntKind.i64.wrap ((i : Int) + (j : Int)) = ((i + j : Nat) : Int) := by rw [IntWalk.i64_in _ (by omega)]; omega
    have w2 : IntKind.u64.wrap ((i + j : Nat) : Int) = ((i + j : Nat) : Int) := IntWalk.u64_in _ (by omega)
    have w3 := shr1 (x := i + j)
    have w4 : IntKind.i64.wrap (((i + j) / 2 : Nat) : Int) = (((i + j) / 2 : Nat) : Int) := IntWalk.i64_in _ (by omega)
    obtain ⟨hh, hhh⟩ : ∃ hh, hh = (i + j) / 2 := ⟨_, rfl⟩
    rw [← hhh] at hbs w3 w4
    have hb1 : i ≤ hh ∧ hh < j := by omega
    have w5 : IntKind.i64.wrap ((hh : Int) + 1) = ((hh + 1 : Nat) : Int) := by rw [IntWalk.i64_in _ (by omega)]; omega
    have e1 := bk_el (H := H) (o := o) (g := g) (ex := ex) (n := n) (D := D) (j := hh) ho hD (by omega)
    have e2 := bk_el (H := H) (o := o) (g := g) (ex := ex) (n := n) (D := D) (j := m) ho hD (by omega)
    have l1 := bk_ldD (H := H) (o := o) (g := g) (D := D) (i := hh) ho (by omega)
    have l2 := bk_ldD (H := H) (o := o) (g := g) (D := D) (i := m) ho (by omega)
    have hc := cmp_at (D := D) (i := m) (j := hh) HF.out HP.out (by omega) (by omega)
    have hPh : P hh = !decide (cf (D.getD m 0) (D.getD hh 0) < 0) := by rw [HPP.out]
    rw [hPh] at hbs
    have HBS := Lib.hid hbs
    have HB := Lib.hid hb1
    have HJ := Lib.hid (And.intro hhh hij)
    clear hbs hPh hhh hij hb1
    generalize D.getD hh 0 = x at l1 hc HBS
    generalize D.getD m 0 = y at l2 hc HBS
    obtain ⟨H2, hH2⟩ : ∃ H2, H2 = bk H o g D := ⟨_, rfl⟩
    have HH2 := Lib.hid hH2
    rw [← hH2] at e1 e2 l1 l2 hc ⊢
    clear hH2
    generalize cf y x = q at hc HBS
    repeat' (first | (simp only [zmPack, zxPack, ne_eq, zfree, owners, Nat.reduceLT, List.contains_cons, List.contains_nil, Nat.reduceBEq, BEq.rfl, chunk, setAt, List.lookup_cons, List.lookup_nil, reduceCtorEq, Nat.reduceEqDiff, reduceIte, implies_true, forall_const, Nat.reduceMul, Nat.reduceSub, Nat.reduceAdd, Nat.reduceLeDiff, d1, w1, w2, w3, w4, e1, e2, l1, l2, *]) | (simp only [zgoO, zgoG, zO_nil, zthen_normal, zgoC]) | (with_reducible apply And.intro) | (with_reducible intro _))
    refine hc _ ?_
    by_cases hq : q < 0
    · have hbs := HBS.out
      rw [if_neg (by simp [hq])] at hbs
      have HBS2 := Lib.hid hbs
      clear hbs HBS e1 e2 l1 l2 hc
      repeat' (first | (simp only [zmPack, zxPack, ne_eq, zfree, owners, Nat.reduceLT, List.contains_cons, List.contains_nil, Nat.reduceBEq, BEq.rfl, chunk, setAt, List.lookup_cons, List.lookup_nil, reduceCtorEq, Nat.reduceEqDiff, reduceIte, implies_true, forall_const, Nat.reduceMul, Nat.reduceSub, Nat.reduceAdd, Nat.reduceLeDiff, hq, *]) | (simp only [zgoO, zgoG, zO_nil, zthen_normal, zgoC]) | (with_reducible apply And.intro) | (with_reducible intro _))
      all_goals first | exact ⟨r, by omega, i, rfl, hh, rfl, HBS2.out, by omega, by have := HB.out; omega, by have := HB.out; omega⟩ | exact ⟨HH2.out, r, by omega, i, rfl, hh, rfl, HBS2.out, by omega, by have := HB.out; omega, by have := HB.out; omega⟩ | exact HH2.out
    · have hbs := HBS.out
      rw [if_pos (by simp [hq])] at hbs
      have HBS2 := Lib.hid hbs
      clear hbs HBS e1 e2 l1 l2 hc
      repeat' (first | (simp only [zmPack, zxPack, ne_eq, zfree, owners, Nat.reduceLT, List.contains_cons, List.contains_nil, Nat.reduceBEq, BEq.rfl, chunk, setAt, List.lookup_cons, List.lookup_nil, reduceCtorEq, Nat.reduceEqDiff, reduceIte, implies_true, forall_const, Nat.reduceMul, Nat.reduceSub, Nat.reduceAdd, Nat.reduceLeDiff, hq, w5, *]) | (simp only [zgoO, zgoG, zO_nil, zthen_normal, zgoC]) | (with_reducible apply And.intro) | (with_reducible intro _))
      all_goals first | exact ⟨r, by omega, hh + 1, rfl, j, rfl, HBS2.out, by have := HB.out; omega, by omega, by have := HB.out; omega⟩ | exact ⟨HH2.out, r, by omega, hh + 1, rfl, j, rfl, HBS2.out, by have := HB.out; omega, by omega, by have := HB.out; omega⟩ | exact HH2.out
  · have d1 : ¬ (i : Int) < (j : Int) := by omega
    have hbs : i = E := by
      cases r with
      | zero => exact hbs
      | succ r => unfold bsF at hbs; rw [if_neg hij] at hbs; exact hbs
    subst hbs
    clear hij hj hr
    repeat' (first | (simp only [zmPack, zxPack, ne_eq, zfree, owners, Nat.reduceLT, List.contains_cons, List.contains_nil, Nat.reduceBEq, BEq.rfl, chunk, setAt, List.lookup_cons, List.lookup_nil, reduceCtorEq, Nat.reduceEqDiff, reduceIte, implies_true, forall_const, Nat.reduceMul, Nat.reduceSub, Nat.reduceAdd, Nat.reduceLeDiff, d1, *]) | (simp only [zgoO, zgoG, zO_nil, zthen_normal, zgoC]) | (with_reducible apply And.intro) | (with_reducible intro _))
    refine zW_whileK [(0, .own o g 0 n ex), (14, Z64 (i : Int))] (m - i) (fun r s h => ∃ k : Nat, s 17 = Z64 ((m - k : Nat) : Int) ∧ h = bk H o g (mvL m k D) ∧ k ≤ m - i ∧ r = m - i - k) (by repeat' (first | exact trivial | (refine ⟨rfl, ?_⟩) | (refine ⟨by simp only [zupd_at, Nat.reduceEqDiff, reduceIte]; assumption, ?_⟩))) rfl ⟨0, rfl, rfl, Nat.zero_le _, rfl⟩ ?_
    clear f10 f11 f0 f1 f4 d1
    rintro r s h ⟨k, f13, rfl, hk, rfl⟩ ⟨f0, f10, -⟩
    have hib := HEB.out.2.1
    by_cases hc : i < m - k
    · have c1 : (i : Int) < ((m - k : Nat) : Int) := by omega
      have w1 : IntKind.i64.wrap (((m - k : Nat) : Int) - 1) = ((m - k - 1 : Nat) : Int) := by rw [IntWalk.i64_in _ (by omega)]; omega
      obtain ⟨x, y, H1, F⟩ := bk_swap (H := H) (o := o) (g := g) (L := L) (ex := ex) (n := n) (D := mvL m k D) (i := m - k) (j := m - k - 1) ho hL (by rw [mvL_len]; exact hD) (by omega) (by omega)
      have F2 : bk H o g (sw (mvL m k D) (m - k) (m - k - 1)) = bk H o g (mvL m (k + 1) D) := rfl
      obtain ⟨g1, g2, g3, g4, g5, g6, g7⟩ := F
      rw [F2] at g7
      clear F2
      generalize bk H o g (mvL m k D) = H2 at g1 g2 g3 g4 g5 ⊢
      repeat' (first | (simp only [zmPack, zxPack, ne_eq, zfree, owners, Nat.reduceLT, List.contains_cons, List.contains_nil, Nat.reduceBEq, BEq.rfl, chunk, setAt, List.lookup_cons, List.lookup_nil, reduceCtorEq, Nat.reduceEqDiff, reduceIte, implies_true, forall_const, Nat.reduceMul, Nat.reduceSub, Nat.reduceAdd, Nat.reduceLeDiff, c1, w1, g1, g2, g3, g4, g5, g6, g7, *]) | (simp only [zgoO, zgoG, zO_nil, zthen_normal, zgoC]) | (with_reducible apply And.intro) | (with_reducible intro _))
      all_goals exact ⟨m - i - (k + 1), by omega, k + 1, rfl, rfl, by omega, rfl⟩
    · have c1 : ¬ (i : Int) < ((m - k : Nat) : Int) := by omega
      have hke : k = m - i := by omega
      have hr := HR.out
      rw [← hke] at hr
      clear hke
      repeat' (first | (simp only [zmPack, zxPack, ne_eq, zfree, owners, Nat.reduceLT, List.contains_cons, List.contains_nil, Nat.reduceBEq, BEq.rfl, chunk, setAt, List.lookup_cons, List.lookup_nil, reduceCtorEq, Nat.reduceEqDiff, reduceIte, implies_true, forall_const, Nat.reduceMul, Nat.reduceSub, Nat.reduceAdd, Nat.reduceLeDiff, c1, *]) | (simp only [zgoO, zgoG, zO_nil, zthen_normal, zgoC]) | (with_reducible apply And.intro) | (with_reducible intro _))
      all_goals exact hr _
set_option maxHeartbeats 4000000 in
theorem symT1_z {mid lo hi E : Nat} (ho : o < H.length) (hn1 : n ≤ 1000) (hD : D.length = n) (hf : CmpZ tb L H o g fn caps D0 cf) (hp : D.Perm D0) (s0 : S 0 = .own o g 0 n ex) (s1 : S 1 = Z64 (a : Int)) (s2 : S 2 = Z64 (m : Int)) (s3 : S 3 = Z64 (b : Int)) (s4 : S 4 = .func fn caps) (s18 : S 18 = Z64 (mid : Int)) (s19 : S 19 = Z64 ((mid + m : Nat) : Int)) (s20 : S 20 = Z64 (lo : Int)) (s21 : S 21 = Z64 (hi : Int))
    (h0 : 0 < m) (h1 : hi ≤ m) (h2 : hi ≤ mid) (h3 : mid + m ≤ b + lo) (hb : b ≤ n) (h4 : hi ≤ b + lo) (h5 : mid ≤ b) (h6 : m ≤ b)
    (hE : E = bsF (fun c => !ltC cf (D.getD (mid + m - 1 - c) 0) (D.getD c 0)) b lo hi)
    (go : ∀ S', S' 0 = .own o g 0 n ex → S' 1 = Z64 (a : Int) → S' 2 = Z64 (m : Int) → S' 3 = Z64 (b : Int) → S' 4 = .func fn caps → S' 18 = Z64 (mid : Int) → S' 19 = Z64 ((mid + m : Nat) : Int) → S' 20 = Z64 (E : Int) → zW (constX tb) (cFunc Try.prog) Gh.no L c_symT2 S' (bk H o g D) KK) : zW (constX tb) (cFunc Try.prog) Gh.no L c_symT1 S (bk H o g D) KK := by
  simp only [c_symT1]
  have HG := Lib.hid go
  have HF := Lib.hid hf
  have HP := Lib.hid hp
  obtain ⟨P, hP⟩ : ∃ P : Nat → Bool, P = fun c => !ltC cf (D.getD (mid + m - 1 - c) 0) (D.getD c 0) := ⟨_, rfl⟩
  rw [← hP] at hE
  have HPP := Lib.hid hP
  have HE := Lib.hid hE
  have w0 : IntKind.i64.wrap (((mid + m : Nat) : Int) - 1) = ((mid + m - 1 : Nat) : Int) := by rw [IntWalk.i64_in _ (by omega)]; omega
  clear go hf hp hP hE
  repeat' (first | (simp only [zmPack, zxPack, ne_eq, zfree, owners, Nat.reduceLT, List.contains_cons, List.contains_nil, Nat.reduceBEq, BEq.rfl, chunk, setAt, List.lookup_cons, List.lookup_nil, reduceCtorEq, Nat.reduceEqDiff, reduceIte, implies_true, forall_const, Nat.reduceMul, Nat.reduceSub, Nat.reduceAdd, Nat.reduceLeDiff, s0, s1, s2, s3, s4, s18, s19, s20, s21, w0, *]) | (simp only [zgoO, zgoG, zO_nil, zthen_normal, zgoC]) | (with_reducible apply And.intro) | (with_reducible intro _))
  clear w0
  refine zW_whileK [(0, .own o g 0 n ex), (1, Z64 (a : Int)), (2, Z64 (m : Int)), (3, Z64 (b : Int)), (4, .func fn caps), (18, Z64 (mid : Int)), (19, Z64 ((mid + m : Nat) : Int)), (22, Z64 ((mid + m - 1 : Nat) : Int))] b (fun r s h => ∃ i j : Nat, s 20 = Z64 (i : Int) ∧ s 21 = Z64 (j : Int) ∧ h = bk H o g D ∧ bsF P r i j = E ∧ lo ≤ i ∧ j ≤ hi ∧ j - i ≤ r) (by repeat' (first | exact trivial | (refine ⟨rfl, ?_⟩) | (refine ⟨by simp only [zupd_at, Nat.reduceEqDiff, reduceIte]; assumption, ?_⟩))) rfl ⟨lo, hi, s20, s21, rfl, HE.out.symm, Nat.le_refl _, Nat.le_refl _, by omega⟩ ?_
  clear s0 s1 s2 s3 s4 s18 s19 s20 s21
  rintro r s h ⟨i, j, f20, f21, rfl, hbs, hi2, hj, hr⟩ ⟨f0, f1, f2, f3, f4, f18, f19, f22, -⟩
  by_cases hij : i < j
  · obtain ⟨r, rfl⟩ : ∃ r', r = r' + 1 := ⟨r - 1, by omega⟩
    unfold bsF at hbs
    rw [if_pos hij] at hbs
    have d1 : (i : Int) < (j : Int) := by omega
    have w1 : IntKind.i64.wrap ((i : Int) + (j : Int)) = ((i + j : Nat) : Int) := by rw [IntWalk.i64_in _ (by omega)]; omega
    have w2 : IntKind.u64.wrap ((i + j : Nat) : Int) = ((i + j : Nat) : Int) := IntWalk.u64_in _ (by omega)
    have w3 := shr1 (x := i + j)
    have w4 : IntKind.i64.wrap (((i + j) / 2 : Nat) : Int) = (((i + j) / 2 : Nat) : Int) := IntWalk.i64_in _ (by omega)
    obtain ⟨hh, hhh⟩ : ∃ hh, hh = (i + j) / 2 := ⟨_, rfl⟩
    rw [← hhh] at hbs w3 w4
    have hb1 : i ≤ hh ∧ hh < j := by omega
    have w5 : IntKind.i64.wrap ((hh : Int) + 1) = ((hh + 1 : Nat) : Int) := by rw [IntWalk.i64_in _ (by omega)]; omega
    have w6 : IntKind.i64.wrap (((mid + m - 1 : Nat) : Int) - (hh : Int)) = ((mid + m - 1 - hh : Nat) : Int) := by rw [IntWalk.i64_in _ (by omega)]; omega
    obtain ⟨pc, hpc⟩ : ∃ pc, pc = mid + m - 1 - hh := ⟨_, rfl⟩
    have hpcn : pc < n := by omega
    have e1 := bk_el (H := H) (o := o) (g := g) (ex := ex) (n := n) (D := D) (j := pc) ho hD hpcn
    have e2 := bk_el (H := H) (o := o) (g := g) (ex := ex) (n := n) (D := D) (j := hh) ho hD (by omega)
    have l1 := bk_ldD (H := H) (o := o) (g := g) (D := D) (i := pc) ho (by omega)
    have l2 := bk_ldD (H := H) (o := o) (g := g) (D := D) (i := hh) ho (by omega)
    have hc := cmp_at (D := D) (i := pc) (j := hh) HF.out HP.out (by omega) (by omega)
    have hPh : P hh = !decide (cf (D.getD pc 0) (D.getD hh 0) < 0) := by rw [HPP.out, hpc]
    rw [hPh] at hbs
    rw [← hpc] at w6
    have HBS := Lib.hid hbs
    have HB := Lib.hid hb1
    have HJ := Lib.hid (And.intro hhh hij)
    clear hbs hPh hhh hij hb1 hpc
    generalize D.getD pc 0 = x at l1 hc HBS
    generalize D.getD hh 0 = y at l2 hc HBS
    obtain ⟨H2, hH2⟩ : ∃ H2, H2 = bk H o g D := ⟨_, rfl⟩
    have HH2 := Lib.hid hH2
    rw [← hH2] at e1 e2 l1 l2 hc ⊢
    clear hH2
    generalize cf x y = q at hc HBS
    repeat' (first | (simp only [zmPack, zxPack, ne_eq, zfree, owners, Nat.reduceLT, List.contains_cons, List.contains_nil, Nat.reduceBEq, BEq.rfl, chunk, setAt, List.lookup_cons, List.lookup_nil, reduceCtorEq, Nat.reduceEqDiff, reduceIte, implies_true, forall_const, Nat.reduceMul, Nat.reduceSub, Nat.reduceAdd, Nat.reduceLeDiff, d1, w1, w2, w3, w4, w6, e1, e2, l1, l2, *]) | (simp only [zgoO, zgoG, zO_nil, zthen_normal, zgoC]) | (with_reducible apply And.intro) | (with_reducible intro _))
    refine hc _ ?_
    by_cases hq : q < 0
    · have hbs := HBS.out
      rw [if_neg (by simp [hq])] at hbs
      have HBS2 := Lib.hid hbs
      clear hbs HBS e1 e2 l1 l2 hc w6
      repeat' (first | (simp only [zmPack, zxPack, ne_eq, zfree, owners, Nat.reduceLT, List.contains_cons, List.contains_nil, Nat.reduceBEq, BEq.rfl, chunk, setAt, List.lookup_cons, List.lookup_nil, reduceCtorEq, Nat.reduceEqDiff, reduceIte, implies_true, forall_const, Nat.reduceMul, Nat.reduceSub, Nat.reduceAdd, Nat.reduceLeDiff, hq, *]) | (simp only [zgoO, zgoG, zO_nil, zthen_normal, zgoC]) | (with_reducible apply And.intro) | (with_reducible intro _))
      all_goals first | exact ⟨r, by omega, i, rfl, hh, rfl, HBS2.out, by omega, by have := HB.out; omega, by have := HB.out; omega⟩ | exact HH2.out
    · have hbs := HBS.out
      rw [if_pos (by simp [hq])] at hbs
      have HBS2 := Lib.hid hbs
      clear hbs HBS e1 e2 l1 l2 hc w6
      repeat' (first | (simp only [zmPack, zxPack, ne_eq, zfree, owners, Nat.reduceLT, List.contains_cons, List.contains_nil, Nat.reduceBEq, BEq.rfl, chunk, setAt, List.lookup_cons, List.lookup_nil, reduceCtorEq, Nat.reduceEqDiff, reduceIte, implies_true, forall_const, Nat.reduceMul, Nat.reduceSub, Nat.reduceAdd, Nat.reduceLeDiff, hq, w5, *]) | (simp only [zgoO, zgoG, zO_nil, zthen_normal, zgoC]) | (with_reducible apply And.intro) | (with_reducible intro _))
      all_goals first | exact ⟨r, by omega, hh + 1, rfl, j, rfl, HBS2.out, by have := HB.out; omega, by omega, by have := HB.out; omega⟩ | exact HH2.out
  · have d1 : ¬ (i : Int) < (j : Int) := by omega
    have hbs : i = E := by
      cases r with
      | zero => exact hbs
      | succ r => unfold bsF at hbs; rw [if_neg hij] at hbs; exact hbs
    subst hbs
    clear hij hj hr
    repeat' (first | (simp only [zmPack, zxPack, ne_eq, zfree, owners, Nat.reduceLT, List.contains_cons, List.contains_nil, Nat.reduceBEq, BEq.rfl, chunk, setAt, List.lookup_cons, List.lookup_nil, reduceCtorEq, Nat.reduceEqDiff, reduceIte, implies_true, forall_const, Nat.reduceMul, Nat.reduceSub, Nat.reduceAdd, Nat.reduceLeDiff, d1, *]) | (simp only [zgoO, zgoG, zO_nil, zthen_normal, zgoC]) | (with_reducible apply And.intro) | (with_reducible intro _))
    refine HG.out _ ?_ ?_ ?_ ?_ ?_ ?_ ?_ ?_
    all_goals simp [zupd, f0, f1, f2, f3, f4, f18, f19, f20]
end Go.Proofs.Ytoeppobpnhlebaa

namespace Go.Proofs.Ytoeppobpnhlebaa
open Go Go.RowKit
set_option linter.unusedVariables false
set_option linter.unusedSimpArgs false
variable {tb : List (FuncId × Bool)} {L : Nat → Bool} {H : ZH} {K : ZV → ZH → Prop}
variable {o g a b m n f : Nat} {ex : Bool} {D D0 : List Int} {fn : FuncId} {caps : List ZV} {cf : Int → Int → Int} {key : Int → Int}
theorem symF_perm {lt : Int → Int → Bool} : ∀ (f : Nat) (D : List Int) (a m b : Nat), a < m → m < b → b ≤ D.length → (symF lt f D a m b).Perm D
  | 0, D, a, m, b, _, _, _ => List.Perm.refl _
  | f + 1, D, a, m, b, ha, hb, hl => by
    unfold symF
    by_cases c1 : m - a = 1
    · rw [if_pos c1]
      obtain ⟨i1, i2, _, _⟩ := bsF_ok (P := fun h => lt (D.getD h 0) (D.getD a 0)) (f := b) (i := m) (j := b) (by omega) (by omega)
      exact mvR_perm (by omega)
    · rw [if_neg c1]
      by_cases c2 : b - m = 1
      · rw [if_pos c2]; exact mvL_perm (by omega)
      · rw [if_neg c2]
        obtain ⟨s1, s2, s3, s4, s5, _, _⟩ := symS_ok (lt := lt) (D := D) ha hb
        generalize symS lt D a m b = s at s1 s2 s3 s4 s5
        have hmid : (a + b) / 2 < b := by omega
        generalize (a + b) / 2 = mid at s3 s4 s5 hmid ⊢
        have p1 := symD_perm (D := D) s2 s3 (by omega)
        have hl1 := p1.length_eq
        generalize symD D m s (mid + m - s) = D1 at p1 hl1
        have p2 : (if a < s ∧ s < mid then symF lt f D1 a s mid else D1).Perm D1 := by
          split
          · rename_i c; exact symF_perm f D1 a s mid c.1 c.2 (by omega)
          · exact List.Perm.refl _
        have hl2 := p2.length_eq
        generalize (if a < s ∧ s < mid then symF lt f D1 a s mid else D1) = D2 at p2 hl2
        split
        · rename_i c; exact (symF_perm f D2 mid _ b c.1 c.2 (by omega)).trans (p2.trans p1)
        · exact p2.trans p1
set_option maxHeartbeats 8000000 in
theorem sym_z (ho : o < H.length) (hL : L o = true) (hn : n ≤ 1000) (hD0 : D0.length = n) (hf : CmpZ tb L H o g fn caps D0 cf) : ∀ f, SymIH tb L H o g n ex fn caps D0 cf f
  | 0 => fun D a m b K hp ha hb hbn hfu hK => by omega
  | f + 1 => fun D a m b K hp ha hb hbn hfu hK => by
    have ih := sym_z ho hL hn hD0 hf f
    have hDn : D.length = n := by rw [hp.length_eq]; exact hD0
    refine ZC.enter Gh.no constX_none f_sn_sym (by simp) ?_
    simp only [c_sn_sym_cut]
    have FIN := Lib.hid (Fin.keep (H0 := bk H o g D) hK)
    have HI := Lib.hid ih
    have HP := Lib.hid hp
    have HF := Lib.hid hf
    have w1 : IntKind.i64.wrap ((m : Int) - (a : Int)) = ((m - a : Nat) : Int) := by rw [IntWalk.i64_in _ (by omega)]; omega
    have w2 : IntKind.i64.wrap ((b : Int) - (m : Int)) = ((b - m : Nat) : Int) := by rw [IntWalk.i64_in _ (by omega)]; omega
    clear hK ih hp hf
    by_cases c1 : m - a = 1
    · have d1 : ((m - a : Nat) : Int) = 1 := by omega
      have e : symF (ltC cf) (f + 1) D a m b = mvR a (bsF (fun h => ltC cf (D.getD h 0) (D.getD a 0)) b m b - 1 - a) D := by
        conv => lhs; unfold symF
        rw [if_pos c1]
      rw [e] at FIN
      clear e c1 HI
      repeat' (first | (simp only [zmPack, zxPack, ne_eq, zfree, owners, Nat.reduceLT, List.contains_cons, List.contains_nil, Nat.reduceBEq, BEq.rfl, chunk, setAt, List.lookup_cons, List.lookup_nil, reduceCtorEq, Nat.reduceEqDiff, reduceIte, implies_true, forall_const, Nat.reduceMul, Nat.reduceSub, Nat.reduceAdd, Nat.reduceLeDiff, w1, d1, eq_self, *]) | (simp only [zgoO, zgoG, zO_nil, zthen_normal, zgoC]) | (with_reducible apply And.intro) | (with_reducible intro _))
      refine symB1_z (ex := ex) ho hL hn hDn HF.out HP.out ?_ ?_ ?_ ?_ ?_ ha hb hbn (fun S' => ⟨.inr rfl, _, rfl, FIN.out⟩)
      all_goals simp [zupd]
    · have d1 : ¬ ((m - a : Nat) : Int) = 1 := by omega
      by_cases c2 : b - m = 1
      · have d2 : ((b - m : Nat) : Int) = 1 := by omega
        have e : symF (ltC cf) (f + 1) D a m b = mvL m (m - bsF (fun h => !ltC cf (D.getD m 0) (D.getD h 0)) b a m) D := by
          conv => lhs; unfold symF
          rw [if_neg c1, if_pos c2]
        rw [e] at FIN
        clear e c1 c2 HI
        repeat' (first | (simp only [zmPack, zxPack, ne_eq, zfree, owners, Nat.reduceLT, List.contains_cons, List.contains_nil, Nat.reduceBEq, BEq.rfl, chunk, setAt, List.lookup_cons, List.lookup_nil, reduceCtorEq, Nat.reduceEqDiff, reduceIte, implies_true, forall_const, Nat.reduceMul, Nat.reduceSub, Nat.reduceAdd, Nat.reduceLeDiff, w1, w2, d1, d2, eq_self, *]) | (simp only [zgoO, zgoG, zO_nil, zthen_normal, zgoC]) | (with_reducible apply And.intro) | (with_reducible intro _))
        refine symB2_z (ex := ex) ho hL hn hDn HF.out HP.out ?_ ?_ ?_ ?_ ?_ ha hb hbn (fun S' => ⟨.inr rfl, _, rfl, FIN.out⟩)
        all_goals simp [zupd]
      · have d2 : ¬ ((b - m : Nat) : Int) = 1 := by omega
        have e : symF (ltC cf) (f + 1) D a m b = symE (ltC cf) f (symD D m (symS (ltC cf) D a m b) ((a + b) / 2 + m - symS (ltC cf) D a m b)) a ((a + b) / 2) (symS (ltC cf) D a m b) ((a + b) / 2 + m - symS (ltC cf) D a m b) b := by
          conv => lhs; unfold symF
          rw [if_neg c1, if_neg c2]
          rfl
        rw [e] at FIN
        obtain ⟨s1, s2, s3, s4, s5, _, _⟩ := symS_ok (lt := ltC cf) (D := D) ha hb
        obtain ⟨s, hs⟩ : ∃ s, s = symS (ltC cf) D a m b := ⟨_, rfl⟩
        rw [← hs] at s1 s2 s3 s4 s5 FIN
        have w3 : IntKind.i64.wrap ((a : Int) + (b : Int)) = ((a + b : Nat) : Int) := by rw [IntWalk.i64_in _ (by omega)]; omega
        have w4 : IntKind.u64.wrap ((a + b : Nat) : Int) = ((a + b : Nat) : Int) := IntWalk.u64_in _ (by omega)
        have w5 := shr1 (x := a + b)
        have w6 : IntKind.i64.wrap (((a + b) / 2 : Nat) : Int) = (((a + b) / 2 : Nat) : Int) := IntWalk.i64_in _ (by omega)
        unfold symS at hs
        obtain ⟨mid, hmid⟩ : ∃ mid, mid = (a + b) / 2 := ⟨_, rfl⟩
        rw [← hmid] at w5 w6 hs s3 s4 s5 FIN
        have hma : a < mid ∧ mid < b := by omega
        have w7 : IntKind.i64.wrap ((mid : Int) + (m : Int)) = ((mid + m : Nat) : Int) := by rw [IntWalk.i64_in _ (by omega)]; omega
        have go : ∀ S', S' 0 = .own o g 0 n ex → S' 1 = Z64 (a : Int) → S' 2 = Z64 (m : Int) → S' 3 = Z64 (b : Int) → S' 4 = .func fn caps → S' 18 = Z64 (mid : Int) → S' 19 = Z64 ((mid + m : Nat) : Int) → S' 20 = Z64 (s : Int) → zW (constX tb) (cFunc Try.prog) Gh.no L c_symT2 S' (bk H o g D) (fun x S' H' => (x = AExit.normal ∨ x = AExit.ret) ∧ ∃ z, zresults S' H' [] = some z ∧ Fin (bk H o g D) z H' K) := fun S' k0 k1 k2 k3 k4 k18 k19 k20 => by
          refine symT2_z (ex := ex) (e := mid + m - s) ho hL hn hDn HI.out HP.out k0 k1 k2 k3 k4 k18 k19 k20 rfl s2 s3 s4 hbn (by omega) (by omega) (by omega) (by omega) (fun q1 q2 => symF_perm f _ a s mid q1 q2 (by rw [(symD_perm (D := D) s2 s3 (by omega)).length_eq]; omega)) (fun S2 => ⟨.inl rfl, _, rfl, FIN.out⟩)
        have HG := Lib.hid go
        have HM := Lib.hid hmid
        have HS := Lib.hid hs
        clear e c1 c2 hmid hs go s1 s2 s3 s4 s5 HI
        by_cases c3 : mid < m
        · have d3 : (mid : Int) < (m : Int) := by omega
          have hs := HS.out
          rw [if_pos c3, if_pos c3] at hs
          have w8 : IntKind.i64.wrap (((mid + m : Nat) : Int) - (b : Int)) = ((mid + m - b : Nat) : Int) := by have := HM.out; rw [IntWalk.i64_in _ (by omega)]; omega
          have HS2 := Lib.hid hs
          clear hs HS
          repeat' (first | (simp only [zmPack, zxPack, ne_eq, zfree, owners, Nat.reduceLT, List.contains_cons, List.contains_nil, Nat.reduceBEq, BEq.rfl, chunk, setAt, List.lookup_cons, List.lookup_nil, reduceCtorEq, Nat.reduceEqDiff, reduceIte, implies_true, forall_const, Nat.reduceMul, Nat.reduceSub, Nat.reduceAdd, Nat.reduceLeDiff, w1, w2, d1, d2, w3, w4, w5, w6, w7, w8, d3, *]) | (simp only [zgoO, zgoG, zO_nil, zthen_normal, zgoC]) | (with_reducible apply And.intro) | (with_reducible intro _))
          refine symT1_z (ex := ex) (lo := mid + m - b) (hi := mid) (E := s) (mid := mid) ho hn hDn HF.out HP.out ?_ ?_ ?_ ?_ ?_ ?_ ?_ ?_ ?_ (by omega) (by omega) (Nat.le_refl _) (by have := HM.out; omega) hbn (by omega) (by omega) (by omega) HS2.out HG.out
          all_goals simp [zupd]
        · have d3 : ¬ (mid : Int) < (m : Int) := by omega
          have hs := HS.out
          rw [if_neg c3, if_neg c3] at hs
          have HS2 := Lib.hid hs
          clear hs HS
          repeat' (first | (simp only [zmPack, zxPack, ne_eq, zfree, owners, Nat.reduceLT, List.contains_cons, List.contains_nil, Nat.reduceBEq, BEq.rfl, chunk, setAt, List.lookup_cons, List.lookup_nil, reduceCtorEq, Nat.reduceEqDiff, reduceIte, implies_true, forall_const, Nat.reduceMul, Nat.reduceSub, Nat.reduceAdd, Nat.reduceLeDiff, w1, w2, d1, d2, w3, w4, w5, w6, w7, d3, *]) | (simp only [zgoO, zgoG, zO_nil, zthen_normal, zgoC]) | (with_reducible apply And.intro) | (with_reducible intro _))
          refine symT1_z (ex := ex) (lo := a) (hi := m) (E := s) (mid := mid) ho hn hDn HF.out HP.out ?_ ?_ ?_ ?_ ?_ ?_ ?_ ?_ ?_ (by omega) (Nat.le_refl _) (by omega) (by have := HM.out; omega) hbn (by omega) (by omega) (by omega) HS2.out HG.out
          all_goals simp [zupd]
end Go.Proofs.Ytoeppobpnhlebaa

namespace Go.Proofs.Ytoeppobpnhlebaa
open Go Go.RowKit
set_option linter.unusedVariables false
set_option linter.unusedSimpArgs false
variable {lt : Int → Int → Bool} {key : Int → Int}
def insS (lt : Int → Int → Bool) (a b : Nat) (D : List Int) : List Int := insTo lt a (b - (a + 1)) D
theorem insIn_out {a : Nat} : ∀ {j : Nat} {D : List Int} {p : Nat}, j < D.length → ¬ (a ≤ p ∧ p ≤ j) → (insIn lt a j D).getD p 0 = D.getD p 0
  | 0, D, p, _, _ => rfl
  | j + 1, D, p, h, hp => by
    rw [insIn_succ]
    split
    · rename_i c
      rw [insIn_out (by rw [sw_len]; omega) (by omega), sw_at h (by omega), if_neg (by omega), if_neg (by omega)]
    · rfl
theorem insTo_out {a : Nat} : ∀ {m : Nat} {D : List Int} {p : Nat}, a + m < D.length ∨ m = 0 → ¬ (a ≤ p ∧ p ≤ a + m) → (insTo lt a m D).getD p 0 = D.getD p 0
  | 0, D, p, _, _ => rfl
  | m + 1, D, p, h, hp => by
    have hl := (insTo_perm (lt := lt) (a := a) (m := m) (D := D) (by omega)).length_eq
    show (insIn lt a (a + 1 + m) (insTo lt a m D)).getD p 0 = _
    rw [insIn_out (by omega) (by omega), insTo_out (by omega) (by omega)]
theorem insS_perm {a b : Nat} {D : List Int} (h : b ≤ D.length) : (insS lt a b D).Perm D := insTo_perm (by omega)
theorem insS_out {a b p : Nat} {D : List Int} (h : b ≤ D.length) (hp : p < a ∨ (a < b ∧ b ≤ p)) : (insS lt a b D).getD p 0 = D.getD p 0 := insTo_out (by omega) (by omega)
theorem insS_so (hk : ∀ x y, lt x y = decide (key x < key y)) {a b : Nat} {D : List Int} (h : b ≤ D.length) : SoOn key (insS lt a b D) a b := by
  have := insTo_so (a := a) (m := b - (a + 1)) (D := D) hk (by omega)
  intro p q h1 h2 h3
  exact this p q h1 h2 (by omega)
def Blk (key : Int → Int) (D : List Int) (bs n : Nat) : Nat → Nat → Prop
  | 0, _ => True
  | f + 1, a => a < n → SoOn key D a (min (a + bs) n) ∧ Blk key D bs n f (a + bs)
theorem Blk.congr {D R : List Int} {bs n : Nat} : ∀ {f a : Nat}, (∀ p, a ≤ p → R.getD p 0 = D.getD p 0) → Blk key D bs n f a → Blk key R bs n f a
  | 0, a, _, _ => trivial
  | f + 1, a, he, h => fun ha => by
    obtain ⟨h1, h2⟩ := h ha
    refine ⟨fun p q k1 k2 k3 => ?_, Blk.congr (fun p hp => he p (by omega)) h2⟩
    rw [he p k1, he q (by omega)]; exact h1 p q k1 k2 k3
theorem Blk.none {D : List Int} {bs n : Nat} {f a : Nat} (h : n ≤ a) : Blk key D bs n f a := by
  cases f with
  | zero => trivial
  | succ f => exact fun h2 => by omega
def blkF (lt : Int → Int → Bool) (n : Nat) : Nat → Nat → List Int → List Int
  | 0, a, D => D
  | f + 1, a, D => if a + 20 ≤ n then blkF lt n f (a + 20) (insS lt a (a + 20) D) else insS lt a n D
theorem blkF_perm {n : Nat} : ∀ {f a : Nat} {D : List Int}, D.length = n → (blkF lt n f a D).Perm D
  | 0, a, D, _ => List.Perm.refl _
  | f + 1, a, D, h => by
    unfold blkF
    split
    · have p := insS_perm (lt := lt) (a := a) (b := a + 20) (D := D) (by omega)
      exact (blkF_perm (by rw [p.length_eq, h])).trans p
    · exact insS_perm (by omega)
theorem blkF_ok (hk : ∀ x y, lt x y = decide (key x < key y)) {n : Nat} : ∀ {f a : Nat} {D : List Int}, D.length = n → n < a + f → (∀ p, p < a → (blkF lt n f a D).getD p 0 = D.getD p 0) ∧ ∀ f2, Blk key (blkF lt n f a D) 20 n f2 a
  | 0, a, D, _, h => ⟨fun _ _ => rfl, fun f2 => Blk.none (by omega)⟩
  | f + 1, a, D, h, hf => by
    unfold blkF
    by_cases c : a + 20 ≤ n
    · rw [if_pos c]
      have p := insS_perm (lt := lt) (a := a) (b := a + 20) (D := D) (by omega)
      have so := insS_so (key := key) hk (a := a) (b := a + 20) (D := D) (by omega)
      have ho : ∀ p, p < a → (insS lt a (a + 20) D).getD p 0 = D.getD p 0 := fun p hp => insS_out (by omega) (.inl hp)
      have hl := p.length_eq
      generalize insS lt a (a + 20) D = D2 at so ho hl
      obtain ⟨i1, i2⟩ := blkF_ok hk (n := n) (f := f) (a := a + 20) (D := D2) (by omega) (by omega)
      refine ⟨fun p hp => by rw [i1 p (by omega), ho p hp], fun f2 => ?_⟩
      cases f2 with
      | zero => trivial
      | succ f2 =>
        intro ha
        refine ⟨fun p q k1 k2 k3 => ?_, i2 f2⟩
        rw [i1 p (by omega), i1 q (by omega)]
        exact so p q k1 k2 (by omega)
    · rw [if_neg c]
      refine ⟨fun p hp => insS_out (by omega) (.inl hp), fun f2 => ?_⟩
      cases f2 with
      | zero => trivial
      | succ f2 =>
        intro ha
        refine ⟨fun p q k1 k2 k3 => insS_so (key := key) hk (by omega) p q k1 k2 (by omega), Blk.none (by omega)⟩
def psF (lt : Int → Int → Bool) (n bs : Nat) : Nat → Nat → List Int → List Int
  | 0, a, D => D
  | f + 1, a, D => if a + 2 * bs ≤ n then psF lt n bs f (a + 2 * bs) (symF lt n D a (a + bs) (a + 2 * bs)) else if a + bs < n then symF lt n D a (a + bs) n else D
theorem psF_perm {n bs : Nat} (hbs : 0 < bs) : ∀ {f a : Nat} {D : List Int}, D.length = n → (psF lt n bs f a D).Perm D
  | 0, a, D, _ => List.Perm.refl _
  | f + 1, a, D, h => by
    unfold psF
    split
    · have p := symF_perm (lt := lt) n D a (a + bs) (a + 2 * bs) (by omega) (by omega) (by omega)
      exact (psF_perm hbs (by rw [p.length_eq, h])).trans p
    · split
      · exact symF_perm n D a (a + bs) n (by omega) (by omega) (by omega)
      · exact List.Perm.refl _
theorem psF_ok (hk : ∀ x y, lt x y = decide (key x < key y)) {n bs : Nat} (hbs : 0 < bs) : ∀ {f a : Nat} {D : List Int}, D.length = n → n < a + f → (∀ f2, Blk key D bs n f2 a) → (∀ p, p < a → (psF lt n bs f a D).getD p 0 = D.getD p 0) ∧ ∀ f2, Blk key (psF lt n bs f a D) (2 * bs) n f2 a
  | 0, a, D, _, h, _ => ⟨fun _ _ => rfl, fun f2 => Blk.none (by omega)⟩
  | f + 1, a, D, h, hf, hB => by
    unfold psF
    have hB2 := hB 2
    by_cases c : a + 2 * bs ≤ n
    · rw [if_pos c]
      obtain ⟨b1, b2⟩ := hB2 (by omega)
      obtain ⟨b3, _⟩ := b2 (by omega)
      have S := sym_ok (key := key) hk n D a (a + bs) (a + 2 * bs) (by omega) (by omega) (by omega) (by omega) (fun p q k1 k2 k3 => b1 p q k1 k2 (by omega)) (fun p q k1 k2 k3 => b3 p q k1 k2 (by omega))
      generalize symF lt n D a (a + bs) (a + 2 * bs) = D2 at S
      have hl := S.perm.length_eq
      have nxt : ∀ f2, Blk key D2 bs n f2 (a + 2 * bs) := fun f2 => by
        have h3 := (hB (f2 + 2) (by omega)).2
        by_cases e : a + bs < n
        · have h4 := (h3 e).2
          rw [show a + bs + bs = a + 2 * bs by omega] at h4
          exact h4.congr (fun p hp => S.out p (by omega))
        · exact Blk.none (by omega)
      obtain ⟨i1, i2⟩ := psF_ok hk hbs (f := f) (a := a + 2 * bs) (D := D2) (by omega) (by omega) nxt
      refine ⟨fun p hp => by rw [i1 p (by omega), S.out p (by omega)], fun f2 => ?_⟩
      cases f2 with
      | zero => trivial
      | succ f2 =>
        intro ha
        refine ⟨fun p q k1 k2 k3 => ?_, i2 f2⟩
        rw [i1 p (by omega), i1 q (by omega)]
        exact S.so p q k1 k2 (by omega)
    · rw [if_neg c]
      by_cases c2 : a + bs < n
      · rw [if_pos c2]
        obtain ⟨b1, b2⟩ := hB2 (by omega)
        obtain ⟨b3, _⟩ := b2 (by omega)
        have S := sym_ok (key := key) hk n D a (a + bs) n (by omega) c2 (by omega) (by omega) (fun p q k1 k2 k3 => b1 p q k1 k2 (by omega)) (fun p q k1 k2 k3 => b3 p q k1 k2 (by omega))
        generalize symF lt n D a (a + bs) n = D2 at S
        refine ⟨fun p hp => S.out p (by omega), fun f2 => ?_⟩
        cases f2 with
        | zero => trivial
        | succ f2 =>
          intro ha
          exact ⟨fun p q k1 k2 k3 => S.so p q k1 k2 (by omega), Blk.none (by omega)⟩
      · rw [if_neg c2]
        refine ⟨fun _ _ => rfl, fun f2 => ?_⟩
        cases f2 with
        | zero => trivial
        | succ f2 =>
          intro ha
          obtain ⟨b1, _⟩ := hB2 ha
          exact ⟨fun p q k1 k2 k3 => b1 p q k1 k2 (by omega), Blk.none (by omega)⟩
def allF (lt : Int → Int → Bool) (n : Nat) : Nat → Nat → List Int → List Int
  | 0, bs, D => D
  | f + 1, bs, D => if bs < n then allF lt n f (2 * bs) (psF lt n bs (n + 1) 0 D) else D
theorem allF_perm {n : Nat} : ∀ {f bs : Nat} {D : List Int}, 0 < bs → D.length = n → (allF lt n f bs D).Perm D
  | 0, bs, D, _, _ => List.Perm.refl _
  | f + 1, bs, D, hb, h => by
    unfold allF
    split
    · have p := psF_perm (lt := lt) (n := n) hb (f := n + 1) (a := 0) (D := D) h
      exact (allF_perm (by omega) (by rw [p.length_eq, h])).trans p
    · exact List.Perm.refl _
theorem allF_ok (hk : ∀ x y, lt x y = decide (key x < key y)) {n : Nat} : ∀ {f bs : Nat} {D : List Int}, 0 < bs → D.length = n → n < bs + f → (∀ f2, Blk key D bs n f2 0) → SoOn key (allF lt n f bs D) 0 n
  | 0, bs, D, hb, h, hf, hB => fun p q k1 k2 k3 => by
    obtain ⟨b1, _⟩ := hB 1 (by omega)
    exact b1 p q k1 k2 (by omega)
  | f + 1, bs, D, hb, h, hf, hB => by
    unfold allF
    by_cases c : bs < n
    · rw [if_pos c]
      have p := psF_perm (lt := lt) (n := n) hb (f := n + 1) (a := 0) (D := D) h
      obtain ⟨_, i2⟩ := psF_ok (key := key) hk hb (f := n + 1) (a := 0) (D := D) h (by omega) hB
      exact allF_ok hk (by omega) (by rw [p.length_eq, h]) (by omega) i2
    · rw [if_neg c]
      intro p q k1 k2 k3
      obtain ⟨b1, _⟩ := hB 1 (by omega)
      exact b1 p q k1 k2 (by omega)
def sortG (lt : Int → Int → Bool) (D : List Int) : List Int := allF lt D.length (D.length + 1) 20 (blkF lt D.length (D.length + 1) 0 D)
theorem sortG_perm {D : List Int} : (sortG lt D).Perm D := by
  have p := blkF_perm (lt := lt) (n := D.length) (f := D.length + 1) (a := 0) (D := D) rfl
  exact (allF_perm (by omega) p.length_eq).trans p
theorem sortG_so (hk : ∀ x y, lt x y = decide (key x < key y)) {D : List Int} : (sortG lt D).Pairwise fun x y => key x ≤ key y := by
  have p := blkF_perm (lt := lt) (n := D.length) (f := D.length + 1) (a := 0) (D := D) rfl
  obtain ⟨_, i2⟩ := blkF_ok (key := key) hk (n := D.length) (f := D.length + 1) (a := 0) (D := D) rfl (by omega)
  have h := allF_ok (key := key) hk (n := D.length) (f := D.length + 1) (bs := 20) (D := blkF lt D.length (D.length + 1) 0 D) (by omega) p.length_eq (by omega) i2
  refine SoOn.pair ?_
  have e := (sortG_perm (lt := lt) (D := D)).length_eq
  rw [e]
  exact h
end Go.Proofs.Ytoeppobpnhlebaa

namespace Go.Proofs.Ytoeppobpnhlebaa
open Go Go.RowKit
set_option linter.unusedVariables false
set_option linter.unusedSimpArgs false
variable {tb : List (FuncId × Bool)} {L : Nat → Bool} {H : ZH} {K : ZV → ZH → Prop}
variable {o g a b n : Nat} {ex : Bool} {D D0 : List Int} {f : FuncId} {caps : List ZV} {cf : Int → Int → Int}
theorem CmpZ.perm (h : CmpZ tb L H o g f caps D0 cf) (p : D.Perm D0) : CmpZ tb L H o g f caps D cf := fun x hx y hy => h x (p.mem_iff.1 hx) y (p.mem_iff.1 hy)
theorem insN_z (ho : o < H.length) (hL : L o = true) (hf : CmpZ tb L H o g f caps D0 cf) (hp : D.Perm D0) (hD : D.length = n) (hb : b ≤ n) (hn : n ≤ 1000) (hab : a ≤ b)
    (hK : K .no (bk H o g (insS (ltC cf) a b D))) :
    ZC (constX tb) (cFunc Try.prog) 58 [.own o g 0 n ex, Z64 (a : Int), Z64 (b : Int), .func f caps] L (bk H o g D) K := by
  subst hD
  exact ins_z ho hL (hf.perm hp) hb hn hab hK
set_option maxHeartbeats 8000000 in
theorem stabG_z (ho : o < H.length) (hL : L o = true) (hf : CmpZ tb L H o g f caps D cf) (hD : D.length = n) (hn : n ≤ 1000)
    (hK : K .no (bk H o g (allF (ltC cf) n (n + 1) 20 (blkF (ltC cf) n (n + 1) 0 D)))) :
    ZC (constX tb) (cFunc Try.prog) 45 [.own o g 0 n ex, Z64 (n : Int), .func f caps] L (bk H o g D) K := by
  refine ZC.enter Gh.no constX_none f_sn_stable (by simp) ?_
  simp only [c_sn_stable]
  have FIN := Lib.hid (Fin.keep (H0 := bk H o g D) hK)
  have HF := Lib.hid hf
  obtain ⟨E, hE⟩ : ∃ E, E = blkF (ltC cf) n (n + 1) 0 D := ⟨_, rfl⟩
  rw [← hE] at FIN
  obtain ⟨E2, hE2⟩ : ∃ E2, E2 = allF (ltC cf) n (n + 1) 20 E := ⟨_, rfl⟩
  rw [← hE2] at FIN
  have HE := Lib.hid hE
  have HE2 := Lib.hid hE2
  have HD := Lib.hid hD
  clear hK hf hE hE2 hD
  repeat' (first | (simp only [zmPack, zxPack, ne_eq, zfree, owners, Nat.reduceLT, List.contains_cons, List.contains_nil, Nat.reduceBEq, BEq.rfl, chunk, setAt, List.lookup_cons, List.lookup_nil, reduceCtorEq, Nat.reduceEqDiff, reduceIte, implies_true, forall_const, Nat.reduceMul, Nat.reduceSub, Nat.reduceAdd, Nat.reduceLeDiff, *]) | (simp only [zgoO, zgoG, zO_nil, zthen_normal, zgoC]) | (with_reducible apply And.intro) | (with_reducible intro _))
  refine zW_whileK [(0, .own o g 0 n ex), (1, Z64 (n : Int)), (2, .func f caps)] (n + 1) (fun r s h => ∃ (a : Nat) (D2 : List Int), s 7 = Z64 (a : Int) ∧ s 8 = Z64 ((a + 20 : Nat) : Int) ∧ s 6 = Z64 20 ∧ h = bk H o g D2 ∧ D2.Perm D ∧ a ≤ n ∧ n < a + r ∧ blkF (ltC cf) n r a D2 = E) (by repeat' (first | exact trivial | (refine ⟨rfl, ?_⟩) | (refine ⟨by simp only [zupd_at, Nat.reduceEqDiff, reduceIte]; assumption, ?_⟩))) rfl ⟨0, D, rfl, rfl, rfl, rfl, List.Perm.refl _, Nat.zero_le _, by omega, HE.out.symm⟩ ?_
  clear HE
  rintro r s h ⟨a, D2, f7, f8, f6, rfl, hp, han, hr, hb⟩ ⟨f0, f1, f2, -⟩
  obtain ⟨r, rfl⟩ : ∃ r', r = r' + 1 := ⟨r - 1, by omega⟩
  unfold blkF at hb
  have hDl : D2.length = n := by rw [hp.length_eq]; exact HD.out
  have HP := Lib.hid hp
  clear hp
  by_cases c : a + 20 ≤ n
  · rw [if_pos c] at hb
    have c1 : ((a + 20 : Nat) : Int) ≤ (n : Int) := by omega
    have HB := Lib.hid hb
    have w1 : IntKind.i64.wrap (((a + 20 : Nat) : Int) + 20) = ((a + 20 + 20 : Nat) : Int) := by rw [IntWalk.i64_in _ (by omega)]; omega
    clear hb
    repeat' (first | (simp only [zmPack, zxPack, ne_eq, zfree, owners, Nat.reduceLT, List.contains_cons, List.contains_nil, Nat.reduceBEq, BEq.rfl, chunk, setAt, List.lookup_cons, List.lookup_nil, reduceCtorEq, Nat.reduceEqDiff, reduceIte, implies_true, forall_const, Nat.reduceMul, Nat.reduceSub, Nat.reduceAdd, Nat.reduceLeDiff, c1, *]) | (simp only [zgoO, zgoG, zO_nil, zthen_normal, zgoC]) | (with_reducible apply And.intro) | (with_reducible intro _))
    refine insN_z (a := a) (b := a + 20) ho hL HF.out HP.out hDl c hn (by omega) ?_
    clear c1
    repeat' (first | (simp only [zmPack, zxPack, ne_eq, zfree, owners, Nat.reduceLT, List.contains_cons, List.contains_nil, Nat.reduceBEq, BEq.rfl, chunk, setAt, List.lookup_cons, List.lookup_nil, reduceCtorEq, Nat.reduceEqDiff, reduceIte, implies_true, forall_const, Nat.reduceMul, Nat.reduceSub, Nat.reduceAdd, Nat.reduceLeDiff, w1, *]) | (simp only [zgoO, zgoG, zO_nil, zthen_normal, zgoC]) | (with_reducible apply And.intro) | (with_reducible intro _))
    all_goals exact ⟨r, by omega, a + 20, rfl, rfl, _, rfl, (insS_perm (by omega)).trans HP.out, by omega, by omega, HB.out⟩
  · rw [if_neg c] at hb
    have c1 : ¬ ((a + 20 : Nat) : Int) ≤ (n : Int) := by omega
    have HB := Lib.hid hb
    clear hb
    repeat' (first | (simp only [zmPack, zxPack, ne_eq, zfree, owners, Nat.reduceLT, List.contains_cons, List.contains_nil, Nat.reduceBEq, BEq.rfl, chunk, setAt, List.lookup_cons, List.lookup_nil, reduceCtorEq, Nat.reduceEqDiff, reduceIte, implies_true, forall_const, Nat.reduceMul, Nat.reduceSub, Nat.reduceAdd, Nat.reduceLeDiff, c1, *]) | (simp only [zgoO, zgoG, zO_nil, zthen_normal, zgoC]) | (with_reducible apply And.intro) | (with_reducible intro _))
    refine insN_z (a := a) (b := n) ho hL HF.out HP.out hDl (Nat.le_refl _) hn han ?_
    rw [HB.out]
    have hpE : E.Perm D := by rw [← HB.out]; exact (insS_perm (by omega)).trans HP.out
    have HPE := Lib.hid hpE
    clear c1 HB HP hDl hpE c f7 f8 han hr
    repeat' (first | (simp only [zmPack, zxPack, ne_eq, zfree, owners, Nat.reduceLT, List.contains_cons, List.contains_nil, Nat.reduceBEq, BEq.rfl, chunk, setAt, List.lookup_cons, List.lookup_nil, reduceCtorEq, Nat.reduceEqDiff, reduceIte, implies_true, forall_const, Nat.reduceMul, Nat.reduceSub, Nat.reduceAdd, Nat.reduceLeDiff, *]) | (simp only [zgoO, zgoG, zO_nil, zthen_normal, zgoC]) | (with_reducible apply And.intro) | (with_reducible intro _))
    refine zW_whileK [(0, .own o g 0 n ex), (1, Z64 (n : Int)), (2, .func f caps)] (n + 1) (fun r s h => ∃ (bs : Nat) (D2 : List Int), s 6 = Z64 (bs : Int) ∧ h = bk H o g D2 ∧ D2.Perm D ∧ 20 ≤ bs ∧ n < bs + r ∧ bs ≤ 2000 ∧ allF (ltC cf) n r bs D2 = E2) (by repeat' (first | exact trivial | (refine ⟨rfl, ?_⟩) | (refine ⟨by simp only [zupd_at, Nat.reduceEqDiff, reduceIte]; assumption, ?_⟩))) rfl ⟨20, E, f6, rfl, HPE.out, Nat.le_refl _, by omega, by omega, HE2.out.symm⟩ ?_
    clear HE2 HPE f6 f0 f1 f2
    rintro r s h ⟨bs, D2, f6, rfl, hp, hbs, hr, hbs2, hb⟩ ⟨f0, f1, f2, -⟩
    have HP := Lib.hid hp
    clear hp
    by_cases c : bs < n
    · obtain ⟨r, rfl⟩ : ∃ r', r = r' + 1 := ⟨r - 1, by omega⟩
      have d1 : (bs : Int) < (n : Int) := by omega
      unfold allF at hb
      rw [if_pos c] at hb
      obtain ⟨E3, hE3⟩ : ∃ E3, E3 = psF (ltC cf) n bs (n + 1) 0 D2 := ⟨_, rfl⟩
      rw [← hE3] at hb
      have hDl : D2.length = n := by rw [HP.out.length_eq]; exact HD.out
      have hpE : E3.Perm D := by rw [hE3]; exact (psF_perm (by omega) hDl).trans HP.out
      have HPE := Lib.hid hpE
      have HB := Lib.hid hb
      have HE3 := Lib.hid hE3
      have w1 : IntKind.i64.wrap (2 * (bs : Int)) = ((2 * bs : Nat) : Int) := by rw [IntWalk.i64_in _ (by omega)]; omega
      have w2 : IntKind.i64.wrap ((bs : Int) * 2) = ((2 * bs : Nat) : Int) := by rw [IntWalk.i64_in _ (by omega)]; omega
      clear hb hE3 hpE
      repeat' (first | (simp only [zmPack, zxPack, ne_eq, zfree, owners, Nat.reduceLT, List.contains_cons, List.contains_nil, Nat.reduceBEq, BEq.rfl, chunk, setAt, List.lookup_cons, List.lookup_nil, reduceCtorEq, Nat.reduceEqDiff, reduceIte, implies_true, forall_const, Nat.reduceMul, Nat.reduceSub, Nat.reduceAdd, Nat.reduceLeDiff, d1, w1, *]) | (simp only [zgoO, zgoG, zO_nil, zthen_normal, zgoC]) | (with_reducible apply And.intro) | (with_reducible intro _))
      refine zW_whileK [(0, .own o g 0 n ex), (1, Z64 (n : Int)), (2, .func f caps), (6, Z64 (bs : Int))] (n + 1) (fun r s h => ∃ (a : Nat) (D2 : List Int), s 7 = Z64 (a : Int) ∧ s 8 = Z64 ((a + 2 * bs : Nat) : Int) ∧ h = bk H o g D2 ∧ D2.Perm D ∧ a ≤ n ∧ n < a + r ∧ psF (ltC cf) n bs r a D2 = E3) (by repeat' (first | exact trivial | (refine ⟨rfl, ?_⟩) | (refine ⟨by simp only [zupd_at, Nat.reduceEqDiff, reduceIte]; assumption, ?_⟩))) rfl ⟨0, D2, rfl, by simp [zupd], rfl, HP.out, Nat.zero_le _, by omega, HE3.out.symm⟩ ?_
      clear HE3 HP f6 f0 f1 f2 hDl w1
      rintro r2 s2 h2 ⟨a, D3, f7, f8, rfl, hp, han, hr2, hb⟩ ⟨f0, f1, f2, f6, -⟩
      obtain ⟨r2, rfl⟩ : ∃ r', r2 = r' + 1 := ⟨r2 - 1, by omega⟩
      unfold psF at hb
      have hDl : D3.length = n := by rw [hp.length_eq]; exact HD.out
      have HP := Lib.hid hp
      have w3 : IntKind.i64.wrap ((a : Int) + (bs : Int)) = ((a + bs : Nat) : Int) := by rw [IntWalk.i64_in _ (by omega)]; omega
      clear hp
      by_cases c2 : a + 2 * bs ≤ n
      · rw [if_pos c2] at hb
        have e1 : ((a + 2 * bs : Nat) : Int) ≤ (n : Int) := by omega
        have w4 : IntKind.i64.wrap (2 * (bs : Int)) = ((2 * bs : Nat) : Int) := by rw [IntWalk.i64_in _ (by omega)]; omega
        have w5 : IntKind.i64.wrap (((a + 2 * bs : Nat) : Int) + ((2 * bs : Nat) : Int)) = ((a + 2 * bs + 2 * bs : Nat) : Int) := by rw [IntWalk.i64_in _ (by omega)]; omega
        have HB2 := Lib.hid hb
        have hC2 := Lib.hid c2
        clear hb c2
        repeat' (first | (simp only [zmPack, zxPack, ne_eq, zfree, owners, Nat.reduceLT, List.contains_cons, List.contains_nil, Nat.reduceBEq, BEq.rfl, chunk, setAt, List.lookup_cons, List.lookup_nil, reduceCtorEq, Nat.reduceEqDiff, reduceIte, implies_true, forall_const, Nat.reduceMul, Nat.reduceSub, Nat.reduceAdd, Nat.reduceLeDiff, e1, w3, *]) | (simp only [zgoO, zgoG, zO_nil, zthen_normal, zgoC]) | (with_reducible apply And.intro) | (with_reducible intro _))
        refine sym_z (D0 := D) ho hL hn HD.out HF.out n D3 a (a + bs) (a + 2 * bs) _ HP.out (by omega) (by omega) hC2.out (by have := hC2.out; omega) ?_
        clear e1 w3
        repeat' (first | (simp only [zmPack, zxPack, ne_eq, zfree, owners, Nat.reduceLT, List.contains_cons, List.contains_nil, Nat.reduceBEq, BEq.rfl, chunk, setAt, List.lookup_cons, List.lookup_nil, reduceCtorEq, Nat.reduceEqDiff, reduceIte, implies_true, forall_const, Nat.reduceMul, Nat.reduceSub, Nat.reduceAdd, Nat.reduceLeDiff, w4, w5, *]) | (simp only [zgoO, zgoG, zO_nil, zthen_normal, zgoC]) | (with_reducible apply And.intro) | (with_reducible intro _))
        all_goals exact ⟨r2, by omega, a + 2 * bs, rfl, rfl, _, rfl, (symF_perm n D3 a (a + bs) (a + 2 * bs) (by omega) (by omega) (by have := hC2.out; omega)).trans HP.out, hC2.out, by omega, HB2.out⟩
      · rw [if_neg c2] at hb
        have e1 : ¬ ((a + 2 * bs : Nat) : Int) ≤ (n : Int) := by omega
        by_cases c3 : a + bs < n
        · rw [if_pos c3] at hb
          have e2 : ((a + bs : Nat) : Int) < (n : Int) := by omega
          have HB2 := Lib.hid hb
          clear hb
          repeat' (first | (simp only [zmPack, zxPack, ne_eq, zfree, owners, Nat.reduceLT, List.contains_cons, List.contains_nil, Nat.reduceBEq, BEq.rfl, chunk, setAt, List.lookup_cons, List.lookup_nil, reduceCtorEq, Nat.reduceEqDiff, reduceIte, implies_true, forall_const, Nat.reduceMul, Nat.reduceSub, Nat.reduceAdd, Nat.reduceLeDiff, e1, w3, e2, *]) | (simp only [zgoO, zgoG, zO_nil, zthen_normal, zgoC]) | (with_reducible apply And.intro) | (with_reducible intro _))
          refine sym_z (D0 := D) ho hL hn HD.out HF.out n D3 a (a + bs) n _ HP.out (by omega) c3 (Nat.le_refl _) (by omega) ?_
          rw [HB2.out]
          clear e1 w3 e2
          repeat' (first | (simp only [zmPack, zxPack, ne_eq, zfree, owners, Nat.reduceLT, List.contains_cons, List.contains_nil, Nat.reduceBEq, BEq.rfl, chunk, setAt, List.lookup_cons, List.lookup_nil, reduceCtorEq, Nat.reduceEqDiff, reduceIte, implies_true, forall_const, Nat.reduceMul, Nat.reduceSub, Nat.reduceAdd, Nat.reduceLeDiff, w2, *]) | (simp only [zgoO, zgoG, zO_nil, zthen_normal, zgoC]) | (with_reducible apply And.intro) | (with_reducible intro _))
          all_goals exact ⟨r, by omega, 2 * bs, rfl, _, rfl, HPE.out, by omega, by omega, by omega, HB.out⟩
        · rw [if_neg c3] at hb
          have e2 : ¬ ((a + bs : Nat) : Int) < (n : Int) := by omega
          subst hb
          repeat' (first | (simp only [zmPack, zxPack, ne_eq, zfree, owners, Nat.reduceLT, List.contains_cons, List.contains_nil, Nat.reduceBEq, BEq.rfl, chunk, setAt, List.lookup_cons, List.lookup_nil, reduceCtorEq, Nat.reduceEqDiff, reduceIte, implies_true, forall_const, Nat.reduceMul, Nat.reduceSub, Nat.reduceAdd, Nat.reduceLeDiff, e1, w3, e2, w2, *]) | (simp only [zgoO, zgoG, zO_nil, zthen_normal, zgoC]) | (with_reducible apply And.intro) | (with_reducible intro _))
          all_goals exact ⟨r, by omega, 2 * bs, rfl, _, rfl, HPE.out, by omega, by omega, by omega, HB.out⟩
    · have d1 : ¬ (bs : Int) < (n : Int) := by omega
      have e : D2 = E2 := by
        cases r with
        | zero => exact hb
        | succ r => unfold allF at hb; rw [if_neg c] at hb; exact hb
      subst e
      have fin := FIN.out
      clear hb
      repeat' (first | (simp only [zmPack, zxPack, ne_eq, zfree, owners, Nat.reduceLT, List.contains_cons, List.contains_nil, Nat.reduceBEq, BEq.rfl, chunk, setAt, List.lookup_cons, List.lookup_nil, reduceCtorEq, Nat.reduceEqDiff, reduceIte, implies_true, forall_const, Nat.reduceMul, Nat.reduceSub, Nat.reduceAdd, Nat.reduceLeDiff, d1, *]) | (simp only [zgoO, zgoG, zO_nil, zthen_normal, zgoC]) | (with_reducible apply And.intro) | (with_reducible intro _))
      all_goals exact ⟨_, rfl, fin⟩
set_option maxHeartbeats 4000000 in
theorem sortsG_z (ho : H[o]? = some (.grow g 1 (D.map eI))) (hL : L o = true) (hf : CmpZ tb L H o g f caps D cf) (hn : D.length ≤ 1000)
    (hK : K .no (bk H o g (sortG (ltC cf) D))) :
    ZC (constX tb) (cFunc Try.prog) 29 [.own o g 0 D.length ex, .func f caps] L H K := by
  refine ZC.enter Gh.no constX_none f_sn_sort (by simp) ?_
  simp only [c_sn_sort]
  have hol := (List.getElem?_eq_some_iff.1 ho).1
  have hH : bk H o g D = H := by
    unfold bk
    rw [← (List.getElem?_eq_some_iff.1 ho).2, List.set_getElem_self]
  have FIN := Lib.hid (Fin.keep (H0 := H) hK)
  have hl : lenZ H (.own o g 0 D.length ex) = some D.length := by rw [len_own]; exact ⟨_, _, ho, rfl⟩
  have HF := Lib.hid hf
  have HH := Lib.hid hH
  clear hK hf hH ho
  repeat' (first | (simp only [zmPack, zxPack, ne_eq, zfree, owners, Nat.reduceLT, List.contains_cons, List.contains_nil, Nat.reduceBEq, BEq.rfl, chunk, setAt, List.lookup_cons, List.lookup_nil, reduceCtorEq, Nat.reduceEqDiff, reduceIte, implies_true, forall_const, Nat.reduceMul, Nat.reduceSub, Nat.reduceAdd, Nat.reduceLeDiff, hl, *]) | (simp only [zgoO, zgoG, zO_nil, zthen_normal, zgoC]) | (with_reducible apply And.intro) | (with_reducible intro _))
  have key : ∀ K2 : ZV → ZH → Prop, K2 .no (bk H o g (sortG (ltC cf) D)) → ZC (constX tb) (cFunc Try.prog) 45 [.own o g 0 D.length ex, Z64 (D.length : Int), .func f caps] L H K2 := fun K2 k2 => by
    have := stabG_z (ex := ex) (K := K2) hol hL HF.out rfl hn k2
    rwa [HH.out] at this
  refine key _ ?_
  have fin := FIN.out
  clear key
  repeat' (first | (simp only [zmPack, zxPack, ne_eq, zfree, owners, Nat.reduceLT, List.contains_cons, List.contains_nil, Nat.reduceBEq, BEq.rfl, chunk, setAt, List.lookup_cons, List.lookup_nil, reduceCtorEq, Nat.reduceEqDiff, reduceIte, implies_true, forall_const, Nat.reduceMul, Nat.reduceSub, Nat.reduceAdd, Nat.reduceLeDiff, *]) | (simp only [zgoO, zgoG, zO_nil, zthen_normal, zgoC]) | (with_reducible apply And.intro) | (with_reducible intro _))
  all_goals exact ⟨_, rfl, fin⟩
end Go.Proofs.Ytoeppobpnhlebaa
