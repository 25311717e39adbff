/-
  slices.SortStableFunc in ZM, of lists of less than 20.
-/
import Derived.Test.YtoeppobpnhlebaaMrS6
import Derived.Test.YtoeppobpnhlebaaMrS7
namespace Go.Proofs.Ytoeppobpnhlebaa
open Go Go.RowKit
set_option linter.unusedVariables false
set_option linter.unusedSimpArgs false
variable {tb : List (FuncId × Bool)} {L : Nat → Bool} {H : ZH} {K : ZV → ZH → Prop}
variable {o g a b n : Nat} {ex : Bool} {D : List Int} {f : FuncId} {caps : List ZV} {cf : Int → Int → Int}
abbrev bk (H : ZH) (o g : Nat) (D : List Int) : ZH := H.set o (.grow g 1 (D.map eI))
def CmpZ (tb : List (FuncId × Bool)) (L : Nat → Bool) (H : ZH) (o g : Nat) (f : FuncId) (caps : List ZV) (D : List Int) (cf : Int → Int → Int) : Prop :=
  ∀ x, x ∈ D → ∀ y, y ∈ D → ∀ (R : List (List ZV)) (K : ZV → ZH → Prop), K (Z64 (cf x y)) (H.set o (.grow g 1 R)) → ZC (constX tb) (cFunc Try.prog) f (Z64 x :: Z64 y :: caps) L (H.set o (.grow g 1 R)) K
abbrev ltC (cf : Int → Int → Int) : Int → Int → Bool := fun x y => decide (cf x y < 0)
theorem bk_at (ho : o < H.length) : (bk H o g D)[o]? = some (.grow g 1 (D.map eI)) := List.getElem?_set_self ho
theorem bk_el (ho : o < H.length) {j : Nat} (hn : D.length = n) (hj : j < n) : elemZ (bk H o g D) 1 j (.own o g 0 n ex) = some (.eptr o g j 0) := by
  rw [elem_own]; exact ⟨_, bk_at ho, by simp [hn], hj, by simp⟩
theorem bk_ld (ho : o < H.length) {j : Nat} {x : Int} (hx : D[j]? = some x) : ldZ (bk H o g D) none (.eptr o g j 0) = some (Z64 x) := by
  rw [ld_eptr]; exact ⟨_, _, _, bk_at ho, by rw [List.getElem?_map, hx]; rfl, rfl⟩
theorem bk_st (ho : o < H.length) (hL : L o = true) {j : Nat} {x : Int} (hj : j < D.length) : stZ L (bk H o g D) [Z64 x] (.eptr o g j 0) = some (bk H o g (D.set j x)) := by
  rw [st_eptr]; exact ⟨1, _, eI D[j], bk_at ho, by rw [List.getElem?_map, List.getElem?_eq_getElem hj]; rfl, hL, by simp [eI], by unfold bk; rw [List.set_set, List.map_set]; rfl⟩
set_option maxHeartbeats 4000000 in
theorem ins_z (ho : o < H.length) (hL : L o = true) (hf : CmpZ tb L H o g f caps D cf) (hb : b ≤ D.length) (hn : D.length ≤ 1000) (hab : a ≤ b)
    (hK : K .no (bk H o g (insTo (ltC cf) a (b - (a + 1)) D))) :
    ZC (constX tb) (cFunc Try.prog) 58 [.own o g 0 D.length ex, Z64 (a : Int), Z64 (b : Int), .func f caps] L (bk H o g D) K := by
  refine ZC.enter Gh.no constX_none f_sn_ins (by simp) ?_
  simp only [c_sn_ins]
  have FIN := Lib.hid (Fin.keep (H0 := bk H o g D) hK)
  have HF := Lib.hid hf
  have HO := Lib.hid (And.intro ho hL)
  have w1 : IntKind.i64.wrap ((a : Int) + 1) = ((a + 1 + 0 : Nat) : Int) := by rw [IntWalk.i64_in _ (by omega)]; omega
  clear hK hf ho hL
  repeat' (first | (simp only [zmPack, zxPack, ne_eq, zfree, owners, Nat.reduceLT, List.contains_cons, List.contains_nil, Nat.reduceBEq, BEq.rfl, chunk, setAt, List.lookup_cons, List.lookup_nil, reduceCtorEq, Nat.reduceEqDiff, reduceIte, implies_true, forall_const, Nat.reduceMul, Nat.reduceSub, Nat.reduceAdd, Nat.reduceLeDiff, w1, *]) | (simp only [zgoO, zgoG, zO_nil, zthen_normal, zgoC]) | (with_reducible apply And.intro) | (with_reducible intro _))
  clear w1
  refine zW_whileK [(0, .own o g 0 D.length ex), (1, Z64 (a : Int)), (2, Z64 (b : Int)), (3, .func f caps)] (b - (a + 1)) (fun r s h => ∃ m : Nat, s 8 = Z64 ((a + 1 + m : Nat) : Int) ∧ h = bk H o g (insTo (ltC cf) a m D) ∧ (a + 1 + m ≤ b ∨ m = 0) ∧ r = b - (a + 1 + m)) (by repeat' (first | exact trivial | (refine ⟨rfl, ?_⟩) | (refine ⟨by simp only [zupd_at, Nat.reduceEqDiff, reduceIte]; assumption, ?_⟩))) rfl ⟨0, rfl, rfl, .inr rfl, rfl⟩ ?_
  rintro r s h ⟨m, f8, rfl, hm, rfl⟩ ⟨f0, f1, f2, f3, -⟩
  by_cases hi : a + 1 + m < b
  · have c1 : ((a + 1 + m : Nat) : Int) < (b : Int) := by omega
    have hp0 := insTo_perm (lt := ltC cf) (a := a) (m := m) (D := D) (by omega)
    obtain ⟨E, hE⟩ : ∃ E, E = insTo (ltC cf) a m D := ⟨_, rfl⟩
    have hE2 : insIn (ltC cf) a (a + 1 + m) E = insTo (ltC cf) a (m + 1) D := by rw [hE]; rfl
    rw [← hE] at hp0 ⊢
    obtain ⟨i, hii⟩ : ∃ i, i = a + 1 + m := ⟨_, rfl⟩
    have HE := Lib.hid hE2
    have HI := Lib.hid hii
    rw [← hii] at f8 c1
    clear hE hE2 hii
    repeat' (first | (simp only [zmPack, zxPack, ne_eq, zfree, owners, Nat.reduceLT, List.contains_cons, List.contains_nil, Nat.reduceBEq, BEq.rfl, chunk, setAt, List.lookup_cons, List.lookup_nil, reduceCtorEq, Nat.reduceEqDiff, reduceIte, implies_true, forall_const, Nat.reduceMul, Nat.reduceSub, Nat.reduceAdd, Nat.reduceLeDiff, c1, *]) | (simp only [zgoO, zgoG, zO_nil, zthen_normal, zgoC]) | (with_reducible apply And.intro) | (with_reducible intro _))
    refine zW_whileK [(0, .own o g 0 D.length ex), (1, Z64 (a : Int)), (2, Z64 (b : Int)), (3, .func f caps), (8, Z64 (i : Int))] i (fun r s h => ∃ (j : Nat) (D2 : List Int), s 9 = Z64 (j : Int) ∧ h = bk H o g D2 ∧ j ≤ i ∧ a ≤ j ∧ D2.Perm D ∧ insIn (ltC cf) a j D2 = insIn (ltC cf) a i E ∧ r = j) (by repeat' (first | exact trivial | (refine ⟨rfl, ?_⟩) | (refine ⟨by simp only [zupd_at, Nat.reduceEqDiff, reduceIte]; assumption, ?_⟩))) rfl ⟨i, E, rfl, rfl, Nat.le_refl _, by have := HI.out; omega, hp0, rfl, rfl⟩ ?_
    clear f8 f0 f1 f2 f3 c1
    rintro j s h ⟨j0, D2, f9, rfl, hji, haj, hp, hin, rfl⟩ ⟨f0, f1, f2, f3, f8, -⟩
    have hlen := hp.length_eq
    have HIN := Lib.hid hin
    have HP := Lib.hid hp
    clear hin hp
    have w2 : IntKind.i64.wrap ((i : Int) + 1) = ((a + 1 + (m + 1) : Nat) : Int) := by have := HI.out; rw [IntWalk.i64_in _ (by omega)]; omega
    by_cases hj : a < j
    · obtain ⟨j, rfl⟩ : ∃ j', j = j' + 1 := ⟨j - 1, by omega⟩
      have hin := HIN.out
      have hjb : j + 1 < D.length := by have := HI.out; omega
      have w3 : IntKind.i64.wrap (((j + 1 : Nat) : Int) - 1) = (j : Int) := by rw [IntWalk.i64_in _ (by omega)]; omega
      have c2 : (a : Int) < ((j + 1 : Nat) : Int) := by omega
      obtain ⟨x, hx⟩ : ∃ x, D2[j + 1]? = some x := ⟨_, List.getElem?_eq_getElem (by omega)⟩
      obtain ⟨y, hy⟩ : ∃ y, D2[j]? = some y := ⟨_, List.getElem?_eq_getElem (by omega)⟩
      have gx : D2.getD (j + 1) 0 = x := by rw [List.getD_eq_getElem?_getD, hx]; rfl
      have gy : D2.getD j 0 = y := by rw [List.getD_eq_getElem?_getD, hy]; rfl
      have ho := HO.out.1
      have e1 := bk_el (H := H) (o := o) (g := g) (ex := ex) (D := D2) ho hlen hjb
      have e2 := bk_el (H := H) (o := o) (g := g) (ex := ex) (D := D2) (j := j) ho hlen (by omega)
      have l1 := bk_ld (H := H) (o := o) (g := g) ho hx
      have l2 := bk_ld (H := H) (o := o) (g := g) ho hy
      have hc : ∀ K : ZV → ZH → Prop, K (Z64 (cf x y)) (bk H o g D2) → ZC (constX tb) (cFunc Try.prog) f (Z64 x :: Z64 y :: caps) L (bk H o g D2) K := HF.out x (HP.out.mem_iff.1 (List.mem_of_getElem? hx)) y (HP.out.mem_iff.1 (List.mem_of_getElem? hy)) (D2.map eI)
      have s1 := bk_st (H := H) (o := o) (g := g) (L := L) (D := D2) (x := y) ho HO.out.2 (show j + 1 < D2.length by omega)
      have e3 := bk_el (H := H) (o := o) (g := g) (ex := ex) (n := D.length) (D := D2.set (j + 1) y) (j := j) ho (by rw [List.length_set]; exact hlen) (by omega)
      have s2 := bk_st (H := H) (o := o) (g := g) (L := L) (D := D2.set (j + 1) y) (j := j) (x := x) ho HO.out.2 (by rw [List.length_set]; omega)
      have hsw : (D2.set (j + 1) y).set j x = sw D2 (j + 1) j := by unfold sw; rw [gx, gy]
      have hpw : (sw D2 (j + 1) j).Perm D := (sw_perm (by omega) (by omega)).trans HP.out
      rw [hsw] at s2
      have HPW := Lib.hid hpw
      rw [insIn_succ, gx, gy] at hin
      obtain ⟨H2, hH2⟩ : ∃ H2, H2 = bk H o g D2 := ⟨_, rfl⟩
      have HH2 := Lib.hid hH2
      rw [← hH2] at e1 e2 l1 l2 hc s1 ⊢
      clear hH2
      by_cases hlt : cf x y < 0
      · rw [if_pos ⟨hj, by simpa using hlt⟩] at hin
        have HIN2 := Lib.hid hin
        clear hx hy gx gy ho hsw hpw hin HIN
        repeat' (first | (simp only [zmPack, zxPack, ne_eq, zfree, owners, Nat.reduceLT, List.contains_cons, List.contains_nil, Nat.reduceBEq, BEq.rfl, chunk, setAt, List.lookup_cons, List.lookup_nil, reduceCtorEq, Nat.reduceEqDiff, reduceIte, implies_true, forall_const, Nat.reduceMul, Nat.reduceSub, Nat.reduceAdd, Nat.reduceLeDiff, c2, w3, e1, l1, e2, l2, *]) | (simp only [zgoO, zgoG, zO_nil, zthen_normal, zgoC]) | (with_reducible apply And.intro) | (with_reducible intro _))
        refine hc _ ?_
        repeat' (first | (simp only [zmPack, zxPack, ne_eq, zfree, owners, Nat.reduceLT, List.contains_cons, List.contains_nil, Nat.reduceBEq, BEq.rfl, chunk, setAt, List.lookup_cons, List.lookup_nil, reduceCtorEq, Nat.reduceEqDiff, reduceIte, implies_true, forall_const, Nat.reduceMul, Nat.reduceSub, Nat.reduceAdd, Nat.reduceLeDiff, hlt, c2, w3, e1, l1, e2, l2, s1, e3, s2, *]) | (simp only [zgoO, zgoG, zO_nil, zthen_normal, zgoC]) | (with_reducible apply And.intro) | (with_reducible intro _))
        all_goals first | exact ⟨j, by omega, j, rfl, _, rfl, by omega, by omega, HPW.out, HIN2.out, rfl⟩ | exact ⟨j, by omega, _, rfl, by omega, by omega, HPW.out, HIN2.out, rfl⟩ | exact ⟨j, by omega, _, by omega, by omega, HPW.out, HIN2.out, rfl⟩ | (have zz : 0 = 1 := by refine ⟨j, by omega, ?_⟩)
      · rw [if_neg (fun q => hlt (by simpa using q.2))] at hin
        have HIN2 := Lib.hid hin
        clear hx hy gx gy ho hsw hpw hin HIN
        repeat' (first | (simp only [zmPack, zxPack, ne_eq, zfree, owners, Nat.reduceLT, List.contains_cons, List.contains_nil, Nat.reduceBEq, BEq.rfl, chunk, setAt, List.lookup_cons, List.lookup_nil, reduceCtorEq, Nat.reduceEqDiff, reduceIte, implies_true, forall_const, Nat.reduceMul, Nat.reduceSub, Nat.reduceAdd, Nat.reduceLeDiff, c2, w3, e1, l1, e2, l2, *]) | (simp only [zgoO, zgoG, zO_nil, zthen_normal, zgoC]) | (with_reducible apply And.intro) | (with_reducible intro _))
        refine hc _ ?_
        have hd : D2 = insTo (ltC cf) a (m + 1) D := by rw [← HE.out, ← HI.out, ← HIN2.out]
        have HD := Lib.hid hd
        clear hd
        repeat' (first | (simp only [zmPack, zxPack, ne_eq, zfree, owners, Nat.reduceLT, List.contains_cons, List.contains_nil, Nat.reduceBEq, BEq.rfl, chunk, setAt, List.lookup_cons, List.lookup_nil, reduceCtorEq, Nat.reduceEqDiff, reduceIte, implies_true, forall_const, Nat.reduceMul, Nat.reduceSub, Nat.reduceAdd, Nat.reduceLeDiff, hlt, w2, *]) | (simp only [zgoO, zgoG, zO_nil, zthen_normal, zgoC]) | (with_reducible apply And.intro) | (with_reducible intro _))
        all_goals exact ⟨b - (a + 1 + (m + 1)), by omega, m + 1, rfl, by rw [← HD.out]; exact HH2.out, .inl (by omega), rfl⟩
    · have c2 : ¬ (a : Int) < (j : Int) := by omega
      have hin := HIN.out
      have : j = a := by omega
      subst this
      rw [insIn_stop (by omega)] at hin
      have hd : D2 = insTo (ltC cf) j (m + 1) D := by rw [← HE.out, ← HI.out, ← hin]
      have HD := Lib.hid hd
      clear hd hin
      repeat' (first | (simp only [zmPack, zxPack, ne_eq, zfree, owners, Nat.reduceLT, List.contains_cons, List.contains_nil, Nat.reduceBEq, BEq.rfl, chunk, setAt, List.lookup_cons, List.lookup_nil, reduceCtorEq, Nat.reduceEqDiff, reduceIte, implies_true, forall_const, Nat.reduceMul, Nat.reduceSub, Nat.reduceAdd, Nat.reduceLeDiff, c2, w2, *]) | (simp only [zgoO, zgoG, zO_nil, zthen_normal, zgoC]) | (with_reducible apply And.intro) | (with_reducible intro _))
      all_goals exact ⟨b - (j + 1 + (m + 1)), by omega, m + 1, rfl, by rw [← HD.out], .inl (by omega), rfl⟩
  · have c1 : ¬ ((a + 1 + m : Nat) : Int) < (b : Int) := by omega
    have e : b - (a + 1) = m := by omega
    have fin := FIN.out
    rw [e] at fin
    repeat' (first | (simp only [zmPack, zxPack, ne_eq, zfree, owners, Nat.reduceLT, List.contains_cons, List.contains_nil, Nat.reduceBEq, BEq.rfl, chunk, setAt, List.lookup_cons, List.lookup_nil, reduceCtorEq, Nat.reduceEqDiff, reduceIte, implies_true, forall_const, Nat.reduceMul, Nat.reduceSub, Nat.reduceAdd, Nat.reduceLeDiff, c1, *]) | (simp only [zgoO, zgoG, zO_nil, zthen_normal, zgoC]) | (with_reducible apply And.intro) | (with_reducible intro _))
    all_goals exact ⟨_, rfl, fin⟩
end Go.Proofs.Ytoeppobpnhlebaa

namespace Go.Proofs.Ytoeppobpnhlebaa
open Go Go.RowKit
set_option linter.unusedVariables false
set_option linter.unusedSimpArgs false
variable {tb : List (FuncId × Bool)} {L : Nat → Bool} {H : ZH} {K : ZV → ZH → Prop}
variable {o g a b n : Nat} {ex : Bool} {D : List Int} {f : FuncId} {caps : List ZV} {cf : Int → Int → Int}
set_option maxHeartbeats 4000000 in
theorem stab_z (ho : o < H.length) (hL : L o = true) (hf : CmpZ tb L H o g f caps D cf) (hn : D.length < 20)
    (hK : K .no (bk H o g (insTo (ltC cf) 0 (D.length - (0 + 1)) D))) :
    ZC (constX tb) (cFunc Try.prog) 45 [.own o g 0 D.length ex, Z64 (D.length : Int), .func f caps] L (bk H o g D) K := by
  refine ZC.enter Gh.no constX_none f_sn_stable (by simp) ?_
  simp only [c_sn_stable]
  have FIN := Lib.hid (Fin.keep (H0 := bk H o g D) hK)
  have HF := Lib.hid hf
  have HO := Lib.hid (And.intro ho hL)
  have c1 : ¬ (20 : Int) ≤ (D.length : Int) := by omega
  have c2 : ¬ (20 : Int) < (D.length : Int) := by omega
  clear hK hf ho hL
  repeat' (first | (simp only [zmPack, zxPack, ne_eq, zfree, owners, Nat.reduceLT, List.contains_cons, List.contains_nil, Nat.reduceBEq, BEq.rfl, chunk, setAt, List.lookup_cons, List.lookup_nil, reduceCtorEq, Nat.reduceEqDiff, reduceIte, implies_true, forall_const, Nat.reduceMul, Nat.reduceSub, Nat.reduceAdd, Nat.reduceLeDiff, *]) | (simp only [zgoO, zgoG, zO_nil, zthen_normal, zgoC]) | (with_reducible apply And.intro) | (with_reducible intro _))
  refine zW_whileK [(0, .own o g 0 D.length ex), (1, Z64 (D.length : Int)), (2, .func f caps)] 0 (fun r s h => s 7 = Z64 0 ∧ s 8 = Z64 20 ∧ s 6 = Z64 20 ∧ h = bk H o g D) (by repeat' (first | exact trivial | (refine ⟨rfl, ?_⟩) | (refine ⟨by simp only [zupd_at, Nat.reduceEqDiff, reduceIte]; assumption, ?_⟩))) rfl ⟨rfl, rfl, rfl, rfl⟩ ?_
  rintro r s h ⟨f7, f8, f6, rfl⟩ ⟨f0, f1, f2, -⟩
  repeat' (first | (simp only [zmPack, zxPack, ne_eq, zfree, owners, Nat.reduceLT, List.contains_cons, List.contains_nil, Nat.reduceBEq, BEq.rfl, chunk, setAt, List.lookup_cons, List.lookup_nil, reduceCtorEq, Nat.reduceEqDiff, reduceIte, implies_true, forall_const, Nat.reduceMul, Nat.reduceSub, Nat.reduceAdd, Nat.reduceLeDiff, c1, *]) | (simp only [zgoO, zgoG, zO_nil, zthen_normal, zgoC]) | (with_reducible apply And.intro) | (with_reducible intro _))
  refine ins_z (a := 0) (b := D.length) (D := D) HO.out.1 HO.out.2 HF.out (Nat.le_refl _) (by omega) (Nat.zero_le _) ?_
  obtain ⟨D2, hD2⟩ : ∃ D2, D2 = insTo (ltC cf) 0 (D.length - (0 + 1)) D := ⟨_, rfl⟩
  have HD := Lib.hid hD2
  rw [← hD2] at FIN ⊢
  clear hD2 c1
  repeat' (first | (simp only [zmPack, zxPack, ne_eq, zfree, owners, Nat.reduceLT, List.contains_cons, List.contains_nil, Nat.reduceBEq, BEq.rfl, chunk, setAt, List.lookup_cons, List.lookup_nil, reduceCtorEq, Nat.reduceEqDiff, reduceIte, implies_true, forall_const, Nat.reduceMul, Nat.reduceSub, Nat.reduceAdd, Nat.reduceLeDiff, *]) | (simp only [zgoO, zgoG, zO_nil, zthen_normal, zgoC]) | (with_reducible apply And.intro) | (with_reducible intro _))
  refine zW_whileK [(0, .own o g 0 D.length ex), (1, Z64 (D.length : Int)), (2, .func f caps)] 0 (fun r s h => s 6 = Z64 20 ∧ h = bk H o g D2) (by repeat' (first | exact trivial | (refine ⟨rfl, ?_⟩) | (refine ⟨by simp only [zupd_at, Nat.reduceEqDiff, reduceIte]; assumption, ?_⟩))) rfl ⟨f6, rfl⟩ ?_
  clear f6 f0 f1 f2 f7 f8
  rintro r s h ⟨f6, rfl⟩ ⟨f0, f1, f2, -⟩
  have fin := FIN.out
  repeat' (first | (simp only [zmPack, zxPack, ne_eq, zfree, owners, Nat.reduceLT, List.contains_cons, List.contains_nil, Nat.reduceBEq, BEq.rfl, chunk, setAt, List.lookup_cons, List.lookup_nil, reduceCtorEq, Nat.reduceEqDiff, reduceIte, implies_true, forall_const, Nat.reduceMul, Nat.reduceSub, Nat.reduceAdd, Nat.reduceLeDiff, c2, *]) | (simp only [zgoO, zgoG, zO_nil, zthen_normal, zgoC]) | (with_reducible apply And.intro) | (with_reducible intro _))
  all_goals exact ⟨_, rfl, fin⟩
def sortM (lt : Int → Int → Bool) (D : List Int) : List Int := insTo lt 0 (D.length - (0 + 1)) D
theorem sortM_perm {lt : Int → Int → Bool} : (sortM lt D).Perm D := insTo_perm (by omega)
theorem sortM_so {lt : Int → Int → Bool} {key : Int → Int} (hk : ∀ x y, lt x y = decide (key x < key y)) : (sortM lt D).Pairwise fun x y => key x ≤ key y := by
  have h := insTo_so (a := 0) (m := D.length - (0 + 1)) (D := D) hk (by omega)
  refine SoOn.pair fun p q hp hpq hq => h p q hp hpq ?_
  have e := (sortM_perm (lt := lt) (D := D)).length_eq
  omega
set_option maxHeartbeats 4000000 in
theorem sorts_z (ho : H[o]? = some (.grow g 1 (D.map eI))) (hL : L o = true) (hf : CmpZ tb L H o g f caps D cf) (hn : D.length < 20)
    (hK : K .no (bk H o g (sortM (ltC cf) D))) :
    ZC (constX tb) (cFunc Try.prog) 29 [.own o g 0 D.length ex, .func f caps] L H K := by
  refine ZC.enter Gh.no constX_none f_sn_sort (by simp) ?_
  simp only [c_sn_sort]
  have hol := (List.getElem?_eq_some_iff.1 ho).1
  have hH : bk H o g D = H := by
    unfold bk
    rw [← (List.getElem?_eq_some_iff.1 ho).2, List.set_getElem_self]
  have FIN := Lib.hid (Fin.keep (H0 := H) hK)
  have hl : lenZ H (.own o g 0 D.length ex) = some D.length := by rw [len_own]; exact ⟨_, _, ho, rfl⟩
  have HF := Lib.hid hf
  have HH := Lib.hid hH
  clear hK hf hH ho
  repeat' (first | (simp only [zmPack, zxPack, ne_eq, zfree, owners, Nat.reduceLT, List.contains_cons, List.contains_nil, Nat.reduceBEq, BEq.rfl, chunk, setAt, List.lookup_cons, List.lookup_nil, reduceCtorEq, Nat.reduceEqDiff, reduceIte, implies_true, forall_const, Nat.reduceMul, Nat.reduceSub, Nat.reduceAdd, Nat.reduceLeDiff, hl, *]) | (simp only [zgoO, zgoG, zO_nil, zthen_normal, zgoC]) | (with_reducible apply And.intro) | (with_reducible intro _))
  have key : ∀ K2 : ZV → ZH → Prop, K2 .no (bk H o g (sortM (ltC cf) D)) → ZC (constX tb) (cFunc Try.prog) 45 [.own o g 0 D.length ex, Z64 (D.length : Int), .func f caps] L H K2 := fun K2 k2 => by
    have := stab_z (ex := ex) (K := K2) hol hL HF.out hn k2
    rwa [HH.out] at this
  refine key _ ?_
  have fin := FIN.out
  clear key
  repeat' (first | (simp only [zmPack, zxPack, ne_eq, zfree, owners, Nat.reduceLT, List.contains_cons, List.contains_nil, Nat.reduceBEq, BEq.rfl, chunk, setAt, List.lookup_cons, List.lookup_nil, reduceCtorEq, Nat.reduceEqDiff, reduceIte, implies_true, forall_const, Nat.reduceMul, Nat.reduceSub, Nat.reduceAdd, Nat.reduceLeDiff, *]) | (simp only [zgoO, zgoG, zO_nil, zthen_normal, zgoC]) | (with_reducible apply And.intro) | (with_reducible intro _))
  all_goals exact ⟨_, rfl, fin⟩
end Go.Proofs.Ytoeppobpnhlebaa

namespace Go.Proofs.Ytoeppobpnhlebaa
open Go Go.RowKit
set_option linter.unusedVariables false
set_option linter.unusedSimpArgs false
variable {tb : List (FuncId × Bool)} {L : Nat → Bool} {H : ZH} {K : ZV → ZH → Prop}
abbrev eS (s : Sp) : List ZV := [Z64 s.1, Z64 s.2]
theorem sn_at0 {W : ZH} (A : ZB) (X : ZH) : (W ++ (A :: X))[W.length]? = some A := by rw [List.getElem?_append_right (Nat.le_refl _), Nat.sub_self]; rfl
theorem sn_st0 {W : ZH} (A C : ZB) (X : ZH) : (W ++ (A :: X)).set W.length C = W ++ (C :: X) := by rw [List.set_append_right _ _ (Nat.le_refl _), Nat.sub_self]; rfl
theorem counts_z {x y : Int} (hK : K (ZBo (decide (0 ≤ x ∧ x < y))) H) : ZC (constX tb) (cFunc Try.prog) 28 [.agg [Z64 x, Z64 y]] L H K := by
  refine ZC.enter Gh.no constX_none f_sn_counts (by simp) ?_
  simp only [c_sn_counts]
  have fin : ∀ b X, b = decide (0 ≤ x ∧ x < y) → Fin H (ZBo b) (H ++ X) K := fun b X e => Fin.trunc (Mods.ext H X) rfl (by rw [List.take_left, e]; exact hK)
  clear hK
  by_cases h : 0 ≤ x
  · by_cases h2 : x < y
    · have fin := fun X => fin true X (by simp [h, h2])
      repeat' (first | (simp only [zmPack, zxPack, ne_eq, zfree, owners, Nat.reduceLT, List.contains_cons, List.contains_nil, Nat.reduceBEq, BEq.rfl, chunk, setAt, List.lookup_cons, List.lookup_nil, reduceCtorEq, Nat.reduceEqDiff, reduceIte, implies_true, forall_const, Nat.reduceMul, Nat.reduceSub, Nat.reduceAdd, Nat.reduceLeDiff, *]) | (simp only [zgoO, zgoG, zO_nil, zthen_normal, zgoC]) | (with_reducible apply And.intro) | (with_reducible intro _))
    · have fin := fun X => fin false X (by simp [h2])
      repeat' (first | (simp only [zmPack, zxPack, ne_eq, zfree, owners, Nat.reduceLT, List.contains_cons, List.contains_nil, Nat.reduceBEq, BEq.rfl, chunk, setAt, List.lookup_cons, List.lookup_nil, reduceCtorEq, Nat.reduceEqDiff, reduceIte, implies_true, forall_const, Nat.reduceMul, Nat.reduceSub, Nat.reduceAdd, Nat.reduceLeDiff, *]) | (simp only [zgoO, zgoG, zO_nil, zthen_normal, zgoC]) | (with_reducible apply And.intro) | (with_reducible intro _))
  · have fin := fun X => fin false X (by simp [h])
    repeat' (first | (simp only [zmPack, zxPack, ne_eq, zfree, owners, Nat.reduceLT, List.contains_cons, List.contains_nil, Nat.reduceBEq, BEq.rfl, chunk, setAt, List.lookup_cons, List.lookup_nil, reduceCtorEq, Nat.reduceEqDiff, reduceIte, implies_true, forall_const, Nat.reduceMul, Nat.reduceSub, Nat.reduceAdd, Nat.reduceLeDiff, *]) | (simp only [zgoO, zgoG, zO_nil, zthen_normal, zgoC]) | (with_reducible apply And.intro) | (with_reducible intro _))
theorem rcounts_z {x y : Int} (hK : K (ZBo (decide (0 ≤ x ∧ x < y))) H) : ZC (constX tb) (cFunc Try.prog) 17 [.agg [Z64 x, Z64 y]] L H K := by
  refine ZC.enter Gh.no constX_none f_sn_rcounts (by simp) ?_
  simp only [c_sn_rcounts]
  have fin : ∀ b X, b = decide (0 ≤ x ∧ x < y) → Fin H (ZBo b) (H ++ X) K := fun b X e => Fin.trunc (Mods.ext H X) rfl (by rw [List.take_left, e]; exact hK)
  clear hK
  by_cases h : 0 ≤ x
  · by_cases h2 : x < y
    · have fin := fun X => fin true X (by simp [h, h2])
      repeat' (first | (simp only [zmPack, zxPack, ne_eq, zfree, owners, Nat.reduceLT, List.contains_cons, List.contains_nil, Nat.reduceBEq, BEq.rfl, chunk, setAt, List.lookup_cons, List.lookup_nil, reduceCtorEq, Nat.reduceEqDiff, reduceIte, implies_true, forall_const, Nat.reduceMul, Nat.reduceSub, Nat.reduceAdd, Nat.reduceLeDiff, *]) | (simp only [zgoO, zgoG, zO_nil, zthen_normal, zgoC]) | (with_reducible apply And.intro) | (with_reducible intro _))
    · have fin := fun X => fin false X (by simp [h2])
      repeat' (first | (simp only [zmPack, zxPack, ne_eq, zfree, owners, Nat.reduceLT, List.contains_cons, List.contains_nil, Nat.reduceBEq, BEq.rfl, chunk, setAt, List.lookup_cons, List.lookup_nil, reduceCtorEq, Nat.reduceEqDiff, reduceIte, implies_true, forall_const, Nat.reduceMul, Nat.reduceSub, Nat.reduceAdd, Nat.reduceLeDiff, *]) | (simp only [zgoO, zgoG, zO_nil, zthen_normal, zgoC]) | (with_reducible apply And.intro) | (with_reducible intro _))
  · have fin := fun X => fin false X (by simp [h])
    repeat' (first | (simp only [zmPack, zxPack, ne_eq, zfree, owners, Nat.reduceLT, List.contains_cons, List.contains_nil, Nat.reduceBEq, BEq.rfl, chunk, setAt, List.lookup_cons, List.lookup_nil, reduceCtorEq, Nat.reduceEqDiff, reduceIte, implies_true, forall_const, Nat.reduceMul, Nat.reduceSub, Nat.reduceAdd, Nat.reduceLeDiff, *]) | (simp only [zgoO, zgoG, zO_nil, zthen_normal, zgoC]) | (with_reducible apply And.intro) | (with_reducible intro _))
theorem meet_z {x y u v : Int} (hK : K (ZBo (decide (x < v ∧ u < y))) H) : ZC (constX tb) (cFunc Try.prog) 36 [.agg [Z64 x, Z64 y], .agg [Z64 u, Z64 v]] L H K := by
  refine ZC.enter Gh.no constX_none f_sn_meet (by simp) ?_
  simp only [c_sn_meet]
  have fin : ∀ b X, b = decide (x < v ∧ u < y) → Fin H (ZBo b) (H ++ X) K := fun b X e => Fin.trunc (Mods.ext H X) rfl (by rw [List.take_left, e]; exact hK)
  clear hK
  by_cases h : x < v
  · by_cases h2 : u < y
    · have fin := fun X => fin true X (by simp [h, h2])
      repeat' (first | (simp only [zmPack, zxPack, ne_eq, zfree, owners, Nat.reduceLT, List.contains_cons, List.contains_nil, Nat.reduceBEq, BEq.rfl, chunk, setAt, List.lookup_cons, List.lookup_nil, reduceCtorEq, Nat.reduceEqDiff, reduceIte, implies_true, forall_const, Nat.reduceMul, Nat.reduceSub, Nat.reduceAdd, Nat.reduceLeDiff, *]) | (simp only [zgoO, zgoG, zO_nil, zthen_normal, zgoC]) | (with_reducible apply And.intro) | (with_reducible intro _))
    · have fin := fun X => fin false X (by simp [h2])
      repeat' (first | (simp only [zmPack, zxPack, ne_eq, zfree, owners, Nat.reduceLT, List.contains_cons, List.contains_nil, Nat.reduceBEq, BEq.rfl, chunk, setAt, List.lookup_cons, List.lookup_nil, reduceCtorEq, Nat.reduceEqDiff, reduceIte, implies_true, forall_const, Nat.reduceMul, Nat.reduceSub, Nat.reduceAdd, Nat.reduceLeDiff, *]) | (simp only [zgoO, zgoG, zO_nil, zthen_normal, zgoC]) | (with_reducible apply And.intro) | (with_reducible intro _))
  · have fin := fun X => fin false X (by simp [h])
    repeat' (first | (simp only [zmPack, zxPack, ne_eq, zfree, owners, Nat.reduceLT, List.contains_cons, List.contains_nil, Nat.reduceBEq, BEq.rfl, chunk, setAt, List.lookup_cons, List.lookup_nil, reduceCtorEq, Nat.reduceEqDiff, reduceIte, implies_true, forall_const, Nat.reduceMul, Nat.reduceSub, Nat.reduceAdd, Nat.reduceLeDiff, *]) | (simp only [zgoO, zgoG, zO_nil, zthen_normal, zgoC]) | (with_reducible apply And.intro) | (with_reducible intro _))
theorem reg_z {s : Sp} (hK : K (Z64 s.1) H) : ZC (constX tb) (cFunc Try.prog) 47 [.agg (eS s)] L H K := by
  refine ZC.enter Gh.no constX_none f_sn_reg (by simp) ?_
  simp only [c_sn_reg]
  have fin : ∀ X, Fin H (Z64 s.1) (H ++ X) K := fun X => Fin.trunc (Mods.ext H X) rfl (by rw [List.take_left]; exact hK)
  clear hK
  repeat' (first | (simp only [zmPack, zxPack, ne_eq, zfree, owners, Nat.reduceLT, List.contains_cons, List.contains_nil, Nat.reduceBEq, BEq.rfl, chunk, setAt, List.lookup_cons, List.lookup_nil, reduceCtorEq, Nat.reduceEqDiff, reduceIte, implies_true, forall_const, Nat.reduceMul, Nat.reduceSub, Nat.reduceAdd, Nat.reduceLeDiff, *]) | (simp only [zgoO, zgoG, zO_nil, zthen_normal, zgoC]) | (with_reducible apply And.intro) | (with_reducible intro _))
theorem slot_z {s : Sp} (hK : K (Z64 s.2) H) : ZC (constX tb) (cFunc Try.prog) 35 [.agg (eS s)] L H K := by
  refine ZC.enter Gh.no constX_none f_sn_slot (by simp) ?_
  simp only [c_sn_slot]
  have fin : ∀ X, Fin H (Z64 s.2) (H ++ X) K := fun X => Fin.trunc (Mods.ext H X) rfl (by rw [List.take_left]; exact hK)
  clear hK
  repeat' (first | (simp only [zmPack, zxPack, ne_eq, zfree, owners, Nat.reduceLT, List.contains_cons, List.contains_nil, Nat.reduceBEq, BEq.rfl, chunk, setAt, List.lookup_cons, List.lookup_nil, reduceCtorEq, Nat.reduceEqDiff, reduceIte, implies_true, forall_const, Nat.reduceMul, Nat.reduceSub, Nat.reduceAdd, Nat.reduceLeDiff, *]) | (simp only [zgoO, zgoG, zO_nil, zthen_normal, zgoC]) | (with_reducible apply And.intro) | (with_reducible intro _))
def cmpI (x y : Int) : Int := if x < y then -1 else if y < x then 1 else 0
theorem isnan_z {x : Int} (hK : K (ZBo false) H) : ZC (constX tb) (cFunc Try.prog) 46 [Z64 x] L H K := by
  refine ZC.enter Gh.no constX_none f_sn_isnan (by simp) ?_
  simp only [c_sn_isnan]
  have fin : Fin H (ZBo false) H K := Fin.keep hK
  clear hK
  have e : ¬ ¬ (x = x) := fun h => h rfl
  repeat' (first | (simp only [zmPack, zxPack, ne_eq, zfree, owners, Nat.reduceLT, List.contains_cons, List.contains_nil, Nat.reduceBEq, BEq.rfl, chunk, setAt, List.lookup_cons, List.lookup_nil, reduceCtorEq, Nat.reduceEqDiff, reduceIte, implies_true, forall_const, Nat.reduceMul, Nat.reduceSub, Nat.reduceAdd, Nat.reduceLeDiff, e, *]) | (simp only [zgoO, zgoG, zO_nil, zthen_normal, zgoC]) | (with_reducible apply And.intro) | (with_reducible intro _))
theorem cmp_z {x y : Int} (hK : K (Z64 (cmpI x y)) H) : ZC (constX tb) (cFunc Try.prog) 31 [Z64 x, Z64 y] L H K := by
  refine ZC.enter Gh.no constX_none f_sn_cmp (by simp) ?_
  simp only [c_sn_cmp]
  have fin : ∀ v, v = cmpI x y → Fin H (Z64 v) H K := fun v e => Fin.keep (by rw [e]; exact hK)
  clear hK
  repeat' (first | (simp only [zmPack, zxPack, ne_eq, zfree, owners, Nat.reduceLT, List.contains_cons, List.contains_nil, Nat.reduceBEq, BEq.rfl, chunk, setAt, List.lookup_cons, List.lookup_nil, reduceCtorEq, Nat.reduceEqDiff, reduceIte, implies_true, forall_const, Nat.reduceMul, Nat.reduceSub, Nat.reduceAdd, Nat.reduceLeDiff, *]) | (simp only [zgoO, zgoG, zO_nil, zthen_normal, zgoC]) | (with_reducible apply And.intro) | (with_reducible intro _))
  refine isnan_z ?_
  repeat' (first | (simp only [zmPack, zxPack, ne_eq, zfree, owners, Nat.reduceLT, List.contains_cons, List.contains_nil, Nat.reduceBEq, BEq.rfl, chunk, setAt, List.lookup_cons, List.lookup_nil, reduceCtorEq, Nat.reduceEqDiff, reduceIte, implies_true, forall_const, Nat.reduceMul, Nat.reduceSub, Nat.reduceAdd, Nat.reduceLeDiff, *]) | (simp only [zgoO, zgoG, zO_nil, zthen_normal, zgoC]) | (with_reducible apply And.intro) | (with_reducible intro _))
  refine isnan_z ?_
  by_cases h : x < y
  · have fin := fin (-1) (by unfold cmpI; rw [if_pos h])
    repeat' (first | (simp only [zmPack, zxPack, ne_eq, zfree, owners, Nat.reduceLT, List.contains_cons, List.contains_nil, Nat.reduceBEq, BEq.rfl, chunk, setAt, List.lookup_cons, List.lookup_nil, reduceCtorEq, Nat.reduceEqDiff, reduceIte, implies_true, forall_const, Nat.reduceMul, Nat.reduceSub, Nat.reduceAdd, Nat.reduceLeDiff, *]) | (simp only [zgoO, zgoG, zO_nil, zthen_normal, zgoC]) | (with_reducible apply And.intro) | (with_reducible intro _))
  · by_cases h2 : y < x
    · have fin := fin 1 (by unfold cmpI; rw [if_neg h, if_pos h2])
      repeat' (first | (simp only [zmPack, zxPack, ne_eq, zfree, owners, Nat.reduceLT, List.contains_cons, List.contains_nil, Nat.reduceBEq, BEq.rfl, chunk, setAt, List.lookup_cons, List.lookup_nil, reduceCtorEq, Nat.reduceEqDiff, reduceIte, implies_true, forall_const, Nat.reduceMul, Nat.reduceSub, Nat.reduceAdd, Nat.reduceLeDiff, *]) | (simp only [zgoO, zgoG, zO_nil, zthen_normal, zgoC]) | (with_reducible apply And.intro) | (with_reducible intro _))
    · have fin := fin 0 (by unfold cmpI; rw [if_neg h, if_neg h2])
      repeat' (first | (simp only [zmPack, zxPack, ne_eq, zfree, owners, Nat.reduceLT, List.contains_cons, List.contains_nil, Nat.reduceBEq, BEq.rfl, chunk, setAt, List.lookup_cons, List.lookup_nil, reduceCtorEq, Nat.reduceEqDiff, reduceIte, implies_true, forall_const, Nat.reduceMul, Nat.reduceSub, Nat.reduceAdd, Nat.reduceLeDiff, *]) | (simp only [zgoO, zgoG, zO_nil, zthen_normal, zgoC]) | (with_reducible apply And.intro) | (with_reducible intro _))
theorem assigna_z {ex : Bool} {l : List Sp} {q i j : Nat} (hq : H[q]? = some (.box [.fz 2 ex (l.map eS)])) (hi : i < l.length) (hj : j < l.length) (hK : K (Z64 (cmpI (sp l i).1 (sp l j).1)) H) :
    ZC (constX tb) (cFunc Try.prog) 30 [Z64 (i : Int), Z64 (j : Int), .ptr q 0] L H K := by
  refine ZC.enter Gh.no constX_none f_sn_assigna (by simp) ?_
  simp only [c_sn_assigna]
  have fin : Fin H (Z64 (cmpI (sp l i).1 (sp l j).1)) H K := Fin.keep hK
  have hx : l[i]? = some (sp l i) := by unfold sp; rw [List.getD_eq_getElem?_getD, List.getElem?_eq_getElem hi]; rfl
  have hy : l[j]? = some (sp l j) := by unfold sp; rw [List.getD_eq_getElem?_getD, List.getElem?_eq_getElem hj]; rfl
  clear hK
  generalize sp l i = x at hx fin
  generalize sp l j = y at hy fin
  repeat' (first | (simp only [zmPack, zxPack, ne_eq, zfree, owners, Nat.reduceLT, List.contains_cons, List.contains_nil, Nat.reduceBEq, BEq.rfl, chunk, setAt, List.lookup_cons, List.lookup_nil, reduceCtorEq, Nat.reduceEqDiff, reduceIte, implies_true, forall_const, Nat.reduceMul, Nat.reduceSub, Nat.reduceAdd, Nat.reduceLeDiff, hx, hy, *]) | (simp only [zgoO, zgoG, zO_nil, zthen_normal, zgoC]) | (with_reducible apply And.intro) | (with_reducible intro _))
  refine cmp_z ?_
  clear hx hy
  repeat' (first | (simp only [zmPack, zxPack, ne_eq, zfree, owners, Nat.reduceLT, List.contains_cons, List.contains_nil, Nat.reduceBEq, BEq.rfl, chunk, setAt, List.lookup_cons, List.lookup_nil, reduceCtorEq, Nat.reduceEqDiff, reduceIte, implies_true, forall_const, Nat.reduceMul, Nat.reduceSub, Nat.reduceAdd, Nat.reduceLeDiff, *]) | (simp only [zgoO, zgoG, zO_nil, zthen_normal, zgoC]) | (with_reducible apply And.intro) | (with_reducible intro _))
end Go.Proofs.Ytoeppobpnhlebaa
