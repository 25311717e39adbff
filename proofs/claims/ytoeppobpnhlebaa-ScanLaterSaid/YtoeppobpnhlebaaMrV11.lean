/-
  Scan in ZM: small functions, busy places, the least one.
-/
import Derived.Test.YtoeppobpnhlebaaMrV7
import Derived.Test.YtoeppobpnhlebaaMrV8
namespace Go.Proofs.Ytoeppobpnhlebaa
open Go Go.RowKit
set_option linter.unusedVariables false
set_option linter.unusedSimpArgs false
variable {tb : List (FuncId × Bool)} {L : Nat → Bool} {H : ZH} {K : ZV → ZH → Prop}
abbrev eS (s : Sp) : List ZV := [Z64 s.1, Z64 s.2]
theorem sn_at0 {W : ZH} (A : ZB) (X : ZH) : (W ++ (A :: X))[W.length]? = some A := by rw [List.getElem?_append_right (Nat.le_refl _), Nat.sub_self]; rfl
theorem sn_st0 {W : ZH} (A C : ZB) (X : ZH) : (W ++ (A :: X)).set W.length C = W ++ (C :: X) := by rw [List.set_append_right _ _ (Nat.le_refl _), Nat.sub_self]; rfl
theorem counts_z {x y : Int} (hK : K (ZBo (decide (0 ≤ x ∧ x < y))) H) : ZC (constX tb) (cFunc Try.prog) 28 [.agg [Z64 x, Z64 y]] L H K := by
  refine ZC.enter Gh.no constX_none f_sn_counts (by simp) ?_
  simp only [c_sn_counts]
  have fin : ∀ b X, b = decide (0 ≤ x ∧ x < y) → Fin H (ZBo b) (H ++ X) K := fun b X e => Fin.trunc (Mods.ext H X) rfl (by rw [List.take_left, e]; exact hK)
  clear hK
  by_cases h : 0 ≤ x
  · by_cases h2 : x < y
    · have fin := fun X => fin true X (by simp [h, h2])
      repeat' (first | (simp only [zmPack, zxPack, ne_eq, zfree, owners, Nat.reduceLT, List.contains_cons, List.contains_nil, Nat.reduceBEq, BEq.rfl, chunk, setAt, List.lookup_cons, List.lookup_nil, reduceCtorEq, Nat.reduceEqDiff, reduceIte, implies_true, forall_const, Nat.reduceMul, Nat.reduceSub, Nat.reduceAdd, Nat.reduceLeDiff, *]) | (simp only [zgoO, zgoG, zO_nil, zthen_normal, zgoC]) | (with_reducible apply And.intro) | (with_reducible intro _))
    · have fin := fun X => fin false X (by simp [h2])
      repeat' (first | (simp only [zmPack, zxPack, ne_eq, zfree, owners, Nat.reduceLT, List.contains_cons, List.contains_nil, Nat.reduceBEq, BEq.rfl, chunk, setAt, List.lookup_cons, List.lookup_nil, reduceCtorEq, Nat.reduceEqDiff, reduceIte, implies_true, forall_const, Nat.reduceMul, Nat.reduceSub, Nat.reduceAdd, Nat.reduceLeDiff, *]) | (simp only [zgoO, zgoG, zO_nil, zthen_normal, zgoC]) | (with_reducible apply And.intro) | (with_reducible intro _))
  · have fin := fun X => fin false X (by simp [h])
    repeat' (first | (simp only [zmPack, zxPack, ne_eq, zfree, owners, Nat.reduceLT, List.contains_cons, List.contains_nil, Nat.reduceBEq, BEq.rfl, chunk, setAt, List.lookup_cons, List.lookup_nil, reduceCtorEq, Nat.reduceEqDiff, reduceIte, implies_true, forall_const, Nat.reduceMul, Nat.reduceSub, Nat.reduceAdd, Nat.reduceLeDiff, *]) | (simp only [zgoO, zgoG, zO_nil, zthen_normal, zgoC]) | (with_reducible apply And.intro) | (with_reducible intro _))
theorem rcounts_z {x y : Int} (hK : K (ZBo (decide (0 ≤ x ∧ x < y))) H) : ZC (constX tb) (cFunc Try.prog) 17 [.agg [Z64 x, Z64 y]] L H K := by
  refine ZC.enter Gh.no constX_none f_sn_rcounts (by simp) ?_
  simp only [c_sn_rcounts]
  have fin : ∀ b X, b = decide (0 ≤ x ∧ x < y) → Fin H (ZBo b) (H ++ X) K := fun b X e => Fin.trunc (Mods.ext H X) rfl (by rw [List.take_left, e]; exact hK)
  clear hK
  by_cases h : 0 ≤ x
  · by_cases h2 : x < y
    · have fin := fun X => fin true X (by simp [h, h2])
      repeat' (first | (simp only [zmPack, zxPack, ne_eq, zfree, owners, Nat.reduceLT, List.contains_cons, List.contains_nil, Nat.reduceBEq, BEq.rfl, chunk, setAt, List.lookup_cons, List.lookup_nil, reduceCtorEq, Nat.reduceEqDiff, reduceIte, implies_true, forall_const, Nat.reduceMul, Nat.reduceSub, Nat.reduceAdd, Nat.reduceLeDiff, *]) | (simp only [zgoO, zgoG, zO_nil, zthen_normal, zgoC]) | (with_reducible apply And.intro) | (with_reducible intro _))
    · have fin := fun X => fin false X (by simp [h2])
      repeat' (first | (simp only [zmPack, zxPack, ne_eq, zfree, owners, Nat.reduceLT, List.contains_cons, List.contains_nil, Nat.reduceBEq, BEq.rfl, chunk, setAt, List.lookup_cons, List.lookup_nil, reduceCtorEq, Nat.reduceEqDiff, reduceIte, implies_true, forall_const, Nat.reduceMul, Nat.reduceSub, Nat.reduceAdd, Nat.reduceLeDiff, *]) | (simp only [zgoO, zgoG, zO_nil, zthen_normal, zgoC]) | (with_reducible apply And.intro) | (with_reducible intro _))
  · have fin := fun X => fin false X (by simp [h])
    repeat' (first | (simp only [zmPack, zxPack, ne_eq, zfree, owners, Nat.reduceLT, List.contains_cons, List.contains_nil, Nat.reduceBEq, BEq.rfl, chunk, setAt, List.lookup_cons, List.lookup_nil, reduceCtorEq, Nat.reduceEqDiff, reduceIte, implies_true, forall_const, Nat.reduceMul, Nat.reduceSub, Nat.reduceAdd, Nat.reduceLeDiff, *]) | (simp only [zgoO, zgoG, zO_nil, zthen_normal, zgoC]) | (with_reducible apply And.intro) | (with_reducible intro _))
theorem meet_z {x y u v : Int} (hK : K (ZBo (decide (x < v ∧ u < y))) H) : ZC (constX tb) (cFunc Try.prog) 36 [.agg [Z64 x, Z64 y], .agg [Z64 u, Z64 v]] L H K := by
  refine ZC.enter Gh.no constX_none f_sn_meet (by simp) ?_
  simp only [c_sn_meet]
  have fin : ∀ b X, b = decide (x < v ∧ u < y) → Fin H (ZBo b) (H ++ X) K := fun b X e => Fin.trunc (Mods.ext H X) rfl (by rw [List.take_left, e]; exact hK)
  clear hK
  by_cases h : x < v
  · by_cases h2 : u < y
    · have fin := fun X => fin true X (by simp [h, h2])
      repeat' (first | (simp only [zmPack, zxPack, ne_eq, zfree, owners, Nat.reduceLT, List.contains_cons, List.contains_nil, Nat.reduceBEq, BEq.rfl, chunk, setAt, List.lookup_cons, List.lookup_nil, reduceCtorEq, Nat.reduceEqDiff, reduceIte, implies_true, forall_const, Nat.reduceMul, Nat.reduceSub, Nat.reduceAdd, Nat.reduceLeDiff, *]) | (simp only [zgoO, zgoG, zO_nil, zthen_normal, zgoC]) | (with_reducible apply And.intro) | (with_reducible intro _))
    · have fin := fun X => fin false X (by simp [h2])
      repeat' (first | (simp only [zmPack, zxPack, ne_eq, zfree, owners, Nat.reduceLT, List.contains_cons, List.contains_nil, Nat.reduceBEq, BEq.rfl, chunk, setAt, List.lookup_cons, List.lookup_nil, reduceCtorEq, Nat.reduceEqDiff, reduceIte, implies_true, forall_const, Nat.reduceMul, Nat.reduceSub, Nat.reduceAdd, Nat.reduceLeDiff, *]) | (simp only [zgoO, zgoG, zO_nil, zthen_normal, zgoC]) | (with_reducible apply And.intro) | (with_reducible intro _))
  · have fin := fun X => fin false X (by simp [h])
    repeat' (first | (simp only [zmPack, zxPack, ne_eq, zfree, owners, Nat.reduceLT, List.contains_cons, List.contains_nil, Nat.reduceBEq, BEq.rfl, chunk, setAt, List.lookup_cons, List.lookup_nil, reduceCtorEq, Nat.reduceEqDiff, reduceIte, implies_true, forall_const, Nat.reduceMul, Nat.reduceSub, Nat.reduceAdd, Nat.reduceLeDiff, *]) | (simp only [zgoO, zgoG, zO_nil, zthen_normal, zgoC]) | (with_reducible apply And.intro) | (with_reducible intro _))
theorem reg_z {s : Sp} (hK : K (Z64 s.1) H) : ZC (constX tb) (cFunc Try.prog) 47 [.agg (eS s)] L H K := by
  refine ZC.enter Gh.no constX_none f_sn_reg (by simp) ?_
  simp only [c_sn_reg]
  have fin : ∀ X, Fin H (Z64 s.1) (H ++ X) K := fun X => Fin.trunc (Mods.ext H X) rfl (by rw [List.take_left]; exact hK)
  clear hK
  repeat' (first | (simp only [zmPack, zxPack, ne_eq, zfree, owners, Nat.reduceLT, List.contains_cons, List.contains_nil, Nat.reduceBEq, BEq.rfl, chunk, setAt, List.lookup_cons, List.lookup_nil, reduceCtorEq, Nat.reduceEqDiff, reduceIte, implies_true, forall_const, Nat.reduceMul, Nat.reduceSub, Nat.reduceAdd, Nat.reduceLeDiff, *]) | (simp only [zgoO, zgoG, zO_nil, zthen_normal, zgoC]) | (with_reducible apply And.intro) | (with_reducible intro _))
theorem slot_z {s : Sp} (hK : K (Z64 s.2) H) : ZC (constX tb) (cFunc Try.prog) 35 [.agg (eS s)] L H K := by
  refine ZC.enter Gh.no constX_none f_sn_slot (by simp) ?_
  simp only [c_sn_slot]
  have fin : ∀ X, Fin H (Z64 s.2) (H ++ X) K := fun X => Fin.trunc (Mods.ext H X) rfl (by rw [List.take_left]; exact hK)
  clear hK
  repeat' (first | (simp only [zmPack, zxPack, ne_eq, zfree, owners, Nat.reduceLT, List.contains_cons, List.contains_nil, Nat.reduceBEq, BEq.rfl, chunk, setAt, List.lookup_cons, List.lookup_nil, reduceCtorEq, Nat.reduceEqDiff, reduceIte, implies_true, forall_const, Nat.reduceMul, Nat.reduceSub, Nat.reduceAdd, Nat.reduceLeDiff, *]) | (simp only [zgoO, zgoG, zO_nil, zthen_normal, zgoC]) | (with_reducible apply And.intro) | (with_reducible intro _))
def cmpI (x y : Int) : Int := if x < y then -1 else if y < x then 1 else 0
theorem isnan_z {x : Int} (hK : K (ZBo false) H) : ZC (constX tb) (cFunc Try.prog) 46 [Z64 x] L H K := by
  refine ZC.enter Gh.no constX_none f_sn_isnan (by simp) ?_
  simp only [c_sn_isnan]
  have fin : Fin H (ZBo false) H K := Fin.keep hK
  clear hK
  have e : ¬ ¬ (x = x) := fun h => h rfl
  repeat' (first | (simp only [zmPack, zxPack, ne_eq, zfree, owners, Nat.reduceLT, List.contains_cons, List.contains_nil, Nat.reduceBEq, BEq.rfl, chunk, setAt, List.lookup_cons, List.lookup_nil, reduceCtorEq, Nat.reduceEqDiff, reduceIte, implies_true, forall_const, Nat.reduceMul, Nat.reduceSub, Nat.reduceAdd, Nat.reduceLeDiff, e, *]) | (simp only [zgoO, zgoG, zO_nil, zthen_normal, zgoC]) | (with_reducible apply And.intro) | (with_reducible intro _))
theorem cmp_z {x y : Int} (hK : K (Z64 (cmpI x y)) H) : ZC (constX tb) (cFunc Try.prog) 31 [Z64 x, Z64 y] L H K := by
  refine ZC.enter Gh.no constX_none f_sn_cmp (by simp) ?_
  simp only [c_sn_cmp]
  have fin : ∀ v, v = cmpI x y → Fin H (Z64 v) H K := fun v e => Fin.keep (by rw [e]; exact hK)
  clear hK
  repeat' (first | (simp only [zmPack, zxPack, ne_eq, zfree, owners, Nat.reduceLT, List.contains_cons, List.contains_nil, Nat.reduceBEq, BEq.rfl, chunk, setAt, List.lookup_cons, List.lookup_nil, reduceCtorEq, Nat.reduceEqDiff, reduceIte, implies_true, forall_const, Nat.reduceMul, Nat.reduceSub, Nat.reduceAdd, Nat.reduceLeDiff, *]) | (simp only [zgoO, zgoG, zO_nil, zthen_normal, zgoC]) | (with_reducible apply And.intro) | (with_reducible intro _))
  refine isnan_z ?_
  repeat' (first | (simp only [zmPack, zxPack, ne_eq, zfree, owners, Nat.reduceLT, List.contains_cons, List.contains_nil, Nat.reduceBEq, BEq.rfl, chunk, setAt, List.lookup_cons, List.lookup_nil, reduceCtorEq, Nat.reduceEqDiff, reduceIte, implies_true, forall_const, Nat.reduceMul, Nat.reduceSub, Nat.reduceAdd, Nat.reduceLeDiff, *]) | (simp only [zgoO, zgoG, zO_nil, zthen_normal, zgoC]) | (with_reducible apply And.intro) | (with_reducible intro _))
  refine isnan_z ?_
  by_cases h : x < y
  · have fin := fin (-1) (by unfold cmpI; rw [if_pos h])
    repeat' (first | (simp only [zmPack, zxPack, ne_eq, zfree, owners, Nat.reduceLT, List.contains_cons, List.contains_nil, Nat.reduceBEq, BEq.rfl, chunk, setAt, List.lookup_cons, List.lookup_nil, reduceCtorEq, Nat.reduceEqDiff, reduceIte, implies_true, forall_const, Nat.reduceMul, Nat.reduceSub, Nat.reduceAdd, Nat.reduceLeDiff, *]) | (simp only [zgoO, zgoG, zO_nil, zthen_normal, zgoC]) | (with_reducible apply And.intro) | (with_reducible intro _))
  · by_cases h2 : y < x
    · have fin := fin 1 (by unfold cmpI; rw [if_neg h, if_pos h2])
      repeat' (first | (simp only [zmPack, zxPack, ne_eq, zfree, owners, Nat.reduceLT, List.contains_cons, List.contains_nil, Nat.reduceBEq, BEq.rfl, chunk, setAt, List.lookup_cons, List.lookup_nil, reduceCtorEq, Nat.reduceEqDiff, reduceIte, implies_true, forall_const, Nat.reduceMul, Nat.reduceSub, Nat.reduceAdd, Nat.reduceLeDiff, *]) | (simp only [zgoO, zgoG, zO_nil, zthen_normal, zgoC]) | (with_reducible apply And.intro) | (with_reducible intro _))
    · have fin := fin 0 (by unfold cmpI; rw [if_neg h, if_neg h2])
      repeat' (first | (simp only [zmPack, zxPack, ne_eq, zfree, owners, Nat.reduceLT, List.contains_cons, List.contains_nil, Nat.reduceBEq, BEq.rfl, chunk, setAt, List.lookup_cons, List.lookup_nil, reduceCtorEq, Nat.reduceEqDiff, reduceIte, implies_true, forall_const, Nat.reduceMul, Nat.reduceSub, Nat.reduceAdd, Nat.reduceLeDiff, *]) | (simp only [zgoO, zgoG, zO_nil, zthen_normal, zgoC]) | (with_reducible apply And.intro) | (with_reducible intro _))
theorem assigna_z {ex : Bool} {l : List Sp} {q i j : Nat} (hq : H[q]? = some (.box [.fz 2 ex (l.map eS)])) (hi : i < l.length) (hj : j < l.length) (hK : K (Z64 (cmpI (sp l i).1 (sp l j).1)) H) :
    ZC (constX tb) (cFunc Try.prog) 30 [Z64 (i : Int), Z64 (j : Int), .ptr q 0] L H K := by
  refine ZC.enter Gh.no constX_none f_sn_assigna (by simp) ?_
  simp only [c_sn_assigna]
  have fin : Fin H (Z64 (cmpI (sp l i).1 (sp l j).1)) H K := Fin.keep hK
  have hx : l[i]? = some (sp l i) := by unfold sp; rw [List.getD_eq_getElem?_getD, List.getElem?_eq_getElem hi]; rfl
  have hy : l[j]? = some (sp l j) := by unfold sp; rw [List.getD_eq_getElem?_getD, List.getElem?_eq_getElem hj]; rfl
  clear hK
  generalize sp l i = x at hx fin
  generalize sp l j = y at hy fin
  repeat' (first | (simp only [zmPack, zxPack, ne_eq, zfree, owners, Nat.reduceLT, List.contains_cons, List.contains_nil, Nat.reduceBEq, BEq.rfl, chunk, setAt, List.lookup_cons, List.lookup_nil, reduceCtorEq, Nat.reduceEqDiff, reduceIte, implies_true, forall_const, Nat.reduceMul, Nat.reduceSub, Nat.reduceAdd, Nat.reduceLeDiff, hx, hy, *]) | (simp only [zgoO, zgoG, zO_nil, zthen_normal, zgoC]) | (with_reducible apply And.intro) | (with_reducible intro _))
  refine cmp_z ?_
  clear hx hy
  repeat' (first | (simp only [zmPack, zxPack, ne_eq, zfree, owners, Nat.reduceLT, List.contains_cons, List.contains_nil, Nat.reduceBEq, BEq.rfl, chunk, setAt, List.lookup_cons, List.lookup_nil, reduceCtorEq, Nat.reduceEqDiff, reduceIte, implies_true, forall_const, Nat.reduceMul, Nat.reduceSub, Nat.reduceAdd, Nat.reduceLeDiff, *]) | (simp only [zgoO, zgoG, zO_nil, zthen_normal, zgoC]) | (with_reducible apply And.intro) | (with_reducible intro _))
end Go.Proofs.Ytoeppobpnhlebaa
