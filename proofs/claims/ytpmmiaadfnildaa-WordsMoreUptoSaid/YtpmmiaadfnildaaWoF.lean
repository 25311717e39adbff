/-
  words.Of in ZM, the whole.
-/
import Derived.Test.YtpmmiaadfnildaaWoE
namespace Go.Proofs.Ytpmmiaadfnildaa
open Go Go.RowKit
set_option linter.unusedVariables false
set_option linter.unusedSimpArgs false
variable {tb : List (FuncId × Bool)} {L : Nat → Bool} {H : ZH} {K : ZV → ZH → Prop}
theorem large_no {kd : Int} {vals : List (Int × Int)} {fs : List Fr} (h : largeB kd vals fs = false) : vals.length ≤ 600 ∧ fs.length ≤ 30 ∧ ∀ f ∈ fs, f.2.2.2.2.2.1.length ≤ 60 ∧ f.2.2.2.2.2.2.length ≤ 20 := by
  unfold largeB at h
  simp only [Bool.or_eq_false_iff, decide_eq_false_iff_not] at h
  obtain ⟨h1, h2, h3⟩ := h
  refine ⟨?_, by omega, fun f hf => ?_⟩
  · unfold mostI at h2; split at h2 <;> omega
  · have := List.any_eq_false.1 h1 f hf
    simp only [bigF, Bool.not_eq_true, Bool.or_eq_false_iff, decide_eq_false_iff_not] at this
    omega
def ofO (kd nm : Int) (vals : List (Int × Int)) (fs : List Fr) : List Int := [u64 kd, u64 nm] ++ (([u64 vals.length] ++ vals.map bw) ++ ([u64 fs.length] ++ frsO fs))
def ofE (kd : Int) (vals : List (Int × Int)) (fs : List Fr) : Int := if largeB kd vals fs = true then 2 else frsE (eAll 0 vals) fs
set_option maxHeartbeats 2000000 in
theorem of_z {kd nm : Int} {exv exf : Bool} {vals : List (Int × Int)} {fs : List Fr} (hfl : fs.length ≤ 100000000000000)
    (hK0 : ofE kd vals fs ≠ 0 → K (.tuple [.nil, Z64 (ofE kd vals fs)]) H) (hK1 : ofE kd vals fs = 0 → largeB kd vals fs = false → K (.tuple [.own H.length 0 0 (ofO kd nm vals fs).length false, Z64 0]) (H ++ [.grow 0 1 ((ofO kd nm vals fs).map eU)])) :
    ZC (boxX tb) (cFunc Try.prog) 14 [.agg [Z64 kd, Z64 nm, .fz 2 exv (vals.map eP), .fz 8 exf (fs.map eF)]] L H K := by
  refine ZC.enterL ⟨[(7, [(0, 1)])], [], []⟩ (boxX_none (by decide)) f_wo_of (by simp) fun hL => ?_
  simp only [c_wo_of]
  have HK0 := Lib.hid hK0
  have HK1 := Lib.hid hK1
  clear hK0 hK1
  repeat' (first | (simp only [zmPack, zfree, owners, Nat.reduceLT, List.filter_cons, List.filter_nil, List.contains_cons, List.contains_nil, Nat.reduceBEq, Bool.or_false, Bool.or_true, Bool.false_or, Bool.true_or, BEq.rfl, chunk, setAt, List.lookup_cons, List.lookup_nil, ZV.val.injEq, ZV.ptr.injEq, ZV.own.injEq, ZV.fz.injEq, ZV.func.injEq, ZV.tuple.injEq, ZV.agg.injEq, ZB.box.injEq, ZB.grow.injEq, Bool.not_eq_false', Prod.mk.injEq, and_assoc, decide_false, decide_true, Bool.not_false, Bool.not_true, Bool.true_eq_false, Bool.false_eq_true, exists_false, Bool.not_eq_false, Bool.not_not, Value.bool.injEq, Value.int.injEq, Option.some.injEq, exists_eq_left', exists_eq_left, exists_and_left, exists_and_right, and_true, true_and, decide_eq_true_eq, decide_eq_false_iff_not, if_true, if_false, Bool.not_eq_true', beq_true, beq_false, ne_eq, not_true_eq_false, not_false_eq_true, reduceCtorEq, List.getD_cons_zero, List.getD_cons_succ, List.getD_nil, List.map_cons, List.map_nil, List.append_nil, Nat.reduceEqDiff, reduceIte, ite_true, ite_false, or_true, true_or, or_false, false_or, true_imp_iff, false_imp_iff, implies_true, imp_false, and_self, imp_self, and_false, false_and, forall_const, take_map_all, Nat.le_refl, Nat.reduceMul, Nat.reduceSub, List.length_cons, List.length_nil, List.length_map, List.length_set, List.all_cons, List.all_nil, Bool.and_self, Option.map_none, Option.map_some, List.set_cons_zero, List.set_cons_succ, Nat.lt_add_one, List.append_assoc, List.cons_append, List.nil_append, List.append_nil, List.length_append, List.take_zero, List.take_succ_cons, List.take_nil, List.drop_zero, List.drop_succ_cons, List.drop_nil, List.getElem?_cons_zero, List.getElem?_cons_succ, List.getElem?_map, Nat.reduceAdd, Nat.reduceLeDiff, Nat.add_eq_zero_iff, and_self, Nat.zero_add, Nat.add_zero, Nat.mul_one, Nat.one_mul, List.flatten_cons, List.flatten_nil, *]) | (simp only [zgoO, zgoG, zO_nil, zthen_normal, zgoC]) | (with_reducible apply And.intro) | (with_reducible intro _))
  refine large_z hfl ?_
  cases hb : largeB kd vals fs with
  | true =>
    have hE : ofE kd vals fs = 2 := by unfold ofE; rw [if_pos hb]
    have hk : K (.tuple [.nil, Z64 2]) H := by have := HK0.out (by rw [hE]; simp); rwa [hE] at this
    have fin := fun X => Fin.trunc (K := K) (z := .tuple [.nil, Z64 2]) (Mods.ext H X) rfl (by rw [List.take_left]; exact hk)
    clear hb hE hk
    repeat' (first | (simp only [zmPack, zfree, owners, Nat.reduceLT, List.filter_cons, List.filter_nil, List.contains_cons, List.contains_nil, Nat.reduceBEq, Bool.or_false, Bool.or_true, Bool.false_or, Bool.true_or, BEq.rfl, chunk, setAt, List.lookup_cons, List.lookup_nil, ZV.val.injEq, ZV.ptr.injEq, ZV.own.injEq, ZV.fz.injEq, ZV.func.injEq, ZV.tuple.injEq, ZV.agg.injEq, ZB.box.injEq, ZB.grow.injEq, Bool.not_eq_false', Prod.mk.injEq, and_assoc, decide_false, decide_true, Bool.not_false, Bool.not_true, Bool.true_eq_false, Bool.false_eq_true, exists_false, Bool.not_eq_false, Bool.not_not, Value.bool.injEq, Value.int.injEq, Option.some.injEq, exists_eq_left', exists_eq_left, exists_and_left, exists_and_right, and_true, true_and, decide_eq_true_eq, decide_eq_false_iff_not, if_true, if_false, Bool.not_eq_true', beq_true, beq_false, ne_eq, not_true_eq_false, not_false_eq_true, reduceCtorEq, List.getD_cons_zero, List.getD_cons_succ, List.getD_nil, List.map_cons, List.map_nil, List.append_nil, Nat.reduceEqDiff, reduceIte, ite_true, ite_false, or_true, true_or, or_false, false_or, true_imp_iff, false_imp_iff, implies_true, imp_false, and_self, imp_self, and_false, false_and, forall_const, take_map_all, Nat.le_refl, Nat.reduceMul, Nat.reduceSub, List.length_cons, List.length_nil, List.length_map, List.length_set, List.all_cons, List.all_nil, Bool.and_self, Option.map_none, Option.map_some, List.set_cons_zero, List.set_cons_succ, Nat.lt_add_one, List.append_assoc, List.cons_append, List.nil_append, List.append_nil, List.length_append, List.take_zero, List.take_succ_cons, List.take_nil, List.drop_zero, List.drop_succ_cons, List.drop_nil, List.getElem?_cons_zero, List.getElem?_cons_succ, List.getElem?_map, Nat.reduceAdd, Nat.reduceLeDiff, Nat.add_eq_zero_iff, and_self, Nat.zero_add, Nat.add_zero, Nat.mul_one, Nat.one_mul, List.flatten_cons, List.flatten_nil, *]) | (simp only [zgoO, zgoG, zO_nil, zthen_normal, zgoC]) | (with_reducible apply And.intro) | (with_reducible intro _))
  | false =>
    obtain ⟨hv, hf, hfr⟩ := large_no hb
    have hE : ofE kd vals fs = frsE (eAll 0 vals) fs := by unfold ofE; rw [if_neg (by rw [hb]; simp)]
    have HE := Lib.hid hE
    have HB := Lib.hid hb
    have HFR := Lib.hid hfr
    clear hE hb hfr
    repeat' (first | (simp only [zmPack, zfree, owners, Nat.reduceLT, List.filter_cons, List.filter_nil, List.contains_cons, List.contains_nil, Nat.reduceBEq, Bool.or_false, Bool.or_true, Bool.false_or, Bool.true_or, BEq.rfl, chunk, setAt, List.lookup_cons, List.lookup_nil, ZV.val.injEq, ZV.ptr.injEq, ZV.own.injEq, ZV.fz.injEq, ZV.func.injEq, ZV.tuple.injEq, ZV.agg.injEq, ZB.box.injEq, ZB.grow.injEq, Bool.not_eq_false', Prod.mk.injEq, and_assoc, decide_false, decide_true, Bool.not_false, Bool.not_true, Bool.true_eq_false, Bool.false_eq_true, exists_false, Bool.not_eq_false, Bool.not_not, Value.bool.injEq, Value.int.injEq, Option.some.injEq, exists_eq_left', exists_eq_left, exists_and_left, exists_and_right, and_true, true_and, decide_eq_true_eq, decide_eq_false_iff_not, if_true, if_false, Bool.not_eq_true', beq_true, beq_false, ne_eq, not_true_eq_false, not_false_eq_true, reduceCtorEq, List.getD_cons_zero, List.getD_cons_succ, List.getD_nil, List.map_cons, List.map_nil, List.append_nil, Nat.reduceEqDiff, reduceIte, ite_true, ite_false, or_true, true_or, or_false, false_or, true_imp_iff, false_imp_iff, implies_true, imp_false, and_self, imp_self, and_false, false_and, forall_const, take_map_all, Nat.le_refl, Nat.reduceMul, Nat.reduceSub, List.length_cons, List.length_nil, List.length_map, List.length_set, List.all_cons, List.all_nil, Bool.and_self, Option.map_none, Option.map_some, List.set_cons_zero, List.set_cons_succ, Nat.lt_add_one, List.append_assoc, List.cons_append, List.nil_append, List.append_nil, List.length_append, List.take_zero, List.take_succ_cons, List.take_nil, List.drop_zero, List.drop_succ_cons, List.drop_nil, List.getElem?_cons_zero, List.getElem?_cons_succ, List.getElem?_map, Nat.reduceAdd, Nat.reduceLeDiff, Nat.add_eq_zero_iff, and_self, Nat.zero_add, Nat.add_zero, Nat.mul_one, Nat.one_mul, List.flatten_cons, List.flatten_nil, *]) | (simp only [zgoO, zgoG, zO_nil, zthen_normal, zgoC]) | (with_reducible apply And.intro) | (with_reducible intro _))
    obtain ⟨A, hA⟩ : ∃ A, A = ZB.box [Z64 kd, Z64 nm, .fz 2 exv (vals.map eP), .fz 8 exf (fs.map eF)] := ⟨_, rfl⟩
    have hWr : ∀ b c g o e, wrH (H ++ [A, b, c]) (H.length + 2) (H.length + 1) g o e = H ++ [A, .grow g 1 (o.map eU), .box [.own (H.length + 1) g 0 o.length false, Z64 e]] := fun b c g o e => by unfold wrH; rw [H_setK, H_setK]; rfl
    rw [← hA]
    show ZC _ _ _ _ L (H ++ [A, .grow 0 1 (([] : List Int).map eU), .box [.own (H.length + 1) 0 0 ([] : List Int).length false, Z64 0]]) _
    rw [← hWr (.grow 0 1 []) (.box [.own (H.length + 1) 0 0 0 false, Z64 0]) 0 [] 0]
    have w : WOk (H ++ [A, .grow 0 1 [], .box [.own (H.length + 1) 0 0 0 false, Z64 0]]) L (H.length + 2) (H.length + 1) := ⟨by simp, by simp, by omega, hL 2, hL 1⟩
    refine cell_z w (fun k => by rw [List.length_append, Nat.add_assoc]; exact hL _) (by simp; omega) hf HFR.out rfl fun g' => ?_
    rw [hWr, List.nil_append, ← HE.out]
    show ZgoG _ _ _ _ (H ++ [A, .grow g' 1 ((ofO kd nm vals fs).map eU), .box [.own (H.length + 1) g' 0 (ofO kd nm vals fs).length false, Z64 (ofE kd vals fs)]])
    clear hWr w
    obtain ⟨o, ho⟩ : ∃ o, o = ofO kd nm vals fs := ⟨_, rfl⟩
    obtain ⟨E, hE⟩ : ∃ E, E = ofE kd vals fs := ⟨_, rfl⟩
    have k0 : Hid (E ≠ 0 → K (.tuple [.nil, Z64 E]) H) := by rw [hE]; exact HK0
    have k1 : Hid (E = 0 → K (.tuple [.own H.length 0 0 o.length false, Z64 0]) (H ++ [.grow 0 1 (o.map eU)])) := fun h => by rw [ho]; exact HK1.out (hE ▸ h) HB.out
    rw [← ho, ← hE]
    clear HK0 HK1 HE HB HFR hA ho hE
    by_cases hz : E = 0
    · have hk := k1.out hz
      have fin : Fin H (.tuple [.own (H.length + 1) g' 0 o.length false, Z64 0]) (H ++ [A, .grow g' 1 (o.map eU), .box [.own (H.length + 1) g' 0 o.length false, Z64 0]]) K := by
        refine Fin.ownT (j := 0) (vs := [.own (H.length + 1) g' 0 o.length false, Z64 0]) (k := 1) (rows := o.map eU) rfl rfl (Mods.ext H _) (by omega) (by rw [H_atK]; rfl) (by simp) u_refs ?_
        rw [List.take_left, List.drop_zero, take_map_all]
        exact hk
      clear hk k0 k1
      subst hz
      repeat' (first | (simp only [zmPack, zfree, owners, Nat.reduceLT, List.filter_cons, List.filter_nil, List.contains_cons, List.contains_nil, Nat.reduceBEq, Bool.or_false, Bool.or_true, Bool.false_or, Bool.true_or, BEq.rfl, chunk, setAt, List.lookup_cons, List.lookup_nil, ZV.val.injEq, ZV.ptr.injEq, ZV.own.injEq, ZV.fz.injEq, ZV.func.injEq, ZV.tuple.injEq, ZV.agg.injEq, ZB.box.injEq, ZB.grow.injEq, Bool.not_eq_false', Prod.mk.injEq, and_assoc, decide_false, decide_true, Bool.not_false, Bool.not_true, Bool.true_eq_false, Bool.false_eq_true, exists_false, Bool.not_eq_false, Bool.not_not, Value.bool.injEq, Value.int.injEq, Option.some.injEq, exists_eq_left', exists_eq_left, exists_and_left, exists_and_right, and_true, true_and, decide_eq_true_eq, decide_eq_false_iff_not, if_true, if_false, Bool.not_eq_true', beq_true, beq_false, ne_eq, not_true_eq_false, not_false_eq_true, reduceCtorEq, List.getD_cons_zero, List.getD_cons_succ, List.getD_nil, List.map_cons, List.map_nil, List.append_nil, Nat.reduceEqDiff, reduceIte, ite_true, ite_false, or_true, true_or, or_false, false_or, true_imp_iff, false_imp_iff, implies_true, imp_false, and_self, imp_self, and_false, false_and, forall_const, take_map_all, Nat.le_refl, Nat.reduceMul, Nat.reduceSub, List.length_cons, List.length_nil, List.length_map, List.length_set, List.all_cons, List.all_nil, Bool.and_self, Option.map_none, Option.map_some, List.set_cons_zero, List.set_cons_succ, Nat.lt_add_one, List.append_assoc, List.cons_append, List.nil_append, List.append_nil, List.length_append, List.take_zero, List.take_succ_cons, List.take_nil, List.drop_zero, List.drop_succ_cons, List.drop_nil, List.getElem?_cons_zero, List.getElem?_cons_succ, List.getElem?_map, Nat.reduceAdd, Nat.reduceLeDiff, Nat.add_eq_zero_iff, and_self, Nat.zero_add, Nat.add_zero, Nat.mul_one, Nat.one_mul, List.flatten_cons, List.flatten_nil, *]) | (simp only [zgoO, zgoG, zO_nil, zthen_normal, zgoC]) | (with_reducible apply And.intro) | (with_reducible intro _))
    · have hk := k0.out hz
      have fin : ∀ X, Fin H (.tuple [.nil, Z64 E]) (H ++ X) K := fun X => Fin.trunc (Mods.ext H X) rfl (by rw [List.take_left]; exact hk)
      clear hk k0 k1
      repeat' (first | (simp only [zmPack, zfree, owners, Nat.reduceLT, List.filter_cons, List.filter_nil, List.contains_cons, List.contains_nil, Nat.reduceBEq, Bool.or_false, Bool.or_true, Bool.false_or, Bool.true_or, BEq.rfl, chunk, setAt, List.lookup_cons, List.lookup_nil, ZV.val.injEq, ZV.ptr.injEq, ZV.own.injEq, ZV.fz.injEq, ZV.func.injEq, ZV.tuple.injEq, ZV.agg.injEq, ZB.box.injEq, ZB.grow.injEq, Bool.not_eq_false', Prod.mk.injEq, and_assoc, decide_false, decide_true, Bool.not_false, Bool.not_true, Bool.true_eq_false, Bool.false_eq_true, exists_false, Bool.not_eq_false, Bool.not_not, Value.bool.injEq, Value.int.injEq, Option.some.injEq, exists_eq_left', exists_eq_left, exists_and_left, exists_and_right, and_true, true_and, decide_eq_true_eq, decide_eq_false_iff_not, if_true, if_false, Bool.not_eq_true', beq_true, beq_false, ne_eq, not_true_eq_false, not_false_eq_true, reduceCtorEq, List.getD_cons_zero, List.getD_cons_succ, List.getD_nil, List.map_cons, List.map_nil, List.append_nil, Nat.reduceEqDiff, reduceIte, ite_true, ite_false, or_true, true_or, or_false, false_or, true_imp_iff, false_imp_iff, implies_true, imp_false, and_self, imp_self, and_false, false_and, forall_const, take_map_all, Nat.le_refl, Nat.reduceMul, Nat.reduceSub, List.length_cons, List.length_nil, List.length_map, List.length_set, List.all_cons, List.all_nil, Bool.and_self, Option.map_none, Option.map_some, List.set_cons_zero, List.set_cons_succ, Nat.lt_add_one, List.append_assoc, List.cons_append, List.nil_append, List.append_nil, List.length_append, List.take_zero, List.take_succ_cons, List.take_nil, List.drop_zero, List.drop_succ_cons, List.drop_nil, List.getElem?_cons_zero, List.getElem?_cons_succ, List.getElem?_map, Nat.reduceAdd, Nat.reduceLeDiff, Nat.add_eq_zero_iff, and_self, Nat.zero_add, Nat.add_zero, Nat.mul_one, Nat.one_mul, List.flatten_cons, List.flatten_nil, *]) | (simp only [zgoO, zgoG, zO_nil, zthen_normal, zgoC]) | (with_reducible apply And.intro) | (with_reducible intro _))
end Go.Proofs.Ytpmmiaadfnildaa
