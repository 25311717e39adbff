/-
  words' writer in ZM: a value, values.
-/
import Derived.Test.YtpmmiaadfnildaaWoA
namespace Go.Proofs.Ytpmmiaadfnildaa
open Go Go.RowKit
set_option linter.unusedVariables false
set_option linter.unusedSimpArgs false
variable {tb : List (FuncId × Bool)} {L : Nat → Bool} {H : ZH} {K : ZV → ZH → Prop}
theorem u_refs {n : Nat} {l : List Int} : (l.map eU).flatten.all (refs1 n) = true := by
  induction l with
  | nil => rfl
  | cons a l ih => rw [List.map_cons, List.flatten_cons, List.all_append, ih]; rfl
theorem fin_wr {i j g g' : Nat} {out out' : List Int} {e e' : Int} {X : ZH} (w : WOk H L i j) (hK : K (.tuple []) (wrH H i j g' out' e')) : Fin (wrH H i j g out e) (.tuple []) (wrH H i j g' out' e' ++ X) K := by
  have hi : i < (wrH H i j g out e).length := by rw [wr_len]; exact w.hi
  have hj : j < (wrH H i j g out e).length := by rw [wr_len]; exact w.hj
  have eq : wrH H i j g' out' e' ++ X = (((wrH H i j g out e) ++ X).set j (.grow g' 1 (out'.map eU))).set i (.box [.own j g' 0 out'.length false, Z64 e']) := by
    rw [List.set_append_left _ _ hj, List.set_append_left _ _ (by rw [List.length_set]; exact hi), wr_push w]
  refine Fin.trunc ?_ rfl ?_
  · rw [eq]
    refine Mods.set (Mods.set (Mods.ext _ X) ?_) ?_
    · exact u_refs
    · simp only [refsB, List.all_cons, List.all_nil, refs1, Bool.and_true, decide_eq_true_eq]
      exact hj
  · rw [List.take_append_of_le_length (by rw [wr_len, wr_len]; exact Nat.le_refl _), List.take_of_length_le (by rw [wr_len, wr_len]; exact Nat.le_refl _)]
    exact hK
/-- The writer's state behind a value. -/
def eNext (e k n : Int) : Int := if e = 0 then boxE k n else e
theorem value_z {i j g : Nat} {out : List Int} {e k n : Int} (w : WOk H L i j) (hlen : out.length + 1 ≤ 1000000) (hK : K (.tuple []) (wrH H i j (g + 1) (out ++ [boxW k n]) (eNext e k n))) :
    ZC (boxX tb) (cFunc Try.prog) 51 [.ptr i 0, .agg [Z64 k, Z64 n]] L (wrH H i j g out e) K := by
  refine ZC.enter Gh.no (boxX_none (by decide)) f_wo_value (by simp) ?_
  simp only [c_wo_value]
  obtain ⟨W, hW⟩ : ∃ W, W = wrH H i j g out e := ⟨_, rfl⟩
  have HKK := Lib.hid hK
  rw [← hW]
  have HW := Lib.hid hW
  clear hW hK
  repeat' (first | (simp only [zmPack, zfree, owners, Nat.reduceLT, List.filter_cons, List.filter_nil, List.contains_cons, List.contains_nil, Nat.reduceBEq, Bool.or_false, Bool.or_true, Bool.false_or, Bool.true_or, BEq.rfl, chunk, setAt, List.lookup_cons, List.lookup_nil, ZV.val.injEq, ZV.ptr.injEq, ZV.own.injEq, ZV.fz.injEq, ZV.func.injEq, ZV.tuple.injEq, ZV.agg.injEq, ZB.box.injEq, ZB.grow.injEq, Bool.not_eq_false', Prod.mk.injEq, and_assoc, decide_false, decide_true, Bool.not_false, Bool.not_true, Bool.true_eq_false, Bool.false_eq_true, exists_false, Bool.not_eq_false, Bool.not_not, Value.bool.injEq, Value.int.injEq, Option.some.injEq, exists_eq_left', exists_eq_left, exists_and_left, exists_and_right, and_true, true_and, decide_eq_true_eq, decide_eq_false_iff_not, if_true, if_false, Bool.not_eq_true', beq_true, beq_false, ne_eq, not_true_eq_false, not_false_eq_true, reduceCtorEq, List.getD_cons_zero, List.getD_cons_succ, List.getD_nil, List.map_cons, List.map_nil, List.append_nil, Nat.reduceEqDiff, reduceIte, ite_true, ite_false, or_true, true_or, or_false, false_or, true_imp_iff, false_imp_iff, implies_true, imp_false, and_self, imp_self, and_false, false_and, forall_const, take_map_all, Nat.le_refl, Nat.reduceMul, Nat.reduceSub, List.length_cons, List.length_nil, List.length_map, List.length_set, List.all_cons, List.all_nil, Bool.and_self, Option.map_none, Option.map_some, List.set_cons_zero, List.set_cons_succ, Nat.lt_add_one, List.append_assoc, List.cons_append, List.nil_append, List.append_nil, List.length_append, List.take_zero, List.take_succ_cons, List.take_nil, List.drop_zero, List.drop_succ_cons, List.drop_nil, List.getElem?_cons_zero, List.getElem?_cons_succ, List.getElem?_map, Nat.reduceAdd, Nat.reduceLeDiff, Nat.add_eq_zero_iff, and_self, Nat.zero_add, Nat.add_zero, Nat.mul_one, Nat.one_mul, List.flatten_cons, List.flatten_nil, *]) | (simp only [zgoO, zgoG, zO_nil, zthen_normal, zgoC]) | (with_reducible apply And.intro) | (with_reducible intro _))
  refine box_z ?_
  have hK := HKK.out
  have hW := HW.out
  have fin := fun (X : ZH) => fin_wr (K := K) (X := X) (g := g) (out := out) (e := e) w hK
  have h1 : ∀ X, (W ++ X)[i]? = some (.box [.own j g 0 out.length false, Z64 e]) := fun X => by rw [hW]; exact H_app (wr_i w) X
  have h2 : ∀ X, (W ++ X)[j]? = some (.grow g 1 (out.map eU)) := fun X => by rw [hW]; exact H_app (wr_j w) X
  have li := w.li
  have lj := w.lj
  have hr : (out.length + 1) * 8 ≤ reach := by unfold reach; omega
  have hi : i < W.length := by rw [hW, wr_len]; exact w.hi
  have hj : j < W.length := by rw [hW, wr_len]; exact w.hj
  have s1 : ∀ X B, (W ++ X).set i B = W.set i B ++ X := fun X B => List.set_append_left _ _ hi
  have s2 : ∀ X B, (W ++ X).set j B = W.set j B ++ X := fun X B => List.set_append_left _ _ hj
  by_cases he : e = 0
  · have hE : eNext e k n = boxE k n := by unfold eNext; rw [if_pos he]
    rw [hE] at fin
    have c1 : ∀ X B, (W.set j B ++ X)[i]? = some (.box [.own j g 0 out.length false, Z64 e]) := fun X B => H_app (by rw [List.getElem?_set, if_neg (Ne.symm w.ne), hW]; exact wr_i w) X
    have c0 : ∀ X B, (W.set i B ++ X)[i]? = some B := fun X B => H_app (by rw [List.getElem?_set]; simp [hi]) X
    have c2 : ∀ X B, (W.set i B ++ X)[j]? = some (.grow g 1 (out.map eU)) := fun X B => H_app (by rw [List.getElem?_set, if_neg w.ne, hW]; exact wr_j w) X
    have s3 : ∀ X B C, (W.set i B ++ X).set j C = (W.set i B).set j C ++ X := fun X B C => List.set_append_left _ _ (by simpa using hj)
    have c3 : ∀ X B C, ((W.set i B).set j C ++ X)[i]? = some B := fun X B C => H_app (by rw [List.getElem?_set, if_neg (Ne.symm w.ne), List.getElem?_set]; simp [hi]) X
    have s4 : ∀ X B C D, ((W.set i B).set j C ++ X).set i D = ((W.set i B).set j C).set i D ++ X := fun X B C D => List.set_append_left _ _ (by simpa using hi)
    have s5 : ((W.set i (.box [.own j g 0 out.length false, Z64 (boxE k n)])).set j (.grow (g + 1) 1 (out.map eU ++ [[.val (.int .u64 (boxW k n))]]))).set i (.box [.own j (g + 1) 0 (out.length + 1) false, Z64 (boxE k n)]) = wrH H i j (g + 1) (out ++ [boxW k n]) (boxE k n) := by
      have q := wr_push (g := g) (g' := g + 1) (out := out) (out' := out ++ [boxW k n]) (e := boxE k n) (e' := boxE k n) w
      rw [List.map_append, List.length_append] at q
      rw [hW, wr_e w]; exact q
    have fin2 : Fin W (.tuple []) (wrH H i j (g + 1) (out ++ [boxW k n]) (boxE k n) ++ [.box [Z64 k, Z64 n]]) K := by rw [hW]; exact fin _
    clear hE hW fin w hK
    subst he
    repeat' (first | (simp only [zmPack, zfree, owners, Nat.reduceLT, List.filter_cons, List.filter_nil, List.contains_cons, List.contains_nil, Nat.reduceBEq, Bool.or_false, Bool.or_true, Bool.false_or, Bool.true_or, BEq.rfl, chunk, setAt, List.lookup_cons, List.lookup_nil, ZV.val.injEq, ZV.ptr.injEq, ZV.own.injEq, ZV.fz.injEq, ZV.func.injEq, ZV.tuple.injEq, ZV.agg.injEq, ZB.box.injEq, ZB.grow.injEq, Bool.not_eq_false', Prod.mk.injEq, and_assoc, decide_false, decide_true, Bool.not_false, Bool.not_true, Bool.true_eq_false, Bool.false_eq_true, exists_false, Bool.not_eq_false, Bool.not_not, Value.bool.injEq, Value.int.injEq, Option.some.injEq, exists_eq_left', exists_eq_left, exists_and_left, exists_and_right, and_true, true_and, decide_eq_true_eq, decide_eq_false_iff_not, if_true, if_false, Bool.not_eq_true', beq_true, beq_false, ne_eq, not_true_eq_false, not_false_eq_true, reduceCtorEq, List.getD_cons_zero, List.getD_cons_succ, List.getD_nil, List.map_cons, List.map_nil, List.append_nil, Nat.reduceEqDiff, reduceIte, ite_true, ite_false, or_true, true_or, or_false, false_or, true_imp_iff, false_imp_iff, implies_true, imp_false, and_self, imp_self, and_false, false_and, forall_const, take_map_all, Nat.le_refl, Nat.reduceMul, Nat.reduceSub, List.length_cons, List.length_nil, List.length_map, List.length_set, List.all_cons, List.all_nil, Bool.and_self, Option.map_none, Option.map_some, List.set_cons_zero, List.set_cons_succ, Nat.lt_add_one, List.append_assoc, List.cons_append, List.nil_append, List.append_nil, List.length_append, List.take_zero, List.take_succ_cons, List.take_nil, List.drop_zero, List.drop_succ_cons, List.drop_nil, List.getElem?_cons_zero, List.getElem?_cons_succ, List.getElem?_map, Nat.reduceAdd, Nat.reduceLeDiff, Nat.add_eq_zero_iff, and_self, Nat.zero_add, Nat.add_zero, Nat.mul_one, Nat.one_mul, List.flatten_cons, List.flatten_nil, zresults, zress, h1, h2, li, lj, hr, s1, s2, s3, s4, c1, c0, c2, c3, s5, *]) | (simp only [zgoO, zgoG, zO_nil, zthen_normal, zgoC]) | (with_reducible apply And.intro) | (with_reducible intro _))
    trace_state
  · have hE : eNext e k n = e := by unfold eNext; rw [if_neg he]
    rw [hE] at fin
    have c1 : ∀ X B, (W.set j B ++ X)[i]? = some (.box [.own j g 0 out.length false, Z64 e]) := fun X B => H_app (by rw [List.getElem?_set, if_neg (Ne.symm w.ne), hW]; exact wr_i w) X
    have s3 : ∀ X B C, (W.set j B ++ X).set i C = (W.set j B).set i C ++ X := fun X B C => List.set_append_left _ _ (by simpa using hi)
    have s5 : (W.set j (.grow (g + 1) 1 (out.map eU ++ [[.val (.int .u64 (boxW k n))]]))).set i (.box [.own j (g + 1) 0 (out.length + 1) false, Z64 e]) = wrH H i j (g + 1) (out ++ [boxW k n]) e := by
      have q := wr_push (g := g) (g' := g + 1) (out := out) (out' := out ++ [boxW k n]) (e := e) (e' := e) w
      rw [List.map_append, List.length_append] at q
      rw [hW]; exact q
    have fin2 : Fin W (.tuple []) (wrH H i j (g + 1) (out ++ [boxW k n]) e ++ [.box [Z64 k, Z64 n]]) K := by rw [hW]; exact fin _
    clear hE hW fin w hK
    repeat' (first | (simp only [zmPack, zfree, owners, Nat.reduceLT, List.filter_cons, List.filter_nil, List.contains_cons, List.contains_nil, Nat.reduceBEq, Bool.or_false, Bool.or_true, Bool.false_or, Bool.true_or, BEq.rfl, chunk, setAt, List.lookup_cons, List.lookup_nil, ZV.val.injEq, ZV.ptr.injEq, ZV.own.injEq, ZV.fz.injEq, ZV.func.injEq, ZV.tuple.injEq, ZV.agg.injEq, ZB.box.injEq, ZB.grow.injEq, Bool.not_eq_false', Prod.mk.injEq, and_assoc, decide_false, decide_true, Bool.not_false, Bool.not_true, Bool.true_eq_false, Bool.false_eq_true, exists_false, Bool.not_eq_false, Bool.not_not, Value.bool.injEq, Value.int.injEq, Option.some.injEq, exists_eq_left', exists_eq_left, exists_and_left, exists_and_right, and_true, true_and, decide_eq_true_eq, decide_eq_false_iff_not, if_true, if_false, Bool.not_eq_true', beq_true, beq_false, ne_eq, not_true_eq_false, not_false_eq_true, reduceCtorEq, List.getD_cons_zero, List.getD_cons_succ, List.getD_nil, List.map_cons, List.map_nil, List.append_nil, Nat.reduceEqDiff, reduceIte, ite_true, ite_false, or_true, true_or, or_false, false_or, true_imp_iff, false_imp_iff, implies_true, imp_false, and_self, imp_self, and_false, false_and, forall_const, take_map_all, Nat.le_refl, Nat.reduceMul, Nat.reduceSub, List.length_cons, List.length_nil, List.length_map, List.length_set, List.all_cons, List.all_nil, Bool.and_self, Option.map_none, Option.map_some, List.set_cons_zero, List.set_cons_succ, Nat.lt_add_one, List.append_assoc, List.cons_append, List.nil_append, List.append_nil, List.length_append, List.take_zero, List.take_succ_cons, List.take_nil, List.drop_zero, List.drop_succ_cons, List.drop_nil, List.getElem?_cons_zero, List.getElem?_cons_succ, List.getElem?_map, Nat.reduceAdd, Nat.reduceLeDiff, Nat.add_eq_zero_iff, and_self, Nat.zero_add, Nat.add_zero, Nat.mul_one, Nat.one_mul, List.flatten_cons, List.flatten_nil, zresults, zress, h1, h2, li, lj, hr, s1, s2, s3, c1, s5, *]) | (simp only [zgoO, zgoG, zO_nil, zthen_normal, zgoC]) | (with_reducible apply And.intro) | (with_reducible intro _))
    trace_state
end Go.Proofs.Ytpmmiaadfnildaa
