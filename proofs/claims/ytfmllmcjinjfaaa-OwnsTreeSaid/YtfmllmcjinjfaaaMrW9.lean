/-
  AM's code of functions, written by am/amprint.lean.
-/
import Derived.KernelRfl
import Derived.Lib.Hide
import Derived.Test.YtfmllmcjinjfaaaMrW6
import Derived.Test.YtfmllmcjinjfaaaMrW8
namespace Go.Proofs.Ytfmllmcjinjfaaa
open Go Go.RowKit
set_option linter.unusedVariables false
def c_wk_check : ACode := .seq (.ops [⟨(some 1), .box 2 (.tmp 0), none, true⟩,
 ⟨(some 2), .mv (.av (.val (.int .i64 0))), none, true⟩])
 (.seq (.ops [⟨(some 10), .fieldAddr 0 (.tmp 1), none, true⟩,
 ⟨(some 11), .load none (.tmp 10), none, true⟩,
 ⟨(some 12), .len (.tmp 11), none, true⟩,
 ⟨(some 3), .mv (.tmp 12), none, true⟩])
 (.seq (.seq (.ops [⟨(some 13), .mv (.tmp 3), none, true⟩,
 ⟨(some 14), .bin .gtr (.tmp 13) (.av (.val (.int .i64 100))), none, true⟩,
 ⟨(some 15), .mv (.tmp 14), none, true⟩,
 ⟨(some 16), .fieldAddr 1 (.tmp 1), (some (15, false)), true⟩,
 ⟨(some 17), .load none (.tmp 16), (some (15, false)), true⟩,
 ⟨(some 18), .len (.tmp 17), (some (15, false)), true⟩,
 ⟨(some 19), .bin .gtr (.tmp 18) (.av (.val (.int .i64 100))), (some (15, false)), true⟩,
 ⟨(some 20), .pick (.tmp 15) (.av (.val (.bool true))) (.tmp 19), none, true⟩])
 (.cond (.tmp 20)
 (.seq (.ops [⟨(some 2), .mv (.av (.val (.int .i64 2))), none, true⟩])
 (.ret))
 (.skip)))
 (.seq (.seq (.ops [⟨(some 21), .fieldAddr 0 (.tmp 1), none, true⟩,
 ⟨(some 22), .load none (.tmp 21), none, true⟩,
 ⟨(some 23), .len (.tmp 22), none, true⟩,
 ⟨(some 24), .mv (.av (.val (.int .i64 0))), none, true⟩])
 (rangeCode 0 1 25 24 23 31
 (.seq (.ops [⟨(some 26), .indexAddr 1 (.tmp 22) (.tmp 24), none, true⟩,
 ⟨(some 27), .load none (.tmp 26), none, true⟩,
 ⟨(some 5), .mv (.tmp 27), none, true⟩])
 (.seq (.ops [⟨(some 28), .mv (.tmp 5), none, true⟩,
 ⟨(some 29), .len (.tmp 28), none, true⟩,
 ⟨(some 30), .bin .gtr (.tmp 29) (.av (.val (.int .i64 10))), none, true⟩])
 (.cond (.tmp 30)
 (.seq (.ops [⟨(some 2), .mv (.av (.val (.int .i64 2))), none, true⟩])
 (.ret))
 (.skip))))))
 (.seq (.seq (.ops [⟨(some 32), .fieldAddr 1 (.tmp 1), none, true⟩,
 ⟨(some 33), .load none (.tmp 32), none, true⟩,
 ⟨(some 34), .lits 1 1 [(.val (.slice none 0 0))] [(0, 1, (.tmp 33))], none, true⟩,
 ⟨(some 35), .fieldAddr 0 (.tmp 1), none, true⟩,
 ⟨(some 36), .load none (.tmp 35), none, true⟩,
 ⟨(some 37), .append 1 24 (.tmp 34) (.tmp 36), none, true⟩,
 ⟨(some 38), .len (.tmp 37), none, true⟩,
 ⟨(some 39), .mv (.av (.val (.int .i64 0))), none, true⟩])
 (rangeCode 2 3 40 39 38 54
 (.seq (.ops [⟨(some 41), .indexAddr 1 (.tmp 37) (.tmp 39), none, true⟩,
 ⟨(some 42), .load none (.tmp 41), none, true⟩,
 ⟨(some 7), .mv (.tmp 42), none, true⟩])
 (.seq (.ops [⟨(some 43), .mv (.tmp 7), none, true⟩,
 ⟨(some 44), .len (.tmp 43), none, true⟩,
 ⟨(some 45), .mv (.av (.val (.int .i64 0))), none, true⟩])
 (rangeCode 4 5 46 45 44 53
 (.seq (.ops [⟨(some 47), .indexAddr 1 (.tmp 43) (.tmp 45), none, true⟩,
 ⟨(some 48), .load none (.tmp 47), none, true⟩,
 ⟨(some 9), .mv (.tmp 48), none, true⟩])
 (.seq (.ops [⟨(some 49), .mv (.tmp 9), none, true⟩,
 ⟨(some 50), .mv (.tmp 3), none, true⟩,
 ⟨(some 51), .call (.av (.func 37 [])) [(.tmp 49), (.tmp 50)], none, true⟩,
 ⟨(some 52), .un .not (.tmp 51), none, true⟩])
 (.cond (.tmp 52)
 (.seq (.ops [⟨(some 2), .mv (.av (.val (.int .i64 3))), none, true⟩])
 (.ret))
 (.skip)))))))))
 (.seq (.ops [⟨(some 2), .mv (.av (.val (.int .i64 0))), none, true⟩])
 (.ret))))))
theorem f_wk_check : cFunc Try.prog 22 = some ⟨55, c_wk_check, [.tmp 2]⟩ := by kernel_rfl
def c_wk_in : ACode := .seq (.ops [⟨(some 4), .mv (.av (.val (.bool false))), none, true⟩])
 (.seq (.ops [⟨(some 5), .mv (.tmp 0), none, true⟩,
 ⟨(some 6), .bin .geq (.tmp 5) (.av (.val (.int .i64 0))), none, true⟩,
 ⟨(some 7), .mv (.tmp 6), none, true⟩,
 ⟨(some 8), .mv (.tmp 0), (some (7, true)), true⟩,
 ⟨(some 9), .mv (.tmp 1), (some (7, true)), true⟩,
 ⟨(some 10), .bin .lss (.tmp 8) (.tmp 9), (some (7, true)), true⟩,
 ⟨(some 11), .pick (.tmp 7) (.tmp 10) (.av (.val (.bool false))), none, true⟩,
 ⟨(some 4), .mv (.tmp 11), none, true⟩])
 (.ret))
theorem f_wk_in : cFunc Try.prog 37 = some ⟨12, c_wk_in, [.tmp 4]⟩ := by kernel_rfl
end Go.Proofs.Ytfmllmcjinjfaaa

namespace Go.Proofs.Ytfmllmcjinjfaaa
open Go Go.RowKit
set_option linter.unusedVariables false
set_option linter.unusedSimpArgs false
variable {tb : List (FuncId × Bool)} {fl : Nat → Bool} {h : Heap} {K : AV → Heap → Prop}

instance (N : Nat) (x : Int) : Decidable (0 ≤ x ∧ x < (N : Int)) := inferInstanceAs (Decidable (_ ∧ _))
def checkE (has : List (List Int)) (roots : List Int) : Int :=
  if has.length > 100 ∨ roots.length > 100 then 2 else if ∃ l ∈ has, l.length > 10 then 2 else if ∀ l ∈ roots :: has, ∀ x ∈ l, 0 ≤ x ∧ x < (has.length : Int) then 0 else 3

def PreIn (N : Nat) (l : List Int) (j : Nat) : Prop := ∀ i (hi : i < l.length), i < j → 0 ≤ l[i] ∧ l[i] < (N : Int)
theorem PreIn.zero {N : Nat} {l : List Int} : PreIn N l 0 := fun i _ h => absurd h (by omega)
theorem PreIn.succ {N : Nat} {l : List Int} {j : Nat} (h : PreIn N l j) (hj : j < l.length) (hx : 0 ≤ l[j] ∧ l[j] < (N : Int)) : PreIn N l (j + 1) := fun i hi hij => by
  by_cases e : i = j
  · subst e; exact hx
  · exact h i hi (by omega)
theorem PreIn.all {N : Nat} {l : List Int} (h : PreIn N l l.length) : ∀ x ∈ l, 0 ≤ x ∧ x < (N : Int) := fun x hx => by
  obtain ⟨i, hi, rfl⟩ := List.getElem_of_mem hx
  exact h i hi hi
def PreShort (ls : List (List Int)) (j : Nat) : Prop := ∀ i (hi : i < ls.length), i < j → ls[i].length ≤ 10
def PreAll (N : Nat) (ls : List (List Int)) (j : Nat) : Prop := ∀ i (hi : i < ls.length), i < j → ∀ x ∈ ls[i], 0 ≤ x ∧ x < (N : Int)
theorem PreAll.succ {N : Nat} {ls : List (List Int)} {j : Nat} (h : PreAll N ls j) (hj : j < ls.length) (hx : PreIn N ls[j] ls[j].length) : PreAll N ls (j + 1) := fun i hi hij => by
  by_cases e : i = j
  · subst e; exact hx.all
  · exact h i hi (by omega)
theorem in_am {n many : Int} (hK : K (BV (decide (0 ≤ n ∧ n < many))) h) : AC (constX tb) (cFunc Try.prog) 37 [I64 n, I64 many] fl h K := by
  refine AC.enter rfl f_wk_in (by simp) ?_
  simp only [c_wk_in]
  repeat' (first | (simp only [AW_next, AW_ops, AW_opsD, AW_cond, AW_block, AW_exit, AW_ret, AW_skip, AW_scope, AO_nil, AO_next, AO_nextW, wantB_bool, wantK_some, then_normal, then_exit, then_ret, inBlk_normal, inBlk_exit, inBlk_ret, A1_mv, A1_pick, A1_box, A1_zero, A1_build, A1_lits, A1_load, shallow_none, A1_store, A1_nilCheckI, nilOk_ptr, nilOk_func, A1_bin, A1_eqNil, A1_eqBool, A1_eqAgg, A1_un, A1_conv, A1_field, A1_fieldAddr, A1_indexAddr, A1_indexArr, A1_index, A1_slice, A1_mkSlice, A1_extract, A1_func, A1_call, callee_func, callee_bfunc, A1_append, A1_len, A1_minmax, put_some, put_none, upd_at, ev_tmp, ev_av, bin_lss, bin_leq, bin_gtr, bin_geq, bin_eql, bin_neq, bin_add, bin_sub, bin_mul, un_not, natOf_nat, Bool.not_eq_false', Prod.mk.injEq, and_assoc, decide_false, decide_true, Bool.not_false, Bool.not_true, Bool.true_eq_false, Bool.false_eq_true, exists_false, Bool.not_eq_false, Bool.not_not, AV.val.injEq, AV.ptr.injEq, AV.slice.injEq, AV.func.injEq, AV.tuple.injEq, AV.agg.injEq, Value.bool.injEq, Value.int.injEq, Option.some.injEq, exists_eq_left', exists_eq_left, exists_and_left, exists_and_right, and_true, true_and, decide_eq_true_eq, decide_eq_false_iff_not, if_true, if_false, Bool.not_eq_true', beq_true, beq_false, ne_eq, not_true_eq_false, not_false_eq_true, reduceCtorEq, List.getD_cons_zero, List.getD_cons_succ, List.map_cons, List.map_nil, List.append_nil, Nat.reduceEqDiff, reduceIte, ite_true, ite_false, or_true, true_or, or_false, false_or, resA, resultsA, true_imp_iff, false_imp_iff, implies_true, imp_false, and_self, imp_self, and_false, false_and, forall_const, cell_val, cell_ptr, cell_slice, cell_func, cell_hole, cells_agg, cells_val, cells_ptr, cells_slice, cells_func, cells_hole, cells_cell, List.length_cons, List.length_nil, List.all_cons, List.all_nil, Bool.and_self, ldA, List.mapM_cons, List.mapM_nil, Option.bind_eq_bind, Option.bind_some, Option.pure_def, Option.map_none, Option.map_some, List.set_cons_zero, List.set_cons_succ, Nat.lt_add_one, List.append_assoc, List.cons_append, List.nil_append, List.append_nil, List.length_append, rd1_n0, rd1_nK, rd1_c0, rd1_cS, rd_n0, rd_nK, rd_c0, rd_cS, fillA, List.take_zero, List.take_succ_cons, List.take_nil, List.drop_zero, List.drop_succ_cons, List.drop_nil, List.getElem?_cons_zero, List.getElem?_cons_succ, Nat.reduceAdd, Nat.reduceLeDiff, Nat.add_eq_zero_iff, and_self, Nat.zero_add, Nat.add_zero, Nat.mul_one, *]) | (simp only [goO, AO_nil, then_normal, goC]) | (with_reducible apply And.intro) | (with_reducible intro _))
  all_goals (simp_all)

theorem check_am {v1 v2 : AV} {has : List (List Int)} {roots : List Int} (h1 : LL h v1 has) (h2 : IL h v2 roots) (hK : ∀ e, K (I64 (checkE has roots)) (h ++ e)) :
    AC (constX tb) (cFunc Try.prog) 22 [.agg [v1, v2]] fl h K := by
  refine AC.enter rfl f_wk_check (by simp) ?_
  have hl1 := h1.len
  have hl2 := h2.len
  have hc1 := h1.cell
  have hc2 := h2.cell
  by_cases hL : has.length > 100 ∨ roots.length > 100
  · have hC : checkE has roots = 2 := if_pos hL
    have hK := hK [some [v1, v2]]
    rw [hC] at hK
    simp only [c_wk_check]
    repeat' (first | (simp only [AW_next, AW_ops, AW_opsD, AW_cond, AW_block, AW_exit, AW_ret, AW_skip, AW_scope, AO_nil, AO_next, AO_nextW, wantB_bool, wantK_some, then_normal, then_exit, then_ret, inBlk_normal, inBlk_exit, inBlk_ret, A1_mv, A1_pick, A1_box, A1_zero, A1_build, A1_lits, A1_load, shallow_none, A1_store, A1_nilCheckI, nilOk_ptr, nilOk_func, A1_bin, A1_eqNil, A1_eqBool, A1_eqAgg, A1_un, A1_conv, A1_field, A1_fieldAddr, A1_indexAddr, A1_indexArr, A1_index, A1_slice, A1_mkSlice, A1_extract, A1_func, A1_call, callee_func, callee_bfunc, A1_append, A1_len, A1_minmax, put_some, put_none, upd_at, ev_tmp, ev_av, bin_lss, bin_leq, bin_gtr, bin_geq, bin_eql, bin_neq, bin_add, bin_sub, bin_mul, un_not, natOf_nat, Bool.not_eq_false', Prod.mk.injEq, and_assoc, decide_false, decide_true, Bool.not_false, Bool.not_true, Bool.true_eq_false, Bool.false_eq_true, exists_false, Bool.not_eq_false, Bool.not_not, AV.val.injEq, AV.ptr.injEq, AV.slice.injEq, AV.func.injEq, AV.tuple.injEq, AV.agg.injEq, Value.bool.injEq, Value.int.injEq, Option.some.injEq, exists_eq_left', exists_eq_left, exists_and_left, exists_and_right, and_true, true_and, decide_eq_true_eq, decide_eq_false_iff_not, if_true, if_false, Bool.not_eq_true', beq_true, beq_false, ne_eq, not_true_eq_false, not_false_eq_true, reduceCtorEq, List.getD_cons_zero, List.getD_cons_succ, List.map_cons, List.map_nil, List.append_nil, Nat.reduceEqDiff, reduceIte, ite_true, ite_false, or_true, true_or, or_false, false_or, resA, resultsA, true_imp_iff, false_imp_iff, implies_true, imp_false, and_self, imp_self, and_false, false_and, forall_const, cell_val, cell_ptr, cell_slice, cell_func, cell_hole, cells_agg, cells_val, cells_ptr, cells_slice, cells_func, cells_hole, cells_cell, List.length_cons, List.length_nil, List.all_cons, List.all_nil, Bool.and_self, ldA, List.mapM_cons, List.mapM_nil, Option.bind_eq_bind, Option.bind_some, Option.pure_def, Option.map_none, Option.map_some, List.set_cons_zero, List.set_cons_succ, Nat.lt_add_one, List.append_assoc, List.cons_append, List.nil_append, List.append_nil, List.length_append, rd1_n0, rd1_nK, rd1_c0, rd1_cS, rd_n0, rd_nK, rd_c0, rd_cS, fillA, List.take_zero, List.take_succ_cons, List.take_nil, List.drop_zero, List.drop_succ_cons, List.drop_nil, List.getElem?_cons_zero, List.getElem?_cons_succ, Nat.reduceAdd, Nat.reduceLeDiff, Nat.add_eq_zero_iff, and_self, Nat.zero_add, Nat.add_zero, Nat.mul_one, hl1, hl2, *]) | (simp only [goO, AO_nil, then_normal, goC]) | (with_reducible apply And.intro) | (with_reducible intro _))
    all_goals (exfalso; omega)
  · have b0 : blk (h ++ [some [v1, v2]]) h.length = some [v1, v2] := blk_app_new
    have e1 : ¬ (100 : Int) < (has.length : Int) := by omega
    have e2 : ¬ (100 : Int) < (roots.length : Int) := by omega
    clear hL
    simp only [c_wk_check]
    repeat' (first | (simp only [AW_next, AW_ops, AW_opsD, AW_cond, AW_block, AW_exit, AW_ret, AW_skip, AW_scope, AO_nil, AO_next, AO_nextW, wantB_bool, wantK_some, then_normal, then_exit, then_ret, inBlk_normal, inBlk_exit, inBlk_ret, A1_mv, A1_pick, A1_box, A1_zero, A1_build, A1_lits, A1_load, shallow_none, A1_store, A1_nilCheckI, nilOk_ptr, nilOk_func, A1_bin, A1_eqNil, A1_eqBool, A1_eqAgg, A1_un, A1_conv, A1_field, A1_fieldAddr, A1_indexAddr, A1_indexArr, A1_index, A1_slice, A1_mkSlice, A1_extract, A1_func, A1_call, callee_func, callee_bfunc, A1_append, A1_len, A1_minmax, put_some, put_none, upd_at, ev_tmp, ev_av, bin_lss, bin_leq, bin_gtr, bin_geq, bin_eql, bin_neq, bin_add, bin_sub, bin_mul, un_not, natOf_nat, Bool.not_eq_false', Prod.mk.injEq, and_assoc, decide_false, decide_true, Bool.not_false, Bool.not_true, Bool.true_eq_false, Bool.false_eq_true, exists_false, Bool.not_eq_false, Bool.not_not, AV.val.injEq, AV.ptr.injEq, AV.slice.injEq, AV.func.injEq, AV.tuple.injEq, AV.agg.injEq, Value.bool.injEq, Value.int.injEq, Option.some.injEq, exists_eq_left', exists_eq_left, exists_and_left, exists_and_right, and_true, true_and, decide_eq_true_eq, decide_eq_false_iff_not, if_true, if_false, Bool.not_eq_true', beq_true, beq_false, ne_eq, not_true_eq_false, not_false_eq_true, reduceCtorEq, List.getD_cons_zero, List.getD_cons_succ, List.map_cons, List.map_nil, List.append_nil, Nat.reduceEqDiff, reduceIte, ite_true, ite_false, or_true, true_or, or_false, false_or, resA, resultsA, true_imp_iff, false_imp_iff, implies_true, imp_false, and_self, imp_self, and_false, false_and, forall_const, cell_val, cell_ptr, cell_slice, cell_func, cell_hole, cells_agg, cells_val, cells_ptr, cells_slice, cells_func, cells_hole, cells_cell, List.length_cons, List.length_nil, List.all_cons, List.all_nil, Bool.and_self, ldA, List.mapM_cons, List.mapM_nil, Option.bind_eq_bind, Option.bind_some, Option.pure_def, Option.map_none, Option.map_some, List.set_cons_zero, List.set_cons_succ, Nat.lt_add_one, List.append_assoc, List.cons_append, List.nil_append, List.append_nil, List.length_append, rd1_n0, rd1_nK, rd1_c0, rd1_cS, rd_n0, rd_nK, rd_c0, rd_cS, fillA, List.take_zero, List.take_succ_cons, List.take_nil, List.drop_zero, List.drop_succ_cons, List.drop_nil, List.getElem?_cons_zero, List.getElem?_cons_succ, Nat.reduceAdd, Nat.reduceLeDiff, Nat.add_eq_zero_iff, and_self, Nat.zero_add, Nat.add_zero, Nat.mul_one, rd1_of b0, hl1, hl2, List.getElem?_cons_zero, List.getElem?_cons_succ, *]) | (simp only [goO, AO_nil, then_normal, goC]) | (with_reducible apply And.intro) | (with_reducible intro _))
    have hLB : has.length < 1000 := by omega
    have hRB : roots.length < 1000 := by omega
    refine AW.named fun S hS => ?_
    have g1 : S 1 = .ptr h.length 0 := by rw [hS]; rfl
    have g3 : S 3 = I64 has.length := by rw [hS]; rfl
    have g22 : S 22 = v1 := by rw [hS]; rfl
    have g23 : S 23 = I64 has.length := by rw [hS]; rfl
    have g24 : S 24 = I64 (0 : Nat) := by rw [hS]; rfl
    clear hS
    refine AW_for has.length (by omega) g24 g23 rfl rfl (by decide) (fun k s' h' => h' = h ++ [some [v1, v2]] ∧ PreShort has k) ⟨rfl, fun i hi hk => by omega⟩ ?_ ?_
    · rintro k s' h' hk ⟨rfl, hle⟩ hi hl hs
      have f22 := (hs 22 rfl).trans g22
      clear hs g1 g3 g22 g23 g24
      obtain ⟨id, off, lb, ex, u, rfl, hrd, hu⟩ := h1.atE hk
      have hul := hu.len
      repeat' (first | (simp only [AW_next, AW_ops, AW_opsD, AW_cond, AW_block, AW_exit, AW_ret, AW_skip, AW_scope, AO_nil, AO_next, AO_nextW, wantB_bool, wantK_some, then_normal, then_exit, then_ret, inBlk_normal, inBlk_exit, inBlk_ret, A1_mv, A1_pick, A1_box, A1_zero, A1_build, A1_lits, A1_load, shallow_none, A1_store, A1_nilCheckI, nilOk_ptr, nilOk_func, A1_bin, A1_eqNil, A1_eqBool, A1_eqAgg, A1_un, A1_conv, A1_field, A1_fieldAddr, A1_indexAddr, A1_indexArr, A1_index, A1_slice, A1_mkSlice, A1_extract, A1_func, A1_call, callee_func, callee_bfunc, A1_append, A1_len, A1_minmax, put_some, put_none, upd_at, ev_tmp, ev_av, bin_lss, bin_leq, bin_gtr, bin_geq, bin_eql, bin_neq, bin_add, bin_sub, bin_mul, un_not, natOf_nat, Bool.not_eq_false', Prod.mk.injEq, and_assoc, decide_false, decide_true, Bool.not_false, Bool.not_true, Bool.true_eq_false, Bool.false_eq_true, exists_false, Bool.not_eq_false, Bool.not_not, AV.val.injEq, AV.ptr.injEq, AV.slice.injEq, AV.func.injEq, AV.tuple.injEq, AV.agg.injEq, Value.bool.injEq, Value.int.injEq, Option.some.injEq, exists_eq_left', exists_eq_left, exists_and_left, exists_and_right, and_true, true_and, decide_eq_true_eq, decide_eq_false_iff_not, if_true, if_false, Bool.not_eq_true', beq_true, beq_false, ne_eq, not_true_eq_false, not_false_eq_true, reduceCtorEq, List.getD_cons_zero, List.getD_cons_succ, List.map_cons, List.map_nil, List.append_nil, Nat.reduceEqDiff, reduceIte, ite_true, ite_false, or_true, true_or, or_false, false_or, resA, resultsA, true_imp_iff, false_imp_iff, implies_true, imp_false, and_self, imp_self, and_false, false_and, forall_const, cell_val, cell_ptr, cell_slice, cell_func, cell_hole, cells_agg, cells_val, cells_ptr, cells_slice, cells_func, cells_hole, cells_cell, List.length_cons, List.length_nil, List.all_cons, List.all_nil, Bool.and_self, ldA, List.mapM_cons, List.mapM_nil, Option.bind_eq_bind, Option.bind_some, Option.pure_def, Option.map_none, Option.map_some, List.set_cons_zero, List.set_cons_succ, Nat.lt_add_one, List.append_assoc, List.cons_append, List.nil_append, List.append_nil, List.length_append, rd1_n0, rd1_nK, rd1_c0, rd1_cS, rd_n0, rd_nK, rd_c0, rd_cS, fillA, List.take_zero, List.take_succ_cons, List.take_nil, List.drop_zero, List.drop_succ_cons, List.drop_nil, List.getElem?_cons_zero, List.getElem?_cons_succ, Nat.reduceAdd, Nat.reduceLeDiff, Nat.add_eq_zero_iff, and_self, Nat.zero_add, Nat.add_zero, Nat.mul_one, hrd, hul, *]) | (simp only [goO, AO_nil, then_normal, goC]) | (with_reducible apply And.intro) | (with_reducible intro _))
      · rename_i h10
        have := hK [some [.slice id off has.length lb ex 1, v2]]
        have hC : checkE has roots = 2 := by
          unfold checkE
          rw [if_neg (by omega), if_pos ⟨has[k], List.getElem_mem _, by omega⟩]
        rw [hC] at this; exact this
      · rename_i h10
        intro i hi' hik
        by_cases e : i = k
        · subst e; omega
        · exact hle i hi' (by omega)
    · rintro s' h' ⟨rfl, hle⟩ hs
      have f1 := (hs 1 rfl).trans g1
      have f3 := (hs 3 rfl).trans g3
      clear hs g1 g3 g22 g23 g24
      obtain ⟨vs, hvl, hvs, hvi⟩ := h1
      have hrow : ∀ e, rowOf (h ++ e) 1 v1 = some (has.length, vs) := fun e => (hvs.ext e).row
      have hc0 : LL (h ++ [some [v1, v2], some [v2]]) v1 has := LL.ext _ ⟨vs, hvl, hvs, hvi⟩
      obtain ⟨va, ea, happ, hsa, _⟩ := append_full (fl := fl) (h := h ++ [some [v1, v2], some [v2]]) (k := 1) (bytes := 24) (x := .slice (h.length + 1) 0 1 1 true 1) (old := [v2]) (n0 := 1) (n := has.length) (cs := vs)
        ⟨rfl, .inr ⟨h.length + 1, 0, 1, true, [v2], rfl, Nat.le_refl _, by rw [blk_atK]; rfl, by simp, by simp⟩⟩ (.inr ⟨_, _, rfl⟩) (by omega) (by unfold reach; omega)
      have hall : LL (h ++ [some [v1, v2], some [v2]] ++ ea) va (roots :: has) := by
        refine ⟨v2 :: vs, by simp [hvl], by simpa [Nat.add_comm] using hsa, fun i hi hv => ?_⟩
        cases i with
        | zero => exact (h2.ext _).ext _
        | succ i =>
          simp only [List.getElem_cons_succ]
          exact ((hvi i (by simpa using hi) (by simpa using hv)).ext _).ext _
      obtain ⟨all, hal⟩ : ∃ all, all = roots :: has := ⟨_, rfl⟩
      rw [← hal] at hall
      have hL := hall.len
      have hN : all.length < 1000 := by rw [hal]; simp; omega
      obtain ⟨H, hH⟩ : ∃ H, H = h ++ [some [v1, v2], some [v2]] ++ ea := ⟨_, rfl⟩
      rw [← hH] at happ hall hsa
      have hKH : K (I64 (checkE has roots)) H := by rw [hH, List.append_assoc]; exact hK _
      clear hH
      have HAL := Lib.hid hal
      clear hal
      repeat' (first | (simp only [AW_next, AW_ops, AW_opsD, AW_cond, AW_block, AW_exit, AW_ret, AW_skip, AW_scope, AO_nil, AO_next, AO_nextW, wantB_bool, wantK_some, then_normal, then_exit, then_ret, inBlk_normal, inBlk_exit, inBlk_ret, A1_mv, A1_pick, A1_box, A1_zero, A1_build, A1_lits, A1_load, shallow_none, A1_store, A1_nilCheckI, nilOk_ptr, nilOk_func, A1_bin, A1_eqNil, A1_eqBool, A1_eqAgg, A1_un, A1_conv, A1_field, A1_fieldAddr, A1_indexAddr, A1_indexArr, A1_index, A1_slice, A1_mkSlice, A1_extract, A1_func, A1_call, callee_func, callee_bfunc, A1_append, A1_len, A1_minmax, put_some, put_none, upd_at, ev_tmp, ev_av, bin_lss, bin_leq, bin_gtr, bin_geq, bin_eql, bin_neq, bin_add, bin_sub, bin_mul, un_not, natOf_nat, Bool.not_eq_false', Prod.mk.injEq, and_assoc, decide_false, decide_true, Bool.not_false, Bool.not_true, Bool.true_eq_false, Bool.false_eq_true, exists_false, Bool.not_eq_false, Bool.not_not, AV.val.injEq, AV.ptr.injEq, AV.slice.injEq, AV.func.injEq, AV.tuple.injEq, AV.agg.injEq, Value.bool.injEq, Value.int.injEq, Option.some.injEq, exists_eq_left', exists_eq_left, exists_and_left, exists_and_right, and_true, true_and, decide_eq_true_eq, decide_eq_false_iff_not, if_true, if_false, Bool.not_eq_true', beq_true, beq_false, ne_eq, not_true_eq_false, not_false_eq_true, reduceCtorEq, List.getD_cons_zero, List.getD_cons_succ, List.map_cons, List.map_nil, List.append_nil, Nat.reduceEqDiff, reduceIte, ite_true, ite_false, or_true, true_or, or_false, false_or, resA, resultsA, true_imp_iff, false_imp_iff, implies_true, imp_false, and_self, imp_self, and_false, false_and, forall_const, cell_val, cell_ptr, cell_slice, cell_func, cell_hole, cells_agg, cells_val, cells_ptr, cells_slice, cells_func, cells_hole, cells_cell, List.length_cons, List.length_nil, List.all_cons, List.all_nil, Bool.and_self, ldA, List.mapM_cons, List.mapM_nil, Option.bind_eq_bind, Option.bind_some, Option.pure_def, Option.map_none, Option.map_some, List.set_cons_zero, List.set_cons_succ, Nat.lt_add_one, List.append_assoc, List.cons_append, List.nil_append, List.append_nil, List.length_append, rd1_n0, rd1_nK, rd1_c0, rd1_cS, rd_n0, rd_nK, rd_c0, rd_cS, fillA, List.take_zero, List.take_succ_cons, List.take_nil, List.drop_zero, List.drop_succ_cons, List.drop_nil, List.getElem?_cons_zero, List.getElem?_cons_succ, Nat.reduceAdd, Nat.reduceLeDiff, Nat.add_eq_zero_iff, and_self, Nat.zero_add, Nat.add_zero, Nat.mul_one, hrow, happ, hL, *]) | (simp only [goO, AO_nil, then_normal, goC]) | (with_reducible apply And.intro) | (with_reducible intro _))
      refine AW.named fun S hS => ?_
      have g3 : S 3 = I64 has.length := by rw [hS]; simp only [upd_at, reduceIte, Nat.reduceEqDiff, f3]
      have g37 : S 37 = va := by rw [hS]; rfl
      have g38 : S 38 = I64 all.length := by rw [hS]; rfl
      have g39 : S 39 = I64 (0 : Nat) := by rw [hS]; rfl
      clear hS
      refine AW_for all.length (by omega) g39 g38 rfl rfl (by decide) (fun k s' h' => h' = H ∧ PreAll has.length all k) ⟨rfl, fun i hi hk => by omega⟩ ?_ ?_
      · rintro k s' h' hk ⟨rfl, hin⟩ hi hl hs
        have f37 := (hs 37 rfl).trans g37
        have f3 := (hs 3 rfl).trans g3
        clear hs g3 g37 g38 g39
        obtain ⟨id, off, lb, ex, u, rfl, _, hrd, hu⟩ := hall.at hk
        have hul := hu.len
        repeat' (first | (simp only [AW_next, AW_ops, AW_opsD, AW_cond, AW_block, AW_exit, AW_ret, AW_skip, AW_scope, AO_nil, AO_next, AO_nextW, wantB_bool, wantK_some, then_normal, then_exit, then_ret, inBlk_normal, inBlk_exit, inBlk_ret, A1_mv, A1_pick, A1_box, A1_zero, A1_build, A1_lits, A1_load, shallow_none, A1_store, A1_nilCheckI, nilOk_ptr, nilOk_func, A1_bin, A1_eqNil, A1_eqBool, A1_eqAgg, A1_un, A1_conv, A1_field, A1_fieldAddr, A1_indexAddr, A1_indexArr, A1_index, A1_slice, A1_mkSlice, A1_extract, A1_func, A1_call, callee_func, callee_bfunc, A1_append, A1_len, A1_minmax, put_some, put_none, upd_at, ev_tmp, ev_av, bin_lss, bin_leq, bin_gtr, bin_geq, bin_eql, bin_neq, bin_add, bin_sub, bin_mul, un_not, natOf_nat, Bool.not_eq_false', Prod.mk.injEq, and_assoc, decide_false, decide_true, Bool.not_false, Bool.not_true, Bool.true_eq_false, Bool.false_eq_true, exists_false, Bool.not_eq_false, Bool.not_not, AV.val.injEq, AV.ptr.injEq, AV.slice.injEq, AV.func.injEq, AV.tuple.injEq, AV.agg.injEq, Value.bool.injEq, Value.int.injEq, Option.some.injEq, exists_eq_left', exists_eq_left, exists_and_left, exists_and_right, and_true, true_and, decide_eq_true_eq, decide_eq_false_iff_not, if_true, if_false, Bool.not_eq_true', beq_true, beq_false, ne_eq, not_true_eq_false, not_false_eq_true, reduceCtorEq, List.getD_cons_zero, List.getD_cons_succ, List.map_cons, List.map_nil, List.append_nil, Nat.reduceEqDiff, reduceIte, ite_true, ite_false, or_true, true_or, or_false, false_or, resA, resultsA, true_imp_iff, false_imp_iff, implies_true, imp_false, and_self, imp_self, and_false, false_and, forall_const, cell_val, cell_ptr, cell_slice, cell_func, cell_hole, cells_agg, cells_val, cells_ptr, cells_slice, cells_func, cells_hole, cells_cell, List.length_cons, List.length_nil, List.all_cons, List.all_nil, Bool.and_self, ldA, List.mapM_cons, List.mapM_nil, Option.bind_eq_bind, Option.bind_some, Option.pure_def, Option.map_none, Option.map_some, List.set_cons_zero, List.set_cons_succ, Nat.lt_add_one, List.append_assoc, List.cons_append, List.nil_append, List.append_nil, List.length_append, rd1_n0, rd1_nK, rd1_c0, rd1_cS, rd_n0, rd_nK, rd_c0, rd_cS, fillA, List.take_zero, List.take_succ_cons, List.take_nil, List.drop_zero, List.drop_succ_cons, List.drop_nil, List.getElem?_cons_zero, List.getElem?_cons_succ, Nat.reduceAdd, Nat.reduceLeDiff, Nat.add_eq_zero_iff, and_self, Nat.zero_add, Nat.add_zero, Nat.mul_one, hrd, hul, *]) | (simp only [goO, AO_nil, then_normal, goC]) | (with_reducible apply And.intro) | (with_reducible intro _))
        refine AW.named fun S hS => ?_
        have g3 : S 3 = I64 has.length := by rw [hS]; simp only [upd_at, reduceIte, Nat.reduceEqDiff, f3]
        have g43 : S 43 = u := by rw [hS]; rfl
        have g44 : S 44 = I64 all[k].length := by rw [hS]; rfl
        have g45 : S 45 = I64 (0 : Nat) := by rw [hS]; rfl
        have i39 : S 39 = I64 k := by rw [hS]; simp only [upd_at, reduceIte, Nat.reduceEqDiff, hi]
        have hub : all[k].length < 1000000 := by
          have hm : all[k] ∈ roots :: has := by rw [← HAL.out]; exact List.getElem_mem _
          rcases List.mem_cons.1 hm with e | e
          · rw [e]; omega
          · obtain ⟨i, hi, e⟩ := List.getElem_of_mem e
            have := hle i hi hi
            rw [e] at this; omega
        clear hS
        refine AW_for all[k].length (by omega) g45 g44 rfl rfl (by decide) (fun j s2 h2 => h2 = h' ∧ PreIn has.length all[k] j) ⟨rfl, .zero⟩ ?_ ?_
        · rintro j s2 h2 hj ⟨rfl, hjn⟩ hi2 hl2 hs2
          have q43 := (hs2 43 rfl).trans g43
          have q3 := (hs2 3 rfl).trans g3
          clear hs2 g3 g43 g44 g45
          obtain ⟨id2, off2, lb2, ex2, rfl, _, hrd2⟩ := hu.at hj
          repeat' (first | (simp only [AW_next, AW_ops, AW_opsD, AW_cond, AW_block, AW_exit, AW_ret, AW_skip, AW_scope, AO_nil, AO_next, AO_nextW, wantB_bool, wantK_some, then_normal, then_exit, then_ret, inBlk_normal, inBlk_exit, inBlk_ret, A1_mv, A1_pick, A1_box, A1_zero, A1_build, A1_lits, A1_load, shallow_none, A1_store, A1_nilCheckI, nilOk_ptr, nilOk_func, A1_bin, A1_eqNil, A1_eqBool, A1_eqAgg, A1_un, A1_conv, A1_field, A1_fieldAddr, A1_indexAddr, A1_indexArr, A1_index, A1_slice, A1_mkSlice, A1_extract, A1_func, A1_call, callee_func, callee_bfunc, A1_append, A1_len, A1_minmax, put_some, put_none, upd_at, ev_tmp, ev_av, bin_lss, bin_leq, bin_gtr, bin_geq, bin_eql, bin_neq, bin_add, bin_sub, bin_mul, un_not, natOf_nat, Bool.not_eq_false', Prod.mk.injEq, and_assoc, decide_false, decide_true, Bool.not_false, Bool.not_true, Bool.true_eq_false, Bool.false_eq_true, exists_false, Bool.not_eq_false, Bool.not_not, AV.val.injEq, AV.ptr.injEq, AV.slice.injEq, AV.func.injEq, AV.tuple.injEq, AV.agg.injEq, Value.bool.injEq, Value.int.injEq, Option.some.injEq, exists_eq_left', exists_eq_left, exists_and_left, exists_and_right, and_true, true_and, decide_eq_true_eq, decide_eq_false_iff_not, if_true, if_false, Bool.not_eq_true', beq_true, beq_false, ne_eq, not_true_eq_false, not_false_eq_true, reduceCtorEq, List.getD_cons_zero, List.getD_cons_succ, List.map_cons, List.map_nil, List.append_nil, Nat.reduceEqDiff, reduceIte, ite_true, ite_false, or_true, true_or, or_false, false_or, resA, resultsA, true_imp_iff, false_imp_iff, implies_true, imp_false, and_self, imp_self, and_false, false_and, forall_const, cell_val, cell_ptr, cell_slice, cell_func, cell_hole, cells_agg, cells_val, cells_ptr, cells_slice, cells_func, cells_hole, cells_cell, List.length_cons, List.length_nil, List.all_cons, List.all_nil, Bool.and_self, ldA, List.mapM_cons, List.mapM_nil, Option.bind_eq_bind, Option.bind_some, Option.pure_def, Option.map_none, Option.map_some, List.set_cons_zero, List.set_cons_succ, Nat.lt_add_one, List.append_assoc, List.cons_append, List.nil_append, List.append_nil, List.length_append, rd1_n0, rd1_nK, rd1_c0, rd1_cS, rd_n0, rd_nK, rd_c0, rd_cS, fillA, List.take_zero, List.take_succ_cons, List.take_nil, List.drop_zero, List.drop_succ_cons, List.drop_nil, List.getElem?_cons_zero, List.getElem?_cons_succ, Nat.reduceAdd, Nat.reduceLeDiff, Nat.add_eq_zero_iff, and_self, Nat.zero_add, Nat.add_zero, Nat.mul_one, hrd2, *]) | (simp only [goO, AO_nil, then_normal, goC]) | (with_reducible apply And.intro) | (with_reducible intro _))
          refine in_am ?_
          repeat' (first | (simp only [AW_next, AW_ops, AW_opsD, AW_cond, AW_block, AW_exit, AW_ret, AW_skip, AW_scope, AO_nil, AO_next, AO_nextW, wantB_bool, wantK_some, then_normal, then_exit, then_ret, inBlk_normal, inBlk_exit, inBlk_ret, A1_mv, A1_pick, A1_box, A1_zero, A1_build, A1_lits, A1_load, shallow_none, A1_store, A1_nilCheckI, nilOk_ptr, nilOk_func, A1_bin, A1_eqNil, A1_eqBool, A1_eqAgg, A1_un, A1_conv, A1_field, A1_fieldAddr, A1_indexAddr, A1_indexArr, A1_index, A1_slice, A1_mkSlice, A1_extract, A1_func, A1_call, callee_func, callee_bfunc, A1_append, A1_len, A1_minmax, put_some, put_none, upd_at, ev_tmp, ev_av, bin_lss, bin_leq, bin_gtr, bin_geq, bin_eql, bin_neq, bin_add, bin_sub, bin_mul, un_not, natOf_nat, Bool.not_eq_false', Prod.mk.injEq, and_assoc, decide_false, decide_true, Bool.not_false, Bool.not_true, Bool.true_eq_false, Bool.false_eq_true, exists_false, Bool.not_eq_false, Bool.not_not, AV.val.injEq, AV.ptr.injEq, AV.slice.injEq, AV.func.injEq, AV.tuple.injEq, AV.agg.injEq, Value.bool.injEq, Value.int.injEq, Option.some.injEq, exists_eq_left', exists_eq_left, exists_and_left, exists_and_right, and_true, true_and, decide_eq_true_eq, decide_eq_false_iff_not, if_true, if_false, Bool.not_eq_true', beq_true, beq_false, ne_eq, not_true_eq_false, not_false_eq_true, reduceCtorEq, List.getD_cons_zero, List.getD_cons_succ, List.map_cons, List.map_nil, List.append_nil, Nat.reduceEqDiff, reduceIte, ite_true, ite_false, or_true, true_or, or_false, false_or, resA, resultsA, true_imp_iff, false_imp_iff, implies_true, imp_false, and_self, imp_self, and_false, false_and, forall_const, cell_val, cell_ptr, cell_slice, cell_func, cell_hole, cells_agg, cells_val, cells_ptr, cells_slice, cells_func, cells_hole, cells_cell, List.length_cons, List.length_nil, List.all_cons, List.all_nil, Bool.and_self, ldA, List.mapM_cons, List.mapM_nil, Option.bind_eq_bind, Option.bind_some, Option.pure_def, Option.map_none, Option.map_some, List.set_cons_zero, List.set_cons_succ, Nat.lt_add_one, List.append_assoc, List.cons_append, List.nil_append, List.append_nil, List.length_append, rd1_n0, rd1_nK, rd1_c0, rd1_cS, rd_n0, rd_nK, rd_c0, rd_cS, fillA, List.take_zero, List.take_succ_cons, List.take_nil, List.drop_zero, List.drop_succ_cons, List.drop_nil, List.getElem?_cons_zero, List.getElem?_cons_succ, Nat.reduceAdd, Nat.reduceLeDiff, Nat.add_eq_zero_iff, and_self, Nat.zero_add, Nat.add_zero, Nat.mul_one, *]) | (simp only [goO, AO_nil, then_normal, goC]) | (with_reducible apply And.intro) | (with_reducible intro _))
          · rename_i hn
            have hC : checkE has roots = 3 := by
              unfold checkE
              rw [if_neg (by omega), if_neg, if_neg]
              · intro hall'
                exact hn (hall' all[k] (by rw [← HAL.out]; exact List.getElem_mem _) _ (List.getElem_mem _))
              · rintro ⟨l, hl, hlt⟩
                obtain ⟨i, hi, rfl⟩ := List.getElem_of_mem hl
                have := hle i hi hi
                omega
            rw [hC] at hKH; exact hKH
          · rename_i hy
            exact hjn.succ hj hy
        · rintro s2 h2 ⟨rfl, hjn⟩ hs2
          repeat' (first | (simp only [AW_next, AW_ops, AW_opsD, AW_cond, AW_block, AW_exit, AW_ret, AW_skip, AW_scope, AO_nil, AO_next, AO_nextW, wantB_bool, wantK_some, then_normal, then_exit, then_ret, inBlk_normal, inBlk_exit, inBlk_ret, A1_mv, A1_pick, A1_box, A1_zero, A1_build, A1_lits, A1_load, shallow_none, A1_store, A1_nilCheckI, nilOk_ptr, nilOk_func, A1_bin, A1_eqNil, A1_eqBool, A1_eqAgg, A1_un, A1_conv, A1_field, A1_fieldAddr, A1_indexAddr, A1_indexArr, A1_index, A1_slice, A1_mkSlice, A1_extract, A1_func, A1_call, callee_func, callee_bfunc, A1_append, A1_len, A1_minmax, put_some, put_none, upd_at, ev_tmp, ev_av, bin_lss, bin_leq, bin_gtr, bin_geq, bin_eql, bin_neq, bin_add, bin_sub, bin_mul, un_not, natOf_nat, Bool.not_eq_false', Prod.mk.injEq, and_assoc, decide_false, decide_true, Bool.not_false, Bool.not_true, Bool.true_eq_false, Bool.false_eq_true, exists_false, Bool.not_eq_false, Bool.not_not, AV.val.injEq, AV.ptr.injEq, AV.slice.injEq, AV.func.injEq, AV.tuple.injEq, AV.agg.injEq, Value.bool.injEq, Value.int.injEq, Option.some.injEq, exists_eq_left', exists_eq_left, exists_and_left, exists_and_right, and_true, true_and, decide_eq_true_eq, decide_eq_false_iff_not, if_true, if_false, Bool.not_eq_true', beq_true, beq_false, ne_eq, not_true_eq_false, not_false_eq_true, reduceCtorEq, List.getD_cons_zero, List.getD_cons_succ, List.map_cons, List.map_nil, List.append_nil, Nat.reduceEqDiff, reduceIte, ite_true, ite_false, or_true, true_or, or_false, false_or, resA, resultsA, true_imp_iff, false_imp_iff, implies_true, imp_false, and_self, imp_self, and_false, false_and, forall_const, cell_val, cell_ptr, cell_slice, cell_func, cell_hole, cells_agg, cells_val, cells_ptr, cells_slice, cells_func, cells_hole, cells_cell, List.length_cons, List.length_nil, List.all_cons, List.all_nil, Bool.and_self, ldA, List.mapM_cons, List.mapM_nil, Option.bind_eq_bind, Option.bind_some, Option.pure_def, Option.map_none, Option.map_some, List.set_cons_zero, List.set_cons_succ, Nat.lt_add_one, List.append_assoc, List.cons_append, List.nil_append, List.append_nil, List.length_append, rd1_n0, rd1_nK, rd1_c0, rd1_cS, rd_n0, rd_nK, rd_c0, rd_cS, fillA, List.take_zero, List.take_succ_cons, List.take_nil, List.drop_zero, List.drop_succ_cons, List.drop_nil, List.getElem?_cons_zero, List.getElem?_cons_succ, Nat.reduceAdd, Nat.reduceLeDiff, Nat.add_eq_zero_iff, and_self, Nat.zero_add, Nat.add_zero, Nat.mul_one, *]) | (simp only [goO, AO_nil, then_normal, goC]) | (with_reducible apply And.intro) | (with_reducible intro _))
          exact hin.succ hk hjn
      · rintro s2 h2 ⟨rfl, hin⟩ hs2
        clear hs2
        repeat' (first | (simp only [AW_next, AW_ops, AW_opsD, AW_cond, AW_block, AW_exit, AW_ret, AW_skip, AW_scope, AO_nil, AO_next, AO_nextW, wantB_bool, wantK_some, then_normal, then_exit, then_ret, inBlk_normal, inBlk_exit, inBlk_ret, A1_mv, A1_pick, A1_box, A1_zero, A1_build, A1_lits, A1_load, shallow_none, A1_store, A1_nilCheckI, nilOk_ptr, nilOk_func, A1_bin, A1_eqNil, A1_eqBool, A1_eqAgg, A1_un, A1_conv, A1_field, A1_fieldAddr, A1_indexAddr, A1_indexArr, A1_index, A1_slice, A1_mkSlice, A1_extract, A1_func, A1_call, callee_func, callee_bfunc, A1_append, A1_len, A1_minmax, put_some, put_none, upd_at, ev_tmp, ev_av, bin_lss, bin_leq, bin_gtr, bin_geq, bin_eql, bin_neq, bin_add, bin_sub, bin_mul, un_not, natOf_nat, Bool.not_eq_false', Prod.mk.injEq, and_assoc, decide_false, decide_true, Bool.not_false, Bool.not_true, Bool.true_eq_false, Bool.false_eq_true, exists_false, Bool.not_eq_false, Bool.not_not, AV.val.injEq, AV.ptr.injEq, AV.slice.injEq, AV.func.injEq, AV.tuple.injEq, AV.agg.injEq, Value.bool.injEq, Value.int.injEq, Option.some.injEq, exists_eq_left', exists_eq_left, exists_and_left, exists_and_right, and_true, true_and, decide_eq_true_eq, decide_eq_false_iff_not, if_true, if_false, Bool.not_eq_true', beq_true, beq_false, ne_eq, not_true_eq_false, not_false_eq_true, reduceCtorEq, List.getD_cons_zero, List.getD_cons_succ, List.map_cons, List.map_nil, List.append_nil, Nat.reduceEqDiff, reduceIte, ite_true, ite_false, or_true, true_or, or_false, false_or, resA, resultsA, true_imp_iff, false_imp_iff, implies_true, imp_false, and_self, imp_self, and_false, false_and, forall_const, cell_val, cell_ptr, cell_slice, cell_func, cell_hole, cells_agg, cells_val, cells_ptr, cells_slice, cells_func, cells_hole, cells_cell, List.length_cons, List.length_nil, List.all_cons, List.all_nil, Bool.and_self, ldA, List.mapM_cons, List.mapM_nil, Option.bind_eq_bind, Option.bind_some, Option.pure_def, Option.map_none, Option.map_some, List.set_cons_zero, List.set_cons_succ, Nat.lt_add_one, List.append_assoc, List.cons_append, List.nil_append, List.append_nil, List.length_append, rd1_n0, rd1_nK, rd1_c0, rd1_cS, rd_n0, rd_nK, rd_c0, rd_cS, fillA, List.take_zero, List.take_succ_cons, List.take_nil, List.drop_zero, List.drop_succ_cons, List.drop_nil, List.getElem?_cons_zero, List.getElem?_cons_succ, Nat.reduceAdd, Nat.reduceLeDiff, Nat.add_eq_zero_iff, and_self, Nat.zero_add, Nat.add_zero, Nat.mul_one, *]) | (simp only [goO, AO_nil, then_normal, goC]) | (with_reducible apply And.intro) | (with_reducible intro _))
        have hC : checkE has roots = 0 := by
          unfold checkE
          rw [if_neg (by omega), if_neg, if_pos]
          · intro l hl x hx
            rw [← HAL.out] at hl
            obtain ⟨i, hi, rfl⟩ := List.getElem_of_mem hl
            exact hin i hi hi x hx
          · rintro ⟨l, hl, hlt⟩
            obtain ⟨i, hi, rfl⟩ := List.getElem_of_mem hl
            have := hle i hi hi
            omega
        rw [hC] at hKH; exact hKH
end Go.Proofs.Ytfmllmcjinjfaaa

namespace Go.Proofs.Ytfmllmcjinjfaaa
open Go Go.RowKit
set_option linter.unusedVariables false
set_option linter.unusedSimpArgs false

def step (s : List Bool × List Int) (n : Int) : List Bool × List Int := if s.1.getD n.toNat false = true then s else (s.1.set n.toNat true, s.2 ++ [n])
def reachL (s : List Bool × List Int) (l : List Int) : List Bool × List Int := l.foldl step s
def unseen (l : List Bool) : Nat := l.countP (fun b => !b)

theorem step_length (s : List Bool × List Int) (n : Int) : (step s n).1.length = s.1.length := by
  unfold step; split <;> simp
def Sn (l : List Bool) (n : Nat) : Prop := l.getD n false = true
def Cl (has : List (List Int)) (P : Nat → Prop) : Prop := ∀ n, P n → ∀ k ∈ has.getD n [], P k.toNat
theorem Sn_set {l : List Bool} {i n : Nat} (hi : i < l.length) : Sn (l.set i true) n ↔ Sn l n ∨ n = i := by
  unfold Sn
  by_cases h : n = i
  · subst h; simp [hi]
  · simp [List.getElem?_set_ne (fun e => h e.symm), h]
theorem step_seen {s : List Bool × List Int} {x : Int} (hx : x.toNat < s.1.length) (n : Nat) : Sn (step s x).1 n ↔ Sn s.1 n ∨ n = x.toNat := by
  unfold step
  split
  · rename_i h
    constructor
    · exact .inl
    · rintro (h' | rfl)
      · exact h'
      · exact h
  · exact Sn_set hx
theorem step_todo {s : List Bool × List Int} {x : Int} (y : Int) : y ∈ (step s x).2 ↔ y ∈ s.2 ∨ (y = x ∧ ¬ Sn s.1 x.toNat) := by
  unfold step
  split
  · rename_i h
    constructor
    · exact .inl
    · rintro (h' | ⟨rfl, h'⟩)
      · exact h'
      · exact absurd h h'
  · rename_i h
    simp only [List.mem_append, List.mem_singleton]
    constructor
    · rintro (h' | rfl)
      · exact .inl h'
      · exact .inr ⟨rfl, h⟩
    · rintro (h' | ⟨rfl, _⟩)
      · exact .inl h'
      · exact .inr rfl
theorem reachL_length : ∀ (l : List Int) (s : List Bool × List Int), (reachL s l).1.length = s.1.length
  | [], s => rfl
  | x :: l, s => by
    have := reachL_length l (step s x)
    unfold reachL at *
    rw [List.foldl_cons, this, step_length]
theorem reachL_seen : ∀ (l : List Int) (s : List Bool × List Int), (∀ x ∈ l, x.toNat < s.1.length) → ∀ n, Sn (reachL s l).1 n ↔ Sn s.1 n ∨ ∃ x ∈ l, x.toNat = n
  | [], s, _, n => by simp [reachL]
  | x :: l, s, h, n => by
    have := reachL_seen l (step s x) (fun y hy => by rw [step_length]; exact h y (by simp [hy])) n
    unfold reachL at *
    rw [List.foldl_cons, this, step_seen (h x (by simp))]
    simp only [List.mem_cons, exists_eq_or_imp]
    constructor
    · rintro ((h1 | h1) | h1)
      · exact .inl h1
      · exact .inr (.inl h1.symm)
      · exact .inr (.inr h1)
    · rintro (h1 | h1 | h1)
      · exact .inl (.inl h1)
      · exact .inl (.inr h1.symm)
      · exact .inr h1
theorem reachL_todo : ∀ (l : List Int) (s : List Bool × List Int), (∀ x ∈ l, x.toNat < s.1.length) → (∀ y, y ∈ s.2 → y ∈ (reachL s l).2) ∧ (∀ y ∈ (reachL s l).2, y ∈ s.2 ∨ y ∈ l) ∧
    (∀ y ∈ l, ¬ Sn s.1 y.toNat → ∃ z ∈ (reachL s l).2, z.toNat = y.toNat)
  | [], s, _ => by simp [reachL]
  | x :: l, s, h => by
    obtain ⟨h1, h2, h3⟩ := reachL_todo l (step s x) (fun y hy => by rw [step_length]; exact h y (by simp [hy]))
    unfold reachL at *
    rw [List.foldl_cons]
    refine ⟨fun y hy => h1 y ((step_todo y).2 (.inl hy)), fun y hy => ?_, fun y hy hn => ?_⟩
    · rcases h2 y hy with h4 | h4
      · rcases (step_todo y).1 h4 with h5 | ⟨rfl, _⟩
        · exact .inl h5
        · exact .inr (by simp)
      · exact .inr (by simp [h4])
    · by_cases hx : y.toNat = x.toNat
      · by_cases hyx : y = x
        · subst hyx
          exact ⟨y, h1 y ((step_todo y).2 (.inr ⟨rfl, hn⟩)), rfl⟩
        · exact ⟨x, h1 x ((step_todo x).2 (.inr ⟨rfl, by rw [← hx]; exact hn⟩)), hx.symm⟩
      · rcases List.mem_cons.1 hy with rfl | hy
        · exact absurd rfl hx
        · refine h3 y hy ?_
          rw [step_seen (h x (by simp))]
          rintro (h4 | h4)
          · exact hn h4
          · exact hx h4

structure AInv (has : List (List Int)) (S0 : Nat → Prop) (s : List Bool × List Int) : Prop where
  sup : ∀ n, S0 n → Sn s.1 n
  todo : ∀ x ∈ s.2, 0 ≤ x ∧ x < s.1.length ∧ Sn s.1 x.toNat
  closed : ∀ n, Sn s.1 n → (∃ x ∈ s.2, x.toNat = n) ∨ ∀ k ∈ has.getD n [], Sn s.1 k.toNat
  least : ∀ P, Cl has P → (∀ n, S0 n → P n) → ∀ n, Sn s.1 n → P n

def okHas (has : List (List Int)) (N : Nat) : Prop := has.length = N ∧ ∀ l ∈ has, ∀ x ∈ l, 0 ≤ x ∧ x < N
theorem okHas.at {has : List (List Int)} {N : Nat} (h : okHas has N) (n : Nat) : ∀ x ∈ has.getD n [], 0 ≤ x ∧ x < N := by
  intro x hx
  by_cases hn : n < has.length
  · rw [List.getD_eq_getElem?_getD, List.getElem?_eq_getElem hn] at hx
    exact h.2 _ (List.getElem_mem hn) x hx
  · rw [List.getD_eq_getElem?_getD, List.getElem?_eq_none (by omega)] at hx
    simp at hx

theorem AInv.next {has : List (List Int)} {S0 : Nat → Prop} {sb : List Bool} {td : List Int} {x : Int} (hh : okHas has sb.length) (h : AInv has S0 (sb, td ++ [x])) : AInv has S0 (reachL (sb, td) (has.getD x.toNat [])) := by
  have hr : ∀ y ∈ has.getD x.toNat [], y.toNat < (sb, td).1.length := fun y hy => by have := hh.at _ y hy; simp; omega
  have hs := reachL_seen (has.getD x.toNat []) (sb, td) hr
  obtain ⟨h1, h2, h3⟩ := reachL_todo (has.getD x.toNat []) (sb, td) hr
  have hxs := h.todo x (by simp)
  refine ⟨fun n hn => (hs n).2 (.inl (h.sup n hn)), fun y hy => ?_, fun n hn => ?_, fun P hP h0 n hn => ?_⟩
  · rw [reachL_length]
    rcases h2 y hy with h4 | h4
    · have := h.todo y (by simp at h4 ⊢; exact .inl h4)
      exact ⟨this.1, this.2.1, (hs _).2 (.inl this.2.2)⟩
    · have := hh.at _ y h4
      exact ⟨this.1, this.2, (hs _).2 (.inr ⟨y, h4, rfl⟩)⟩
  · rcases (hs n).1 hn with h4 | ⟨y, hy, rfl⟩
    · rcases h.closed n h4 with ⟨z, hz, rfl⟩ | h5
      · simp only [List.mem_append, List.mem_singleton] at hz
        rcases hz with hz | rfl
        · exact .inl ⟨z, h1 z hz, rfl⟩
        · exact .inr fun k hk => (hs _).2 (.inr ⟨k, hk, rfl⟩)
      · exact .inr fun k hk => (hs _).2 (.inl (h5 k hk))
    · by_cases hy2 : Sn sb y.toNat
      · rcases h.closed _ hy2 with ⟨z, hz, hzy⟩ | h5
        · simp only [List.mem_append, List.mem_singleton] at hz
          rcases hz with hz | rfl
          · exact .inl ⟨z, h1 z hz, hzy⟩
          · right
            rw [← hzy]
            exact fun k hk => (hs _).2 (.inr ⟨k, hk, rfl⟩)
        · exact .inr fun k hk => (hs _).2 (.inl (h5 k hk))
      · exact .inl (h3 y hy hy2)
  · rcases (hs n).1 hn with h4 | ⟨y, hy, rfl⟩
    · exact h.least P hP h0 n h4
    · exact hP x.toNat (h.least P hP h0 _ hxs.2.2) y hy

def Liv (has : List (List Int)) (ps : List (Int × Int)) (l : List Int) (n : Nat) : Prop :=
  ∀ P : Nat → Prop, Cl has P → (∀ p ∈ ps, P p.1.toNat → P p.2.toNat) → (∀ x ∈ l, P x.toNat) → P n

theorem Liv.cl (has : List (List Int)) (ps : List (Int × Int)) (l : List Int) : Cl has (Liv has ps l) := fun n hn k hk P h1 h2 h3 => h1 n (hn P h1 h2 h3) k hk
theorem Liv.pair {has : List (List Int)} {ps : List (Int × Int)} {l : List Int} {p : Int × Int} (hp : p ∈ ps) (h : Liv has ps l p.1.toNat) : Liv has ps l p.2.toNat := fun P h1 h2 h3 => h2 p hp (h P h1 h2 h3)
theorem Liv.base {has : List (List Int)} {ps : List (Int × Int)} {l : List Int} {x : Int} (hx : x ∈ l) : Liv has ps l x.toNat := fun P h1 h2 h3 => h3 x hx

structure GInv (has : List (List Int)) (L : Nat → Prop) (s : List Bool × List Int) : Prop where
  todo : ∀ x ∈ s.2, 0 ≤ x ∧ x < s.1.length ∧ Sn s.1 x.toNat
  closed : ∀ n, Sn s.1 n → (∃ x ∈ s.2, x.toNat = n) ∨ ∀ k ∈ has.getD n [], Sn s.1 k.toNat
  sub : ∀ n, Sn s.1 n → L n
theorem GInv.ofA {has : List (List Int)} {L S0 : Nat → Prop} {s : List Bool × List Int} (h : AInv has S0 s) (hL : Cl has L) (h0 : ∀ n, S0 n → L n) : GInv has L s :=
  ⟨h.todo, h.closed, fun n hn => h.least L hL h0 n hn⟩
theorem GInv.reach {has : List (List Int)} {L : Nat → Prop} {s : List Bool × List Int} {l : List Int} (h : GInv has L s) (hl : ∀ x ∈ l, (0 ≤ x ∧ x < (s.1.length : Int)) ∧ L x.toNat) : GInv has L (reachL s l) := by
  have hr : ∀ y ∈ l, y.toNat < s.1.length := fun y hy => by have := hl y hy; omega
  have hs := reachL_seen l s hr
  obtain ⟨h1, h2, h3⟩ := reachL_todo l s hr
  refine ⟨fun y hy => ?_, fun n hn => ?_, fun n hn => ?_⟩
  · rw [reachL_length]
    rcases h2 y hy with h4 | h4
    · have := h.todo y h4
      exact ⟨this.1, this.2.1, (hs _).2 (.inl this.2.2)⟩
    · have := hl y h4
      exact ⟨this.1.1, this.1.2, (hs _).2 (.inr ⟨y, h4, rfl⟩)⟩
  · rcases (hs n).1 hn with h4 | ⟨y, hy, rfl⟩
    · rcases h.closed n h4 with ⟨z, hz, rfl⟩ | h5
      · exact .inl ⟨z, h1 z hz, rfl⟩
      · exact .inr fun k hk => (hs _).2 (.inl (h5 k hk))
    · by_cases hy2 : Sn s.1 y.toNat
      · rcases h.closed _ hy2 with ⟨z, hz, hzy⟩ | h5
        · exact .inl ⟨z, h1 z hz, hzy⟩
        · exact .inr fun k hk => (hs _).2 (.inl (h5 k hk))
      · exact .inl (h3 y hy hy2)
  · rcases (hs n).1 hn with h4 | ⟨y, hy, rfl⟩
    · exact h.sub n h4
    · exact (hl y hy).2
theorem Sn_falses (N n : Nat) : ¬ Sn (List.replicate N false) n := by
  unfold Sn; rw [List.getD_eq_getElem?_getD, List.getElem?_replicate]; split <;> simp
theorem GInv.start (has : List (List Int)) (L : Nat → Prop) (N : Nat) : GInv has L (List.replicate N false, []) :=
  ⟨fun x hx => absurd hx (by simp), fun n hn => absurd hn (Sn_falses N n), fun n hn => absurd hn (Sn_falses N n)⟩

structure LInv (has : List (List Int)) (ps : List (Int × Int)) (l : List Int) (sb : List Bool) : Prop where
  base : ∀ x ∈ l, Sn sb x.toNat
  clo : Cl has (Sn sb)
  sub : ∀ n, Sn sb n → Liv has ps l n
theorem LInv.ofA {has : List (List Int)} {ps : List (Int × Int)} {l : List Int} {S0 : Nat → Prop} {sb : List Bool} (h : AInv has S0 (sb, [])) (h0 : ∀ n, S0 n → Liv has ps l n) (hb : ∀ x ∈ l, S0 x.toNat) : LInv has ps l sb :=
  ⟨fun x hx => h.sup _ (hb x hx), fun n hn => by
    rcases h.closed n hn with ⟨x, hx, _⟩ | h1
    · cases hx
    · exact h1, fun n hn => h.least _ (Liv.cl has ps l) h0 n hn⟩
theorem LInv.iff {has : List (List Int)} {ps : List (Int × Int)} {l : List Int} {sb : List Bool} (h : LInv has ps l sb) (hp : ∀ p ∈ ps, Sn sb p.1.toNat → Sn sb p.2.toNat) (n : Nat) : Sn sb n ↔ Liv has ps l n :=
  ⟨h.sub n, fun hn => hn (Sn sb) h.clo hp h.base⟩

def pairIn (N : Nat) (p : Int × Int) : Prop := (0 ≤ p.1 ∧ p.1 < (N : Int)) ∧ (0 ≤ p.2 ∧ p.2 < (N : Int))
instance (N : Nat) (p : Int × Int) : Decidable (pairIn N p) := inferInstanceAs (Decidable (_ ∧ _))
theorem checkE_zero {has : List (List Int)} {roots : List Int} (h : checkE has roots = 0) : has.length ≤ 100 ∧ roots.length ≤ 100 ∧ (∀ l ∈ has, l.length ≤ 10) ∧ okHas has has.length ∧ ∀ x ∈ roots, 0 ≤ x ∧ x < (has.length : Int) := by
  unfold checkE at h
  split at h
  · cases h
  · rename_i h1
    split at h
    · cases h
    · rename_i h2
      split at h
      · rename_i h3
        refine ⟨by omega, by omega, fun l hl => ?_, ⟨rfl, fun l hl => h3 l (by simp [hl])⟩, h3 roots (by simp)⟩
        apply Decidable.byContradiction
        intro hn
        exact h2 ⟨l, hl, by omega⟩
      · cases h

open Classical in
theorem Liv.mono {has : List (List Int)} {ps ps' : List (Int × Int)} {l l' : List Int} (hp : ∀ p ∈ ps, p ∈ ps') (hl : ∀ x ∈ l, x ∈ l') {n : Nat} (h : Liv has ps l n) : Liv has ps' l' n :=
  fun P h1 h2 h3 => h P h1 (fun p hp' => h2 p (hp p hp')) (fun x hx => h3 x (hl x hx))
theorem Liv.lt {has : List (List Int)} {ps : List (Int × Int)} {l : List Int} {n : Nat} (ho : okHas has has.length) (hp : ∀ p ∈ ps, pairIn has.length p) (hl : ∀ x ∈ l, 0 ≤ x ∧ x < (has.length : Int)) (h : Liv has ps l n) : n < has.length :=
  h (fun n => n < has.length) (fun n _ k hk => by have := ho.at n k hk; omega) (fun p hp' _ => by have := (hp p hp').2; omega) (fun x hx => by have := hl x hx; omega)
end Go.Proofs.Ytfmllmcjinjfaaa

namespace Go.Proofs.Ytfmllmcjinjfaaa
open Go Go.RowKit
set_option linter.unusedVariables false
set_option linter.unusedSimpArgs false
variable {tb : List (FuncId × Bool)} {fl : Nat → Bool} {h : Heap} {K : AV → Heap → Prop}

structure RSt (h : Heap) (rp : Nat) (gh gr sv : AV) (sb : List Bool) (tv : AV) (td : List Int) : Prop where
  rc : blk h rp = some [gh, gr, sv, tv]
  seen : BL h sv sb
  todo : OL h 1 tv (td.map I64) td.length
  d1 : rp ∉ idOf sv
  d2 : rp ∉ idOf tv
  d3 : ∀ i ∈ idOf sv, i ∉ idOf tv
structure Wri (fl : Nat → Bool) (h : Heap) (rp : Nat) (sv tv : AV) : Prop where
  f1 : fl rp = true
  f2 : ∀ i ∈ idOf sv, fl i = true
  f3 : ∀ i ∈ idOf tv, fl i = true
  f4 : ∀ i, h.length ≤ i → fl i = true

end Go.Proofs.Ytfmllmcjinjfaaa

namespace Go.Proofs.Ytfmllmcjinjfaaa
open Go Go.RowKit
set_option linter.unusedVariables false
set_option linter.unusedSimpArgs false
variable {tb : List (FuncId × Bool)} {fl : Nat → Bool} {h : Heap} {K : AV → Heap → Prop}

theorem Sl.made {h : Heap} {id n : Nat} {v : AV} {b : Bool} (hb : blk h id = some (List.replicate n v)) : Sl h 1 (.slice id 0 n n b 1) (List.replicate n v) n :=
  ⟨by simp, .inr ⟨id, 0, n, b, _, rfl, Nat.le_refl _, hb, by simp, by simp⟩⟩
theorem BL.made {h : Heap} {id n : Nat} {b c : Bool} (hb : blk h id = some (List.replicate n (BV c))) : BL h (.slice id 0 n n b 1) (List.replicate n c) := by
  unfold BL
  rw [List.map_replicate, List.length_replicate]; exact Sl.made hb

theorem NewI.later {h h1 h2 : Heap} {v : AV} {l : List Int} (k : Keep h h1 []) (n : NewI h1 h2 v l) : NewI h h2 v l :=
  ⟨n.1, fun i hi => by have := n.2.1 i hi; have := k.1; omega, k.then n.2.2 (fun i hi => .inl hi) (fun i hi => .inl hi)⟩
end Go.Proofs.Ytfmllmcjinjfaaa

namespace Go.Proofs.Ytfmllmcjinjfaaa
open Go Go.RowKit
set_option linter.unusedVariables false
set_option linter.unusedSimpArgs false
variable {tb : List (FuncId × Bool)} {L : Nat → Bool} {H : ZH} {K : ZV → ZH → Prop}

end Go.Proofs.Ytfmllmcjinjfaaa

namespace Go.Proofs.Ytfmllmcjinjfaaa
open Go Go.RowKit
set_option linter.unusedVariables false
set_option linter.unusedSimpArgs false
variable {tb : List (FuncId × Bool)} {L : Nat → Bool} {H : ZH} {K : ZV → ZH → Prop}
theorem i_cells {w : Wd} : ∀ {zs : List Int} {cells : List AV}, ZRs w (zs.map eI).flatten cells → cells = zs.map fun k => AV.val (.int .i64 k)
  | [], cells, h => List.eq_nil_of_length_eq_zero h.1.symm
  | k :: r, cells, h => by
    have e : ((k :: r).map eI).flatten = Z64 k :: (r.map eI).flatten := rfl
    rw [e] at h
    match cells, h with
    | [], h => have := h.1; simp at this
    | a :: cs, h =>
      have h0 := (h.2 0 _ a rfl rfl).val_inv
      have h1 : ZRs w (r.map eI).flatten cs := ⟨by have := h.1; simp at this ⊢; exact this, fun i z b h1 h2 => h.2 (i + 1) z b h1 h2⟩
      rw [h0, i_cells h1]; rfl
end Go.Proofs.Ytfmllmcjinjfaaa
