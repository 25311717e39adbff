/-
  weak.in, weak.Check, in AM.
-/
import Derived.Test.YtlgminfejehndaaAmZ
import Derived.Test.YtlgminfejehndaaWaCode
import Derived.Lib.Hide
namespace Go.Proofs.Ytlgminfejehndaa
open Go Go.RowKit
set_option linter.unusedVariables false
set_option linter.unusedSimpArgs false
variable {tb : List (FuncId × Bool)} {fl : Nat → Bool} {h : Heap} {K : AV → Heap → Prop}

instance (N : Nat) (x : Int) : Decidable (0 ≤ x ∧ x < (N : Int)) := inferInstanceAs (Decidable (_ ∧ _))
def checkE (has : List (List Int)) (roots : List Int) : Int :=
  if has.length > 100 ∨ roots.length > 100 then 2 else if ∃ l ∈ has, l.length > 10 then 2 else if ∀ l ∈ roots :: has, ∀ x ∈ l, 0 ≤ x ∧ x < (has.length : Int) then 0 else 3

/-- The first j of a list are in. -/
def PreIn (N : Nat) (l : List Int) (j : Nat) : Prop := ∀ i (hi : i < l.length), i < j → 0 ≤ l[i] ∧ l[i] < (N : Int)
theorem PreIn.zero {N : Nat} {l : List Int} : PreIn N l 0 := fun i _ h => absurd h (by omega)
theorem PreIn.succ {N : Nat} {l : List Int} {j : Nat} (h : PreIn N l j) (hj : j < l.length) (hx : 0 ≤ l[j] ∧ l[j] < (N : Int)) : PreIn N l (j + 1) := fun i hi hij => by
  by_cases e : i = j
  · subst e; exact hx
  · exact h i hi (by omega)
theorem PreIn.all {N : Nat} {l : List Int} (h : PreIn N l l.length) : ∀ x ∈ l, 0 ≤ x ∧ x < (N : Int) := fun x hx => by
  obtain ⟨i, hi, rfl⟩ := List.getElem_of_mem hx
  exact h i hi hi
/-- The first j lists are short. -/
def PreShort (ls : List (List Int)) (j : Nat) : Prop := ∀ i (hi : i < ls.length), i < j → ls[i].length ≤ 10
def PreAll (N : Nat) (ls : List (List Int)) (j : Nat) : Prop := ∀ i (hi : i < ls.length), i < j → ∀ x ∈ ls[i], 0 ≤ x ∧ x < (N : Int)
theorem PreAll.succ {N : Nat} {ls : List (List Int)} {j : Nat} (h : PreAll N ls j) (hj : j < ls.length) (hx : PreIn N ls[j] ls[j].length) : PreAll N ls (j + 1) := fun i hi hij => by
  by_cases e : i = j
  · subst e; exact hx.all
  · exact h i hi (by omega)
theorem in_am {n many : Int} (hK : K (BV (decide (0 ≤ n ∧ n < many))) h) : AC (constX tb) (cFunc Try.prog) 46 [I64 n, I64 many] fl h K := by
  refine AC.enter rfl f_wk_in (by simp) ?_
  simp only [c_wk_in]
  repeat' (first | (simp only [AW_next, AW_ops, AW_cond, AW_block, AW_exit, AW_ret, AW_skip, AW_scope, AO_nil, AO_next, AO_nextW, wantB_bool, wantK_some, then_normal, then_exit, then_ret, inBlk_normal, inBlk_exit, inBlk_ret, A1_mv, A1_pick, A1_box, A1_zero, A1_build, A1_lits, A1_load, shallow_none, A1_store, A1_nilCheckI, nilOk_ptr, nilOk_func, A1_bin, A1_eqNil, A1_eqBool, A1_eqAgg, A1_un, A1_conv, A1_field, A1_fieldAddr, A1_indexAddr, A1_indexArr, A1_index, A1_slice, A1_mkSlice, A1_extract, A1_func, A1_call, A1_append, A1_len, A1_minmax, put_some, put_none, upd_at, ev_tmp, ev_av, bin_lss, bin_leq, bin_gtr, bin_geq, bin_eql, bin_neq, bin_add, bin_sub, bin_mul, un_not, natOf_nat, Bool.not_eq_false', Prod.mk.injEq, and_assoc, decide_false, decide_true, Bool.not_false, Bool.not_true, Bool.true_eq_false, Bool.false_eq_true, exists_false, Bool.not_eq_false, Bool.not_not, AV.val.injEq, AV.ptr.injEq, AV.slice.injEq, AV.func.injEq, AV.tuple.injEq, AV.agg.injEq, Value.bool.injEq, Value.int.injEq, Option.some.injEq, exists_eq_left', exists_eq_left, exists_and_left, exists_and_right, and_true, true_and, decide_eq_true_eq, decide_eq_false_iff_not, if_true, if_false, Bool.not_eq_true', beq_true, beq_false, ne_eq, not_true_eq_false, not_false_eq_true, reduceCtorEq, List.getD_cons_zero, List.getD_cons_succ, List.map_cons, List.map_nil, List.append_nil, Nat.reduceEqDiff, reduceIte, ite_true, ite_false, or_true, true_or, or_false, false_or, resA, resultsA, true_imp_iff, false_imp_iff, implies_true, imp_false, and_self, imp_self, and_false, false_and, forall_const, cell_val, cell_ptr, cell_slice, cell_func, cell_hole, cells_agg, cells_val, cells_ptr, cells_slice, cells_func, cells_hole, cells_cell, List.length_cons, List.length_nil, List.all_cons, List.all_nil, Bool.and_self, ldA, List.mapM_cons, List.mapM_nil, Option.bind_eq_bind, Option.bind_some, Option.pure_def, Option.map_none, Option.map_some, List.set_cons_zero, List.set_cons_succ, Nat.lt_add_one, List.append_assoc, List.cons_append, List.nil_append, List.append_nil, List.length_append, rd1_n0, rd1_nK, rd1_c0, rd1_cS, rd_n0, rd_nK, rd_c0, rd_cS, fillA, List.take_zero, List.take_succ_cons, List.take_nil, List.drop_zero, List.drop_succ_cons, List.drop_nil, List.getElem?_cons_zero, List.getElem?_cons_succ, Nat.reduceAdd, Nat.reduceLeDiff, Nat.add_eq_zero_iff, and_self, Nat.zero_add, Nat.add_zero, Nat.mul_one, *]) | (simp only [goO, AO_nil, then_normal, goC]) | (with_reducible apply And.intro) | (with_reducible intro _))
  all_goals (simp_all)

theorem check_am {v1 v2 : AV} {has : List (List Int)} {roots : List Int} (h1 : LL h v1 has) (h2 : IL h v2 roots) (hK : ∀ e, K (I64 (checkE has roots)) (h ++ e)) :
    AC (constX tb) (cFunc Try.prog) 32 [.agg [v1, v2]] fl h K := by
  refine AC.enter rfl f_wk_check (by simp) ?_
  have hl1 := h1.len
  have hl2 := h2.len
  have hc1 := h1.cell
  have hc2 := h2.cell
  by_cases hL : has.length > 100 ∨ roots.length > 100
  · have hC : checkE has roots = 2 := if_pos hL
    have hK := hK [some [v1, v2]]
    rw [hC] at hK
    simp only [c_wk_check]
    repeat' (first | (simp only [AW_next, AW_ops, AW_cond, AW_block, AW_exit, AW_ret, AW_skip, AW_scope, AO_nil, AO_next, AO_nextW, wantB_bool, wantK_some, then_normal, then_exit, then_ret, inBlk_normal, inBlk_exit, inBlk_ret, A1_mv, A1_pick, A1_box, A1_zero, A1_build, A1_lits, A1_load, shallow_none, A1_store, A1_nilCheckI, nilOk_ptr, nilOk_func, A1_bin, A1_eqNil, A1_eqBool, A1_eqAgg, A1_un, A1_conv, A1_field, A1_fieldAddr, A1_indexAddr, A1_indexArr, A1_index, A1_slice, A1_mkSlice, A1_extract, A1_func, A1_call, A1_append, A1_len, A1_minmax, put_some, put_none, upd_at, ev_tmp, ev_av, bin_lss, bin_leq, bin_gtr, bin_geq, bin_eql, bin_neq, bin_add, bin_sub, bin_mul, un_not, natOf_nat, Bool.not_eq_false', Prod.mk.injEq, and_assoc, decide_false, decide_true, Bool.not_false, Bool.not_true, Bool.true_eq_false, Bool.false_eq_true, exists_false, Bool.not_eq_false, Bool.not_not, AV.val.injEq, AV.ptr.injEq, AV.slice.injEq, AV.func.injEq, AV.tuple.injEq, AV.agg.injEq, Value.bool.injEq, Value.int.injEq, Option.some.injEq, exists_eq_left', exists_eq_left, exists_and_left, exists_and_right, and_true, true_and, decide_eq_true_eq, decide_eq_false_iff_not, if_true, if_false, Bool.not_eq_true', beq_true, beq_false, ne_eq, not_true_eq_false, not_false_eq_true, reduceCtorEq, List.getD_cons_zero, List.getD_cons_succ, List.map_cons, List.map_nil, List.append_nil, Nat.reduceEqDiff, reduceIte, ite_true, ite_false, or_true, true_or, or_false, false_or, resA, resultsA, true_imp_iff, false_imp_iff, implies_true, imp_false, and_self, imp_self, and_false, false_and, forall_const, cell_val, cell_ptr, cell_slice, cell_func, cell_hole, cells_agg, cells_val, cells_ptr, cells_slice, cells_func, cells_hole, cells_cell, List.length_cons, List.length_nil, List.all_cons, List.all_nil, Bool.and_self, ldA, List.mapM_cons, List.mapM_nil, Option.bind_eq_bind, Option.bind_some, Option.pure_def, Option.map_none, Option.map_some, List.set_cons_zero, List.set_cons_succ, Nat.lt_add_one, List.append_assoc, List.cons_append, List.nil_append, List.append_nil, List.length_append, rd1_n0, rd1_nK, rd1_c0, rd1_cS, rd_n0, rd_nK, rd_c0, rd_cS, fillA, List.take_zero, List.take_succ_cons, List.take_nil, List.drop_zero, List.drop_succ_cons, List.drop_nil, List.getElem?_cons_zero, List.getElem?_cons_succ, Nat.reduceAdd, Nat.reduceLeDiff, Nat.add_eq_zero_iff, and_self, Nat.zero_add, Nat.add_zero, Nat.mul_one, hl1, hl2, *]) | (simp only [goO, AO_nil, then_normal, goC]) | (with_reducible apply And.intro) | (with_reducible intro _))
    all_goals (exfalso; omega)
  · have b0 : blk (h ++ [some [v1, v2]]) h.length = some [v1, v2] := blk_app_new
    have e1 : ¬ (100 : Int) < (has.length : Int) := by omega
    have e2 : ¬ (100 : Int) < (roots.length : Int) := by omega
    clear hL
    simp only [c_wk_check]
    repeat' (first | (simp only [AW_next, AW_ops, AW_cond, AW_block, AW_exit, AW_ret, AW_skip, AW_scope, AO_nil, AO_next, AO_nextW, wantB_bool, wantK_some, then_normal, then_exit, then_ret, inBlk_normal, inBlk_exit, inBlk_ret, A1_mv, A1_pick, A1_box, A1_zero, A1_build, A1_lits, A1_load, shallow_none, A1_store, A1_nilCheckI, nilOk_ptr, nilOk_func, A1_bin, A1_eqNil, A1_eqBool, A1_eqAgg, A1_un, A1_conv, A1_field, A1_fieldAddr, A1_indexAddr, A1_indexArr, A1_index, A1_slice, A1_mkSlice, A1_extract, A1_func, A1_call, A1_append, A1_len, A1_minmax, put_some, put_none, upd_at, ev_tmp, ev_av, bin_lss, bin_leq, bin_gtr, bin_geq, bin_eql, bin_neq, bin_add, bin_sub, bin_mul, un_not, natOf_nat, Bool.not_eq_false', Prod.mk.injEq, and_assoc, decide_false, decide_true, Bool.not_false, Bool.not_true, Bool.true_eq_false, Bool.false_eq_true, exists_false, Bool.not_eq_false, Bool.not_not, AV.val.injEq, AV.ptr.injEq, AV.slice.injEq, AV.func.injEq, AV.tuple.injEq, AV.agg.injEq, Value.bool.injEq, Value.int.injEq, Option.some.injEq, exists_eq_left', exists_eq_left, exists_and_left, exists_and_right, and_true, true_and, decide_eq_true_eq, decide_eq_false_iff_not, if_true, if_false, Bool.not_eq_true', beq_true, beq_false, ne_eq, not_true_eq_false, not_false_eq_true, reduceCtorEq, List.getD_cons_zero, List.getD_cons_succ, List.map_cons, List.map_nil, List.append_nil, Nat.reduceEqDiff, reduceIte, ite_true, ite_false, or_true, true_or, or_false, false_or, resA, resultsA, true_imp_iff, false_imp_iff, implies_true, imp_false, and_self, imp_self, and_false, false_and, forall_const, cell_val, cell_ptr, cell_slice, cell_func, cell_hole, cells_agg, cells_val, cells_ptr, cells_slice, cells_func, cells_hole, cells_cell, List.length_cons, List.length_nil, List.all_cons, List.all_nil, Bool.and_self, ldA, List.mapM_cons, List.mapM_nil, Option.bind_eq_bind, Option.bind_some, Option.pure_def, Option.map_none, Option.map_some, List.set_cons_zero, List.set_cons_succ, Nat.lt_add_one, List.append_assoc, List.cons_append, List.nil_append, List.append_nil, List.length_append, rd1_n0, rd1_nK, rd1_c0, rd1_cS, rd_n0, rd_nK, rd_c0, rd_cS, fillA, List.take_zero, List.take_succ_cons, List.take_nil, List.drop_zero, List.drop_succ_cons, List.drop_nil, List.getElem?_cons_zero, List.getElem?_cons_succ, Nat.reduceAdd, Nat.reduceLeDiff, Nat.add_eq_zero_iff, and_self, Nat.zero_add, Nat.add_zero, Nat.mul_one, rd1_of b0, hl1, hl2, List.getElem?_cons_zero, List.getElem?_cons_succ, *]) | (simp only [goO, AO_nil, then_normal, goC]) | (with_reducible apply And.intro) | (with_reducible intro _))
    have hLB : has.length < 1000 := by omega
    have hRB : roots.length < 1000 := by omega
    refine AW.named fun S hS => ?_
    have g1 : S 1 = .ptr h.length 0 := by rw [hS]; rfl
    have g3 : S 3 = I64 has.length := by rw [hS]; rfl
    have g22 : S 22 = v1 := by rw [hS]; rfl
    have g23 : S 23 = I64 has.length := by rw [hS]; rfl
    have g24 : S 24 = I64 (0 : Nat) := by rw [hS]; rfl
    clear hS
    refine AW_for has.length (by omega) g24 g23 rfl rfl (by decide) (fun k s' h' => h' = h ++ [some [v1, v2]] ∧ PreShort has k) ⟨rfl, fun i hi hk => by omega⟩ ?_ ?_
    · rintro k s' h' hk ⟨rfl, hle⟩ hi hl hs
      have f22 := (hs 22 rfl).trans g22
      clear hs g1 g3 g22 g23 g24
      obtain ⟨id, off, lb, ex, u, rfl, hrd, hu⟩ := h1.atE hk
      have hul := hu.len
      repeat' (first | (simp only [AW_next, AW_ops, AW_cond, AW_block, AW_exit, AW_ret, AW_skip, AW_scope, AO_nil, AO_next, AO_nextW, wantB_bool, wantK_some, then_normal, then_exit, then_ret, inBlk_normal, inBlk_exit, inBlk_ret, A1_mv, A1_pick, A1_box, A1_zero, A1_build, A1_lits, A1_load, shallow_none, A1_store, A1_nilCheckI, nilOk_ptr, nilOk_func, A1_bin, A1_eqNil, A1_eqBool, A1_eqAgg, A1_un, A1_conv, A1_field, A1_fieldAddr, A1_indexAddr, A1_indexArr, A1_index, A1_slice, A1_mkSlice, A1_extract, A1_func, A1_call, A1_append, A1_len, A1_minmax, put_some, put_none, upd_at, ev_tmp, ev_av, bin_lss, bin_leq, bin_gtr, bin_geq, bin_eql, bin_neq, bin_add, bin_sub, bin_mul, un_not, natOf_nat, Bool.not_eq_false', Prod.mk.injEq, and_assoc, decide_false, decide_true, Bool.not_false, Bool.not_true, Bool.true_eq_false, Bool.false_eq_true, exists_false, Bool.not_eq_false, Bool.not_not, AV.val.injEq, AV.ptr.injEq, AV.slice.injEq, AV.func.injEq, AV.tuple.injEq, AV.agg.injEq, Value.bool.injEq, Value.int.injEq, Option.some.injEq, exists_eq_left', exists_eq_left, exists_and_left, exists_and_right, and_true, true_and, decide_eq_true_eq, decide_eq_false_iff_not, if_true, if_false, Bool.not_eq_true', beq_true, beq_false, ne_eq, not_true_eq_false, not_false_eq_true, reduceCtorEq, List.getD_cons_zero, List.getD_cons_succ, List.map_cons, List.map_nil, List.append_nil, Nat.reduceEqDiff, reduceIte, ite_true, ite_false, or_true, true_or, or_false, false_or, resA, resultsA, true_imp_iff, false_imp_iff, implies_true, imp_false, and_self, imp_self, and_false, false_and, forall_const, cell_val, cell_ptr, cell_slice, cell_func, cell_hole, cells_agg, cells_val, cells_ptr, cells_slice, cells_func, cells_hole, cells_cell, List.length_cons, List.length_nil, List.all_cons, List.all_nil, Bool.and_self, ldA, List.mapM_cons, List.mapM_nil, Option.bind_eq_bind, Option.bind_some, Option.pure_def, Option.map_none, Option.map_some, List.set_cons_zero, List.set_cons_succ, Nat.lt_add_one, List.append_assoc, List.cons_append, List.nil_append, List.append_nil, List.length_append, rd1_n0, rd1_nK, rd1_c0, rd1_cS, rd_n0, rd_nK, rd_c0, rd_cS, fillA, List.take_zero, List.take_succ_cons, List.take_nil, List.drop_zero, List.drop_succ_cons, List.drop_nil, List.getElem?_cons_zero, List.getElem?_cons_succ, Nat.reduceAdd, Nat.reduceLeDiff, Nat.add_eq_zero_iff, and_self, Nat.zero_add, Nat.add_zero, Nat.mul_one, hrd, hul, *]) | (simp only [goO, AO_nil, then_normal, goC]) | (with_reducible apply And.intro) | (with_reducible intro _))
      · rename_i h10
        have := hK [some [.slice id off has.length lb ex 1, v2]]
        have hC : checkE has roots = 2 := by
          unfold checkE
          rw [if_neg (by omega), if_pos ⟨has[k], List.getElem_mem _, by omega⟩]
        rw [hC] at this; exact this
      · rename_i h10
        intro i hi' hik
        by_cases e : i = k
        · subst e; omega
        · exact hle i hi' (by omega)
    · rintro s' h' ⟨rfl, hle⟩ hs
      have f1 := (hs 1 rfl).trans g1
      have f3 := (hs 3 rfl).trans g3
      clear hs g1 g3 g22 g23 g24
      obtain ⟨vs, hvl, hvs, hvi⟩ := h1
      have hrow : ∀ e, rowOf (h ++ e) 1 v1 = some (has.length, vs) := fun e => (hvs.ext e).row
      have hc0 : LL (h ++ [some [v1, v2], some [v2]]) v1 has := LL.ext _ ⟨vs, hvl, hvs, hvi⟩
      obtain ⟨va, ea, happ, hsa, _⟩ := append_full (fl := fl) (h := h ++ [some [v1, v2], some [v2]]) (k := 1) (bytes := 24) (x := .slice (h.length + 1) 0 1 1 true 1) (old := [v2]) (n0 := 1) (n := has.length) (cs := vs)
        ⟨rfl, .inr ⟨h.length + 1, 0, 1, true, [v2], rfl, Nat.le_refl _, by rw [blk_atK]; rfl, by simp, by simp⟩⟩ (.inr ⟨_, _, rfl⟩) (by omega) (by unfold reach; omega)
      have hall : LL (h ++ [some [v1, v2], some [v2]] ++ ea) va (roots :: has) := by
        refine ⟨v2 :: vs, by simp [hvl], by simpa [Nat.add_comm] using hsa, fun i hi hv => ?_⟩
        cases i with
        | zero => exact (h2.ext _).ext _
        | succ i =>
          simp only [List.getElem_cons_succ]
          exact ((hvi i (by simpa using hi) (by simpa using hv)).ext _).ext _
      obtain ⟨all, hal⟩ : ∃ all, all = roots :: has := ⟨_, rfl⟩
      rw [← hal] at hall
      have hL := hall.len
      have hN : all.length < 1000 := by rw [hal]; simp; omega
      obtain ⟨H, hH⟩ : ∃ H, H = h ++ [some [v1, v2], some [v2]] ++ ea := ⟨_, rfl⟩
      rw [← hH] at happ hall hsa
      have hKH : K (I64 (checkE has roots)) H := by rw [hH, List.append_assoc]; exact hK _
      clear hH
      have HAL := Lib.hid hal
      clear hal
      repeat' (first | (simp only [AW_next, AW_ops, AW_cond, AW_block, AW_exit, AW_ret, AW_skip, AW_scope, AO_nil, AO_next, AO_nextW, wantB_bool, wantK_some, then_normal, then_exit, then_ret, inBlk_normal, inBlk_exit, inBlk_ret, A1_mv, A1_pick, A1_box, A1_zero, A1_build, A1_lits, A1_load, shallow_none, A1_store, A1_nilCheckI, nilOk_ptr, nilOk_func, A1_bin, A1_eqNil, A1_eqBool, A1_eqAgg, A1_un, A1_conv, A1_field, A1_fieldAddr, A1_indexAddr, A1_indexArr, A1_index, A1_slice, A1_mkSlice, A1_extract, A1_func, A1_call, A1_append, A1_len, A1_minmax, put_some, put_none, upd_at, ev_tmp, ev_av, bin_lss, bin_leq, bin_gtr, bin_geq, bin_eql, bin_neq, bin_add, bin_sub, bin_mul, un_not, natOf_nat, Bool.not_eq_false', Prod.mk.injEq, and_assoc, decide_false, decide_true, Bool.not_false, Bool.not_true, Bool.true_eq_false, Bool.false_eq_true, exists_false, Bool.not_eq_false, Bool.not_not, AV.val.injEq, AV.ptr.injEq, AV.slice.injEq, AV.func.injEq, AV.tuple.injEq, AV.agg.injEq, Value.bool.injEq, Value.int.injEq, Option.some.injEq, exists_eq_left', exists_eq_left, exists_and_left, exists_and_right, and_true, true_and, decide_eq_true_eq, decide_eq_false_iff_not, if_true, if_false, Bool.not_eq_true', beq_true, beq_false, ne_eq, not_true_eq_false, not_false_eq_true, reduceCtorEq, List.getD_cons_zero, List.getD_cons_succ, List.map_cons, List.map_nil, List.append_nil, Nat.reduceEqDiff, reduceIte, ite_true, ite_false, or_true, true_or, or_false, false_or, resA, resultsA, true_imp_iff, false_imp_iff, implies_true, imp_false, and_self, imp_self, and_false, false_and, forall_const, cell_val, cell_ptr, cell_slice, cell_func, cell_hole, cells_agg, cells_val, cells_ptr, cells_slice, cells_func, cells_hole, cells_cell, List.length_cons, List.length_nil, List.all_cons, List.all_nil, Bool.and_self, ldA, List.mapM_cons, List.mapM_nil, Option.bind_eq_bind, Option.bind_some, Option.pure_def, Option.map_none, Option.map_some, List.set_cons_zero, List.set_cons_succ, Nat.lt_add_one, List.append_assoc, List.cons_append, List.nil_append, List.append_nil, List.length_append, rd1_n0, rd1_nK, rd1_c0, rd1_cS, rd_n0, rd_nK, rd_c0, rd_cS, fillA, List.take_zero, List.take_succ_cons, List.take_nil, List.drop_zero, List.drop_succ_cons, List.drop_nil, List.getElem?_cons_zero, List.getElem?_cons_succ, Nat.reduceAdd, Nat.reduceLeDiff, Nat.add_eq_zero_iff, and_self, Nat.zero_add, Nat.add_zero, Nat.mul_one, hrow, happ, hL, *]) | (simp only [goO, AO_nil, then_normal, goC]) | (with_reducible apply And.intro) | (with_reducible intro _))
      refine AW.named fun S hS => ?_
      have g3 : S 3 = I64 has.length := by rw [hS]; simp only [upd_at, reduceIte, Nat.reduceEqDiff, f3]
      have g37 : S 37 = va := by rw [hS]; rfl
      have g38 : S 38 = I64 all.length := by rw [hS]; rfl
      have g39 : S 39 = I64 (0 : Nat) := by rw [hS]; rfl
      clear hS
      refine AW_for all.length (by omega) g39 g38 rfl rfl (by decide) (fun k s' h' => h' = H ∧ PreAll has.length all k) ⟨rfl, fun i hi hk => by omega⟩ ?_ ?_
      · rintro k s' h' hk ⟨rfl, hin⟩ hi hl hs
        have f37 := (hs 37 rfl).trans g37
        have f3 := (hs 3 rfl).trans g3
        clear hs g3 g37 g38 g39
        obtain ⟨id, off, lb, ex, u, rfl, _, hrd, hu⟩ := hall.at hk
        have hul := hu.len
        repeat' (first | (simp only [AW_next, AW_ops, AW_cond, AW_block, AW_exit, AW_ret, AW_skip, AW_scope, AO_nil, AO_next, AO_nextW, wantB_bool, wantK_some, then_normal, then_exit, then_ret, inBlk_normal, inBlk_exit, inBlk_ret, A1_mv, A1_pick, A1_box, A1_zero, A1_build, A1_lits, A1_load, shallow_none, A1_store, A1_nilCheckI, nilOk_ptr, nilOk_func, A1_bin, A1_eqNil, A1_eqBool, A1_eqAgg, A1_un, A1_conv, A1_field, A1_fieldAddr, A1_indexAddr, A1_indexArr, A1_index, A1_slice, A1_mkSlice, A1_extract, A1_func, A1_call, A1_append, A1_len, A1_minmax, put_some, put_none, upd_at, ev_tmp, ev_av, bin_lss, bin_leq, bin_gtr, bin_geq, bin_eql, bin_neq, bin_add, bin_sub, bin_mul, un_not, natOf_nat, Bool.not_eq_false', Prod.mk.injEq, and_assoc, decide_false, decide_true, Bool.not_false, Bool.not_true, Bool.true_eq_false, Bool.false_eq_true, exists_false, Bool.not_eq_false, Bool.not_not, AV.val.injEq, AV.ptr.injEq, AV.slice.injEq, AV.func.injEq, AV.tuple.injEq, AV.agg.injEq, Value.bool.injEq, Value.int.injEq, Option.some.injEq, exists_eq_left', exists_eq_left, exists_and_left, exists_and_right, and_true, true_and, decide_eq_true_eq, decide_eq_false_iff_not, if_true, if_false, Bool.not_eq_true', beq_true, beq_false, ne_eq, not_true_eq_false, not_false_eq_true, reduceCtorEq, List.getD_cons_zero, List.getD_cons_succ, List.map_cons, List.map_nil, List.append_nil, Nat.reduceEqDiff, reduceIte, ite_true, ite_false, or_true, true_or, or_false, false_or, resA, resultsA, true_imp_iff, false_imp_iff, implies_true, imp_false, and_self, imp_self, and_false, false_and, forall_const, cell_val, cell_ptr, cell_slice, cell_func, cell_hole, cells_agg, cells_val, cells_ptr, cells_slice, cells_func, cells_hole, cells_cell, List.length_cons, List.length_nil, List.all_cons, List.all_nil, Bool.and_self, ldA, List.mapM_cons, List.mapM_nil, Option.bind_eq_bind, Option.bind_some, Option.pure_def, Option.map_none, Option.map_some, List.set_cons_zero, List.set_cons_succ, Nat.lt_add_one, List.append_assoc, List.cons_append, List.nil_append, List.append_nil, List.length_append, rd1_n0, rd1_nK, rd1_c0, rd1_cS, rd_n0, rd_nK, rd_c0, rd_cS, fillA, List.take_zero, List.take_succ_cons, List.take_nil, List.drop_zero, List.drop_succ_cons, List.drop_nil, List.getElem?_cons_zero, List.getElem?_cons_succ, Nat.reduceAdd, Nat.reduceLeDiff, Nat.add_eq_zero_iff, and_self, Nat.zero_add, Nat.add_zero, Nat.mul_one, hrd, hul, *]) | (simp only [goO, AO_nil, then_normal, goC]) | (with_reducible apply And.intro) | (with_reducible intro _))
        refine AW.named fun S hS => ?_
        have g3 : S 3 = I64 has.length := by rw [hS]; simp only [upd_at, reduceIte, Nat.reduceEqDiff, f3]
        have g43 : S 43 = u := by rw [hS]; rfl
        have g44 : S 44 = I64 all[k].length := by rw [hS]; rfl
        have g45 : S 45 = I64 (0 : Nat) := by rw [hS]; rfl
        have i39 : S 39 = I64 k := by rw [hS]; simp only [upd_at, reduceIte, Nat.reduceEqDiff, hi]
        have hub : all[k].length < 1000000 := by
          have hm : all[k] ∈ roots :: has := by rw [← HAL.out]; exact List.getElem_mem _
          rcases List.mem_cons.1 hm with e | e
          · rw [e]; omega
          · obtain ⟨i, hi, e⟩ := List.getElem_of_mem e
            have := hle i hi hi
            rw [e] at this; omega
        clear hS
        refine AW_for all[k].length (by omega) g45 g44 rfl rfl (by decide) (fun j s2 h2 => h2 = h' ∧ PreIn has.length all[k] j) ⟨rfl, .zero⟩ ?_ ?_
        · rintro j s2 h2 hj ⟨rfl, hjn⟩ hi2 hl2 hs2
          have q43 := (hs2 43 rfl).trans g43
          have q3 := (hs2 3 rfl).trans g3
          clear hs2 g3 g43 g44 g45
          obtain ⟨id2, off2, lb2, ex2, rfl, _, hrd2⟩ := hu.at hj
          repeat' (first | (simp only [AW_next, AW_ops, AW_cond, AW_block, AW_exit, AW_ret, AW_skip, AW_scope, AO_nil, AO_next, AO_nextW, wantB_bool, wantK_some, then_normal, then_exit, then_ret, inBlk_normal, inBlk_exit, inBlk_ret, A1_mv, A1_pick, A1_box, A1_zero, A1_build, A1_lits, A1_load, shallow_none, A1_store, A1_nilCheckI, nilOk_ptr, nilOk_func, A1_bin, A1_eqNil, A1_eqBool, A1_eqAgg, A1_un, A1_conv, A1_field, A1_fieldAddr, A1_indexAddr, A1_indexArr, A1_index, A1_slice, A1_mkSlice, A1_extract, A1_func, A1_call, A1_append, A1_len, A1_minmax, put_some, put_none, upd_at, ev_tmp, ev_av, bin_lss, bin_leq, bin_gtr, bin_geq, bin_eql, bin_neq, bin_add, bin_sub, bin_mul, un_not, natOf_nat, Bool.not_eq_false', Prod.mk.injEq, and_assoc, decide_false, decide_true, Bool.not_false, Bool.not_true, Bool.true_eq_false, Bool.false_eq_true, exists_false, Bool.not_eq_false, Bool.not_not, AV.val.injEq, AV.ptr.injEq, AV.slice.injEq, AV.func.injEq, AV.tuple.injEq, AV.agg.injEq, Value.bool.injEq, Value.int.injEq, Option.some.injEq, exists_eq_left', exists_eq_left, exists_and_left, exists_and_right, and_true, true_and, decide_eq_true_eq, decide_eq_false_iff_not, if_true, if_false, Bool.not_eq_true', beq_true, beq_false, ne_eq, not_true_eq_false, not_false_eq_true, reduceCtorEq, List.getD_cons_zero, List.getD_cons_succ, List.map_cons, List.map_nil, List.append_nil, Nat.reduceEqDiff, reduceIte, ite_true, ite_false, or_true, true_or, or_false, false_or, resA, resultsA, true_imp_iff, false_imp_iff, implies_true, imp_false, and_self, imp_self, and_false, false_and, forall_const, cell_val, cell_ptr, cell_slice, cell_func, cell_hole, cells_agg, cells_val, cells_ptr, cells_slice, cells_func, cells_hole, cells_cell, List.length_cons, List.length_nil, List.all_cons, List.all_nil, Bool.and_self, ldA, List.mapM_cons, List.mapM_nil, Option.bind_eq_bind, Option.bind_some, Option.pure_def, Option.map_none, Option.map_some, List.set_cons_zero, List.set_cons_succ, Nat.lt_add_one, List.append_assoc, List.cons_append, List.nil_append, List.append_nil, List.length_append, rd1_n0, rd1_nK, rd1_c0, rd1_cS, rd_n0, rd_nK, rd_c0, rd_cS, fillA, List.take_zero, List.take_succ_cons, List.take_nil, List.drop_zero, List.drop_succ_cons, List.drop_nil, List.getElem?_cons_zero, List.getElem?_cons_succ, Nat.reduceAdd, Nat.reduceLeDiff, Nat.add_eq_zero_iff, and_self, Nat.zero_add, Nat.add_zero, Nat.mul_one, hrd2, *]) | (simp only [goO, AO_nil, then_normal, goC]) | (with_reducible apply And.intro) | (with_reducible intro _))
          refine in_am ?_
          repeat' (first | (simp only [AW_next, AW_ops, AW_cond, AW_block, AW_exit, AW_ret, AW_skip, AW_scope, AO_nil, AO_next, AO_nextW, wantB_bool, wantK_some, then_normal, then_exit, then_ret, inBlk_normal, inBlk_exit, inBlk_ret, A1_mv, A1_pick, A1_box, A1_zero, A1_build, A1_lits, A1_load, shallow_none, A1_store, A1_nilCheckI, nilOk_ptr, nilOk_func, A1_bin, A1_eqNil, A1_eqBool, A1_eqAgg, A1_un, A1_conv, A1_field, A1_fieldAddr, A1_indexAddr, A1_indexArr, A1_index, A1_slice, A1_mkSlice, A1_extract, A1_func, A1_call, A1_append, A1_len, A1_minmax, put_some, put_none, upd_at, ev_tmp, ev_av, bin_lss, bin_leq, bin_gtr, bin_geq, bin_eql, bin_neq, bin_add, bin_sub, bin_mul, un_not, natOf_nat, Bool.not_eq_false', Prod.mk.injEq, and_assoc, decide_false, decide_true, Bool.not_false, Bool.not_true, Bool.true_eq_false, Bool.false_eq_true, exists_false, Bool.not_eq_false, Bool.not_not, AV.val.injEq, AV.ptr.injEq, AV.slice.injEq, AV.func.injEq, AV.tuple.injEq, AV.agg.injEq, Value.bool.injEq, Value.int.injEq, Option.some.injEq, exists_eq_left', exists_eq_left, exists_and_left, exists_and_right, and_true, true_and, decide_eq_true_eq, decide_eq_false_iff_not, if_true, if_false, Bool.not_eq_true', beq_true, beq_false, ne_eq, not_true_eq_false, not_false_eq_true, reduceCtorEq, List.getD_cons_zero, List.getD_cons_succ, List.map_cons, List.map_nil, List.append_nil, Nat.reduceEqDiff, reduceIte, ite_true, ite_false, or_true, true_or, or_false, false_or, resA, resultsA, true_imp_iff, false_imp_iff, implies_true, imp_false, and_self, imp_self, and_false, false_and, forall_const, cell_val, cell_ptr, cell_slice, cell_func, cell_hole, cells_agg, cells_val, cells_ptr, cells_slice, cells_func, cells_hole, cells_cell, List.length_cons, List.length_nil, List.all_cons, List.all_nil, Bool.and_self, ldA, List.mapM_cons, List.mapM_nil, Option.bind_eq_bind, Option.bind_some, Option.pure_def, Option.map_none, Option.map_some, List.set_cons_zero, List.set_cons_succ, Nat.lt_add_one, List.append_assoc, List.cons_append, List.nil_append, List.append_nil, List.length_append, rd1_n0, rd1_nK, rd1_c0, rd1_cS, rd_n0, rd_nK, rd_c0, rd_cS, fillA, List.take_zero, List.take_succ_cons, List.take_nil, List.drop_zero, List.drop_succ_cons, List.drop_nil, List.getElem?_cons_zero, List.getElem?_cons_succ, Nat.reduceAdd, Nat.reduceLeDiff, Nat.add_eq_zero_iff, and_self, Nat.zero_add, Nat.add_zero, Nat.mul_one, *]) | (simp only [goO, AO_nil, then_normal, goC]) | (with_reducible apply And.intro) | (with_reducible intro _))
          · rename_i hn
            have hC : checkE has roots = 3 := by
              unfold checkE
              rw [if_neg (by omega), if_neg, if_neg]
              · intro hall'
                exact hn (hall' all[k] (by rw [← HAL.out]; exact List.getElem_mem _) _ (List.getElem_mem _))
              · rintro ⟨l, hl, hlt⟩
                obtain ⟨i, hi, rfl⟩ := List.getElem_of_mem hl
                have := hle i hi hi
                omega
            rw [hC] at hKH; exact hKH
          · rename_i hy
            exact hjn.succ hj hy
        · rintro s2 h2 ⟨rfl, hjn⟩ hs2
          repeat' (first | (simp only [AW_next, AW_ops, AW_cond, AW_block, AW_exit, AW_ret, AW_skip, AW_scope, AO_nil, AO_next, AO_nextW, wantB_bool, wantK_some, then_normal, then_exit, then_ret, inBlk_normal, inBlk_exit, inBlk_ret, A1_mv, A1_pick, A1_box, A1_zero, A1_build, A1_lits, A1_load, shallow_none, A1_store, A1_nilCheckI, nilOk_ptr, nilOk_func, A1_bin, A1_eqNil, A1_eqBool, A1_eqAgg, A1_un, A1_conv, A1_field, A1_fieldAddr, A1_indexAddr, A1_indexArr, A1_index, A1_slice, A1_mkSlice, A1_extract, A1_func, A1_call, A1_append, A1_len, A1_minmax, put_some, put_none, upd_at, ev_tmp, ev_av, bin_lss, bin_leq, bin_gtr, bin_geq, bin_eql, bin_neq, bin_add, bin_sub, bin_mul, un_not, natOf_nat, Bool.not_eq_false', Prod.mk.injEq, and_assoc, decide_false, decide_true, Bool.not_false, Bool.not_true, Bool.true_eq_false, Bool.false_eq_true, exists_false, Bool.not_eq_false, Bool.not_not, AV.val.injEq, AV.ptr.injEq, AV.slice.injEq, AV.func.injEq, AV.tuple.injEq, AV.agg.injEq, Value.bool.injEq, Value.int.injEq, Option.some.injEq, exists_eq_left', exists_eq_left, exists_and_left, exists_and_right, and_true, true_and, decide_eq_true_eq, decide_eq_false_iff_not, if_true, if_false, Bool.not_eq_true', beq_true, beq_false, ne_eq, not_true_eq_false, not_false_eq_true, reduceCtorEq, List.getD_cons_zero, List.getD_cons_succ, List.map_cons, List.map_nil, List.append_nil, Nat.reduceEqDiff, reduceIte, ite_true, ite_false, or_true, true_or, or_false, false_or, resA, resultsA, true_imp_iff, false_imp_iff, implies_true, imp_false, and_self, imp_self, and_false, false_and, forall_const, cell_val, cell_ptr, cell_slice, cell_func, cell_hole, cells_agg, cells_val, cells_ptr, cells_slice, cells_func, cells_hole, cells_cell, List.length_cons, List.length_nil, List.all_cons, List.all_nil, Bool.and_self, ldA, List.mapM_cons, List.mapM_nil, Option.bind_eq_bind, Option.bind_some, Option.pure_def, Option.map_none, Option.map_some, List.set_cons_zero, List.set_cons_succ, Nat.lt_add_one, List.append_assoc, List.cons_append, List.nil_append, List.append_nil, List.length_append, rd1_n0, rd1_nK, rd1_c0, rd1_cS, rd_n0, rd_nK, rd_c0, rd_cS, fillA, List.take_zero, List.take_succ_cons, List.take_nil, List.drop_zero, List.drop_succ_cons, List.drop_nil, List.getElem?_cons_zero, List.getElem?_cons_succ, Nat.reduceAdd, Nat.reduceLeDiff, Nat.add_eq_zero_iff, and_self, Nat.zero_add, Nat.add_zero, Nat.mul_one, *]) | (simp only [goO, AO_nil, then_normal, goC]) | (with_reducible apply And.intro) | (with_reducible intro _))
          exact hin.succ hk hjn
      · rintro s2 h2 ⟨rfl, hin⟩ hs2
        clear hs2
        repeat' (first | (simp only [AW_next, AW_ops, AW_cond, AW_block, AW_exit, AW_ret, AW_skip, AW_scope, AO_nil, AO_next, AO_nextW, wantB_bool, wantK_some, then_normal, then_exit, then_ret, inBlk_normal, inBlk_exit, inBlk_ret, A1_mv, A1_pick, A1_box, A1_zero, A1_build, A1_lits, A1_load, shallow_none, A1_store, A1_nilCheckI, nilOk_ptr, nilOk_func, A1_bin, A1_eqNil, A1_eqBool, A1_eqAgg, A1_un, A1_conv, A1_field, A1_fieldAddr, A1_indexAddr, A1_indexArr, A1_index, A1_slice, A1_mkSlice, A1_extract, A1_func, A1_call, A1_append, A1_len, A1_minmax, put_some, put_none, upd_at, ev_tmp, ev_av, bin_lss, bin_leq, bin_gtr, bin_geq, bin_eql, bin_neq, bin_add, bin_sub, bin_mul, un_not, natOf_nat, Bool.not_eq_false', Prod.mk.injEq, and_assoc, decide_false, decide_true, Bool.not_false, Bool.not_true, Bool.true_eq_false, Bool.false_eq_true, exists_false, Bool.not_eq_false, Bool.not_not, AV.val.injEq, AV.ptr.injEq, AV.slice.injEq, AV.func.injEq, AV.tuple.injEq, AV.agg.injEq, Value.bool.injEq, Value.int.injEq, Option.some.injEq, exists_eq_left', exists_eq_left, exists_and_left, exists_and_right, and_true, true_and, decide_eq_true_eq, decide_eq_false_iff_not, if_true, if_false, Bool.not_eq_true', beq_true, beq_false, ne_eq, not_true_eq_false, not_false_eq_true, reduceCtorEq, List.getD_cons_zero, List.getD_cons_succ, List.map_cons, List.map_nil, List.append_nil, Nat.reduceEqDiff, reduceIte, ite_true, ite_false, or_true, true_or, or_false, false_or, resA, resultsA, true_imp_iff, false_imp_iff, implies_true, imp_false, and_self, imp_self, and_false, false_and, forall_const, cell_val, cell_ptr, cell_slice, cell_func, cell_hole, cells_agg, cells_val, cells_ptr, cells_slice, cells_func, cells_hole, cells_cell, List.length_cons, List.length_nil, List.all_cons, List.all_nil, Bool.and_self, ldA, List.mapM_cons, List.mapM_nil, Option.bind_eq_bind, Option.bind_some, Option.pure_def, Option.map_none, Option.map_some, List.set_cons_zero, List.set_cons_succ, Nat.lt_add_one, List.append_assoc, List.cons_append, List.nil_append, List.append_nil, List.length_append, rd1_n0, rd1_nK, rd1_c0, rd1_cS, rd_n0, rd_nK, rd_c0, rd_cS, fillA, List.take_zero, List.take_succ_cons, List.take_nil, List.drop_zero, List.drop_succ_cons, List.drop_nil, List.getElem?_cons_zero, List.getElem?_cons_succ, Nat.reduceAdd, Nat.reduceLeDiff, Nat.add_eq_zero_iff, and_self, Nat.zero_add, Nat.add_zero, Nat.mul_one, *]) | (simp only [goO, AO_nil, then_normal, goC]) | (with_reducible apply And.intro) | (with_reducible intro _))
        have hC : checkE has roots = 0 := by
          unfold checkE
          rw [if_neg (by omega), if_neg, if_pos]
          · intro l hl x hx
            rw [← HAL.out] at hl
            obtain ⟨i, hi, rfl⟩ := List.getElem_of_mem hl
            exact hin i hi hi x hx
          · rintro ⟨l, hl, hlt⟩
            obtain ⟨i, hi, rfl⟩ := List.getElem_of_mem hl
            have := hle i hi hi
            omega
        rw [hC] at hKH; exact hKH
end Go.Proofs.Ytlgminfejehndaa
