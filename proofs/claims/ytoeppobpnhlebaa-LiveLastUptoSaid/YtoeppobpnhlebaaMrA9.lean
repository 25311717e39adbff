/-
  AM's code of functions, written by am/amprint.lean.
-/
import Derived.KernelRfl
import Derived.Lib.Hide
import Derived.Test.YtoeppobpnhlebaaMrA4
import Derived.Test.YtoeppobpnhlebaaMrA6
import Derived.Test.YtoeppobpnhlebaaMrA7
import Derived.Test.YtoeppobpnhlebaaMrA8
namespace Go.Proofs.Ytoeppobpnhlebaa
open Go Go.RowKit
set_option linter.unusedVariables false
/-- math/bits.Mul: its code in AM. -/
def c_rp_mul : ACode := .seq (.ops [⟨(some 4), .mv (.av (.val (.int .u64 0))), none, true⟩,
      ⟨(some 5), .mv (.av (.val (.int .u64 0))), none, true⟩])
  (.seq (.cond (.av (.val (.bool false)))
    (.seq (.ops [⟨(some 11), .mv (.tmp 0), none, true⟩,
        ⟨(some 12), .conv .u32 (.tmp 11), none, true⟩,
        ⟨(some 13), .mv (.tmp 1), none, true⟩,
        ⟨(some 14), .conv .u32 (.tmp 13), none, true⟩,
        ⟨(some 15), .call (.av (.func 56 [])) [(.tmp 12), (.tmp 14)], none, true⟩,
        ⟨(some 10), .mv (.tmp 15), none, true⟩,
        ⟨(some 16), .extract 0 (.tmp 10), none, true⟩,
        ⟨(some 17), .extract 1 (.tmp 10), none, true⟩,
        ⟨(some 6), .mv (.tmp 16), none, true⟩,
        ⟨(some 7), .mv (.tmp 17), none, true⟩])
    (.seq (.ops [⟨(some 18), .mv (.tmp 6), none, true⟩,
        ⟨(some 19), .conv .u64 (.tmp 18), none, true⟩,
        ⟨(some 20), .mv (.tmp 7), none, true⟩,
        ⟨(some 21), .conv .u64 (.tmp 20), none, true⟩,
        ⟨(some 4), .mv (.tmp 19), none, true⟩,
        ⟨(some 5), .mv (.tmp 21), none, true⟩])
    (.ret)))
    (.skip))
  (.seq (.ops [⟨(some 23), .mv (.tmp 0), none, true⟩,
      ⟨(some 24), .mv (.tmp 1), none, true⟩,
      ⟨(some 25), .call (.av (.func 57 [])) [(.tmp 23), (.tmp 24)], none, true⟩,
      ⟨(some 22), .mv (.tmp 25), none, true⟩,
      ⟨(some 26), .extract 0 (.tmp 22), none, true⟩,
      ⟨(some 27), .extract 1 (.tmp 22), none, true⟩,
      ⟨(some 8), .mv (.tmp 26), none, true⟩,
      ⟨(some 9), .mv (.tmp 27), none, true⟩])
  (.seq (.ops [⟨(some 28), .mv (.tmp 8), none, true⟩,
      ⟨(some 29), .mv (.tmp 9), none, true⟩,
      ⟨(some 4), .mv (.tmp 28), none, true⟩,
      ⟨(some 5), .mv (.tmp 29), none, true⟩])
  (.ret))))
theorem f_rp_mul : cFunc Try.prog 43 = some ⟨30, c_rp_mul, [.tmp 4, .tmp 5]⟩ := by kernel_rfl
/-- math/bits.Mul64: its code in AM. -/
def c_rp_mul64 : ACode := .seq (.ops [⟨(some 4), .mv (.av (.val (.int .u64 0))), none, true⟩,
      ⟨(some 5), .mv (.av (.val (.int .u64 0))), none, true⟩])
  (.seq (.ops [⟨(some 14), .mv (.tmp 0), none, true⟩,
      ⟨(some 15), .bin .and (.tmp 14) (.av (.val (.int .u64 4294967295))), none, true⟩,
      ⟨(some 6), .mv (.tmp 15), none, true⟩])
  (.seq (.ops [⟨(some 16), .mv (.tmp 0), none, true⟩,
      ⟨(some 17), .bin .shr (.tmp 16) (.av (.val (.int .u64 32))), none, true⟩,
      ⟨(some 7), .mv (.tmp 17), none, true⟩])
  (.seq (.ops [⟨(some 18), .mv (.tmp 1), none, true⟩,
      ⟨(some 19), .bin .and (.tmp 18) (.av (.val (.int .u64 4294967295))), none, true⟩,
      ⟨(some 8), .mv (.tmp 19), none, true⟩])
  (.seq (.ops [⟨(some 20), .mv (.tmp 1), none, true⟩,
      ⟨(some 21), .bin .shr (.tmp 20) (.av (.val (.int .u64 32))), none, true⟩,
      ⟨(some 9), .mv (.tmp 21), none, true⟩])
  (.seq (.ops [⟨(some 22), .mv (.tmp 6), none, true⟩,
      ⟨(some 23), .mv (.tmp 8), none, true⟩,
      ⟨(some 24), .bin .mul (.tmp 22) (.tmp 23), none, true⟩,
      ⟨(some 10), .mv (.tmp 24), none, true⟩])
  (.seq (.ops [⟨(some 25), .mv (.tmp 7), none, true⟩,
      ⟨(some 26), .mv (.tmp 8), none, true⟩,
      ⟨(some 27), .bin .mul (.tmp 25) (.tmp 26), none, true⟩,
      ⟨(some 28), .mv (.tmp 10), none, true⟩,
      ⟨(some 29), .bin .shr (.tmp 28) (.av (.val (.int .u64 32))), none, true⟩,
      ⟨(some 30), .bin .add (.tmp 27) (.tmp 29), none, true⟩,
      ⟨(some 11), .mv (.tmp 30), none, true⟩])
  (.seq (.ops [⟨(some 31), .mv (.tmp 11), none, true⟩,
      ⟨(some 32), .bin .and (.tmp 31) (.av (.val (.int .u64 4294967295))), none, true⟩,
      ⟨(some 12), .mv (.tmp 32), none, true⟩])
  (.seq (.ops [⟨(some 33), .mv (.tmp 11), none, true⟩,
      ⟨(some 34), .bin .shr (.tmp 33) (.av (.val (.int .u64 32))), none, true⟩,
      ⟨(some 13), .mv (.tmp 34), none, true⟩])
  (.seq (.ops [⟨(some 35), .mv (.tmp 12), none, true⟩,
      ⟨(some 36), .mv (.tmp 6), none, true⟩,
      ⟨(some 37), .mv (.tmp 9), none, true⟩,
      ⟨(some 38), .bin .mul (.tmp 36) (.tmp 37), none, true⟩,
      ⟨(some 39), .bin .add (.tmp 35) (.tmp 38), none, true⟩,
      ⟨(some 12), .mv (.tmp 39), none, true⟩])
  (.seq (.ops [⟨(some 40), .mv (.tmp 7), none, true⟩,
      ⟨(some 41), .mv (.tmp 9), none, true⟩,
      ⟨(some 42), .bin .mul (.tmp 40) (.tmp 41), none, true⟩,
      ⟨(some 43), .mv (.tmp 13), none, true⟩,
      ⟨(some 44), .bin .add (.tmp 42) (.tmp 43), none, true⟩,
      ⟨(some 45), .mv (.tmp 12), none, true⟩,
      ⟨(some 46), .bin .shr (.tmp 45) (.av (.val (.int .u64 32))), none, true⟩,
      ⟨(some 47), .bin .add (.tmp 44) (.tmp 46), none, true⟩,
      ⟨(some 4), .mv (.tmp 47), none, true⟩])
  (.seq (.ops [⟨(some 48), .mv (.tmp 0), none, true⟩,
      ⟨(some 49), .mv (.tmp 1), none, true⟩,
      ⟨(some 50), .bin .mul (.tmp 48) (.tmp 49), none, true⟩,
      ⟨(some 5), .mv (.tmp 50), none, true⟩])
  (.ret))))))))))))
theorem f_rp_mul64 : cFunc Try.prog 57 = some ⟨51, c_rp_mul64, [.tmp 4, .tmp 5]⟩ := by kernel_rfl
end Go.Proofs.Ytoeppobpnhlebaa

namespace Go.Proofs.Ytoeppobpnhlebaa
open Go Go.RowKit
set_option linter.unusedVariables false
set_option linter.unusedSimpArgs false
section
variable {tb : List (FuncId × Bool)} {fl : Nat → Bool} {h : Heap} {K : AV → Heap → Prop}
abbrev U64 (n : Int) : AV := .val (.int .u64 n)
theorem and_small (n : Nat) (hn : n ≤ 1000) : binV .and (.int .u64 (n : Nat)) (.int .u64 4294967295) = some (.int .u64 (n : Nat)) := by
  have h : ∀ n : _root_.Fin 1001, (match binV .and (.int .u64 ((n.val : Nat) : Int)) (.int .u64 4294967295) with | some (.int .u64 z) => z == ((n.val : Nat) : Int) | _ => false) = true := by decide +kernel
  have := h ⟨n, by omega⟩
  revert this
  simp only
  generalize binV .and (.int .u64 ((n : Nat) : Int)) (.int .u64 4294967295) = r
  intro this
  split at this
  · simp at this; rw [this]
  · cases this
theorem shr_small (n : Nat) (hn : n ≤ 1000) : binV .shr (.int .u64 (n : Nat)) (.int .u64 32) = some (.int .u64 0) := by
  have h : ∀ n : _root_.Fin 1001, (match binV .shr (.int .u64 ((n.val : Nat) : Int)) (.int .u64 32) with | some (.int .u64 z) => z == 0 | _ => false) = true := by decide +kernel
  have := h ⟨n, by omega⟩
  revert this
  generalize binV .shr (.int .u64 ((n : Nat) : Int)) (.int .u64 32) = r
  intro this
  split at this
  · simp at this; rw [this]
  · cases this
theorem mul_u {a b : Int} : binV .mul (.int .u64 a) (.int .u64 b) = some (.int .u64 (IntKind.u64.wrap (a * b))) := by simp [binV]
theorem add_u {a b : Int} : binV .add (.int .u64 a) (.int .u64 b) = some (.int .u64 (IntKind.u64.wrap (a + b))) := by simp [binV]
theorem gtr_u {a b : Int} : binV .gtr (.int .u64 a) (.int .u64 b) = some (.bool (decide (b < a))) := by simp [binV]
theorem mul64_am {n : Nat} (hn : n ≤ 1000) (hK : K (.tuple [U64 0, U64 (n : Nat)]) h) : AC (constX tb) (cFunc Try.prog) 57 [U64 1, U64 (n : Nat)] fl h K := by
  refine AC.enter rfl f_rp_mul64 (by simp) ?_
  simp only [c_rp_mul64]
  have a1 : binV .and (.int .u64 1) (.int .u64 4294967295) = some (.int .u64 1) := and_small 1 (by omega)
  have s1 : binV .shr (.int .u64 1) (.int .u64 32) = some (.int .u64 0) := shr_small 1 (by omega)
  have a0 : binV .and (.int .u64 0) (.int .u64 4294967295) = some (.int .u64 0) := and_small 0 (by omega)
  have s0 : binV .shr (.int .u64 0) (.int .u64 32) = some (.int .u64 0) := shr_small 0 (by omega)
  have an := and_small n hn
  have sn := shr_small n hn
  have w0 : IntKind.u64.wrap 0 = 0 := by rfl
  have wn : IntKind.u64.wrap (n : Int) = (n : Int) := IntWalk.u64_in _ (by omega)
  clear hn
  repeat' (first | (simp only [AW_next, AW_ops, AW_cond, AW_block, AW_exit, AW_ret, AW_skip, AW_scope, AO_nil, AO_next, AO_nextW, wantB_bool, wantK_some, then_normal, then_exit, then_ret, inBlk_normal, inBlk_exit, inBlk_ret, A1_mv, A1_pick, A1_box, A1_zero, A1_build, A1_lits, A1_load, shallow_none, A1_store, A1_nilCheckI, nilOk_ptr, nilOk_func, A1_bin, A1_eqNil, A1_eqBool, A1_eqAgg, A1_un, A1_conv, A1_field, A1_fieldAddr, A1_indexAddr, A1_indexArr, A1_index, A1_slice, A1_mkSlice, A1_extract, A1_func, A1_call, callee_func, callee_bfunc, A1_append, A1_len, A1_minmax, put_some, put_none, upd_at, ev_tmp, ev_av, bin_lss, bin_leq, bin_gtr, bin_geq, bin_eql, bin_neq, bin_add, bin_sub, bin_mul, un_not, natOf_nat, Bool.not_eq_false', Prod.mk.injEq, and_assoc, decide_false, decide_true, Bool.not_false, Bool.not_true, Bool.true_eq_false, Bool.false_eq_true, exists_false, Bool.not_eq_false, Bool.not_not, AV.val.injEq, AV.ptr.injEq, AV.slice.injEq, AV.func.injEq, AV.tuple.injEq, AV.agg.injEq, Value.bool.injEq, Value.int.injEq, Option.some.injEq, exists_eq_left', exists_eq_left, exists_and_left, exists_and_right, and_true, true_and, decide_eq_true_eq, decide_eq_false_iff_not, if_true, if_false, Bool.not_eq_true', beq_true, beq_false, ne_eq, not_true_eq_false, not_false_eq_true, reduceCtorEq, List.getD_cons_zero, List.getD_cons_succ, List.map_cons, List.map_nil, List.append_nil, Nat.reduceEqDiff, reduceIte, ite_true, ite_false, or_true, true_or, or_false, false_or, resA, resultsA, true_imp_iff, false_imp_iff, implies_true, imp_false, and_self, imp_self, and_false, false_and, forall_const, cell_val, cell_ptr, cell_slice, cell_func, cell_hole, cells_agg, cells_val, cells_ptr, cells_slice, cells_func, cells_hole, cells_cell, List.length_cons, List.length_nil, List.all_cons, List.all_nil, Bool.and_self, ldA, List.mapM_cons, List.mapM_nil, Option.bind_eq_bind, Option.bind_some, Option.pure_def, Option.map_none, Option.map_some, List.set_cons_zero, List.set_cons_succ, Nat.lt_add_one, List.append_assoc, List.cons_append, List.nil_append, List.append_nil, List.length_append, rd1_n0, rd1_nK, rd1_c0, rd1_cS, rd_n0, rd_nK, rd_c0, rd_cS, fillA, List.take_zero, List.take_succ_cons, List.take_nil, List.drop_zero, List.drop_succ_cons, List.drop_nil, List.getElem?_cons_zero, List.getElem?_cons_succ, Nat.reduceAdd, Nat.reduceLeDiff, Nat.add_eq_zero_iff, and_self, Nat.zero_add, Nat.add_zero, Nat.mul_one, a1, s1, a0, s0, an, sn, mul_u, add_u, Int.one_mul, Int.zero_mul, Int.mul_zero, Int.add_zero, Int.zero_add, w0, wn, *]) | (simp only [goO, AO_nil, then_normal, goC]) | (with_reducible apply And.intro) | (with_reducible intro _))
theorem mul_am {n : Nat} (hn : n ≤ 1000) (hK : K (.tuple [U64 0, U64 (n : Nat)]) h) : AC (constX tb) (cFunc Try.prog) 43 [U64 1, U64 (n : Nat)] fl h K := by
  refine AC.enter rfl f_rp_mul (by simp) ?_
  simp only [c_rp_mul]
  have HN := Lib.hid hn
  clear hn
  repeat' (first | (simp only [AW_next, AW_ops, AW_cond, AW_block, AW_exit, AW_ret, AW_skip, AW_scope, AO_nil, AO_next, AO_nextW, wantB_bool, wantK_some, then_normal, then_exit, then_ret, inBlk_normal, inBlk_exit, inBlk_ret, A1_mv, A1_pick, A1_box, A1_zero, A1_build, A1_lits, A1_load, shallow_none, A1_store, A1_nilCheckI, nilOk_ptr, nilOk_func, A1_bin, A1_eqNil, A1_eqBool, A1_eqAgg, A1_un, A1_conv, A1_field, A1_fieldAddr, A1_indexAddr, A1_indexArr, A1_index, A1_slice, A1_mkSlice, A1_extract, A1_func, A1_call, callee_func, callee_bfunc, A1_append, A1_len, A1_minmax, put_some, put_none, upd_at, ev_tmp, ev_av, bin_lss, bin_leq, bin_gtr, bin_geq, bin_eql, bin_neq, bin_add, bin_sub, bin_mul, un_not, natOf_nat, Bool.not_eq_false', Prod.mk.injEq, and_assoc, decide_false, decide_true, Bool.not_false, Bool.not_true, Bool.true_eq_false, Bool.false_eq_true, exists_false, Bool.not_eq_false, Bool.not_not, AV.val.injEq, AV.ptr.injEq, AV.slice.injEq, AV.func.injEq, AV.tuple.injEq, AV.agg.injEq, Value.bool.injEq, Value.int.injEq, Option.some.injEq, exists_eq_left', exists_eq_left, exists_and_left, exists_and_right, and_true, true_and, decide_eq_true_eq, decide_eq_false_iff_not, if_true, if_false, Bool.not_eq_true', beq_true, beq_false, ne_eq, not_true_eq_false, not_false_eq_true, reduceCtorEq, List.getD_cons_zero, List.getD_cons_succ, List.map_cons, List.map_nil, List.append_nil, Nat.reduceEqDiff, reduceIte, ite_true, ite_false, or_true, true_or, or_false, false_or, resA, resultsA, true_imp_iff, false_imp_iff, implies_true, imp_false, and_self, imp_self, and_false, false_and, forall_const, cell_val, cell_ptr, cell_slice, cell_func, cell_hole, cells_agg, cells_val, cells_ptr, cells_slice, cells_func, cells_hole, cells_cell, List.length_cons, List.length_nil, List.all_cons, List.all_nil, Bool.and_self, ldA, List.mapM_cons, List.mapM_nil, Option.bind_eq_bind, Option.bind_some, Option.pure_def, Option.map_none, Option.map_some, List.set_cons_zero, List.set_cons_succ, Nat.lt_add_one, List.append_assoc, List.cons_append, List.nil_append, List.append_nil, List.length_append, rd1_n0, rd1_nK, rd1_c0, rd1_cS, rd_n0, rd_nK, rd_c0, rd_cS, fillA, List.take_zero, List.take_succ_cons, List.take_nil, List.drop_zero, List.drop_succ_cons, List.drop_nil, List.getElem?_cons_zero, List.getElem?_cons_succ, Nat.reduceAdd, Nat.reduceLeDiff, Nat.add_eq_zero_iff, and_self, Nat.zero_add, Nat.add_zero, Nat.mul_one, *]) | (simp only [goO, AO_nil, then_normal, goC]) | (with_reducible apply And.intro) | (with_reducible intro _))
  refine mul64_am HN.out ?_
  repeat' (first | (simp only [AW_next, AW_ops, AW_cond, AW_block, AW_exit, AW_ret, AW_skip, AW_scope, AO_nil, AO_next, AO_nextW, wantB_bool, wantK_some, then_normal, then_exit, then_ret, inBlk_normal, inBlk_exit, inBlk_ret, A1_mv, A1_pick, A1_box, A1_zero, A1_build, A1_lits, A1_load, shallow_none, A1_store, A1_nilCheckI, nilOk_ptr, nilOk_func, A1_bin, A1_eqNil, A1_eqBool, A1_eqAgg, A1_un, A1_conv, A1_field, A1_fieldAddr, A1_indexAddr, A1_indexArr, A1_index, A1_slice, A1_mkSlice, A1_extract, A1_func, A1_call, callee_func, callee_bfunc, A1_append, A1_len, A1_minmax, put_some, put_none, upd_at, ev_tmp, ev_av, bin_lss, bin_leq, bin_gtr, bin_geq, bin_eql, bin_neq, bin_add, bin_sub, bin_mul, un_not, natOf_nat, Bool.not_eq_false', Prod.mk.injEq, and_assoc, decide_false, decide_true, Bool.not_false, Bool.not_true, Bool.true_eq_false, Bool.false_eq_true, exists_false, Bool.not_eq_false, Bool.not_not, AV.val.injEq, AV.ptr.injEq, AV.slice.injEq, AV.func.injEq, AV.tuple.injEq, AV.agg.injEq, Value.bool.injEq, Value.int.injEq, Option.some.injEq, exists_eq_left', exists_eq_left, exists_and_left, exists_and_right, and_true, true_and, decide_eq_true_eq, decide_eq_false_iff_not, if_true, if_false, Bool.not_eq_true', beq_true, beq_false, ne_eq, not_true_eq_false, not_false_eq_true, reduceCtorEq, List.getD_cons_zero, List.getD_cons_succ, List.map_cons, List.map_nil, List.append_nil, Nat.reduceEqDiff, reduceIte, ite_true, ite_false, or_true, true_or, or_false, false_or, resA, resultsA, true_imp_iff, false_imp_iff, implies_true, imp_false, and_self, imp_self, and_false, false_and, forall_const, cell_val, cell_ptr, cell_slice, cell_func, cell_hole, cells_agg, cells_val, cells_ptr, cells_slice, cells_func, cells_hole, cells_cell, List.length_cons, List.length_nil, List.all_cons, List.all_nil, Bool.and_self, ldA, List.mapM_cons, List.mapM_nil, Option.bind_eq_bind, Option.bind_some, Option.pure_def, Option.map_none, Option.map_some, List.set_cons_zero, List.set_cons_succ, Nat.lt_add_one, List.append_assoc, List.cons_append, List.nil_append, List.append_nil, List.length_append, rd1_n0, rd1_nK, rd1_c0, rd1_cS, rd_n0, rd_nK, rd_c0, rd_cS, fillA, List.take_zero, List.take_succ_cons, List.take_nil, List.drop_zero, List.drop_succ_cons, List.drop_nil, List.getElem?_cons_zero, List.getElem?_cons_succ, Nat.reduceAdd, Nat.reduceLeDiff, Nat.add_eq_zero_iff, and_self, Nat.zero_add, Nat.add_zero, Nat.mul_one, *]) | (simp only [goO, AO_nil, then_normal, goC]) | (with_reducible apply And.intro) | (with_reducible intro _))
def copyA (fl : Nat → Bool) (h : Heap) (k : Nat) (x y : AV) : Option (AV × Heap) := match x, rowOf h k y with
    | .val (.slice none 0 0), some _ => some (.val (.int .i64 0), h)
    | .hole, some _ => some (.val (.int .i64 0), h)
    | .slice id off len _ _ _, some (n, cs) => match wr fl h id off (cs.take (min n len * k)) with
      | some h' => some (.val (.int .i64 (min n len : Nat)), h')
      | none => none
    | _, _ => none
theorem A1_copyG {X : CallT} {F : FuncId → Option AFunc} {top : Option (Nat × Option (List Nat))} {s : Slots} {kk : Nat} {x y : Opd} : A1 X F top fl (.copy kk x y) s h K ↔ ∃ v h', copyA fl h kk (x.ev s) (y.ev s) = some (v, h') ∧ K v h' := Iff.rfl
theorem copy_last {c cs : List AV} {k o ln lb ns : Nat} {ex : Bool} {src : AV} (hs : rowOf (h ++ [some c]) k src = some (ns, cs)) (hf : fl h.length = true) (hfit : o + (cs.take (min ns ln * k)).length ≤ c.length) :
    copyA fl (h ++ [some c]) k (.slice h.length o ln lb ex k) src = some (.val (.int .i64 (min ns ln : Nat)), h ++ [some (c.take o ++ cs.take (min ns ln * k) ++ c.drop (o + (cs.take (min ns ln * k)).length))]) := by
  have hb : blk (h ++ [some c]) h.length = some c := by rw [blk_at0]; rfl
  simp only [copyA, hs, wr, hb]
  rw [if_pos ⟨hf, hfit⟩]
  simp only [List.set_append_right _ _ (Nat.le_refl _), Nat.sub_self, List.set_cons_zero]
theorem row_last {c : List AV} {k o ln lb : Nat} {ex : Bool} (hl : o + ln * k ≤ c.length) : rowOf (h ++ [some c]) k (.slice h.length o ln lb ex k) = some (ln, (c.drop o).take (ln * k)) := by
  have hb : blk (h ++ [some c]) h.length = some c := by rw [blk_at0]; rfl
  simp only [rowOf, rd, hb]
  rw [if_pos hl]
theorem cut_lo {id o ln k : Nat} {m : Nat} (hm : m ≤ ln) : sliceA k (.slice id o ln ln true k) (some (I64 (m : Nat))) none none = some (.slice id (o + m * k) (ln - m) (ln - m) true k) := by
  simp [sliceA, natOfA, intOfA, hm]
theorem cut_hi {id o ln k : Nat} {m : Nat} (hm : m ≤ ln) : sliceA k (.slice id o ln ln true k) none (some (I64 (m : Nat))) none = some (.slice id o m ln true k) := by
  simp [sliceA, natOfA, intOfA, hm]
def repA (e : List AV) (n : Nat) : List AV := (List.replicate n e).flatten
theorem repA_len {e : List AV} {n k : Nat} (h : e.length = k) : (repA e n).length = n * k := by
  unfold repA; induction n with
  | zero => simp
  | succ n ih => rw [List.replicate_succ, List.flatten_cons, List.length_append, ih, h, Nat.add_mul]; omega
theorem repA_add {e : List AV} {m n : Nat} : repA e m ++ repA e n = repA e (m + n) := by
  unfold repA; rw [← List.replicate_append_replicate, List.flatten_append]
/-- So many of it, zeros behind. -/
def repC (e z : List AV) (m n : Nat) : List AV := repA e m ++ repA z (n - m)
theorem repC_len {e z : List AV} {m n k : Nat} (he : e.length = k) (hz : z.length = k) (h : m ≤ n) : (repC e z m n).length = n * k := by
  unfold repC; rw [List.length_append, repA_len he, repA_len hz, ← Nat.add_mul]; congr 1; omega
theorem repC_take {e z : List AV} {m n k : Nat} (he : e.length = k) : (repC e z m n).take (m * k) = repA e m := by
  unfold repC; rw [List.take_left' (repA_len he)]
theorem repA_take {e : List AV} {j m k : Nat} (he : e.length = k) (h : j ≤ m) : (repA e m).take (j * k) = repA e j := by
  obtain ⟨d, rfl⟩ : ∃ d, m = j + d := ⟨m - j, by omega⟩
  rw [← repA_add, List.take_left' (repA_len he)]
theorem repA_drop {e : List AV} {j m k : Nat} (he : e.length = k) (h : j ≤ m) : (repA e m).drop (j * k) = repA e (m - j) := by
  obtain ⟨d, rfl⟩ : ∃ d, m = j + d := ⟨m - j, by omega⟩
  rw [← repA_add, List.drop_left' (repA_len he), Nat.add_sub_cancel_left]
theorem repC_drop {e z : List AV} {m n j k : Nat} (he : e.length = k) (hz : z.length = k) (h : m + j ≤ n) : (repC e z m n).drop ((m + j) * k) = repA z (n - (m + j)) := by
  unfold repC
  rw [List.drop_append, repA_len he, List.drop_eq_nil_of_le (by rw [repA_len he]; exact Nat.mul_le_mul_right _ (by omega)), List.nil_append, ← Nat.sub_mul, Nat.add_sub_cancel_left, repA_drop hz (by omega)]
  congr 1; omega
theorem repC_step {e z : List AV} {m n j k : Nat} (he : e.length = k) (hz : z.length = k) (h : m ≤ n) (hj : j ≤ m) (hmj : m + j ≤ n) : (repC e z m n).take (m * k) ++ (((repC e z m n).drop 0).take (m * k)).take (j * k) ++ (repC e z m n).drop (m * k + j * k) = repC e z (m + j) n := by
  rw [List.drop_zero, repC_take he, repA_take he hj, ← Nat.add_mul, repC_drop he hz hmj, repA_add]
  rfl
theorem repC_zero {e z : List AV} {n : Nat} : (List.replicate n z).flatten = repC e z 0 n := by
  unfold repC repA; simp
theorem repC_all {e z : List AV} {n : Nat} : repC e z n n = repA e n := by unfold repC repA; simp
theorem repC_first {e z : List AV} {n k : Nat} (he : e.length = k) (hz : z.length = k) : (repC e z 0 n).take 0 ++ e.take (min 1 n * k) ++ (repC e z 0 n).drop (0 + (e.take (min 1 n * k)).length) = repC e z (min 1 n) n := by
  rcases Nat.eq_zero_or_pos n with rfl | hp
  · simp [repC, repA]
  · have e1 : e.take k = e := List.take_of_length_le (by omega)
    rw [Nat.min_eq_left hp, Nat.one_mul, e1, List.take_zero, List.nil_append, Nat.zero_add, he]
    have := repC_drop (e := e) (z := z) (m := 0) (n := n) (j := 1) he hz (by omega)
    rw [show (0 + 1) * k = k by omega] at this
    rw [this]
    unfold repC
    congr 1
    simp [repA]
end
theorem ZRs.vals {w : Wd} {zs : List ZV} {ys : List AV} (h : ZRs w zs ys) (hp : ∀ z ∈ zs, ∃ v, z = .val v) (w' : Wd) : ZRs w' zs ys := ⟨h.1, fun i z a h1 h2 => by
  obtain ⟨v, rfl⟩ := hp z (List.mem_of_getElem? h1)
  rw [(h.2 i _ _ h1 h2).val_inv]
  exact .fr (.val _)⟩
theorem rep_zrs {w : Wd} {zs : List ZV} {ys : List AV} (h : ZRs w zs ys) : ∀ {n : Nat}, ZRs w (List.replicate n zs).flatten (repA ys n)
  | 0 => by unfold repA; exact ZRs.nil
  | n + 1 => by
    have := rep_zrs h (n := n)
    unfold repA at *
    rw [List.replicate_succ, List.replicate_succ, List.flatten_cons, List.flatten_cons]
    exact h.append this
theorem ZR.ownEx {w : Wd} {i g off len id o lb k : Nat} (h : ZR w (.own i g off len false) (.slice id o len lb false k)) : ZR w (.own i g off len false) (.slice id o len lb true k) := by
  cases h with
  | fr hf => cases hf
  | own h1 h2 h3 h4 =>
    refine .own h1 (fun g' k' rows hb => ⟨(h2 g' k' rows hb).1, fun he => ?_⟩) (fun id hid => h3 id hid) rfl
    rcases (h2 g' k' rows hb).2 he with ⟨_, _, _, _, e | ⟨_, _, _, e, _⟩⟩ | ⟨id2, b, lb2, ex2, row, q1, q2, q3, q4, q5, q6, q7⟩
    · cases e
    · cases e
    · injection q2 with t1 t2 t3 t4 t5 t6
      subst t1; subst t2; subst t4; subst t6
      exact .inr ⟨_, b, _, true, row, q1, rfl, q3, q4, q5, q6, fun h => by cases h⟩
end Go.Proofs.Ytoeppobpnhlebaa

namespace Go.Proofs.Ytoeppobpnhlebaa
open Go Go.RowKit
set_option linter.unusedVariables false
set_option linter.unusedSimpArgs false
section
variable {tb : List (FuncId × Bool)} {fl : Nat → Bool} {h : Heap} {K : AV → Heap → Prop}
abbrev zeroSp : List AV := [I64 0, I64 0]
set_option maxHeartbeats 2000000 in
theorem repeatSp_am {lv : AV} {x : List AV} {n : Nat} (hx : x.length = 2) (hn : n ≤ 1000) (hlen : lenA lv = some 1) (hl : ∀ X, rowOf (h ++ X) 2 lv = some (1, x)) (hf : ∀ i, h.length ≤ i → fl i = true) (hK : K (.slice h.length 0 n n true 2) (h ++ [some (repA x n)])) :
    AC (constX tb) (cFunc Try.prog) 23 [lv, I64 (n : Nat)] fl h K := by
  refine AC.enter rfl f_li_repS (by simp) ?_
  simp only [c_li_repS]
  have HN := Lib.hid hn
  have l1 := hlen
  have w1 : IntKind.u64.wrap 1 = 1 := by rfl
  have wn : IntKind.u64.wrap (n : Int) = (n : Int) := IntWalk.u64_in _ (by omega)
  have wi : IntKind.i64.wrap (n : Int) = (n : Int) := IntWalk.i64_in _ (by omega)
  have g0 : ¬ ((n : Int) < 0) := by omega
  have g1 : ¬ ((0 : Int) < 0) := by omega
  have g2 : ¬ ((9223372036854775807 : Int) < (n : Int)) := by omega
  have hr : n * 16 ≤ reach := by unfold reach; omega
  have HL := Lib.hid hl
  have HF := Lib.hid hf
  have HK := Lib.hid hK
  have HX := Lib.hid hx
  have hz : (zeroSp).length = 2 := rfl
  have HZ := Lib.hid hz
  clear hl hf hK hn hx hlen hz
  repeat' (first | (simp only [AW_next, AW_ops, AW_cond, AW_block, AW_exit, AW_ret, AW_skip, AW_scope, AO_nil, AO_next, AO_nextW, wantB_bool, wantK_some, then_normal, then_exit, then_ret, inBlk_normal, inBlk_exit, inBlk_ret, A1_mv, A1_pick, A1_box, A1_zero, A1_build, A1_lits, A1_load, shallow_none, A1_store, A1_nilCheckI, nilOk_ptr, nilOk_func, A1_bin, A1_eqNil, A1_eqBool, A1_eqAgg, A1_un, A1_conv, A1_field, A1_fieldAddr, A1_indexAddr, A1_indexArr, A1_index, A1_slice, A1_mkSlice, A1_extract, A1_func, A1_call, callee_func, callee_bfunc, A1_append, A1_len, A1_minmax, put_some, put_none, upd_at, ev_tmp, ev_av, bin_lss, bin_leq, bin_gtr, bin_geq, bin_eql, bin_neq, bin_add, bin_sub, bin_mul, un_not, natOf_nat, Bool.not_eq_false', Prod.mk.injEq, and_assoc, decide_false, decide_true, Bool.not_false, Bool.not_true, Bool.true_eq_false, Bool.false_eq_true, exists_false, Bool.not_eq_false, Bool.not_not, AV.val.injEq, AV.ptr.injEq, AV.slice.injEq, AV.func.injEq, AV.tuple.injEq, AV.agg.injEq, Value.bool.injEq, Value.int.injEq, Option.some.injEq, exists_eq_left', exists_eq_left, exists_and_left, exists_and_right, and_true, true_and, decide_eq_true_eq, decide_eq_false_iff_not, if_true, if_false, Bool.not_eq_true', beq_true, beq_false, ne_eq, not_true_eq_false, not_false_eq_true, reduceCtorEq, List.getD_cons_zero, List.getD_cons_succ, List.map_cons, List.map_nil, List.append_nil, Nat.reduceEqDiff, reduceIte, ite_true, ite_false, or_true, true_or, or_false, false_or, resA, resultsA, true_imp_iff, false_imp_iff, implies_true, imp_false, and_self, imp_self, and_false, false_and, forall_const, cell_val, cell_ptr, cell_slice, cell_func, cell_hole, cells_agg, cells_val, cells_ptr, cells_slice, cells_func, cells_hole, cells_cell, List.length_cons, List.length_nil, List.all_cons, List.all_nil, Bool.and_self, ldA, List.mapM_cons, List.mapM_nil, Option.bind_eq_bind, Option.bind_some, Option.pure_def, Option.map_none, Option.map_some, List.set_cons_zero, List.set_cons_succ, Nat.lt_add_one, List.append_assoc, List.cons_append, List.nil_append, List.append_nil, List.length_append, rd1_n0, rd1_nK, rd1_c0, rd1_cS, rd_n0, rd_nK, rd_c0, rd_cS, fillA, List.take_zero, List.take_succ_cons, List.take_nil, List.drop_zero, List.drop_succ_cons, List.drop_nil, List.getElem?_cons_zero, List.getElem?_cons_succ, Nat.reduceAdd, Nat.reduceLeDiff, Nat.add_eq_zero_iff, and_self, Nat.zero_add, Nat.add_zero, Nat.mul_one, l1, w1, wn, Int.natCast_one, *]) | (simp only [goO, AO_nil, then_normal, goC]) | (with_reducible apply And.intro) | (with_reducible intro _))
  refine mul_am HN.out ?_
  have hflat : (List.replicate n zeroSp).flatten = repC x zeroSp 0 n := repC_zero
  have hc := copy_last (fl := fl) (k := 2) (o := 0) (ln := n) (lb := n) (ex := true) (HL.out [some (repC x zeroSp 0 n)]) (HF.out _ (Nat.le_refl _)) (by rw [repC_len HX.out HZ.out (Nat.zero_le _), List.length_take, HX.out]; omega)
  rw [repC_first HX.out HZ.out] at hc
  have hln : ∀ lb, lenA (.slice h.length 0 n lb true 2) = some n := fun _ => rfl
  obtain ⟨m0, hm0⟩ : ∃ m0, m0 = min 1 n := ⟨_, rfl⟩
  rw [← hm0] at hc
  have HM := Lib.hid hm0
  clear hm0
  repeat' (first | (simp only [AW_next, AW_ops, AW_cond, AW_block, AW_exit, AW_ret, AW_skip, AW_scope, AO_nil, AO_next, AO_nextW, wantB_bool, wantK_some, then_normal, then_exit, then_ret, inBlk_normal, inBlk_exit, inBlk_ret, A1_mv, A1_pick, A1_box, A1_zero, A1_build, A1_lits, A1_load, shallow_none, A1_store, A1_nilCheckI, nilOk_ptr, nilOk_func, A1_bin, A1_eqNil, A1_eqBool, A1_eqAgg, A1_un, A1_conv, A1_field, A1_fieldAddr, A1_indexAddr, A1_indexArr, A1_index, A1_slice, A1_mkSlice, A1_extract, A1_func, A1_call, callee_func, callee_bfunc, A1_append, A1_len, A1_minmax, put_some, put_none, upd_at, ev_tmp, ev_av, bin_lss, bin_leq, bin_gtr, bin_geq, bin_eql, bin_neq, bin_add, bin_sub, bin_mul, un_not, natOf_nat, Bool.not_eq_false', Prod.mk.injEq, and_assoc, decide_false, decide_true, Bool.not_false, Bool.not_true, Bool.true_eq_false, Bool.false_eq_true, exists_false, Bool.not_eq_false, Bool.not_not, AV.val.injEq, AV.ptr.injEq, AV.slice.injEq, AV.func.injEq, AV.tuple.injEq, AV.agg.injEq, Value.bool.injEq, Value.int.injEq, Option.some.injEq, exists_eq_left', exists_eq_left, exists_and_left, exists_and_right, and_true, true_and, decide_eq_true_eq, decide_eq_false_iff_not, if_true, if_false, Bool.not_eq_true', beq_true, beq_false, ne_eq, not_true_eq_false, not_false_eq_true, reduceCtorEq, List.getD_cons_zero, List.getD_cons_succ, List.map_cons, List.map_nil, List.append_nil, Nat.reduceEqDiff, reduceIte, ite_true, ite_false, or_true, true_or, or_false, false_or, resA, resultsA, true_imp_iff, false_imp_iff, implies_true, imp_false, and_self, imp_self, and_false, false_and, forall_const, cell_val, cell_ptr, cell_slice, cell_func, cell_hole, cells_agg, cells_val, cells_ptr, cells_slice, cells_func, cells_hole, cells_cell, List.length_cons, List.length_nil, List.all_cons, List.all_nil, Bool.and_self, ldA, List.mapM_cons, List.mapM_nil, Option.bind_eq_bind, Option.bind_some, Option.pure_def, Option.map_none, Option.map_some, List.set_cons_zero, List.set_cons_succ, Nat.lt_add_one, List.append_assoc, List.cons_append, List.nil_append, List.append_nil, List.length_append, rd1_n0, rd1_nK, rd1_c0, rd1_cS, rd_n0, rd_nK, rd_c0, rd_cS, fillA, List.take_zero, List.take_succ_cons, List.take_nil, List.drop_zero, List.drop_succ_cons, List.drop_nil, List.getElem?_cons_zero, List.getElem?_cons_succ, Nat.reduceAdd, Nat.reduceLeDiff, Nat.add_eq_zero_iff, and_self, Nat.zero_add, Nat.add_zero, Nat.mul_one, A1_copyG, gtr_u, g1, g2, wi, natOf_nat, hr, Nat.le_refl, beq_self_eq_true, hflat, hc, *]) | (simp only [goO, AO_nil, then_normal, goC]) | (with_reducible apply And.intro) | (with_reducible intro _))
  refine AW.named fun S hS => ?_
  have s7 : S 7 = .slice h.length 0 n n true 2 := by rw [hS]; rfl
  have s8 : S 8 = I64 (m0 : Nat) := by rw [hS]; rfl
  clear hS hc hflat
  refine AW_while (fun r s' h' => ∃ m : Nat, r = n - m ∧ m ≤ n ∧ (n = 0 ∨ 0 < m) ∧ s' 8 = I64 (m : Nat) ∧ h' = h ++ [some (repC x zeroSp m n)]) (n - m0) ⟨m0, rfl, by have := HM.out; omega, by have := HM.out; omega, s8, rfl⟩ ?_
  clear s8
  rintro r s' h' ⟨m, rfl, hmn, hpos, s8, rfl⟩ hs
  have f7 := (hs 7 (by decide)).trans s7
  clear hs s7
  by_cases hlt : m < n
  · have g3 : (m : Int) < (n : Int) := by omega
    have c1 := cut_lo (id := h.length) (o := 0) (k := 2) hmn
    have c2 := cut_hi (id := h.length) (o := 0) (k := 2) hmn
    rw [Nat.zero_add] at c1
    have hcl := repC_len (m := m) (n := n) HX.out HZ.out hmn
    have hrow := row_last (h := h) (c := repC x zeroSp m n) (k := 2) (o := 0) (ln := m) (lb := n) (ex := true) (by rw [hcl]; omega)
    have htl : (((repC x zeroSp m n).drop 0).take (m * 2)).length = m * 2 := by rw [List.length_take, List.drop_zero, hcl]; omega
    have hc := copy_last (fl := fl) (k := 2) (o := m * 2) (ln := n - m) (lb := n - m) (ex := true) hrow (HF.out _ (Nat.le_refl _)) (by rw [hcl, List.length_take, htl]; omega)
    rw [show (List.take (min m (n - m) * 2) (((repC x zeroSp m n).drop 0).take (m * 2))).length = min m (n - m) * 2 by rw [List.length_take, htl]; omega] at hc
    rw [repC_step HX.out HZ.out hmn (Nat.min_le_left _ _) (by omega)] at hc
    have wa : IntKind.i64.wrap ((m : Int) + ((min m (n - m) : Nat) : Int)) = ((m + min m (n - m) : Nat) : Int) := by have := HN.out; rw [IntWalk.i64_in _ (by omega)]; omega
    obtain ⟨q, hq⟩ : ∃ q, q = min m (n - m) := ⟨_, rfl⟩
    rw [← hq] at hc wa
    have fin : ∃ r2, r2 < n - m ∧ ∃ m2 : Nat, r2 = n - m2 ∧ m2 ≤ n ∧ (n = 0 ∨ 0 < m2) ∧ ((m + q : Nat) : Int) = ((m2 : Nat) : Int) ∧ h ++ [some (repC x zeroSp (m + q) n)] = h ++ [some (repC x zeroSp m2 n)] :=
      ⟨n - (m + q), by omega, m + q, rfl, by omega, by omega, rfl, rfl⟩
    have FI := Lib.hid fin
    clear hrow htl hq fin g0 g1 g2 hpos hmn hcl
    repeat' (first | (simp only [AW_next, AW_ops, AW_cond, AW_block, AW_exit, AW_ret, AW_skip, AW_scope, AO_nil, AO_next, AO_nextW, wantB_bool, wantK_some, then_normal, then_exit, then_ret, inBlk_normal, inBlk_exit, inBlk_ret, A1_mv, A1_pick, A1_box, A1_zero, A1_build, A1_lits, A1_load, shallow_none, A1_store, A1_nilCheckI, nilOk_ptr, nilOk_func, A1_bin, A1_eqNil, A1_eqBool, A1_eqAgg, A1_un, A1_conv, A1_field, A1_fieldAddr, A1_indexAddr, A1_indexArr, A1_index, A1_slice, A1_mkSlice, A1_extract, A1_func, A1_call, callee_func, callee_bfunc, A1_append, A1_len, A1_minmax, put_some, put_none, upd_at, ev_tmp, ev_av, bin_lss, bin_leq, bin_gtr, bin_geq, bin_eql, bin_neq, bin_add, bin_sub, bin_mul, un_not, natOf_nat, Bool.not_eq_false', Prod.mk.injEq, and_assoc, decide_false, decide_true, Bool.not_false, Bool.not_true, Bool.true_eq_false, Bool.false_eq_true, exists_false, Bool.not_eq_false, Bool.not_not, AV.val.injEq, AV.ptr.injEq, AV.slice.injEq, AV.func.injEq, AV.tuple.injEq, AV.agg.injEq, Value.bool.injEq, Value.int.injEq, Option.some.injEq, exists_eq_left', exists_eq_left, exists_and_left, exists_and_right, and_true, true_and, decide_eq_true_eq, decide_eq_false_iff_not, if_true, if_false, Bool.not_eq_true', beq_true, beq_false, ne_eq, not_true_eq_false, not_false_eq_true, reduceCtorEq, List.getD_cons_zero, List.getD_cons_succ, List.map_cons, List.map_nil, List.append_nil, Nat.reduceEqDiff, reduceIte, ite_true, ite_false, or_true, true_or, or_false, false_or, resA, resultsA, true_imp_iff, false_imp_iff, implies_true, imp_false, and_self, imp_self, and_false, false_and, forall_const, cell_val, cell_ptr, cell_slice, cell_func, cell_hole, cells_agg, cells_val, cells_ptr, cells_slice, cells_func, cells_hole, cells_cell, List.length_cons, List.length_nil, List.all_cons, List.all_nil, Bool.and_self, ldA, List.mapM_cons, List.mapM_nil, Option.bind_eq_bind, Option.bind_some, Option.pure_def, Option.map_none, Option.map_some, List.set_cons_zero, List.set_cons_succ, Nat.lt_add_one, List.append_assoc, List.cons_append, List.nil_append, List.append_nil, List.length_append, rd1_n0, rd1_nK, rd1_c0, rd1_cS, rd_n0, rd_nK, rd_c0, rd_cS, fillA, List.take_zero, List.take_succ_cons, List.take_nil, List.drop_zero, List.drop_succ_cons, List.drop_nil, List.getElem?_cons_zero, List.getElem?_cons_succ, Nat.reduceAdd, Nat.reduceLeDiff, Nat.add_eq_zero_iff, and_self, Nat.zero_add, Nat.add_zero, Nat.mul_one, A1_copyG, AW_opsD, det_mk, c1, c2, hc, wa, hln, *]) | (simp only [goO, AO_nil, then_normal, goC]) | (with_reducible apply And.intro) | (with_reducible intro _))
    exact FI.out
  · have hm : m = n := by omega
    subst hm
    have fin : K (.slice h.length 0 m m true 2) (h ++ [some (repC x zeroSp m m)]) := by rw [repC_all]; exact HK.out
    clear g0 g1 g2
    have g4 : ¬ ((m : Int) < (m : Int)) := by omega
    repeat' (first | (simp only [AW_next, AW_ops, AW_cond, AW_block, AW_exit, AW_ret, AW_skip, AW_scope, AO_nil, AO_next, AO_nextW, wantB_bool, wantK_some, then_normal, then_exit, then_ret, inBlk_normal, inBlk_exit, inBlk_ret, A1_mv, A1_pick, A1_box, A1_zero, A1_build, A1_lits, A1_load, shallow_none, A1_store, A1_nilCheckI, nilOk_ptr, nilOk_func, A1_bin, A1_eqNil, A1_eqBool, A1_eqAgg, A1_un, A1_conv, A1_field, A1_fieldAddr, A1_indexAddr, A1_indexArr, A1_index, A1_slice, A1_mkSlice, A1_extract, A1_func, A1_call, callee_func, callee_bfunc, A1_append, A1_len, A1_minmax, put_some, put_none, upd_at, ev_tmp, ev_av, bin_lss, bin_leq, bin_gtr, bin_geq, bin_eql, bin_neq, bin_add, bin_sub, bin_mul, un_not, natOf_nat, Bool.not_eq_false', Prod.mk.injEq, and_assoc, decide_false, decide_true, Bool.not_false, Bool.not_true, Bool.true_eq_false, Bool.false_eq_true, exists_false, Bool.not_eq_false, Bool.not_not, AV.val.injEq, AV.ptr.injEq, AV.slice.injEq, AV.func.injEq, AV.tuple.injEq, AV.agg.injEq, Value.bool.injEq, Value.int.injEq, Option.some.injEq, exists_eq_left', exists_eq_left, exists_and_left, exists_and_right, and_true, true_and, decide_eq_true_eq, decide_eq_false_iff_not, if_true, if_false, Bool.not_eq_true', beq_true, beq_false, ne_eq, not_true_eq_false, not_false_eq_true, reduceCtorEq, List.getD_cons_zero, List.getD_cons_succ, List.map_cons, List.map_nil, List.append_nil, Nat.reduceEqDiff, reduceIte, ite_true, ite_false, or_true, true_or, or_false, false_or, resA, resultsA, true_imp_iff, false_imp_iff, implies_true, imp_false, and_self, imp_self, and_false, false_and, forall_const, cell_val, cell_ptr, cell_slice, cell_func, cell_hole, cells_agg, cells_val, cells_ptr, cells_slice, cells_func, cells_hole, cells_cell, List.length_cons, List.length_nil, List.all_cons, List.all_nil, Bool.and_self, ldA, List.mapM_cons, List.mapM_nil, Option.bind_eq_bind, Option.bind_some, Option.pure_def, Option.map_none, Option.map_some, List.set_cons_zero, List.set_cons_succ, Nat.lt_add_one, List.append_assoc, List.cons_append, List.nil_append, List.append_nil, List.length_append, rd1_n0, rd1_nK, rd1_c0, rd1_cS, rd_n0, rd_nK, rd_c0, rd_cS, fillA, List.take_zero, List.take_succ_cons, List.take_nil, List.drop_zero, List.drop_succ_cons, List.drop_nil, List.getElem?_cons_zero, List.getElem?_cons_succ, Nat.reduceAdd, Nat.reduceLeDiff, Nat.add_eq_zero_iff, and_self, Nat.zero_add, Nat.add_zero, Nat.mul_one, hln, *]) | (simp only [goO, AO_nil, then_normal, goC]) | (with_reducible apply And.intro) | (with_reducible intro _))
end
section
variable {tb : List (FuncId × Bool)} {L : Nat → Bool} {H : ZH} {K : ZV → ZH → Prop}
theorem repeatSp_z {z : ZV} {zx : List ZV} {n : Nat} (hzx : zx.length = 2) (hp : ∀ z ∈ zx, ∃ v, z = .val v) (hz : rowsZ H 2 z = some [zx]) (hn : n ≤ 1000) (hK : K (.own H.length 0 0 n false) (H ++ [.grow 0 2 (List.replicate n zx)])) :
    ZC (constX tb) (cFunc Try.prog) 23 [z, Z64 (n : Nat)] L H K := by
  intro fl w args r e ha
  subst e
  obtain ⟨a, ha0, ha1⟩ := ha.get (i := 0) rfl
  obtain ⟨b, hb0, hb1⟩ := ha.get (i := 1) rfl
  have e2 : args = [a, b] := by
    have := ha.1
    match args, this, ha0, hb0 with
    | [x, y], _, hv0, hu0 => simp at hv0 hu0; rw [hv0, hu0]
  subst e2
  have e3 := hb1.val_inv
  subst e3
  obtain ⟨cells, h1, h2⟩ := rows_sl r ha1 hz
  rw [List.flatten_cons, List.flatten_nil, List.append_nil] at h2
  have hcl : cells.length = 2 := by rw [← h2.1]; exact hzx
  refine repeatSp_am hcl hn h1.len (fun X => (h1.ext X).row) r.fresh ?_
  have hnew : New w.h (w.h ++ [some (repA cells n)]) 2 (.slice w.h.length 0 n n false 2) (repA cells n) n := by
    refine ⟨⟨repA_len hcl, .inr ⟨w.h.length, n, repA cells n, rfl, Nat.le_refl _, by rw [repA_len hcl]; exact Nat.le_refl _, by rw [blk_at0]; rfl, by rw [← repA_len hcl]; exact List.take_length⟩⟩, by simp [idOf], Keep.ext _ _⟩
  obtain ⟨w', q1, q2, q3, q4, q5⟩ := new_w r hnew (rows := List.replicate n zx) (fun x hx => by rw [(List.mem_replicate.1 hx).2]; exact hzx) (by simp) (fun w' => rep_zrs (h2.vals hp w'))
  exact ⟨_, w', q1, q3, q4, q5.ownEx, by rw [q2]; exact hK⟩
end
end Go.Proofs.Ytoeppobpnhlebaa

namespace Go.Proofs.Ytoeppobpnhlebaa
open Go Go.RowKit
set_option linter.unusedVariables false
set_option linter.unusedSimpArgs false
variable {tb : List (FuncId × Bool)} {L : Nat → Bool} {H : ZH} {K : ZV → ZH → Prop}
/-- Where a value is asked that is asked at a place. -/
def toOf (lp n p v : Int) : Int := if v < lp ∧ lp ≤ p then n else p
def putS (to : Int) (o : List (Int × Int)) (v : Int) : List (Int × Int) := o.set v.toNat (v, max (o.getD v.toNat (-1, -1)).2 to)
def askS (lp n p : Int) (o : List (Int × Int)) (l : List Int) : List (Int × Int) := l.foldl (fun o v => putS (toOf lp n p v) o v) o
theorem putS_len {to v : Int} {o : List (Int × Int)} : (putS to o v).length = o.length := by simp [putS]
theorem askS_len {lp n p : Int} : ∀ {l : List Int} {o : List (Int × Int)}, (askS lp n p o l).length = o.length
  | [], o => rfl
  | v :: l, o => by
    show (askS lp n p (putS _ o v) l).length = _
    rw [askS_len, putS_len]
theorem askS_take {lp n p : Int} {l : List Int} {o : List (Int × Int)} {k : Nat} {v : Int} (h : l[k]? = some v) : askS lp n p o (l.take (k + 1)) = putS (toOf lp n p v) (askS lp n p o (l.take k)) v := by
  have hk := (List.getElem?_eq_some_iff.1 h)
  obtain ⟨hk, rfl⟩ := hk
  unfold askS
  rw [List.take_succ_eq_append_getElem hk, List.foldl_append]; rfl
theorem best_max {a b : Int} : bestZ true (Z64 a) [Z64 b] = some (Z64 (max a b)) := by
  simp only [bestZ, if_true]
  congr 3
  by_cases h : b > a
  · rw [if_pos h]; omega
  · rw [if_neg h]; omega
theorem set_same_get {α : Type} {l : List α} {i : Nat} {a : α} (h : l[i]? = some a) : l.set i a = l := by
  obtain ⟨h1, rfl⟩ := List.getElem?_eq_some_iff.1 h
  exact List.set_getElem_self h1
/-- The loop of the closure: the list's block is as it should be. -/
def AskI (H : ZH) (b g : Nat) (o : List (Int × Int)) (h' : ZH) : Prop := h' = H.set b (.grow g 2 (o.map eP2))
set_option maxHeartbeats 4000000 in
theorem spansa_z {i j q b g : Nat} {t : Tr} {p : Int} {l : List Int} {o : List (Int × Int)} (hi : H[i]? = some (.box (eTr t))) (hj : H[j]? = some (.box [Z64 (o.length : Nat)])) (hq : H[q]? = some (.box [.own b g 0 o.length false])) (hb : H[b]? = some (.grow g 2 (o.map eP2))) (hl : l.length ≤ 100000000) (hv : ∀ v ∈ l, 0 ≤ v ∧ v < (o.length : Int)) (lb : L b = true)
    (hK : K .no (H.set b (.grow g 2 ((askS t.lp o.length p o l).map eP2)))) :
    ZC (constX tb) (cFunc Try.prog) 24 [Z64 p, .fz 1 false (l.map eI), .ptr i 0, .ptr j 0, .ptr q 0] L H K := by
  obtain ⟨fn, pl, lp, ins, exs, turn, back⟩ := t
  refine ZC.enter Gh.no constX_none f_li_spansa (by simp) ?_
  simp only [c_li_spansa]
  simp only at hK hi
  have hib : b ≠ i := fun e => by subst e; rw [hi] at hb; cases hb
  have hjb : b ≠ j := fun e => by subst e; rw [hj] at hb; cases hb
  have hqb : b ≠ q := fun e => by subst e; rw [hq] at hb; cases hb
  have gi : ∀ A, (H.set b A)[i]? = some (.box _) := fun A => by rw [List.getElem?_set_ne hib]; exact hi
  have gj : ∀ A, (H.set b A)[j]? = some (.box [Z64 (o.length : Nat)]) := fun A => by rw [List.getElem?_set_ne hjb]; exact hj
  have gq : ∀ A, (H.set b A)[q]? = some (.box [.own b g 0 o.length false]) := fun A => by rw [List.getElem?_set_ne hqb]; exact hq
  have gb : ∀ A, (H.set b A)[b]? = some A := fun A => by rw [List.getElem?_set_self (lt_of_get hb)]
  have HK := Lib.hid hK
  have HV := Lib.hid hv
  have h0 : AskI H b g (askS lp o.length p o (l.take 0)) H := (set_same_get hb).symm
  clear hK hv hi hj hq hb hib hjb hqb
  have hlen : l.length < 9223372036854775807 := by omega
  clear hl
  repeat' (first | (simp only [zmPack, zxPack, ne_eq, zfree, owners, Nat.reduceLT, List.contains_cons, List.contains_nil, Nat.reduceBEq, BEq.rfl, chunk, setAt, List.lookup_cons, List.lookup_nil, reduceCtorEq, Nat.reduceEqDiff, reduceIte, implies_true, forall_const, Nat.reduceMul, Nat.reduceSub, Nat.reduceAdd, Nat.reduceLeDiff, *]) | (simp only [zgoO, zgoG, zO_nil, zthen_normal, zgoC]) | (with_reducible apply And.intro) | (with_reducible intro _))
  refine zW_forK [(0, Z64 p), (2, .ptr i 0), (3, .ptr j 0), (4, .ptr q 0), (10, .fz 1 false (l.map eI))] l.length (fun k s' h' => AskI H b g (askS lp o.length p o (l.take k)) h') (by omega) ⟨rfl, rfl, rfl, rfl, rfl, rfl⟩ rfl rfl (by repeat' (first | exact trivial | (refine ⟨rfl, ?_⟩) | (refine ⟨by simp only [zupd_at, Nat.reduceEqDiff, reduceIte]; assumption, ?_⟩))) rfl rfl (by decide) h0 ?_ ?_
  · rintro k s' h' hk hI hi hl ⟨f0, f2, f3, f4, f10, -⟩
    clear h0
    have hx : l[k]? = some l[k] := List.getElem?_eq_getElem hk
    have hvb := HV.out _ (List.getElem_mem hk)
    obtain ⟨v, hv⟩ : ∃ v, v = l[k] := ⟨_, rfl⟩
    rw [← hv] at hx hvb
    clear hv
    obtain ⟨m, rfl⟩ : ∃ m : Nat, v = (m : Int) := ⟨v.toNat, by omega⟩
    have hstep := Lib.hid (askS_take (lp := lp) (n := o.length) (p := p) (o := o) hx)
    obtain ⟨o1, ho1⟩ : ∃ o1, o1 = askS lp o.length p o (l.take k) := ⟨_, rfl⟩
    have hol : o1.length = o.length := by rw [ho1]; exact askS_len
    rw [← ho1] at hI hstep
    clear ho1
    unfold AskI at hI
    subst hI
    have hml : m < o1.length := by omega
    obtain ⟨y, hy⟩ : ∃ y, o1[m]? = some y := ⟨_, List.getElem?_eq_getElem hml⟩
    have he : ∀ A, A = (.grow g 2 (o1.map eP2) : ZB) → elemZ (H.set b A) 2 m (.own b g 0 o.length false) = some (.eptr b g m 0) := fun A hA => by
      subst hA
      rw [elem_own]; exact ⟨_, gb _, by simp [hol], by omega, by simp⟩
    have he' := he _ rfl
    have hld : ldZ (H.set b (.grow g 2 (o1.map eP2))) none (.eptr b g m 1) = some (Z64 y.2) := by
      rw [ld_eptr]; exact ⟨_, _, _, gb _, by rw [List.getElem?_map, hy]; rfl, rfl⟩
    have hst : ∀ a c, stZ L (H.set b (.grow g 2 (o1.map eP2))) [Z64 a, Z64 c] (.eptr b g m 0) = some (H.set b (.grow g 2 ((o1.set m (a, c)).map eP2))) := fun a c => by
      rw [st_eptr]
      refine ⟨2, _, _, gb _, by rw [List.getElem?_map, hy]; rfl, lb, by simp, ?_⟩
      rw [List.set_set, List.map_set]; rfl
    have fin : ∀ to, toOf lp o.length p m = to → AskI H b g (askS lp o.length p o (l.take (k + 1))) (H.set b (.grow g 2 ((o1.set m ((m : Int), max y.2 to)).map eP2))) := fun to e => by
      unfold AskI
      rw [hstep.out, e]
      unfold putS
      rw [Int.toNat_natCast, List.getD_eq_getElem?_getD, hy]; rfl
    have FI := Lib.hid fin
    clear he hy hml hol hstep fin hvb
    by_cases h1 : (m : Int) < lp
    · by_cases h2 : lp ≤ p
      · have fin := FI.out o.length (by unfold toOf; rw [if_pos ⟨h1, h2⟩])
        repeat' (first | (simp only [zmPack, zxPack, ne_eq, zfree, owners, Nat.reduceLT, List.contains_cons, List.contains_nil, Nat.reduceBEq, BEq.rfl, chunk, setAt, List.lookup_cons, List.lookup_nil, reduceCtorEq, Nat.reduceEqDiff, reduceIte, implies_true, forall_const, Nat.reduceMul, Nat.reduceSub, Nat.reduceAdd, Nat.reduceLeDiff, gi, gj, gq, gb, hx, h1, h2, he', hld, hst, best_max, *]) | (simp only [zgoO, zgoG, zO_nil, zthen_normal, zgoC]) | (with_reducible apply And.intro) | (with_reducible intro _))
      · have fin := FI.out p (by unfold toOf; rw [if_neg (by omega)])
        repeat' (first | (simp only [zmPack, zxPack, ne_eq, zfree, owners, Nat.reduceLT, List.contains_cons, List.contains_nil, Nat.reduceBEq, BEq.rfl, chunk, setAt, List.lookup_cons, List.lookup_nil, reduceCtorEq, Nat.reduceEqDiff, reduceIte, implies_true, forall_const, Nat.reduceMul, Nat.reduceSub, Nat.reduceAdd, Nat.reduceLeDiff, gi, gj, gq, gb, hx, h1, h2, he', hld, hst, best_max, *]) | (simp only [zgoO, zgoG, zO_nil, zthen_normal, zgoC]) | (with_reducible apply And.intro) | (with_reducible intro _))
    · have fin := FI.out p (by unfold toOf; rw [if_neg (by omega)])
      repeat' (first | (simp only [zmPack, zxPack, ne_eq, zfree, owners, Nat.reduceLT, List.contains_cons, List.contains_nil, Nat.reduceBEq, BEq.rfl, chunk, setAt, List.lookup_cons, List.lookup_nil, reduceCtorEq, Nat.reduceEqDiff, reduceIte, implies_true, forall_const, Nat.reduceMul, Nat.reduceSub, Nat.reduceAdd, Nat.reduceLeDiff, gi, gj, gq, gb, hx, h1, he', hld, hst, best_max, *]) | (simp only [zgoO, zgoG, zO_nil, zthen_normal, zgoC]) | (with_reducible apply And.intro) | (with_reducible intro _))
  · rintro s' h' hI ⟨f0, f2, f3, f4, f10, -⟩
    rw [List.take_of_length_le (Nat.le_refl _)] at hI
    unfold AskI at hI
    subst hI
    have fin := Fin.keep (H0 := H) HK.out
    clear h0
    repeat' (first | (simp only [zmPack, zxPack, ne_eq, zfree, owners, Nat.reduceLT, List.contains_cons, List.contains_nil, Nat.reduceBEq, BEq.rfl, chunk, setAt, List.lookup_cons, List.lookup_nil, reduceCtorEq, Nat.reduceEqDiff, reduceIte, implies_true, forall_const, Nat.reduceMul, Nat.reduceSub, Nat.reduceAdd, Nat.reduceLeDiff, *]) | (simp only [zgoO, zgoG, zO_nil, zthen_normal, zgoC]) | (with_reducible apply And.intro) | (with_reducible intro _))
    exact ⟨_, rfl, fin⟩
end Go.Proofs.Ytoeppobpnhlebaa

namespace Go.Proofs.Ytoeppobpnhlebaa
open Go Go.RowKit
set_option linter.unusedVariables false
set_option linter.unusedSimpArgs false
variable {tb : List (FuncId × Bool)} {L : Nat → Bool} {H : ZH} {K : ZV → ZH → Prop}
def exV (t : Tr) (e : Int) : List Int := if 0 ≤ e then (match t.exs[e.toNat]? with
  | some X => valsX X
  | none => []) else []
/-- What an instruction asks, by itself and by its exit. -/
def insS (t : Tr) (o : List (Int × Int)) (k : Nat) (x : In) : List (Int × Int) := askS t.lp t.ins.length k (askS t.lp t.ins.length k o (asksI x)) (exV t x.2.2.2.2.2.1)
def outK (t : Tr) : Nat → List (Int × Int)
  | 0 => List.replicate t.ins.length (-1, -1)
  | k + 1 => match t.ins[k]? with
    | some x => insS t (outK t k) k x
    | none => outK t k
def turnS (lp : Int) (o : List (Int × Int)) (l : List Int) : List (Int × Int) := l.foldl (putS lp) o
def outB (t : Tr) : List (Int × Int) := askS t.lp t.ins.length t.ins.length (outK t t.ins.length) (valsX t.back)
def spans (t : Tr) : List (Int × Int) := if 0 < t.lp then turnS t.lp (outB t) (valsX t.turn) else outB t
theorem outK_len {t : Tr} : ∀ {k : Nat}, (outK t k).length = t.ins.length
  | 0 => by simp [outK]
  | k + 1 => by
    unfold outK
    split
    · unfold insS; rw [askS_len, askS_len, outK_len]
    · exact outK_len
theorem turnS_len {lp : Int} : ∀ {l : List Int} {o : List (Int × Int)}, (turnS lp o l).length = o.length
  | [], o => rfl
  | v :: l, o => by
    show (turnS lp (putS _ o v) l).length = _
    rw [turnS_len, putS_len]
theorem turnS_take {lp : Int} {l : List Int} {o : List (Int × Int)} {k : Nat} {v : Int} (h : l[k]? = some v) : turnS lp o (l.take (k + 1)) = putS lp (turnS lp o (l.take k)) v := by
  obtain ⟨hk, rfl⟩ := List.getElem?_eq_some_iff.1 h
  unfold turnS
  rw [List.take_succ_eq_append_getElem hk, List.foldl_append]; rfl
theorem allV_in {ins : List In} {p : Int} {l : List Int} (h : allV ins p l = true) : ∀ v ∈ l, 0 ≤ v ∧ v < p ∧ v < (ins.length : Int) := fun v hv => by
  unfold allV at h
  simp only [Bool.not_eq_true', List.any_eq_false] at h
  have := h v hv
  unfold badV at this
  simp only [Bool.or_eq_true, decide_eq_true_eq, not_or] at this
  omega
theorem atN3 {W : ZH} {n : Nat} (h : W.length = n) (A B C D : ZB) (X : ZH) : (W ++ (A :: B :: C :: D :: X))[n + 3]? = some D := by rw [← h, List.getElem?_append_right (by omega), Nat.add_sub_cancel_left]; rfl
theorem stN3 {W : ZH} {n : Nat} (h : W.length = n) (A B C E D : ZB) (X : ZH) : (W ++ (A :: B :: C :: E :: X)).set (n + 3) D = W ++ (A :: B :: C :: D :: X) := by rw [← h, List.set_append_right _ _ (by omega), Nat.add_sub_cancel_left]; rfl
/-- The heap within Spans. -/
def SpH (H : ZH) (t : Tr) (o : List (Int × Int)) (X : ZH) : ZH := H ++ (.box (eTr t) :: .box [Z64 (t.ins.length : Nat)] :: .grow 0 2 (o.map eP2) :: .box [.own (H.length + 2) 0 0 t.ins.length false] :: X)
def SpI (H : ZH) (t : Tr) (o : List (Int × Int)) (h' : ZH) : Prop := ∃ X, h' = SpH H t o X
theorem SpH_app {t : Tr} {o : List (Int × Int)} {X Y : ZH} : SpH H t o X ++ Y = SpH H t o (X ++ Y) := by simp [SpH]
theorem SpH_len {t : Tr} {o : List (Int × Int)} {X : ZH} : (SpH H t o X).length = H.length + (X.length + 4) := by simp [SpH]
theorem SpH_0 {t : Tr} {o : List (Int × Int)} {X : ZH} : (SpH H t o X)[H.length]? = some (.box (eTr t)) := atN0 rfl _ _
theorem SpH_1 {t : Tr} {o : List (Int × Int)} {X : ZH} : (SpH H t o X)[H.length + 1]? = some (.box [Z64 (t.ins.length : Nat)]) := atN1 rfl _ _ _
theorem SpH_3 {t : Tr} {o : List (Int × Int)} {X : ZH} : (SpH H t o X)[H.length + 3]? = some (.box [.own (H.length + 2) 0 0 t.ins.length false]) := atN3 rfl _ _ _ _ _
theorem SpH_last {t : Tr} {o o' : List (Int × Int)} {X : ZH} {A : ZB} : (SpH H t o' (X ++ [A]))[(SpH H t o X).length]? = some A := by
  rw [SpH_len, ← SpH_app, List.getElem?_append_right (by rw [SpH_len]; omega), SpH_len, Nat.sub_self]; rfl
theorem SpH_2 {t : Tr} {o : List (Int × Int)} {X : ZH} : (SpH H t o X)[H.length + 2]? = some (.grow 0 2 (o.map eP2)) := atN2 rfl _ _ _ _
theorem SpH_el {t : Tr} {o : List (Int × Int)} {X : ZH} {m : Nat} (hm : m < t.ins.length) (ho : o.length = t.ins.length) : elemZ (SpH H t o X) 2 m (.own (H.length + 2) 0 0 t.ins.length false) = some (.eptr (H.length + 2) 0 m 0) := by
  rw [elem_own]; exact ⟨_, SpH_2, by simp [ho], hm, by simp⟩
theorem SpH_ld {t : Tr} {o : List (Int × Int)} {X : ZH} {m : Nat} {y : Int × Int} (hy : o[m]? = some y) : ldZ (SpH H t o X) none (.eptr (H.length + 2) 0 m 1) = some (Z64 y.2) := by
  rw [ld_eptr]; exact ⟨_, _, _, SpH_2, by rw [List.getElem?_map, hy]; rfl, rfl⟩
theorem SpH_st {t : Tr} {o : List (Int × Int)} {X : ZH} {m : Nat} {y : Int × Int} (hy : o[m]? = some y) (l2 : L (H.length + 2) = true) (a c : Int) : stZ L (SpH H t o X) [Z64 a, Z64 c] (.eptr (H.length + 2) 0 m 0) = some (SpH H t (o.set m (a, c)) X) := by
  rw [st_eptr]
  refine ⟨2, _, _, SpH_2, by rw [List.getElem?_map, hy]; rfl, l2, by simp, ?_⟩
  rw [show (SpH H t o X).set (H.length + 2) _ = _ from stN2 rfl _ _ _ _ _]
  unfold SpH
  rw [List.map_set]; rfl
theorem askH {t : Tr} {X : ZH} {p : Int} {l : List Int} {o : List (Int × Int)} (ho : o.length = t.ins.length) (hl : l.length ≤ 100000000) (hv : ∀ v ∈ l, 0 ≤ v ∧ v < (t.ins.length : Int)) (hL : L (H.length + 2) = true)
    (hK : K .no (SpH H t (askS t.lp t.ins.length p o l) X)) :
    ZC (constX tb) (cFunc Try.prog) 24 [Z64 p, .fz 1 false (l.map eI), .ptr H.length 0, .ptr (H.length + 1) 0, .ptr (H.length + 3) 0] L (SpH H t o X) K := by
  have e1 : (SpH H t o X)[H.length]? = some (.box (eTr t)) := atN0 rfl _ _
  have e2 : (SpH H t o X)[H.length + 1]? = some (.box [Z64 (o.length : Nat)]) := by rw [ho]; exact atN1 rfl _ _ _
  have e3 : (SpH H t o X)[H.length + 3]? = some (.box [.own (H.length + 2) 0 0 o.length false]) := by rw [ho]; exact atN3 rfl _ _ _ _ _
  have e4 : (SpH H t o X)[H.length + 2]? = some (.grow 0 2 (o.map eP2)) := atN2 rfl _ _ _ _
  refine spansa_z (t := t) (o := o) (b := H.length + 2) (g := 0) e1 e2 e3 e4 hl (by rw [ho]; exact hv) hL ?_
  rw [ho]
  have : (SpH H t o X).set (H.length + 2) (.grow 0 2 ((askS t.lp t.ins.length p o l).map eP2)) = SpH H t (askS t.lp t.ins.length p o l) X := stN2 rfl _ _ _ _ _
  rw [this]; exact hK
set_option maxHeartbeats 4000000 in
theorem spans_z {t : Tr} (hS : TrS t) (hK0 : ∀ e, e ≠ 0 → ¬ GoodT t → K (.tuple [.nil, Z64 e]) H) (hK1 : GoodT t → K (.tuple [.fz 2 false ((spans t).map eP2), Z64 0]) H) :
    ZC (constX tb) (cFunc Try.prog) 10 [.agg (eTr t)] L H K := by
  have HS := Lib.hid hS
  clear hS
  refine ZC.enterL Gh.no constX_none f_li_spans (by simp) fun hL => ?_
  simp only [c_li_spans]
  have HK0 := Lib.hid (show ∀ e X, e ≠ 0 → ¬ GoodT t → Fin H (.tuple [.nil, Z64 e]) (H ++ X) K from fun e X h1 h2 => Fin.truncT (Mods.ext H X) rfl (by rw [List.take_left]; exact hK0 e h1 h2))
  have HK1 := Lib.hid hK1
  clear hK0 hK1
  obtain ⟨fn, pl, lp, ins, exs, turn, back⟩ := t
  have l0 : L H.length = true := hL 0
  have l1 : L (H.length + 1) = true := hL 1
  have l2 : L (H.length + 2) = true := hL 2
  have l3 : L (H.length + 3) = true := hL 3
  have a00 : ∀ A Y, (H ++ (A :: Y))[H.length]? = some A := fun A Y => atN0 rfl A Y
  have a1 : ∀ A B Y, (H ++ (A :: B :: Y))[H.length + 1]? = some B := fun A B Y => atN1 rfl A B Y
  have s1 : ∀ A B C Y, (H ++ (A :: B :: Y)).set (H.length + 1) C = H ++ (A :: C :: Y) := fun A B C Y => stN1 rfl A B C Y
  have a3 : ∀ A B C D Y, (H ++ (A :: B :: C :: D :: Y))[H.length + 3]? = some D := fun A B C D Y => atN3 rfl A B C D Y
  have s3 : ∀ A B C E D Y, (H ++ (A :: B :: C :: E :: Y)).set (H.length + 3) D = H ++ (A :: B :: C :: D :: Y) := fun A B C E D Y => stN3 rfl A B C E D Y
  repeat' (first | (simp only [zmPack, zxPack, ne_eq, zfree, owners, Nat.reduceLT, List.contains_cons, List.contains_nil, Nat.reduceBEq, BEq.rfl, chunk, setAt, List.lookup_cons, List.lookup_nil, reduceCtorEq, Nat.reduceEqDiff, reduceIte, implies_true, forall_const, Nat.reduceMul, Nat.reduceSub, Nat.reduceAdd, Nat.reduceLeDiff, l0, l1, a00, a1, s1, *]) | (simp only [zgoO, zgoG, zO_nil, zthen_normal, zgoC]) | (with_reducible apply And.intro) | (with_reducible intro _))
  refine check_z (t := ⟨fn, pl, lp, ins, exs, turn, back⟩) HS.out fun e he => ?_
  by_cases e0 : e = 0
  · subst e0
    have hG := Lib.hid (he.1 rfl)
    clear he
    have hn : ins.length ≤ 300 := hG.out.n
    repeat' (first | (simp only [zmPack, zxPack, ne_eq, zfree, owners, Nat.reduceLT, List.contains_cons, List.contains_nil, Nat.reduceBEq, BEq.rfl, chunk, setAt, List.lookup_cons, List.lookup_nil, reduceCtorEq, Nat.reduceEqDiff, reduceIte, implies_true, forall_const, Nat.reduceMul, Nat.reduceSub, Nat.reduceAdd, Nat.reduceLeDiff, l0, l1, a00, a1, s1, *]) | (simp only [zgoO, zgoG, zO_nil, zthen_normal, zgoC]) | (with_reducible apply And.intro) | (with_reducible intro _))
    refine repeatSp_z (zx := [Z64 (-1), Z64 (-1)]) rfl (by simp) (by simp [rowsZ]) (by omega) ?_
    have hlen : ins.length < 9223372036854775807 := by omega
    repeat' (first | (simp only [zmPack, zxPack, ne_eq, zfree, owners, Nat.reduceLT, List.contains_cons, List.contains_nil, Nat.reduceBEq, BEq.rfl, chunk, setAt, List.lookup_cons, List.lookup_nil, reduceCtorEq, Nat.reduceEqDiff, reduceIte, implies_true, forall_const, Nat.reduceMul, Nat.reduceSub, Nat.reduceAdd, Nat.reduceLeDiff, l0, l1, l2, l3, a00, a1, s1, a3, s3, *]) | (simp only [zgoO, zgoG, zO_nil, zthen_normal, zgoC]) | (with_reducible apply And.intro) | (with_reducible intro _))
    have hms : ∀ (x : In), (asksI x).length ≤ 100000000 := fun x => by have := asks_len x; omega
    refine zW_forK [(1, .ptr H.length 0), (5, .ptr (H.length + 1) 0), (6, .ptr (H.length + 3) 0), (7, .func 24 [.ptr H.length 0, .ptr (H.length + 1) 0, .ptr (H.length + 3) 0]), (26, .fz 8 false (ins.map eIn))] ins.length (fun k s' h' => SpI H ⟨fn, pl, lp, ins, exs, turn, back⟩ (outK ⟨fn, pl, lp, ins, exs, turn, back⟩ k) h') (by omega) ⟨rfl, rfl, rfl, rfl, rfl, rfl⟩ rfl rfl (by repeat' (first | exact trivial | (refine ⟨rfl, ?_⟩) | (refine ⟨by simp only [zupd_at, Nat.reduceEqDiff, reduceIte]; assumption, ?_⟩))) rfl rfl (by decide) ⟨[], by simp [SpH, outK]⟩ ?_ ?_
    · rintro k s' h' hk hI hi hl ⟨f1, f5, f6, f7, f26, -⟩
      obtain ⟨X, rfl⟩ := hI
      have hx : ins[k]? = some ins[k] := List.getElem?_eq_getElem hk
      obtain ⟨x, hxe⟩ : ∃ x, x = ins[k] := ⟨_, rfl⟩
      rw [← hxe] at hx
      clear hxe
      have ho := hG.out.one k x hx
      have hout : outK ⟨fn, pl, lp, ins, exs, turn, back⟩ (k + 1) = insS ⟨fn, pl, lp, ins, exs, turn, back⟩ (outK ⟨fn, pl, lp, ins, exs, turn, back⟩ k) k x := by
        simp only [outK, hx]
      have hol := outK_len (t := ⟨fn, pl, lp, ins, exs, turn, back⟩) (k := k)
      obtain ⟨o, hoe⟩ : ∃ o, o = outK ⟨fn, pl, lp, ins, exs, turn, back⟩ k := ⟨_, rfl⟩
      rw [← hoe] at hout hol ⊢
      have hout' := Lib.hid hout
      have hol' := Lib.hid hol
      clear hoe hout hol
      have fin : ∀ o' Y, o' = outK ⟨fn, pl, lp, ins, exs, turn, back⟩ (k + 1) → SpI H ⟨fn, pl, lp, ins, exs, turn, back⟩ (outK ⟨fn, pl, lp, ins, exs, turn, back⟩ (k + 1)) (SpH H ⟨fn, pl, lp, ins, exs, turn, back⟩ o' Y) := fun o' Y h => by subst h; exact ⟨Y, rfl⟩
      have FI := Lib.hid fin
      obtain ⟨op, a, b, c, n, e, kk, kn⟩ := x
      simp only [oneB, Bool.and_eq_true, decide_eq_true_eq] at ho
      obtain ⟨_, ⟨⟨oA, oB⟩, oC⟩, oD⟩ := ho
      have vA := allV_in oA
      have VA := Lib.hid vA
      clear fin oA vA
      have p0 : ∀ o X, (SpH H ⟨fn, pl, lp, ins, exs, turn, back⟩ o X)[H.length]? = some (.box _) := fun o X => SpH_0
      have p9 : ∀ o' A, (SpH H ⟨fn, pl, lp, ins, exs, turn, back⟩ o' (X ++ [A]))[(SpH H ⟨fn, pl, lp, ins, exs, turn, back⟩ o X).length]? = some A := fun o' A => SpH_last
      have l9 : L (SpH H ⟨fn, pl, lp, ins, exs, turn, back⟩ o X).length = true := by rw [SpH_len]; exact hL _
      have hkn : k < 9223372036854775807 := by omega
      have OD := Lib.hid oD
      clear oD
      repeat' (first | (simp only [zmPack, zxPack, ne_eq, zfree, owners, Nat.reduceLT, List.contains_cons, List.contains_nil, Nat.reduceBEq, BEq.rfl, chunk, setAt, List.lookup_cons, List.lookup_nil, reduceCtorEq, Nat.reduceEqDiff, reduceIte, implies_true, forall_const, Nat.reduceMul, Nat.reduceSub, Nat.reduceAdd, Nat.reduceLeDiff, hx, p0, l9, *]) | (simp only [zgoO, zgoG, zO_nil, zthen_normal, zgoC]) | (with_reducible apply And.intro) | (with_reducible intro _))
      refine asks_z (x := (op, a, b, c, n, e, kk, kn)) ?_
      rw [SpH_app]
      repeat' (first | (simp only [zmPack, zxPack, ne_eq, zfree, owners, Nat.reduceLT, List.contains_cons, List.contains_nil, Nat.reduceBEq, BEq.rfl, chunk, setAt, List.lookup_cons, List.lookup_nil, reduceCtorEq, Nat.reduceEqDiff, reduceIte, implies_true, forall_const, Nat.reduceMul, Nat.reduceSub, Nat.reduceAdd, Nat.reduceLeDiff, *]) | (simp only [zgoO, zgoG, zO_nil, zthen_normal, zgoC]) | (with_reducible apply And.intro) | (with_reducible intro _))
      refine askH (t := ⟨fn, pl, lp, ins, exs, turn, back⟩) hol'.out (hms _) (fun v hv => by have := VA.out v hv; simp only; omega) l2 ?_
      simp only
      have HA := Lib.hid (askS_len (lp := lp) (n := ins.length) (p := k) (l := asksI (op, a, b, c, n, e, kk, kn)) (o := o))
      by_cases e3 : 0 ≤ e
      · obtain ⟨m, rfl⟩ : ∃ m : Nat, e = (m : Int) := ⟨e.toNat, by omega⟩
        have hml : m < exs.length := by omega
        have hX : exs[m]? = some exs[m] := List.getElem?_eq_getElem hml
        have hXS := HS.out.x _ (List.getElem_mem hml)
        obtain ⟨q, hq⟩ : ∃ q, q = exs[m] := ⟨_, rfl⟩
        rw [← hq] at hX hXS
        clear hq
        have hlv : (valsX q).length ≤ 100000000 := by unfold XtS at hXS; omega
        have hXS' := Lib.hid hXS
        have hD := OD.out
        simp only [exB, if_pos e3, Int.toNat_natCast, hX] at hD
        have hVD := Lib.hid (allV_in hD)
        have hev : exV ⟨fn, pl, lp, ins, exs, turn, back⟩ (m : Int) = valsX q := by unfold exV; simp only [if_pos e3, Int.toNat_natCast, hX]
        have hout2 := Lib.hid (show outK ⟨fn, pl, lp, ins, exs, turn, back⟩ (k + 1) = askS lp ins.length k (askS lp ins.length k o (asksI (op, a, b, c, n, (m : Int), kk, kn))) (valsX q) by rw [hout'.out]; unfold insS; simp only; rw [hev])
        clear hXS hD hev
        repeat' (first | (simp only [zmPack, zxPack, ne_eq, zfree, owners, Nat.reduceLT, List.contains_cons, List.contains_nil, Nat.reduceBEq, BEq.rfl, chunk, setAt, List.lookup_cons, List.lookup_nil, reduceCtorEq, Nat.reduceEqDiff, reduceIte, implies_true, forall_const, Nat.reduceMul, Nat.reduceSub, Nat.reduceAdd, Nat.reduceLeDiff, p0, p9, e3, hX, *]) | (simp only [zgoO, zgoG, zO_nil, zthen_normal, zgoC]) | (with_reducible apply And.intro) | (with_reducible intro _))
        refine values_z (x := q) hXS'.out ?_
        repeat' (first | (simp only [zmPack, zxPack, ne_eq, zfree, owners, Nat.reduceLT, List.contains_cons, List.contains_nil, Nat.reduceBEq, BEq.rfl, chunk, setAt, List.lookup_cons, List.lookup_nil, reduceCtorEq, Nat.reduceEqDiff, reduceIte, implies_true, forall_const, Nat.reduceMul, Nat.reduceSub, Nat.reduceAdd, Nat.reduceLeDiff, *]) | (simp only [zgoO, zgoG, zO_nil, zthen_normal, zgoC]) | (with_reducible apply And.intro) | (with_reducible intro _))
        refine askH (t := ⟨fn, pl, lp, ins, exs, turn, back⟩) (HA.out.trans hol'.out) hlv (fun v hv => by have := hVD.out v hv; simp only; omega) l2 ?_
        simp only
        have fin := FI.out _ (X ++ [.box (eIn (op, a, b, c, n, (m : Int), kk, kn))]) hout2.out.symm
        repeat' (first | (simp only [zmPack, zxPack, ne_eq, zfree, owners, Nat.reduceLT, List.contains_cons, List.contains_nil, Nat.reduceBEq, BEq.rfl, chunk, setAt, List.lookup_cons, List.lookup_nil, reduceCtorEq, Nat.reduceEqDiff, reduceIte, implies_true, forall_const, Nat.reduceMul, Nat.reduceSub, Nat.reduceAdd, Nat.reduceLeDiff, *]) | (simp only [zgoO, zgoG, zO_nil, zthen_normal, zgoC]) | (with_reducible apply And.intro) | (with_reducible intro _))
      · have hev : exV ⟨fn, pl, lp, ins, exs, turn, back⟩ e = [] := by unfold exV; rw [if_neg e3]
        have fin := FI.out (askS lp ins.length k o (asksI (op, a, b, c, n, e, kk, kn))) (X ++ [.box (eIn (op, a, b, c, n, e, kk, kn))]) (by rw [hout'.out]; unfold insS; simp only; rw [hev]; rfl)
        clear hev
        repeat' (first | (simp only [zmPack, zxPack, ne_eq, zfree, owners, Nat.reduceLT, List.contains_cons, List.contains_nil, Nat.reduceBEq, BEq.rfl, chunk, setAt, List.lookup_cons, List.lookup_nil, reduceCtorEq, Nat.reduceEqDiff, reduceIte, implies_true, forall_const, Nat.reduceMul, Nat.reduceSub, Nat.reduceAdd, Nat.reduceLeDiff, p0, p9, e3, *]) | (simp only [zgoO, zgoG, zO_nil, zthen_normal, zgoC]) | (with_reducible apply And.intro) | (with_reducible intro _))
    · rintro s' h' hI ⟨f1, f5, f6, f7, f26, -⟩
      obtain ⟨X, rfl⟩ := hI
      have hol := outK_len (t := ⟨fn, pl, lp, ins, exs, turn, back⟩) (k := ins.length)
      have hend : ∀ o X, o.length = ins.length → o = spans ⟨fn, pl, lp, ins, exs, turn, back⟩ → Fin H (.tuple [.own (H.length + 2) 0 0 ins.length false, Z64 0]) (SpH H ⟨fn, pl, lp, ins, exs, turn, back⟩ o X) K := fun o X hl ho => by
        refine Fin.frzT (j := 0) rfl SpH_2 (by simp [hl]) (by simp [pure_val, Function.comp_def]) ?_
        have e1 : (SpH H ⟨fn, pl, lp, ins, exs, turn, back⟩ o X).set (H.length + 2) .dead = H ++ (_ :: _ :: .dead :: _) := stN2 rfl _ _ _ _ _
        rw [e1]
        refine Fin.truncT (Mods.ext H _) (by simp [refs, refs1]) ?_
        rw [List.take_left, List.drop_zero, List.take_of_length_le (by simp [hl]), ho]
        exact HK1.out hG.out
      have HE := Lib.hid hend
      have hob : outB ⟨fn, pl, lp, ins, exs, turn, back⟩ = askS lp ins.length ins.length (outK ⟨fn, pl, lp, ins, exs, turn, back⟩ ins.length) (valsX back) := rfl
      have hlb : (outB ⟨fn, pl, lp, ins, exs, turn, back⟩).length = ins.length := by rw [hob, askS_len]; exact hol
      have HOB := Lib.hid hob
      have HLB := Lib.hid hlb
      have HOL := Lib.hid hol
      have hbk := hG.out.ends
      simp only [List.any_cons, Bool.or_eq_false_iff, Bool.not_eq_false'] at hbk
      have HVB := Lib.hid (allV_in hbk.1)
      have hbl : (valsX back).length ≤ 100000000 := by have := HS.out.ba; unfold XtS at this; simp only at this; omega
      have htl : (valsX turn).length ≤ 100000000 := by have := HS.out.tu; unfold XtS at this; simp only at this; omega
      have HTU := Lib.hid HS.out.tu
      have HBA := Lib.hid HS.out.ba
      simp only at HTU HBA
      have p0 : ∀ o X, (SpH H ⟨fn, pl, lp, ins, exs, turn, back⟩ o X)[H.length]? = some (.box _) := fun o X => SpH_0
      have p1 : ∀ o X, (SpH H ⟨fn, pl, lp, ins, exs, turn, back⟩ o X)[H.length + 1]? = some (.box _) := fun o X => SpH_1
      have p3 : ∀ o X, (SpH H ⟨fn, pl, lp, ins, exs, turn, back⟩ o X)[H.length + 3]? = some (.box _) := fun o X => SpH_3
      have t0 : ∀ o X, H.length < (SpH H ⟨fn, pl, lp, ins, exs, turn, back⟩ o X).length := fun o X => by rw [SpH_len]; omega
      have t1 : ∀ o X, H.length + 1 < (SpH H ⟨fn, pl, lp, ins, exs, turn, back⟩ o X).length := fun o X => by rw [SpH_len]; omega
      clear hend hob hlb hol hbk
      repeat' (first | (simp only [zmPack, zxPack, ne_eq, zfree, owners, Nat.reduceLT, List.contains_cons, List.contains_nil, Nat.reduceBEq, BEq.rfl, chunk, setAt, List.lookup_cons, List.lookup_nil, reduceCtorEq, Nat.reduceEqDiff, reduceIte, implies_true, forall_const, Nat.reduceMul, Nat.reduceSub, Nat.reduceAdd, Nat.reduceLeDiff, p0, p1, p3, t0, t1, *]) | (simp only [zgoO, zgoG, zO_nil, zthen_normal, zgoC]) | (with_reducible apply And.intro) | (with_reducible intro _))
      refine values_z (x := back) HBA.out ?_
      repeat' (first | (simp only [zmPack, zxPack, ne_eq, zfree, owners, Nat.reduceLT, List.contains_cons, List.contains_nil, Nat.reduceBEq, BEq.rfl, chunk, setAt, List.lookup_cons, List.lookup_nil, reduceCtorEq, Nat.reduceEqDiff, reduceIte, implies_true, forall_const, Nat.reduceMul, Nat.reduceSub, Nat.reduceAdd, Nat.reduceLeDiff, p0, p1, p3, t0, t1, *]) | (simp only [zgoO, zgoG, zO_nil, zthen_normal, zgoC]) | (with_reducible apply And.intro) | (with_reducible intro _))
      refine askH (t := ⟨fn, pl, lp, ins, exs, turn, back⟩) HOL.out hbl (fun v hv => by have := HVB.out v hv; simp only; omega) l2 ?_
      simp only
      rw [← HOB.out]
      obtain ⟨ob, hoe⟩ : ∃ ob, ob = outB ⟨fn, pl, lp, ins, exs, turn, back⟩ := ⟨_, rfl⟩
      rw [← hoe] at HLB ⊢
      have hoe' := Lib.hid hoe
      clear hoe
      by_cases h0 : 0 < lp
      · have HVT := Lib.hid (allV_in (hG.out.turn h0))
        simp only at HVT
        have HSP := Lib.hid (show spans ⟨fn, pl, lp, ins, exs, turn, back⟩ = turnS lp ob (valsX turn) by unfold spans; rw [if_pos h0, hoe'.out])
        repeat' (first | (simp only [zmPack, zxPack, ne_eq, zfree, owners, Nat.reduceLT, List.contains_cons, List.contains_nil, Nat.reduceBEq, BEq.rfl, chunk, setAt, List.lookup_cons, List.lookup_nil, reduceCtorEq, Nat.reduceEqDiff, reduceIte, implies_true, forall_const, Nat.reduceMul, Nat.reduceSub, Nat.reduceAdd, Nat.reduceLeDiff, p0, p1, p3, t0, t1, h0, *]) | (simp only [zgoO, zgoG, zO_nil, zthen_normal, zgoC]) | (with_reducible apply And.intro) | (with_reducible intro _))
        refine values_z (x := turn) HTU.out ?_
        have hvl : (valsX turn).length < 9223372036854775807 := by omega
        repeat' (first | (simp only [zmPack, zxPack, ne_eq, zfree, owners, Nat.reduceLT, List.contains_cons, List.contains_nil, Nat.reduceBEq, BEq.rfl, chunk, setAt, List.lookup_cons, List.lookup_nil, reduceCtorEq, Nat.reduceEqDiff, reduceIte, implies_true, forall_const, Nat.reduceMul, Nat.reduceSub, Nat.reduceAdd, Nat.reduceLeDiff, p0, p1, p3, t0, t1, *]) | (simp only [zgoO, zgoG, zO_nil, zthen_normal, zgoC]) | (with_reducible apply And.intro) | (with_reducible intro _))
        refine zW_forK [(1, .ptr H.length 0), (6, .ptr (H.length + 3) 0), (63, .fz 1 false ((valsX turn).map eI))] (valsX turn).length (fun k s' h' => SpI H ⟨fn, pl, lp, ins, exs, turn, back⟩ (turnS lp ob ((valsX turn).take k)) h') (by omega) ⟨rfl, rfl, rfl, rfl, rfl, rfl⟩ rfl rfl (by repeat' (first | exact trivial | (refine ⟨rfl, ?_⟩) | (refine ⟨by simp only [zupd_at, Nat.reduceEqDiff, reduceIte]; assumption, ?_⟩))) rfl rfl (by decide) ⟨X, rfl⟩ ?_ ?_
        · rintro k s' h' hk hI hi hl ⟨f1, f6, f63, -⟩
          obtain ⟨X, rfl⟩ := hI
          have hx : (valsX turn)[k]? = some (valsX turn)[k] := List.getElem?_eq_getElem hk
          have hvb := HVT.out _ (List.getElem_mem hk)
          obtain ⟨v, hv⟩ : ∃ v, v = (valsX turn)[k] := ⟨_, rfl⟩
          rw [← hv] at hx hvb
          clear hv
          obtain ⟨m, rfl⟩ : ∃ m : Nat, v = (m : Int) := ⟨v.toNat, by omega⟩
          have hstep := turnS_take (lp := lp) (o := ob) hx
          obtain ⟨o1, ho1⟩ : ∃ o1, o1 = turnS lp ob ((valsX turn).take k) := ⟨_, rfl⟩
          have hol : o1.length = ins.length := by rw [ho1, turnS_len]; exact HLB.out
          rw [← ho1] at hstep ⊢
          clear ho1
          have hml : m < ins.length := by omega
          obtain ⟨y, hy⟩ : ∃ y, o1[m]? = some y := ⟨_, List.getElem?_eq_getElem (by omega)⟩
          have he := SpH_el (H := H) (t := ⟨fn, pl, lp, ins, exs, turn, back⟩) (X := X) hml hol
          have hld := SpH_ld (H := H) (t := ⟨fn, pl, lp, ins, exs, turn, back⟩) (X := X) hy
          have hst := SpH_st (H := H) (t := ⟨fn, pl, lp, ins, exs, turn, back⟩) (X := X) hy l2
          simp only at he
          have fin : SpI H ⟨fn, pl, lp, ins, exs, turn, back⟩ (turnS lp ob ((valsX turn).take (k + 1))) (SpH H ⟨fn, pl, lp, ins, exs, turn, back⟩ (o1.set m ((m : Int), max y.2 lp)) X) := by
            rw [hstep]
            unfold putS
            rw [Int.toNat_natCast, List.getD_eq_getElem?_getD, hy]
            exact ⟨X, rfl⟩
          clear hy hml hol hstep hvb
          repeat' (first | (simp only [zmPack, zxPack, ne_eq, zfree, owners, Nat.reduceLT, List.contains_cons, List.contains_nil, Nat.reduceBEq, BEq.rfl, chunk, setAt, List.lookup_cons, List.lookup_nil, reduceCtorEq, Nat.reduceEqDiff, reduceIte, implies_true, forall_const, Nat.reduceMul, Nat.reduceSub, Nat.reduceAdd, Nat.reduceLeDiff, p0, p1, p3, t0, t1, hx, he, hld, hst, best_max, *]) | (simp only [zgoO, zgoG, zO_nil, zthen_normal, zgoC]) | (with_reducible apply And.intro) | (with_reducible intro _))
        · rintro s' h' hI ⟨f1, f6, f63, -⟩
          obtain ⟨X, rfl⟩ := hI
          rw [List.take_of_length_le (Nat.le_refl _)]
          have fin := HE.out (turnS lp ob (valsX turn)) X (by rw [turnS_len]; exact HLB.out) HSP.out.symm
          repeat' (first | (simp only [zmPack, zxPack, ne_eq, zfree, owners, Nat.reduceLT, List.contains_cons, List.contains_nil, Nat.reduceBEq, BEq.rfl, chunk, setAt, List.lookup_cons, List.lookup_nil, reduceCtorEq, Nat.reduceEqDiff, reduceIte, implies_true, forall_const, Nat.reduceMul, Nat.reduceSub, Nat.reduceAdd, Nat.reduceLeDiff, p0, p1, p3, t0, t1, *]) | (simp only [zgoO, zgoG, zO_nil, zthen_normal, zgoC]) | (with_reducible apply And.intro) | (with_reducible intro _))
      · have fin := HE.out ob X HLB.out (by unfold spans; rw [if_neg h0, hoe'.out])
        repeat' (first | (simp only [zmPack, zxPack, ne_eq, zfree, owners, Nat.reduceLT, List.contains_cons, List.contains_nil, Nat.reduceBEq, BEq.rfl, chunk, setAt, List.lookup_cons, List.lookup_nil, reduceCtorEq, Nat.reduceEqDiff, reduceIte, implies_true, forall_const, Nat.reduceMul, Nat.reduceSub, Nat.reduceAdd, Nat.reduceLeDiff, p0, p1, p3, t0, t1, h0, *]) | (simp only [zgoO, zgoG, zO_nil, zthen_normal, zgoC]) | (with_reducible apply And.intro) | (with_reducible intro _))
  · have fin := fun X => HK0.out e X e0 fun h => e0 (he.2 h)
    clear he
    repeat' (first | (simp only [zmPack, zxPack, ne_eq, zfree, owners, Nat.reduceLT, List.contains_cons, List.contains_nil, Nat.reduceBEq, BEq.rfl, chunk, setAt, List.lookup_cons, List.lookup_nil, reduceCtorEq, Nat.reduceEqDiff, reduceIte, implies_true, forall_const, Nat.reduceMul, Nat.reduceSub, Nat.reduceAdd, Nat.reduceLeDiff, l0, l1, a00, a1, s1, e0, *]) | (simp only [zgoO, zgoG, zO_nil, zthen_normal, zgoC]) | (with_reducible apply And.intro) | (with_reducible intro _))
end Go.Proofs.Ytoeppobpnhlebaa
