/-
  The reacher of weak, in AM: reach, all, From, Rising, Needed.
-/
import Derived.Test.YtlgminfejehndaaAmV
import Derived.Test.YtlgminfejehndaaWaPure
namespace Go.Proofs.Ytlgminfejehndaa
open Go Go.RowKit
set_option linter.unusedVariables false
set_option linter.unusedSimpArgs false
variable {tb : List (FuncId × Bool)} {fl : Nat → Bool} {h : Heap} {K : AV → Heap → Prop}

/-- The reacher's state. -/
structure RSt (h : Heap) (rp : Nat) (gh gr sv : AV) (sb : List Bool) (tv : AV) (td : List Int) : Prop where
  rc : blk h rp = some [gh, gr, sv, tv]
  seen : BL h sv sb
  todo : OL h 1 tv (td.map I64) td.length
  d1 : rp ∉ idOf sv
  d2 : rp ∉ idOf tv
  d3 : ∀ i ∈ idOf sv, i ∉ idOf tv
theorem reachL_take {s : List Bool × List Int} {l : List Int} {k : Nat} (hk : k < l.length) : reachL s (l.take (k + 1)) = step (reachL s (l.take k)) l[k] := by
  rw [List.take_succ_eq_append_getElem hk, reachL, List.foldl_append]; rfl

/-- Where the reacher's blocks lie, and that they may be written. -/
structure Wri (fl : Nat → Bool) (h : Heap) (rp : Nat) (sv tv : AV) : Prop where
  f1 : fl rp = true
  f2 : ∀ i ∈ idOf sv, fl i = true
  f3 : ∀ i ∈ idOf tv, fl i = true
  f4 : ∀ i, h.length ≤ i → fl i = true

/-- Behind some reaching: where it stands. -/
def RInv (h : Heap) (rp : Nat) (gh gr sv tv : AV) (s : List Bool × List Int) (h' : Heap) : Prop :=
  ∃ tv', RSt h' rp gh gr sv s.1 tv' s.2 ∧ Keep h h' (rp :: (idOf sv ++ idOf tv)) ∧ ∀ i ∈ idOf tv', i ∈ idOf tv ∨ h.length ≤ i

theorem reach_am {rp : Nat} {gh gr sv tv lv : AV} {sb : List Bool} {td l : List Int} (hR : RSt h rp gh gr sv sb tv td) (hl : IL h lv l) (hli : ∀ i ∈ idOf lv, i ∉ rp :: (idOf sv ++ idOf tv)) (hb : ∀ x ∈ l, 0 ≤ x ∧ x < (sb.length : Int)) (hlen : l.length ≤ 1000000)
    (hbd : td.length + unseen sb ≤ 1000000) (hW : Wri fl h rp sv tv)
    (hK : ∀ h' tv', RSt h' rp gh gr sv (reachL (sb, td) l).1 tv' (reachL (sb, td) l).2 → Keep h h' (rp :: (idOf sv ++ idOf tv)) → (∀ i ∈ idOf tv', i ∈ idOf tv ∨ h.length ≤ i) → K (.tuple []) h') :
    AC (constX tb) (cFunc Try.prog) 47 [.ptr rp 0, lv] fl h K := by
  refine AC.enter rfl f_wk_reach (by simp) ?_
  simp only [c_wk_reach]
  have hln := hl.len
  repeat' (first | (simp only [AW_next, AW_ops, AW_cond, AW_block, AW_exit, AW_ret, AW_skip, AW_scope, AO_nil, AO_next, AO_nextW, wantB_bool, wantK_some, then_normal, then_exit, then_ret, inBlk_normal, inBlk_exit, inBlk_ret, A1_mv, A1_pick, A1_box, A1_zero, A1_build, A1_lits, A1_load, shallow_none, A1_store, A1_nilCheckI, nilOk_ptr, nilOk_func, A1_bin, A1_eqNil, A1_eqBool, A1_eqAgg, A1_un, A1_conv, A1_field, A1_fieldAddr, A1_indexAddr, A1_indexArr, A1_index, A1_slice, A1_mkSlice, A1_extract, A1_func, A1_call, A1_append, A1_len, A1_minmax, put_some, put_none, upd_at, ev_tmp, ev_av, bin_lss, bin_leq, bin_gtr, bin_geq, bin_eql, bin_neq, bin_add, bin_sub, bin_mul, un_not, natOf_nat, Bool.not_eq_false', Prod.mk.injEq, and_assoc, decide_false, decide_true, Bool.not_false, Bool.not_true, Bool.true_eq_false, Bool.false_eq_true, exists_false, Bool.not_eq_false, Bool.not_not, AV.val.injEq, AV.ptr.injEq, AV.slice.injEq, AV.func.injEq, AV.tuple.injEq, AV.agg.injEq, Value.bool.injEq, Value.int.injEq, Option.some.injEq, exists_eq_left', exists_eq_left, exists_and_left, exists_and_right, and_true, true_and, decide_eq_true_eq, decide_eq_false_iff_not, if_true, if_false, Bool.not_eq_true', beq_true, beq_false, ne_eq, not_true_eq_false, not_false_eq_true, reduceCtorEq, List.getD_cons_zero, List.getD_cons_succ, List.map_cons, List.map_nil, List.append_nil, Nat.reduceEqDiff, reduceIte, ite_true, ite_false, or_true, true_or, or_false, false_or, resA, resultsA, true_imp_iff, false_imp_iff, implies_true, imp_false, and_self, imp_self, and_false, false_and, forall_const, cell_val, cell_ptr, cell_slice, cell_func, cell_hole, cells_agg, cells_val, cells_ptr, cells_slice, cells_func, cells_hole, cells_cell, List.length_cons, List.length_nil, List.all_cons, List.all_nil, Bool.and_self, ldA, List.mapM_cons, List.mapM_nil, Option.bind_eq_bind, Option.bind_some, Option.pure_def, Option.map_none, Option.map_some, List.set_cons_zero, List.set_cons_succ, Nat.lt_add_one, List.append_assoc, List.cons_append, List.nil_append, List.append_nil, List.length_append, rd1_n0, rd1_nK, rd1_c0, rd1_cS, rd_n0, rd_nK, rd_c0, rd_cS, fillA, List.take_zero, List.take_succ_cons, List.take_nil, List.drop_zero, List.drop_succ_cons, List.drop_nil, List.getElem?_cons_zero, List.getElem?_cons_succ, Nat.reduceAdd, Nat.reduceLeDiff, Nat.add_eq_zero_iff, and_self, Nat.zero_add, Nat.add_zero, Nat.mul_one, hln, *]) | (simp only [goO, AO_nil, then_normal, goC]) | (with_reducible apply And.intro) | (with_reducible intro _))
  refine AW.named fun S hS => ?_
  have g0 : S 0 = .ptr rp 0 := by rw [hS]; rfl
  have g6 : S 6 = lv := by rw [hS]; rfl
  have g7 : S 7 = I64 l.length := by rw [hS]; rfl
  have g8 : S 8 = I64 (0 : Nat) := by rw [hS]; rfl
  clear hS hln
  refine AW_for l.length (by omega) g8 g7 rfl rfl (by decide) (fun k s' h' => RInv h rp gh gr sv tv (reachL (sb, td) (l.take k)) h') ⟨tv, hR, Keep.refl _, fun i hi => .inl hi⟩ ?_ ?_
  · rintro k s' h' hk ⟨tv1, hR1, hkp, hti⟩ hi hl' hs
    have f0 := (hs 0 rfl).trans g0
    have f6 := (hs 6 rfl).trans g6
    clear hs g0 g6 g7 g8
    obtain ⟨id, off, lb, ex, rfl, hlb, hrd⟩ := (hl.keep hkp hli).at hk
    rw [reachL_take hk]
    have hbk := hb _ (List.getElem_mem hk)
    have b1 := reachL_length (l.take k) (sb, td)
    have b2 := reachL_bound (l.take k) (sb, td) (fun x hx => by have := hb x (List.mem_of_mem_take hx); simp; omega)
    obtain ⟨⟨sb1, td1⟩, hst⟩ : ∃ st, st = reachL (sb, td) (l.take k) := ⟨_, rfl⟩
    rw [← hst] at hR1 b1 b2 ⊢
    clear hst
    obtain ⟨m, hm⟩ := Int.eq_ofNat_of_zero_le hbk.1
    rw [hm] at hrd hbk ⊢
    clear hm
    dsimp only at b1 b2 hR1
    have hm1 : m < sb1.length := by omega
    obtain ⟨rc, hseen, htodo, d1, d2, d3⟩ := hR1
    obtain ⟨sid, soff, slb, sex, hsv, hslb, hsrd⟩ := hseen.at hm1
    have hseen' := hseen
    cases hbm : sb1[m] with
    | true =>
      have e : step (sb1, td1) (m : Nat) = (sb1, td1) := by unfold step; rw [if_pos]; simp [hm1, hbm]
      have fin : RInv h rp gh gr sv tv (step (sb1, td1) (m : Nat)) h' := by rw [e]; exact ⟨tv1, ⟨rc, hseen, htodo, d1, d2, d3⟩, hkp, hti⟩
      rw [hbm] at hsrd
      subst hsv
      clear b1 e
      repeat' (first | (simp only [AW_next, AW_ops, AW_cond, AW_block, AW_exit, AW_ret, AW_skip, AW_scope, AO_nil, AO_next, AO_nextW, wantB_bool, wantK_some, then_normal, then_exit, then_ret, inBlk_normal, inBlk_exit, inBlk_ret, A1_mv, A1_pick, A1_box, A1_zero, A1_build, A1_lits, A1_load, shallow_none, A1_store, A1_nilCheckI, nilOk_ptr, nilOk_func, A1_bin, A1_eqNil, A1_eqBool, A1_eqAgg, A1_un, A1_conv, A1_field, A1_fieldAddr, A1_indexAddr, A1_indexArr, A1_index, A1_slice, A1_mkSlice, A1_extract, A1_func, A1_call, A1_append, A1_len, A1_minmax, put_some, put_none, upd_at, ev_tmp, ev_av, bin_lss, bin_leq, bin_gtr, bin_geq, bin_eql, bin_neq, bin_add, bin_sub, bin_mul, un_not, natOf_nat, Bool.not_eq_false', Prod.mk.injEq, and_assoc, decide_false, decide_true, Bool.not_false, Bool.not_true, Bool.true_eq_false, Bool.false_eq_true, exists_false, Bool.not_eq_false, Bool.not_not, AV.val.injEq, AV.ptr.injEq, AV.slice.injEq, AV.func.injEq, AV.tuple.injEq, AV.agg.injEq, Value.bool.injEq, Value.int.injEq, Option.some.injEq, exists_eq_left', exists_eq_left, exists_and_left, exists_and_right, and_true, true_and, decide_eq_true_eq, decide_eq_false_iff_not, if_true, if_false, Bool.not_eq_true', beq_true, beq_false, ne_eq, not_true_eq_false, not_false_eq_true, reduceCtorEq, List.getD_cons_zero, List.getD_cons_succ, List.map_cons, List.map_nil, List.append_nil, Nat.reduceEqDiff, reduceIte, ite_true, ite_false, or_true, true_or, or_false, false_or, resA, resultsA, true_imp_iff, false_imp_iff, implies_true, imp_false, and_self, imp_self, and_false, false_and, forall_const, cell_val, cell_ptr, cell_slice, cell_func, cell_hole, cells_agg, cells_val, cells_ptr, cells_slice, cells_func, cells_hole, cells_cell, List.length_cons, List.length_nil, List.all_cons, List.all_nil, Bool.and_self, ldA, List.mapM_cons, List.mapM_nil, Option.bind_eq_bind, Option.bind_some, Option.pure_def, Option.map_none, Option.map_some, List.set_cons_zero, List.set_cons_succ, Nat.lt_add_one, List.append_assoc, List.cons_append, List.nil_append, List.append_nil, List.length_append, rd1_n0, rd1_nK, rd1_c0, rd1_cS, rd_n0, rd_nK, rd_c0, rd_cS, fillA, List.take_zero, List.take_succ_cons, List.take_nil, List.drop_zero, List.drop_succ_cons, List.drop_nil, List.getElem?_cons_zero, List.getElem?_cons_succ, Nat.reduceAdd, Nat.reduceLeDiff, Nat.add_eq_zero_iff, and_self, Nat.zero_add, Nat.add_zero, Nat.mul_one, hrd, hsrd, rd1_of rc, natOf_nat, *]) | (simp only [goO, AO_nil, then_normal, goC]) | (with_reducible apply And.intro) | (with_reducible intro _))
    | false =>
      rw [hbm] at hsrd
      have e : step (sb1, td1) (m : Nat) = (sb1.set m true, td1 ++ [(m : Int)]) := by unfold step; rw [if_neg]; rfl; simp [hm1, hbm]
      have w3 : ∀ i ∈ idOf tv1, fl i = true := fun i hi => (hti i hi).elim (hW.f3 i) (hW.f4 i)
      obtain ⟨sid', soff', slb', sex', h1, hsv', hw1, hs1, hk1, hl1⟩ := Sl.set1 (fl := fl) (x := BV true) hseen hm1 hW.f2
      rw [hsv] at hsv'
      injection hsv' with q1 q2 _ q4 q5 _
      subst q1; subst q2; subst q4; subst q5
      have rc1 := hk1.get d1 rc
      obtain ⟨tv2, h2, hap, ho2, hk2, hti2, hl2⟩ := append_ol (fl := fl) (bytes := 8) (m := 1) (new := [I64 m]) (OL.keepK (h' := h1 ++ [some [I64 m]]) htodo ⟨by simp; omega, fun i row hi hr => blk_ext _ (hk1.2 i row hi hr)⟩ (fun i hi hm => d3 i hm hi)) w3 (by omega) rfl (by unfold reach; omega)
      have rc2 := hk2 rp _ d2 (blk_ext _ rc1)
      obtain ⟨h3, hw3, rc3, hk3, hl3⟩ := wr1_ex (fl := fl) (off := 3) (v := tv2) rc2 hW.f1 (by simp)
      have htc := ho2.sl.cell
      have hrow : rowOf (h1 ++ [some [I64 m]]) 1 (.slice h1.length 0 1 1 true 1) = some (1, [I64 m]) := by simp [rowOf, rd_n0, rd_c0]
      have d4 : rp ∉ idOf tv2 := fun hm => (hti2 rp hm).elim (fun q => d2 q) (fun q => by have := blk_lt rc1; simp at q; omega)
      have d5 : ∀ i ∈ idOf sv, i ∉ idOf tv2 := fun i hi hm => (hti2 i hm).elim (fun q => d3 i hi q) (fun q => by have := hs1.lt i hi; simp at q; omega)
      have fin : RInv h rp gh gr sv tv (step (sb1, td1) (m : Nat)) h3 := by
        rw [e]
        refine ⟨tv2, ⟨rc3, ?_, ?_, d1, d4, d5⟩, ?_, ?_⟩
        · show Sl _ _ _ ((sb1.set m true).map BV) (sb1.set m true).length
          rw [List.map_set, List.length_set]
          exact hs1.cong fun i off lb ex row q hr => by
            have hi : i ∈ idOf sv := by rw [q]; simp [idOf]
            rw [hk3 i (fun q => d1 (q ▸ hi))]
            exact hk2 i row (d3 i hi) (blk_ext _ hr)
        · simp only [List.map_append, List.map_cons, List.map_nil, List.length_append, List.length_cons, List.length_nil]
          exact ho2.keep fun i row hi hr => by rw [hk3 i (fun q => d4 (q ▸ hi))]; exact hr
        · have a2 : Keep h1 h2 (idOf tv1) := ⟨by simp at hl2; omega, fun i row hi hr => hk2 i row hi (blk_ext _ hr)⟩
          have a3 : Keep h2 h3 [rp] := ⟨by omega, fun i row hi hr => by rw [hk3 i (by simpa using hi)]; exact hr⟩
          have t1 : ∀ i ∈ rp :: (idOf sv ++ idOf tv), i ∈ rp :: (idOf sv ++ idOf tv) ∨ List.length h ≤ i := fun i hi => .inl hi
          refine ((hkp.then hk1 t1 fun i hi => .inl (by simp [hi])).then a2 t1 fun i hi => ?_).then a3 t1 fun i hi => .inl (by simp at hi; simp [hi])
          exact (hti i hi).elim (fun q => .inl (by simp [q])) .inr
        · intro i hi
          have := hkp.1
          rcases hti2 i hi with q | q
          · exact hti i q
          · simp at q; omega
      subst hsv
      clear b1 e rc2 rc3 hl1 hl2 hl3
      repeat' (first | (simp only [AW_next, AW_ops, AW_cond, AW_block, AW_exit, AW_ret, AW_skip, AW_scope, AO_nil, AO_next, AO_nextW, wantB_bool, wantK_some, then_normal, then_exit, then_ret, inBlk_normal, inBlk_exit, inBlk_ret, A1_mv, A1_pick, A1_box, A1_zero, A1_build, A1_lits, A1_load, shallow_none, A1_store, A1_nilCheckI, nilOk_ptr, nilOk_func, A1_bin, A1_eqNil, A1_eqBool, A1_eqAgg, A1_un, A1_conv, A1_field, A1_fieldAddr, A1_indexAddr, A1_indexArr, A1_index, A1_slice, A1_mkSlice, A1_extract, A1_func, A1_call, A1_append, A1_len, A1_minmax, put_some, put_none, upd_at, ev_tmp, ev_av, bin_lss, bin_leq, bin_gtr, bin_geq, bin_eql, bin_neq, bin_add, bin_sub, bin_mul, un_not, natOf_nat, Bool.not_eq_false', Prod.mk.injEq, and_assoc, decide_false, decide_true, Bool.not_false, Bool.not_true, Bool.true_eq_false, Bool.false_eq_true, exists_false, Bool.not_eq_false, Bool.not_not, AV.val.injEq, AV.ptr.injEq, AV.slice.injEq, AV.func.injEq, AV.tuple.injEq, AV.agg.injEq, Value.bool.injEq, Value.int.injEq, Option.some.injEq, exists_eq_left', exists_eq_left, exists_and_left, exists_and_right, and_true, true_and, decide_eq_true_eq, decide_eq_false_iff_not, if_true, if_false, Bool.not_eq_true', beq_true, beq_false, ne_eq, not_true_eq_false, not_false_eq_true, reduceCtorEq, List.getD_cons_zero, List.getD_cons_succ, List.map_cons, List.map_nil, List.append_nil, Nat.reduceEqDiff, reduceIte, ite_true, ite_false, or_true, true_or, or_false, false_or, resA, resultsA, true_imp_iff, false_imp_iff, implies_true, imp_false, and_self, imp_self, and_false, false_and, forall_const, cell_val, cell_ptr, cell_slice, cell_func, cell_hole, cells_agg, cells_val, cells_ptr, cells_slice, cells_func, cells_hole, cells_cell, List.length_cons, List.length_nil, List.all_cons, List.all_nil, Bool.and_self, ldA, List.mapM_cons, List.mapM_nil, Option.bind_eq_bind, Option.bind_some, Option.pure_def, Option.map_none, Option.map_some, List.set_cons_zero, List.set_cons_succ, Nat.lt_add_one, List.append_assoc, List.cons_append, List.nil_append, List.append_nil, List.length_append, rd1_n0, rd1_nK, rd1_c0, rd1_cS, rd_n0, rd_nK, rd_c0, rd_cS, fillA, List.take_zero, List.take_succ_cons, List.take_nil, List.drop_zero, List.drop_succ_cons, List.drop_nil, List.getElem?_cons_zero, List.getElem?_cons_succ, Nat.reduceAdd, Nat.reduceLeDiff, Nat.add_eq_zero_iff, and_self, Nat.zero_add, Nat.add_zero, Nat.mul_one, hrd, hsrd, rd1_of rc, rd1_of rc1, natOf_nat, hw1, hrow, hap, hw3, *]) | (simp only [goO, AO_nil, then_normal, goC]) | (with_reducible apply And.intro) | (with_reducible intro _))
  · rintro s' h' ⟨tv1, hR1, hkp, hti⟩ hs
    rw [List.take_of_length_le (Nat.le_refl _)] at hR1
    have := hK h' tv1 hR1 hkp hti
    clear hs
    repeat' (first | (simp only [AW_next, AW_ops, AW_cond, AW_block, AW_exit, AW_ret, AW_skip, AW_scope, AO_nil, AO_next, AO_nextW, wantB_bool, wantK_some, then_normal, then_exit, then_ret, inBlk_normal, inBlk_exit, inBlk_ret, A1_mv, A1_pick, A1_box, A1_zero, A1_build, A1_lits, A1_load, shallow_none, A1_store, A1_nilCheckI, nilOk_ptr, nilOk_func, A1_bin, A1_eqNil, A1_eqBool, A1_eqAgg, A1_un, A1_conv, A1_field, A1_fieldAddr, A1_indexAddr, A1_indexArr, A1_index, A1_slice, A1_mkSlice, A1_extract, A1_func, A1_call, A1_append, A1_len, A1_minmax, put_some, put_none, upd_at, ev_tmp, ev_av, bin_lss, bin_leq, bin_gtr, bin_geq, bin_eql, bin_neq, bin_add, bin_sub, bin_mul, un_not, natOf_nat, Bool.not_eq_false', Prod.mk.injEq, and_assoc, decide_false, decide_true, Bool.not_false, Bool.not_true, Bool.true_eq_false, Bool.false_eq_true, exists_false, Bool.not_eq_false, Bool.not_not, AV.val.injEq, AV.ptr.injEq, AV.slice.injEq, AV.func.injEq, AV.tuple.injEq, AV.agg.injEq, Value.bool.injEq, Value.int.injEq, Option.some.injEq, exists_eq_left', exists_eq_left, exists_and_left, exists_and_right, and_true, true_and, decide_eq_true_eq, decide_eq_false_iff_not, if_true, if_false, Bool.not_eq_true', beq_true, beq_false, ne_eq, not_true_eq_false, not_false_eq_true, reduceCtorEq, List.getD_cons_zero, List.getD_cons_succ, List.map_cons, List.map_nil, List.append_nil, Nat.reduceEqDiff, reduceIte, ite_true, ite_false, or_true, true_or, or_false, false_or, resA, resultsA, true_imp_iff, false_imp_iff, implies_true, imp_false, and_self, imp_self, and_false, false_and, forall_const, cell_val, cell_ptr, cell_slice, cell_func, cell_hole, cells_agg, cells_val, cells_ptr, cells_slice, cells_func, cells_hole, cells_cell, List.length_cons, List.length_nil, List.all_cons, List.all_nil, Bool.and_self, ldA, List.mapM_cons, List.mapM_nil, Option.bind_eq_bind, Option.bind_some, Option.pure_def, Option.map_none, Option.map_some, List.set_cons_zero, List.set_cons_succ, Nat.lt_add_one, List.append_assoc, List.cons_append, List.nil_append, List.append_nil, List.length_append, rd1_n0, rd1_nK, rd1_c0, rd1_cS, rd_n0, rd_nK, rd_c0, rd_cS, fillA, List.take_zero, List.take_succ_cons, List.take_nil, List.drop_zero, List.drop_succ_cons, List.drop_nil, List.getElem?_cons_zero, List.getElem?_cons_succ, Nat.reduceAdd, Nat.reduceLeDiff, Nat.add_eq_zero_iff, and_self, Nat.zero_add, Nat.add_zero, Nat.mul_one, *]) | (simp only [goO, AO_nil, then_normal, goC]) | (with_reducible apply And.intro) | (with_reducible intro _))
theorem all_am {h0 : Heap} {rp : Nat} {gh gr sv tv : AV} {has : List (List Int)} {sb : List Bool} {td : List Int} {S0 : Nat → Prop} (hR : RSt h rp gh gr sv sb tv td) (hA : AInv has S0 (sb, td)) (hok : okHas has sb.length) (hh0 : Keep h0 h []) (hL : LL h0 gh has)
    (hge : ∀ i ∈ rp :: (idOf sv ++ idOf tv), h0.length ≤ i) (hls : ∀ l ∈ has, l.length ≤ 1000) (hbd : td.length + unseen sb ≤ 1000000) (hW : Wri fl h rp sv tv)
    (hK : ∀ h' tv' sb', RSt h' rp gh gr sv sb' tv' [] → AInv has S0 (sb', []) → Keep h h' (rp :: (idOf sv ++ idOf tv)) → (∀ i ∈ idOf tv', i ∈ idOf tv ∨ h.length ≤ i) → K (.tuple []) h') :
    AC (constX tb) (cFunc Try.prog) 48 [.ptr rp 0] fl h K := by
  refine AC.enter rfl f_wk_all (by simp) ?_
  simp only [c_wk_all]
  rw [AW_block]
  refine AW.named fun S hS => ?_
  have g0 : S 0 = .ptr rp 0 := by rw [hS]; rfl
  clear hS
  refine AW_while (fun n s' h' => ∃ st, n = st.2.length + unseen st.1 ∧ n ≤ 1000000 ∧ st.1.length = sb.length ∧ AInv has S0 st ∧ RInv h rp gh gr sv tv st h') (td.length + unseen sb) ⟨(sb, td), rfl, hbd, rfl, hA, tv, hR, Keep.refl _, fun i hi => .inl hi⟩ ?_
  rintro n s' h' ⟨⟨sb1, td1⟩, hn, hnb, hsl, hA1, tv1, hR1, hkp, hti⟩ hs
  have f0 := (hs 0 (by decide)).trans g0
  dsimp only at hn hsl hR1
  clear hs g0
  obtain ⟨rc, hseen, htodo, d1, d2, d3⟩ := hR1
  rcases List.eq_nil_or_concat td1 with rfl | ⟨td0, x, rfl⟩
  · have hlt := htodo.len
    have fin := hK h' tv1 sb1 ⟨rc, hseen, htodo, d1, d2, d3⟩ hA1 hkp hti
    clear hn hsl
    repeat' (first | (simp only [AW_next, AW_ops, AW_cond, AW_block, AW_exit, AW_ret, AW_skip, AW_scope, AO_nil, AO_next, AO_nextW, wantB_bool, wantK_some, then_normal, then_exit, then_ret, inBlk_normal, inBlk_exit, inBlk_ret, A1_mv, A1_pick, A1_box, A1_zero, A1_build, A1_lits, A1_load, shallow_none, A1_store, A1_nilCheckI, nilOk_ptr, nilOk_func, A1_bin, A1_eqNil, A1_eqBool, A1_eqAgg, A1_un, A1_conv, A1_field, A1_fieldAddr, A1_indexAddr, A1_indexArr, A1_index, A1_slice, A1_mkSlice, A1_extract, A1_func, A1_call, A1_append, A1_len, A1_minmax, put_some, put_none, upd_at, ev_tmp, ev_av, bin_lss, bin_leq, bin_gtr, bin_geq, bin_eql, bin_neq, bin_add, bin_sub, bin_mul, un_not, natOf_nat, Bool.not_eq_false', Prod.mk.injEq, and_assoc, decide_false, decide_true, Bool.not_false, Bool.not_true, Bool.true_eq_false, Bool.false_eq_true, exists_false, Bool.not_eq_false, Bool.not_not, AV.val.injEq, AV.ptr.injEq, AV.slice.injEq, AV.func.injEq, AV.tuple.injEq, AV.agg.injEq, Value.bool.injEq, Value.int.injEq, Option.some.injEq, exists_eq_left', exists_eq_left, exists_and_left, exists_and_right, and_true, true_and, decide_eq_true_eq, decide_eq_false_iff_not, if_true, if_false, Bool.not_eq_true', beq_true, beq_false, ne_eq, not_true_eq_false, not_false_eq_true, reduceCtorEq, List.getD_cons_zero, List.getD_cons_succ, List.map_cons, List.map_nil, List.append_nil, Nat.reduceEqDiff, reduceIte, ite_true, ite_false, or_true, true_or, or_false, false_or, resA, resultsA, true_imp_iff, false_imp_iff, implies_true, imp_false, and_self, imp_self, and_false, false_and, forall_const, cell_val, cell_ptr, cell_slice, cell_func, cell_hole, cells_agg, cells_val, cells_ptr, cells_slice, cells_func, cells_hole, cells_cell, List.length_cons, List.length_nil, List.all_cons, List.all_nil, Bool.and_self, ldA, List.mapM_cons, List.mapM_nil, Option.bind_eq_bind, Option.bind_some, Option.pure_def, Option.map_none, Option.map_some, List.set_cons_zero, List.set_cons_succ, Nat.lt_add_one, List.append_assoc, List.cons_append, List.nil_append, List.append_nil, List.length_append, rd1_n0, rd1_nK, rd1_c0, rd1_cS, rd_n0, rd_nK, rd_c0, rd_cS, fillA, List.take_zero, List.take_succ_cons, List.take_nil, List.drop_zero, List.drop_succ_cons, List.drop_nil, List.getElem?_cons_zero, List.getElem?_cons_succ, Nat.reduceAdd, Nat.reduceLeDiff, Nat.add_eq_zero_iff, and_self, Nat.zero_add, Nat.add_zero, Nat.mul_one, rd1_of rc, hlt, *]) | (simp only [goO, AO_nil, then_normal, goC]) | (with_reducible apply And.intro) | (with_reducible intro _))
    · exfalso; rename_i hz; exact absurd hz (by simp)
  · simp only [List.concat_eq_append] at *
    have hx := hA1.todo x (by simp)
    obtain ⟨m, rfl⟩ := Int.eq_ofNat_of_zero_le hx.1
    have hm1 : m < has.length := by rw [hok.1]; have := hx.2.1; dsimp only at this; omega
    have hlen : (td0 ++ [(m : Int)]).length = td0.length + 1 := by simp
    obtain ⟨tid, toff, tlb, tex, htv, htlb, htrd⟩ := (show IL h' tv1 (td0 ++ [(m : Int)]) from htodo.sl).at (j := td0.length) (by simp)
    rw [List.getElem_append_right (Nat.le_refl _)] at htrd
    simp only [Nat.sub_self, List.getElem_cons_zero] at htrd
    have hlt := htodo.len
    have htodo' := htodo
    rw [hlen] at hlt
    rw [hlen, List.map_append] at htodo'
    obtain ⟨tv2, hsl2, ho2, hid2⟩ := htodo'.pop rfl
    have w3 : ∀ i ∈ idOf tv1, fl i = true := fun i hi => (hti i hi).elim (hW.f3 i) (hW.f4 i)
    obtain ⟨h1, hw1, rc1, hk1, hl1⟩ := wr1_ex (fl := fl) (off := 3) (v := tv2) rc hW.f1 (by simp)
    have hwr : IntKind.i64.wrap (((td0.length + 1 : Nat) : Int) - 1) = (td0.length : Nat) := by rw [IntWalk.i64_in _ (by omega)]; omega
    have htc := ho2.sl.cell
    have k1 : Keep h' h1 [rp] := ⟨by omega, fun i row hi hr => by rw [hk1 i (by simpa using hi)]; exact hr⟩
    have k2 : Keep h0 h1 [] := (hh0.then hkp (fun i hi => .inl hi) (fun i hi => .inr (hge i hi))).then k1 (fun i hi => .inl hi) (fun i hi => .inr (hge i (by simp at hi; simp [hi])))
    obtain ⟨gid, goff, glb, gex, u, hgh, hglb, hgrd0, hu0⟩ := hL.at hm1
    have hgrd := k2.rd1 (by simp) hgrd0
    have hu := hu0.keep k2 (fun i _ => by simp)
    have hlu : ∀ i ∈ idOf u, i < h0.length := Sl.lt hu0
    have hb2 : td0.length + unseen sb1 < n := by rw [hn]; simp
    have hok1 : okHas has sb1.length := by rw [hsl]; exact hok
    have hget : has.getD m [] = has[m] := by simp [hm1]
    have hAn := AInv.next hok1 hA1
    simp only [Int.toNat_natCast, hget] at hAn
    have hw4 := hkp.1
    have hR2 : RSt h1 rp gh gr sv sb1 tv2 td0 := ⟨rc1, hseen.keep k1 (fun i hi hm => d1 (by simp at hm; rw [← hm]; exact hi)), by simpa using ho2.keepK k1 (fun i hi hm => by rw [hid2] at hi; simp at hm; exact d2 (hm ▸ hi)), d1, by rw [hid2]; exact d2, by rw [hid2]; exact d3⟩
    have hW2 : Wri fl h1 rp sv tv2 := ⟨hW.f1, hW.f2, by rw [hid2]; exact w3, fun i hi => hW.f4 i (by omega)⟩
    have hbu : ∀ x ∈ has[m], 0 ≤ x ∧ x < (sb1.length : Int) := fun x hx => hok1.2 _ (List.getElem_mem _) x hx
    have hlu1 : has[m].length ≤ 1000 := hls _ (List.getElem_mem _)
    have hli : ∀ i ∈ idOf u, i ∉ rp :: (idOf sv ++ idOf tv2) := fun i hi hm => by
      have a := hlu i hi
      rw [hid2] at hm
      simp only [List.mem_cons, List.mem_append] at hm
      rcases hm with rfl | hm | hm
      · have := hge _ (List.mem_cons_self ..); omega
      · have := hge i (by simp [hm]); omega
      · rcases hti i hm with q | q
        · have := hge i (by simp [q]); omega
        · have := hh0.1; omega
    have hgo : ∀ h2 tv3, RSt h2 rp gh gr sv (reachL (sb1, td0) has[m]).1 tv3 (reachL (sb1, td0) has[m]).2 → Keep h1 h2 (rp :: (idOf sv ++ idOf tv2)) → (∀ i ∈ idOf tv3, i ∈ idOf tv2 ∨ h1.length ≤ i) →
        ∃ n', n' < n ∧ ∃ st, n' = st.2.length + unseen st.1 ∧ n' ≤ 1000000 ∧ st.1.length = sb.length ∧ AInv has S0 st ∧ RInv h rp gh gr sv tv st h2 := fun h2 tv3 r1 r2 r3 => by
      have hbd2 := reachL_bound has[m] (sb1, td0) (fun x hx => by have := hbu x hx; simp; omega)
      have hll := reachL_length has[m] (sb1, td0)
      dsimp only at hbd2 hll
      have t1 : ∀ i ∈ rp :: (idOf sv ++ idOf tv), i ∈ rp :: (idOf sv ++ idOf tv) ∨ List.length h ≤ i := fun i hi => .inl hi
      refine ⟨_, by omega, reachL (sb1, td0) has[m], rfl, by omega, by omega, hAn, tv3, r1, (hkp.then k1 t1 (fun i hi => .inl (by simp at hi; simp [hi]))).then r2 t1 (fun i hi => ?_), fun i hi => ?_⟩
      · rw [hid2] at hi
        simp only [List.mem_cons, List.mem_append] at hi ⊢
        rcases hi with q | q | q
        · exact .inl (.inl q)
        · exact .inl (.inr (.inl q))
        · exact (hti i q).elim (fun q => .inl (.inr (.inr q))) .inr
      · rcases r3 i hi with q | q
        · rw [hid2] at q; exact hti i q
        · exact .inr (by omega)
    rw [hlen] at htv
    subst htv hgh
    clear hk1 hl1 hsl hn
    repeat' (first | (simp only [AW_next, AW_ops, AW_cond, AW_block, AW_exit, AW_ret, AW_skip, AW_scope, AO_nil, AO_next, AO_nextW, wantB_bool, wantK_some, then_normal, then_exit, then_ret, inBlk_normal, inBlk_exit, inBlk_ret, A1_mv, A1_pick, A1_box, A1_zero, A1_build, A1_lits, A1_load, shallow_none, A1_store, A1_nilCheckI, nilOk_ptr, nilOk_func, A1_bin, A1_eqNil, A1_eqBool, A1_eqAgg, A1_un, A1_conv, A1_field, A1_fieldAddr, A1_indexAddr, A1_indexArr, A1_index, A1_slice, A1_mkSlice, A1_extract, A1_func, A1_call, A1_append, A1_len, A1_minmax, put_some, put_none, upd_at, ev_tmp, ev_av, bin_lss, bin_leq, bin_gtr, bin_geq, bin_eql, bin_neq, bin_add, bin_sub, bin_mul, un_not, natOf_nat, Bool.not_eq_false', Prod.mk.injEq, and_assoc, decide_false, decide_true, Bool.not_false, Bool.not_true, Bool.true_eq_false, Bool.false_eq_true, exists_false, Bool.not_eq_false, Bool.not_not, AV.val.injEq, AV.ptr.injEq, AV.slice.injEq, AV.func.injEq, AV.tuple.injEq, AV.agg.injEq, Value.bool.injEq, Value.int.injEq, Option.some.injEq, exists_eq_left', exists_eq_left, exists_and_left, exists_and_right, and_true, true_and, decide_eq_true_eq, decide_eq_false_iff_not, if_true, if_false, Bool.not_eq_true', beq_true, beq_false, ne_eq, not_true_eq_false, not_false_eq_true, reduceCtorEq, List.getD_cons_zero, List.getD_cons_succ, List.map_cons, List.map_nil, List.append_nil, Nat.reduceEqDiff, reduceIte, ite_true, ite_false, or_true, true_or, or_false, false_or, resA, resultsA, true_imp_iff, false_imp_iff, implies_true, imp_false, and_self, imp_self, and_false, false_and, forall_const, cell_val, cell_ptr, cell_slice, cell_func, cell_hole, cells_agg, cells_val, cells_ptr, cells_slice, cells_func, cells_hole, cells_cell, List.length_cons, List.length_nil, List.all_cons, List.all_nil, Bool.and_self, ldA, List.mapM_cons, List.mapM_nil, Option.bind_eq_bind, Option.bind_some, Option.pure_def, Option.map_none, Option.map_some, List.set_cons_zero, List.set_cons_succ, Nat.lt_add_one, List.append_assoc, List.cons_append, List.nil_append, List.append_nil, List.length_append, rd1_n0, rd1_nK, rd1_c0, rd1_cS, rd_n0, rd_nK, rd_c0, rd_cS, fillA, List.take_zero, List.take_succ_cons, List.take_nil, List.drop_zero, List.drop_succ_cons, List.drop_nil, List.getElem?_cons_zero, List.getElem?_cons_succ, Nat.reduceAdd, Nat.reduceLeDiff, Nat.add_eq_zero_iff, and_self, Nat.zero_add, Nat.add_zero, Nat.mul_one, rd1_of rc, rd1_of rc1, hlt, hwr, htrd, hsl2, hw1, natOf_nat, *]) | (simp only [goO, AO_nil, then_normal, goC]) | (with_reducible apply And.intro) | (with_reducible intro _))
    · refine reach_am hR2 hu hli hbu (by omega) (by omega) hW2 fun h2 tv3 r1 r2 r3 => ?_
      have fin := hgo h2 tv3 r1 r2 r3
      clear hgo
      repeat' (first | (simp only [AW_next, AW_ops, AW_cond, AW_block, AW_exit, AW_ret, AW_skip, AW_scope, AO_nil, AO_next, AO_nextW, wantB_bool, wantK_some, then_normal, then_exit, then_ret, inBlk_normal, inBlk_exit, inBlk_ret, A1_mv, A1_pick, A1_box, A1_zero, A1_build, A1_lits, A1_load, shallow_none, A1_store, A1_nilCheckI, nilOk_ptr, nilOk_func, A1_bin, A1_eqNil, A1_eqBool, A1_eqAgg, A1_un, A1_conv, A1_field, A1_fieldAddr, A1_indexAddr, A1_indexArr, A1_index, A1_slice, A1_mkSlice, A1_extract, A1_func, A1_call, A1_append, A1_len, A1_minmax, put_some, put_none, upd_at, ev_tmp, ev_av, bin_lss, bin_leq, bin_gtr, bin_geq, bin_eql, bin_neq, bin_add, bin_sub, bin_mul, un_not, natOf_nat, Bool.not_eq_false', Prod.mk.injEq, and_assoc, decide_false, decide_true, Bool.not_false, Bool.not_true, Bool.true_eq_false, Bool.false_eq_true, exists_false, Bool.not_eq_false, Bool.not_not, AV.val.injEq, AV.ptr.injEq, AV.slice.injEq, AV.func.injEq, AV.tuple.injEq, AV.agg.injEq, Value.bool.injEq, Value.int.injEq, Option.some.injEq, exists_eq_left', exists_eq_left, exists_and_left, exists_and_right, and_true, true_and, decide_eq_true_eq, decide_eq_false_iff_not, if_true, if_false, Bool.not_eq_true', beq_true, beq_false, ne_eq, not_true_eq_false, not_false_eq_true, reduceCtorEq, List.getD_cons_zero, List.getD_cons_succ, List.map_cons, List.map_nil, List.append_nil, Nat.reduceEqDiff, reduceIte, ite_true, ite_false, or_true, true_or, or_false, false_or, resA, resultsA, true_imp_iff, false_imp_iff, implies_true, imp_false, and_self, imp_self, and_false, false_and, forall_const, cell_val, cell_ptr, cell_slice, cell_func, cell_hole, cells_agg, cells_val, cells_ptr, cells_slice, cells_func, cells_hole, cells_cell, List.length_cons, List.length_nil, List.all_cons, List.all_nil, Bool.and_self, ldA, List.mapM_cons, List.mapM_nil, Option.bind_eq_bind, Option.bind_some, Option.pure_def, Option.map_none, Option.map_some, List.set_cons_zero, List.set_cons_succ, Nat.lt_add_one, List.append_assoc, List.cons_append, List.nil_append, List.append_nil, List.length_append, rd1_n0, rd1_nK, rd1_c0, rd1_cS, rd_n0, rd_nK, rd_c0, rd_cS, fillA, List.take_zero, List.take_succ_cons, List.take_nil, List.drop_zero, List.drop_succ_cons, List.drop_nil, List.getElem?_cons_zero, List.getElem?_cons_succ, Nat.reduceAdd, Nat.reduceLeDiff, Nat.add_eq_zero_iff, and_self, Nat.zero_add, Nat.add_zero, Nat.mul_one, *]) | (simp only [goO, AO_nil, then_normal, goC]) | (with_reducible apply And.intro) | (with_reducible intro _))
      all_goals trace_state
    · exfalso; rename_i hz; exact hz (by omega)
end Go.Proofs.Ytlgminfejehndaa
