/-
  Ends in ZM: weak's contracts; the document's From.
-/
import Derived.Test.YtfmllmcjinjfaaaMrU7
import Derived.Test.YtfmllmcjinjfaaaMrU8
namespace Go.Proofs.Ytfmllmcjinjfaaa
open Go Go.RowKit
set_option linter.unusedVariables false
set_option linter.unusedSimpArgs false
section
variable {tb : List (FuncId × Bool)} {fl : Nat → Bool} {h : Heap} {K : AV → Heap → Prop}
theorem from_am2 {v1 v2 lv : AV} {has : List (List Int)} {l : List Int} (h1 : LL h v1 has) (hc2 : v2.isCell = true) (hl : IL h lv l) (hN : has.length ≤ 100) (hls : ∀ l ∈ has, l.length ≤ 1000) (hll : l.length ≤ 1000000) (hok : okHas has has.length)
    (hb : ∀ x ∈ l, 0 ≤ x ∧ x < (has.length : Int)) (hf : ∀ i, h.length ≤ i → fl i = true)
    (hK : ∀ h' sb, BL h' (.slice (h.length + 1) 0 has.length has.length true 1) sb → sb.length = has.length → LInv has [] l sb → Keep h h' [] → K (.slice (h.length + 1) 0 has.length has.length true 1) h') :
    AC (constX tb) (cFunc Try.prog) 26 [.agg [v1, v2], lv] fl h K := by
  refine AC.enter rfl f_wk_from (by simp) ?_
  simp only [c_wk_from]
  have hl1 := h1.len
  have hc1 := h1.cell
  have hre : has.length ≤ reach := by unfold reach; omega
  obtain ⟨H, hH⟩ : ∃ H, H = h ++ [some [v1, v2], some (List.replicate has.length (BV false)), some [v1, v2, .slice (h.length + 1) 0 has.length has.length true 1, .nil]] := ⟨_, rfl⟩
  have kH : Keep h H [] := by rw [hH]; exact Keep.ext _ _
  have hHl : H.length = h.length + 3 := by rw [hH]; simp
  have hR : RSt H (h.length + 2) v1 v2 (.slice (h.length + 1) 0 has.length has.length true 1) (List.replicate has.length false) .nil [] := by
    refine ⟨by rw [hH, blk_atK]; rfl, BL.made (by rw [hH, blk_atK]; rfl), OL.nil, by simp [idOf], by simp [idOf], by simp [idOf]⟩
  have hW : Wri fl H (h.length + 2) (.slice (h.length + 1) 0 has.length has.length true 1) .nil := ⟨hf _ (by omega), fun i hi => hf _ (by simp [idOf] at hi; omega), fun i hi => by simp [idOf] at hi, fun i hi => hf _ (by omega)⟩
  have hgo := fun (K2 : AV → Heap → Prop) (k2 : _) => reach_am (tb := tb) (K := K2) hR (hl.keep kH (by simp)) (fun i hi hm => by have := Sl.lt hl i hi; simp [idOf] at hm; omega) (by simpa using hb) hll (by rw [replicate_unseen]; simp; omega) hW k2
  have HH := Lib.hid hH
  have HL := Lib.hid hHl
  clear hH hHl
  repeat' (first | (simp only [AW_next, AW_ops, AW_opsD, AW_cond, AW_block, AW_exit, AW_ret, AW_skip, AW_scope, AO_nil, AO_next, AO_nextW, wantB_bool, wantK_some, then_normal, then_exit, then_ret, inBlk_normal, inBlk_exit, inBlk_ret, A1_mv, A1_pick, A1_box, A1_zero, A1_build, A1_lits, A1_load, shallow_none, A1_store, A1_nilCheckI, nilOk_ptr, nilOk_func, A1_bin, A1_eqNil, A1_eqBool, A1_eqAgg, A1_un, A1_conv, A1_field, A1_fieldAddr, A1_indexAddr, A1_indexArr, A1_index, A1_slice, A1_mkSlice, A1_extract, A1_func, A1_call, callee_func, callee_bfunc, A1_append, A1_len, A1_minmax, put_some, put_none, upd_at, ev_tmp, ev_av, bin_lss, bin_leq, bin_gtr, bin_geq, bin_eql, bin_neq, bin_add, bin_sub, bin_mul, un_not, natOf_nat, Bool.not_eq_false', Prod.mk.injEq, and_assoc, decide_false, decide_true, Bool.not_false, Bool.not_true, Bool.true_eq_false, Bool.false_eq_true, exists_false, Bool.not_eq_false, Bool.not_not, AV.val.injEq, AV.ptr.injEq, AV.slice.injEq, AV.func.injEq, AV.tuple.injEq, AV.agg.injEq, Value.bool.injEq, Value.int.injEq, Option.some.injEq, exists_eq_left', exists_eq_left, exists_and_left, exists_and_right, and_true, true_and, decide_eq_true_eq, decide_eq_false_iff_not, if_true, if_false, Bool.not_eq_true', beq_true, beq_false, ne_eq, not_true_eq_false, not_false_eq_true, reduceCtorEq, List.getD_cons_zero, List.getD_cons_succ, List.map_cons, List.map_nil, List.append_nil, Nat.reduceEqDiff, reduceIte, ite_true, ite_false, or_true, true_or, or_false, false_or, resA, resultsA, true_imp_iff, false_imp_iff, implies_true, imp_false, and_self, imp_self, and_false, false_and, forall_const, cell_val, cell_ptr, cell_slice, cell_func, cell_hole, cells_agg, cells_val, cells_ptr, cells_slice, cells_func, cells_hole, cells_cell, List.length_cons, List.length_nil, List.all_cons, List.all_nil, Bool.and_self, ldA, List.mapM_cons, List.mapM_nil, Option.bind_eq_bind, Option.bind_some, Option.pure_def, Option.map_none, Option.map_some, List.set_cons_zero, List.set_cons_succ, Nat.lt_add_one, List.append_assoc, List.cons_append, List.nil_append, List.append_nil, List.length_append, rd1_n0, rd1_nK, rd1_c0, rd1_cS, rd_n0, rd_nK, rd_c0, rd_cS, fillA, List.take_zero, List.take_succ_cons, List.take_nil, List.drop_zero, List.drop_succ_cons, List.drop_nil, List.getElem?_cons_zero, List.getElem?_cons_succ, Nat.reduceAdd, Nat.reduceLeDiff, Nat.add_eq_zero_iff, and_self, Nat.zero_add, Nat.add_zero, Nat.mul_one, hl1, natOf_nat, hre, Nat.le_refl, beq_self_eq_true, flat_one, *]) | (simp only [goO, AO_nil, then_normal, goC]) | (with_reducible apply And.intro) | (with_reducible intro _))
  rw [← HH.out]
  refine hgo _ fun h2 tv2 r1 r2 r3 => ?_
  repeat' (first | (simp only [AW_next, AW_ops, AW_opsD, AW_cond, AW_block, AW_exit, AW_ret, AW_skip, AW_scope, AO_nil, AO_next, AO_nextW, wantB_bool, wantK_some, then_normal, then_exit, then_ret, inBlk_normal, inBlk_exit, inBlk_ret, A1_mv, A1_pick, A1_box, A1_zero, A1_build, A1_lits, A1_load, shallow_none, A1_store, A1_nilCheckI, nilOk_ptr, nilOk_func, A1_bin, A1_eqNil, A1_eqBool, A1_eqAgg, A1_un, A1_conv, A1_field, A1_fieldAddr, A1_indexAddr, A1_indexArr, A1_index, A1_slice, A1_mkSlice, A1_extract, A1_func, A1_call, callee_func, callee_bfunc, A1_append, A1_len, A1_minmax, put_some, put_none, upd_at, ev_tmp, ev_av, bin_lss, bin_leq, bin_gtr, bin_geq, bin_eql, bin_neq, bin_add, bin_sub, bin_mul, un_not, natOf_nat, Bool.not_eq_false', Prod.mk.injEq, and_assoc, decide_false, decide_true, Bool.not_false, Bool.not_true, Bool.true_eq_false, Bool.false_eq_true, exists_false, Bool.not_eq_false, Bool.not_not, AV.val.injEq, AV.ptr.injEq, AV.slice.injEq, AV.func.injEq, AV.tuple.injEq, AV.agg.injEq, Value.bool.injEq, Value.int.injEq, Option.some.injEq, exists_eq_left', exists_eq_left, exists_and_left, exists_and_right, and_true, true_and, decide_eq_true_eq, decide_eq_false_iff_not, if_true, if_false, Bool.not_eq_true', beq_true, beq_false, ne_eq, not_true_eq_false, not_false_eq_true, reduceCtorEq, List.getD_cons_zero, List.getD_cons_succ, List.map_cons, List.map_nil, List.append_nil, Nat.reduceEqDiff, reduceIte, ite_true, ite_false, or_true, true_or, or_false, false_or, resA, resultsA, true_imp_iff, false_imp_iff, implies_true, imp_false, and_self, imp_self, and_false, false_and, forall_const, cell_val, cell_ptr, cell_slice, cell_func, cell_hole, cells_agg, cells_val, cells_ptr, cells_slice, cells_func, cells_hole, cells_cell, List.length_cons, List.length_nil, List.all_cons, List.all_nil, Bool.and_self, ldA, List.mapM_cons, List.mapM_nil, Option.bind_eq_bind, Option.bind_some, Option.pure_def, Option.map_none, Option.map_some, List.set_cons_zero, List.set_cons_succ, Nat.lt_add_one, List.append_assoc, List.cons_append, List.nil_append, List.append_nil, List.length_append, rd1_n0, rd1_nK, rd1_c0, rd1_cS, rd_n0, rd_nK, rd_c0, rd_cS, fillA, List.take_zero, List.take_succ_cons, List.take_nil, List.drop_zero, List.drop_succ_cons, List.drop_nil, List.getElem?_cons_zero, List.getElem?_cons_succ, Nat.reduceAdd, Nat.reduceLeDiff, Nat.add_eq_zero_iff, and_self, Nat.zero_add, Nat.add_zero, Nat.mul_one, *]) | (simp only [goO, AO_nil, then_normal, goC]) | (with_reducible apply And.intro) | (with_reducible intro _))
  have hG : GInv has (Liv has [] l) (reachL (List.replicate has.length false, []) l) := (GInv.start has _ has.length).reach fun x hx => ⟨by simpa using hb x hx, Liv.base hx⟩
  have hsn := reachL_seen l (List.replicate has.length false, []) (fun x hx => by have := hb x hx; simp; omega)
  have hll := reachL_length l (List.replicate has.length false, [])
  have hbd := reachL_bound l (List.replicate has.length false, []) (fun x hx => by have := hb x hx; simp; omega)
  obtain ⟨⟨sb1, td1⟩, hst⟩ : ∃ st, st = reachL (List.replicate has.length false, []) l := ⟨_, rfl⟩
  rw [← hst] at r1 hG hsn hll hbd
  clear hst
  dsimp only at r1 hsn hll hbd
  rw [List.length_replicate] at hll
  rw [replicate_unseen, List.length_nil] at hbd
  have hk2 : Keep h h2 [] := kH.then r2 (fun i hi => .inl hi) fun i hi => .inr (by simp [idOf] at hi; omega)
  have hL' := HL.out
  have hW2 : Wri fl h2 (h.length + 2) (.slice (h.length + 1) 0 has.length has.length true 1) tv2 := ⟨hW.f1, hW.f2, fun i hi => (r3 i hi).elim (fun q => by simp [idOf] at q) (fun q => hf i (by omega)), fun i hi => hf i (by have := hk2.1; omega)⟩
  have hge : ∀ i ∈ (h.length + 2) :: (idOf (.slice (h.length + 1) 0 has.length has.length true 1) ++ idOf tv2), h.length ≤ i := fun i hi => by
    simp only [List.mem_cons, List.mem_append] at hi
    rcases hi with q | q | q
    · omega
    · simp [idOf] at q; omega
    · exact (r3 i q).elim (fun q => by simp [idOf] at q) (fun q => by omega)
  refine all_am r1 hG.toA (by rw [hll]; exact hok) hk2 h1 hge hls (by omega) hW2 fun h3 tv3 sb3 q1 q2 q3 q4 => ?_
  have hlen3 : sb3.length = has.length := by
    have a := q1.seen.len
    simp [lenA] at a
    exact a.symm
  have fin := hK h3 sb3 q1.seen hlen3 (LInv.ofA q2 (fun n hn => hG.sub n hn) (fun x hx => (hsn _).2 (.inr ⟨x, hx, rfl⟩))) (hk2.then q3 (fun i hi => .inl hi) fun i hi => .inr (hge i hi))
  have rc := q1.rc
  clear hgo
  repeat' (first | (simp only [AW_next, AW_ops, AW_opsD, AW_cond, AW_block, AW_exit, AW_ret, AW_skip, AW_scope, AO_nil, AO_next, AO_nextW, wantB_bool, wantK_some, then_normal, then_exit, then_ret, inBlk_normal, inBlk_exit, inBlk_ret, A1_mv, A1_pick, A1_box, A1_zero, A1_build, A1_lits, A1_load, shallow_none, A1_store, A1_nilCheckI, nilOk_ptr, nilOk_func, A1_bin, A1_eqNil, A1_eqBool, A1_eqAgg, A1_un, A1_conv, A1_field, A1_fieldAddr, A1_indexAddr, A1_indexArr, A1_index, A1_slice, A1_mkSlice, A1_extract, A1_func, A1_call, callee_func, callee_bfunc, A1_append, A1_len, A1_minmax, put_some, put_none, upd_at, ev_tmp, ev_av, bin_lss, bin_leq, bin_gtr, bin_geq, bin_eql, bin_neq, bin_add, bin_sub, bin_mul, un_not, natOf_nat, Bool.not_eq_false', Prod.mk.injEq, and_assoc, decide_false, decide_true, Bool.not_false, Bool.not_true, Bool.true_eq_false, Bool.false_eq_true, exists_false, Bool.not_eq_false, Bool.not_not, AV.val.injEq, AV.ptr.injEq, AV.slice.injEq, AV.func.injEq, AV.tuple.injEq, AV.agg.injEq, Value.bool.injEq, Value.int.injEq, Option.some.injEq, exists_eq_left', exists_eq_left, exists_and_left, exists_and_right, and_true, true_and, decide_eq_true_eq, decide_eq_false_iff_not, if_true, if_false, Bool.not_eq_true', beq_true, beq_false, ne_eq, not_true_eq_false, not_false_eq_true, reduceCtorEq, List.getD_cons_zero, List.getD_cons_succ, List.map_cons, List.map_nil, List.append_nil, Nat.reduceEqDiff, reduceIte, ite_true, ite_false, or_true, true_or, or_false, false_or, resA, resultsA, true_imp_iff, false_imp_iff, implies_true, imp_false, and_self, imp_self, and_false, false_and, forall_const, cell_val, cell_ptr, cell_slice, cell_func, cell_hole, cells_agg, cells_val, cells_ptr, cells_slice, cells_func, cells_hole, cells_cell, List.length_cons, List.length_nil, List.all_cons, List.all_nil, Bool.and_self, ldA, List.mapM_cons, List.mapM_nil, Option.bind_eq_bind, Option.bind_some, Option.pure_def, Option.map_none, Option.map_some, List.set_cons_zero, List.set_cons_succ, Nat.lt_add_one, List.append_assoc, List.cons_append, List.nil_append, List.append_nil, List.length_append, rd1_n0, rd1_nK, rd1_c0, rd1_cS, rd_n0, rd_nK, rd_c0, rd_cS, fillA, List.take_zero, List.take_succ_cons, List.take_nil, List.drop_zero, List.drop_succ_cons, List.drop_nil, List.getElem?_cons_zero, List.getElem?_cons_succ, Nat.reduceAdd, Nat.reduceLeDiff, Nat.add_eq_zero_iff, and_self, Nat.zero_add, Nat.add_zero, Nat.mul_one, rd1_of rc, *]) | (simp only [goO, AO_nil, then_normal, goC]) | (with_reducible apply And.intro) | (with_reducible intro _))

end
variable {tb : List (FuncId × Bool)} {L : Nat → Bool} {H : ZH} {K : ZV → ZH → Prop}
abbrev eL (l : List Int) : List ZV := [zI l]
theorem app_ownN {W : ZH} {k bytes i g n : Nat} {rows new : List (List ZV)} (hb : W[i]? = some (.grow g k rows)) (hn : rows.length = n) (hr : (n + new.length) * bytes ≤ reach) (hL : L i = true) : appZ L W k bytes new (.own i g 0 n false) = some (.own i (g + 1) 0 (n + new.length) false, W.set i (.grow (g + 1) k (rows ++ new))) := by
  rw [app_own]
  exact ⟨rows, hb, by omega, hr, hL, rfl, by rw [List.drop_zero, List.take_of_length_le (by omega)]⟩
theorem ZR.ownEx {w : Wd} {i g off len id o lb k : Nat} (h : ZR w (.own i g off len false) (.slice id o len lb false k)) : ZR w (.own i g off len false) (.slice id o len lb true k) := by
  cases h with
  | fr hf => cases hf
  | own h1 h2 h3 h4 =>
    refine .own h1 (fun g' k' rows hb => ⟨(h2 g' k' rows hb).1, fun he => ?_⟩) (fun id hid => h3 id hid) rfl
    rcases (h2 g' k' rows hb).2 he with ⟨_, _, _, _, e | ⟨_, _, _, e, _⟩⟩ | ⟨id2, b, lb2, ex2, row, q1, q2, q3, q4, q5, q6, q7⟩
    · cases e
    · cases e
    · injection q2 with t1 t2 t3 t4 t5 t6
      subst t1; subst t2; subst t4; subst t6
      exact .inr ⟨_, b, _, true, row, q1, rfl, q3, q4, q5, q6, fun h => by cases h⟩
theorem wfromo_z {z1 z2 z3 : ZV} {has : List (List Int)} {l : List Int} (h1 : rowsZ H 1 z1 = some (has.map eL)) (hc : z2.isCell = true) (h3 : rowsZ H 1 z3 = some (l.map eI)) (hN : has.length ≤ 100) (hls : ∀ l ∈ has, l.length ≤ 1000) (hll : l.length ≤ 1000000) (hok : okHas has has.length)
    (hb : ∀ x ∈ l, 0 ≤ x ∧ x < (has.length : Int)) (hK : K (.own H.length 0 0 has.length false) (H ++ [.grow 0 1 ((liveSb has [] l).map eB)])) :
    ZC (constX tb) (cFunc Try.prog) 26 [.agg [z1, z2], z3] L H K := by
  intro fl w args r e ha
  subst e
  obtain ⟨a, ha0, ha1⟩ := ha.get (i := 0) rfl
  obtain ⟨b, hb0, hb1⟩ := ha.get (i := 1) rfl
  obtain ⟨ys, rfl, hys⟩ := ha1.agg_inv
  obtain ⟨v1, hv0, hv1⟩ := hys.get (i := 0) rfl
  obtain ⟨v2, hu0, hu1⟩ := hys.get (i := 1) rfl
  have e1 : ys = [v1, v2] := by
    have := hys.1
    match ys, this, hv0, hu0 with
    | [x, y], _, hv0, hu0 => simp at hv0 hu0; rw [hv0, hu0]
  have e2 : args = [.agg ys, b] := by
    have := ha.1
    match args, this, ha0, hb0 with
    | [x, y], _, hv0, hu0 => simp at hv0 hu0; rw [hv0, hu0]
  subst e1; subst e2
  refine from_am2 (ll_of r hv1 h1) (by rw [← hu1.isCell]; exact hc) (il_of r hb1 h3) hN hls hll hok hb r.fresh fun h' sb hBL hln hInv hKp => ?_
  have hsb : sb = liveSb has [] l := eq_liveSb hln (fun n => hInv.iff (fun p hp => by cases hp) n)
  obtain ⟨s1, s2⟩ := hBL
  have hex : ∃ row, blk h' (w.h.length + 1) = some row ∧ has.length ≤ row.length ∧ row.take has.length = sb.map BV := by
    rcases s2 with ⟨_, e | e⟩ | ⟨id, off, lb, ex, row, e, _, q1, q2, q3⟩
    · cases e
    · cases e
    · injection e with t1 t2 t3 t4
      subst t1; subst t2
      rw [hln] at q2 q3
      exact ⟨row, q1, by omega, by rw [← q3, List.drop_zero, Nat.mul_one]⟩
  obtain ⟨row, hrow, hr0, hr1⟩ := hex
  have hnew : New w.h h' 1 (.slice (w.h.length + 1) 0 has.length has.length false 1) (sb.map BV) has.length := by
    refine ⟨⟨by simp [hln], .inr ⟨_, has.length, row, rfl, Nat.le_refl _, by omega, hrow, by rw [Nat.mul_one]; exact hr1⟩⟩, by simp [idOf], hKp⟩
  obtain ⟨w', q1, q2, q3, q4, q5⟩ := new_w (rows := sb.map eB) r hnew (by intro x hx; obtain ⟨y, _, rfl⟩ := List.mem_map.1 hx; rfl) (by simp [hln]) (fun w' => by rw [zflat_one sb ZBo]; exact vals_zrs sb w')
  exact ⟨_, w', q1, q3, q4, q5.ownEx, by rw [q2, hsb]; exact hK⟩
theorem wfrom_z {z1 z2 z3 : ZV} {has : List (List Int)} {l : List Int} (h1 : rowsZ H 1 z1 = some (has.map eL)) (hc : z2.isCell = true) (h3 : rowsZ H 1 z3 = some (l.map eI)) (hN : has.length ≤ 100) (hls : ∀ l ∈ has, l.length ≤ 1000) (hll : l.length ≤ 1000000) (hok : okHas has has.length)
    (hb : ∀ x ∈ l, 0 ≤ x ∧ x < (has.length : Int)) (hK : K (.fz 1 false ((liveSb has [] l).map eB)) H) :
    ZC (constX tb) (cFunc Try.prog) 26 [.agg [z1, z2], z3] L H K :=
  ZC.frzF (n := has.length) (k := 1) (rows := (liveSb has [] l).map eB) (wfromo_z h1 hc h3 hN hls hll hok hb ⟨rfl, rfl⟩) (by simp [liveSb_length]) (mv_pure (fun r hr => by obtain ⟨x, _, rfl⟩ := List.mem_map.1 hr; rfl)) hK
theorem check_z {z1 z2 : ZV} {has : List (List Int)} {roots : List Int} (h1 : rowsZ H 1 z1 = some (has.map eL)) (h2 : rowsZ H 1 z2 = some (roots.map eI)) (hK : K (Z64 (checkE has roots)) H) :
    ZC (constX tb) (cFunc Try.prog) 22 [.agg [z1, z2]] L H K := by
  intro fl w args r e ha
  subst e
  obtain ⟨a, ha0, ha1⟩ := ha.get (i := 0) rfl
  obtain ⟨ys, rfl, hys⟩ := ha1.agg_inv
  obtain ⟨v1, hv0, hv1⟩ := hys.get (i := 0) rfl
  obtain ⟨v2, hu0, hu1⟩ := hys.get (i := 1) rfl
  have e1 : ys = [v1, v2] := by
    have := hys.1
    match ys, this, hv0, hu0 with
    | [x, y], _, hv0, hu0 => simp at hv0 hu0; rw [hv0, hu0]
  have e2 : args = [.agg ys] := by
    have := ha.1
    match args, this, ha0 with
    | [x], _, hv0 => simp at hv0; rw [hv0]
  subst e1; subst e2
  refine check_am (ll_of r hv1 h1) (il_of r hu1 h2) fun e => ?_
  obtain ⟨r', e'⟩ := keep_w r (Keep.ext (h := w.h) [] e)
  exact ⟨_, _, rfl, r', e', .fr (.val _), hK⟩
theorem needed_z {z1 z2 : ZV} {has : List (List Int)} {roots : List Int} (h1 : rowsZ H 1 z1 = some (has.map eL)) (h2 : rowsZ H 1 z2 = some (roots.map eI))
    (hK : ∀ l, (l = if checkE has roots = 0 then liveL has [] roots else []) → K (.tuple [.own H.length 0 0 l.length false, Z64 (checkE has roots)]) (H ++ [.grow 0 1 (l.map eI)])) :
    ZC (constX tb) (cFunc Try.prog) 13 [.agg [z1, z2]] L H K := by
  intro fl w args r e ha
  subst e
  obtain ⟨a, ha0, ha1⟩ := ha.get (i := 0) rfl
  obtain ⟨ys, rfl, hys⟩ := ha1.agg_inv
  obtain ⟨v1, hv0, hv1⟩ := hys.get (i := 0) rfl
  obtain ⟨v2, hu0, hu1⟩ := hys.get (i := 1) rfl
  have e1 : ys = [v1, v2] := by
    have := hys.1
    match ys, this, hv0, hu0 with
    | [x, y], _, hv0, hu0 => simp at hv0 hu0; rw [hv0, hu0]
  have e2 : args = [.agg ys] := by
    have := ha.1
    match args, this, ha0 with
    | [x], _, hv0 => simp at hv0; rw [hv0]
  subst e1; subst e2
  refine needed_am (ll_of r hv1 h1) (il_of r hu1 h2) r.fresh fun h' v l hn hl => ?_
  obtain ⟨w', q1, q2, q3, q4, q5⟩ := newI_w r hn
  exact ⟨_, w', q1, q3, q4, ZRs.toTuple (.cons q5 (.cons (.fr (.val _)) .nil)), by rw [q2]; exact hK _ hl⟩
theorem wrising_z {z : ZV} {sb : List Bool} (hz : ∀ X, rowsZ (H ++ X) 1 z = some (sb.map eB)) (hl : sb.length ≤ 1000000) (hK : K (.fz 1 false ((rising sb).map eI)) H) :
    ZC (constX tb) (cFunc Try.prog) 25 [z] L H K := by
  refine ZC.enterL ⟨[(3, [(0, 1)])], [], []⟩ constX_none f_wk_rising (by simp) fun hL => ?_
  simp only [c_wk_rising]
  have F : ∀ g' X, Fin H (.own H.length g' 0 (riseTo sb sb.length).length false) (H ++ (.grow g' 1 ((riseTo sb sb.length).map eI) :: X)) K := fun g' X => by
    refine Fin.frz (k := 1) (rows := (riseTo sb sb.length).map eI) (mv_at0 _ _) (by simp) (mv_pure (fun r hr => by obtain ⟨x, _, rfl⟩ := List.mem_map.1 hr; rfl)) ?_
    rw [mv_st0, List.drop_zero, List.take_of_length_le (by simp)]
    exact Fin.trunc (Mods.ext H _) rfl (by rw [List.take_left]; exact hK)
  have FF := Lib.hid F
  have HL := Lib.hid hl
  have l0 : L H.length = true := hL 0
  have q1 : ∀ X, lenZ (H ++ X) z = some sb.length := fun X => by have := rows_len (hz X); rwa [List.length_map] at this
  have HZ := Lib.hid hz
  clear hK F hl hz
  repeat' (first | (simp only [zmPack, zxPack, ne_eq, zfree, owners, Nat.reduceLT, List.contains_cons, List.contains_nil, Nat.reduceBEq, BEq.rfl, chunk, setAt, List.lookup_cons, List.lookup_nil, reduceCtorEq, Nat.reduceEqDiff, reduceIte, implies_true, forall_const, Nat.reduceMul, Nat.reduceSub, Nat.reduceAdd, Nat.reduceLeDiff, q1, *]) | (simp only [zgoO, zgoG, zO_nil, zthen_normal, zgoC]) | (with_reducible apply And.intro) | (with_reducible intro _))
  refine zW_forK [(6, z)] sb.length (fun k s' h' => ∃ g' X, s' 3 = .own H.length g' 0 (riseTo sb k).length false ∧ h' = H ++ (.grow g' 1 ((riseTo sb k).map eI) :: X)) (by have := HL.out; omega) ⟨rfl, rfl, rfl, rfl, rfl, rfl⟩ rfl rfl (by repeat' (first | exact trivial | (refine ⟨rfl, ?_⟩) | (refine ⟨by simp only [zupd_at, Nat.reduceEqDiff, reduceIte]; assumption, ?_⟩))) rfl rfl (by decide) ⟨0, [], rfl, rfl⟩ ?_ ?_
  · rintro k s' h' hk ⟨g', X, f3, rfl⟩ hi hll ⟨f6, -⟩
    obtain ⟨pp, hp, hld⟩ := rows_at (HZ.out (.grow g' 1 ((riseTo sb k).map eI) :: X)) hk
    have hru := riseTo_succ sb k
    have hgd : sb.getD k false = sb[k] := by simp [hk]
    rw [hgd] at hru
    have hrl := riseTo_length sb k
    obtain ⟨c, hc⟩ : ∃ c, c = sb[k] := ⟨_, rfl⟩
    rw [← hc] at hld hru
    have hap : ∀ Y, appZ L (H ++ (.grow g' 1 ((riseTo sb k).map eI) :: Y)) 1 8 [[Z64 k]] (.own H.length g' 0 (riseTo sb k).length false) = some (.own H.length (g' + 1) 0 ((riseTo sb k).length + 1) false, H ++ (.grow (g' + 1) 1 ((riseTo sb k ++ [(k : Int)]).map eI) :: Y)) := fun Y => by
      rw [app_ownN (mv_at0 _ _) (by simp) (by have := HL.out; unfold reach; simp; omega) l0, mv_st0, List.map_append]; rfl
    have HRU := Lib.hid hru
    clear hc hgd hru hrl
    cases c with
    | true =>
      repeat' (first | (simp only [zmPack, zxPack, ne_eq, zfree, owners, Nat.reduceLT, List.contains_cons, List.contains_nil, Nat.reduceBEq, BEq.rfl, chunk, setAt, List.lookup_cons, List.lookup_nil, reduceCtorEq, Nat.reduceEqDiff, reduceIte, implies_true, forall_const, Nat.reduceMul, Nat.reduceSub, Nat.reduceAdd, Nat.reduceLeDiff, hp, hld, hap, *]) | (simp only [zgoO, zgoG, zO_nil, zthen_normal, zgoC]) | (with_reducible apply And.intro) | (with_reducible intro _))
      all_goals first | (rw [HRU.out, if_pos rfl, List.length_append]; done) | (rw [HRU.out, if_pos rfl, List.length_append]; rfl) | (rw [HRU.out, if_pos rfl]; exact ⟨_, rfl⟩)
    | false =>
      repeat' (first | (simp only [zmPack, zxPack, ne_eq, zfree, owners, Nat.reduceLT, List.contains_cons, List.contains_nil, Nat.reduceBEq, BEq.rfl, chunk, setAt, List.lookup_cons, List.lookup_nil, reduceCtorEq, Nat.reduceEqDiff, reduceIte, implies_true, forall_const, Nat.reduceMul, Nat.reduceSub, Nat.reduceAdd, Nat.reduceLeDiff, hp, hld, *]) | (simp only [zgoO, zgoG, zO_nil, zthen_normal, zgoC]) | (with_reducible apply And.intro) | (with_reducible intro _))
      all_goals first | (rw [HRU.out, if_neg (by decide)]; done) | (rw [HRU.out, if_neg (by decide)]; exact ⟨_, rfl⟩)
  · rintro s' h' ⟨g', X, f3, rfl⟩ ⟨f6, -⟩
    have fin := FF.out g' X
    repeat' (first | (simp only [zmPack, zxPack, ne_eq, zfree, owners, Nat.reduceLT, List.contains_cons, List.contains_nil, Nat.reduceBEq, BEq.rfl, chunk, setAt, List.lookup_cons, List.lookup_nil, reduceCtorEq, Nat.reduceEqDiff, reduceIte, implies_true, forall_const, Nat.reduceMul, Nat.reduceSub, Nat.reduceAdd, Nat.reduceLeDiff, *]) | (simp only [zgoO, zgoG, zO_nil, zthen_normal, zgoC]) | (with_reducible apply And.intro) | (with_reducible intro _))
structure FI (has : List (List Int)) (l : List Int) (sb sb' : List Bool) (b : Bool) (P : Prop) : Prop where
  len : sb'.length = has.length
  base : ∀ x ∈ l, Sn sb' x.toNat
  sub : ∀ n, Sn sb' n → Liv has [] l n
  no : b = false → sb' = sb ∧ P
  yes : b = true → unseen sb' < unseen sb
theorem FI.mono {has : List (List Int)} {l : List Int} {sb sb' : List Bool} {b : Bool} {P Q : Prop} (h : FI has l sb sb' b P) (hq : sb' = sb → P → Q) : FI has l sb sb' b Q :=
  ⟨h.len, h.base, h.sub, fun hb => ⟨(h.no hb).1, hq (h.no hb).1 (h.no hb).2⟩, h.yes⟩
theorem FI.start {has : List (List Int)} {l : List Int} {sb : List Bool} {P : Prop} (h1 : sb.length = has.length) (h2 : ∀ x ∈ l, Sn sb x.toNat) (h3 : ∀ n, Sn sb n → Liv has [] l n) (hp : P) : FI has l sb sb false P :=
  ⟨h1, h2, h3, fun _ => ⟨rfl, hp⟩, fun h => by cases h⟩
structure FO (has : List (List Int)) (l : List Int) (sb : List Bool) (b : Bool) : Prop where
  len : sb.length = has.length
  base : ∀ x ∈ l, Sn sb x.toNat
  sub : ∀ n, Sn sb n → Liv has [] l n
  clo : b = false → Cl has (Sn sb)
def ClTo (has : List (List Int)) (sb : List Bool) (k : Nat) : Prop := ∀ n, n < k → Sn sb n → ∀ y ∈ has.getD n [], Sn sb y.toNat
def ClIn (has : List (List Int)) (sb : List Bool) (k : Nat) (own : List Int) (m : Nat) : Prop := ClTo has sb k ∧ (Sn sb k → ∀ y ∈ own.take m, Sn sb y.toNat)
structure FB (has : List (List Int)) (l : List Int) (k : Nat) (sb : List Bool) : Prop where
  len : sb.length = has.length
  base : ∀ x ∈ l.take k, Sn sb x.toNat
  sub : ∀ n, Sn sb n → Liv has [] l n
theorem FB.next {has : List (List Int)} {l : List Int} {k : Nat} {sb : List Bool} (h : FB has l k sb) (hk : k < l.length) {m : Nat} (hm : l[k] = (m : Int)) (hmn : m < has.length) : FB has l (k + 1) (sb.set m true) := by
  have hs : ∀ n, Sn (sb.set m true) n ↔ Sn sb n ∨ n = m := fun n => Sn_set (by rw [h.len]; exact hmn)
  refine ⟨by simp [h.len], fun x hx => ?_, fun n hn => ?_⟩
  · rw [List.take_succ_eq_append_getElem hk] at hx
    rcases List.mem_append.1 hx with hx | hx
    · exact (hs _).2 (.inl (h.base x hx))
    · rw [List.mem_singleton.1 hx, hm]; exact (hs _).2 (.inr (by omega))
  · rcases (hs n).1 hn with hn | rfl
    · exact h.sub n hn
    · have := Liv.base (has := has) (ps := []) (l := l) (x := l[k]) (List.getElem_mem hk)
      rw [hm] at this; simpa using this
theorem ClIn.start {has : List (List Int)} {sb : List Bool} {k : Nat} {own : List Int} (h : ClTo has sb k) : ClIn has sb k own 0 := ⟨h, fun _ y hy => by simp at hy⟩
theorem ClIn.next {has : List (List Int)} {sb : List Bool} {k m : Nat} {own : List Int} (h : ClIn has sb k own m) (hm : m < own.length) (hs : Sn sb k → Sn sb own[m].toNat) : ClIn has sb k own (m + 1) := ⟨h.1, fun hk y hy => by
  rw [List.take_succ_eq_append_getElem hm] at hy
  rcases List.mem_append.1 hy with hy | hy
  · exact h.2 hk y hy
  · rw [List.mem_singleton.1 hy]; exact hs hk⟩
theorem ClIn.done {has : List (List Int)} {sb : List Bool} {k : Nat} {own : List Int} (h : ClIn has sb k own own.length) (ho : has.getD k [] = own) : ClTo has sb (k + 1) := fun n hn hs y hy => by
  rcases Nat.lt_succ_iff_lt_or_eq.1 hn with hn | rfl
  · exact h.1 n hn hs y hy
  · rw [ho] at hy; exact h.2 hs y (by rw [List.take_length]; exact hy)
theorem ClTo.all {has : List (List Int)} {sb : List Bool} (h : ClTo has sb has.length) : Cl has (Sn sb) := fun n hn y hy => by
  by_cases hl : n < has.length
  · exact h n hl hn y hy
  · simp [List.getD, List.getElem?_eq_none (Nat.not_lt.1 hl)] at hy
theorem FI.out {has : List (List Int)} {l : List Int} {sb sb' : List Bool} {b : Bool} (h : FI has l sb sb' b (ClTo has sb has.length)) : FO has l sb' b :=
  ⟨h.len, h.base, h.sub, fun hb => by obtain ⟨e, hc⟩ := h.no hb; subst e; exact hc.all⟩
end Go.Proofs.Ytfmllmcjinjfaaa

namespace Go.Proofs.Ytfmllmcjinjfaaa
open Go Go.RowKit
set_option linter.unusedVariables false
set_option linter.unusedSimpArgs false
variable {tb : List (FuncId × Bool)} {L : Nat → Bool} {H : ZH} {K : ZV → ZH → Prop}
/-! ### Plain -/
theorem cptTo_len (s : List Int) : ∀ k, (cptTo s k).length ≤ k
  | 0 => Nat.le_refl _
  | k + 1 => by
    have := cptTo_len s k
    show (cptTo s k ++ _).length ≤ _
    rw [List.length_append]
    split
    · simp; omega
    · simp; omega
theorem cpt_len (s : List Int) : (cpt s).length ≤ s.length := cptTo_len s _
theorem srt_pw (l : List Int) : (srt l).Pairwise (· ≤ ·) := by
  have h := List.pairwise_mergeSort (le := fun x y : Int => decide (x ≤ y)) (fun a b c h1 h2 => by simp at *; omega) (fun a b => by simp; omega) l
  exact h.imp fun h => by simpa using h
theorem cptTo_sorted {s : List Int} (hs : s.Pairwise (· ≤ ·)) : ∀ k, k ≤ s.length → (cptTo s k).Pairwise (· < ·) ∧ ∀ x, x ∈ cptTo s k ↔ x ∈ s.take k
  | 0, _ => ⟨List.Pairwise.nil, by simp [cptTo]⟩
  | k + 1, h => by
    obtain ⟨h1, h2⟩ := cptTo_sorted hs k (by omega)
    have hk : k < s.length := by omega
    have hpw := List.pairwise_iff_getElem.1 hs
    have htk : ∀ x, x ∈ s.take (k + 1) ↔ x ∈ s.take k ∨ x = s[k] := fun x => by rw [List.take_succ_eq_append_getElem hk, List.mem_append, List.mem_singleton]
    show (cptTo s k ++ _).Pairwise _ ∧ ∀ x, x ∈ cptTo s k ++ _ ↔ _
    split
    · rename_i hc
      obtain ⟨c0, c1⟩ := hc
      rw [List.append_nil]
      refine ⟨h1, fun x => ?_⟩
      rw [htk, h2]
      refine ⟨.inl, fun h => h.elim id fun e => ?_⟩
      rw [List.getElem?_eq_getElem hk, List.getElem?_eq_getElem (by omega)] at c1
      injection c1 with c1
      rw [e, c1]
      exact List.mem_take_iff_getElem.2 ⟨k - 1, by omega, rfl⟩
    · rename_i hc
      have hg : s.getD k 0 = s[k] := by simp [List.getD, hk]
      rw [hg]
      refine ⟨?_, fun x => by rw [htk, List.mem_append, h2, List.mem_singleton]⟩
      rw [List.pairwise_append]
      refine ⟨h1, List.pairwise_singleton _ _, fun a ha b hb => ?_⟩
      rw [List.mem_singleton.1 hb]
      obtain ⟨j, hj, rfl⟩ := List.mem_take_iff_getElem.1 ((h2 a).1 ha)
      have hj2 : j < k := by omega
      have q1 : s[j] ≤ s[k - 1]'(by omega) := by
        by_cases e : j = k - 1
        · subst e; exact Int.le_refl _
        · exact hpw j (k - 1) (by omega) (by omega) (by omega)
      have q2 : s[k - 1]'(by omega) ≤ s[k] := hpw (k - 1) k (by omega) hk (by omega)
      have q3 : s[k - 1]'(by omega) ≠ s[k] := fun e => hc ⟨by omega, by rw [List.getElem?_eq_getElem hk, List.getElem?_eq_getElem (by omega), e]⟩
      omega
theorem cpt_srt (l : List Int) : (cpt (srt l)).Pairwise (· < ·) ∧ ∀ x, x ∈ cpt (srt l) ↔ x ∈ l := by
  obtain ⟨h1, h2⟩ := cptTo_sorted (srt_pw l) (srt l).length (Nat.le_refl _)
  exact ⟨h1, fun x => by rw [cpt, h2, List.take_length, mem_srt]⟩
noncomputable def needL (has : List (List Int)) (roots : List Int) : List Bool := liveSb has [] roots
def dueL (nb : List Bool) (l : List Int) : List Int := cpt (srt (keepP (fun n => nb.getD n.toNat false) l))
noncomputable def dueE (has : List (List Int)) (roots l : List Int) : Int :=
  if checkE has roots ≠ 0 then checkE has roots else if 100 < l.length then 2 else if ∀ n ∈ l, 0 ≤ n ∧ n < (has.length : Int) then 0 else 3
theorem mem_due {nb : List Bool} {l : List Int} {x : Int} : x ∈ dueL nb l ↔ x ∈ l ∧ ¬ Sn nb x.toNat := by
  unfold dueL
  rw [(cpt_srt _).2]
  unfold keepP Sn
  rw [List.mem_filter]; simp
theorem due_rise {nb : List Bool} {l : List Int} : (dueL nb l).Pairwise (· < ·) := (cpt_srt _).1
theorem due_len {nb : List Bool} {l : List Int} : (dueL nb l).length ≤ l.length := by
  refine Nat.le_trans (cpt_len _) ?_
  rw [srt_len]
  exact List.length_filter_le _ _
theorem due_nil {nb : List Bool} : dueL nb [] = [] := by
  have := due_len (nb := nb) (l := [])
  exact List.eq_nil_of_length_eq_zero (by simpa using this)
/-! ### Sorting, and so on, of a list of one's own -/
theorem sortO_z {g : Nat} {m : List Int} {R : List (List ZV)} (hb : m.length ≤ 1000) (hR : R.take m.length = m.map eI) (hRl : m.length ≤ R.length) (hp : ∀ r ∈ R, r.all pureZ = true) (l0 : L H.length = true)
    (hK : ∀ R' : List (List ZV), R'.take (srt m).length = (srt m).map eI → (srt m).length ≤ R'.length → (∀ r ∈ R', r.all pureZ = true) → K .no (H ++ [.grow g 1 R'])) :
    ZC (constX tb) (cFunc Try.prog) 46 [.own H.length g 0 m.length false] L (H ++ [.grow g 1 R]) K := by
  have hrw : rowsZ (H ++ [.grow g 1 R]) 1 (.own H.length g 0 m.length false) = some (m.map eI) := by
    simp only [rowsZ, mv_at0]
    rw [if_pos ⟨trivial, trivial, by omega⟩, List.drop_zero, hR]
  by_cases he : m = []
  · subst he
    exact sort_z0 hrw (hK R (by simp [srt]) (by simp [srt]) hp)
  · have hpos : 0 < m.length := List.length_pos_iff.2 he
    have hcp : copyZ L (H ++ [.grow g 1 R]) 1 ((srt m).map eI) (.own H.length g 0 m.length false) = some (m.length, H ++ [.grow g 1 ((srt m).map eI ++ R.drop m.length)]) := by
      simp only [copyZ, mv_at0]
      rw [if_pos ⟨trivial, trivial, by omega, l0, hpos⟩]
      simp only [List.length_map, srt_len, Nat.min_self, List.take_zero, List.nil_append, Nat.zero_add, mv_st0]
      rw [List.take_of_length_le (by simp [srt_len])]
    refine sort_z hrw he (by omega) hcp (hK _ ?_ ?_ fun r hr => ?_)
    · rw [List.take_left' (by simp)]
    · simp
    · rcases List.mem_append.1 hr with hr | hr
      · obtain ⟨x, _, rfl⟩ := List.mem_map.1 hr; rfl
      · exact hp r (List.mem_of_mem_drop hr)
theorem delf0_z {f : FuncId} {caps : List ZV} (hK : K (.fz 1 false []) H) : ZC (constX tb) (cFunc Try.prog) 29 [.fz 1 false [], .func f caps] L H K := by
  refine ZC.enter Gh.no constX_none f_mk_delf (by simp) ?_
  simp only [c_mk_delf]
  have fin := Fin.keep (H0 := H) hK
  clear hK
  repeat' (first | (simp only [zmPack, zxPack, ne_eq, zfree, owners, Nat.reduceLT, List.contains_cons, List.contains_nil, Nat.reduceBEq, BEq.rfl, chunk, setAt, List.lookup_cons, List.lookup_nil, reduceCtorEq, Nat.reduceEqDiff, reduceIte, implies_true, forall_const, Nat.reduceMul, Nat.reduceSub, Nat.reduceAdd, Nat.reduceLeDiff, *]) | (simp only [zgoO, zgoG, zO_nil, zthen_normal, zgoC]) | (with_reducible apply And.intro) | (with_reducible intro _))
  refine idxi_z (l := []) (p := fun _ => false) rfl (by simp) (by simp) ?_
  have hi : idxP (fun _ : Int => false) [] = -1 := rfl
  rw [hi]
  repeat' (first | (simp only [zmPack, zxPack, ne_eq, zfree, owners, Nat.reduceLT, List.contains_cons, List.contains_nil, Nat.reduceBEq, BEq.rfl, chunk, setAt, List.lookup_cons, List.lookup_nil, reduceCtorEq, Nat.reduceEqDiff, reduceIte, implies_true, forall_const, Nat.reduceMul, Nat.reduceSub, Nat.reduceAdd, Nat.reduceLeDiff, *]) | (simp only [zgoO, zgoG, zO_nil, zthen_normal, zgoC]) | (with_reducible apply And.intro) | (with_reducible intro _))
theorem compact0_z (hK : K (.fz 1 false []) H) : ZC (constX tb) (cFunc Try.prog) 47 [.fz 1 false []] L H K := by
  refine ZC.enter Gh.no constX_none f_en_compact (by simp) ?_
  simp only [c_en_compact]
  have fin := Fin.keep (H0 := H) hK
  clear hK
  have z0 : ((0 : Nat) : Int) < 2 := by omega
  repeat' (first | (simp only [zmPack, zxPack, ne_eq, zfree, owners, Nat.reduceLT, List.contains_cons, List.contains_nil, Nat.reduceBEq, BEq.rfl, chunk, setAt, List.lookup_cons, List.lookup_nil, reduceCtorEq, Nat.reduceEqDiff, reduceIte, implies_true, forall_const, Nat.reduceMul, Nat.reduceSub, Nat.reduceAdd, Nat.reduceLeDiff, z0, List.length_nil, *]) | (simp only [zgoO, zgoG, zO_nil, zthen_normal, zgoC]) | (with_reducible apply And.intro) | (with_reducible intro _))
theorem duea_z {i : Nat} {nb : List Bool} {n : Int} (hi : H[i]? = some (.box [.fz 1 false (nb.map eB)])) (h0 : 0 ≤ n) (hn : n.toNat < nb.length) (hK : K (ZBo (nb.getD n.toNat false)) H) :
    ZC (constX tb) (cFunc Try.prog) 45 [Z64 n, .ptr i 0] L H K := by
  refine ZC.enter Gh.no constX_none f_en_duea (by simp) ?_
  simp only [c_en_duea]
  obtain ⟨k, rfl⟩ := Int.eq_ofNat_of_zero_le h0
  rw [Int.toNat_natCast] at hn hK
  have hx : nb[k]? = some (nb.getD k false) := by rw [List.getD_eq_getElem?_getD, List.getElem?_eq_getElem hn]; rfl
  have fin := Fin.keep (H0 := H) hK
  obtain ⟨c, hc⟩ : ∃ c, c = nb.getD k false := ⟨_, rfl⟩
  rw [← hc] at hx fin
  clear hK hc h0
  repeat' (first | (simp only [zmPack, zxPack, ne_eq, zfree, owners, Nat.reduceLT, List.contains_cons, List.contains_nil, Nat.reduceBEq, BEq.rfl, chunk, setAt, List.lookup_cons, List.lookup_nil, reduceCtorEq, Nat.reduceEqDiff, reduceIte, implies_true, forall_const, Nat.reduceMul, Nat.reduceSub, Nat.reduceAdd, Nat.reduceLeDiff, hi, hx, hn, *]) | (simp only [zgoO, zgoG, zO_nil, zthen_normal, zgoC]) | (with_reducible apply And.intro) | (with_reducible intro _))
end Go.Proofs.Ytfmllmcjinjfaaa

namespace Go.Proofs.Ytfmllmcjinjfaaa
open Go Go.RowKit
set_option linter.unusedVariables false
set_option linter.unusedSimpArgs false
variable {tb : List (FuncId × Bool)} {L : Nat → Bool} {H : ZH} {K : ZV → ZH → Prop}
set_option maxHeartbeats 8000000 in
theorem due_z {e1 e2 e3 : Bool} {has : List (List Int)} {roots l : List Int}
    (hne : dueE has roots l ≠ 0 → K (.tuple [.nil, .nil, Z64 (dueE has roots l)]) H)
    (h0 : dueE has roots l = 0 → K (.tuple [.fz 1 false ((dueL (needL has roots) l).map eI), .fz 1 false ((needL has roots).map eB), Z64 0]) H) :
    ZC (constX tb) (cFunc Try.prog) 28 [.agg [.fz 1 e1 (has.map eL), .fz 1 e2 (roots.map eI)], .fz 1 e3 (l.map eI)] L H K := by
  refine ZC.enterL Gh.no constX_none f_en_due (by simp) fun hL => ?_
  simp only [c_en_due]
  have finE : ∀ X e, dueE has roots l = e → e ≠ 0 → Fin H (.tuple [.nil, .nil, Z64 e]) (H ++ X) K := fun X e he hn => by
    have := hne (by rw [he]; exact hn)
    rw [he] at this
    exact Fin.truncT (Mods.ext H X) rfl (by rw [List.take_left]; exact this)
  have FE := Lib.hid finE
  have H0 := Lib.hid h0
  have lx : ∀ n, L (H.length + n) = true := fun n => by cases n with
    | zero => exact hL 0
    | succ n => exact hL (n + 1)
  have g0 : ∀ A Y, (H ++ (A :: Y))[H.length]? = some A := fun A Y => mv_at0 A Y
  have g1 : ∀ A B Y, (H ++ (A :: B :: Y))[H.length + 1]? = some B := fun A B Y => mv_at1 A B Y
  clear hne h0 finE hL
  repeat' (first | (simp only [zmPack, zxPack, ne_eq, zfree, owners, Nat.reduceLT, List.contains_cons, List.contains_nil, Nat.reduceBEq, BEq.rfl, chunk, setAt, List.lookup_cons, List.lookup_nil, reduceCtorEq, Nat.reduceEqDiff, reduceIte, implies_true, forall_const, Nat.reduceMul, Nat.reduceSub, Nat.reduceAdd, Nat.reduceLeDiff, g0, *]) | (simp only [zgoO, zgoG, zO_nil, zthen_normal, zgoC]) | (with_reducible apply And.intro) | (with_reducible intro _))
  refine check_z rows_fz rows_fz ?_
  by_cases hc : checkE has roots = 0
  · obtain ⟨c1, c2, c3, c4, c5⟩ := checkE_zero hc
    rw [hc]
    by_cases hl : 100 < l.length
    · have fin := FE.out [.box [.fz 1 e1 (has.map eL), .fz 1 e2 (roots.map eI)]] 2 (by unfold dueE; rw [if_neg (by rw [hc]; simp), if_pos hl]) (by decide)
      have hl2 : (100 : Int) < (l.length : Int) := by omega
      clear c1 c2 c3 c4 c5 hl
      repeat' (first | (simp only [zmPack, zxPack, ne_eq, zfree, owners, Nat.reduceLT, List.contains_cons, List.contains_nil, Nat.reduceBEq, BEq.rfl, chunk, setAt, List.lookup_cons, List.lookup_nil, reduceCtorEq, Nat.reduceEqDiff, reduceIte, implies_true, forall_const, Nat.reduceMul, Nat.reduceSub, Nat.reduceAdd, Nat.reduceLeDiff, g0, hl2, *]) | (simp only [zgoO, zgoG, zO_nil, zthen_normal, zgoC]) | (with_reducible apply And.intro) | (with_reducible intro _))
    · have hl2 : ¬ (100 : Int) < (l.length : Int) := by omega
      have HC := Lib.hid (And.intro hc (And.intro c1 (And.intro c2 (And.intro c3 (And.intro c4 (And.intro c5 hl))))))
      clear c1 c2 c3 c4 c5 hc hl
      repeat' (first | (simp only [zmPack, zxPack, ne_eq, zfree, owners, Nat.reduceLT, List.contains_cons, List.contains_nil, Nat.reduceBEq, BEq.rfl, chunk, setAt, List.lookup_cons, List.lookup_nil, reduceCtorEq, Nat.reduceEqDiff, reduceIte, implies_true, forall_const, Nat.reduceMul, Nat.reduceSub, Nat.reduceAdd, Nat.reduceLeDiff, g0, hl2, *]) | (simp only [zgoO, zgoG, zO_nil, zthen_normal, zgoC]) | (with_reducible apply And.intro) | (with_reducible intro _))
      clear hl2
      refine zW_forK [(20, .fz 1 e3 (l.map eI)), (2, .ptr H.length 0), (1, .fz 1 e3 (l.map eI))] l.length (fun k s' h' => h' = H ++ [.box [.fz 1 e1 (has.map eL), .fz 1 e2 (roots.map eI)]] ∧ ∀ x ∈ l.take k, 0 ≤ x ∧ x < (has.length : Int)) (by have := HC.out.2.2.2.2.2.2; omega) ⟨rfl, rfl, rfl, rfl, rfl, rfl⟩ rfl rfl (by repeat' (first | exact trivial | (refine ⟨rfl, ?_⟩) | (refine ⟨by simp only [zupd_at, Nat.reduceEqDiff, reduceIte]; assumption, ?_⟩))) rfl rfl (by decide) ⟨rfl, by simp⟩ ?_ ?_
      · rintro k s' h' hk ⟨rfl, hin⟩ hi hll ⟨f20, f2, f1, -⟩
        have hx : l[k]? = some l[k] := List.getElem?_eq_getElem hk
        have hnx : 0 ≤ l[k] ∧ l[k] < (has.length : Int) → ∀ x ∈ l.take (k + 1), 0 ≤ x ∧ x < (has.length : Int) := fun h x hx => by
          rw [List.take_succ_eq_append_getElem hk] at hx
          rcases List.mem_append.1 hx with hx | hx
          · exact hin x hx
          · rw [List.mem_singleton.1 hx]; exact h
        have hbad : ¬ (0 ≤ l[k] ∧ l[k] < (has.length : Int)) → dueE has roots l = 3 := fun hb => by
          unfold dueE
          rw [if_neg (by rw [HC.out.1]; simp), if_neg HC.out.2.2.2.2.2.2, if_neg (fun h => hb (h _ (List.getElem_mem hk)))]
        obtain ⟨q, hq⟩ : ∃ q, q = l[k] := ⟨_, rfl⟩
        rw [← hq] at hx hnx hbad
        have HNX := Lib.hid hnx
        have HBD := Lib.hid hbad
        clear hin hnx hbad hq
        by_cases q0 : q < 0
        · have fin := FE.out [.box [.fz 1 e1 (has.map eL), .fz 1 e2 (roots.map eI)]] 3 (HBD.out (by omega)) (by decide)
          repeat' (first | (simp only [zmPack, zxPack, ne_eq, zfree, owners, Nat.reduceLT, List.contains_cons, List.contains_nil, Nat.reduceBEq, BEq.rfl, chunk, setAt, List.lookup_cons, List.lookup_nil, reduceCtorEq, Nat.reduceEqDiff, reduceIte, implies_true, forall_const, Nat.reduceMul, Nat.reduceSub, Nat.reduceAdd, Nat.reduceLeDiff, hx, q0, *]) | (simp only [zgoO, zgoG, zO_nil, zthen_normal, zgoC]) | (with_reducible apply And.intro) | (with_reducible intro _))
        · by_cases q1 : (has.length : Int) ≤ q
          · have fin := FE.out [.box [.fz 1 e1 (has.map eL), .fz 1 e2 (roots.map eI)]] 3 (HBD.out (by omega)) (by decide)
            repeat' (first | (simp only [zmPack, zxPack, ne_eq, zfree, owners, Nat.reduceLT, List.contains_cons, List.contains_nil, Nat.reduceBEq, BEq.rfl, chunk, setAt, List.lookup_cons, List.lookup_nil, reduceCtorEq, Nat.reduceEqDiff, reduceIte, implies_true, forall_const, Nat.reduceMul, Nat.reduceSub, Nat.reduceAdd, Nat.reduceLeDiff, g0, hx, q0, q1, *]) | (simp only [zgoO, zgoG, zO_nil, zthen_normal, zgoC]) | (with_reducible apply And.intro) | (with_reducible intro _))
          · have fin := HNX.out (by omega)
            have FN := Lib.hid fin
            clear fin
            repeat' (first | (simp only [zmPack, zxPack, ne_eq, zfree, owners, Nat.reduceLT, List.contains_cons, List.contains_nil, Nat.reduceBEq, BEq.rfl, chunk, setAt, List.lookup_cons, List.lookup_nil, reduceCtorEq, Nat.reduceEqDiff, reduceIte, implies_true, forall_const, Nat.reduceMul, Nat.reduceSub, Nat.reduceAdd, Nat.reduceLeDiff, g0, hx, q0, q1, *]) | (simp only [zgoO, zgoG, zO_nil, zthen_normal, zgoC]) | (with_reducible apply And.intro) | (with_reducible intro _))
            all_goals first | exact (FN.out _ (by assumption)).1 | exact (FN.out _ (by assumption)).2
      · rintro s' h' ⟨rfl, hin⟩ ⟨f20, f2, f1, -⟩
        rw [List.take_of_length_le (Nat.le_refl _)] at hin
        have hE : dueE has roots l = 0 := by
          unfold dueE
          rw [if_neg (by rw [HC.out.1]; simp), if_neg HC.out.2.2.2.2.2.2, if_pos hin]
        have HI := Lib.hid hin
        have HK := Lib.hid (H0.out hE)
        clear hin hE
        repeat' (first | (simp only [zmPack, zxPack, ne_eq, zfree, owners, Nat.reduceLT, List.contains_cons, List.contains_nil, Nat.reduceBEq, BEq.rfl, chunk, setAt, List.lookup_cons, List.lookup_nil, reduceCtorEq, Nat.reduceEqDiff, reduceIte, implies_true, forall_const, Nat.reduceMul, Nat.reduceSub, Nat.reduceAdd, Nat.reduceLeDiff, g0, *]) | (simp only [zgoO, zgoG, zO_nil, zthen_normal, zgoC]) | (with_reducible apply And.intro) | (with_reducible intro _))
        refine wfrom_z rows_fz rfl rows_fz HC.out.2.1 (fun o ho => by have := HC.out.2.2.2.1 o ho; omega) (by have := HC.out.2.2.1; omega) HC.out.2.2.2.2.1 HC.out.2.2.2.2.2.1 ?_
        have hnl : (liveSb has [] roots).length = has.length := liveSb_length ..
        rw [show liveSb has [] roots = needL has roots from rfl] at hnl ⊢
        obtain ⟨nb, hnb⟩ : ∃ nb, nb = needL has roots := ⟨_, rfl⟩
        rw [← hnb] at hnl HK ⊢
        have HNL := Lib.hid hnl
        clear hnb hnl
        repeat' (first | (simp only [zmPack, zxPack, ne_eq, zfree, owners, Nat.reduceLT, List.contains_cons, List.contains_nil, Nat.reduceBEq, BEq.rfl, chunk, setAt, List.lookup_cons, List.lookup_nil, reduceCtorEq, Nat.reduceEqDiff, reduceIte, implies_true, forall_const, Nat.reduceMul, Nat.reduceSub, Nat.reduceAdd, Nat.reduceLeDiff, lx, *]) | (simp only [zgoO, zgoG, zO_nil, zthen_normal, zgoC]) | (with_reducible apply And.intro) | (with_reducible intro _))
        obtain ⟨W, hW⟩ : ∃ W, W = H ++ [.box [.fz 1 e1 (has.map eL), .fz 1 e2 (roots.map eI)], .box [.fz 1 false (nb.map eB)]] := ⟨_, rfl⟩
        rw [← hW]
        have hWl : W.length = H.length + 2 := by rw [hW]; simp
        have hWn : ∀ Y, (W ++ Y)[H.length + 1]? = some (.box [.fz 1 false (nb.map eB)]) := fun Y => by rw [hW, List.append_assoc]; exact mv_at1 _ _ _
        have hWt : ∀ Y, (W ++ Y).take H.length = H := fun Y => by rw [hW, List.append_assoc, List.take_left]
        have hWM : ∀ Y, Mods H (W ++ Y) := fun Y => by rw [hW, List.append_assoc]; exact Mods.ext H _
        have lW : L W.length = true := by rw [hWl]; exact lx 2
        have HW := Lib.hid (And.intro hWl (And.intro hWt hWM))
        clear hW hWl hWt hWM g0 g1
        refine clone_z (by have := HC.out.2.2.2.2.2.2; omega) (fun hne => ?_) (fun he => ?_)
        · repeat' (first | (simp only [zmPack, zxPack, ne_eq, zfree, owners, Nat.reduceLT, List.contains_cons, List.contains_nil, Nat.reduceBEq, BEq.rfl, chunk, setAt, List.lookup_cons, List.lookup_nil, reduceCtorEq, Nat.reduceEqDiff, reduceIte, implies_true, forall_const, Nat.reduceMul, Nat.reduceSub, Nat.reduceAdd, Nat.reduceLeDiff, *]) | (simp only [zgoO, zgoG, zO_nil, zthen_normal, zgoC]) | (with_reducible apply And.intro) | (with_reducible intro _))
          refine delfn_z (H := W) (p := fun n => nb.getD n.toNat false) (by have := HC.out.2.2.2.2.2.2; omega) (fun m hm R X K2 hk2 => duea_z (hWn _) (HI.out m hm).1 (by rw [HNL.out]; have := HI.out m hm; omega) hk2) lW fun R hR1 hR2 hR3 => ?_
          have hkl : (keepP (fun n : Int => nb.getD n.toNat false) l).length ≤ l.length := List.length_filter_le _ _
          have hdl : dueL nb l = cpt (srt (keepP (fun n : Int => nb.getD n.toNat false) l)) := rfl
          obtain ⟨kl, hkl2⟩ : ∃ kl, kl = keepP (fun n : Int => nb.getD n.toNat false) l := ⟨_, rfl⟩
          rw [← hkl2] at hR1 hR2 hkl hdl ⊢
          have hk100 : kl.length ≤ 1000 := by have := HC.out.2.2.2.2.2.2; omega
          have HR1 := Lib.hid (And.intro hR1 (And.intro hR2 (And.intro hR3 hk100)))
          have HDL := Lib.hid hdl
          clear hR1 hR2 hR3 hk100 hkl hkl2 hdl
          repeat' (first | (simp only [zmPack, zxPack, ne_eq, zfree, owners, Nat.reduceLT, List.contains_cons, List.contains_nil, Nat.reduceBEq, BEq.rfl, chunk, setAt, List.lookup_cons, List.lookup_nil, reduceCtorEq, Nat.reduceEqDiff, reduceIte, implies_true, forall_const, Nat.reduceMul, Nat.reduceSub, Nat.reduceAdd, Nat.reduceLeDiff, *]) | (simp only [zgoO, zgoG, zO_nil, zthen_normal, zgoC]) | (with_reducible apply And.intro) | (with_reducible intro _))
          refine sortO_z HR1.out.2.2.2 HR1.out.1 HR1.out.2.1 HR1.out.2.2.1 lW fun R2 hS1 hS2 hS3 => ?_
          have HS := Lib.hid (And.intro hS1 (And.intro hS2 hS3))
          have HSL := Lib.hid (srt_len kl)
          have lW1 : H.length + 1 < W.length := by have := HW.out.1; omega
          have lW2 : ∀ Y, H.length + 1 < (W ++ Y).length := fun Y => by have := HW.out.1; simp; omega
          clear hS1 hS2 hS3
          repeat' (first | (simp only [zmPack, zxPack, ne_eq, zfree, owners, Nat.reduceLT, List.contains_cons, List.contains_nil, Nat.reduceBEq, BEq.rfl, chunk, setAt, List.lookup_cons, List.lookup_nil, reduceCtorEq, Nat.reduceEqDiff, reduceIte, implies_true, forall_const, Nat.reduceMul, Nat.reduceSub, Nat.reduceAdd, Nat.reduceLeDiff, lW2, List.length_append, *]) | (simp only [zgoO, zgoG, zO_nil, zthen_normal, zgoC]) | (with_reducible apply And.intro) | (with_reducible intro _))
          rw [← HSL.out]
          refine compact_z (s := srt kl) (by rw [HSL.out]; exact HR1.out.2.2.2) HS.out.1 HS.out.2.1 HS.out.2.2 (by simp only [lW, Bool.true_and, Bool.not_eq_true', beq_eq_false_iff_ne]; omega) fun R3 hT1 hT2 hT3 => ?_
          rw [← HDL.out] at hT1 hT2 ⊢
          have fin : Fin H (.tuple [.own W.length 0 0 (dueL nb l).length false, .fz 1 false (nb.map eB), Z64 0]) (W ++ [.grow 0 1 R3]) K := by
            refine Fin.frzT (j := 0) (k := 1) (rows := R3) rfl (mv_at0 _ _) (by omega) (mv_pure hT3) ?_
            rw [mv_st0, List.drop_zero, hT1]
            exact Fin.truncT (HW.out.2.2 _) rfl (by rw [HW.out.2.1]; exact HK.out)
          clear hT1 hT2 hT3
          repeat' (first | (simp only [zmPack, zxPack, ne_eq, zfree, owners, Nat.reduceLT, List.contains_cons, List.contains_nil, Nat.reduceBEq, BEq.rfl, chunk, setAt, List.lookup_cons, List.lookup_nil, reduceCtorEq, Nat.reduceEqDiff, reduceIte, implies_true, forall_const, Nat.reduceMul, Nat.reduceSub, Nat.reduceAdd, Nat.reduceLeDiff, hWn, *]) | (simp only [zgoO, zgoG, zO_nil, zthen_normal, zgoC]) | (with_reducible apply And.intro) | (with_reducible intro _))
          all_goals omega
        · subst he
          have fin : Fin H (.tuple [.fz 1 false [], .fz 1 false (nb.map eB), Z64 0]) W K := by
            have h1 := HW.out.2.2 []
            have h2 := HW.out.2.1 []
            rw [List.append_nil] at h1 h2
            have h3 := HK.out
            rw [due_nil] at h3
            exact Fin.truncT h1 rfl (by rw [h2]; exact h3)
          have hW0 := hWn []
          rw [List.append_nil] at hW0
          have lW1 : H.length + 1 < W.length := by have := HW.out.1; omega
          repeat' (first | (simp only [zmPack, zxPack, ne_eq, zfree, owners, Nat.reduceLT, List.contains_cons, List.contains_nil, Nat.reduceBEq, BEq.rfl, chunk, setAt, List.lookup_cons, List.lookup_nil, reduceCtorEq, Nat.reduceEqDiff, reduceIte, implies_true, forall_const, Nat.reduceMul, Nat.reduceSub, Nat.reduceAdd, Nat.reduceLeDiff, *]) | (simp only [zgoO, zgoG, zO_nil, zthen_normal, zgoC]) | (with_reducible apply And.intro) | (with_reducible intro _))
          refine delf0_z ?_
          repeat' (first | (simp only [zmPack, zxPack, ne_eq, zfree, owners, Nat.reduceLT, List.contains_cons, List.contains_nil, Nat.reduceBEq, BEq.rfl, chunk, setAt, List.lookup_cons, List.lookup_nil, reduceCtorEq, Nat.reduceEqDiff, reduceIte, implies_true, forall_const, Nat.reduceMul, Nat.reduceSub, Nat.reduceAdd, Nat.reduceLeDiff, *]) | (simp only [zgoO, zgoG, zO_nil, zthen_normal, zgoC]) | (with_reducible apply And.intro) | (with_reducible intro _))
          refine sort_z0 rfl ?_
          repeat' (first | (simp only [zmPack, zxPack, ne_eq, zfree, owners, Nat.reduceLT, List.contains_cons, List.contains_nil, Nat.reduceBEq, BEq.rfl, chunk, setAt, List.lookup_cons, List.lookup_nil, reduceCtorEq, Nat.reduceEqDiff, reduceIte, implies_true, forall_const, Nat.reduceMul, Nat.reduceSub, Nat.reduceAdd, Nat.reduceLeDiff, lW1, *]) | (simp only [zgoO, zgoG, zO_nil, zthen_normal, zgoC]) | (with_reducible apply And.intro) | (with_reducible intro _))
          refine compact0_z ?_
          repeat' (first | (simp only [zmPack, zxPack, ne_eq, zfree, owners, Nat.reduceLT, List.contains_cons, List.contains_nil, Nat.reduceBEq, BEq.rfl, chunk, setAt, List.lookup_cons, List.lookup_nil, reduceCtorEq, Nat.reduceEqDiff, reduceIte, implies_true, forall_const, Nat.reduceMul, Nat.reduceSub, Nat.reduceAdd, Nat.reduceLeDiff, hW0, *]) | (simp only [zgoO, zgoG, zO_nil, zthen_normal, zgoC]) | (with_reducible apply And.intro) | (with_reducible intro _))
  · have fin := FE.out [.box [.fz 1 e1 (has.map eL), .fz 1 e2 (roots.map eI)]] _ (by unfold dueE; rw [if_pos hc]) hc
    obtain ⟨c, hcc⟩ : ∃ c, c = checkE has roots := ⟨_, rfl⟩
    rw [← hcc] at hc fin ⊢
    clear hcc
    repeat' (first | (simp only [zmPack, zxPack, ne_eq, zfree, owners, Nat.reduceLT, List.contains_cons, List.contains_nil, Nat.reduceBEq, BEq.rfl, chunk, setAt, List.lookup_cons, List.lookup_nil, reduceCtorEq, Nat.reduceEqDiff, reduceIte, implies_true, forall_const, Nat.reduceMul, Nat.reduceSub, Nat.reduceAdd, Nat.reduceLeDiff, g0, hc, *]) | (simp only [zgoO, zgoG, zO_nil, zthen_normal, zgoC]) | (with_reducible apply And.intro) | (with_reducible intro _))
end Go.Proofs.Ytfmllmcjinjfaaa

namespace Go.Proofs.Ytfmllmcjinjfaaa
open Go Go.RowKit
set_option linter.unusedVariables false
set_option linter.unusedSimpArgs false
variable {tb : List (FuncId × Bool)} {L : Nat → Bool} {H : ZH} {K : ZV → ZH → Prop}
def andB (a b : List Bool) : List Bool := a.zipWith (fun x y => x && !y) b
theorem andB_len {a b : List Bool} (h : a.length = b.length) : (andB a b).length = a.length := by simp [andB, h]
theorem Sn_andB {a b : List Bool} (h : a.length = b.length) {n : Nat} : Sn (andB a b) n ↔ Sn a n ∧ ¬ Sn b n := by
  unfold Sn andB
  rw [List.getD_eq_getElem?_getD, List.getD_eq_getElem?_getD, List.getD_eq_getElem?_getD, List.getElem?_zipWith]
  by_cases hn : n < a.length
  · rw [List.getElem?_eq_getElem hn, List.getElem?_eq_getElem (by omega)]; simp
  · rw [List.getElem?_eq_none (by omega), List.getElem?_eq_none (by omega)]; simp
noncomputable def stayL (has : List (List Int)) (roots l : List Int) : List Int := rising (andB (liveSb has [] (dueL (needL has roots) l)) (needL has roots))
theorem dueE_zero {has : List (List Int)} {roots l : List Int} (h : dueE has roots l = 0) : checkE has roots = 0 ∧ l.length ≤ 100 ∧ ∀ n ∈ l, 0 ≤ n ∧ n < (has.length : Int) := by
  unfold dueE at h
  split at h
  · rename_i hc; exact absurd h hc
  · rename_i hc
    split at h
    · omega
    · rename_i hl
      split at h
      · rename_i hn; exact ⟨by simpa using hc, by omega, hn⟩
      · omega
def andTo (a b : List Bool) (k : Nat) : List Bool := (andB a b).take k ++ a.drop k
set_option maxHeartbeats 8000000 in
theorem duex_z {e1 e2 e3 : Bool} {has : List (List Int)} {roots l : List Int}
    (hne : dueE has roots l ≠ 0 → K (.tuple [.nil, .nil, Z64 (dueE has roots l)]) H)
    (h0 : dueE has roots l = 0 → K (.tuple [.fz 1 false ((dueL (needL has roots) l).map eI), .fz 1 false ((stayL has roots l).map eI), Z64 0]) H) :
    ZC (constX tb) (cFunc Try.prog) 17 [.agg [.fz 1 e1 (has.map eL), .fz 1 e2 (roots.map eI)], .fz 1 e3 (l.map eI)] L H K := by
  refine ZC.enterL Gh.no constX_none f_en_duex (by simp) fun hL => ?_
  simp only [c_en_duex]
  have lx : ∀ n, L (H.length + n) = true := fun n => by cases n with
    | zero => exact hL 0
    | succ n => exact hL (n + 1)
  have g0 : ∀ A Y, (H ++ (A :: Y))[H.length]? = some A := fun A Y => mv_at0 A Y
  have HNE := Lib.hid hne
  have H0 := Lib.hid h0
  clear hne h0 hL
  repeat' (first | (simp only [zmPack, zxPack, ne_eq, zfree, owners, Nat.reduceLT, List.contains_cons, List.contains_nil, Nat.reduceBEq, BEq.rfl, chunk, setAt, List.lookup_cons, List.lookup_nil, reduceCtorEq, Nat.reduceEqDiff, reduceIte, implies_true, forall_const, Nat.reduceMul, Nat.reduceSub, Nat.reduceAdd, Nat.reduceLeDiff, g0, *]) | (simp only [zgoO, zgoG, zO_nil, zthen_normal, zgoC]) | (with_reducible apply And.intro) | (with_reducible intro _))
  refine due_z (fun hne => ?_) (fun he => ?_)
  · have fin : Fin H (.tuple [.nil, .nil, Z64 (dueE has roots l)]) (H ++ [.box [.fz 1 e1 (has.map eL), .fz 1 e2 (roots.map eI)]]) K := Fin.truncT (Mods.ext H _) rfl (by rw [List.take_left]; exact HNE.out hne)
    obtain ⟨c, hc⟩ : ∃ c, c = dueE has roots l := ⟨_, rfl⟩
    rw [← hc] at hne fin ⊢
    clear hc HNE H0
    repeat' (first | (simp only [zmPack, zxPack, ne_eq, zfree, owners, Nat.reduceLT, List.contains_cons, List.contains_nil, Nat.reduceBEq, BEq.rfl, chunk, setAt, List.lookup_cons, List.lookup_nil, reduceCtorEq, Nat.reduceEqDiff, reduceIte, implies_true, forall_const, Nat.reduceMul, Nat.reduceSub, Nat.reduceAdd, Nat.reduceLeDiff, hne, *]) | (simp only [zgoO, zgoG, zO_nil, zthen_normal, zgoC]) | (with_reducible apply And.intro) | (with_reducible intro _))
  · obtain ⟨q1, q2, q3⟩ := dueE_zero he
    obtain ⟨c1, c2, c3, c4, c5⟩ := checkE_zero q1
    have hK := H0.out he
    have hnl : (needL has roots).length = has.length := liveSb_length ..
    have hdl := due_len (nb := needL has roots) (l := l)
    have hdr : ∀ x ∈ dueL (needL has roots) l, 0 ≤ x ∧ x < (has.length : Int) := fun x hx => q3 x (mem_due.1 hx).1
    unfold stayL at hK
    obtain ⟨nb, hnb⟩ : ∃ nb, nb = needL has roots := ⟨_, rfl⟩
    rw [← hnb] at hK hnl hdl hdr ⊢
    obtain ⟨d, hd⟩ : ∃ d, d = dueL nb l := ⟨_, rfl⟩
    rw [← hd] at hK hdl hdr ⊢
    obtain ⟨sb, hsb⟩ : ∃ sb, sb = liveSb has [] d := ⟨_, rfl⟩
    have hsl : sb.length = has.length := by rw [hsb]; exact liveSb_length ..
    rw [← hsb] at hK
    have HC := Lib.hid (And.intro c1 (And.intro c2 (And.intro c3 (And.intro c4 (And.intro hdr (And.intro hdl q2))))))
    have HSB := Lib.hid hsb
    have HK := Lib.hid hK
    have HL := Lib.hid (And.intro hsl hnl)
    clear c1 c2 c3 c4 c5 q1 q2 q3 hK hdl hdr hnb hd hsb he HNE H0 hsl hnl
    repeat' (first | (simp only [zmPack, zxPack, ne_eq, zfree, owners, Nat.reduceLT, List.contains_cons, List.contains_nil, Nat.reduceBEq, BEq.rfl, chunk, setAt, List.lookup_cons, List.lookup_nil, reduceCtorEq, Nat.reduceEqDiff, reduceIte, implies_true, forall_const, Nat.reduceMul, Nat.reduceSub, Nat.reduceAdd, Nat.reduceLeDiff, g0, *]) | (simp only [zgoO, zgoG, zO_nil, zthen_normal, zgoC]) | (with_reducible apply And.intro) | (with_reducible intro _))
    refine wfromo_z rows_fz rfl rows_fz HC.out.1 (fun o ho => by have := HC.out.2.2.1 o ho; omega) (by have := HC.out.2.2.2.2.2.1; have := HC.out.2.2.2.2.2.2; omega) HC.out.2.2.2.1 HC.out.2.2.2.2.1 ?_
    rw [← HSB.out]
    have el : ∀ (A : ZB) (R : List Bool) (k : Nat), R.length = has.length → k < has.length → elemZ (H ++ [A, .grow 0 1 (R.map eB)]) 1 k (.own (H.length + 1) 0 0 has.length false) = some (.eptr (H.length + 1) 0 k 0) := fun A R k h1 h2 => by
      rw [elem_own]; exact ⟨_, mv_at1 _ _ _, by simp [h1], h2, by simp⟩
    have ld : ∀ (A : ZB) (R : List Bool) (k : Nat) (c : Bool), R[k]? = some c → ldZ (H ++ [A, .grow 0 1 (R.map eB)]) none (.eptr (H.length + 1) 0 k 0) = some (ZBo c) := fun A R k c h => by
      rw [ld_eptr]; exact ⟨_, _, _, mv_at1 _ _ _, by rw [List.getElem?_map, h]; rfl, rfl⟩
    have st : ∀ (A : ZB) (R : List Bool) (k : Nat) (c b : Bool), R[k]? = some c → stZ L (H ++ [A, .grow 0 1 (R.map eB)]) [ZBo b] (.eptr (H.length + 1) 0 k 0) = some (H ++ [A, .grow 0 1 ((R.set k b).map eB)]) := fun A R k c b h => by
      rw [st_eptr]
      refine ⟨1, _, _, mv_at1 _ _ _, by rw [List.getElem?_map, h]; rfl, lx 1, by simp, ?_⟩
      rw [mv_st1, List.map_set]; rfl
    have ln : ∀ (A : ZB) (R : List Bool), R.length = has.length → lenZ (H ++ [A, .grow 0 1 (R.map eB)]) (.own (H.length + 1) 0 0 has.length false) = some has.length := fun A R h => by
      simp only [lenZ, mv_at1]; rw [if_pos trivial]
    have EL := Lib.hid el
    have LD := Lib.hid ld
    have ST := Lib.hid st
    have LN := Lib.hid ln
    have ln0 := ln (.box [.fz 1 e1 (has.map eL), .fz 1 e2 (roots.map eI)]) sb HL.out.1
    clear el ld st ln
    repeat' (first | (simp only [zmPack, zxPack, ne_eq, zfree, owners, Nat.reduceLT, List.contains_cons, List.contains_nil, Nat.reduceBEq, BEq.rfl, chunk, setAt, List.lookup_cons, List.lookup_nil, reduceCtorEq, Nat.reduceEqDiff, reduceIte, implies_true, forall_const, Nat.reduceMul, Nat.reduceSub, Nat.reduceAdd, Nat.reduceLeDiff, ln0, *]) | (simp only [zgoO, zgoG, zO_nil, zthen_normal, zgoC]) | (with_reducible apply And.intro) | (with_reducible intro _))
    clear ln0
    have hlen : ∀ k, (andTo sb nb k).length = has.length := fun k => by
      unfold andTo
      rw [List.length_append, List.length_take, List.length_drop, andB_len (by rw [HL.out.1, HL.out.2]), HL.out.1]; omega
    have HLN := Lib.hid hlen
    refine zW_forK [(10, .own (H.length + 1) 0 0 has.length false), (8, .fz 1 false (nb.map eB)), (7, .fz 1 false (d.map eI))] has.length (fun k s' h' => h' = H ++ [.box [.fz 1 e1 (has.map eL), .fz 1 e2 (roots.map eI)], .grow 0 1 ((andTo sb nb k).map eB)]) (by have := HC.out.1; omega) ⟨rfl, rfl, rfl, rfl, rfl, rfl⟩ rfl rfl (by repeat' (first | exact trivial | (refine ⟨rfl, ?_⟩) | (refine ⟨by simp only [zupd_at, Nat.reduceEqDiff, reduceIte]; assumption, ?_⟩))) rfl rfl (by decide) (by unfold andTo; simp) ?_ ?_
    · rintro k s' h' hk rfl hi hll ⟨f10, f8, f7, -⟩
      have hks : k < sb.length := by rw [HL.out.1]; exact hk
      have hkn : k < nb.length := by rw [HL.out.2]; exact hk
      have hx : nb[k]? = some nb[k] := List.getElem?_eq_getElem hkn
      have hal : (andB sb nb).length = has.length := by rw [andB_len (by rw [HL.out.1, HL.out.2]), HL.out.1]
      have hat : (andTo sb nb k)[k]? = some sb[k] := by
        unfold andTo
        rw [List.getElem?_append_right (by rw [List.length_take]; omega), List.getElem?_drop, List.length_take, hal, Nat.min_eq_left (by omega), Nat.sub_self, Nat.add_zero, List.getElem?_eq_getElem hks]
      have hnx : ∀ b, b = (sb[k] && !nb[k]) → (andTo sb nb k).set k b = andTo sb nb (k + 1) := fun b hb => by
        unfold andTo
        have h1 : (andB sb nb)[k]'(by omega) = b := by rw [hb]; simp [andB]
        rw [List.set_append_right _ _ (by rw [List.length_take]; omega), List.length_take, hal, Nat.min_eq_left (by omega), Nat.sub_self, List.take_succ_eq_append_getElem (by omega), List.drop_eq_getElem_cons hks, List.set_cons_zero, h1, List.append_assoc]; rfl
      obtain ⟨c, hc⟩ : ∃ c, c = sb[k] := ⟨_, rfl⟩
      obtain ⟨c2, hc2⟩ : ∃ c2, c2 = nb[k] := ⟨_, rfl⟩
      rw [← hc] at hat hnx
      rw [← hc2] at hx hnx
      have q1 := EL.out (.box [.fz 1 e1 (has.map eL), .fz 1 e2 (roots.map eI)]) _ k (HLN.out k) hk
      have q2 := LD.out (.box [.fz 1 e1 (has.map eL), .fz 1 e2 (roots.map eI)]) _ k c hat
      have q3 := ST.out (.box [.fz 1 e1 (has.map eL), .fz 1 e2 (roots.map eI)]) _ k c (c && !c2) hat
      rw [hnx _ rfl] at q3
      clear hc hc2 hat hnx hal hks
      cases c with
      | true =>
        rw [Bool.true_and] at q3
        repeat' (first | (simp only [zmPack, zxPack, ne_eq, zfree, owners, Nat.reduceLT, List.contains_cons, List.contains_nil, Nat.reduceBEq, BEq.rfl, chunk, setAt, List.lookup_cons, List.lookup_nil, reduceCtorEq, Nat.reduceEqDiff, reduceIte, implies_true, forall_const, Nat.reduceMul, Nat.reduceSub, Nat.reduceAdd, Nat.reduceLeDiff, q1, q2, q3, hx, hkn, *]) | (simp only [zgoO, zgoG, zO_nil, zthen_normal, zgoC]) | (with_reducible apply And.intro) | (with_reducible intro _))
      | false =>
        rw [Bool.false_and] at q3
        repeat' (first | (simp only [zmPack, zxPack, ne_eq, zfree, owners, Nat.reduceLT, List.contains_cons, List.contains_nil, Nat.reduceBEq, BEq.rfl, chunk, setAt, List.lookup_cons, List.lookup_nil, reduceCtorEq, Nat.reduceEqDiff, reduceIte, implies_true, forall_const, Nat.reduceMul, Nat.reduceSub, Nat.reduceAdd, Nat.reduceLeDiff, q1, q2, q3, hx, hkn, *]) | (simp only [zgoO, zgoG, zO_nil, zthen_normal, zgoC]) | (with_reducible apply And.intro) | (with_reducible intro _))
    · rintro s' h' rfl ⟨f10, f8, f7, -⟩
      have he : andTo sb nb has.length = andB sb nb := by
        unfold andTo
        rw [List.take_of_length_le (by rw [andB_len (by rw [HL.out.1, HL.out.2]), HL.out.1]; exact Nat.le_refl _), List.drop_of_length_le (by rw [HL.out.1]; exact Nat.le_refl _), List.append_nil]
      have hal : (andB sb nb).length = has.length := by rw [andB_len (by rw [HL.out.1, HL.out.2]), HL.out.1]
      rw [he]
      obtain ⟨ab, hab⟩ : ∃ ab, ab = andB sb nb := ⟨_, rfl⟩
      rw [← hab] at HK hal ⊢
      have fin : Fin H (.tuple [.fz 1 false (d.map eI), .fz 1 false ((rising ab).map eI), Z64 0]) (H ++ [.box [.fz 1 e1 (has.map eL), .fz 1 e2 (roots.map eI)], .grow 0 1 (ab.map eB)]) K := Fin.truncT (Mods.ext H _) rfl (by rw [List.take_left]; exact HK.out)
      have hrw : ∀ X, rowsZ ((H ++ [.box [.fz 1 e1 (has.map eL), .fz 1 e2 (roots.map eI)], .grow 0 1 (ab.map eB)]) ++ X) 1 (.own (H.length + 1) 0 0 has.length false) = some (ab.map eB) := fun X => by
        rw [List.append_assoc]
        exact rows_whole (mv_at1 _ _ _) (by simp [hal])
      have HRW := Lib.hid hrw
      have hab2 : ab.length ≤ 1000000 := by have := HC.out.1; omega
      have HAB := Lib.hid hab2
      clear he hab hal hrw hab2
      repeat' (first | (simp only [zmPack, zxPack, ne_eq, zfree, owners, Nat.reduceLT, List.contains_cons, List.contains_nil, Nat.reduceBEq, BEq.rfl, chunk, setAt, List.lookup_cons, List.lookup_nil, reduceCtorEq, Nat.reduceEqDiff, reduceIte, implies_true, forall_const, Nat.reduceMul, Nat.reduceSub, Nat.reduceAdd, Nat.reduceLeDiff, *]) | (simp only [zgoO, zgoG, zO_nil, zthen_normal, zgoC]) | (with_reducible apply And.intro) | (with_reducible intro _))
      refine wrising_z HRW.out HAB.out ?_
      repeat' (first | (simp only [zmPack, zxPack, ne_eq, zfree, owners, Nat.reduceLT, List.contains_cons, List.contains_nil, Nat.reduceBEq, BEq.rfl, chunk, setAt, List.lookup_cons, List.lookup_nil, reduceCtorEq, Nat.reduceEqDiff, reduceIte, implies_true, forall_const, Nat.reduceMul, Nat.reduceSub, Nat.reduceAdd, Nat.reduceLeDiff, *]) | (simp only [zgoO, zgoG, zO_nil, zthen_normal, zgoC]) | (with_reducible apply And.intro) | (with_reducible intro _))
end Go.Proofs.Ytfmllmcjinjfaaa
