/-
  weak.From in ZM; named.
-/
import Derived.Test.YtblgljahhhdlhaaMrD8
namespace Go.Proofs.Ytblgljahhhdlhaa
open Go Go.RowKit
set_option linter.unusedVariables false
set_option linter.unusedSimpArgs false
variable {U : Nat → Prop}
section
variable {tb : List (FuncId × Bool)} {fl : Nat → Bool} {h : Heap} {K : AV → Heap → Prop}
theorem from_am2 {v1 v2 lv : AV} {has : List (List Int)} {l : List Int} (h1 : LL h v1 has) (hc2 : v2.isCell = true) (hl : IL h lv l) (hN : has.length ≤ 100) (hls : ∀ l ∈ has, l.length ≤ 1000) (hll : l.length ≤ 1000000) (hok : okHas has has.length)
    (hb : ∀ x ∈ l, 0 ≤ x ∧ x < (has.length : Int)) (hf : ∀ i, h.length ≤ i → fl i = true)
    (hK : ∀ h' sb, BL h' (.slice (h.length + 1) 0 has.length has.length true 1) sb → sb.length = has.length → LInv has [] l sb → Keep h h' [] → K (.slice (h.length + 1) 0 has.length has.length true 1) h') :
    AC (constX tb) (cFunc Try.prog) 32 [.agg [v1, v2], lv] fl h K := by
  refine AC.enter rfl f_wk_from (by simp) ?_
  simp only [c_wk_from]
  have hl1 := h1.len
  have hc1 := h1.cell
  have hre : has.length ≤ reach := by unfold reach; omega
  obtain ⟨H, hH⟩ : ∃ H, H = h ++ [some [v1, v2], some (List.replicate has.length (BV false)), some [v1, v2, .slice (h.length + 1) 0 has.length has.length true 1, .nil]] := ⟨_, rfl⟩
  have kH : Keep h H [] := by rw [hH]; exact Keep.ext _ _
  have hHl : H.length = h.length + 3 := by rw [hH]; simp
  have hR : RSt H (h.length + 2) v1 v2 (.slice (h.length + 1) 0 has.length has.length true 1) (List.replicate has.length false) .nil [] := by
    refine ⟨by rw [hH, blk_atK]; rfl, BL.made (by rw [hH, blk_atK]; rfl), OL.nil, by simp [idOf], by simp [idOf], by simp [idOf]⟩
  have hW : Wri fl H (h.length + 2) (.slice (h.length + 1) 0 has.length has.length true 1) .nil := ⟨hf _ (by omega), fun i hi => hf _ (by simp [idOf] at hi; omega), fun i hi => by simp [idOf] at hi, fun i hi => hf _ (by omega)⟩
  have hgo := fun (K2 : AV → Heap → Prop) (k2 : _) => reach_am (tb := tb) (K := K2) hR (hl.keep kH (by simp)) (fun i hi hm => by have := Sl.lt hl i hi; simp [idOf] at hm; omega) (by simpa using hb) hll (by rw [replicate_unseen]; simp; omega) hW k2
  have HH := Lib.hid hH
  have HL := Lib.hid hHl
  clear hH hHl
  repeat' (first | (simp only [AW_next, AW_ops, AW_opsD, AW_cond, AW_block, AW_exit, AW_ret, AW_skip, AW_scope, AO_nil, AO_next, AO_nextW, wantB_bool, wantK_some, then_normal, then_exit, then_ret, inBlk_normal, inBlk_exit, inBlk_ret, A1_mv, A1_pick, A1_box, A1_zero, A1_build, A1_lits, A1_load, shallow_none, A1_store, A1_nilCheckI, nilOk_ptr, nilOk_func, A1_bin, A1_eqNil, A1_eqBool, A1_eqAgg, A1_un, A1_conv, A1_field, A1_fieldAddr, A1_indexAddr, A1_indexArr, A1_index, A1_slice, A1_mkSlice, A1_extract, A1_func, A1_call, callee_func, callee_bfunc, A1_append, A1_len, A1_minmax, put_some, put_none, upd_at, ev_tmp, ev_av, bin_lss, bin_leq, bin_gtr, bin_geq, bin_eql, bin_neq, bin_add, bin_sub, bin_mul, un_not, natOf_nat, Bool.not_eq_false', Prod.mk.injEq, and_assoc, decide_false, decide_true, Bool.not_false, Bool.not_true, Bool.true_eq_false, Bool.false_eq_true, exists_false, Bool.not_eq_false, Bool.not_not, AV.val.injEq, AV.ptr.injEq, AV.slice.injEq, AV.func.injEq, AV.tuple.injEq, AV.agg.injEq, Value.bool.injEq, Value.int.injEq, Option.some.injEq, exists_eq_left', exists_eq_left, exists_and_left, exists_and_right, and_true, true_and, decide_eq_true_eq, decide_eq_false_iff_not, if_true, if_false, Bool.not_eq_true', beq_true, beq_false, ne_eq, not_true_eq_false, not_false_eq_true, reduceCtorEq, List.getD_cons_zero, List.getD_cons_succ, List.map_cons, List.map_nil, List.append_nil, Nat.reduceEqDiff, reduceIte, ite_true, ite_false, or_true, true_or, or_false, false_or, resA, resultsA, true_imp_iff, false_imp_iff, implies_true, imp_false, and_self, imp_self, and_false, false_and, forall_const, cell_val, cell_ptr, cell_slice, cell_func, cell_hole, cells_agg, cells_val, cells_ptr, cells_slice, cells_func, cells_hole, cells_cell, List.length_cons, List.length_nil, List.all_cons, List.all_nil, Bool.and_self, ldA, List.mapM_cons, List.mapM_nil, Option.bind_eq_bind, Option.bind_some, Option.pure_def, Option.map_none, Option.map_some, List.set_cons_zero, List.set_cons_succ, Nat.lt_add_one, List.append_assoc, List.cons_append, List.nil_append, List.append_nil, List.length_append, rd1_n0, rd1_nK, rd1_c0, rd1_cS, rd_n0, rd_nK, rd_c0, rd_cS, fillA, List.take_zero, List.take_succ_cons, List.take_nil, List.drop_zero, List.drop_succ_cons, List.drop_nil, List.getElem?_cons_zero, List.getElem?_cons_succ, Nat.reduceAdd, Nat.reduceLeDiff, Nat.add_eq_zero_iff, and_self, Nat.zero_add, Nat.add_zero, Nat.mul_one, hl1, natOf_nat, hre, Nat.le_refl, beq_self_eq_true, flat_one, *]) | (simp only [goO, AO_nil, then_normal, goC]) | (with_reducible apply And.intro) | (with_reducible intro _))
  rw [← HH.out]
  refine hgo _ fun h2 tv2 r1 r2 r3 => ?_
  repeat' (first | (simp only [AW_next, AW_ops, AW_opsD, AW_cond, AW_block, AW_exit, AW_ret, AW_skip, AW_scope, AO_nil, AO_next, AO_nextW, wantB_bool, wantK_some, then_normal, then_exit, then_ret, inBlk_normal, inBlk_exit, inBlk_ret, A1_mv, A1_pick, A1_box, A1_zero, A1_build, A1_lits, A1_load, shallow_none, A1_store, A1_nilCheckI, nilOk_ptr, nilOk_func, A1_bin, A1_eqNil, A1_eqBool, A1_eqAgg, A1_un, A1_conv, A1_field, A1_fieldAddr, A1_indexAddr, A1_indexArr, A1_index, A1_slice, A1_mkSlice, A1_extract, A1_func, A1_call, callee_func, callee_bfunc, A1_append, A1_len, A1_minmax, put_some, put_none, upd_at, ev_tmp, ev_av, bin_lss, bin_leq, bin_gtr, bin_geq, bin_eql, bin_neq, bin_add, bin_sub, bin_mul, un_not, natOf_nat, Bool.not_eq_false', Prod.mk.injEq, and_assoc, decide_false, decide_true, Bool.not_false, Bool.not_true, Bool.true_eq_false, Bool.false_eq_true, exists_false, Bool.not_eq_false, Bool.not_not, AV.val.injEq, AV.ptr.injEq, AV.slice.injEq, AV.func.injEq, AV.tuple.injEq, AV.agg.injEq, Value.bool.injEq, Value.int.injEq, Option.some.injEq, exists_eq_left', exists_eq_left, exists_and_left, exists_and_right, and_true, true_and, decide_eq_true_eq, decide_eq_false_iff_not, if_true, if_false, Bool.not_eq_true', beq_true, beq_false, ne_eq, not_true_eq_false, not_false_eq_true, reduceCtorEq, List.getD_cons_zero, List.getD_cons_succ, List.map_cons, List.map_nil, List.append_nil, Nat.reduceEqDiff, reduceIte, ite_true, ite_false, or_true, true_or, or_false, false_or, resA, resultsA, true_imp_iff, false_imp_iff, implies_true, imp_false, and_self, imp_self, and_false, false_and, forall_const, cell_val, cell_ptr, cell_slice, cell_func, cell_hole, cells_agg, cells_val, cells_ptr, cells_slice, cells_func, cells_hole, cells_cell, List.length_cons, List.length_nil, List.all_cons, List.all_nil, Bool.and_self, ldA, List.mapM_cons, List.mapM_nil, Option.bind_eq_bind, Option.bind_some, Option.pure_def, Option.map_none, Option.map_some, List.set_cons_zero, List.set_cons_succ, Nat.lt_add_one, List.append_assoc, List.cons_append, List.nil_append, List.append_nil, List.length_append, rd1_n0, rd1_nK, rd1_c0, rd1_cS, rd_n0, rd_nK, rd_c0, rd_cS, fillA, List.take_zero, List.take_succ_cons, List.take_nil, List.drop_zero, List.drop_succ_cons, List.drop_nil, List.getElem?_cons_zero, List.getElem?_cons_succ, Nat.reduceAdd, Nat.reduceLeDiff, Nat.add_eq_zero_iff, and_self, Nat.zero_add, Nat.add_zero, Nat.mul_one, *]) | (simp only [goO, AO_nil, then_normal, goC]) | (with_reducible apply And.intro) | (with_reducible intro _))
  have hG : GInv has (Liv has [] l) (reachL (List.replicate has.length false, []) l) := (GInv.start has _ has.length).reach fun x hx => ⟨by simpa using hb x hx, Liv.base hx⟩
  have hsn := reachL_seen l (List.replicate has.length false, []) (fun x hx => by have := hb x hx; simp; omega)
  have hll := reachL_length l (List.replicate has.length false, [])
  have hbd := reachL_bound l (List.replicate has.length false, []) (fun x hx => by have := hb x hx; simp; omega)
  obtain ⟨⟨sb1, td1⟩, hst⟩ : ∃ st, st = reachL (List.replicate has.length false, []) l := ⟨_, rfl⟩
  rw [← hst] at r1 hG hsn hll hbd
  clear hst
  dsimp only at r1 hsn hll hbd
  rw [List.length_replicate] at hll
  rw [replicate_unseen, List.length_nil] at hbd
  have hk2 : Keep h h2 [] := kH.then r2 (fun i hi => .inl hi) fun i hi => .inr (by simp [idOf] at hi; omega)
  have hL' := HL.out
  have hW2 : Wri fl h2 (h.length + 2) (.slice (h.length + 1) 0 has.length has.length true 1) tv2 := ⟨hW.f1, hW.f2, fun i hi => (r3 i hi).elim (fun q => by simp [idOf] at q) (fun q => hf i (by omega)), fun i hi => hf i (by have := hk2.1; omega)⟩
  have hge : ∀ i ∈ (h.length + 2) :: (idOf (.slice (h.length + 1) 0 has.length has.length true 1) ++ idOf tv2), h.length ≤ i := fun i hi => by
    simp only [List.mem_cons, List.mem_append] at hi
    rcases hi with q | q | q
    · omega
    · simp [idOf] at q; omega
    · exact (r3 i q).elim (fun q => by simp [idOf] at q) (fun q => by omega)
  refine all_am r1 hG.toA (by rw [hll]; exact hok) hk2 h1 hge hls (by omega) hW2 fun h3 tv3 sb3 q1 q2 q3 q4 => ?_
  have hlen3 : sb3.length = has.length := by
    have a := q1.seen.len
    simp [lenA] at a
    exact a.symm
  have fin := hK h3 sb3 q1.seen hlen3 (LInv.ofA q2 (fun n hn => hG.sub n hn) (fun x hx => (hsn _).2 (.inr ⟨x, hx, rfl⟩))) (hk2.then q3 (fun i hi => .inl hi) fun i hi => .inr (hge i hi))
  have rc := q1.rc
  clear hgo
  repeat' (first | (simp only [AW_next, AW_ops, AW_opsD, AW_cond, AW_block, AW_exit, AW_ret, AW_skip, AW_scope, AO_nil, AO_next, AO_nextW, wantB_bool, wantK_some, then_normal, then_exit, then_ret, inBlk_normal, inBlk_exit, inBlk_ret, A1_mv, A1_pick, A1_box, A1_zero, A1_build, A1_lits, A1_load, shallow_none, A1_store, A1_nilCheckI, nilOk_ptr, nilOk_func, A1_bin, A1_eqNil, A1_eqBool, A1_eqAgg, A1_un, A1_conv, A1_field, A1_fieldAddr, A1_indexAddr, A1_indexArr, A1_index, A1_slice, A1_mkSlice, A1_extract, A1_func, A1_call, callee_func, callee_bfunc, A1_append, A1_len, A1_minmax, put_some, put_none, upd_at, ev_tmp, ev_av, bin_lss, bin_leq, bin_gtr, bin_geq, bin_eql, bin_neq, bin_add, bin_sub, bin_mul, un_not, natOf_nat, Bool.not_eq_false', Prod.mk.injEq, and_assoc, decide_false, decide_true, Bool.not_false, Bool.not_true, Bool.true_eq_false, Bool.false_eq_true, exists_false, Bool.not_eq_false, Bool.not_not, AV.val.injEq, AV.ptr.injEq, AV.slice.injEq, AV.func.injEq, AV.tuple.injEq, AV.agg.injEq, Value.bool.injEq, Value.int.injEq, Option.some.injEq, exists_eq_left', exists_eq_left, exists_and_left, exists_and_right, and_true, true_and, decide_eq_true_eq, decide_eq_false_iff_not, if_true, if_false, Bool.not_eq_true', beq_true, beq_false, ne_eq, not_true_eq_false, not_false_eq_true, reduceCtorEq, List.getD_cons_zero, List.getD_cons_succ, List.map_cons, List.map_nil, List.append_nil, Nat.reduceEqDiff, reduceIte, ite_true, ite_false, or_true, true_or, or_false, false_or, resA, resultsA, true_imp_iff, false_imp_iff, implies_true, imp_false, and_self, imp_self, and_false, false_and, forall_const, cell_val, cell_ptr, cell_slice, cell_func, cell_hole, cells_agg, cells_val, cells_ptr, cells_slice, cells_func, cells_hole, cells_cell, List.length_cons, List.length_nil, List.all_cons, List.all_nil, Bool.and_self, ldA, List.mapM_cons, List.mapM_nil, Option.bind_eq_bind, Option.bind_some, Option.pure_def, Option.map_none, Option.map_some, List.set_cons_zero, List.set_cons_succ, Nat.lt_add_one, List.append_assoc, List.cons_append, List.nil_append, List.append_nil, List.length_append, rd1_n0, rd1_nK, rd1_c0, rd1_cS, rd_n0, rd_nK, rd_c0, rd_cS, fillA, List.take_zero, List.take_succ_cons, List.take_nil, List.drop_zero, List.drop_succ_cons, List.drop_nil, List.getElem?_cons_zero, List.getElem?_cons_succ, Nat.reduceAdd, Nat.reduceLeDiff, Nat.add_eq_zero_iff, and_self, Nat.zero_add, Nat.add_zero, Nat.mul_one, rd1_of rc, *]) | (simp only [goO, AO_nil, then_normal, goC]) | (with_reducible apply And.intro) | (with_reducible intro _))

end
section
variable {tb : List (FuncId × Bool)} {L : Nat → Bool} {H : ZH} {K : ZV → ZH → Prop}
theorem ZR.ownEx {w : Wd} {i g off len id o lb k : Nat} (h : ZR w (.own i g off len false) (.slice id o len lb false k)) : ZR w (.own i g off len false) (.slice id o len lb true k) := by
  cases h with
  | fr hf => cases hf
  | own h1 h2 h3 h4 =>
    refine .own h1 (fun g' k' rows hb => ⟨(h2 g' k' rows hb).1, fun he => ?_⟩) (fun id hid => h3 id hid) rfl
    rcases (h2 g' k' rows hb).2 he with ⟨_, _, _, _, e | ⟨_, _, _, e, _⟩⟩ | ⟨id2, b, lb2, ex2, row, q1, q2, q3, q4, q5, q6, q7⟩
    · cases e
    · cases e
    · injection q2 with t1 t2 t3 t4 t5 t6
      subst t1; subst t2; subst t4; subst t6
      exact .inr ⟨_, b, _, true, row, q1, rfl, q3, q4, q5, q6, fun h => by cases h⟩
theorem wfrom_z {z1 z2 z3 : ZV} {has : List (List Int)} {l : List Int} (h1 : rowsZ H 1 z1 = some (has.map eL)) (hc : z2.isCell = true) (h3 : rowsZ H 1 z3 = some (l.map eI)) (hN : has.length ≤ 100) (hls : ∀ l ∈ has, l.length ≤ 1000) (hll : l.length ≤ 1000000) (hok : okHas has has.length)
    (hb : ∀ x ∈ l, 0 ≤ x ∧ x < (has.length : Int)) (hK : K (.fz 1 false ((liveSb has [] l).map eB)) H) :
    ZC (constX tb) (cFunc Try.prog) 32 [.agg [z1, z2], z3] L H K := by
  refine ZC.frzF (n := has.length) (k := 1) (rows := (liveSb has [] l).map eB) ?_ (by simp [liveSb_length]) (mv_pure (fun r hr => by obtain ⟨x, _, rfl⟩ := List.mem_map.1 hr; rfl)) hK
  intro fl w args r e ha
  subst e
  obtain ⟨a, ha0, ha1⟩ := ha.get (i := 0) rfl
  obtain ⟨b, hb0, hb1⟩ := ha.get (i := 1) rfl
  obtain ⟨ys, rfl, hys⟩ := ha1.agg_inv
  obtain ⟨v1, hv0, hv1⟩ := hys.get (i := 0) rfl
  obtain ⟨v2, hu0, hu1⟩ := hys.get (i := 1) rfl
  have e1 : ys = [v1, v2] := by
    have := hys.1
    match ys, this, hv0, hu0 with
    | [x, y], _, hv0, hu0 => simp at hv0 hu0; rw [hv0, hu0]
  have e2 : args = [.agg ys, b] := by
    have := ha.1
    match args, this, ha0, hb0 with
    | [x, y], _, hv0, hu0 => simp at hv0 hu0; rw [hv0, hu0]
  subst e1; subst e2
  refine from_am2 (ll_of r hv1 h1) (by rw [← hu1.isCell]; exact hc) (il_of r hb1 h3) hN hls hll hok hb r.fresh fun h' sb hBL hln hInv hKp => ?_
  have hsb : sb = liveSb has [] l := eq_liveSb hln (fun n => hInv.iff (fun p hp => by cases hp) n)
  obtain ⟨s1, s2⟩ := hBL
  have hex : ∃ row, blk h' (w.h.length + 1) = some row ∧ has.length ≤ row.length ∧ row.take has.length = sb.map BV := by
    rcases s2 with ⟨_, e | e⟩ | ⟨id, off, lb, ex, row, e, _, q1, q2, q3⟩
    · cases e
    · cases e
    · injection e with t1 t2 t3 t4
      subst t1; subst t2
      rw [hln] at q2 q3
      exact ⟨row, q1, by omega, by rw [← q3, List.drop_zero, Nat.mul_one]⟩
  obtain ⟨row, hrow, hr0, hr1⟩ := hex
  have hnew : New w.h h' 1 (.slice (w.h.length + 1) 0 has.length has.length false 1) (sb.map BV) has.length := by
    refine ⟨⟨by simp [hln], .inr ⟨_, has.length, row, rfl, Nat.le_refl _, by omega, hrow, by rw [Nat.mul_one]; exact hr1⟩⟩, by simp [idOf], hKp⟩
  obtain ⟨w', q1, q2, q3, q4, q5⟩ := new_w (rows := sb.map eB) r hnew (by intro x hx; obtain ⟨y, _, rfl⟩ := List.mem_map.1 hx; rfl) (by simp [hln]) (fun w' => by rw [zflat_one sb ZBo]; exact vals_zrs sb w')
  exact ⟨_, w', q1, q3, q4, q5.ownEx, rfl, by rw [q2, hsb]⟩
structure Rng (T : List TB) : Prop where
  len : T.length ≤ 100
  sm : ∀ x ∈ T, x.2.1.length ≤ 10
  rng : ∀ x ∈ T, ∀ y ∈ x.2.1, y < (T.length : Int)
theorem hasOf_len (T : List TB) : (hasOf T).length = T.length := by simp [hasOf]
theorem Rng.ok {T : List TB} (h : Rng T) : okHas (hasOf T) (hasOf T).length := by
  refine ⟨rfl, fun o ho y hy => ?_⟩
  obtain ⟨x, hx, rfl⟩ := List.mem_map.1 ho
  have hm := List.mem_filter.1 hy
  have := h.rng x hx y hm.1
  have h0 : ¬ y < 0 := by simpa using hm.2
  rw [hasOf_len]; omega
theorem Rng.own {T : List TB} (h : Rng T) : ∀ o ∈ hasOf T, o.length ≤ 1000 := fun o ho => by
  obtain ⟨x, hx, rfl⟩ := List.mem_map.1 ho
  have h1 := h.sm x hx
  have h2 := List.length_filter_le (fun x => !decide (x < 0)) x.2.1
  unfold keepN; omega
theorem Rng.root {T : List TB} (h : Rng T) : ∀ x ∈ rising (heldB T), 0 ≤ x ∧ x < ((hasOf T).length : Int) := fun x hx => by
  obtain ⟨h0, h1⟩ := mem_rising.1 hx
  have := Sn_lt h1
  rw [hasOf_len]; simp [heldB] at this; omega
theorem rootsLen {T : List TB} (h : Rng T) : (rising (heldB T)).length ≤ 1000000 := by
  have := riseTo_length (heldB T) (heldB T).length
  have h1 := h.len
  unfold rising
  rw [show (heldB T).length = T.length by simp [heldB]] at this ⊢; omega
noncomputable def needT (T : List TB) : List Bool := liveSb (hasOf T) [] (rising (heldB T))
instance {l : List Bool} {n : Nat} : Decidable (Sn l n) := inferInstanceAs (Decidable (_ = true))
noncomputable def namedE (T : List TB) (l : List Int) : Int := if ∀ n ∈ l, 0 ≤ n ∧ n < (T.length : Int) then (if ∀ n ∈ l, Sn (needT T) n.toNat then 0 else 8) else 5
variable {nd : Bool} {p t g m : Nat} {nu : Int} {T : List TB} {R : List Int}
theorem named_z {z : ZV} {l : List Int} (h : GeAt U H p t g m nu T R) (hr : Rng T) (hz : ∀ X, rowsZ (H ++ X) 1 z = some (l.map eI)) (hl : l.length ≤ 1000) (hK : K (Z64 (namedE T l)) H) :
    ZC (XG tb nd) (cFunc Try.prog) 29 [.ptr p 0, z] L H K := by
  refine ZC.enterL Gh.no constX_none f_ge_named (by simp) fun hL => ?_
  simp only [c_ge_named]
  have hz0 := hz []
  rw [List.append_nil] at hz0
  have hb := h.box
  have ha := h.arr
  have h3 : rowsZ H 3 (.own t g 0 T.length false) = some (T.map eT) := rows_whole ha (by simp)
  have hl3 := rows_len h3
  rw [List.length_map] at hl3
  have hlz : ∀ X, lenZ (H ++ X) z = some l.length := fun X => by have := rows_len (hz X); rwa [List.length_map] at this
  have hlz0 := hlz []
  rw [List.append_nil] at hlz0
  have F : ∀ e X, namedE T l = e → Fin H (Z64 e) (H ++ X) K := fun e X he => Fin.trunc (Mods.ext H X) rfl (by rw [List.take_left, ← he]; exact hK)
  have FF := Lib.hid F
  have HM := Lib.hid h
  have HR := Lib.hid hr
  have HZ := Lib.hid hz
  have HL := Lib.hid hl
  clear F h hr hz hl hK h3 ha
  repeat' (first | (simp only [zmPack, zxPack, ne_eq, zfree, owners, Nat.reduceLT, List.contains_cons, List.contains_nil, Nat.reduceBEq, BEq.rfl, chunk, setAt, List.lookup_cons, List.lookup_nil, reduceCtorEq, Nat.reduceEqDiff, reduceIte, implies_true, forall_const, Nat.reduceMul, Nat.reduceSub, Nat.reduceAdd, Nat.reduceLeDiff, hb, hlz0, *]) | (simp only [zgoO, zgoG, zO_nil, zthen_normal, zgoC]) | (with_reducible apply And.intro) | (with_reducible intro _))
  refine zW_forK [(1, z), (0, .ptr p 0), (11, z)] l.length (fun k s' h' => h' = H ∧ ∀ n ∈ l.take k, 0 ≤ n ∧ n < (T.length : Int)) (by have := HL.out; omega) ⟨rfl, rfl, rfl, rfl, rfl, rfl⟩ rfl rfl (by repeat' (first | exact trivial | (refine ⟨rfl, ?_⟩) | (refine ⟨by simp only [zupd_at, Nat.reduceEqDiff, reduceIte]; assumption, ?_⟩))) rfl rfl (by decide) ⟨rfl, by simp⟩ ?_ ?_
  · rintro k s' h' hk ⟨rfl, hok⟩ hi hll ⟨f1, f0, f11, -⟩
    obtain ⟨pp, hp, hld⟩ := rows_at hz0 hk
    have hnx : ∀ P : Int → Prop, (∀ n ∈ l.take k, P n) → P l[k] → ∀ n ∈ l.take (k + 1), P n := fun P h1 h2 n hn => by
      rw [List.take_succ_eq_append_getElem hk] at hn
      rcases List.mem_append.1 hn with hn | hn
      · exact h1 n hn
      · rw [List.mem_singleton.1 hn]; exact h2
    have hbad : ¬ (0 ≤ l[k] ∧ l[k] < (T.length : Int)) → namedE T l = 5 := fun hc => by
      unfold namedE; rw [if_neg fun h => hc (h _ (List.getElem_mem hk))]
    obtain ⟨q, hq⟩ : ∃ q, q = l[k] := ⟨_, rfl⟩
    rw [← hq] at hld hnx hbad
    have NX := Lib.hid (hnx (fun n => 0 ≤ n ∧ n < (T.length : Int)) hok)
    have BAD := Lib.hid hbad
    clear hq hnx hbad hok
    by_cases hn : q < 0
    · have fin := FF.out 5 [] (BAD.out (by omega))
      rw [List.append_nil] at fin
      repeat' (first | (simp only [zmPack, zxPack, ne_eq, zfree, owners, Nat.reduceLT, List.contains_cons, List.contains_nil, Nat.reduceBEq, BEq.rfl, chunk, setAt, List.lookup_cons, List.lookup_nil, reduceCtorEq, Nat.reduceEqDiff, reduceIte, implies_true, forall_const, Nat.reduceMul, Nat.reduceSub, Nat.reduceAdd, Nat.reduceLeDiff, hp, hld, hb, hl3, *]) | (simp only [zgoO, zgoG, zO_nil, zthen_normal, zgoC]) | (with_reducible apply And.intro) | (with_reducible intro _))
    · by_cases hn2 : (T.length : Int) ≤ q
      · have fin := FF.out 5 [] (BAD.out (by omega))
        rw [List.append_nil] at fin
        repeat' (first | (simp only [zmPack, zxPack, ne_eq, zfree, owners, Nat.reduceLT, List.contains_cons, List.contains_nil, Nat.reduceBEq, BEq.rfl, chunk, setAt, List.lookup_cons, List.lookup_nil, reduceCtorEq, Nat.reduceEqDiff, reduceIte, implies_true, forall_const, Nat.reduceMul, Nat.reduceSub, Nat.reduceAdd, Nat.reduceLeDiff, hp, hld, hb, hl3, *]) | (simp only [zgoO, zgoG, zO_nil, zthen_normal, zgoC]) | (with_reducible apply And.intro) | (with_reducible intro _))
      · have fin := NX.out (by omega)
        repeat' (first | (simp only [zmPack, zxPack, ne_eq, zfree, owners, Nat.reduceLT, List.contains_cons, List.contains_nil, Nat.reduceBEq, BEq.rfl, chunk, setAt, List.lookup_cons, List.lookup_nil, reduceCtorEq, Nat.reduceEqDiff, reduceIte, implies_true, forall_const, Nat.reduceMul, Nat.reduceSub, Nat.reduceAdd, Nat.reduceLeDiff, hp, hld, hb, hl3, *]) | (simp only [zgoO, zgoG, zO_nil, zthen_normal, zgoC]) | (with_reducible apply And.intro) | (with_reducible intro _))
  · rintro s' h' ⟨rfl, hok⟩ ⟨f1, f0, f11, -⟩
    rw [List.take_of_length_le (Nat.le_refl _)] at hok
    have HOK := Lib.hid hok
    clear hok hlz0 hz0
    repeat' (first | (simp only [zmPack, zxPack, ne_eq, zfree, owners, Nat.reduceLT, List.contains_cons, List.contains_nil, Nat.reduceBEq, BEq.rfl, chunk, setAt, List.lookup_cons, List.lookup_nil, reduceCtorEq, Nat.reduceEqDiff, reduceIte, implies_true, forall_const, Nat.reduceMul, Nat.reduceSub, Nat.reduceAdd, Nat.reduceLeDiff, *]) | (simp only [zgoO, zgoG, zO_nil, zthen_normal, zgoC]) | (with_reducible apply And.intro) | (with_reducible intro _))
    refine graph_z HM.out ?_
    have l0 : L h'.length = true := hL 0
    repeat' (first | (simp only [zmPack, zxPack, ne_eq, zfree, owners, Nat.reduceLT, List.contains_cons, List.contains_nil, Nat.reduceBEq, BEq.rfl, chunk, setAt, List.lookup_cons, List.lookup_nil, reduceCtorEq, Nat.reduceEqDiff, reduceIte, implies_true, forall_const, Nat.reduceMul, Nat.reduceSub, Nat.reduceAdd, Nat.reduceLeDiff, l0, *]) | (simp only [zgoO, zgoG, zO_nil, zthen_normal, zgoC]) | (with_reducible apply And.intro) | (with_reducible intro _))
    refine ZC.up (wfrom_z (z2 := .fz 1 false ((rising (heldB T)).map eI)) rows_fz rfl rows_fz (by rw [hasOf_len]; exact HR.out.len) HR.out.own (rootsLen HR.out) HR.out.ok HR.out.root ?_)
    repeat' (first | (simp only [zmPack, zxPack, ne_eq, zfree, owners, Nat.reduceLT, List.contains_cons, List.contains_nil, Nat.reduceBEq, BEq.rfl, chunk, setAt, List.lookup_cons, List.lookup_nil, reduceCtorEq, Nat.reduceEqDiff, reduceIte, implies_true, forall_const, Nat.reduceMul, Nat.reduceSub, Nat.reduceAdd, Nat.reduceLeDiff, hlz, l0, *]) | (simp only [zgoO, zgoG, zO_nil, zthen_normal, zgoC]) | (with_reducible apply And.intro) | (with_reducible intro _))
    have hbl : (needT T).length = T.length := by unfold needT; rw [liveSb_length, hasOf_len]
    have e : liveSb (hasOf T) [] (rising (heldB T)) = needT T := rfl
    rw [e]
    obtain ⟨nb, hnb⟩ : ∃ nb, nb = needT T := ⟨_, rfl⟩
    rw [← hnb] at hbl ⊢
    have HNB := Lib.hid hnb
    have HBL := Lib.hid hbl
    clear e hnb hbl
    refine zW_forK [(8, .fz 1 false (nb.map eB)), (35, z)] l.length (fun k s' h2 => (∃ X, h2 = h' ++ X) ∧ ∀ n ∈ l.take k, Sn nb n.toNat) (by have := HL.out; omega) ⟨rfl, rfl, rfl, rfl, rfl, rfl⟩ rfl rfl (by repeat' (first | exact trivial | (refine ⟨rfl, ?_⟩) | (refine ⟨by simp only [zupd_at, Nat.reduceEqDiff, reduceIte]; assumption, ?_⟩))) rfl rfl (by decide) ⟨⟨_, rfl⟩, by simp⟩ ?_ ?_
    · rintro k s' h2 hk ⟨⟨X, rfl⟩, hsn⟩ hi hll ⟨f8, f35, -⟩
      obtain ⟨pp, hp, hld⟩ := rows_at (HZ.out X) hk
      have hnx : ∀ P : Int → Prop, (∀ n ∈ l.take k, P n) → P l[k] → ∀ n ∈ l.take (k + 1), P n := fun P h1 h2 n hn => by
        rw [List.take_succ_eq_append_getElem hk] at hn
        rcases List.mem_append.1 hn with hn | hn
        · exact h1 n hn
        · rw [List.mem_singleton.1 hn]; exact h2
      have hrg := HOK.out _ (List.getElem_mem hk)
      have hbad : ¬ Sn nb l[k].toNat → namedE T l = 8 := fun hc => by
        unfold namedE; rw [if_pos HOK.out, if_neg fun h => hc (by rw [HNB.out]; exact h _ (List.getElem_mem hk))]
      obtain ⟨m, hm⟩ := Int.eq_ofNat_of_zero_le hrg.1
      rw [hm] at hld hnx hbad hrg
      have hml : m < nb.length := by rw [HBL.out]; omega
      have hx : nb[m]? = some nb[m] := List.getElem?_eq_getElem hml
      have hs : Sn nb m ↔ nb[m] = true := by unfold Sn; simp [List.getD, hml]
      obtain ⟨c, hc⟩ : ∃ c, c = nb[m] := ⟨_, rfl⟩
      rw [← hc] at hx hs
      have NX := Lib.hid (hnx (fun n => Sn nb n.toNat) hsn)
      have BAD := Lib.hid hbad
      have HS := Lib.hid hs
      clear hm hrg hbad hnx hsn hc hs
      cases c with
      | true =>
        have fin := NX.out (HS.out.2 rfl)
        have FN := Lib.hid fin
        clear fin
        repeat' (first | (simp only [zmPack, zxPack, ne_eq, zfree, owners, Nat.reduceLT, List.contains_cons, List.contains_nil, Nat.reduceBEq, BEq.rfl, chunk, setAt, List.lookup_cons, List.lookup_nil, reduceCtorEq, Nat.reduceEqDiff, reduceIte, implies_true, forall_const, Nat.reduceMul, Nat.reduceSub, Nat.reduceAdd, Nat.reduceLeDiff, hp, hld, hx, hml, *]) | (simp only [zgoO, zgoG, zO_nil, zthen_normal, zgoC]) | (with_reducible apply And.intro) | (with_reducible intro _))
        all_goals first | exact FN.out | exact FN.out _ (by assumption) | exact ⟨_, rfl⟩
      | false =>
        have fin := FF.out 8 X (BAD.out fun h => by have := HS.out.1 h; cases this)
        repeat' (first | (simp only [zmPack, zxPack, ne_eq, zfree, owners, Nat.reduceLT, List.contains_cons, List.contains_nil, Nat.reduceBEq, BEq.rfl, chunk, setAt, List.lookup_cons, List.lookup_nil, reduceCtorEq, Nat.reduceEqDiff, reduceIte, implies_true, forall_const, Nat.reduceMul, Nat.reduceSub, Nat.reduceAdd, Nat.reduceLeDiff, hp, hld, hx, hml, *]) | (simp only [zgoO, zgoG, zO_nil, zthen_normal, zgoC]) | (with_reducible apply And.intro) | (with_reducible intro _))
    · rintro s' h2 ⟨⟨X, rfl⟩, hsn⟩ ⟨f8, f35, -⟩
      rw [List.take_of_length_le (Nat.le_refl _)] at hsn
      have fin := FF.out 0 X (by unfold namedE; rw [if_pos HOK.out, if_pos (by rw [← HNB.out]; exact hsn)])
      clear hsn hlz
      repeat' (first | (simp only [zmPack, zxPack, ne_eq, zfree, owners, Nat.reduceLT, List.contains_cons, List.contains_nil, Nat.reduceBEq, BEq.rfl, chunk, setAt, List.lookup_cons, List.lookup_nil, reduceCtorEq, Nat.reduceEqDiff, reduceIte, implies_true, forall_const, Nat.reduceMul, Nat.reduceSub, Nat.reduceAdd, Nat.reduceLeDiff, *]) | (simp only [zgoO, zgoG, zO_nil, zthen_normal, zgoC]) | (with_reducible apply And.intro) | (with_reducible intro _))
end
end Go.Proofs.Ytblgljahhhdlhaa

namespace Go.Proofs.Ytblgljahhhdlhaa
open Go Go.RowKit
set_option linter.unusedVariables false
set_option linter.unusedSimpArgs false
variable {U : Nat → Prop}
variable {tb : List (FuncId × Bool)} {nd : Bool} {L : Nat → Bool} {H : ZH} {K : ZV → ZH → Prop} {p t g m : Nat} {nu : Int} {T : List TB} {R : List Int}
abbrev keyT (x : TB) : Option Nat × List Int := (x.1, x.2.1)
abbrev thH (H : ZH) (t g : Nat) (T : List TB) : ZH := H.set t (.grow g 3 (T.map eT))
theorem GeAt.pt (h : GeAt U H p t g m nu T R) : p ≠ t := fun e => by
  have h1 := h.box; have h2 := h.arr
  rw [e, h2] at h1; cases h1
theorem GeAt.mt (h : GeAt U H p t g m nu T R) : m ≠ t := fun e => by
  have h1 := h.rem; have h2 := h.arr
  rw [e, h2] at h1; cases h1
theorem GeAt.jt (h : GeAt U H p t g m nu T R) {x : TB} {j : Nat} (hx : x ∈ T) (hj : x.1 = some j) : j ≠ t ∧ j ≠ p ∧ j ≠ m := by
  have h1 := h.pl x hx
  rw [hj] at h1
  refine ⟨fun e => ?_, fun e => ?_, fun e => ?_⟩
  · have h2 := h.arr; rw [← e, h1.2] at h2; cases h2
  · have h2 := h.box; rw [← e, h1.2] at h2; cases h2
  · have h2 := h.rem; rw [← e, h1.2] at h2; cases h2
theorem set_same {l : ZH} {i : Nat} {B : ZB} (h : l[i]? = some B) : l.set i B = l := by
  apply List.ext_getElem? 
  intro j
  rw [List.getElem?_set]
  split
  · rename_i e; subst e; rw [if_pos (lt_of_get h), h]
  · rfl
theorem GeAt.same (h : GeAt U H p t g m nu T R) : thH H t g T = H := set_same h.arr
theorem GeAt.less (h : GeAt U H p t g m nu T R) {T' : List TB} (hl : T'.length = T.length) (hmem : ∀ x ∈ T', (x.1 = none ∧ x.2.1 = []) ∨ ∃ y ∈ T, y.1 = x.1 ∧ y.2.1 = x.2.1) (hsub : (T'.filterMap Prod.fst).Sublist (T.filterMap Prod.fst)) : GeAt U (thH H t g T') p t g m nu T' R := by
  refine ⟨by rw [List.getElem?_set_ne (Ne.symm h.pt), hl]; exact h.box, by rw [List.getElem?_set_self (lt_of_get h.arr)], by rw [List.getElem?_set_ne (Ne.symm h.mt)]; exact h.rem, h.pm, fun x hx => ?_, hsub.nodup h.nod, by rw [hl]; exact h.len, fun x hx => ?_, ⟨h.un.1, h.un.2.1, h.un.2.2.1, fun x hx j hj => ?_⟩, fun i hi => by unfold thH; rw [List.length_set]; exact h.ub i hi⟩
  · rcases hmem x hx with ⟨e1, e2⟩ | ⟨y, hy, e1, e2⟩
    · rw [e1]; exact e2
    · have h1 := h.pl y hy
      have h2 : ∀ j, y.1 = some j → j ≠ t ∧ j ≠ p ∧ j ≠ m := fun j hj => h.jt hy hj
      rw [e1, e2] at h1
      rw [e1] at h2
      revert h1 h2
      cases x.1 with
      | none => exact fun h1 _ => h1
      | some j => exact fun h1 h2 => ⟨h1.1, by rw [List.getElem?_set_ne (Ne.symm (h2 j rfl).1)]; exact h1.2⟩
  · rcases hmem x hx with ⟨e1, e2⟩ | ⟨y, hy, e1, e2⟩
    · rw [e2]; simp
    · rw [← e2]; exact h.sm y hy
  · rcases hmem x hx with ⟨e1, e2⟩ | ⟨y, hy, e1, e2⟩
    · rw [e1] at hj; cases hj
    · exact h.un.2.2.2 y hy j (e1.trans hj)
theorem key_sub {T' : List TB} (hk : T'.map keyT = T.map keyT) : T'.length = T.length ∧ (∀ x ∈ T', ∃ y ∈ T, y.1 = x.1 ∧ y.2.1 = x.2.1) ∧ T'.filterMap Prod.fst = T.filterMap Prod.fst := by
  refine ⟨by have := congrArg List.length hk; simpa using this, fun x hx => ?_, ?_⟩
  · have : keyT x ∈ T.map keyT := by rw [← hk]; exact List.mem_map_of_mem hx
    obtain ⟨y, hy, e⟩ := List.mem_map.1 this
    injection e with e1 e2
    exact ⟨y, hy, e1, e2⟩
  · have h1 : ∀ l : List TB, l.filterMap Prod.fst = (l.map keyT).filterMap Prod.fst := fun l => by rw [List.filterMap_map]; rfl
    rw [h1, h1 T, hk]
theorem GeAt.upd (h : GeAt U H p t g m nu T R) {T' : List TB} (hk : T'.map keyT = T.map keyT) : GeAt U (thH H t g T') p t g m nu T' R := by
  obtain ⟨h1, h2, h3⟩ := key_sub hk
  exact h.less h1 (fun x hx => .inr (h2 x hx)) (by rw [h3]; exact List.Sublist.refl _)
theorem key_set {n : Nat} {x y : TB} (hx : T[n]? = some x) (hk : keyT y = keyT x) : (T.set n y).map keyT = T.map keyT := by
  rw [List.map_set, hk]
  apply List.ext_getElem?
  intro j
  rw [List.getElem?_set]
  split
  · rename_i e; subst e; rw [if_pos (by simpa using (List.getElem?_eq_some_iff.1 hx).1), List.getElem?_map, hx]; rfl
  · rfl
theorem t_el (h : GeAt U H p t g m nu T R) {n : Nat} (hn : n < T.length) : elemZ H 3 n (.own t g 0 T.length false) = some (.eptr t g n 0) := by
  rw [elem_own]; exact ⟨_, h.arr, by simp, hn, by simp⟩
theorem t_ld (h : GeAt U H p t g m nu T R) {n o : Nat} {x : TB} (hx : T[n]? = some x) : ldZ H none (.eptr t g n o) = (eT x)[o]? := by
  cases hv : (eT x)[o]? with
  | some v => rw [ld_eptr]; exact ⟨_, _, _, h.arr, by rw [List.getElem?_map, hx]; rfl, hv⟩
  | none =>
    cases hl : ldZ H none (.eptr t g n o) with
    | none => rfl
    | some v =>
      rw [ld_eptr] at hl
      obtain ⟨k2, rows, r, h1, h2, h3⟩ := hl
      rw [h.arr] at h1; injection h1 with h1; injection h1 with _ _ h1
      rw [← h1, List.getElem?_map, hx] at h2
      injection h2 with h2
      rw [← h2] at h3
      have h3 : (eT x)[o]? = some v := h3
      rw [hv] at h3; cases h3
theorem t_sta (h : GeAt U H p t g m nu T R) (hL : L t = true) {n : Nat} {x : TB} (hx : T[n]? = some x) (c : Int) : stZ L H [Z64 c] (.eptr t g n 1) = some (thH H t g (T.set n (x.1, x.2.1, c, x.2.2.2))) := by
  rw [st_eptr]
  refine ⟨3, _, eT x, h.arr, by rw [List.getElem?_map, hx]; rfl, hL, by simp [eT], ?_⟩
  unfold thH; rw [List.map_set]; rfl
theorem t_sth (h : GeAt U H p t g m nu T R) (hL : L t = true) {n : Nat} {x : TB} (hx : T[n]? = some x) (b : Bool) : stZ L H [ZBo b] (.eptr t g n 2) = some (thH H t g (T.set n (x.1, x.2.1, x.2.2.1, b))) := by
  rw [st_eptr]
  refine ⟨3, _, eT x, h.arr, by rw [List.getElem?_map, hx]; rfl, hL, by simp [eT], ?_⟩
  unfold thH; rw [List.map_set]; rfl
structure FrG (U : Nat → Prop) (p m : Nat) (H H' : ZH) : Prop where
  bx : ∀ (i : Nat) cs, i ≠ p → i ≠ m → H[i]? = some (.box cs) → H'[i]? = some (.box cs)
  ls : ∀ (i g : Nat) rows, 0 < g ∨ rows = [] → H[i]? = some (.grow g 1 rows) → H'[i]? = some (.grow g 1 rows)
  uu : ∀ (i : Nat) B, U i → H[i]? = some B → H'[i]? = some B
theorem FrG.refl : FrG U p m H H := ⟨fun _ _ _ _ h => h, fun _ _ _ _ h => h, fun _ _ _ h => h⟩
theorem FrG.trans {A B C : ZH} (h1 : FrG U p m A B) (h2 : FrG U p m B C) : FrG U p m A C := ⟨fun i cs hi hj h => h2.bx i cs hi hj (h1.bx i cs hi hj h), fun i g rows hg h => h2.ls i g rows hg (h1.ls i g rows hg h), fun i D hu h => h2.uu i D hu (h1.uu i D hu h)⟩
theorem FrG.ext {A X : ZH} : FrG U p m A (A ++ X) := ⟨fun i cs _ _ h => by rw [List.getElem?_append_left (lt_of_get h)]; exact h, fun i g rows _ h => by rw [List.getElem?_append_left (lt_of_get h)]; exact h, fun i D _ h => by rw [List.getElem?_append_left (lt_of_get h)]; exact h⟩
theorem FrG.grow {A : ZH} {i g k : Nat} {rows : List (List ZV)} {B : ZB} (h : A[i]? = some (.grow g k rows)) (hk : k ≠ 1 ∨ (g = 0 ∧ rows ≠ [])) (hu : ¬ U i) : FrG U p m A (A.set i B) := ⟨fun j cs _ _ hj => by
  rw [List.getElem?_set_ne (fun e => by subst e; rw [h] at hj; cases hj)]; exact hj, fun j g2 rows2 hg hj => by
  rw [List.getElem?_set_ne (fun e => by
    subst e; rw [h] at hj; injection hj with hj; injection hj with q1 q2 q3
    subst q1 q2 q3
    rcases hk with hk | hk
    · exact hk rfl
    · rcases hg with hg | hg
      · omega
      · exact hk.2 hg)]; exact hj, fun j D hj h => by
  rw [List.getElem?_set_ne (fun e => hu (by rw [e]; exact hj))]; exact h⟩
theorem FrG.own {A : ZH} {B : ZB} {cs0 : List ZV} (hp : A[p]? = some (.box cs0)) (hu : ¬ U p) : FrG U p m A (A.set p B) := ⟨fun j cs hj _ h => by rw [List.getElem?_set_ne (Ne.symm hj)]; exact h, fun j g rows _ h => by
  rw [List.getElem?_set_ne (fun e => by subst e; rw [hp] at h; cases h)]; exact h, fun j D hj h => by
  rw [List.getElem?_set_ne (fun e => hu (by rw [e]; exact hj))]; exact h⟩
theorem FrG.map {A : ZH} {B : ZB} {cs0 : List ZV} (hm : A[m]? = some (.box cs0)) (hu : ¬ U m) : FrG U p m A (A.set m B) := ⟨fun j cs _ hj h => by rw [List.getElem?_set_ne (Ne.symm hj)]; exact h, fun j g rows _ h => by
  rw [List.getElem?_set_ne (fun e => by subst e; rw [hm] at h; cases h)]; exact h, fun j D hj h => by
  rw [List.getElem?_set_ne (fun e => hu (by rw [e]; exact hj))]; exact h⟩
theorem GeAt.frT (h : GeAt U H p t g m nu T R) {T' : List TB} {g' : Nat} : FrG U p m H (thH H t g' T') := FrG.grow h.arr (.inl (by decide)) h.un.2.2.1
theorem nod_inj : ∀ {l : List TB} {i a j : Nat} {x y : TB}, (l.filterMap Prod.fst).Nodup → l[i]? = some x → l[a]? = some y → x.1 = some j → y.1 = some j → i = a
  | [], i, a, j, x, y, _, h, _, _, _ => by simp at h
  | z :: l, 0, 0, j, x, y, _, _, _, _, _ => rfl
  | z :: l, 0, a + 1, j, x, y, hn, hx, hy, e1, e2 => by
    have hx : z = x := by simpa using hx
    subst hx
    rw [show (z :: l).filterMap Prod.fst = j :: l.filterMap Prod.fst by simp [List.filterMap_cons, e1]] at hn
    exact absurd (List.mem_filterMap.2 ⟨y, List.mem_of_getElem? (by simpa using hy), e2⟩) (List.nodup_cons.1 hn).1
  | z :: l, i + 1, 0, j, x, y, hn, hx, hy, e1, e2 => by
    have hy : z = y := by simpa using hy
    subst hy
    rw [show (z :: l).filterMap Prod.fst = j :: l.filterMap Prod.fst by simp [List.filterMap_cons, e2]] at hn
    exact absurd (List.mem_filterMap.2 ⟨x, List.mem_of_getElem? (by simpa using hx), e1⟩) (List.nodup_cons.1 hn).1
  | z :: l, i + 1, a + 1, j, x, y, hn, hx, hy, e1, e2 => by
    have hn2 : (l.filterMap Prod.fst).Nodup := by
      cases hz : z.1 with
      | none => rw [show (z :: l).filterMap Prod.fst = l.filterMap Prod.fst by simp [List.filterMap_cons, hz]] at hn; exact hn
      | some b => rw [show (z :: l).filterMap Prod.fst = b :: l.filterMap Prod.fst by simp [List.filterMap_cons, hz]] at hn; exact (List.nodup_cons.1 hn).2
    have := nod_inj (i := i) (a := a) (x := x) (y := y) hn2 (by simpa using hx) (by simpa using hy) e1 e2
    omega
theorem GeAt.place (h : GeAt U H p t g m nu T R) {a j : Nat} {x : TB} (hx : T[a]? = some x) (hj : x.1 = some j) {pl' : List Int} (hl : pl'.length = x.2.1.length) : GeAt U (H.set j (.grow 0 1 (pl'.map eI))) p t g m nu (T.set a (x.1, pl', x.2.2)) R := by
  have hmm := List.mem_of_getElem? hx
  obtain ⟨ht, hp, hjm⟩ := h.jt hmm hj
  have hjx := h.pl x hmm
  rw [hj] at hjx
  have he : (T.set a (x.1, pl', x.2.2)).map eT = T.map eT := by
    have e : eT (x.1, pl', x.2.2) = eT x := by
      obtain ⟨o, pl, y⟩ := x
      simp only at hj hl ⊢; subst hj
      simp only [eT, plZ, hl]
    rw [List.map_set, e]
    apply List.ext_getElem?
    intro i
    rw [List.getElem?_set]
    split
    · rename_i e; subst e; rw [if_pos (by simpa using (List.getElem?_eq_some_iff.1 hx).1), List.getElem?_map, hx]; rfl
    · rfl
  refine ⟨by rw [List.getElem?_set_ne hp, List.length_set]; exact h.box, by rw [List.getElem?_set_ne ht, he]; exact h.arr, by rw [List.getElem?_set_ne hjm]; exact h.rem, h.pm, fun y hy => ?_, ?_, by rw [List.length_set]; exact h.len, fun y hy => ?_, ⟨h.un.1, h.un.2.1, h.un.2.2.1, fun y hy i hi => ?_⟩, fun i hi => by rw [List.length_set]; exact h.ub i hi⟩
  · obtain ⟨i, hi, rfl⟩ := List.getElem_of_mem hy
    rw [List.length_set] at hi
    by_cases e : a = i
    · subst e
      rw [List.getElem_set_self]
      simp only [hj]
      refine ⟨fun e => ?_, by rw [List.getElem?_set_self (lt_of_get hjx.2)]⟩
      rw [e] at hl
      exact hjx.1 (List.eq_nil_of_length_eq_zero hl.symm)
    · rw [List.getElem_set_ne e]
      have h1 := h.pl T[i] (List.getElem_mem hi)
      have h2 : ∀ j', T[i].1 = some j' → j' ≠ j := fun j' hj' e2 => by
        subst e2
        exact e (nod_inj h.nod (List.getElem?_eq_getElem hi) hx hj' hj).symm
      revert h1 h2
      cases T[i].1 with
      | none => exact fun h1 _ => h1
      | some j' => exact fun h1 h2 => ⟨h1.1, by rw [List.getElem?_set_ne (Ne.symm (h2 j' rfl))]; exact h1.2⟩
  · have e : (T.set a (x.1, pl', x.2.2)).filterMap Prod.fst = T.filterMap Prod.fst := by
      have h1 : ∀ l : List TB, l.filterMap Prod.fst = (l.map Prod.fst).filterMap id := fun l => by rw [List.filterMap_map]; rfl
      rw [h1, h1 T, List.map_set]
      congr 1
      apply List.ext_getElem?
      intro i
      rw [List.getElem?_set]
      split
      · rename_i e; subst e; rw [if_pos (by simpa using (List.getElem?_eq_some_iff.1 hx).1), List.getElem?_map, hx]; rfl
      · rfl
    rw [e]; exact h.nod
  · rcases List.mem_or_eq_of_mem_set hy with hy | rfl
    · exact h.sm y hy
    · simp only; rw [hl]; exact h.sm x hmm
  · rcases List.mem_or_eq_of_mem_set hy with hy | rfl
    · exact h.un.2.2.2 y hy i hi
    · exact h.un.2.2.2 x hmm i hi
def setL (a b : Int) : List Int := if b = -1 then [a] else [a, b]
theorem p_el {j m : Nat} {pl : List Int} (hj : H[j]? = some (.grow 0 1 (pl.map eI))) (hm : m < pl.length) : elemZ H 1 m (.own j 0 0 pl.length false) = some (.eptr j 0 m 0) := by
  rw [elem_own]; exact ⟨_, hj, by simp, hm, by simp⟩
theorem p_ld {j m : Nat} {pl : List Int} {y : Int} (hj : H[j]? = some (.grow 0 1 (pl.map eI))) (hm : pl[m]? = some y) : ldZ H none (.eptr j 0 m 0) = some (Z64 y) := by
  rw [ld_eptr]; exact ⟨_, _, eI y, hj, by rw [List.getElem?_map, hm]; rfl, rfl⟩
theorem p_st {j m : Nat} {pl : List Int} {b : Int} (hj : H[j]? = some (.grow 0 1 (pl.map eI))) (hm : m < pl.length) (hL : L j = true) : stZ L H [Z64 b] (.eptr j 0 m 0) = some (H.set j (.grow 0 1 ((pl.set m b).map eI))) := by
  rw [st_eptr]
  refine ⟨1, _, eI pl[m], hj, by rw [List.getElem?_map, List.getElem?_eq_getElem hm]; rfl, hL, by simp, ?_⟩
  rw [List.map_set]; rfl
theorem namedE_zero {l : List Int} (h : namedE T l = 0) : (∀ n ∈ l, 0 ≤ n ∧ n < (T.length : Int)) ∧ ∀ n ∈ l, Sn (needT T) n.toNat := by
  unfold namedE at h
  split at h
  · rename_i h1
    split at h
    · rename_i h2; exact ⟨h1, h2⟩
    · cases h
  · cases h
theorem getB {n : Nat} {x : TB} (hx : T[n]? = some x) : ((T[n]?).map (·.2.2.2)).getD false = x.2.2.2 := by rw [hx]; rfl
def heldT (T : List TB) (n : Nat) (b : Bool) : List TB := match T[n]? with
  | some x => T.set n (x.1, x.2.1, x.2.2.1, b)
  | none => T
theorem heldT_key {n : Nat} {b : Bool} : (heldT T n b).map keyT = T.map keyT := by
  unfold heldT
  split
  · rename_i x hx; exact key_set hx rfl
  · rfl
noncomputable def holdT (T : List TB) (n : Int) (b : Bool) : Int × List TB :=
  if namedE T [n] ≠ 0 then (namedE T [n], T) else
  if b = false ∧ ((T[n.toNat]?).map (·.2.2.2)).getD false = false then (8, T) else (0, heldT T n.toNat b)
set_option maxHeartbeats 2000000 in
theorem hold_z {n : Int} {b : Bool} (h : GeAt U H p t g m nu T R) (hr : Rng T) (hL : L t = true) (hK : K (Z64 (holdT T n b).1) (thH H t g (holdT T n b).2)) :
    ZC (XG tb nd) (cFunc Try.prog) 20 [.ptr p 0, Z64 n, ZBo b] L H K := by
  refine ZC.enter Gh.no constX_none f_ge_hold (by simp) ?_
  simp only [c_ge_hold]
  have hb := h.box
  have HM := Lib.hid h
  have HR := Lib.hid hr
  have HL := Lib.hid hL
  have HK := Lib.hid hK
  clear hK hr h hL
  repeat' (first | (simp only [zmPack, zxPack, ne_eq, zfree, owners, Nat.reduceLT, List.contains_cons, List.contains_nil, Nat.reduceBEq, BEq.rfl, chunk, setAt, List.lookup_cons, List.lookup_nil, reduceCtorEq, Nat.reduceEqDiff, reduceIte, implies_true, forall_const, Nat.reduceMul, Nat.reduceSub, Nat.reduceAdd, Nat.reduceLeDiff, *]) | (simp only [zgoO, zgoG, zO_nil, zthen_normal, zgoC]) | (with_reducible apply And.intro) | (with_reducible intro _))
  refine named_z (l := [n]) HM.out HR.out (fun _ => by simp [rowsZ]) (by simp) ?_
  by_cases he : namedE T [n] = 0
  · obtain ⟨h1, h2⟩ := namedE_zero he
    obtain ⟨q, rfl⟩ := Int.eq_ofNat_of_zero_le (h1 n (by simp)).1
    have hm : q < T.length := by have := (h1 (q : Int) (by simp)).2; omega
    have hx : T[q]? = some T[q] := List.getElem?_eq_getElem hm
    have hel := t_el HM.out hm
    obtain ⟨x, hxe⟩ : ∃ x, x = T[q] := ⟨_, rfl⟩
    rw [← hxe] at hx
    have hld : ldZ H none (.eptr t g q 2) = some (ZBo x.2.2.2) := (t_ld HM.out (o := 2) hx).trans rfl
    have hst := t_sth HM.out HL.out hx b
    have hg := getB hx
    have hht : heldT T q b = T.set q (x.1, x.2.1, x.2.2.1, b) := by unfold heldT; rw [hx]
    rw [← hht] at hst
    have h0 : ¬ (b = false ∧ x.2.2.2 = false) → Fin H (Z64 0) (thH H t g (heldT T q b)) K := fun hc => by
      have := HK.out
      unfold holdT at this
      rw [if_neg (by simp [he]), Int.toNat_natCast, hg, if_neg hc] at this
      exact Fin.keep this
    have h8 : b = false → x.2.2.2 = false → Fin H (Z64 8) H K := fun e1 e2 => by
      have := HK.out
      unfold holdT at this
      rw [if_neg (by simp [he]), Int.toNat_natCast, hg, if_pos ⟨e1, e2⟩] at this
      simp only [HM.out.same] at this
      exact Fin.keep this
    obtain ⟨c, hc⟩ : ∃ c, c = x.2.2.2 := ⟨_, rfl⟩
    rw [← hc] at hld h0 h8
    have HF := Lib.hid h0
    have H8 := Lib.hid h8
    rw [he]
    clear h0 h8 h1 h2 hx hg hxe hc he hht hm
    cases b with
    | false =>
      cases c with
      | false =>
        have fin := H8.out rfl rfl
        repeat' (first | (simp only [zmPack, zxPack, ne_eq, zfree, owners, Nat.reduceLT, List.contains_cons, List.contains_nil, Nat.reduceBEq, BEq.rfl, chunk, setAt, List.lookup_cons, List.lookup_nil, reduceCtorEq, Nat.reduceEqDiff, reduceIte, implies_true, forall_const, Nat.reduceMul, Nat.reduceSub, Nat.reduceAdd, Nat.reduceLeDiff, hb, hel, hld, *]) | (simp only [zgoO, zgoG, zO_nil, zthen_normal, zgoC]) | (with_reducible apply And.intro) | (with_reducible intro _))
      | true =>
        have fin := HF.out (by simp)
        repeat' (first | (simp only [zmPack, zxPack, ne_eq, zfree, owners, Nat.reduceLT, List.contains_cons, List.contains_nil, Nat.reduceBEq, BEq.rfl, chunk, setAt, List.lookup_cons, List.lookup_nil, reduceCtorEq, Nat.reduceEqDiff, reduceIte, implies_true, forall_const, Nat.reduceMul, Nat.reduceSub, Nat.reduceAdd, Nat.reduceLeDiff, hb, hel, hld, hst, *]) | (simp only [zgoO, zgoG, zO_nil, zthen_normal, zgoC]) | (with_reducible apply And.intro) | (with_reducible intro _))
    | true =>
      have fin := HF.out (by simp)
      repeat' (first | (simp only [zmPack, zxPack, ne_eq, zfree, owners, Nat.reduceLT, List.contains_cons, List.contains_nil, Nat.reduceBEq, BEq.rfl, chunk, setAt, List.lookup_cons, List.lookup_nil, reduceCtorEq, Nat.reduceEqDiff, reduceIte, implies_true, forall_const, Nat.reduceMul, Nat.reduceSub, Nat.reduceAdd, Nat.reduceLeDiff, hb, hel, hld, hst, *]) | (simp only [zgoO, zgoG, zO_nil, zthen_normal, zgoC]) | (with_reducible apply And.intro) | (with_reducible intro _))
  · have fin : Fin H (Z64 (namedE T [n])) H K := by
      have := HK.out
      unfold holdT at this
      rw [if_pos he] at this
      simp only [HM.out.same] at this
      exact Fin.keep this
    obtain ⟨e, hee⟩ : ∃ e, e = namedE T [n] := ⟨_, rfl⟩
    rw [← hee] at fin he ⊢
    clear hee
    repeat' (first | (simp only [zmPack, zxPack, ne_eq, zfree, owners, Nat.reduceLT, List.contains_cons, List.contains_nil, Nat.reduceBEq, BEq.rfl, chunk, setAt, List.lookup_cons, List.lookup_nil, reduceCtorEq, Nat.reduceEqDiff, reduceIte, implies_true, forall_const, Nat.reduceMul, Nat.reduceSub, Nat.reduceAdd, Nat.reduceLeDiff, he, *]) | (simp only [zgoO, zgoG, zO_nil, zthen_normal, zgoC]) | (with_reducible apply And.intro) | (with_reducible intro _))
end Go.Proofs.Ytblgljahhhdlhaa

namespace Go.Proofs.Ytblgljahhhdlhaa
open Go Go.RowKit
set_option linter.unusedVariables false
set_option linter.unusedSimpArgs false
variable {U : Nat → Prop}
variable {tb : List (FuncId × Bool)} {nd : Bool} {L : Nat → Bool} {H : ZH} {K : ZV → ZH → Prop} {p t g m : Nat} {nu : Int} {T : List TB} {R : List Int}
def c_sT1 : ACode := .seq (.opsD [⟨(some 24), .mv (.tmp 0), none, true⟩,
 ⟨(some 25), .nilCheck (.tmp 24), none, true⟩,
 ⟨(some 26), .fieldAddr 1 (.tmp 25), none, true⟩,
 ⟨(some 27), .load none (.tmp 26), none, true⟩,
 ⟨(some 28), .fieldAddr 1 (.tmp 3), none, true⟩,
 ⟨(some 29), .load none (.tmp 28), none, true⟩,
 ⟨(some 30), .indexAddr 3 (.tmp 27) (.tmp 29), none, true⟩,
 ⟨(some 31), .load (some 3) (.tmp 30), none, true⟩,
 ⟨(some 7), .zero [(.val (.slice none 0 0)), (.val (.int .i64 0)), (.val (.bool false))], none, true⟩,
 ⟨none, .store 3 (.tmp 7) (.tmp 31), none, true⟩])
 (.seq (.seq (.ops [⟨(some 32), .fieldAddr 3 (.tmp 3), none, true⟩,
 ⟨(some 33), .load none (.tmp 32), none, true⟩,
 ⟨(some 34), .bin .lss (.tmp 33) (.av (.val (.int .i64 0))), none, true⟩,
 ⟨(some 35), .mv (.tmp 34), none, true⟩,
 ⟨(some 36), .fieldAddr 3 (.tmp 3), (some (35, false)), true⟩,
 ⟨(some 37), .load none (.tmp 36), (some (35, false)), true⟩,
 ⟨(some 38), .fieldAddr 0 (.tmp 7), (some (35, false)), true⟩,
 ⟨(some 39), .load none (.tmp 38), (some (35, false)), true⟩,
 ⟨(some 40), .len (.tmp 39), (some (35, false)), true⟩,
 ⟨(some 41), .bin .geq (.tmp 37) (.tmp 40), (some (35, false)), true⟩,
 ⟨(some 42), .pick (.tmp 35) (.av (.val (.bool true))) (.tmp 41), none, true⟩])
 (.cond (.tmp 42)
 (.seq (.ops [⟨(some 4), .mv (.av (.val (.int .i64 1))), none, true⟩])
 (.ret))
 (.skip)))
 (.seq (.ops [⟨(some 43), .fieldAddr 0 (.tmp 7), none, true⟩,
 ⟨(some 44), .load none (.tmp 43), none, true⟩,
 ⟨(some 45), .fieldAddr 3 (.tmp 3), none, true⟩,
 ⟨(some 46), .load none (.tmp 45), none, true⟩,
 ⟨(some 47), .fieldAddr 2 (.tmp 3), none, true⟩,
 ⟨(some 48), .load none (.tmp 47), none, true⟩,
 ⟨(some 49), .indexAddr 1 (.tmp 44) (.tmp 46), none, true⟩,
 ⟨none, .store 1 (.tmp 49) (.tmp 48), none, true⟩])
 (.seq (.seq (.ops [⟨(some 50), .fieldAddr 1 (.tmp 7), none, true⟩,
 ⟨(some 51), .load none (.tmp 50), none, true⟩,
 ⟨(some 52), .bin .eql (.tmp 51) (.av (.val (.int .i64 1))), none, true⟩,
 ⟨(some 53), .mv (.tmp 52), none, true⟩,
 ⟨(some 54), .mv (.tmp 0), (some (53, true)), true⟩,
 ⟨(some 55), .fieldAddr 2 (.tmp 3), (some (53, true)), true⟩,
 ⟨(some 56), .load none (.tmp 55), (some (53, true)), true⟩,
 ⟨(some 57), .call (.av (.func 26 [])) [(.tmp 54), (.tmp 56)], (some (53, true)), true⟩,
 ⟨(some 58), .pick (.tmp 53) (.tmp 57) (.av (.val (.bool false))), none, true⟩])
 (.cond (.tmp 58)
 (.opsD [⟨(some 59), .mv (.tmp 0), none, true⟩,
 ⟨(some 60), .nilCheck (.tmp 59), none, true⟩,
 ⟨(some 61), .fieldAddr 2 (.tmp 60), none, true⟩,
 ⟨(some 62), .load none (.tmp 61), none, true⟩,
 ⟨(some 63), .fieldAddr 1 (.tmp 3), none, true⟩,
 ⟨(some 64), .load none (.tmp 63), none, true⟩,
 ⟨(some 65), .build [] [], none, true⟩,
 ⟨none, .mapSet (.tmp 62) (.tmp 64) (.tmp 65), none, true⟩])
 (.skip)))
 (.seq (.ops [⟨(some 4), .mv (.av (.val (.int .i64 0))), none, true⟩])
 (.ret)))))
theorem c_ge_set_cut : c_ge_set = .seq (.ops [⟨(some 3), .box 4 (.tmp 1), none, true⟩,
 ⟨(some 4), .mv (.av (.val (.int .i64 0))), none, true⟩])
 (.seq (.ops [⟨(some 8), .fieldAddr 1 (.tmp 3), none, true⟩,
 ⟨(some 9), .load none (.tmp 8), none, true⟩,
 ⟨(some 10), .fieldAddr 2 (.tmp 3), none, true⟩,
 ⟨(some 11), .load none (.tmp 10), none, true⟩,
 ⟨(some 12), .lits 1 2 [(.val (.int .i64 0)), (.val (.int .i64 0))] [(0, 1, (.tmp 9)), (1, 1, (.tmp 11))], none, true⟩,
 ⟨(some 5), .mv (.tmp 12), none, true⟩])
 (.seq (.seq (.ops [⟨(some 13), .fieldAddr 2 (.tmp 3), none, true⟩,
 ⟨(some 14), .load none (.tmp 13), none, true⟩,
 ⟨(some 15), .bin .eql (.tmp 14) (.av (.val (.int .i64 (-1)))), none, true⟩])
 (.cond (.tmp 15)
 (.ops [⟨(some 16), .mv (.tmp 5), none, true⟩,
 ⟨(some 17), .slice 1 (.tmp 16) none (some (.av (.val (.int .i64 1)))) none, none, true⟩,
 ⟨(some 5), .mv (.tmp 17), none, true⟩])
 (.skip)))
 (.seq (.seq (.ops [⟨(some 18), .mv (.tmp 0), none, true⟩,
 ⟨(some 19), .mv (.tmp 5), none, true⟩,
 ⟨(some 20), .call (.av (.func 29 [])) [(.tmp 18), (.tmp 19)], none, true⟩,
 ⟨(some 6), .mv (.tmp 20), none, true⟩])
 (.seq (.ops [⟨(some 21), .mv (.tmp 6), none, true⟩,
 ⟨(some 22), .bin .neq (.tmp 21) (.av (.val (.int .i64 0))), none, true⟩])
 (.cond (.tmp 22)
 (.seq (.ops [⟨(some 23), .mv (.tmp 6), none, true⟩,
 ⟨(some 4), .mv (.tmp 23), none, true⟩])
 (.ret))
 (.skip))))
 c_sT1))) := rfl
theorem set_same' {α : Type} {l : List α} {i : Nat} {a : α} (h : l[i]? = some a) : l.set i a = l := by
  apply List.ext_getElem?
  intro j
  rw [List.getElem?_set]
  by_cases e : i = j
  · subst e
    have hi : i < l.length := (List.getElem?_eq_some_iff.1 h).1
    rw [if_pos rfl, if_pos hi, h]
  · rw [if_neg e]
theorem ent_eq {a b : List (Int × ZV)} : (a.map ent = b.map ent) ↔ a = b := by
  constructor
  · intro h
    have hi : ∀ x y : Int × ZV, ent x = ent y → x = y := fun x y h => by
      simp only [ent, ZV.tuple.injEq, List.cons.injEq, ZV.val.injEq, Value.int.injEq, true_and, and_true] at h
      exact Prod.ext h.1 h.2
    induction a generalizing b with
    | nil => cases b with
      | nil => rfl
      | cons => simp at h
    | cons x a ih => cases b with
      | nil => simp at h
      | cons y b =>
        simp only [List.map_cons, List.cons.injEq] at h
        rw [hi x y h.1, ih h.2]
  · rintro rfl; rfl
def putR (R : List Int) (n : Int) : List Int := if n ∈ R then R else R ++ [n]
theorem zmput_rE {n : Int} : ∀ {R : List Int}, zmput (rE R) n (.agg []) = rE (putR R n)
  | [] => by simp [rE, zmput, putR]
  | k :: R => by
    have ih := zmput_rE (n := n) (R := R)
    show zmput ((k, .agg []) :: rE R) n (.agg []) = _
    simp only [zmput]
    by_cases h : n = k
    · subst h
      rw [if_pos rfl]; unfold putR; rw [if_pos (by simp)]; rfl
    · rw [if_neg h, ih]
      unfold putR
      by_cases h2 : n ∈ R
      · rw [if_pos h2, if_pos (by simp [h2])]; rfl
      · rw [if_neg h2, if_neg (by simp [h, h2])]; simp [rE]
theorem GeAt.put (h : GeAt U H p t g m nu T R) {R' : List Int} : GeAt U (H.set m (.box ((rE R').map ent))) p t g m nu T R' := by
  refine ⟨by rw [List.getElem?_set_ne (Ne.symm h.pm)]; exact h.box, by rw [List.getElem?_set_ne h.mt]; exact h.arr, by rw [List.getElem?_set_self (lt_of_get h.rem)], h.pm, fun x hx => ?_, h.nod, h.len, h.sm, h.un, fun i hi => by rw [List.length_set]; exact h.ub i hi⟩
  have h1 := h.pl x hx
  have h2 : ∀ j, x.1 = some j → j ≠ t ∧ j ≠ p ∧ j ≠ m := fun j hj => h.jt hx hj
  revert h1 h2
  cases x.1 with
  | none => exact fun h1 _ => h1
  | some j => exact fun h1 h2 => ⟨h1.1, by rw [List.getElem?_set_ne (Ne.symm (h2 j rfl).2.2)]; exact h1.2⟩
def setX (T : List TB) (R : List Int) (q : Nat) (x : TB) (b n : Int) : Int × List TB × List Int :=
  if n < 0 ∨ (x.2.1.length : Int) ≤ n then (1, T, R) else
    (0, T.set q (x.1, x.2.1.set n.toNat b, x.2.2), if x.2.2.1 = 1 ∧ yngB T b = true then putR R (q : Int) else R)
noncomputable def setT (T : List TB) (R : List Int) (a b n : Int) : Int × List TB × List Int :=
  if namedE T (setL a b) ≠ 0 then (namedE T (setL a b), T, R) else
  match T[a.toNat]? with
  | none => (0, T, R)
  | some x => setX T R a.toNat x b n
theorem yng_set {q : Nat} {x : TB} {pl : List Int} {b : Int} (hx : T[q]? = some x) : yngB (T.set q (x.1, pl, x.2.2)) b = yngB T b := by
  unfold yngB ageB
  have : (T.set q (x.1, pl, x.2.2)).map (fun x => decide (x.2.2.1 = 0)) = T.map (fun x => decide (x.2.2.1 = 0)) := by
    rw [List.map_set]
    exact set_same' (by rw [List.getElem?_map, hx]; rfl)
  rw [this]
set_option maxHeartbeats 8000000 in
theorem sT1_z {S : ZS} {KK : AExit → ZS → ZH → Prop} {b0 q : Nat} {x : TB} {dd b n : Int} (h : GeAt U H p t g m nu T R) (hx : T[q]? = some x) (hb0 : H[b0]? = some (.box [Z64 dd, Z64 (q : Nat), Z64 b, Z64 n])) (h0 : S 0 = .ptr p 0) (h3 : S 3 = .ptr b0 0) (hbr : b < (T.length : Int)) (hL : ∀ i, L i = true) (hbm : b0 ≠ m)
    (hr : ∀ S' H' X, S' 4 = Z64 (setX T R q x b n).1 → GeAt U H' p t g m nu (setX T R q x b n).2.1 (setX T R q x b n).2.2 → FrG U p m H H' → KK .ret S' (H' ++ X)) : zW (XG tb nd) (cFunc Try.prog) Gh.no L c_sT1 S H KK := by
  have hm := (List.getElem?_eq_some_iff.1 hx).1
  have hmem := List.mem_of_getElem? hx
  have hb : ∀ X, (H ++ X)[p]? = some (.box [Z64 nu, .own t g 0 T.length false, .mp m]) := fun X => (h.ext X).box
  have hbp := h.box
  have hel := fun Y => t_el (h.ext Y) hm
  have hel0 := t_el h hm
  have hld : ∀ Y, ldZ (H ++ Y) (some 3) (.eptr t g q 0) = some (.agg [plZ x, Z64 x.2.2.1, ZBo x.2.2.2]) := fun Y => by
    rw [ld_eptr]; exact ⟨_, _, eT x, (h.ext Y).arr, by rw [List.getElem?_map, hx]; rfl, rfl⟩
  have hld0 := hld []
  rw [List.append_nil] at hld0
  have hcl : (plZ x).isCell = true := plz_cell
  have hlen : ∀ Y, lenZ (H ++ Y) (plZ x) = some x.2.1.length := fun Y => by have := rows_len ((h.ext Y).rows hmem); rwa [List.length_map] at this
  have hbx : ∀ Y, (H ++ Y)[b0]? = some (.box [Z64 dd, Z64 (q : Nat), Z64 b, Z64 n]) := fun Y => by rw [List.getElem?_append_left (lt_of_get hb0)]; exact hb0
  have l9 := hL H.length
  have HM := Lib.hid h
  have HX := Lib.hid hx
  have HMM := Lib.hid hmem
  have HR := Lib.hid hr
  have a0 : ∀ A Y, (H ++ (A :: Y))[H.length]? = some A := fun A Y => atN0 rfl A Y
  have s0 : ∀ A B Y, (H ++ (A :: Y)).set H.length B = H ++ (B :: Y) := fun A B Y => stN0 rfl A B Y
  clear h hx hmem hr
  simp only [c_sT1]
  by_cases hno : n < 0 ∨ (x.2.1.length : Int) ≤ n
  · have hXX : setX T R q x b n = (1, T, R) := by unfold setX; rw [if_pos hno]
    have fin0 : ∀ S' X, S' 4 = Z64 1 → KK .ret S' (H ++ X) := fun S' X h4 => HR.out S' H X (by rw [hXX]; exact h4) (by rw [hXX]; exact HM.out) FrG.refl
    clear hXX
    have F0 := Lib.hid fin0
    clear fin0
    obtain ⟨pz, hpz⟩ : ∃ pz, pz = plZ x := ⟨_, rfl⟩
    rw [← hpz] at hcl hlen hld hld0
    clear hpz
    by_cases hn0 : n < 0
    · clear hno
      repeat' (first | (simp only [zmPack, zxPack, ne_eq, zfree, owners, Nat.reduceLT, List.contains_cons, List.contains_nil, Nat.reduceBEq, BEq.rfl, chunk, setAt, List.lookup_cons, List.lookup_nil, reduceCtorEq, Nat.reduceEqDiff, reduceIte, implies_true, forall_const, Nat.reduceMul, Nat.reduceSub, Nat.reduceAdd, Nat.reduceLeDiff, h0, h3, hb0, hbp, hel0, hld0, hbx, hcl, l9, a0, s0, hn0, *]) | (simp only [zgoO, zgoG, zO_nil, zthen_normal, zgoC]) | (with_reducible apply And.intro) | (with_reducible intro _))
      exact F0.out _ _ (by simp [zupd])
    · have hn1 : (x.2.1.length : Int) ≤ n := by omega
      clear hno
      repeat' (first | (simp only [zmPack, zxPack, ne_eq, zfree, owners, Nat.reduceLT, List.contains_cons, List.contains_nil, Nat.reduceBEq, BEq.rfl, chunk, setAt, List.lookup_cons, List.lookup_nil, reduceCtorEq, Nat.reduceEqDiff, reduceIte, implies_true, forall_const, Nat.reduceMul, Nat.reduceSub, Nat.reduceAdd, Nat.reduceLeDiff, h0, h3, hb0, hbp, hel0, hld0, hbx, hcl, l9, a0, s0, hlen, hn0, hn1, *]) | (simp only [zgoO, zgoG, zO_nil, zthen_normal, zgoC]) | (with_reducible apply And.intro) | (with_reducible intro _))
      exact F0.out _ _ (by simp [zupd])
  · obtain ⟨r, rfl⟩ := Int.eq_ofNat_of_zero_le (show 0 ≤ n by omega)
    have hq : r < x.2.1.length := by omega
    obtain ⟨j, hj⟩ : ∃ j, x.1 = some j := by
      have := HM.out.pl x HMM.out
      cases hj : x.1 with
      | none => rw [hj] at this; simp only at this; rw [this] at hq; simp at hq
      | some j => exact ⟨j, rfl⟩
    have hpl := HM.out.pl x HMM.out
    rw [hj] at hpl
    have hpz1 : plZ x = .own j 0 0 x.2.1.length false := by obtain ⟨o, y⟩ := x; simp only at hj; subst hj; rfl
    have hM2 := HM.out.place HX.out hj (pl' := x.2.1.set r b) (by simp)
    have fr1 : FrG U p m H (H.set j (.grow 0 1 ((x.2.1.set r b).map eI))) := FrG.grow hpl.2 (.inr ⟨rfl, fun e => by
      have e2 := congrArg List.length e
      rw [List.length_map] at e2
      simp only [List.length_nil] at e2; omega⟩) (HM.out.un.2.2.2 x HMM.out j hj)
    have hjH : ∀ Y, (H ++ Y)[j]? = some (.grow 0 1 (x.2.1.map eI)) := fun Y => by rw [List.getElem?_append_left (lt_of_get hpl.2)]; exact hpl.2
    have pe : ∀ Y, elemZ (H ++ Y) 1 r (plZ x) = some (.eptr j 0 r 0) := fun Y => by rw [hpz1]; exact p_el (hjH Y) hq
    have pst : ∀ Y, stZ L (H ++ Y) [Z64 b] (.eptr j 0 r 0) = some (H.set j (.grow 0 1 ((x.2.1.set r b).map eI)) ++ Y) := fun Y => by
      rw [p_st (hjH Y) hq (hL j), List.set_append_left _ _ (lt_of_get hpl.2)]
    have hjb : j ≠ b0 := fun e => by subst e; rw [hpl.2] at hb0; cases hb0
    obtain ⟨W, hW⟩ : ∃ W, W = H.set j (.grow 0 1 ((x.2.1.set r b).map eI)) := ⟨_, rfl⟩
    rw [← hW] at hM2 fr1 pst
    have hWl : W.length = H.length := by rw [hW]; simp
    have hbW : ∀ Y, (W ++ Y)[b0]? = some (.box [Z64 dd, Z64 (q : Nat), Z64 b, Z64 ((r : Nat) : Int)]) := fun Y => by
      have h1 : W[b0]? = some (.box [Z64 dd, Z64 (q : Nat), Z64 b, Z64 ((r : Nat) : Int)]) := by rw [hW, List.getElem?_set_ne hjb]; exact hb0
      rw [List.getElem?_append_left (lt_of_get h1)]; exact h1
    have aW : ∀ A, (W ++ [A])[H.length]? = some A := fun A => by rw [← hWl]; exact mv_at0 _ _
    have hpW : ∀ Y, (W ++ Y)[p]? = some (.box [Z64 nu, .own t g 0 T.length false, .mp m]) := fun Y => by have := (hM2.ext Y).box; rw [List.length_set] at this; exact this
    have hmW : ∀ Y, (W ++ Y)[m]? = some (.box ((rE R).map ent)) := fun Y => (hM2.ext Y).rem
    have hmS : ∀ Y B, (W ++ Y).set m B = W.set m B ++ Y := fun Y B => List.set_append_left _ _ (lt_of_get hM2.rem)
    have hyn := yng_set (b := b) (pl := x.2.1.set r b) HX.out
    have hXX : setX T R q x b (r : Int) = (0, T.set q (x.1, x.2.1.set r b, x.2.2), if x.2.2.1 = 1 ∧ yngB T b = true then putR R (q : Int) else R) := by
      unfold setX; rw [if_neg hno, Int.toNat_natCast]
    have finN : ¬ (x.2.2.1 = 1 ∧ yngB T b = true) → ∀ S' X, S' 4 = Z64 0 → KK .ret S' (W ++ X) := fun hc S' X h4 => HR.out S' W X (by rw [hXX]; exact h4) (by rw [hXX, if_neg hc]; exact hM2) fr1
    have finY : x.2.2.1 = 1 ∧ yngB T b = true → ∀ S' X, S' 4 = Z64 0 → KK .ret S' (W.set m (.box ((rE (putR R (q : Int))).map ent)) ++ X) := fun hc S' X h4 => HR.out S' _ X (by rw [hXX]; exact h4) (by rw [hXX, if_pos hc]; exact hM2.put) (fr1.trans (FrG.map hM2.rem hM2.un.2.1))
    have HN := Lib.hid finN
    have HY := Lib.hid finY
    have HM2 := Lib.hid hM2
    have hq0 : ¬ ((r : Int) < 0) := by omega
    have hq1 : ¬ ((x.2.1.length : Int) ≤ (r : Int)) := by omega
    have hTl : (T.set q (x.1, x.2.1.set r b, x.2.2)).length = T.length := List.length_set ..
    obtain ⟨c, hc⟩ : ∃ c, c = x.2.2.1 := ⟨_, rfl⟩
    obtain ⟨hbo, hbo2⟩ : ∃ hbo, hbo = x.2.2.2 := ⟨_, rfl⟩
    obtain ⟨pz, hpz⟩ : ∃ pz, pz = plZ x := ⟨_, rfl⟩
    rw [← hpz, ← hc, ← hbo2] at hld hld0
    rw [← hpz] at hcl hlen pe
    rw [← hc] at HN HY
    have HYN := Lib.hid hyn
    have hlm : L m = true := hL m
    have hzp := zmput_rE (R := R) (n := (q : Int))
    clear hno hq hj hpl hpz1 hM2 fr1 hjH hjb hW hWl hXX finN finY hyn hc hbo2 hpz hL
    by_cases hc1 : c = 1
    · repeat' (first | (simp only [zmPack, zxPack, ne_eq, zfree, owners, Nat.reduceLT, List.contains_cons, List.contains_nil, Nat.reduceBEq, BEq.rfl, chunk, setAt, List.lookup_cons, List.lookup_nil, reduceCtorEq, Nat.reduceEqDiff, reduceIte, implies_true, forall_const, Nat.reduceMul, Nat.reduceSub, Nat.reduceAdd, Nat.reduceLeDiff, h0, h3, hb0, hbp, hel0, hld0, hbx, hcl, l9, a0, s0, hlen, hq0, hq1, pe, pst, aW, hbW, hc1, *]) | (simp only [zgoO, zgoG, zO_nil, zthen_normal, zgoC]) | (with_reducible apply And.intro) | (with_reducible intro _))
      refine isyoung_z (HM2.out.ext _) (by rw [hTl]; exact hbr) ?_
      rw [HYN.out]
      generalize yngB T b = yb at HN HY ⊢
      cases yb with
      | true =>
        have fin := HY.out ⟨hc1, rfl⟩
        have FN := Lib.hid fin
        clear fin
        repeat' (first | (simp only [zmPack, zxPack, ne_eq, zfree, owners, Nat.reduceLT, List.contains_cons, List.contains_nil, Nat.reduceBEq, BEq.rfl, chunk, setAt, List.lookup_cons, List.lookup_nil, reduceCtorEq, Nat.reduceEqDiff, reduceIte, implies_true, forall_const, Nat.reduceMul, Nat.reduceSub, Nat.reduceAdd, Nat.reduceLeDiff, hpW, hbW, hmW, hmS, hlm, hzp, z_mapSet, ZV.mp.injEq, ent_eq, *]) | (simp only [zgoO, zgoG, zO_nil, zthen_normal, zgoC]) | (with_reducible apply And.intro) | (with_reducible intro _))
        exact FN.out _ _ (by simp [zupd])
      | false =>
        have fin := HN.out (fun q => by cases q.2)
        have FN := Lib.hid fin
        clear fin
        repeat' (first | (simp only [zmPack, zxPack, ne_eq, zfree, owners, Nat.reduceLT, List.contains_cons, List.contains_nil, Nat.reduceBEq, BEq.rfl, chunk, setAt, List.lookup_cons, List.lookup_nil, reduceCtorEq, Nat.reduceEqDiff, reduceIte, implies_true, forall_const, Nat.reduceMul, Nat.reduceSub, Nat.reduceAdd, Nat.reduceLeDiff, hpW, hbW, *]) | (simp only [zgoO, zgoG, zO_nil, zthen_normal, zgoC]) | (with_reducible apply And.intro) | (with_reducible intro _))
        exact FN.out _ _ (by simp [zupd])
    · have FN := Lib.hid (HN.out (fun q => hc1 q.1))
      repeat' (first | (simp only [zmPack, zxPack, ne_eq, zfree, owners, Nat.reduceLT, List.contains_cons, List.contains_nil, Nat.reduceBEq, BEq.rfl, chunk, setAt, List.lookup_cons, List.lookup_nil, reduceCtorEq, Nat.reduceEqDiff, reduceIte, implies_true, forall_const, Nat.reduceMul, Nat.reduceSub, Nat.reduceAdd, Nat.reduceLeDiff, h0, h3, hb0, hbp, hel0, hld0, hbx, hcl, l9, a0, s0, hlen, hq0, hq1, pe, pst, aW, hbW, hc1, *]) | (simp only [zgoO, zgoG, zO_nil, zthen_normal, zgoC]) | (with_reducible apply And.intro) | (with_reducible intro _))
      exact FN.out _ _ (by simp [zupd])
theorem setT_X {q : Nat} {x : TB} {b n : Int} (he : namedE T (setL (q : Int) b) = 0) (hx : T[q]? = some x) : setT T R (q : Int) b n = setX T R q x b n := by
  unfold setT
  rw [if_neg (by simp [he]), Int.toNat_natCast, hx]
set_option maxHeartbeats 4000000 in
theorem set_z {dd a b n : Int} (h : GeAt U H p t g m nu T R) (hr : Rng T) (hL : ∀ i, L i = true) (hK : ∀ H', GeAt U H' p t g m nu (setT T R a b n).2.1 (setT T R a b n).2.2 → FrG U p m H H' → K (Z64 (setT T R a b n).1) H') :
    ZC (XG tb nd) (cFunc Try.prog) 19 [.ptr p 0, .agg [Z64 dd, Z64 a, Z64 b, Z64 n]] L H K := by
  refine ZC.enter Gh.no constX_none f_ge_set (by simp) ?_
  simp only [c_ge_set_cut]
  have HM := Lib.hid h
  have HR := Lib.hid hr
  have HL := Lib.hid hL
  have HK := Lib.hid hK
  have hmlt := lt_of_get h.rem
  have a0 : ∀ A, (H ++ [A])[H.length]? = some A := fun A => atN0 rfl A []
  clear hK hr h hL
  have hcut : ∀ H, cutZ H 1 0 1 2 false (.fz 1 true [[Z64 a], [Z64 (-1)]]) = some (.fz 1 false [[Z64 a]]) := fun H => by simp [cutZ]
  have hn1 : natZ (Z64 1) = some 1 := rfl
  have goOn : namedE T (setL a b) = 0 → ∀ (S : ZS) (KK : AExit → ZS → ZH → Prop), S 0 = .ptr p 0 → S 3 = .ptr H.length 0 → (∀ S' H' r, S' 4 = Z64 r → Fin H (Z64 r) H' K → KK .ret S' H') →
      zW (XG tb nd) (cFunc Try.prog) Gh.no L c_sT1 S (H ++ [.box [Z64 dd, Z64 a, Z64 b, Z64 n]]) KK := fun he S KK h0 h3 hkk => by
    obtain ⟨h1, -⟩ := namedE_zero he
    have ha := h1 a (by unfold setL; split <;> simp)
    obtain ⟨q, hqa⟩ := Int.eq_ofNat_of_zero_le ha.1
    subst hqa
    have hq : q < T.length := by have := ha.2; omega
    have hx : T[q]? = some T[q] := List.getElem?_eq_getElem hq
    have hbr : b < (T.length : Int) := by
      by_cases hb1 : b = -1
      · omega
      · exact (h1 b (by unfold setL; rw [if_neg hb1]; simp)).2
    have hS := setT_X (R := R) (n := n) he hx
    refine sT1_z (HM.out.ext _) hx (a0 _) h0 h3 hbr HL.out (by omega) fun S' H' X h4 hG hF => hkk S' (H' ++ X) _ h4 ?_
    have hk := HK.out (H' ++ X) (by rw [hS]; exact hG.ext X) ((FrG.ext.trans hF).trans FrG.ext)
    rw [hS] at hk
    exact Fin.keep hk
  have bad : namedE T (setL a b) ≠ 0 → ∀ X, Fin H (Z64 (namedE T (setL a b))) (H ++ X) K := fun he X => by
    have hST : setT T R a b n = (namedE T (setL a b), T, R) := by unfold setT; rw [if_pos he]
    have hk := HK.out (H ++ X) (by rw [hST]; exact HM.out.ext X) FrG.ext
    rw [hST] at hk
    exact Fin.keep hk
  have GO := Lib.hid goOn
  have BD := Lib.hid bad
  clear goOn bad
  have hb9 := fun X => (HM.out.ext X).box
  by_cases hb1 : b = -1
  · have hsl : setL a b = [a] := by unfold setL; rw [if_pos hb1]
    rw [hsl] at GO BD
    subst hb1
    clear hsl hb9
    repeat' (first | (simp only [zmPack, zxPack, ne_eq, zfree, owners, Nat.reduceLT, List.contains_cons, List.contains_nil, Nat.reduceBEq, BEq.rfl, chunk, setAt, List.lookup_cons, List.lookup_nil, reduceCtorEq, Nat.reduceEqDiff, reduceIte, implies_true, forall_const, Nat.reduceMul, Nat.reduceSub, Nat.reduceAdd, Nat.reduceLeDiff, a0, mv_num0, mv_num1, hcut, hn1, Option.bind_some, Option.isSome_none, *]) | (simp only [zgoO, zgoG, zO_nil, zthen_normal, zgoC]) | (with_reducible apply And.intro) | (with_reducible intro _))
    refine named_z (l := [a]) (HM.out.ext _) HR.out (fun _ => rows_fz) (by simp) ?_
    clear hcut hn1
    by_cases he : namedE T [a] = 0
    · have G := Lib.hid (GO.out he)
      rw [he]
      clear GO he
      repeat' (first | (simp only [zmPack, zxPack, ne_eq, zfree, owners, Nat.reduceLT, List.contains_cons, List.contains_nil, Nat.reduceBEq, BEq.rfl, chunk, setAt, List.lookup_cons, List.lookup_nil, reduceCtorEq, Nat.reduceEqDiff, reduceIte, implies_true, forall_const, Nat.reduceMul, Nat.reduceSub, Nat.reduceAdd, Nat.reduceLeDiff, *]) | (simp only [zgoO, zgoG, zO_nil, zthen_normal, zgoC]) | (with_reducible apply And.intro) | (with_reducible intro _))
      refine G.out _ _ (by simp [zupd]) (by simp [zupd]) fun S' H' r h4 hf => ?_
      show _ ∧ Fin H (S' 4) H' K
      rw [h4]; exact ⟨.inr rfl, hf⟩
    · have fin := BD.out he
      obtain ⟨ee, hee⟩ : ∃ ee, ee = namedE T [a] := ⟨_, rfl⟩
      rw [← hee] at he fin ⊢
      clear hee
      repeat' (first | (simp only [zmPack, zxPack, ne_eq, zfree, owners, Nat.reduceLT, List.contains_cons, List.contains_nil, Nat.reduceBEq, BEq.rfl, chunk, setAt, List.lookup_cons, List.lookup_nil, reduceCtorEq, Nat.reduceEqDiff, reduceIte, implies_true, forall_const, Nat.reduceMul, Nat.reduceSub, Nat.reduceAdd, Nat.reduceLeDiff, he, *]) | (simp only [zgoO, zgoG, zO_nil, zthen_normal, zgoC]) | (with_reducible apply And.intro) | (with_reducible intro _))
  · have hsl : setL a b = [a, b] := by unfold setL; rw [if_neg hb1]
    rw [hsl] at GO BD
    have HB1 := Lib.hid hb1
    clear hcut hn1 hsl hb9
    repeat' (first | (simp only [zmPack, zxPack, ne_eq, zfree, owners, Nat.reduceLT, List.contains_cons, List.contains_nil, Nat.reduceBEq, BEq.rfl, chunk, setAt, List.lookup_cons, List.lookup_nil, reduceCtorEq, Nat.reduceEqDiff, reduceIte, implies_true, forall_const, Nat.reduceMul, Nat.reduceSub, Nat.reduceAdd, Nat.reduceLeDiff, a0, hb1, *]) | (simp only [zgoO, zgoG, zO_nil, zthen_normal, zgoC]) | (with_reducible apply And.intro) | (with_reducible intro _))
    refine named_z (l := [a, b]) (HM.out.ext _) HR.out (fun _ => rows_fz) (by simp) ?_
    clear hb1
    by_cases he : namedE T [a, b] = 0
    · have G := Lib.hid (GO.out he)
      rw [he]
      clear GO he
      repeat' (first | (simp only [zmPack, zxPack, ne_eq, zfree, owners, Nat.reduceLT, List.contains_cons, List.contains_nil, Nat.reduceBEq, BEq.rfl, chunk, setAt, List.lookup_cons, List.lookup_nil, reduceCtorEq, Nat.reduceEqDiff, reduceIte, implies_true, forall_const, Nat.reduceMul, Nat.reduceSub, Nat.reduceAdd, Nat.reduceLeDiff, *]) | (simp only [zgoO, zgoG, zO_nil, zthen_normal, zgoC]) | (with_reducible apply And.intro) | (with_reducible intro _))
      refine G.out _ _ (by simp [zupd]) (by simp [zupd]) fun S' H' r h4 hf => ?_
      show _ ∧ Fin H (S' 4) H' K
      rw [h4]; exact ⟨.inr rfl, hf⟩
    · have fin := BD.out he
      obtain ⟨ee, hee⟩ : ∃ ee, ee = namedE T [a, b] := ⟨_, rfl⟩
      rw [← hee] at he fin ⊢
      clear hee
      repeat' (first | (simp only [zmPack, zxPack, ne_eq, zfree, owners, Nat.reduceLT, List.contains_cons, List.contains_nil, Nat.reduceBEq, BEq.rfl, chunk, setAt, List.lookup_cons, List.lookup_nil, reduceCtorEq, Nat.reduceEqDiff, reduceIte, implies_true, forall_const, Nat.reduceMul, Nat.reduceSub, Nat.reduceAdd, Nat.reduceLeDiff, he, *]) | (simp only [zgoO, zgoG, zO_nil, zthen_normal, zgoC]) | (with_reducible apply And.intro) | (with_reducible intro _))
end Go.Proofs.Ytblgljahhhdlhaa

namespace Go.Proofs.Ytblgljahhhdlhaa
open Go Go.RowKit
set_option linter.unusedVariables false
set_option linter.unusedSimpArgs false
variable {U : Nat → Prop}
variable {tb : List (FuncId × Bool)} {nd : Bool} {L : Nat → Bool} {H : ZH} {K : ZV → ZH → Prop} {p t g m : Nat} {nu : Int} {T : List TB} {R : List Int}
theorem index_z {ex : Bool} {l : List Int} {a : Int} (hl : l.length ≤ 1000) (hK : ∀ i : Int, (0 ≤ i ↔ a ∈ l) → K (Z64 i) H) : ZC (XG tb nd) (cFunc Try.prog) 54 [.fz 1 ex (l.map eI), Z64 a] L H K := by
  refine ZC.enter Gh.no constX_none f_ge_index (by simp) ?_
  simp only [c_ge_index]
  have HK := Lib.hid hK
  clear hK
  have hlen : l.length < 9223372036854775807 := by omega
  repeat' (first | (simp only [zmPack, zxPack, ne_eq, zfree, owners, Nat.reduceLT, List.contains_cons, List.contains_nil, Nat.reduceBEq, BEq.rfl, chunk, setAt, List.lookup_cons, List.lookup_nil, reduceCtorEq, Nat.reduceEqDiff, reduceIte, implies_true, forall_const, Nat.reduceMul, Nat.reduceSub, Nat.reduceAdd, Nat.reduceLeDiff, *]) | (simp only [zgoO, zgoG, zO_nil, zthen_normal, zgoC]) | (with_reducible apply And.intro) | (with_reducible intro _))
  refine zW_forK [(0, .fz 1 ex (l.map eI)), (1, Z64 a)] l.length (fun k s' h' => h' = H ∧ a ∉ l.take k) (by omega) ⟨rfl, rfl, rfl, rfl, rfl, rfl⟩ rfl rfl (by repeat' (first | exact trivial | (refine ⟨rfl, ?_⟩) | (refine ⟨by simp only [zupd_at, Nat.reduceEqDiff, reduceIte]; assumption, ?_⟩))) rfl rfl (by decide) ⟨rfl, by simp⟩ ?_ ?_
  · rintro k s' h' hk ⟨rfl, hno⟩ hi hl2 ⟨f0, f1, -⟩
    have hx : l[k]? = some l[k] := List.getElem?_eq_getElem hk
    obtain ⟨q, hq⟩ : ∃ q, q = l[k] := ⟨_, rfl⟩
    have hmem : q ∈ l := by rw [hq]; exact List.getElem_mem hk
    have hnx := Lib.hid (show ¬ (a = q) → a ∉ l.take (k + 1) from fun h => by rw [List.take_succ_eq_append_getElem hk, ← hq]; simp [hno, h])
    rw [← hq] at hx
    clear hq hno
    by_cases hc : a = q
    · have fin := Fin.keep (H0 := h') (HK.out (k : Int) ⟨fun _ => by rw [hc]; exact hmem, fun _ => by omega⟩)
      subst hc
      have e1 : decide (a = a) = true := by simp
      repeat' (first | (simp only [zmPack, zxPack, ne_eq, zfree, owners, Nat.reduceLT, List.contains_cons, List.contains_nil, Nat.reduceBEq, BEq.rfl, chunk, setAt, List.lookup_cons, List.lookup_nil, reduceCtorEq, Nat.reduceEqDiff, reduceIte, implies_true, forall_const, Nat.reduceMul, Nat.reduceSub, Nat.reduceAdd, Nat.reduceLeDiff, hx, f0, f1, *]) | (simp only [zgoO, zgoG, zO_nil, zthen_normal, zgoC]) | (with_reducible apply And.intro) | (with_reducible intro _))
    · have fin := hnx.out hc
      have hc2 : ¬ (q = a) := fun h => hc h.symm
      repeat' (first | (simp only [zmPack, zxPack, ne_eq, zfree, owners, Nat.reduceLT, List.contains_cons, List.contains_nil, Nat.reduceBEq, BEq.rfl, chunk, setAt, List.lookup_cons, List.lookup_nil, reduceCtorEq, Nat.reduceEqDiff, reduceIte, implies_true, forall_const, Nat.reduceMul, Nat.reduceSub, Nat.reduceAdd, Nat.reduceLeDiff, hx, f0, f1, hc, hc2, *]) | (simp only [zgoO, zgoG, zO_nil, zthen_normal, zgoC]) | (with_reducible apply And.intro) | (with_reducible intro _))
  · rintro s' h' ⟨rfl, hno⟩ ⟨f0, f1, -⟩
    rw [List.take_of_length_le (Nat.le_refl _)] at hno
    have fin := Fin.keep (H0 := h') (HK.out (-1) ⟨fun h => by omega, fun h => absurd h hno⟩)
    clear hno
    repeat' (first | (simp only [zmPack, zxPack, ne_eq, zfree, owners, Nat.reduceLT, List.contains_cons, List.contains_nil, Nat.reduceBEq, BEq.rfl, chunk, setAt, List.lookup_cons, List.lookup_nil, reduceCtorEq, Nat.reduceEqDiff, reduceIte, implies_true, forall_const, Nat.reduceMul, Nat.reduceSub, Nat.reduceAdd, Nat.reduceLeDiff, *]) | (simp only [zgoO, zgoG, zO_nil, zthen_normal, zgoC]) | (with_reducible apply And.intro) | (with_reducible intro _))
theorem contains_z {ex : Bool} {l : List Int} {a : Int} (hl : l.length ≤ 1000) (hK : K (ZBo (decide (a ∈ l))) H) : ZC (XG tb nd) (cFunc Try.prog) 38 [.fz 1 ex (l.map eI), Z64 a] L H K := by
  refine ZC.enter Gh.no constX_none f_ge_contains (by simp) ?_
  simp only [c_ge_contains]
  have HK := Lib.hid hK
  clear hK
  repeat' (first | (simp only [zmPack, zxPack, ne_eq, zfree, owners, Nat.reduceLT, List.contains_cons, List.contains_nil, Nat.reduceBEq, BEq.rfl, chunk, setAt, List.lookup_cons, List.lookup_nil, reduceCtorEq, Nat.reduceEqDiff, reduceIte, implies_true, forall_const, Nat.reduceMul, Nat.reduceSub, Nat.reduceAdd, Nat.reduceLeDiff, *]) | (simp only [zgoO, zgoG, zO_nil, zthen_normal, zgoC]) | (with_reducible apply And.intro) | (with_reducible intro _))
  refine index_z hl fun i hi => ?_
  have fin := Fin.keep (H0 := H) HK.out
  have hd : decide (a ∈ l) = decide (0 ≤ i) := by by_cases h : a ∈ l <;> simp [h, hi]
  rw [hd] at fin
  clear hi hd
  repeat' (first | (simp only [zmPack, zxPack, ne_eq, zfree, owners, Nat.reduceLT, List.contains_cons, List.contains_nil, Nat.reduceBEq, BEq.rfl, chunk, setAt, List.lookup_cons, List.lookup_nil, reduceCtorEq, Nat.reduceEqDiff, reduceIte, implies_true, forall_const, Nat.reduceMul, Nat.reduceSub, Nat.reduceAdd, Nat.reduceLeDiff, *]) | (simp only [zgoO, zgoG, zO_nil, zthen_normal, zgoC]) | (with_reducible apply And.intro) | (with_reducible intro _))
/-! ### The first loop: who goes -/
abbrev goneX : TB := (none, [], 2, false)
def ageX (x : TB) : TB := (x.1, x.2.1, 1, x.2.2.2)
def colX (ages : List Int) (b : Bool) (x : TB) : TB := if x.2.2.1 ∈ ages then (if b = true then ageX x else goneX) else x
def colTo (ages : List Int) (sb : List Bool) (T : List TB) (k : Nat) : List TB := (T.take k).zipWith (fun x b => colX ages b x) sb ++ T.drop k
def cntTo (ages : List Int) (sb : List Bool) (T : List TB) (k : Nat) : Nat := (((T.take k).zip sb).filter fun p => decide (p.1.2.2.1 ∈ ages) && !p.2).length
section
variable {ages : List Int} {sb : List Bool}
theorem colTo_len (hs : sb.length = T.length) {k : Nat} : (colTo ages sb T k).length = T.length := by unfold colTo; simp; omega
theorem zip_len (hs : sb.length = T.length) {k : Nat} (hk : k ≤ T.length) : ((T.take k).zipWith (fun x b => colX ages b x) sb).length = k := by simp; omega
theorem colTo_at (hs : sb.length = T.length) {k : Nat} (hk : k < T.length) : (colTo ages sb T k)[k]? = T[k]? := by
  unfold colTo
  rw [List.getElem?_append_right (by rw [zip_len hs (by omega)]; exact Nat.le_refl _), zip_len hs (by omega), Nat.sub_self, List.getElem?_drop, Nat.add_zero]
theorem zip_next {α β γ : Type} {f : α → β → γ} {l : List α} {l2 : List β} {k : Nat} {x : α} {b : β} (hx : l[k]? = some x) (hb : l2[k]? = some b) : (l.take (k + 1)).zipWith f l2 = (l.take k).zipWith f l2 ++ [f x b] := by
  induction l generalizing k l2 with
  | nil => simp at hx
  | cons y l ih =>
    cases l2 with
    | nil => simp at hb
    | cons c l2 =>
      cases k with
      | zero => simp at hx hb; subst hx; subst hb; simp
      | succ k =>
        simp at hx hb
        have := ih hx hb
        simp [this]
theorem colTo_next (hs : sb.length = T.length) {k : Nat} {x : TB} {b : Bool} (hx : T[k]? = some x) (hb : sb[k]? = some b) : colTo ages sb T (k + 1) = (colTo ages sb T k).set k (colX ages b x) := by
  have hk := (List.getElem?_eq_some_iff.1 hx).1
  have hxe := (List.getElem?_eq_some_iff.1 hx).2
  unfold colTo
  rw [zip_next hx hb, List.set_append_right _ _ (by rw [zip_len hs (by omega)]; exact Nat.le_refl _), zip_len hs (by omega), Nat.sub_self, List.append_assoc, List.drop_eq_getElem_cons hk]
  rfl
theorem cntTo_next {k : Nat} {x : TB} {b : Bool} (hx : T[k]? = some x) (hb : sb[k]? = some b) : cntTo ages sb T (k + 1) = cntTo ages sb T k + (if x.2.2.1 ∈ ages ∧ b = false then 1 else 0) := by
  unfold cntTo
  have : (T.take (k + 1)).zip sb = (T.take k).zip sb ++ [(x, b)] := zip_next (f := Prod.mk) hx hb
  rw [this, List.filter_append, List.length_append]
  congr 1
  by_cases h1 : x.2.2.1 ∈ ages
  · cases b <;> simp [h1]
  · simp [h1]
theorem cntTo_le {k : Nat} : cntTo ages sb T k ≤ T.length := by
  unfold cntTo
  refine Nat.le_trans (List.length_filter_le _ _) ?_
  rw [List.length_zip, List.length_take]; omega
end
theorem zmdel_rE {n : Int} : ∀ {R : List Int}, ∃ R' : List Int, zmdel (rE R) n = rE R'
  | [] => ⟨[], rfl⟩
  | k :: R => by
    obtain ⟨R', h⟩ := zmdel_rE (n := n) (R := R)
    show ∃ R', zmdel ((k, .agg []) :: rE R) n = _
    simp only [zmdel]
    by_cases hn : n = k
    · exact ⟨R, by rw [if_pos hn]⟩
    · exact ⟨k :: R', by rw [if_neg hn, h]; rfl⟩
theorem gone_sub {k : Nat} {x y : TB} (hx : T[k]? = some x) (hy : (y.1 = none ∧ y.2.1 = []) ∨ keyT y = keyT x) : (T.set k y).length = T.length ∧ (∀ z ∈ T.set k y, (z.1 = none ∧ z.2.1 = []) ∨ ∃ w ∈ T, w.1 = z.1 ∧ w.2.1 = z.2.1) ∧ ((T.set k y).filterMap Prod.fst).Sublist (T.filterMap Prod.fst) := by
  refine ⟨List.length_set .., fun z hz => ?_, ?_⟩
  · rcases List.mem_or_eq_of_mem_set hz with hz | rfl
    · exact .inr ⟨z, hz, rfl, rfl⟩
    · rcases hy with hy | hy
      · exact .inl hy
      · injection hy with e1 e2
        exact .inr ⟨x, List.mem_of_getElem? hx, e1.symm, e2.symm⟩
  · rcases hy with ⟨hy, _⟩ | hy
    · have hk := (List.getElem?_eq_some_iff.1 hx).1
      rw [List.set_eq_take_append_cons_drop, if_pos hk]
      rw [List.filterMap_append, List.filterMap_cons]
      simp only [hy]
      have e : T.filterMap Prod.fst = (T.take k).filterMap Prod.fst ++ (T.drop k).filterMap Prod.fst := by rw [← List.filterMap_append, List.take_append_drop]
      rw [e]
      refine List.Sublist.append (List.Sublist.refl _) ?_
      rw [List.drop_eq_getElem_cons hk]
      exact (List.sublist_cons_self _ _).filterMap _
    · have h3 := (key_sub (key_set hx hy)).2.2
      rw [h3]; exact List.Sublist.refl _
theorem GeAt.setT (h : GeAt U H p t g m nu T R) {k : Nat} {x y : TB} (hx : T[k]? = some x) (hy : (y.1 = none ∧ y.2.1 = []) ∨ keyT y = keyT x) : GeAt U (thH H t g (T.set k y)) p t g m nu (T.set k y) R := by
  obtain ⟨h1, h2, h3⟩ := gone_sub hx hy
  exact h.less h1 h2 h3
end Go.Proofs.Ytblgljahhhdlhaa
