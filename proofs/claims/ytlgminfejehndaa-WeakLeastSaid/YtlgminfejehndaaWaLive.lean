/-
  weak.live, weak.Live, weak.Kept, in AM.
-/
import Derived.Test.YtlgminfejehndaaWaFrom
namespace Go.Proofs.Ytlgminfejehndaa
open Go Go.RowKit
set_option linter.unusedVariables false
set_option linter.unusedSimpArgs false
variable {tb : List (FuncId × Bool)} {fl : Nat → Bool} {h : Heap} {K : AV → Heap → Prop}

/-! Pairs -/
def pairsA (ps : List (Int × Int)) : List AV := ps.flatMap fun p => [I64 p.1, I64 p.2]
def PL (h : Heap) (v : AV) (ps : List (Int × Int)) : Prop := Sl h 2 v (pairsA ps) ps.length
theorem pairsA_at : ∀ (ps : List (Int × Int)) (j : Nat) (hj : j < ps.length), ((pairsA ps).drop (j * 2)).take 2 = [I64 ps[j].1, I64 ps[j].2]
  | [], j, hj => absurd hj (by simp)
  | p :: ps, 0, hj => rfl
  | p :: ps, j + 1, hj => by
    rw [show (j + 1) * 2 = j * 2 + 1 + 1 by omega]
    simpa [pairsA] using pairsA_at ps j (by simpa using hj)
theorem PL.at {h : Heap} {v : AV} {ps : List (Int × Int)} (hs : PL h v ps) {j : Nat} (hj : j < ps.length) : ∃ id off lb ex, v = .slice id off ps.length lb ex 2 ∧ rd h id (off + j * 2) 2 = some [I64 ps[j].1, I64 ps[j].2] := by
  obtain ⟨id, off, lb, ex, h1, h2, h3⟩ := Sl.atK hs hj
  exact ⟨id, off, lb, ex, h1, by rw [h3, pairsA_at ps j hj]⟩
theorem PL.len {h : Heap} {v : AV} {ps : List (Int × Int)} (hs : PL h v ps) : lenA v = some ps.length := Sl.len hs
theorem PL.keep {h h' : Heap} {S : List Nat} {v : AV} {ps : List (Int × Int)} (hs : PL h v ps) (a : Keep h h' S) (hi : ∀ i ∈ idOf v, i ∉ S) : PL h' v ps := Sl.keep hs a hi

/-- The reacher's state, all of it new since h0. -/
def RL (h0 h : Heap) (rp : Nat) (gh gr sv : AV) (st : List Bool × List Int) : Prop :=
  ∃ tv, RSt h rp gh gr sv st.1 tv st.2 ∧ Keep h0 h [] ∧ ∀ i ∈ rp :: (idOf sv ++ idOf tv), h0.length ≤ i
theorem RL.wri {h0 h : Heap} {rp : Nat} {sv tv : AV} (hf : ∀ i, h0.length ≤ i → fl i = true) (hk : Keep h0 h []) (hi : ∀ i ∈ rp :: (idOf sv ++ idOf tv), h0.length ≤ i) : Wri fl h rp sv tv :=
  ⟨hf _ (hi _ (by simp)), fun i h => hf _ (hi _ (by simp [h])), fun i h => hf _ (hi _ (by simp [h])), fun i h => hf _ (by have := hk.1; omega)⟩
theorem reach_rl {h0 : Heap} {rp : Nat} {gh gr sv lv : AV} {st : List Bool × List Int} {l : List Int} (hR : RL h0 h rp gh gr sv st) (hl : IL h lv l) (hli : ∀ i ∈ idOf lv, i < h0.length) (hb : ∀ x ∈ l, 0 ≤ x ∧ x < (st.1.length : Int)) (hlen : l.length ≤ 1000000)
    (hbd : st.2.length + unseen st.1 ≤ 1000000) (hf : ∀ i, h0.length ≤ i → fl i = true) (hK : ∀ h', RL h0 h' rp gh gr sv (reachL st l) → K (.tuple []) h') :
    AC (constX tb) (cFunc Try.prog) 47 [.ptr rp 0, lv] fl h K := by
  obtain ⟨tv, r, hk, hi⟩ := hR
  refine reach_am r hl (fun i h h2 => by have := hi i h2; have := hli i h; omega) hb hlen hbd (RL.wri hf hk hi) fun h' tv' r1 r2 r3 => hK h' ⟨tv', r1, hk.then r2 (fun i h => .inl h) (fun i h => .inr (hi i h)), fun i h => ?_⟩
  simp only [List.mem_cons, List.mem_append] at h
  rcases h with q | q | q
  · exact hi i (by simp [q])
  · exact hi i (by simp [q])
  · exact (r3 i q).elim (fun q => hi i (by simp [q])) (fun q => by have := hk.1; omega)
/-- One more thing is reached, from a new list. -/
theorem reach1_rl {h0 h1 : Heap} {rp : Nat} {gh gr sv : AV} {st : List Bool × List Int} {x : Int} (hR : RL h0 h1 rp gh gr sv st) (hb : 0 ≤ x ∧ x < (st.1.length : Int))
    (hbd : st.2.length + unseen st.1 ≤ 1000000) (hf : ∀ i, h0.length ≤ i → fl i = true) (hK : ∀ h', RL h0 h' rp gh gr sv (reachL st [x]) → K (.tuple []) h') :
    AC (constX tb) (cFunc Try.prog) 47 [.ptr rp 0, .slice h1.length 0 1 1 true 1] fl (h1 ++ [some [I64 x]]) K := by
  obtain ⟨tv, r, hk, hi⟩ := hR
  have ke : Keep h1 (h1 ++ [some [I64 x]]) [] := Keep.ext _ _
  have r' : RSt (h1 ++ [some [I64 x]]) rp gh gr sv st.1 tv st.2 := ⟨ke.get (by simp) r.rc, r.seen.keep ke (by simp), r.todo.keepK ke (by simp), r.d1, r.d2, r.d3⟩
  have hlt : ∀ i ∈ rp :: (idOf sv ++ idOf tv), i < h1.length := fun i h => by
    simp only [List.mem_cons, List.mem_append] at h
    rcases h with q | q | q
    · rw [q]; exact blk_lt r.rc
    · exact Sl.lt r.seen i q
    · exact r.todo.lt i q
  have hl : IL (h1 ++ [some [I64 x]]) (.slice h1.length 0 1 1 true 1) [x] := ⟨rfl, .inr ⟨_, 0, 1, true, _, rfl, Nat.le_refl _, blk_app_new, by simp, by simp⟩⟩
  refine reach_am r' hl (fun i h h2 => by have := hlt i h2; simp [idOf] at h; omega) (by simpa using hb) (by simp) hbd (RL.wri hf (hk.then ke (by simp) (by simp)) hi) fun h' tv' r1 r2 r3 => hK h' ⟨tv', r1, (hk.then ke (T := []) (by simp) (by simp)).then r2 (fun i h => .inl h) (fun i h => .inr (hi i h)), fun i h => ?_⟩
  simp only [List.mem_cons, List.mem_append] at h
  rcases h with q | q | q
  · exact hi i (by simp [q])
  · exact hi i (by simp [q])
  · exact (r3 i q).elim (fun q => hi i (by simp [q])) (fun q => by have := hk.1; simp at q; omega)
theorem all_rl {h0 : Heap} {rp : Nat} {gh gr sv : AV} {st : List Bool × List Int} {has : List (List Int)} {S0 : Nat → Prop} (hR : RL h0 h rp gh gr sv st) (hA : AInv has S0 st) (hok : okHas has st.1.length) (hL : LL h0 gh has) (hls : ∀ l ∈ has, l.length ≤ 1000)
    (hbd : st.2.length + unseen st.1 ≤ 1000000) (hf : ∀ i, h0.length ≤ i → fl i = true) (hK : ∀ h' sb, RL h0 h' rp gh gr sv (sb, []) → AInv has S0 (sb, []) → K (.tuple []) h') :
    AC (constX tb) (cFunc Try.prog) 48 [.ptr rp 0] fl h K := by
  obtain ⟨tv, r, hk, hi⟩ := hR
  refine all_am r hA hok hk hL hi hls hbd (RL.wri hf hk hi) fun h' tv' sb' r1 r2 r3 r4 => hK h' sb' ⟨tv', r1, hk.then r3 (fun i h => .inl h) (fun i h => .inr (hi i h)), fun i h => ?_⟩ r2
  simp only [List.mem_cons, List.mem_append] at h
  rcases h with q | q | q
  · exact hi i (by simp [q])
  · exact hi i (by simp [q])
  · exact (r4 i q).elim (fun q => hi i (by simp [q])) (fun q => by have := hk.1; omega)
/-- More memory of its own. -/
theorem RL.grow {h0 h h' : Heap} {rp : Nat} {gh gr sv : AV} {st : List Bool × List Int} (hR : RL h0 h rp gh gr sv st) (a : Keep h h' []) : RL h0 h' rp gh gr sv st :=
  let ⟨tv, r, hk, hi⟩ := hR
  ⟨tv, ⟨a.get (by simp) r.rc, r.seen.keep a (by simp), r.todo.keepK a (by simp), r.d1, r.d2, r.d3⟩, hk.then a (by simp) (by simp), hi⟩

/-- The first k pairs are in. -/
def PrePair (N : Nat) (ps : List (Int × Int)) (k : Nat) : Prop := ∀ i (hi : i < ps.length), i < k → pairIn N ps[i]
theorem PrePair.all {N : Nat} {ps : List (Int × Int)} (h : PrePair N ps ps.length) : ∀ p ∈ ps, pairIn N p := fun p hp => by
  obtain ⟨i, hi, rfl⟩ := List.getElem_of_mem hp
  exact h i hi hi
theorem PrePair.succ {N : Nat} {ps : List (Int × Int)} {k : Nat} (h : PrePair N ps k) (hk : k < ps.length) (hp : pairIn N ps[k]) : PrePair N ps (k + 1) := fun i hi hik => by
  by_cases e : i = k
  · subst e; exact hp
  · exact h i hi (by omega)
/-- What 'live' answers. -/
def LiveAns (h h' : Heap) (sv : AV) (has : List (List Int)) (roots : List Int) (ps : List (Int × Int)) : Prop :=
  ∃ sb, BL h' sv sb ∧ Keep h h' [] ∧ (sb = if liveE has roots ps = 0 then liveSb has ps roots else [])

/-- Where 'live' stands between its rounds. -/
structure LiveI (h h2 : Heap) (rp : Nat) (v1 v2 sv : AV) (has : List (List Int)) (ps : List (Int × Int)) (roots : List Int) (st : List Bool × List Int) : Prop where
  rl : RL h h2 rp v1 v2 sv st
  len : st.1.length = has.length
  g : GInv has (Liv has ps roots) st
  bd : st.2.length + unseen st.1 ≤ 1000000
  root : ∀ x ∈ roots, Sn st.1 x.toNat
def LiveO (h h2 : Heap) (rp : Nat) (v1 v2 sv : AV) (has : List (List Int)) (ps : List (Int × Int)) (roots : List Int) (v10 : AV) (n : Nat) : Prop :=
  ∃ st mo, v10 = BV mo ∧ n = 2 * unseen st.1 + (if mo = true then 1 else 0) ∧ LiveI h h2 rp v1 v2 sv has ps roots st ∧ (mo = false → st.2 = [] ∧ ∀ p ∈ ps, Sn st.1 p.1.toNat → Sn st.1 p.2.toNat)
def LiveK (h h2 : Heap) (rp : Nat) (v1 v2 sv : AV) (has : List (List Int)) (ps : List (Int × Int)) (roots : List Int) (sb : List Bool) (v10 : AV) (k : Nat) : Prop :=
  ∃ u mo, v10 = BV mo ∧ LiveI h h2 rp v1 v2 sv has ps roots u ∧ (if mo = true then unseen u.1 < unseen sb else u = (sb, []) ∧ ∀ p ∈ ps.take k, Sn sb p.1.toNat → Sn sb p.2.toNat)
theorem LiveI.done {h h2 : Heap} {rp : Nat} {v1 v2 sv : AV} {has : List (List Int)} {ps : List (Int × Int)} {roots : List Int} {sb : List Bool} (hi : LiveI h h2 rp v1 v2 sv has ps roots (sb, [])) (hp : ∀ p ∈ ps, Sn sb p.1.toNat → Sn sb p.2.toNat) : sb = liveSb has ps roots :=
  eq_liveSb hi.len (LInv.iff ⟨hi.root, fun n hn => by
    rcases hi.g.closed n hn with ⟨x, hx, _⟩ | h1
    · cases hx
    · exact h1, fun n hn => hi.g.sub n hn⟩ hp)
theorem Sn_at {sb : List Bool} {m : Nat} (hm : m < sb.length) : Sn sb m ↔ sb[m] = true := by unfold Sn; simp [hm]

set_option maxHeartbeats 1600000 in
theorem live0_am {v1 v2 lv : AV} {has : List (List Int)} {roots : List Int} {ps : List (Int × Int)} (h1 : LL h v1 has) (h2 : IL h v2 roots) (hp : PL h lv ps) (hf : ∀ i, h.length ≤ i → fl i = true)
    (hK : ∀ h' sv, LiveAns h h' sv has roots ps → K (.tuple [sv, I64 (liveE has roots ps)]) h') :
    AC (constX tb) (cFunc Try.prog) 30 [.agg [v1, v2], lv] fl h K := by
  refine AC.enter rfl f_wk_live0 (by simp) ?_
  simp only [c_wk_live0]
  have hc1 := h1.cell
  have hc2 := h2.cell
  have hplen := hp.len
  repeat' (first | (simp only [AW_next, AW_ops, AW_cond, AW_block, AW_exit, AW_ret, AW_skip, AW_scope, AO_nil, AO_next, AO_nextW, wantB_bool, wantK_some, then_normal, then_exit, then_ret, inBlk_normal, inBlk_exit, inBlk_ret, A1_mv, A1_pick, A1_box, A1_zero, A1_build, A1_lits, A1_load, shallow_none, A1_store, A1_nilCheckI, nilOk_ptr, nilOk_func, A1_bin, A1_eqNil, A1_eqBool, A1_eqAgg, A1_un, A1_conv, A1_field, A1_fieldAddr, A1_indexAddr, A1_indexArr, A1_index, A1_slice, A1_mkSlice, A1_extract, A1_func, A1_call, A1_append, A1_len, A1_minmax, put_some, put_none, upd_at, ev_tmp, ev_av, bin_lss, bin_leq, bin_gtr, bin_geq, bin_eql, bin_neq, bin_add, bin_sub, bin_mul, un_not, natOf_nat, Bool.not_eq_false', Prod.mk.injEq, and_assoc, decide_false, decide_true, Bool.not_false, Bool.not_true, Bool.true_eq_false, Bool.false_eq_true, exists_false, Bool.not_eq_false, Bool.not_not, AV.val.injEq, AV.ptr.injEq, AV.slice.injEq, AV.func.injEq, AV.tuple.injEq, AV.agg.injEq, Value.bool.injEq, Value.int.injEq, Option.some.injEq, exists_eq_left', exists_eq_left, exists_and_left, exists_and_right, and_true, true_and, decide_eq_true_eq, decide_eq_false_iff_not, if_true, if_false, Bool.not_eq_true', beq_true, beq_false, ne_eq, not_true_eq_false, not_false_eq_true, reduceCtorEq, List.getD_cons_zero, List.getD_cons_succ, List.map_cons, List.map_nil, List.append_nil, Nat.reduceEqDiff, reduceIte, ite_true, ite_false, or_true, true_or, or_false, false_or, resA, resultsA, true_imp_iff, false_imp_iff, implies_true, imp_false, and_self, imp_self, and_false, false_and, forall_const, cell_val, cell_ptr, cell_slice, cell_func, cell_hole, cells_agg, cells_val, cells_ptr, cells_slice, cells_func, cells_hole, cells_cell, List.length_cons, List.length_nil, List.all_cons, List.all_nil, Bool.and_self, ldA, List.mapM_cons, List.mapM_nil, Option.bind_eq_bind, Option.bind_some, Option.pure_def, Option.map_none, Option.map_some, List.set_cons_zero, List.set_cons_succ, Nat.lt_add_one, List.append_assoc, List.cons_append, List.nil_append, List.append_nil, List.length_append, rd1_n0, rd1_nK, rd1_c0, rd1_cS, rd_n0, rd_nK, rd_c0, rd_cS, fillA, List.take_zero, List.take_succ_cons, List.take_nil, List.drop_zero, List.drop_succ_cons, List.drop_nil, List.getElem?_cons_zero, List.getElem?_cons_succ, Nat.reduceAdd, Nat.reduceLeDiff, Nat.add_eq_zero_iff, and_self, Nat.zero_add, Nat.add_zero, Nat.mul_one, *]) | (simp only [goO, AO_nil, then_normal, goC]) | (with_reducible apply And.intro) | (with_reducible intro _))
  refine check_am (h1.ext _) (h2.ext _) fun e => ?_
  obtain ⟨H, hH⟩ : ∃ H, H = h ++ [some [v1, v2]] ++ e := ⟨_, rfl⟩
  have b0 : blk H h.length = some [v1, v2] := by rw [hH, List.append_assoc]; rw [blk_at0]; rfl
  have kH : Keep h H [] := by rw [hH, List.append_assoc]; exact Keep.ext _ _
  have hHl : h.length ≤ H.length := kH.1
  rw [← hH]
  clear hH
  by_cases hE : checkE has roots = 0
  · by_cases hP : ps.length > 50
    · have hL : liveE has roots ps = 2 := by unfold liveE; rw [if_neg (by simp [hE]), if_pos hP]
      rw [hL] at hK
      have fin := hK H .nil ⟨[], ⟨rfl, .inl ⟨rfl, .inl rfl⟩⟩, kH, by rw [hL]; rfl⟩
      rw [hE]
      have hP' : (50 : Int) < ps.length := by omega
      clear hK hE hL hP
      repeat' (first | (simp only [AW_next, AW_ops, AW_cond, AW_block, AW_exit, AW_ret, AW_skip, AW_scope, AO_nil, AO_next, AO_nextW, wantB_bool, wantK_some, then_normal, then_exit, then_ret, inBlk_normal, inBlk_exit, inBlk_ret, A1_mv, A1_pick, A1_box, A1_zero, A1_build, A1_lits, A1_load, shallow_none, A1_store, A1_nilCheckI, nilOk_ptr, nilOk_func, A1_bin, A1_eqNil, A1_eqBool, A1_eqAgg, A1_un, A1_conv, A1_field, A1_fieldAddr, A1_indexAddr, A1_indexArr, A1_index, A1_slice, A1_mkSlice, A1_extract, A1_func, A1_call, A1_append, A1_len, A1_minmax, put_some, put_none, upd_at, ev_tmp, ev_av, bin_lss, bin_leq, bin_gtr, bin_geq, bin_eql, bin_neq, bin_add, bin_sub, bin_mul, un_not, natOf_nat, Bool.not_eq_false', Prod.mk.injEq, and_assoc, decide_false, decide_true, Bool.not_false, Bool.not_true, Bool.true_eq_false, Bool.false_eq_true, exists_false, Bool.not_eq_false, Bool.not_not, AV.val.injEq, AV.ptr.injEq, AV.slice.injEq, AV.func.injEq, AV.tuple.injEq, AV.agg.injEq, Value.bool.injEq, Value.int.injEq, Option.some.injEq, exists_eq_left', exists_eq_left, exists_and_left, exists_and_right, and_true, true_and, decide_eq_true_eq, decide_eq_false_iff_not, if_true, if_false, Bool.not_eq_true', beq_true, beq_false, ne_eq, not_true_eq_false, not_false_eq_true, reduceCtorEq, List.getD_cons_zero, List.getD_cons_succ, List.map_cons, List.map_nil, List.append_nil, Nat.reduceEqDiff, reduceIte, ite_true, ite_false, or_true, true_or, or_false, false_or, resA, resultsA, true_imp_iff, false_imp_iff, implies_true, imp_false, and_self, imp_self, and_false, false_and, forall_const, cell_val, cell_ptr, cell_slice, cell_func, cell_hole, cells_agg, cells_val, cells_ptr, cells_slice, cells_func, cells_hole, cells_cell, List.length_cons, List.length_nil, List.all_cons, List.all_nil, Bool.and_self, ldA, List.mapM_cons, List.mapM_nil, Option.bind_eq_bind, Option.bind_some, Option.pure_def, Option.map_none, Option.map_some, List.set_cons_zero, List.set_cons_succ, Nat.lt_add_one, List.append_assoc, List.cons_append, List.nil_append, List.append_nil, List.length_append, rd1_n0, rd1_nK, rd1_c0, rd1_cS, rd_n0, rd_nK, rd_c0, rd_cS, fillA, List.take_zero, List.take_succ_cons, List.take_nil, List.drop_zero, List.drop_succ_cons, List.drop_nil, List.getElem?_cons_zero, List.getElem?_cons_succ, Nat.reduceAdd, Nat.reduceLeDiff, Nat.add_eq_zero_iff, and_self, Nat.zero_add, Nat.add_zero, Nat.mul_one, hplen, hP', *]) | (simp only [goO, AO_nil, then_normal, goC]) | (with_reducible apply And.intro) | (with_reducible intro _))
    · have hfail : ∀ h', Keep H h' [] → (¬ ∀ p ∈ ps, pairIn has.length p) → K (.tuple [.nil, I64 3]) h' := fun h' kp hn => by
        have hL : liveE has roots ps = 3 := by unfold liveE; rw [if_neg (by simp [hE]), if_neg hP, if_neg hn]
        have := hK h' .nil ⟨[], ⟨rfl, .inl ⟨rfl, .inl rfl⟩⟩, kH.then kp (by simp) (by simp), by rw [hL]; rfl⟩
        rw [hL] at this
        exact this
      have hokk : (∀ p ∈ ps, pairIn has.length p) → ∀ h' sv, BL h' sv (liveSb has ps roots) → Keep h h' [] → K (.tuple [sv, I64 0]) h' := fun hy h' sv hs kp => by
        have hL : liveE has roots ps = 0 := by unfold liveE; rw [if_neg (by simp [hE]), if_neg hP, if_pos hy]
        have := hK h' sv ⟨_, hs, kp, by rw [hL]; rfl⟩
        rw [hL] at this
        exact this
      rw [hE]
      have hP' : ¬ (50 : Int) < ps.length := by omega
      have hP'' : ps.length ≤ 50 := by omega
      clear hP
      have HE := Lib.hid hE
      clear hE hK
      repeat' (first | (simp only [AW_next, AW_ops, AW_cond, AW_block, AW_exit, AW_ret, AW_skip, AW_scope, AO_nil, AO_next, AO_nextW, wantB_bool, wantK_some, then_normal, then_exit, then_ret, inBlk_normal, inBlk_exit, inBlk_ret, A1_mv, A1_pick, A1_box, A1_zero, A1_build, A1_lits, A1_load, shallow_none, A1_store, A1_nilCheckI, nilOk_ptr, nilOk_func, A1_bin, A1_eqNil, A1_eqBool, A1_eqAgg, A1_un, A1_conv, A1_field, A1_fieldAddr, A1_indexAddr, A1_indexArr, A1_index, A1_slice, A1_mkSlice, A1_extract, A1_func, A1_call, A1_append, A1_len, A1_minmax, put_some, put_none, upd_at, ev_tmp, ev_av, bin_lss, bin_leq, bin_gtr, bin_geq, bin_eql, bin_neq, bin_add, bin_sub, bin_mul, un_not, natOf_nat, Bool.not_eq_false', Prod.mk.injEq, and_assoc, decide_false, decide_true, Bool.not_false, Bool.not_true, Bool.true_eq_false, Bool.false_eq_true, exists_false, Bool.not_eq_false, Bool.not_not, AV.val.injEq, AV.ptr.injEq, AV.slice.injEq, AV.func.injEq, AV.tuple.injEq, AV.agg.injEq, Value.bool.injEq, Value.int.injEq, Option.some.injEq, exists_eq_left', exists_eq_left, exists_and_left, exists_and_right, and_true, true_and, decide_eq_true_eq, decide_eq_false_iff_not, if_true, if_false, Bool.not_eq_true', beq_true, beq_false, ne_eq, not_true_eq_false, not_false_eq_true, reduceCtorEq, List.getD_cons_zero, List.getD_cons_succ, List.map_cons, List.map_nil, List.append_nil, Nat.reduceEqDiff, reduceIte, ite_true, ite_false, or_true, true_or, or_false, false_or, resA, resultsA, true_imp_iff, false_imp_iff, implies_true, imp_false, and_self, imp_self, and_false, false_and, forall_const, cell_val, cell_ptr, cell_slice, cell_func, cell_hole, cells_agg, cells_val, cells_ptr, cells_slice, cells_func, cells_hole, cells_cell, List.length_cons, List.length_nil, List.all_cons, List.all_nil, Bool.and_self, ldA, List.mapM_cons, List.mapM_nil, Option.bind_eq_bind, Option.bind_some, Option.pure_def, Option.map_none, Option.map_some, List.set_cons_zero, List.set_cons_succ, Nat.lt_add_one, List.append_assoc, List.cons_append, List.nil_append, List.append_nil, List.length_append, rd1_n0, rd1_nK, rd1_c0, rd1_cS, rd_n0, rd_nK, rd_c0, rd_cS, fillA, List.take_zero, List.take_succ_cons, List.take_nil, List.drop_zero, List.drop_succ_cons, List.drop_nil, List.getElem?_cons_zero, List.getElem?_cons_succ, Nat.reduceAdd, Nat.reduceLeDiff, Nat.add_eq_zero_iff, and_self, Nat.zero_add, Nat.add_zero, Nat.mul_one, hplen, hP', *]) | (simp only [goO, AO_nil, then_normal, goC]) | (with_reducible apply And.intro) | (with_reducible intro _))
      refine AW.named fun S hS => ?_
      have g1 : S 1 = lv := by rw [hS]; rfl
      have g2 : S 2 = .ptr h.length 0 := by rw [hS]; rfl
      have g21 : S 21 = lv := by rw [hS]; rfl
      have g22 : S 22 = I64 ps.length := by rw [hS]; rfl
      have g23 : S 23 = I64 (0 : Nat) := by rw [hS]; rfl
      clear hS
      refine AW_for ps.length (by omega) g23 g22 rfl rfl (by decide) (fun k s' h' => Keep H h' [] ∧ PrePair has.length ps k) ⟨Keep.refl _, fun i hi hk => by omega⟩ ?_ ?_
      · rintro k s' h' hk ⟨kp, hpr⟩ hi hl hs
        have f21 := (hs 21 rfl).trans g21
        have f2 := (hs 2 rfl).trans g2
        clear hs g1 g2 g21 g22 g23
        obtain ⟨id, off, lb, ex, rfl, hrd⟩ := ((hp.keep kH (by simp)).keep kp (by simp)).at hk
        have b1 := kp.get (by simp) b0
        have b2 : ∀ e, blk (h' ++ e) h.length = some [v1, v2] := fun e => blk_ext e b1
        have hr1 : ∀ e off, rd1 (h' ++ e) h.length off = [v1, v2][off]? := fun e off => rd1_of (b2 e)
        have hw : wr fl (h' ++ [some [.val (.int .i64 0), .val (.int .i64 0)]]) h'.length 0 [I64 ps[k].1, I64 ps[k].2] = some (h' ++ [some [I64 ps[k].1, I64 ps[k].2]]) := by
          rw [wr_n0 (l := [.val (.int .i64 0), .val (.int .i64 0)]) rfl (hf _ (by have := kp.1; omega)) (by simp)]; rfl
        have hl1 := h1.len
        have kp2 : Keep H (h' ++ [some [I64 ps[k].1, I64 ps[k].2]]) [] := kp.then (Keep.ext [] _) (by simp) (by simp)
        have hno : ¬ pairIn has.length ps[k] → K (.tuple [.nil, I64 3]) (h' ++ [some [I64 ps[k].1, I64 ps[k].2]]) := fun q => hfail _ kp2 fun hy => q (hy _ (List.getElem_mem _))
        clear hfail hokk
        repeat' (first | (simp only [AW_next, AW_ops, AW_cond, AW_block, AW_exit, AW_ret, AW_skip, AW_scope, AO_nil, AO_next, AO_nextW, wantB_bool, wantK_some, then_normal, then_exit, then_ret, inBlk_normal, inBlk_exit, inBlk_ret, A1_mv, A1_pick, A1_box, A1_zero, A1_build, A1_lits, A1_load, shallow_none, A1_store, A1_nilCheckI, nilOk_ptr, nilOk_func, A1_bin, A1_eqNil, A1_eqBool, A1_eqAgg, A1_un, A1_conv, A1_field, A1_fieldAddr, A1_indexAddr, A1_indexArr, A1_index, A1_slice, A1_mkSlice, A1_extract, A1_func, A1_call, A1_append, A1_len, A1_minmax, put_some, put_none, upd_at, ev_tmp, ev_av, bin_lss, bin_leq, bin_gtr, bin_geq, bin_eql, bin_neq, bin_add, bin_sub, bin_mul, un_not, natOf_nat, Bool.not_eq_false', Prod.mk.injEq, and_assoc, decide_false, decide_true, Bool.not_false, Bool.not_true, Bool.true_eq_false, Bool.false_eq_true, exists_false, Bool.not_eq_false, Bool.not_not, AV.val.injEq, AV.ptr.injEq, AV.slice.injEq, AV.func.injEq, AV.tuple.injEq, AV.agg.injEq, Value.bool.injEq, Value.int.injEq, Option.some.injEq, exists_eq_left', exists_eq_left, exists_and_left, exists_and_right, and_true, true_and, decide_eq_true_eq, decide_eq_false_iff_not, if_true, if_false, Bool.not_eq_true', beq_true, beq_false, ne_eq, not_true_eq_false, not_false_eq_true, reduceCtorEq, List.getD_cons_zero, List.getD_cons_succ, List.map_cons, List.map_nil, List.append_nil, Nat.reduceEqDiff, reduceIte, ite_true, ite_false, or_true, true_or, or_false, false_or, resA, resultsA, true_imp_iff, false_imp_iff, implies_true, imp_false, and_self, imp_self, and_false, false_and, forall_const, cell_val, cell_ptr, cell_slice, cell_func, cell_hole, cells_agg, cells_val, cells_ptr, cells_slice, cells_func, cells_hole, cells_cell, List.length_cons, List.length_nil, List.all_cons, List.all_nil, Bool.and_self, ldA, List.mapM_cons, List.mapM_nil, Option.bind_eq_bind, Option.bind_some, Option.pure_def, Option.map_none, Option.map_some, List.set_cons_zero, List.set_cons_succ, Nat.lt_add_one, List.append_assoc, List.cons_append, List.nil_append, List.append_nil, List.length_append, rd1_n0, rd1_nK, rd1_c0, rd1_cS, rd_n0, rd_nK, rd_c0, rd_cS, fillA, List.take_zero, List.take_succ_cons, List.take_nil, List.drop_zero, List.drop_succ_cons, List.drop_nil, List.getElem?_cons_zero, List.getElem?_cons_succ, Nat.reduceAdd, Nat.reduceLeDiff, Nat.add_eq_zero_iff, and_self, Nat.zero_add, Nat.add_zero, Nat.mul_one, hrd, hw, hr1, hl1, natOf_nat, *]) | (simp only [goO, AO_nil, then_normal, goC]) | (with_reducible apply And.intro) | (with_reducible intro _))
        refine in_am ?_
        by_cases q1 : 0 ≤ ps[k].1 ∧ ps[k].1 < (has.length : Int)
        · repeat' (first | (simp only [AW_next, AW_ops, AW_cond, AW_block, AW_exit, AW_ret, AW_skip, AW_scope, AO_nil, AO_next, AO_nextW, wantB_bool, wantK_some, then_normal, then_exit, then_ret, inBlk_normal, inBlk_exit, inBlk_ret, A1_mv, A1_pick, A1_box, A1_zero, A1_build, A1_lits, A1_load, shallow_none, A1_store, A1_nilCheckI, nilOk_ptr, nilOk_func, A1_bin, A1_eqNil, A1_eqBool, A1_eqAgg, A1_un, A1_conv, A1_field, A1_fieldAddr, A1_indexAddr, A1_indexArr, A1_index, A1_slice, A1_mkSlice, A1_extract, A1_func, A1_call, A1_append, A1_len, A1_minmax, put_some, put_none, upd_at, ev_tmp, ev_av, bin_lss, bin_leq, bin_gtr, bin_geq, bin_eql, bin_neq, bin_add, bin_sub, bin_mul, un_not, natOf_nat, Bool.not_eq_false', Prod.mk.injEq, and_assoc, decide_false, decide_true, Bool.not_false, Bool.not_true, Bool.true_eq_false, Bool.false_eq_true, exists_false, Bool.not_eq_false, Bool.not_not, AV.val.injEq, AV.ptr.injEq, AV.slice.injEq, AV.func.injEq, AV.tuple.injEq, AV.agg.injEq, Value.bool.injEq, Value.int.injEq, Option.some.injEq, exists_eq_left', exists_eq_left, exists_and_left, exists_and_right, and_true, true_and, decide_eq_true_eq, decide_eq_false_iff_not, if_true, if_false, Bool.not_eq_true', beq_true, beq_false, ne_eq, not_true_eq_false, not_false_eq_true, reduceCtorEq, List.getD_cons_zero, List.getD_cons_succ, List.map_cons, List.map_nil, List.append_nil, Nat.reduceEqDiff, reduceIte, ite_true, ite_false, or_true, true_or, or_false, false_or, resA, resultsA, true_imp_iff, false_imp_iff, implies_true, imp_false, and_self, imp_self, and_false, false_and, forall_const, cell_val, cell_ptr, cell_slice, cell_func, cell_hole, cells_agg, cells_val, cells_ptr, cells_slice, cells_func, cells_hole, cells_cell, List.length_cons, List.length_nil, List.all_cons, List.all_nil, Bool.and_self, ldA, List.mapM_cons, List.mapM_nil, Option.bind_eq_bind, Option.bind_some, Option.pure_def, Option.map_none, Option.map_some, List.set_cons_zero, List.set_cons_succ, Nat.lt_add_one, List.append_assoc, List.cons_append, List.nil_append, List.append_nil, List.length_append, rd1_n0, rd1_nK, rd1_c0, rd1_cS, rd_n0, rd_nK, rd_c0, rd_cS, fillA, List.take_zero, List.take_succ_cons, List.take_nil, List.drop_zero, List.drop_succ_cons, List.drop_nil, List.getElem?_cons_zero, List.getElem?_cons_succ, Nat.reduceAdd, Nat.reduceLeDiff, Nat.add_eq_zero_iff, and_self, Nat.zero_add, Nat.add_zero, Nat.mul_one, hr1, hl1, natOf_nat, *]) | (simp only [goO, AO_nil, then_normal, goC]) | (with_reducible apply And.intro) | (with_reducible intro _))
          refine in_am ?_
          by_cases q2 : 0 ≤ ps[k].2 ∧ ps[k].2 < (has.length : Int)
          · have fin := hpr.succ hk ⟨q1, q2⟩
            clear hno
            repeat' (first | (simp only [AW_next, AW_ops, AW_cond, AW_block, AW_exit, AW_ret, AW_skip, AW_scope, AO_nil, AO_next, AO_nextW, wantB_bool, wantK_some, then_normal, then_exit, then_ret, inBlk_normal, inBlk_exit, inBlk_ret, A1_mv, A1_pick, A1_box, A1_zero, A1_build, A1_lits, A1_load, shallow_none, A1_store, A1_nilCheckI, nilOk_ptr, nilOk_func, A1_bin, A1_eqNil, A1_eqBool, A1_eqAgg, A1_un, A1_conv, A1_field, A1_fieldAddr, A1_indexAddr, A1_indexArr, A1_index, A1_slice, A1_mkSlice, A1_extract, A1_func, A1_call, A1_append, A1_len, A1_minmax, put_some, put_none, upd_at, ev_tmp, ev_av, bin_lss, bin_leq, bin_gtr, bin_geq, bin_eql, bin_neq, bin_add, bin_sub, bin_mul, un_not, natOf_nat, Bool.not_eq_false', Prod.mk.injEq, and_assoc, decide_false, decide_true, Bool.not_false, Bool.not_true, Bool.true_eq_false, Bool.false_eq_true, exists_false, Bool.not_eq_false, Bool.not_not, AV.val.injEq, AV.ptr.injEq, AV.slice.injEq, AV.func.injEq, AV.tuple.injEq, AV.agg.injEq, Value.bool.injEq, Value.int.injEq, Option.some.injEq, exists_eq_left', exists_eq_left, exists_and_left, exists_and_right, and_true, true_and, decide_eq_true_eq, decide_eq_false_iff_not, if_true, if_false, Bool.not_eq_true', beq_true, beq_false, ne_eq, not_true_eq_false, not_false_eq_true, reduceCtorEq, List.getD_cons_zero, List.getD_cons_succ, List.map_cons, List.map_nil, List.append_nil, Nat.reduceEqDiff, reduceIte, ite_true, ite_false, or_true, true_or, or_false, false_or, resA, resultsA, true_imp_iff, false_imp_iff, implies_true, imp_false, and_self, imp_self, and_false, false_and, forall_const, cell_val, cell_ptr, cell_slice, cell_func, cell_hole, cells_agg, cells_val, cells_ptr, cells_slice, cells_func, cells_hole, cells_cell, List.length_cons, List.length_nil, List.all_cons, List.all_nil, Bool.and_self, ldA, List.mapM_cons, List.mapM_nil, Option.bind_eq_bind, Option.bind_some, Option.pure_def, Option.map_none, Option.map_some, List.set_cons_zero, List.set_cons_succ, Nat.lt_add_one, List.append_assoc, List.cons_append, List.nil_append, List.append_nil, List.length_append, rd1_n0, rd1_nK, rd1_c0, rd1_cS, rd_n0, rd_nK, rd_c0, rd_cS, fillA, List.take_zero, List.take_succ_cons, List.take_nil, List.drop_zero, List.drop_succ_cons, List.drop_nil, List.getElem?_cons_zero, List.getElem?_cons_succ, Nat.reduceAdd, Nat.reduceLeDiff, Nat.add_eq_zero_iff, and_self, Nat.zero_add, Nat.add_zero, Nat.mul_one, *]) | (simp only [goO, AO_nil, then_normal, goC]) | (with_reducible apply And.intro) | (with_reducible intro _))
          · have fin := hno (fun q => q2 q.2)
            clear hno
            repeat' (first | (simp only [AW_next, AW_ops, AW_cond, AW_block, AW_exit, AW_ret, AW_skip, AW_scope, AO_nil, AO_next, AO_nextW, wantB_bool, wantK_some, then_normal, then_exit, then_ret, inBlk_normal, inBlk_exit, inBlk_ret, A1_mv, A1_pick, A1_box, A1_zero, A1_build, A1_lits, A1_load, shallow_none, A1_store, A1_nilCheckI, nilOk_ptr, nilOk_func, A1_bin, A1_eqNil, A1_eqBool, A1_eqAgg, A1_un, A1_conv, A1_field, A1_fieldAddr, A1_indexAddr, A1_indexArr, A1_index, A1_slice, A1_mkSlice, A1_extract, A1_func, A1_call, A1_append, A1_len, A1_minmax, put_some, put_none, upd_at, ev_tmp, ev_av, bin_lss, bin_leq, bin_gtr, bin_geq, bin_eql, bin_neq, bin_add, bin_sub, bin_mul, un_not, natOf_nat, Bool.not_eq_false', Prod.mk.injEq, and_assoc, decide_false, decide_true, Bool.not_false, Bool.not_true, Bool.true_eq_false, Bool.false_eq_true, exists_false, Bool.not_eq_false, Bool.not_not, AV.val.injEq, AV.ptr.injEq, AV.slice.injEq, AV.func.injEq, AV.tuple.injEq, AV.agg.injEq, Value.bool.injEq, Value.int.injEq, Option.some.injEq, exists_eq_left', exists_eq_left, exists_and_left, exists_and_right, and_true, true_and, decide_eq_true_eq, decide_eq_false_iff_not, if_true, if_false, Bool.not_eq_true', beq_true, beq_false, ne_eq, not_true_eq_false, not_false_eq_true, reduceCtorEq, List.getD_cons_zero, List.getD_cons_succ, List.map_cons, List.map_nil, List.append_nil, Nat.reduceEqDiff, reduceIte, ite_true, ite_false, or_true, true_or, or_false, false_or, resA, resultsA, true_imp_iff, false_imp_iff, implies_true, imp_false, and_self, imp_self, and_false, false_and, forall_const, cell_val, cell_ptr, cell_slice, cell_func, cell_hole, cells_agg, cells_val, cells_ptr, cells_slice, cells_func, cells_hole, cells_cell, List.length_cons, List.length_nil, List.all_cons, List.all_nil, Bool.and_self, ldA, List.mapM_cons, List.mapM_nil, Option.bind_eq_bind, Option.bind_some, Option.pure_def, Option.map_none, Option.map_some, List.set_cons_zero, List.set_cons_succ, Nat.lt_add_one, List.append_assoc, List.cons_append, List.nil_append, List.append_nil, List.length_append, rd1_n0, rd1_nK, rd1_c0, rd1_cS, rd_n0, rd_nK, rd_c0, rd_cS, fillA, List.take_zero, List.take_succ_cons, List.take_nil, List.drop_zero, List.drop_succ_cons, List.drop_nil, List.getElem?_cons_zero, List.getElem?_cons_succ, Nat.reduceAdd, Nat.reduceLeDiff, Nat.add_eq_zero_iff, and_self, Nat.zero_add, Nat.add_zero, Nat.mul_one, *]) | (simp only [goO, AO_nil, then_normal, goC]) | (with_reducible apply And.intro) | (with_reducible intro _))
            all_goals trace_state
        · have fin := hno (fun q => q1 q.1)
          clear hno
          repeat' (first | (simp only [AW_next, AW_ops, AW_cond, AW_block, AW_exit, AW_ret, AW_skip, AW_scope, AO_nil, AO_next, AO_nextW, wantB_bool, wantK_some, then_normal, then_exit, then_ret, inBlk_normal, inBlk_exit, inBlk_ret, A1_mv, A1_pick, A1_box, A1_zero, A1_build, A1_lits, A1_load, shallow_none, A1_store, A1_nilCheckI, nilOk_ptr, nilOk_func, A1_bin, A1_eqNil, A1_eqBool, A1_eqAgg, A1_un, A1_conv, A1_field, A1_fieldAddr, A1_indexAddr, A1_indexArr, A1_index, A1_slice, A1_mkSlice, A1_extract, A1_func, A1_call, A1_append, A1_len, A1_minmax, put_some, put_none, upd_at, ev_tmp, ev_av, bin_lss, bin_leq, bin_gtr, bin_geq, bin_eql, bin_neq, bin_add, bin_sub, bin_mul, un_not, natOf_nat, Bool.not_eq_false', Prod.mk.injEq, and_assoc, decide_false, decide_true, Bool.not_false, Bool.not_true, Bool.true_eq_false, Bool.false_eq_true, exists_false, Bool.not_eq_false, Bool.not_not, AV.val.injEq, AV.ptr.injEq, AV.slice.injEq, AV.func.injEq, AV.tuple.injEq, AV.agg.injEq, Value.bool.injEq, Value.int.injEq, Option.some.injEq, exists_eq_left', exists_eq_left, exists_and_left, exists_and_right, and_true, true_and, decide_eq_true_eq, decide_eq_false_iff_not, if_true, if_false, Bool.not_eq_true', beq_true, beq_false, ne_eq, not_true_eq_false, not_false_eq_true, reduceCtorEq, List.getD_cons_zero, List.getD_cons_succ, List.map_cons, List.map_nil, List.append_nil, Nat.reduceEqDiff, reduceIte, ite_true, ite_false, or_true, true_or, or_false, false_or, resA, resultsA, true_imp_iff, false_imp_iff, implies_true, imp_false, and_self, imp_self, and_false, false_and, forall_const, cell_val, cell_ptr, cell_slice, cell_func, cell_hole, cells_agg, cells_val, cells_ptr, cells_slice, cells_func, cells_hole, cells_cell, List.length_cons, List.length_nil, List.all_cons, List.all_nil, Bool.and_self, ldA, List.mapM_cons, List.mapM_nil, Option.bind_eq_bind, Option.bind_some, Option.pure_def, Option.map_none, Option.map_some, List.set_cons_zero, List.set_cons_succ, Nat.lt_add_one, List.append_assoc, List.cons_append, List.nil_append, List.append_nil, List.length_append, rd1_n0, rd1_nK, rd1_c0, rd1_cS, rd_n0, rd_nK, rd_c0, rd_cS, fillA, List.take_zero, List.take_succ_cons, List.take_nil, List.drop_zero, List.drop_succ_cons, List.drop_nil, List.getElem?_cons_zero, List.getElem?_cons_succ, Nat.reduceAdd, Nat.reduceLeDiff, Nat.add_eq_zero_iff, and_self, Nat.zero_add, Nat.add_zero, Nat.mul_one, *]) | (simp only [goO, AO_nil, then_normal, goC]) | (with_reducible apply And.intro) | (with_reducible intro _))
          all_goals trace_state
      · rintro s' h' ⟨kp, hpr⟩ hs
        have f1 := (hs 1 rfl).trans g1
        have f2 := (hs 2 rfl).trans g2
        clear hs g1 g2 g21 g22 g23
        have hall := hpr.all
        replace hokk := hokk hall
        clear hfail
        obtain ⟨e1, e2, e3, e4, e5⟩ := checkE_zero HE.out
        have hb1 := kp.get (by simp) b0
        have r0 : rd h' h.length 0 2 = some [v1, v2] := rd_of hb1 (by simp)
        have hl1 := h1.len
        have hre : has.length ≤ reach := by unfold reach; omega
        have kh' : Keep h h' [] := kH.then kp (by simp) (by simp)
        have hr1 : ∀ e off, rd1 (h' ++ e) h.length off = [v1, v2][off]? := fun e off => rd1_of (blk_ext e hb1)
        obtain ⟨H2, hH2⟩ : ∃ H2, H2 = h' ++ [some (List.replicate has.length (BV false)), some [v1, v2, .slice h'.length 0 has.length has.length true 1, .nil]] := ⟨_, rfl⟩
        obtain ⟨sv, hsv⟩ : ∃ sv, sv = AV.slice h'.length 0 has.length has.length true 1 := ⟨_, rfl⟩
        have k2 : Keep h H2 [] := kh'.then (by rw [hH2]; exact Keep.ext [] _) (by simp) (by simp)
        have hsvc : sv.isCell = true := by rw [hsv]; rfl
        have hR : RL h H2 (h'.length + 1) v1 v2 sv (List.replicate has.length false, []) := by
          have := kh'.1
          refine ⟨.nil, ⟨by rw [hH2, blk_atK, hsv]; rfl, by rw [hsv]; exact BL.made (by rw [hH2, blk_at0]; rfl), OL.nil, by rw [hsv]; simp [idOf], by simp [idOf], by simp [idOf]⟩, k2, fun i hi => by simp [hsv, idOf] at hi; omega⟩
        have HH := Lib.hid hH2
        have HV := Lib.hid hsv
        have KP := Lib.hid kh'.1
        clear hH2 hsv
        repeat' (first | (simp only [AW_next, AW_ops, AW_cond, AW_block, AW_exit, AW_ret, AW_skip, AW_scope, AO_nil, AO_next, AO_nextW, wantB_bool, wantK_some, then_normal, then_exit, then_ret, inBlk_normal, inBlk_exit, inBlk_ret, A1_mv, A1_pick, A1_box, A1_zero, A1_build, A1_lits, A1_load, shallow_none, A1_store, A1_nilCheckI, nilOk_ptr, nilOk_func, A1_bin, A1_eqNil, A1_eqBool, A1_eqAgg, A1_un, A1_conv, A1_field, A1_fieldAddr, A1_indexAddr, A1_indexArr, A1_index, A1_slice, A1_mkSlice, A1_extract, A1_func, A1_call, A1_append, A1_len, A1_minmax, put_some, put_none, upd_at, ev_tmp, ev_av, bin_lss, bin_leq, bin_gtr, bin_geq, bin_eql, bin_neq, bin_add, bin_sub, bin_mul, un_not, natOf_nat, Bool.not_eq_false', Prod.mk.injEq, and_assoc, decide_false, decide_true, Bool.not_false, Bool.not_true, Bool.true_eq_false, Bool.false_eq_true, exists_false, Bool.not_eq_false, Bool.not_not, AV.val.injEq, AV.ptr.injEq, AV.slice.injEq, AV.func.injEq, AV.tuple.injEq, AV.agg.injEq, Value.bool.injEq, Value.int.injEq, Option.some.injEq, exists_eq_left', exists_eq_left, exists_and_left, exists_and_right, and_true, true_and, decide_eq_true_eq, decide_eq_false_iff_not, if_true, if_false, Bool.not_eq_true', beq_true, beq_false, ne_eq, not_true_eq_false, not_false_eq_true, reduceCtorEq, List.getD_cons_zero, List.getD_cons_succ, List.map_cons, List.map_nil, List.append_nil, Nat.reduceEqDiff, reduceIte, ite_true, ite_false, or_true, true_or, or_false, false_or, resA, resultsA, true_imp_iff, false_imp_iff, implies_true, imp_false, and_self, imp_self, and_false, false_and, forall_const, cell_val, cell_ptr, cell_slice, cell_func, cell_hole, cells_agg, cells_val, cells_ptr, cells_slice, cells_func, cells_hole, cells_cell, List.length_cons, List.length_nil, List.all_cons, List.all_nil, Bool.and_self, ldA, List.mapM_cons, List.mapM_nil, Option.bind_eq_bind, Option.bind_some, Option.pure_def, Option.map_none, Option.map_some, List.set_cons_zero, List.set_cons_succ, Nat.lt_add_one, List.append_assoc, List.cons_append, List.nil_append, List.append_nil, List.length_append, rd1_n0, rd1_nK, rd1_c0, rd1_cS, rd_n0, rd_nK, rd_c0, rd_cS, fillA, List.take_zero, List.take_succ_cons, List.take_nil, List.drop_zero, List.drop_succ_cons, List.drop_nil, List.getElem?_cons_zero, List.getElem?_cons_succ, Nat.reduceAdd, Nat.reduceLeDiff, Nat.add_eq_zero_iff, and_self, Nat.zero_add, Nat.add_zero, Nat.mul_one, r0, hl1, natOf_nat, hre, Nat.le_refl, beq_self_eq_true, flat_one, hr1, rd1_of hb1, *]) | (simp only [goO, AO_nil, then_normal, goC]) | (with_reducible apply And.intro) | (with_reducible intro _))
        rw [← HH.out]
        have hbr : ∀ x ∈ roots, 0 ≤ x ∧ x < ((List.replicate has.length false).length : Int) := by simpa using e5
        refine reach_rl hR (h2.keep k2 (by simp)) (fun i hi => Sl.lt h2 i hi) hbr (by omega) (by rw [replicate_unseen]; simp; omega) hf fun h3 q1 => ?_
        have hG : GInv has (Liv has ps roots) (reachL (List.replicate has.length false, []) roots) := (GInv.start has _ has.length).reach fun x hx => ⟨hbr x hx, Liv.base hx⟩
        have hsn := reachL_seen roots (List.replicate has.length false, []) (fun x hx => by have := hbr x hx; show x.toNat < (List.replicate has.length false).length; omega)
        have hll := reachL_length roots (List.replicate has.length false, [])
        have hbd := reachL_bound roots (List.replicate has.length false, []) (fun x hx => by have := hbr x hx; show x.toNat < (List.replicate has.length false).length; omega)
        obtain ⟨st1, hst⟩ : ∃ st, st = reachL (List.replicate has.length false, []) roots := ⟨_, rfl⟩
        rw [← hst] at q1 hG hsn hll hbd
        clear hst
        dsimp only at hsn hll hbd
        rw [List.length_replicate] at hll
        rw [replicate_unseen, List.length_nil] at hbd
        have hroot : ∀ x ∈ roots, Sn st1.1 x.toNat := fun x hx => (hsn _).2 (.inr ⟨x, hx, rfl⟩)
        have HLL := Lib.hid hll
        clear hsn hR hr1 hll
        repeat' (first | (simp only [AW_next, AW_ops, AW_cond, AW_block, AW_exit, AW_ret, AW_skip, AW_scope, AO_nil, AO_next, AO_nextW, wantB_bool, wantK_some, then_normal, then_exit, then_ret, inBlk_normal, inBlk_exit, inBlk_ret, A1_mv, A1_pick, A1_box, A1_zero, A1_build, A1_lits, A1_load, shallow_none, A1_store, A1_nilCheckI, nilOk_ptr, nilOk_func, A1_bin, A1_eqNil, A1_eqBool, A1_eqAgg, A1_un, A1_conv, A1_field, A1_fieldAddr, A1_indexAddr, A1_indexArr, A1_index, A1_slice, A1_mkSlice, A1_extract, A1_func, A1_call, A1_append, A1_len, A1_minmax, put_some, put_none, upd_at, ev_tmp, ev_av, bin_lss, bin_leq, bin_gtr, bin_geq, bin_eql, bin_neq, bin_add, bin_sub, bin_mul, un_not, natOf_nat, Bool.not_eq_false', Prod.mk.injEq, and_assoc, decide_false, decide_true, Bool.not_false, Bool.not_true, Bool.true_eq_false, Bool.false_eq_true, exists_false, Bool.not_eq_false, Bool.not_not, AV.val.injEq, AV.ptr.injEq, AV.slice.injEq, AV.func.injEq, AV.tuple.injEq, AV.agg.injEq, Value.bool.injEq, Value.int.injEq, Option.some.injEq, exists_eq_left', exists_eq_left, exists_and_left, exists_and_right, and_true, true_and, decide_eq_true_eq, decide_eq_false_iff_not, if_true, if_false, Bool.not_eq_true', beq_true, beq_false, ne_eq, not_true_eq_false, not_false_eq_true, reduceCtorEq, List.getD_cons_zero, List.getD_cons_succ, List.map_cons, List.map_nil, List.append_nil, Nat.reduceEqDiff, reduceIte, ite_true, ite_false, or_true, true_or, or_false, false_or, resA, resultsA, true_imp_iff, false_imp_iff, implies_true, imp_false, and_self, imp_self, and_false, false_and, forall_const, cell_val, cell_ptr, cell_slice, cell_func, cell_hole, cells_agg, cells_val, cells_ptr, cells_slice, cells_func, cells_hole, cells_cell, List.length_cons, List.length_nil, List.all_cons, List.all_nil, Bool.and_self, ldA, List.mapM_cons, List.mapM_nil, Option.bind_eq_bind, Option.bind_some, Option.pure_def, Option.map_none, Option.map_some, List.set_cons_zero, List.set_cons_succ, Nat.lt_add_one, List.append_assoc, List.cons_append, List.nil_append, List.append_nil, List.length_append, rd1_n0, rd1_nK, rd1_c0, rd1_cS, rd_n0, rd_nK, rd_c0, rd_cS, fillA, List.take_zero, List.take_succ_cons, List.take_nil, List.drop_zero, List.drop_succ_cons, List.drop_nil, List.getElem?_cons_zero, List.getElem?_cons_succ, Nat.reduceAdd, Nat.reduceLeDiff, Nat.add_eq_zero_iff, and_self, Nat.zero_add, Nat.add_zero, Nat.mul_one, *]) | (simp only [goO, AO_nil, then_normal, goC]) | (with_reducible apply And.intro) | (with_reducible intro _))
        refine AW.named fun S hS => ?_
        have g1 : S 1 = lv := by rw [hS]; simp only [upd_at, reduceIte, Nat.reduceEqDiff, f1]
        have g9 : S 9 = .ptr (h'.length + 1) 0 := by rw [hS]; rfl
        have g10 : S 10 = BV true := by rw [hS]; rfl
        clear hS f1 f2
        obtain ⟨rp, hrp⟩ : ∃ rp, rp = h'.length + 1 := ⟨_, rfl⟩
        rw [← hrp] at g9 q1
        clear hrp
        refine AW_while (fun n s2 h2' => LiveO h h2' rp v1 v2 sv has ps roots (s2 10) n) _ ⟨st1, true, g10, rfl, ⟨q1, HLL.out, hG, by omega, hroot⟩, fun h => by cases h⟩ ?_
        rintro n s2 h2' ⟨st, mo, f10, hn, hI, hmo⟩ hs
        have f1 := (hs 1 (by decide)).trans g1
        have f9 := (hs 9 (by decide)).trans g9
        clear hs g1 g9 g10 q1 hG hbd hroot HLL
        cases mo with
        | false =>
          obtain ⟨sb, td⟩ := st
          obtain ⟨z1, z2⟩ := hmo rfl
          dsimp only at z1
          subst z1
          have hsb := hI.done z2
          obtain ⟨tv, r, hk, _⟩ := hI.rl
          have rc := r.rc
          have fin := hokk h2' sv (by rw [← hsb]; exact r.seen) hk
          clear hokk hn hmo hsb
          repeat' (first | (simp only [AW_next, AW_ops, AW_cond, AW_block, AW_exit, AW_ret, AW_skip, AW_scope, AO_nil, AO_next, AO_nextW, wantB_bool, wantK_some, then_normal, then_exit, then_ret, inBlk_normal, inBlk_exit, inBlk_ret, A1_mv, A1_pick, A1_box, A1_zero, A1_build, A1_lits, A1_load, shallow_none, A1_store, A1_nilCheckI, nilOk_ptr, nilOk_func, A1_bin, A1_eqNil, A1_eqBool, A1_eqAgg, A1_un, A1_conv, A1_field, A1_fieldAddr, A1_indexAddr, A1_indexArr, A1_index, A1_slice, A1_mkSlice, A1_extract, A1_func, A1_call, A1_append, A1_len, A1_minmax, put_some, put_none, upd_at, ev_tmp, ev_av, bin_lss, bin_leq, bin_gtr, bin_geq, bin_eql, bin_neq, bin_add, bin_sub, bin_mul, un_not, natOf_nat, Bool.not_eq_false', Prod.mk.injEq, and_assoc, decide_false, decide_true, Bool.not_false, Bool.not_true, Bool.true_eq_false, Bool.false_eq_true, exists_false, Bool.not_eq_false, Bool.not_not, AV.val.injEq, AV.ptr.injEq, AV.slice.injEq, AV.func.injEq, AV.tuple.injEq, AV.agg.injEq, Value.bool.injEq, Value.int.injEq, Option.some.injEq, exists_eq_left', exists_eq_left, exists_and_left, exists_and_right, and_true, true_and, decide_eq_true_eq, decide_eq_false_iff_not, if_true, if_false, Bool.not_eq_true', beq_true, beq_false, ne_eq, not_true_eq_false, not_false_eq_true, reduceCtorEq, List.getD_cons_zero, List.getD_cons_succ, List.map_cons, List.map_nil, List.append_nil, Nat.reduceEqDiff, reduceIte, ite_true, ite_false, or_true, true_or, or_false, false_or, resA, resultsA, true_imp_iff, false_imp_iff, implies_true, imp_false, and_self, imp_self, and_false, false_and, forall_const, cell_val, cell_ptr, cell_slice, cell_func, cell_hole, cells_agg, cells_val, cells_ptr, cells_slice, cells_func, cells_hole, cells_cell, List.length_cons, List.length_nil, List.all_cons, List.all_nil, Bool.and_self, ldA, List.mapM_cons, List.mapM_nil, Option.bind_eq_bind, Option.bind_some, Option.pure_def, Option.map_none, Option.map_some, List.set_cons_zero, List.set_cons_succ, Nat.lt_add_one, List.append_assoc, List.cons_append, List.nil_append, List.append_nil, List.length_append, rd1_n0, rd1_nK, rd1_c0, rd1_cS, rd_n0, rd_nK, rd_c0, rd_cS, fillA, List.take_zero, List.take_succ_cons, List.take_nil, List.drop_zero, List.drop_succ_cons, List.drop_nil, List.getElem?_cons_zero, List.getElem?_cons_succ, Nat.reduceAdd, Nat.reduceLeDiff, Nat.add_eq_zero_iff, and_self, Nat.zero_add, Nat.add_zero, Nat.mul_one, rd1_of rc, *]) | (simp only [goO, AO_nil, then_normal, goC]) | (with_reducible apply And.intro) | (with_reducible intro _))
        | true =>
          have HN := Lib.hid hn
          clear hmo hn
          repeat' (first | (simp only [AW_next, AW_ops, AW_cond, AW_block, AW_exit, AW_ret, AW_skip, AW_scope, AO_nil, AO_next, AO_nextW, wantB_bool, wantK_some, then_normal, then_exit, then_ret, inBlk_normal, inBlk_exit, inBlk_ret, A1_mv, A1_pick, A1_box, A1_zero, A1_build, A1_lits, A1_load, shallow_none, A1_store, A1_nilCheckI, nilOk_ptr, nilOk_func, A1_bin, A1_eqNil, A1_eqBool, A1_eqAgg, A1_un, A1_conv, A1_field, A1_fieldAddr, A1_indexAddr, A1_indexArr, A1_index, A1_slice, A1_mkSlice, A1_extract, A1_func, A1_call, A1_append, A1_len, A1_minmax, put_some, put_none, upd_at, ev_tmp, ev_av, bin_lss, bin_leq, bin_gtr, bin_geq, bin_eql, bin_neq, bin_add, bin_sub, bin_mul, un_not, natOf_nat, Bool.not_eq_false', Prod.mk.injEq, and_assoc, decide_false, decide_true, Bool.not_false, Bool.not_true, Bool.true_eq_false, Bool.false_eq_true, exists_false, Bool.not_eq_false, Bool.not_not, AV.val.injEq, AV.ptr.injEq, AV.slice.injEq, AV.func.injEq, AV.tuple.injEq, AV.agg.injEq, Value.bool.injEq, Value.int.injEq, Option.some.injEq, exists_eq_left', exists_eq_left, exists_and_left, exists_and_right, and_true, true_and, decide_eq_true_eq, decide_eq_false_iff_not, if_true, if_false, Bool.not_eq_true', beq_true, beq_false, ne_eq, not_true_eq_false, not_false_eq_true, reduceCtorEq, List.getD_cons_zero, List.getD_cons_succ, List.map_cons, List.map_nil, List.append_nil, Nat.reduceEqDiff, reduceIte, ite_true, ite_false, or_true, true_or, or_false, false_or, resA, resultsA, true_imp_iff, false_imp_iff, implies_true, imp_false, and_self, imp_self, and_false, false_and, forall_const, cell_val, cell_ptr, cell_slice, cell_func, cell_hole, cells_agg, cells_val, cells_ptr, cells_slice, cells_func, cells_hole, cells_cell, List.length_cons, List.length_nil, List.all_cons, List.all_nil, Bool.and_self, ldA, List.mapM_cons, List.mapM_nil, Option.bind_eq_bind, Option.bind_some, Option.pure_def, Option.map_none, Option.map_some, List.set_cons_zero, List.set_cons_succ, Nat.lt_add_one, List.append_assoc, List.cons_append, List.nil_append, List.append_nil, List.length_append, rd1_n0, rd1_nK, rd1_c0, rd1_cS, rd_n0, rd_nK, rd_c0, rd_cS, fillA, List.take_zero, List.take_succ_cons, List.take_nil, List.drop_zero, List.drop_succ_cons, List.drop_nil, List.getElem?_cons_zero, List.getElem?_cons_succ, Nat.reduceAdd, Nat.reduceLeDiff, Nat.add_eq_zero_iff, and_self, Nat.zero_add, Nat.add_zero, Nat.mul_one, *]) | (simp only [goO, AO_nil, then_normal, goC]) | (with_reducible apply And.intro) | (with_reducible intro _))
          have hok : okHas has st.1.length := by rw [hI.len]; exact e4
          refine all_rl hI.rl hI.g.toA hok h1 (fun l hl => by have := e3 l hl; omega) hI.bd hf fun h4 sb q2 q3 => ?_
          have hlsb : sb.length = has.length := by
            obtain ⟨tv, r, _⟩ := q2
            obtain ⟨tv', r', _⟩ := hI.rl
            have a := r.seen.len
            have b := r'.seen.len
            have c := hI.len
            rw [a] at b
            simp at b
            omega
          have hun : unseen sb ≤ unseen st.1 := unseen_le (by rw [hlsb, hI.len]) (fun n hn => q3.sup n hn)
          have hI4 : LiveI h h4 rp v1 v2 sv has ps roots (sb, []) := ⟨q2, hlsb, GInv.ofA q3 (Liv.cl _ _ _) (fun n hn => hI.g.sub n hn), by have := hI.bd; simp; omega, fun x hx => q3.sup _ (hI.root x hx)⟩
          have HSB := Lib.hid hlsb
          clear hI hok q2 q3 hlsb
          repeat' (first | (simp only [AW_next, AW_ops, AW_cond, AW_block, AW_exit, AW_ret, AW_skip, AW_scope, AO_nil, AO_next, AO_nextW, wantB_bool, wantK_some, then_normal, then_exit, then_ret, inBlk_normal, inBlk_exit, inBlk_ret, A1_mv, A1_pick, A1_box, A1_zero, A1_build, A1_lits, A1_load, shallow_none, A1_store, A1_nilCheckI, nilOk_ptr, nilOk_func, A1_bin, A1_eqNil, A1_eqBool, A1_eqAgg, A1_un, A1_conv, A1_field, A1_fieldAddr, A1_indexAddr, A1_indexArr, A1_index, A1_slice, A1_mkSlice, A1_extract, A1_func, A1_call, A1_append, A1_len, A1_minmax, put_some, put_none, upd_at, ev_tmp, ev_av, bin_lss, bin_leq, bin_gtr, bin_geq, bin_eql, bin_neq, bin_add, bin_sub, bin_mul, un_not, natOf_nat, Bool.not_eq_false', Prod.mk.injEq, and_assoc, decide_false, decide_true, Bool.not_false, Bool.not_true, Bool.true_eq_false, Bool.false_eq_true, exists_false, Bool.not_eq_false, Bool.not_not, AV.val.injEq, AV.ptr.injEq, AV.slice.injEq, AV.func.injEq, AV.tuple.injEq, AV.agg.injEq, Value.bool.injEq, Value.int.injEq, Option.some.injEq, exists_eq_left', exists_eq_left, exists_and_left, exists_and_right, and_true, true_and, decide_eq_true_eq, decide_eq_false_iff_not, if_true, if_false, Bool.not_eq_true', beq_true, beq_false, ne_eq, not_true_eq_false, not_false_eq_true, reduceCtorEq, List.getD_cons_zero, List.getD_cons_succ, List.map_cons, List.map_nil, List.append_nil, Nat.reduceEqDiff, reduceIte, ite_true, ite_false, or_true, true_or, or_false, false_or, resA, resultsA, true_imp_iff, false_imp_iff, implies_true, imp_false, and_self, imp_self, and_false, false_and, forall_const, cell_val, cell_ptr, cell_slice, cell_func, cell_hole, cells_agg, cells_val, cells_ptr, cells_slice, cells_func, cells_hole, cells_cell, List.length_cons, List.length_nil, List.all_cons, List.all_nil, Bool.and_self, ldA, List.mapM_cons, List.mapM_nil, Option.bind_eq_bind, Option.bind_some, Option.pure_def, Option.map_none, Option.map_some, List.set_cons_zero, List.set_cons_succ, Nat.lt_add_one, List.append_assoc, List.cons_append, List.nil_append, List.append_nil, List.length_append, rd1_n0, rd1_nK, rd1_c0, rd1_cS, rd_n0, rd_nK, rd_c0, rd_cS, fillA, List.take_zero, List.take_succ_cons, List.take_nil, List.drop_zero, List.drop_succ_cons, List.drop_nil, List.getElem?_cons_zero, List.getElem?_cons_succ, Nat.reduceAdd, Nat.reduceLeDiff, Nat.add_eq_zero_iff, and_self, Nat.zero_add, Nat.add_zero, Nat.mul_one, hplen, *]) | (simp only [goO, AO_nil, then_normal, goC]) | (with_reducible apply And.intro) | (with_reducible intro _))
          refine AW.named fun S5 hS5 => ?_
          have g1 : S5 1 = lv := by rw [hS5]; simp only [upd_at, reduceIte, Nat.reduceEqDiff, f1]
          have g9 : S5 9 = .ptr rp 0 := by rw [hS5]; simp only [upd_at, reduceIte, Nat.reduceEqDiff, f9]
          have g10 : S5 10 = BV false := by rw [hS5]; rfl
          have g58 : S5 58 = lv := by rw [hS5]; rfl
          have g59 : S5 59 = I64 ps.length := by rw [hS5]; rfl
          have g60 : S5 60 = I64 (0 : Nat) := by rw [hS5]; rfl
          clear hS5 f1 f9 f10
          refine AW_for ps.length (by omega) g60 g59 rfl rfl (by decide) (fun k s6 h6 => LiveK h h6 rp v1 v2 sv has ps roots sb (s6 10) k) ⟨(sb, []), false, g10, hI4, by simp⟩ ?_ ?_
          · rintro k s6 h6 hk ⟨u, mo, j10, hIu, hmo⟩ hi hl hs
            have j58 := (hs 58 rfl).trans g58
            have j9 := (hs 9 rfl).trans g9
            clear hs g1 g9 g10 g58 g59 g60 hI4
            have hpk := hall _ (List.getElem_mem hk)
            obtain ⟨tv, r, hkp, hge⟩ := hIu.rl
            obtain ⟨id, off, lb, ex, rfl, hrd⟩ := (hp.keep hkp (by simp)).at hk
            obtain ⟨p, hpe⟩ : ∃ p, p = ps[k] := ⟨_, rfl⟩
            rw [← hpe] at hpk hrd
            obtain ⟨⟨a1, a2⟩, a3, a4⟩ := hpk
            obtain ⟨m1, hm1⟩ := Int.eq_ofNat_of_zero_le a1
            obtain ⟨m2, hm2⟩ := Int.eq_ofNat_of_zero_le a3
            have ul := hIu.len
            have lt1 : m1 < u.1.length := by omega
            have lt2 : m2 < u.1.length := by omega
            rw [hm1, hm2] at hrd
            obtain ⟨sid, soff, slb, sex, rfl, hsr⟩ := r.seen.allE (by omega)
            have rc := r.rc
            have hrp : ∀ e off, rd1 (h6 ++ e) rp off = [v1, v2, .slice sid soff u.1.length slb sex 1, tv][off]? := fun e off => rd1_of (blk_ext e rc)
            have hs1 := hsr m1 lt1
            have hs2 := hsr m2 lt2
            have n1 : Sn u.1 p.1.toNat ↔ u.1[m1] = true := by rw [hm1]; exact Sn_at lt1
            have n2 : Sn u.1 p.2.toNat ↔ u.1[m2] = true := by rw [hm2]; exact Sn_at lt2
            have hw : wr fl (h6 ++ [some [.val (.int .i64 0), .val (.int .i64 0)]]) h6.length 0 [I64 m1, I64 m2] = some (h6 ++ [some [I64 m1, I64 m2]]) := by
              rw [wr_n0 (l := [.val (.int .i64 0), .val (.int .i64 0)]) rfl (hf _ (by have := hkp.1; omega)) (by simp)]; rfl
            have hgr : Keep h6 (h6 ++ [some [I64 m1, I64 m2]]) [] := Keep.ext _ _
            have hI7 : LiveI h (h6 ++ [some [I64 m1, I64 m2]]) rp v1 v2 (.slice sid soff u.1.length slb sex 1) has ps roots u := ⟨hIu.rl.grow hgr, hIu.len, hIu.g, hIu.bd, hIu.root⟩
            have hnext := fun q => pairs_next (u := u) (mo := mo) hk hpe hmo q
            clear hsr hIu r hge hkp ul
            cases hb1 : u.1[m1] with
            | false =>
              rw [hb1] at hs1
              have fin : LiveK h (h6 ++ [some [I64 m1, I64 m2]]) rp v1 v2 (.slice sid soff u.1.length slb sex 1) has ps roots sb (BV mo) (k + 1) := ⟨u, mo, rfl, hI7, hnext (fun q => by rw [n1, hb1] at q; cases q)⟩
              clear hs2 hnext hmo n1 n2 hm1 hm2 hpe
              repeat' (first | (simp only [AW_next, AW_ops, AW_cond, AW_block, AW_exit, AW_ret, AW_skip, AW_scope, AO_nil, AO_next, AO_nextW, wantB_bool, wantK_some, then_normal, then_exit, then_ret, inBlk_normal, inBlk_exit, inBlk_ret, A1_mv, A1_pick, A1_box, A1_zero, A1_build, A1_lits, A1_load, shallow_none, A1_store, A1_nilCheckI, nilOk_ptr, nilOk_func, A1_bin, A1_eqNil, A1_eqBool, A1_eqAgg, A1_un, A1_conv, A1_field, A1_fieldAddr, A1_indexAddr, A1_indexArr, A1_index, A1_slice, A1_mkSlice, A1_extract, A1_func, A1_call, A1_append, A1_len, A1_minmax, put_some, put_none, upd_at, ev_tmp, ev_av, bin_lss, bin_leq, bin_gtr, bin_geq, bin_eql, bin_neq, bin_add, bin_sub, bin_mul, un_not, natOf_nat, Bool.not_eq_false', Prod.mk.injEq, and_assoc, decide_false, decide_true, Bool.not_false, Bool.not_true, Bool.true_eq_false, Bool.false_eq_true, exists_false, Bool.not_eq_false, Bool.not_not, AV.val.injEq, AV.ptr.injEq, AV.slice.injEq, AV.func.injEq, AV.tuple.injEq, AV.agg.injEq, Value.bool.injEq, Value.int.injEq, Option.some.injEq, exists_eq_left', exists_eq_left, exists_and_left, exists_and_right, and_true, true_and, decide_eq_true_eq, decide_eq_false_iff_not, if_true, if_false, Bool.not_eq_true', beq_true, beq_false, ne_eq, not_true_eq_false, not_false_eq_true, reduceCtorEq, List.getD_cons_zero, List.getD_cons_succ, List.map_cons, List.map_nil, List.append_nil, Nat.reduceEqDiff, reduceIte, ite_true, ite_false, or_true, true_or, or_false, false_or, resA, resultsA, true_imp_iff, false_imp_iff, implies_true, imp_false, and_self, imp_self, and_false, false_and, forall_const, cell_val, cell_ptr, cell_slice, cell_func, cell_hole, cells_agg, cells_val, cells_ptr, cells_slice, cells_func, cells_hole, cells_cell, List.length_cons, List.length_nil, List.all_cons, List.all_nil, Bool.and_self, ldA, List.mapM_cons, List.mapM_nil, Option.bind_eq_bind, Option.bind_some, Option.pure_def, Option.map_none, Option.map_some, List.set_cons_zero, List.set_cons_succ, Nat.lt_add_one, List.append_assoc, List.cons_append, List.nil_append, List.append_nil, List.length_append, rd1_n0, rd1_nK, rd1_c0, rd1_cS, rd_n0, rd_nK, rd_c0, rd_cS, fillA, List.take_zero, List.take_succ_cons, List.take_nil, List.drop_zero, List.drop_succ_cons, List.drop_nil, List.getElem?_cons_zero, List.getElem?_cons_succ, Nat.reduceAdd, Nat.reduceLeDiff, Nat.add_eq_zero_iff, and_self, Nat.zero_add, Nat.add_zero, Nat.mul_one, hrd, hw, hrp, hs1, natOf_nat, *]) | (simp only [goO, AO_nil, then_normal, goC]) | (with_reducible apply And.intro) | (with_reducible intro _))
            | true =>
              rw [hb1] at hs1
              cases hb2 : u.1[m2] with
              | true =>
                rw [hb2] at hs2
                have fin : LiveK h (h6 ++ [some [I64 m1, I64 m2]]) rp v1 v2 (.slice sid soff u.1.length slb sex 1) has ps roots sb (BV mo) (k + 1) := ⟨u, mo, rfl, hI7, hnext (fun q => n2.2 hb2)⟩
                clear hnext hmo n1 n2 hm1 hm2 hpe
                repeat' (first | (simp only [AW_next, AW_ops, AW_cond, AW_block, AW_exit, AW_ret, AW_skip, AW_scope, AO_nil, AO_next, AO_nextW, wantB_bool, wantK_some, then_normal, then_exit, then_ret, inBlk_normal, inBlk_exit, inBlk_ret, A1_mv, A1_pick, A1_box, A1_zero, A1_build, A1_lits, A1_load, shallow_none, A1_store, A1_nilCheckI, nilOk_ptr, nilOk_func, A1_bin, A1_eqNil, A1_eqBool, A1_eqAgg, A1_un, A1_conv, A1_field, A1_fieldAddr, A1_indexAddr, A1_indexArr, A1_index, A1_slice, A1_mkSlice, A1_extract, A1_func, A1_call, A1_append, A1_len, A1_minmax, put_some, put_none, upd_at, ev_tmp, ev_av, bin_lss, bin_leq, bin_gtr, bin_geq, bin_eql, bin_neq, bin_add, bin_sub, bin_mul, un_not, natOf_nat, Bool.not_eq_false', Prod.mk.injEq, and_assoc, decide_false, decide_true, Bool.not_false, Bool.not_true, Bool.true_eq_false, Bool.false_eq_true, exists_false, Bool.not_eq_false, Bool.not_not, AV.val.injEq, AV.ptr.injEq, AV.slice.injEq, AV.func.injEq, AV.tuple.injEq, AV.agg.injEq, Value.bool.injEq, Value.int.injEq, Option.some.injEq, exists_eq_left', exists_eq_left, exists_and_left, exists_and_right, and_true, true_and, decide_eq_true_eq, decide_eq_false_iff_not, if_true, if_false, Bool.not_eq_true', beq_true, beq_false, ne_eq, not_true_eq_false, not_false_eq_true, reduceCtorEq, List.getD_cons_zero, List.getD_cons_succ, List.map_cons, List.map_nil, List.append_nil, Nat.reduceEqDiff, reduceIte, ite_true, ite_false, or_true, true_or, or_false, false_or, resA, resultsA, true_imp_iff, false_imp_iff, implies_true, imp_false, and_self, imp_self, and_false, false_and, forall_const, cell_val, cell_ptr, cell_slice, cell_func, cell_hole, cells_agg, cells_val, cells_ptr, cells_slice, cells_func, cells_hole, cells_cell, List.length_cons, List.length_nil, List.all_cons, List.all_nil, Bool.and_self, ldA, List.mapM_cons, List.mapM_nil, Option.bind_eq_bind, Option.bind_some, Option.pure_def, Option.map_none, Option.map_some, List.set_cons_zero, List.set_cons_succ, Nat.lt_add_one, List.append_assoc, List.cons_append, List.nil_append, List.append_nil, List.length_append, rd1_n0, rd1_nK, rd1_c0, rd1_cS, rd_n0, rd_nK, rd_c0, rd_cS, fillA, List.take_zero, List.take_succ_cons, List.take_nil, List.drop_zero, List.drop_succ_cons, List.drop_nil, List.getElem?_cons_zero, List.getElem?_cons_succ, Nat.reduceAdd, Nat.reduceLeDiff, Nat.add_eq_zero_iff, and_self, Nat.zero_add, Nat.add_zero, Nat.mul_one, hrd, hw, hrp, hs1, hs2, natOf_nat, *]) | (simp only [goO, AO_nil, then_normal, goC]) | (with_reducible apply And.intro) | (with_reducible intro _))
              | false =>
                rw [hb2] at hs2
                have hgo := fun (K2 : AV → Heap → Prop) (k2 : _) => reach1_rl (tb := tb) (K := K2) hI7.rl (x := (m2 : Int)) ⟨by omega, by omega⟩ hI7.bd hf k2
                simp only [List.append_assoc, List.cons_append, List.nil_append, List.length_append, List.length_cons, List.length_nil, Nat.zero_add] at hgo
                have fin : ∀ h8, RL h h8 rp v1 v2 (.slice sid soff u.1.length slb sex 1) (reachL u [(m2 : Int)]) → LiveK h h8 rp v1 v2 (.slice sid soff u.1.length slb sex 1) has ps roots sb (BV true) (k + 1) := fun h8 q => by
                  have hx : ((m2 : Int)).toNat < u.1.length := by simpa using lt2
                  have hL2 : Liv has ps roots m2 := by
                    have := Liv.pair (p := p) (by rw [hpe]; exact List.getElem_mem _) (hI7.g.sub _ (n1.2 hb1))
                    rw [hm2] at this; exact this
                  have hlt := step_unseen_lt u m2 hx (by simpa [lt2] using hb2)
                  have hbd := step_bound u m2 hx
                  have hbd0 := hI7.bd
                  refine ⟨reachL u [(m2 : Int)], true, rfl, ⟨q, by rw [reachL_length]; exact hI7.len, hI7.g.reach (fun x hx => ?_), ?_, fun x hx => ?_⟩, ?_⟩
                  · rw [List.mem_singleton] at hx; subst hx; exact ⟨⟨by omega, by omega⟩, hL2⟩
                  · show (step u m2).2.length + unseen (step u m2).1 ≤ _; omega
                  · exact (step_seen (by simpa using lt2) _).2 (.inl (hI7.root x hx))
                  · rw [if_pos rfl]
                    show unseen (step u m2).1 < _
                    cases mo with
                    | true => rw [if_pos rfl] at hmo; omega
                    | false =>
                      simp only [Bool.false_eq_true, if_false] at hmo
                      rw [hmo.1] at hlt ⊢; exact hlt
                clear hnext hmo hI7 n1 n2 hm1 hm2 hpe
                repeat' (first | (simp only [AW_next, AW_ops, AW_cond, AW_block, AW_exit, AW_ret, AW_skip, AW_scope, AO_nil, AO_next, AO_nextW, wantB_bool, wantK_some, then_normal, then_exit, then_ret, inBlk_normal, inBlk_exit, inBlk_ret, A1_mv, A1_pick, A1_box, A1_zero, A1_build, A1_lits, A1_load, shallow_none, A1_store, A1_nilCheckI, nilOk_ptr, nilOk_func, A1_bin, A1_eqNil, A1_eqBool, A1_eqAgg, A1_un, A1_conv, A1_field, A1_fieldAddr, A1_indexAddr, A1_indexArr, A1_index, A1_slice, A1_mkSlice, A1_extract, A1_func, A1_call, A1_append, A1_len, A1_minmax, put_some, put_none, upd_at, ev_tmp, ev_av, bin_lss, bin_leq, bin_gtr, bin_geq, bin_eql, bin_neq, bin_add, bin_sub, bin_mul, un_not, natOf_nat, Bool.not_eq_false', Prod.mk.injEq, and_assoc, decide_false, decide_true, Bool.not_false, Bool.not_true, Bool.true_eq_false, Bool.false_eq_true, exists_false, Bool.not_eq_false, Bool.not_not, AV.val.injEq, AV.ptr.injEq, AV.slice.injEq, AV.func.injEq, AV.tuple.injEq, AV.agg.injEq, Value.bool.injEq, Value.int.injEq, Option.some.injEq, exists_eq_left', exists_eq_left, exists_and_left, exists_and_right, and_true, true_and, decide_eq_true_eq, decide_eq_false_iff_not, if_true, if_false, Bool.not_eq_true', beq_true, beq_false, ne_eq, not_true_eq_false, not_false_eq_true, reduceCtorEq, List.getD_cons_zero, List.getD_cons_succ, List.map_cons, List.map_nil, List.append_nil, Nat.reduceEqDiff, reduceIte, ite_true, ite_false, or_true, true_or, or_false, false_or, resA, resultsA, true_imp_iff, false_imp_iff, implies_true, imp_false, and_self, imp_self, and_false, false_and, forall_const, cell_val, cell_ptr, cell_slice, cell_func, cell_hole, cells_agg, cells_val, cells_ptr, cells_slice, cells_func, cells_hole, cells_cell, List.length_cons, List.length_nil, List.all_cons, List.all_nil, Bool.and_self, ldA, List.mapM_cons, List.mapM_nil, Option.bind_eq_bind, Option.bind_some, Option.pure_def, Option.map_none, Option.map_some, List.set_cons_zero, List.set_cons_succ, Nat.lt_add_one, List.append_assoc, List.cons_append, List.nil_append, List.append_nil, List.length_append, rd1_n0, rd1_nK, rd1_c0, rd1_cS, rd_n0, rd_nK, rd_c0, rd_cS, fillA, List.take_zero, List.take_succ_cons, List.take_nil, List.drop_zero, List.drop_succ_cons, List.drop_nil, List.getElem?_cons_zero, List.getElem?_cons_succ, Nat.reduceAdd, Nat.reduceLeDiff, Nat.add_eq_zero_iff, and_self, Nat.zero_add, Nat.add_zero, Nat.mul_one, hrd, hw, hrp, hs1, hs2, natOf_nat, *]) | (simp only [goO, AO_nil, then_normal, goC]) | (with_reducible apply And.intro) | (with_reducible intro _))
                refine hgo _ fun h8 q8 => ?_
                replace fin := fin h8 q8
                clear hgo
                repeat' (first | (simp only [AW_next, AW_ops, AW_cond, AW_block, AW_exit, AW_ret, AW_skip, AW_scope, AO_nil, AO_next, AO_nextW, wantB_bool, wantK_some, then_normal, then_exit, then_ret, inBlk_normal, inBlk_exit, inBlk_ret, A1_mv, A1_pick, A1_box, A1_zero, A1_build, A1_lits, A1_load, shallow_none, A1_store, A1_nilCheckI, nilOk_ptr, nilOk_func, A1_bin, A1_eqNil, A1_eqBool, A1_eqAgg, A1_un, A1_conv, A1_field, A1_fieldAddr, A1_indexAddr, A1_indexArr, A1_index, A1_slice, A1_mkSlice, A1_extract, A1_func, A1_call, A1_append, A1_len, A1_minmax, put_some, put_none, upd_at, ev_tmp, ev_av, bin_lss, bin_leq, bin_gtr, bin_geq, bin_eql, bin_neq, bin_add, bin_sub, bin_mul, un_not, natOf_nat, Bool.not_eq_false', Prod.mk.injEq, and_assoc, decide_false, decide_true, Bool.not_false, Bool.not_true, Bool.true_eq_false, Bool.false_eq_true, exists_false, Bool.not_eq_false, Bool.not_not, AV.val.injEq, AV.ptr.injEq, AV.slice.injEq, AV.func.injEq, AV.tuple.injEq, AV.agg.injEq, Value.bool.injEq, Value.int.injEq, Option.some.injEq, exists_eq_left', exists_eq_left, exists_and_left, exists_and_right, and_true, true_and, decide_eq_true_eq, decide_eq_false_iff_not, if_true, if_false, Bool.not_eq_true', beq_true, beq_false, ne_eq, not_true_eq_false, not_false_eq_true, reduceCtorEq, List.getD_cons_zero, List.getD_cons_succ, List.map_cons, List.map_nil, List.append_nil, Nat.reduceEqDiff, reduceIte, ite_true, ite_false, or_true, true_or, or_false, false_or, resA, resultsA, true_imp_iff, false_imp_iff, implies_true, imp_false, and_self, imp_self, and_false, false_and, forall_const, cell_val, cell_ptr, cell_slice, cell_func, cell_hole, cells_agg, cells_val, cells_ptr, cells_slice, cells_func, cells_hole, cells_cell, List.length_cons, List.length_nil, List.all_cons, List.all_nil, Bool.and_self, ldA, List.mapM_cons, List.mapM_nil, Option.bind_eq_bind, Option.bind_some, Option.pure_def, Option.map_none, Option.map_some, List.set_cons_zero, List.set_cons_succ, Nat.lt_add_one, List.append_assoc, List.cons_append, List.nil_append, List.append_nil, List.length_append, rd1_n0, rd1_nK, rd1_c0, rd1_cS, rd_n0, rd_nK, rd_c0, rd_cS, fillA, List.take_zero, List.take_succ_cons, List.take_nil, List.drop_zero, List.drop_succ_cons, List.drop_nil, List.getElem?_cons_zero, List.getElem?_cons_succ, Nat.reduceAdd, Nat.reduceLeDiff, Nat.add_eq_zero_iff, and_self, Nat.zero_add, Nat.add_zero, Nat.mul_one, *]) | (simp only [goO, AO_nil, then_normal, goC]) | (with_reducible apply And.intro) | (with_reducible intro _))
                all_goals trace_state
          · rintro s6 h6 ⟨u, mo, j10, hIu, hmo⟩ hs
            have j1 := (hs 1 rfl).trans g1
            have j9 := (hs 9 rfl).trans g9
            clear hs g1 g9 g10 g58 g59 g60 hI4
            have fin : ∃ m, m < n ∧ LiveO h h6 rp v1 v2 sv has ps roots (s6 10) m := by
              refine ⟨_, ?_, u, mo, j10, rfl, hIu, fun hm => ?_⟩
              · have := HN.out
                cases mo with
                | true => simp at hmo this ⊢; omega
                | false =>
                  simp at hmo this ⊢
                  rw [hmo.1]; simp; omega
              · subst hm
                simp at hmo
                obtain ⟨rfl, h8⟩ := hmo
                exact ⟨rfl, fun p hp => h8 p.1 p.2 hp⟩
            clear j10 hIu hmo
            repeat' (first | (simp only [AW_next, AW_ops, AW_cond, AW_block, AW_exit, AW_ret, AW_skip, AW_scope, AO_nil, AO_next, AO_nextW, wantB_bool, wantK_some, then_normal, then_exit, then_ret, inBlk_normal, inBlk_exit, inBlk_ret, A1_mv, A1_pick, A1_box, A1_zero, A1_build, A1_lits, A1_load, shallow_none, A1_store, A1_nilCheckI, nilOk_ptr, nilOk_func, A1_bin, A1_eqNil, A1_eqBool, A1_eqAgg, A1_un, A1_conv, A1_field, A1_fieldAddr, A1_indexAddr, A1_indexArr, A1_index, A1_slice, A1_mkSlice, A1_extract, A1_func, A1_call, A1_append, A1_len, A1_minmax, put_some, put_none, upd_at, ev_tmp, ev_av, bin_lss, bin_leq, bin_gtr, bin_geq, bin_eql, bin_neq, bin_add, bin_sub, bin_mul, un_not, natOf_nat, Bool.not_eq_false', Prod.mk.injEq, and_assoc, decide_false, decide_true, Bool.not_false, Bool.not_true, Bool.true_eq_false, Bool.false_eq_true, exists_false, Bool.not_eq_false, Bool.not_not, AV.val.injEq, AV.ptr.injEq, AV.slice.injEq, AV.func.injEq, AV.tuple.injEq, AV.agg.injEq, Value.bool.injEq, Value.int.injEq, Option.some.injEq, exists_eq_left', exists_eq_left, exists_and_left, exists_and_right, and_true, true_and, decide_eq_true_eq, decide_eq_false_iff_not, if_true, if_false, Bool.not_eq_true', beq_true, beq_false, ne_eq, not_true_eq_false, not_false_eq_true, reduceCtorEq, List.getD_cons_zero, List.getD_cons_succ, List.map_cons, List.map_nil, List.append_nil, Nat.reduceEqDiff, reduceIte, ite_true, ite_false, or_true, true_or, or_false, false_or, resA, resultsA, true_imp_iff, false_imp_iff, implies_true, imp_false, and_self, imp_self, and_false, false_and, forall_const, cell_val, cell_ptr, cell_slice, cell_func, cell_hole, cells_agg, cells_val, cells_ptr, cells_slice, cells_func, cells_hole, cells_cell, List.length_cons, List.length_nil, List.all_cons, List.all_nil, Bool.and_self, ldA, List.mapM_cons, List.mapM_nil, Option.bind_eq_bind, Option.bind_some, Option.pure_def, Option.map_none, Option.map_some, List.set_cons_zero, List.set_cons_succ, Nat.lt_add_one, List.append_assoc, List.cons_append, List.nil_append, List.append_nil, List.length_append, rd1_n0, rd1_nK, rd1_c0, rd1_cS, rd_n0, rd_nK, rd_c0, rd_cS, fillA, List.take_zero, List.take_succ_cons, List.take_nil, List.drop_zero, List.drop_succ_cons, List.drop_nil, List.getElem?_cons_zero, List.getElem?_cons_succ, Nat.reduceAdd, Nat.reduceLeDiff, Nat.add_eq_zero_iff, and_self, Nat.zero_add, Nat.add_zero, Nat.mul_one, *]) | (simp only [goO, AO_nil, then_normal, goC]) | (with_reducible apply And.intro) | (with_reducible intro _))
            all_goals trace_state
  · obtain ⟨E, eE⟩ : ∃ E, E = checkE has roots := ⟨_, rfl⟩
    have hL : liveE has roots ps = checkE has roots := by unfold liveE; rw [if_pos hE]
    rw [hL] at hK
    rw [← eE] at hE hK ⊢
    have fin := hK H .nil ⟨[], ⟨rfl, .inl ⟨rfl, .inl rfl⟩⟩, kH, by rw [hL, ← eE, if_neg hE]⟩
    clear hK eE hL
    repeat' (first | (simp only [AW_next, AW_ops, AW_cond, AW_block, AW_exit, AW_ret, AW_skip, AW_scope, AO_nil, AO_next, AO_nextW, wantB_bool, wantK_some, then_normal, then_exit, then_ret, inBlk_normal, inBlk_exit, inBlk_ret, A1_mv, A1_pick, A1_box, A1_zero, A1_build, A1_lits, A1_load, shallow_none, A1_store, A1_nilCheckI, nilOk_ptr, nilOk_func, A1_bin, A1_eqNil, A1_eqBool, A1_eqAgg, A1_un, A1_conv, A1_field, A1_fieldAddr, A1_indexAddr, A1_indexArr, A1_index, A1_slice, A1_mkSlice, A1_extract, A1_func, A1_call, A1_append, A1_len, A1_minmax, put_some, put_none, upd_at, ev_tmp, ev_av, bin_lss, bin_leq, bin_gtr, bin_geq, bin_eql, bin_neq, bin_add, bin_sub, bin_mul, un_not, natOf_nat, Bool.not_eq_false', Prod.mk.injEq, and_assoc, decide_false, decide_true, Bool.not_false, Bool.not_true, Bool.true_eq_false, Bool.false_eq_true, exists_false, Bool.not_eq_false, Bool.not_not, AV.val.injEq, AV.ptr.injEq, AV.slice.injEq, AV.func.injEq, AV.tuple.injEq, AV.agg.injEq, Value.bool.injEq, Value.int.injEq, Option.some.injEq, exists_eq_left', exists_eq_left, exists_and_left, exists_and_right, and_true, true_and, decide_eq_true_eq, decide_eq_false_iff_not, if_true, if_false, Bool.not_eq_true', beq_true, beq_false, ne_eq, not_true_eq_false, not_false_eq_true, reduceCtorEq, List.getD_cons_zero, List.getD_cons_succ, List.map_cons, List.map_nil, List.append_nil, Nat.reduceEqDiff, reduceIte, ite_true, ite_false, or_true, true_or, or_false, false_or, resA, resultsA, true_imp_iff, false_imp_iff, implies_true, imp_false, and_self, imp_self, and_false, false_and, forall_const, cell_val, cell_ptr, cell_slice, cell_func, cell_hole, cells_agg, cells_val, cells_ptr, cells_slice, cells_func, cells_hole, cells_cell, List.length_cons, List.length_nil, List.all_cons, List.all_nil, Bool.and_self, ldA, List.mapM_cons, List.mapM_nil, Option.bind_eq_bind, Option.bind_some, Option.pure_def, Option.map_none, Option.map_some, List.set_cons_zero, List.set_cons_succ, Nat.lt_add_one, List.append_assoc, List.cons_append, List.nil_append, List.append_nil, List.length_append, rd1_n0, rd1_nK, rd1_c0, rd1_cS, rd_n0, rd_nK, rd_c0, rd_cS, fillA, List.take_zero, List.take_succ_cons, List.take_nil, List.drop_zero, List.drop_succ_cons, List.drop_nil, List.getElem?_cons_zero, List.getElem?_cons_succ, Nat.reduceAdd, Nat.reduceLeDiff, Nat.add_eq_zero_iff, and_self, Nat.zero_add, Nat.add_zero, Nat.mul_one, *]) | (simp only [goO, AO_nil, then_normal, goC]) | (with_reducible apply And.intro) | (with_reducible intro _))
    all_goals trace_state
end Go.Proofs.Ytlgminfejehndaa
