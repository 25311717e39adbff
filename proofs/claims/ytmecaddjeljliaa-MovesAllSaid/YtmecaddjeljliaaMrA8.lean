/-
  Moves in ZM: slices.DeleteFunc of a list of one's own.
-/
import Derived.Test.YtmecaddjeljliaaMrA7
namespace Go.Proofs.Ytmecaddjeljliaa
open Go Go.RowKit
set_option linter.unusedVariables false
set_option linter.unusedSimpArgs false
variable {tb : List (FuncId × Bool)} {L : Nat → Bool} {H : ZH} {K : ZV → ZH → Prop}
theorem mv_pure {R : List (List ZV)} (h : ∀ r ∈ R, r.all pureZ = true) : R.flatten.all pureZ = true := by
  rw [List.all_eq_true]
  intro z hz
  obtain ⟨r, hr, h1⟩ := List.mem_flatten.1 hz
  exact List.all_eq_true.1 (h r hr) z h1
theorem mv_refs {n : Nat} {R : List (List ZV)} (h : ∀ r ∈ R, r.all pureZ = true) : R.flatten.all (refs1 n) = true := by
  have h := mv_pure h
  rw [List.all_eq_true] at h ⊢
  intro z hz
  have := h z hz
  cases z <;> simp_all [pureZ, refs1]
/-- How far the loop is. -/
structure DInv (l : List MvT) (m j i : Nat) (R : List (List ZV)) : Prop where
  hj : j ≤ l.length
  hm : m = l.length - j
  hi : i = (loseP (l.take j)).length
  hij : i < j
  hR : R.length = l.length
  ht : R.take i = (loseP (l.take j)).map eMv
  hd : ∀ t, i ≤ t → R[t]? = (l.map eMv)[t]?
theorem loseP_next {l : List MvT} {j : Nat} (hj : j < l.length) : loseP (l.take (j + 1)) = loseP (l.take j) ++ (if l[j].1 = l[j].2 then [] else [l[j]]) := by
  rw [List.take_succ_eq_append_getElem hj]
  unfold loseP
  rw [List.filter_append]
  congr 1
  by_cases h : l[j].1 = l[j].2 <;> simp [h]
theorem DInv.skip {l : List MvT} {m j i : Nat} {R : List (List ZV)} (h : DInv l m j i R) (hj : j < l.length) (he : l[j].1 = l[j].2) : DInv l (m - 1) (j + 1) i R := by
  have hn := loseP_next hj
  rw [if_pos he, List.append_nil] at hn
  exact ⟨hj, by have := h.hm; omega, by rw [hn]; exact h.hi, by have := h.hij; omega, h.hR, by rw [hn]; exact h.ht, h.hd⟩
theorem DInv.keep {l : List MvT} {m j i : Nat} {R : List (List ZV)} (h : DInv l m j i R) (hj : j < l.length) (he : ¬ l[j].1 = l[j].2) : DInv l (m - 1) (j + 1) (i + 1) (R.set i (eMv l[j])) := by
  have hn := loseP_next hj
  rw [if_neg he] at hn
  have hiR : i < R.length := by have := h.hR; have := h.hij; omega
  refine ⟨hj, by have := h.hm; omega, by rw [hn, List.length_append, ← h.hi]; rfl, by have := h.hij; omega, by rw [List.length_set]; exact h.hR, ?_, fun t ht => ?_⟩
  · rw [List.take_succ_eq_append_getElem (by rw [List.length_set]; exact hiR), List.take_set_of_le (Nat.le_refl _), h.ht, hn, List.map_append, List.getElem_set_self]; rfl
  · rw [List.getElem?_set, if_neg (by omega)]; exact h.hd t (by omega)
theorem DInv.start {l : List MvT} {i : Nat} (h : l.findIdx? (fun m => decide (m.1 = m.2)) = some i) : DInv l (l.length - (i + 1)) (i + 1) i (l.map eMv) := by
  obtain ⟨h1, h2, h3⟩ := List.findIdx?_eq_some_iff_getElem.1 h
  have hn := loseP_next h1
  rw [if_pos (by simpa using h2), List.append_nil] at hn
  have ht : loseP (l.take i) = l.take i := by
    unfold loseP
    rw [List.filter_eq_self]
    intro x hx
    obtain ⟨j, hj, rfl⟩ := List.mem_take_iff_getElem.1 hx
    have := h3 j (by omega)
    simpa using this
  refine ⟨h1, rfl, by rw [hn, ht, List.length_take]; omega, by omega, by simp, ?_, fun _ _ => rfl⟩
  rw [hn, ht, List.map_take]
set_option maxHeartbeats 4000000 in
theorem delf_z {l : List MvT} (hb : l.length ≤ 60) (l0 : L H.length = true) (hK : ∀ R : List (List ZV), R.take (loseP l).length = (loseP l).map eMv → (loseP l).length ≤ R.length → (∀ r ∈ R, r.all pureZ = true) → K (.own H.length 0 0 (loseP l).length false) (H ++ [.grow 0 2 R])) :
    ZC (constX tb) (cFunc Try.prog) 34 [.own H.length 0 0 l.length false, .func 36 []] L (H ++ [.grow 0 2 (l.map eMv)]) K := by
  refine ZC.enterL Gh.no constX_none f_s_delf (by simp) fun hL => ?_
  simp only [c_s_delf]
  have hL' : ∀ k, L (H.length + (k + 1)) = true := fun k => by
    have := hL k
    rw [List.length_append, List.length_singleton, Nat.add_assoc, Nat.add_comm 1 k] at this
    exact this
  have HK := Lib.hid hK
  have HB := Lib.hid hb
  clear hK hb hL
  repeat' (first | (simp only [zmPack, zfree, owners, Nat.reduceLT, List.filter_cons, List.filter_nil, List.contains_cons, List.contains_nil, Nat.reduceBEq, Bool.or_false, Bool.or_true, Bool.false_or, Bool.true_or, BEq.rfl, chunk, setAt, List.lookup_cons, List.lookup_nil, ZV.val.injEq, ZV.ptr.injEq, ZV.own.injEq, ZV.fz.injEq, ZV.func.injEq, ZV.tuple.injEq, ZV.agg.injEq, ZB.box.injEq, ZB.grow.injEq, Bool.not_eq_false', Prod.mk.injEq, and_assoc, decide_false, decide_true, Bool.not_false, Bool.not_true, Bool.true_eq_false, Bool.false_eq_true, exists_false, Bool.not_eq_false, Bool.not_not, Value.bool.injEq, Value.int.injEq, Option.some.injEq, exists_eq_left', exists_eq_left, exists_and_left, exists_and_right, and_true, true_and, decide_eq_true_eq, decide_eq_false_iff_not, if_true, if_false, Bool.not_eq_true', beq_true, beq_false, ne_eq, not_true_eq_false, not_false_eq_true, reduceCtorEq, List.getD_cons_zero, List.getD_cons_succ, List.getD_nil, List.map_cons, List.map_nil, List.append_nil, Nat.reduceEqDiff, reduceIte, ite_true, ite_false, or_true, true_or, or_false, false_or, true_imp_iff, false_imp_iff, implies_true, imp_false, and_self, imp_self, and_false, false_and, forall_const, take_map_all, Nat.le_refl, Nat.reduceMul, Nat.reduceSub, List.length_cons, List.length_nil, List.length_map, List.length_set, List.all_cons, List.all_nil, Bool.and_self, Option.map_none, Option.map_some, List.set_cons_zero, List.set_cons_succ, Nat.lt_add_one, List.append_assoc, List.cons_append, List.nil_append, List.append_nil, List.length_append, List.take_zero, List.take_succ_cons, List.take_nil, List.drop_zero, List.drop_succ_cons, List.drop_nil, List.getElem?_cons_zero, List.getElem?_cons_succ, List.getElem?_map, Nat.reduceAdd, Nat.reduceLeDiff, Nat.add_eq_zero_iff, and_self, Nat.zero_add, Nat.add_zero, Nat.mul_one, Nat.one_mul, List.flatten_cons, List.flatten_nil, *]) | (simp only [zgoO, zgoG, zO_nil, zthen_normal, zgoC]) | (with_reducible apply And.intro) | (with_reducible intro _))
  refine idxf_z (l := l) (p := fun m => decide (m.1 = m.2)) (rows_whole (mv_at0 _ _) (by simp)) (by have := HB.out; omega) (fun m _ K2 k2 => ordera_z k2) ?_
  cases hf : l.findIdx? fun m => decide (m.1 = m.2) with
  | none =>
    have hi : idxP (fun m : MvT => decide (m.1 = m.2)) l = -1 := by simp only [idxP, hf]
    have hl : loseP l = l := by
      unfold loseP
      rw [List.filter_eq_self]
      intro x hx
      have := List.findIdx?_eq_none_iff.1 hf x hx
      simpa using this
    have hk := HK.out (l.map eMv) (by rw [hl]; exact take_map_all) (by rw [hl]; simp) (fun r hr => by obtain ⟨x, _, rfl⟩ := List.mem_map.1 hr; rfl)
    rw [hl] at hk
    have fin := Fin.keep (H0 := H ++ [.grow 0 2 (l.map eMv)]) hk
    clear hk hl hf
    rw [hi]
    clear hi
    repeat' (first | (simp only [zmPack, zfree, owners, Nat.reduceLT, List.filter_cons, List.filter_nil, List.contains_cons, List.contains_nil, Nat.reduceBEq, Bool.or_false, Bool.or_true, Bool.false_or, Bool.true_or, BEq.rfl, chunk, setAt, List.lookup_cons, List.lookup_nil, ZV.val.injEq, ZV.ptr.injEq, ZV.own.injEq, ZV.fz.injEq, ZV.func.injEq, ZV.tuple.injEq, ZV.agg.injEq, ZB.box.injEq, ZB.grow.injEq, Bool.not_eq_false', Prod.mk.injEq, and_assoc, decide_false, decide_true, Bool.not_false, Bool.not_true, Bool.true_eq_false, Bool.false_eq_true, exists_false, Bool.not_eq_false, Bool.not_not, Value.bool.injEq, Value.int.injEq, Option.some.injEq, exists_eq_left', exists_eq_left, exists_and_left, exists_and_right, and_true, true_and, decide_eq_true_eq, decide_eq_false_iff_not, if_true, if_false, Bool.not_eq_true', beq_true, beq_false, ne_eq, not_true_eq_false, not_false_eq_true, reduceCtorEq, List.getD_cons_zero, List.getD_cons_succ, List.getD_nil, List.map_cons, List.map_nil, List.append_nil, Nat.reduceEqDiff, reduceIte, ite_true, ite_false, or_true, true_or, or_false, false_or, true_imp_iff, false_imp_iff, implies_true, imp_false, and_self, imp_self, and_false, false_and, forall_const, take_map_all, Nat.le_refl, Nat.reduceMul, Nat.reduceSub, List.length_cons, List.length_nil, List.length_map, List.length_set, List.all_cons, List.all_nil, Bool.and_self, Option.map_none, Option.map_some, List.set_cons_zero, List.set_cons_succ, Nat.lt_add_one, List.append_assoc, List.cons_append, List.nil_append, List.append_nil, List.length_append, List.take_zero, List.take_succ_cons, List.take_nil, List.drop_zero, List.drop_succ_cons, List.drop_nil, List.getElem?_cons_zero, List.getElem?_cons_succ, List.getElem?_map, Nat.reduceAdd, Nat.reduceLeDiff, Nat.add_eq_zero_iff, and_self, Nat.zero_add, Nat.add_zero, Nat.mul_one, Nat.one_mul, List.flatten_cons, List.flatten_nil, *]) | (simp only [zgoO, zgoG, zO_nil, zthen_normal, zgoC]) | (with_reducible apply And.intro) | (with_reducible intro _))
  | some i0 =>
    have hi : idxP (fun m : MvT => decide (m.1 = m.2)) l = (i0 : Int) := by simp only [idxP, hf]
    have hD := DInv.start hf
    rw [hi]
    have hne : ¬ ((i0 : Int) = -1) := by omega
    have hi0 := hD.hj
    have e1 : IntKind.i64.wrap ((i0 : Int) + 1) = ((i0 + 1 : Nat) : Int) := by have := HB.out; rw [IntWalk.i64_in _ (by omega)]; omega
    clear hf hi
    repeat' (first | (simp only [zmPack, zfree, owners, Nat.reduceLT, List.filter_cons, List.filter_nil, List.contains_cons, List.contains_nil, Nat.reduceBEq, Bool.or_false, Bool.or_true, Bool.false_or, Bool.true_or, BEq.rfl, chunk, setAt, List.lookup_cons, List.lookup_nil, ZV.val.injEq, ZV.ptr.injEq, ZV.own.injEq, ZV.fz.injEq, ZV.func.injEq, ZV.tuple.injEq, ZV.agg.injEq, ZB.box.injEq, ZB.grow.injEq, Bool.not_eq_false', Prod.mk.injEq, and_assoc, decide_false, decide_true, Bool.not_false, Bool.not_true, Bool.true_eq_false, Bool.false_eq_true, exists_false, Bool.not_eq_false, Bool.not_not, Value.bool.injEq, Value.int.injEq, Option.some.injEq, exists_eq_left', exists_eq_left, exists_and_left, exists_and_right, and_true, true_and, decide_eq_true_eq, decide_eq_false_iff_not, if_true, if_false, Bool.not_eq_true', beq_true, beq_false, ne_eq, not_true_eq_false, not_false_eq_true, reduceCtorEq, List.getD_cons_zero, List.getD_cons_succ, List.getD_nil, List.map_cons, List.map_nil, List.append_nil, Nat.reduceEqDiff, reduceIte, ite_true, ite_false, or_true, true_or, or_false, false_or, true_imp_iff, false_imp_iff, implies_true, imp_false, and_self, imp_self, and_false, false_and, forall_const, take_map_all, Nat.le_refl, Nat.reduceMul, Nat.reduceSub, List.length_cons, List.length_nil, List.length_map, List.length_set, List.all_cons, List.all_nil, Bool.and_self, Option.map_none, Option.map_some, List.set_cons_zero, List.set_cons_succ, Nat.lt_add_one, List.append_assoc, List.cons_append, List.nil_append, List.append_nil, List.length_append, List.take_zero, List.take_succ_cons, List.take_nil, List.drop_zero, List.drop_succ_cons, List.drop_nil, List.getElem?_cons_zero, List.getElem?_cons_succ, List.getElem?_map, Nat.reduceAdd, Nat.reduceLeDiff, Nat.add_eq_zero_iff, and_self, Nat.zero_add, Nat.add_zero, Nat.mul_one, Nat.one_mul, List.flatten_cons, List.flatten_nil, e1, *]) | (simp only [zgoO, zgoG, zO_nil, zthen_normal, zgoC]) | (with_reducible apply And.intro) | (with_reducible intro _))
    refine zW_whileK [(0, .own H.length 0 0 l.length false), (1, .func 36 [])] (l.length - (i0 + 1)) (fun m s' h' => ∃ j i R X, s' 6 = Z64 (j : Nat) ∧ s' 5 = Z64 (i : Nat) ∧ h' = H ++ (.grow 0 2 R :: X) ∧ DInv l m j i R) (by repeat' (first | exact trivial | (refine ⟨rfl, ?_⟩) | (refine ⟨by simp only [zupd_at, Nat.reduceEqDiff, reduceIte]; assumption, ?_⟩))) rfl ⟨i0 + 1, i0, _, [], rfl, rfl, rfl, hD⟩ ?_
    clear hD hne hi0 e1
    rintro m s' h' ⟨j, i, R, X, f6, f5, rfl, hD⟩ ⟨f0, f1, -⟩
    have hjl := hD.hj
    have hij := hD.hij
    have hR := hD.hR
    have hle : l.length ≤ R.length := Nat.le_of_eq hR.symm
    have HD := Lib.hid hD
    have HR := Lib.hid hR
    clear hD hR
    by_cases hj : j < l.length
    · have g1 : (j : Int) < (l.length : Int) := by omega
      have hx : R[j]? = some (eMv l[j]) := by rw [HD.out.hd j (by omega)]; simp [hj]
      have hy : R[i]? = some (eMv (l[i]'(by omega))) := by rw [HD.out.hd i (by omega)]; simp [show i < l.length by omega]
      have hil : i < l.length := by omega
      have hiR : i < R.length := by omega
      have hjR : j < R.length := by omega
      have hm : m - 1 < m := by have := HD.out.hm; omega
      have wj : IntKind.i64.wrap ((j : Int) + 1) = ((j + 1 : Nat) : Int) := by have := HB.out; rw [IntWalk.i64_in _ (by omega)]; omega
      have wi : IntKind.i64.wrap ((i : Int) + 1) = ((i + 1 : Nat) : Int) := by have := HB.out; rw [IntWalk.i64_in _ (by omega)]; omega
      have sk := fun he => HD.out.skip hj he
      have kp := fun he => HD.out.keep hj he
      obtain ⟨q, hq⟩ : ∃ q, q = l[j] := ⟨_, rfl⟩
      obtain ⟨q', hq'⟩ : ∃ q', q' = l[i]'(by omega) := ⟨_, rfl⟩
      rw [← hq] at hx sk kp
      rw [← hq'] at hy
      obtain ⟨q1, q2⟩ := q
      obtain ⟨q3, q4⟩ := q'
      have SK := Lib.hid sk
      have KP := Lib.hid kp
      have g0 : ∀ A Y, (H ++ (A :: Y))[H.length]? = some A := fun A Y => mv_at0 A Y
      have gs : ∀ A C Y, (H ++ (A :: Y)).set H.length C = H ++ (C :: Y) := fun A C Y => mv_st0 A C Y
      have a0 : ∀ A C : ZB, (H ++ (A :: (X ++ [C])))[H.length + (X.length + 1)]? = some C := fun A C => mv_atX A C
      have s0 : ∀ A C D : ZB, (H ++ (A :: (X ++ [C]))).set (H.length + (X.length + 1)) D = H ++ (A :: (X ++ [D])) := fun A C D => mv_stX A C D
      have lx : L (H.length + (X.length + 1)) = true := hL' _
      clear hq hq' sk kp hjl hij
      have hj' : j < l.length := hj
      repeat' (first | (simp only [zmPack, zfree, owners, Nat.reduceLT, List.filter_cons, List.filter_nil, List.contains_cons, List.contains_nil, Nat.reduceBEq, Bool.or_false, Bool.or_true, Bool.false_or, Bool.true_or, BEq.rfl, chunk, setAt, List.lookup_cons, List.lookup_nil, ZV.val.injEq, ZV.ptr.injEq, ZV.own.injEq, ZV.fz.injEq, ZV.func.injEq, ZV.tuple.injEq, ZV.agg.injEq, ZB.box.injEq, ZB.grow.injEq, Bool.not_eq_false', Prod.mk.injEq, and_assoc, decide_false, decide_true, Bool.not_false, Bool.not_true, Bool.true_eq_false, Bool.false_eq_true, exists_false, Bool.not_eq_false, Bool.not_not, Value.bool.injEq, Value.int.injEq, Option.some.injEq, exists_eq_left', exists_eq_left, exists_and_left, exists_and_right, and_true, true_and, decide_eq_true_eq, decide_eq_false_iff_not, if_true, if_false, Bool.not_eq_true', beq_true, beq_false, ne_eq, not_true_eq_false, not_false_eq_true, reduceCtorEq, List.getD_cons_zero, List.getD_cons_succ, List.getD_nil, List.map_cons, List.map_nil, List.append_nil, Nat.reduceEqDiff, reduceIte, ite_true, ite_false, or_true, true_or, or_false, false_or, true_imp_iff, false_imp_iff, implies_true, imp_false, and_self, imp_self, and_false, false_and, forall_const, take_map_all, Nat.le_refl, Nat.reduceMul, Nat.reduceSub, List.length_cons, List.length_nil, List.length_map, List.length_set, List.all_cons, List.all_nil, Bool.and_self, Option.map_none, Option.map_some, List.set_cons_zero, List.set_cons_succ, Nat.lt_add_one, List.append_assoc, List.cons_append, List.nil_append, List.append_nil, List.length_append, List.take_zero, List.take_succ_cons, List.take_nil, List.drop_zero, List.drop_succ_cons, List.drop_nil, List.getElem?_cons_zero, List.getElem?_cons_succ, List.getElem?_map, Nat.reduceAdd, Nat.reduceLeDiff, Nat.add_eq_zero_iff, and_self, Nat.zero_add, Nat.add_zero, Nat.mul_one, Nat.one_mul, List.flatten_cons, List.flatten_nil, hx, hy, g0, gs, a0, s0, lx, wj, wi, *]) | (simp only [zgoO, zgoG, zO_nil, zthen_normal, zgoC]) | (with_reducible apply And.intro) | (with_reducible intro _))
      refine ordera_z (x := (q1, q2)) ?_
      by_cases he : q1 = q2
      · have hd : decide ((q1, q2).1 = (q1, q2).2) = true := decide_eq_true he
        rw [hd]
        have fin := SK.out he
        clear hd he
        repeat' (first | (simp only [zmPack, zfree, owners, Nat.reduceLT, List.filter_cons, List.filter_nil, List.contains_cons, List.contains_nil, Nat.reduceBEq, Bool.or_false, Bool.or_true, Bool.false_or, Bool.true_or, BEq.rfl, chunk, setAt, List.lookup_cons, List.lookup_nil, ZV.val.injEq, ZV.ptr.injEq, ZV.own.injEq, ZV.fz.injEq, ZV.func.injEq, ZV.tuple.injEq, ZV.agg.injEq, ZB.box.injEq, ZB.grow.injEq, Bool.not_eq_false', Prod.mk.injEq, and_assoc, decide_false, decide_true, Bool.not_false, Bool.not_true, Bool.true_eq_false, Bool.false_eq_true, exists_false, Bool.not_eq_false, Bool.not_not, Value.bool.injEq, Value.int.injEq, Option.some.injEq, exists_eq_left', exists_eq_left, exists_and_left, exists_and_right, and_true, true_and, decide_eq_true_eq, decide_eq_false_iff_not, if_true, if_false, Bool.not_eq_true', beq_true, beq_false, ne_eq, not_true_eq_false, not_false_eq_true, reduceCtorEq, List.getD_cons_zero, List.getD_cons_succ, List.getD_nil, List.map_cons, List.map_nil, List.append_nil, Nat.reduceEqDiff, reduceIte, ite_true, ite_false, or_true, true_or, or_false, false_or, true_imp_iff, false_imp_iff, implies_true, imp_false, and_self, imp_self, and_false, false_and, forall_const, take_map_all, Nat.le_refl, Nat.reduceMul, Nat.reduceSub, List.length_cons, List.length_nil, List.length_map, List.length_set, List.all_cons, List.all_nil, Bool.and_self, Option.map_none, Option.map_some, List.set_cons_zero, List.set_cons_succ, Nat.lt_add_one, List.append_assoc, List.cons_append, List.nil_append, List.append_nil, List.length_append, List.take_zero, List.take_succ_cons, List.take_nil, List.drop_zero, List.drop_succ_cons, List.drop_nil, List.getElem?_cons_zero, List.getElem?_cons_succ, List.getElem?_map, Nat.reduceAdd, Nat.reduceLeDiff, Nat.add_eq_zero_iff, and_self, Nat.zero_add, Nat.add_zero, Nat.mul_one, Nat.one_mul, List.flatten_cons, List.flatten_nil, hx, hy, g0, gs, a0, s0, lx, wj, wi, *]) | (simp only [zgoO, zgoG, zO_nil, zthen_normal, zgoC]) | (with_reducible apply And.intro) | (with_reducible intro _))
        all_goals exact ⟨_, hm, _, rfl, _, rfl, _, ⟨_, rfl⟩, fin⟩
      · have hd : decide ((q1, q2).1 = (q1, q2).2) = false := decide_eq_false he
        rw [hd]
        have fin := KP.out he
        clear hd he
        repeat' (first | (simp only [zmPack, zfree, owners, Nat.reduceLT, List.filter_cons, List.filter_nil, List.contains_cons, List.contains_nil, Nat.reduceBEq, Bool.or_false, Bool.or_true, Bool.false_or, Bool.true_or, BEq.rfl, chunk, setAt, List.lookup_cons, List.lookup_nil, ZV.val.injEq, ZV.ptr.injEq, ZV.own.injEq, ZV.fz.injEq, ZV.func.injEq, ZV.tuple.injEq, ZV.agg.injEq, ZB.box.injEq, ZB.grow.injEq, Bool.not_eq_false', Prod.mk.injEq, and_assoc, decide_false, decide_true, Bool.not_false, Bool.not_true, Bool.true_eq_false, Bool.false_eq_true, exists_false, Bool.not_eq_false, Bool.not_not, Value.bool.injEq, Value.int.injEq, Option.some.injEq, exists_eq_left', exists_eq_left, exists_and_left, exists_and_right, and_true, true_and, decide_eq_true_eq, decide_eq_false_iff_not, if_true, if_false, Bool.not_eq_true', beq_true, beq_false, ne_eq, not_true_eq_false, not_false_eq_true, reduceCtorEq, List.getD_cons_zero, List.getD_cons_succ, List.getD_nil, List.map_cons, List.map_nil, List.append_nil, Nat.reduceEqDiff, reduceIte, ite_true, ite_false, or_true, true_or, or_false, false_or, true_imp_iff, false_imp_iff, implies_true, imp_false, and_self, imp_self, and_false, false_and, forall_const, take_map_all, Nat.le_refl, Nat.reduceMul, Nat.reduceSub, List.length_cons, List.length_nil, List.length_map, List.length_set, List.all_cons, List.all_nil, Bool.and_self, Option.map_none, Option.map_some, List.set_cons_zero, List.set_cons_succ, Nat.lt_add_one, List.append_assoc, List.cons_append, List.nil_append, List.append_nil, List.length_append, List.take_zero, List.take_succ_cons, List.take_nil, List.drop_zero, List.drop_succ_cons, List.drop_nil, List.getElem?_cons_zero, List.getElem?_cons_succ, List.getElem?_map, Nat.reduceAdd, Nat.reduceLeDiff, Nat.add_eq_zero_iff, and_self, Nat.zero_add, Nat.add_zero, Nat.mul_one, Nat.one_mul, List.flatten_cons, List.flatten_nil, hx, hy, g0, gs, a0, s0, lx, wj, wi, *]) | (simp only [zgoO, zgoG, zO_nil, zthen_normal, zgoC]) | (with_reducible apply And.intro) | (with_reducible intro _))
        all_goals exact ⟨_, hm, _, rfl, _, rfl, _, ⟨_, rfl⟩, fin⟩
    · have hjn : j = l.length := by omega
      have g1 : ((j : Int) < (l.length : Int)) = False := by simp; omega
      have hin : i < l.length := by omega
      have hlose : loseP (l.take j) = loseP l := by rw [hjn, List.take_length]
      have hil : i = (loseP l).length := by rw [HD.out.hi, hlose]
      have hRt := HD.out.ht
      rw [hlose] at hRt
      obtain ⟨R2, hR2⟩ : ∃ R2, R2 = R.take i ++ (List.replicate (l.length - i) [Z64 (0 : Int), Z64 (0 : Int)]).take (min (List.replicate (l.length - i) [Z64 (0 : Int), Z64 (0 : Int)]).length (l.length - i)) ++ R.drop (i + min (List.replicate (l.length - i) [Z64 (0 : Int), Z64 (0 : Int)]).length (l.length - i)) := ⟨_, rfl⟩
      have hiR : i ≤ R.length := by omega
      have c1 : ∀ Y, cutZ (H ++ (.grow 0 2 R :: Y)) 2 i l.length l.length false (.own H.length 0 0 l.length false) = some (.own H.length 0 i (l.length - i) false) := fun Y => by
        simp only [cutZ, mv_at0]
        rw [if_pos ⟨trivial, trivial, by omega, Nat.le_refl _, Nat.le_refl _, by omega⟩]; simp
      have c2 : ∀ Y, cutZ (H ++ (.grow 0 2 R2 :: Y)) 2 0 i l.length false (.own H.length 0 0 l.length false) = some (.own H.length 0 0 i false) := fun Y => by
        simp only [cutZ, mv_at0]
        rw [if_pos ⟨trivial, trivial, Nat.zero_le _, by omega, Nat.le_refl _, by rw [hR2]; simp; omega⟩]; simp
      have c3 : ∀ Y, copyZ L (H ++ (.grow 0 2 R :: Y)) 2 (List.replicate (l.length - i) [Z64 (0 : Int), Z64 (0 : Int)]) (.own H.length 0 i (l.length - i) false) = some (l.length - i, H ++ (.grow 0 2 R2 :: Y)) := fun Y => by
        simp only [copyZ, mv_at0]
        rw [if_pos ⟨trivial, trivial, by omega, l0, by omega⟩, hR2, mv_st0]; simp
      have fin : Fin (H ++ [.grow 0 2 (l.map eMv)]) (.own H.length 0 0 i false) (H ++ (.grow 0 2 R2 :: X)) K := by
        have hp : ∀ r ∈ R2, r.all pureZ = true := fun r hr => by
          rw [hR2] at hr
          simp only [List.mem_append] at hr
          rcases hr with (hr | hr) | hr
          · rw [hRt] at hr; obtain ⟨x, _, rfl⟩ := List.mem_map.1 hr; rfl
          · rw [(List.mem_replicate.1 (List.mem_of_mem_take hr)).2]; rfl
          · obtain ⟨t, ht, rfl⟩ := List.getElem_of_mem hr
            have ht2 : R[i + min (List.replicate (l.length - i) [Z64 (0 : Int), Z64 (0 : Int)]).length (l.length - i) + t]? = some ((R.drop (i + min (List.replicate (l.length - i) [Z64 (0 : Int), Z64 (0 : Int)]).length (l.length - i)))[t]) := by
              rw [← List.getElem?_drop, List.getElem?_eq_getElem ht]
            rw [HD.out.hd _ (by omega)] at ht2
            obtain ⟨x, _, h⟩ := List.mem_map.1 (List.mem_of_getElem? ht2)
            rw [← h]; rfl
        have hh : H ++ (.grow 0 2 R2 :: X) = ((H ++ [ZB.grow 0 2 (l.map eMv)]) ++ X).set H.length (.grow 0 2 R2) := by rw [List.append_assoc, List.singleton_append, mv_st0]
        refine Fin.trunc (by rw [hh]; exact Mods.set (Mods.ext _ _) (mv_refs hp)) (by simp [refs, refs1]) ?_
        have : (H ++ (.grow 0 2 R2 :: X)).take (H ++ [ZB.grow 0 2 (l.map eMv)]).length = H ++ [.grow 0 2 R2] := by
          rw [List.length_append, List.length_singleton, show H ++ (ZB.grow 0 2 R2 :: X) = (H ++ [.grow 0 2 R2]) ++ X by simp, List.take_left' (by simp)]
        rw [this, hil]
        refine HK.out R2 ?_ (by rw [hR2, ← hil]; simp; omega) hp
        rw [hR2, ← hil, List.append_assoc, List.take_left' (by simp; omega), hRt]
      clear hR2 hRt hlose hil hjl hij hjn
      have g0 : ∀ A Y, (H ++ (A :: Y))[H.length]? = some A := fun A Y => mv_at0 A Y
      repeat' (first | (simp only [zmPack, zfree, owners, Nat.reduceLT, List.filter_cons, List.filter_nil, List.contains_cons, List.contains_nil, Nat.reduceBEq, Bool.or_false, Bool.or_true, Bool.false_or, Bool.true_or, BEq.rfl, chunk, setAt, List.lookup_cons, List.lookup_nil, ZV.val.injEq, ZV.ptr.injEq, ZV.own.injEq, ZV.fz.injEq, ZV.func.injEq, ZV.tuple.injEq, ZV.agg.injEq, ZB.box.injEq, ZB.grow.injEq, Bool.not_eq_false', Prod.mk.injEq, and_assoc, decide_false, decide_true, Bool.not_false, Bool.not_true, Bool.true_eq_false, Bool.false_eq_true, exists_false, Bool.not_eq_false, Bool.not_not, Value.bool.injEq, Value.int.injEq, Option.some.injEq, exists_eq_left', exists_eq_left, exists_and_left, exists_and_right, and_true, true_and, decide_eq_true_eq, decide_eq_false_iff_not, if_true, if_false, Bool.not_eq_true', beq_true, beq_false, ne_eq, not_true_eq_false, not_false_eq_true, reduceCtorEq, List.getD_cons_zero, List.getD_cons_succ, List.getD_nil, List.map_cons, List.map_nil, List.append_nil, Nat.reduceEqDiff, reduceIte, ite_true, ite_false, or_true, true_or, or_false, false_or, true_imp_iff, false_imp_iff, implies_true, imp_false, and_self, imp_self, and_false, false_and, forall_const, take_map_all, Nat.le_refl, Nat.reduceMul, Nat.reduceSub, List.length_cons, List.length_nil, List.length_map, List.length_set, List.all_cons, List.all_nil, Bool.and_self, Option.map_none, Option.map_some, List.set_cons_zero, List.set_cons_succ, Nat.lt_add_one, List.append_assoc, List.cons_append, List.nil_append, List.append_nil, List.length_append, List.take_zero, List.take_succ_cons, List.take_nil, List.drop_zero, List.drop_succ_cons, List.drop_nil, List.getElem?_cons_zero, List.getElem?_cons_succ, List.getElem?_map, Nat.reduceAdd, Nat.reduceLeDiff, Nat.add_eq_zero_iff, and_self, Nat.zero_add, Nat.add_zero, Nat.mul_one, Nat.one_mul, List.flatten_cons, List.flatten_nil, c1, c2, c3, g0, mv_num0, mv_num1, Option.bind_some, Option.isSome_none, z_clear, zh_clear, zu_clear, zf_clear, zp0_clear, zp1_clear, zr_clear, List.length_replicate, *]) | (simp only [zgoO, zgoG, zO_nil, zthen_normal, zgoC]) | (with_reducible apply And.intro) | (with_reducible intro _))
end Go.Proofs.Ytmecaddjeljliaa

namespace Go.Proofs.Ytmecaddjeljliaa
open Go Go.RowKit
set_option linter.unusedVariables false
set_option linter.unusedSimpArgs false
variable {tb : List (FuncId × Bool)} {L : Nat → Bool} {H : ZH} {K : ZV → ZH → Prop}
theorem delf_e {z : ZV} (hz : rowsZ H 2 z = some ([] : List (List ZV))) (hK : K z H) :
    ZC (constX tb) (cFunc Try.prog) 34 [z, .func 36 []] L H K := by
  refine ZC.enter Gh.no constX_none f_s_delf (by simp) ?_
  simp only [c_s_delf]
  have HZ := Lib.hid hz
  have fin := Fin.keep (H0 := H) hK
  clear hz hK
  repeat' (first | (simp only [zmPack, zfree, owners, Nat.reduceLT, List.filter_cons, List.filter_nil, List.contains_cons, List.contains_nil, Nat.reduceBEq, Bool.or_false, Bool.or_true, Bool.false_or, Bool.true_or, BEq.rfl, chunk, setAt, List.lookup_cons, List.lookup_nil, ZV.val.injEq, ZV.ptr.injEq, ZV.own.injEq, ZV.fz.injEq, ZV.func.injEq, ZV.tuple.injEq, ZV.agg.injEq, ZB.box.injEq, ZB.grow.injEq, Bool.not_eq_false', Prod.mk.injEq, and_assoc, decide_false, decide_true, Bool.not_false, Bool.not_true, Bool.true_eq_false, Bool.false_eq_true, exists_false, Bool.not_eq_false, Bool.not_not, Value.bool.injEq, Value.int.injEq, Option.some.injEq, exists_eq_left', exists_eq_left, exists_and_left, exists_and_right, and_true, true_and, decide_eq_true_eq, decide_eq_false_iff_not, if_true, if_false, Bool.not_eq_true', beq_true, beq_false, ne_eq, not_true_eq_false, not_false_eq_true, reduceCtorEq, List.getD_cons_zero, List.getD_cons_succ, List.getD_nil, List.map_cons, List.map_nil, List.append_nil, Nat.reduceEqDiff, reduceIte, ite_true, ite_false, or_true, true_or, or_false, false_or, true_imp_iff, false_imp_iff, implies_true, imp_false, and_self, imp_self, and_false, false_and, forall_const, take_map_all, Nat.le_refl, Nat.reduceMul, Nat.reduceSub, List.length_cons, List.length_nil, List.length_map, List.length_set, List.all_cons, List.all_nil, Bool.and_self, Option.map_none, Option.map_some, List.set_cons_zero, List.set_cons_succ, Nat.lt_add_one, List.append_assoc, List.cons_append, List.nil_append, List.append_nil, List.length_append, List.take_zero, List.take_succ_cons, List.take_nil, List.drop_zero, List.drop_succ_cons, List.drop_nil, List.getElem?_cons_zero, List.getElem?_cons_succ, List.getElem?_map, Nat.reduceAdd, Nat.reduceLeDiff, Nat.add_eq_zero_iff, and_self, Nat.zero_add, Nat.add_zero, Nat.mul_one, Nat.one_mul, List.flatten_cons, List.flatten_nil, *]) | (simp only [zgoO, zgoG, zO_nil, zthen_normal, zgoC]) | (with_reducible apply And.intro) | (with_reducible intro _))
  refine idxf_z (l := []) (p := fun m => decide (m.1 = m.2)) HZ.out (by simp) (fun m hm => absurd hm (by simp)) ?_
  have hi : idxP (fun m : MvT => decide (m.1 = m.2)) [] = -1 := rfl
  rw [hi]
  clear hi
  repeat' (first | (simp only [zmPack, zfree, owners, Nat.reduceLT, List.filter_cons, List.filter_nil, List.contains_cons, List.contains_nil, Nat.reduceBEq, Bool.or_false, Bool.or_true, Bool.false_or, Bool.true_or, BEq.rfl, chunk, setAt, List.lookup_cons, List.lookup_nil, ZV.val.injEq, ZV.ptr.injEq, ZV.own.injEq, ZV.fz.injEq, ZV.func.injEq, ZV.tuple.injEq, ZV.agg.injEq, ZB.box.injEq, ZB.grow.injEq, Bool.not_eq_false', Prod.mk.injEq, and_assoc, decide_false, decide_true, Bool.not_false, Bool.not_true, Bool.true_eq_false, Bool.false_eq_true, exists_false, Bool.not_eq_false, Bool.not_not, Value.bool.injEq, Value.int.injEq, Option.some.injEq, exists_eq_left', exists_eq_left, exists_and_left, exists_and_right, and_true, true_and, decide_eq_true_eq, decide_eq_false_iff_not, if_true, if_false, Bool.not_eq_true', beq_true, beq_false, ne_eq, not_true_eq_false, not_false_eq_true, reduceCtorEq, List.getD_cons_zero, List.getD_cons_succ, List.getD_nil, List.map_cons, List.map_nil, List.append_nil, Nat.reduceEqDiff, reduceIte, ite_true, ite_false, or_true, true_or, or_false, false_or, true_imp_iff, false_imp_iff, implies_true, imp_false, and_self, imp_self, and_false, false_and, forall_const, take_map_all, Nat.le_refl, Nat.reduceMul, Nat.reduceSub, List.length_cons, List.length_nil, List.length_map, List.length_set, List.all_cons, List.all_nil, Bool.and_self, Option.map_none, Option.map_some, List.set_cons_zero, List.set_cons_succ, Nat.lt_add_one, List.append_assoc, List.cons_append, List.nil_append, List.append_nil, List.length_append, List.take_zero, List.take_succ_cons, List.take_nil, List.drop_zero, List.drop_succ_cons, List.drop_nil, List.getElem?_cons_zero, List.getElem?_cons_succ, List.getElem?_map, Nat.reduceAdd, Nat.reduceLeDiff, Nat.add_eq_zero_iff, and_self, Nat.zero_add, Nat.add_zero, Nat.mul_one, Nat.one_mul, List.flatten_cons, List.flatten_nil, *]) | (simp only [zgoO, zgoG, zO_nil, zthen_normal, zgoC]) | (with_reducible apply And.intro) | (with_reducible intro _))
structure OInv (s : Int) (l0 : List MvT) (m : Nat) (left out : List MvT) (R : List (List ZV)) : Prop where
  hm : m = measM left
  hM : Mv s l0 left out
  ho : out.length + m ≤ 121
  hR : R.take left.length = left.map eMv
  hl : left.length ≤ R.length
  hp : ∀ r ∈ R, r.all pureZ = true
theorem OInv.go {s : Int} {l0 : List MvT} {m : Nat} {left out : List MvT} {R : List (List ZV)} (h : OInv s l0 m left out R) {i : Nat} (hf : left.findIdx? (freeAt left) = some i) :
    ∃ hi : i < left.length, ∃ m', m' < m ∧ OInv s l0 m' (left.take i ++ left.drop (i + 1)) (out ++ [left[i]]) (R.take i ++ (R.take left.length).drop (i + 1)) ∧ (left.take i ++ left.drop (i + 1)).length = left.length - 1 := by
  obtain ⟨h1, h2, h3⟩ := List.findIdx?_eq_some_iff_getElem.1 hf
  have hs : left = left.take i ++ left[i] :: left.drop (i + 1) := by rw [List.getElem_cons_drop, List.take_append_drop]
  have hM := h.hM
  have hmeas := h.hm
  generalize hq : left[i] = q at hs h2
  generalize ha : left.take i = a at hs
  generalize hb : left.drop (i + 1) = b at hs
  have hal : a.length = i := by rw [← ha, List.length_take]; omega
  have hM' := hM
  rw [hs] at hM'
  have hg : Mv s l0 (a ++ b) (out ++ [q]) := .go hM' (by rw [← hs]; exact h2) fun x hx => by
    rw [← ha] at hx
    obtain ⟨j, hj, rfl⟩ := List.mem_take_iff_getElem.1 hx
    have := h3 j (by omega)
    rw [← hs]; simpa using this
  have hlt : measM (a ++ b) < m := by rw [hmeas, hs]; exact meas_go (by rw [← hs]; exact h2)
  have hll : left.length = a.length + (b.length + 1) := by have := congrArg List.length hs; simpa using this
  have hRl := h.hl
  refine ⟨h1, measM (a ++ b), hlt, ⟨rfl, by rw [hq]; exact hg, by have := h.ho; simp; omega, ?_, by simp; omega, fun r hr => ?_⟩, by simp; omega⟩
  · have e : (a ++ b).length = (R.take i ++ (R.take left.length).drop (i + 1)).length := by simp; omega
    rw [e, List.take_length, h.hR]
    have : R.take i = (R.take left.length).take i := by rw [List.take_take, Nat.min_eq_left (by omega)]
    rw [this, h.hR, List.map_append, ← List.map_take, ← List.map_drop, ha, hb]
  · rcases List.mem_append.1 hr with hr | hr
    · exact h.hp r (List.mem_of_mem_take hr)
    · exact h.hp r (List.mem_of_mem_take (List.mem_of_mem_drop hr))
/-- The break's loop. -/
structure BInv (s to : Int) (left : List MvT) (k : Nat) (R : List (List ZV)) : Prop where
  hR : R.take left.length = ((left.take k).map (brkM to s) ++ left.drop k).map eMv
  hl : left.length ≤ R.length
  hp : ∀ r ∈ R, r.all pureZ = true
theorem BInv.at {s to : Int} {left : List MvT} {k : Nat} {R : List (List ZV)} (h : BInv s to left k R) (hk : k < left.length) : R[k]? = some (eMv left[k]) := by
  have : (R.take left.length)[k]? = R[k]? := by rw [List.getElem?_take, if_pos hk]
  rw [← this, h.hR, List.getElem?_map, List.getElem?_append_right (by rw [List.length_map, List.length_take]; omega), List.getElem?_drop]
  simp [hk, show min k left.length = k by omega]
theorem BInv.next {s to : Int} {left : List MvT} {k : Nat} {R : List (List ZV)} (h : BInv s to left k R) (hk : k < left.length) : (left[k].2 ≠ to → BInv s to left (k + 1) R) ∧ (left[k].2 = to → BInv s to left (k + 1) (R.set k [Z64 left[k].1, Z64 s])) := by
  have hd : left.drop k = left[k] :: left.drop (k + 1) := by rw [List.getElem_cons_drop]
  have ht := List.take_succ_eq_append_getElem hk
  refine ⟨fun he => ⟨?_, h.hl, h.hp⟩, fun he => ⟨?_, by rw [List.length_set]; exact h.hl, fun r hr => ?_⟩⟩
  · rw [h.hR, hd, ht, List.map_append (l₁ := left.take k), List.map_singleton]
    have : brkM to s left[k] = left[k] := by unfold brkM; rw [if_neg he]
    rw [this]; simp
  · have hk2 : ((left.take k).map (brkM to s)).length = k := by simp; omega
    rw [List.take_set, h.hR, hd, ht, List.map_append (l₁ := left.take k), List.map_singleton]
    have : brkM to s left[k] = (left[k].1, s) := by unfold brkM; rw [if_pos he]
    rw [this]
    apply List.ext_getElem?
    intro j
    rw [List.getElem?_set]
    by_cases hj : k = j
    · subst hj
      rw [if_pos rfl, if_pos (by simp; omega)]
      rw [List.getElem?_map, List.append_assoc, List.getElem?_append_right (by omega), hk2]
      simp
    · rw [if_neg hj, List.getElem?_map, List.getElem?_map, List.append_assoc]
      by_cases hlt : j < k
      · rw [List.getElem?_append_left (by omega), List.getElem?_append_left (by omega)]
      · rw [List.getElem?_append_right (by omega), List.getElem?_append_right (by omega), hk2]
        obtain ⟨t, ht⟩ : ∃ t, j - k = t + 1 := ⟨j - k - 1, by omega⟩
        rw [ht]; rfl
  · rcases List.mem_or_eq_of_mem_set hr with hr | rfl
    · exact h.hp r hr
    · rfl
theorem OInv.brk {s : Int} {l0 : List MvT} {m : Nat} {left out : List MvT} {R R2 : List (List ZV)} {q : MvT} (hg : GoodM s l0) (h : OInv s l0 m left out R) (hf : left.findIdx? (freeAt left) = none) (h0 : left[0]? = some q) (hB : BInv s q.1 left left.length R2) :
    ∃ m' left', m' < m ∧ OInv s l0 m' left' (out ++ [(s, q.1)]) R2 ∧ left'.length = left.length := by
  have hM := h.hM
  have hmeas := h.hm
  have hno := List.findIdx?_eq_none_iff.1 hf
  cases left with
  | nil => simp at h0
  | cons a b =>
    have e : a = q := by simpa using h0
    subst e
    have hs : ∀ x ∈ a :: b, freeAt (a :: b) x = false := fun x hx => by simpa using hno x hx
    have hlt := meas_brk (hM.good hg) hs
    have hR := hB.hR
    rw [List.take_length, List.drop_length, List.append_nil] at hR
    refine ⟨_, (a :: b).map (brkM a.1 s), by rw [hmeas]; exact hlt, ⟨rfl, .brk hM hs, ?_, ?_, ?_, hB.hp⟩, by simp⟩
    · have := h.ho
      simp only [List.length_append, List.length_singleton]
      omega
    · rw [List.length_map]; exact hR
    · rw [List.length_map]; exact hB.hl
theorem Fin.truncT0 {H0 : ZH} {zs : List ZV} {H' : ZH} {K : ZV → ZH → Prop} (hm : Mods H0 H') (hz : zs.all (refs H0.length) = true) (k : K (.tuple zs) (H'.take H0.length)) : Fin H0 (.tuple zs) H' K := fun fl L w w' a r e r' e' he hzz => by
  subst e; subst he
  obtain ⟨r2, e2⟩ := trunc_w r r' e' hm
  obtain ⟨ys, rfl, hys⟩ := hzz.tuple_inv
  exact ⟨.tuple zs, truncW w' w.H.length, rfl, r2, e2, ZRs.toTuple ⟨hys.1, fun i z b h1 h2 => (hys.2 i z b h1 h2).ren (trunc_ren e'.Hl) (List.all_eq_true.1 hz z (List.mem_of_getElem? h1))⟩, k⟩
set_option maxHeartbeats 8000000 in
theorem order_z {ex : Bool} {l : List MvT} {s : Int} (hb : l.length ≤ 100000000000000) (hE : ∀ e : Int, e ≠ 0 → K (.tuple [.nil, Z64 e]) H) (hK : ∀ out, OkL l s → Mv s (loseP l) [] out → K (.tuple [.fz 2 false (out.map eMv), Z64 0]) H) :
    ZC (constX tb) (cFunc Try.prog) 20 [.fz 2 ex (l.map eMv), Z64 s] L H K := by
  refine ZC.enterL ⟨[(8, [(0, 2)])], [], []⟩ constX_none f_mv_order (by simp) fun hL => ?_
  simp only [c_mv_order]
  have HE := Lib.hid hE
  have HB := Lib.hid hb
  clear hE hb
  have fin0 : OkL l s → ∀ (out : List MvT) (g g2 : Nat) (A : ZB) X, Mv s (loseP l) [] out → Fin H (.tuple [.own (H.length + 1) g2 0 out.length false, Z64 0]) (H ++ (A :: .grow g2 2 (out.map eMv) :: X)) K := fun hok out g g2 A X hM => by
    refine Fin.frzT (j := 0) (k := 2) (rows := out.map eMv) rfl (mv_at1 _ _ _) (by simp) (mv_pure fun r hr => by obtain ⟨x, _, rfl⟩ := List.mem_map.1 hr; rfl) ?_
    rw [mv_st1, List.drop_zero, take_map_all]
    exact Fin.truncT0 (Mods.ext H _) rfl (by rw [List.take_left]; exact hK out hok hM)
  have fin1 : OkL l s → ∀ (out : List MvT) (g2 : Nat) X, Mv s (loseP l) [] out → Fin H (.tuple [.own H.length g2 0 out.length false, Z64 0]) (H ++ (.grow g2 2 (out.map eMv) :: X)) K := fun hok out g2 X hM => by
    refine Fin.frzT (j := 0) (k := 2) (rows := out.map eMv) rfl (mv_at0 _ _) (by simp) (mv_pure fun r hr => by obtain ⟨x, _, rfl⟩ := List.mem_map.1 hr; rfl) ?_
    rw [mv_st0, List.drop_zero, take_map_all]
    exact Fin.truncT0 (Mods.ext H _) rfl (by rw [List.take_left]; exact hK out hok hM)
  have FI := Lib.hid fin0
  have FI1 := Lib.hid fin1
  clear hK fin0 fin1
  repeat' (first | (simp only [zmPack, zfree, owners, Nat.reduceLT, List.filter_cons, List.filter_nil, List.contains_cons, List.contains_nil, Nat.reduceBEq, Bool.or_false, Bool.or_true, Bool.false_or, Bool.true_or, BEq.rfl, chunk, setAt, List.lookup_cons, List.lookup_nil, ZV.val.injEq, ZV.ptr.injEq, ZV.own.injEq, ZV.fz.injEq, ZV.func.injEq, ZV.tuple.injEq, ZV.agg.injEq, ZB.box.injEq, ZB.grow.injEq, Bool.not_eq_false', Prod.mk.injEq, and_assoc, decide_false, decide_true, Bool.not_false, Bool.not_true, Bool.true_eq_false, Bool.false_eq_true, exists_false, Bool.not_eq_false, Bool.not_not, Value.bool.injEq, Value.int.injEq, Option.some.injEq, exists_eq_left', exists_eq_left, exists_and_left, exists_and_right, and_true, true_and, decide_eq_true_eq, decide_eq_false_iff_not, if_true, if_false, Bool.not_eq_true', beq_true, beq_false, ne_eq, not_true_eq_false, not_false_eq_true, reduceCtorEq, List.getD_cons_zero, List.getD_cons_succ, List.getD_nil, List.map_cons, List.map_nil, List.append_nil, Nat.reduceEqDiff, reduceIte, ite_true, ite_false, or_true, true_or, or_false, false_or, true_imp_iff, false_imp_iff, implies_true, imp_false, and_self, imp_self, and_false, false_and, forall_const, take_map_all, Nat.le_refl, Nat.reduceMul, Nat.reduceSub, List.length_cons, List.length_nil, List.length_map, List.length_set, List.all_cons, List.all_nil, Bool.and_self, Option.map_none, Option.map_some, List.set_cons_zero, List.set_cons_succ, Nat.lt_add_one, List.append_assoc, List.cons_append, List.nil_append, List.append_nil, List.length_append, List.take_zero, List.take_succ_cons, List.take_nil, List.drop_zero, List.drop_succ_cons, List.drop_nil, List.getElem?_cons_zero, List.getElem?_cons_succ, List.getElem?_map, Nat.reduceAdd, Nat.reduceLeDiff, Nat.add_eq_zero_iff, and_self, Nat.zero_add, Nat.add_zero, Nat.mul_one, Nat.one_mul, List.flatten_cons, List.flatten_nil, *]) | (simp only [zgoO, zgoG, zO_nil, zthen_normal, zgoC]) | (with_reducible apply And.intro) | (with_reducible intro _))
  refine mv_check_z HB.out fun e he => ?_
  by_cases h0 : e = 0
  · have hok := he.1 h0
    subst h0
    have OK := Lib.hid hok
    clear hok he
    repeat' (first | (simp only [zmPack, zfree, owners, Nat.reduceLT, List.filter_cons, List.filter_nil, List.contains_cons, List.contains_nil, Nat.reduceBEq, Bool.or_false, Bool.or_true, Bool.false_or, Bool.true_or, BEq.rfl, chunk, setAt, List.lookup_cons, List.lookup_nil, ZV.val.injEq, ZV.ptr.injEq, ZV.own.injEq, ZV.fz.injEq, ZV.func.injEq, ZV.tuple.injEq, ZV.agg.injEq, ZB.box.injEq, ZB.grow.injEq, Bool.not_eq_false', Prod.mk.injEq, and_assoc, decide_false, decide_true, Bool.not_false, Bool.not_true, Bool.true_eq_false, Bool.false_eq_true, exists_false, Bool.not_eq_false, Bool.not_not, Value.bool.injEq, Value.int.injEq, Option.some.injEq, exists_eq_left', exists_eq_left, exists_and_left, exists_and_right, and_true, true_and, decide_eq_true_eq, decide_eq_false_iff_not, if_true, if_false, Bool.not_eq_true', beq_true, beq_false, ne_eq, not_true_eq_false, not_false_eq_true, reduceCtorEq, List.getD_cons_zero, List.getD_cons_succ, List.getD_nil, List.map_cons, List.map_nil, List.append_nil, Nat.reduceEqDiff, reduceIte, ite_true, ite_false, or_true, true_or, or_false, false_or, true_imp_iff, false_imp_iff, implies_true, imp_false, and_self, imp_self, and_false, false_and, forall_const, take_map_all, Nat.le_refl, Nat.reduceMul, Nat.reduceSub, List.length_cons, List.length_nil, List.length_map, List.length_set, List.all_cons, List.all_nil, Bool.and_self, Option.map_none, Option.map_some, List.set_cons_zero, List.set_cons_succ, Nat.lt_add_one, List.append_assoc, List.cons_append, List.nil_append, List.append_nil, List.length_append, List.take_zero, List.take_succ_cons, List.take_nil, List.drop_zero, List.drop_succ_cons, List.drop_nil, List.getElem?_cons_zero, List.getElem?_cons_succ, List.getElem?_map, Nat.reduceAdd, Nat.reduceLeDiff, Nat.add_eq_zero_iff, and_self, Nat.zero_add, Nat.add_zero, Nat.mul_one, Nat.one_mul, List.flatten_cons, List.flatten_nil, *]) | (simp only [zgoO, zgoG, zO_nil, zthen_normal, zgoC]) | (with_reducible apply And.intro) | (with_reducible intro _))
    match l, HB, HE, FI, FI1, OK with
    | [], HB, HE, FI, FI1, OK =>
      have fin := fun X => FI1.out OK.out [] 0 X .start
      simp only [List.map_nil, List.length_nil] at fin ⊢
      refine clmove_0 ?_ ?_
      · repeat' (first | (simp only [zmPack, zfree, owners, Nat.reduceLT, List.filter_cons, List.filter_nil, List.contains_cons, List.contains_nil, Nat.reduceBEq, Bool.or_false, Bool.or_true, Bool.false_or, Bool.true_or, BEq.rfl, chunk, setAt, List.lookup_cons, List.lookup_nil, ZV.val.injEq, ZV.ptr.injEq, ZV.own.injEq, ZV.fz.injEq, ZV.func.injEq, ZV.tuple.injEq, ZV.agg.injEq, ZB.box.injEq, ZB.grow.injEq, Bool.not_eq_false', Prod.mk.injEq, and_assoc, decide_false, decide_true, Bool.not_false, Bool.not_true, Bool.true_eq_false, Bool.false_eq_true, exists_false, Bool.not_eq_false, Bool.not_not, Value.bool.injEq, Value.int.injEq, Option.some.injEq, exists_eq_left', exists_eq_left, exists_and_left, exists_and_right, and_true, true_and, decide_eq_true_eq, decide_eq_false_iff_not, if_true, if_false, Bool.not_eq_true', beq_true, beq_false, ne_eq, not_true_eq_false, not_false_eq_true, reduceCtorEq, List.getD_cons_zero, List.getD_cons_succ, List.getD_nil, List.map_cons, List.map_nil, List.append_nil, Nat.reduceEqDiff, reduceIte, ite_true, ite_false, or_true, true_or, or_false, false_or, true_imp_iff, false_imp_iff, implies_true, imp_false, and_self, imp_self, and_false, false_and, forall_const, take_map_all, Nat.le_refl, Nat.reduceMul, Nat.reduceSub, List.length_cons, List.length_nil, List.length_map, List.length_set, List.all_cons, List.all_nil, Bool.and_self, Option.map_none, Option.map_some, List.set_cons_zero, List.set_cons_succ, Nat.lt_add_one, List.append_assoc, List.cons_append, List.nil_append, List.append_nil, List.length_append, List.take_zero, List.take_succ_cons, List.take_nil, List.drop_zero, List.drop_succ_cons, List.drop_nil, List.getElem?_cons_zero, List.getElem?_cons_succ, List.getElem?_map, Nat.reduceAdd, Nat.reduceLeDiff, Nat.add_eq_zero_iff, and_self, Nat.zero_add, Nat.add_zero, Nat.mul_one, Nat.one_mul, List.flatten_cons, List.flatten_nil, *]) | (simp only [zgoO, zgoG, zO_nil, zthen_normal, zgoC]) | (with_reducible apply And.intro) | (with_reducible intro _))
        refine delf_e rfl ?_
        repeat' (first | (simp only [zmPack, zfree, owners, Nat.reduceLT, List.filter_cons, List.filter_nil, List.contains_cons, List.contains_nil, Nat.reduceBEq, Bool.or_false, Bool.or_true, Bool.false_or, Bool.true_or, BEq.rfl, chunk, setAt, List.lookup_cons, List.lookup_nil, ZV.val.injEq, ZV.ptr.injEq, ZV.own.injEq, ZV.fz.injEq, ZV.func.injEq, ZV.tuple.injEq, ZV.agg.injEq, ZB.box.injEq, ZB.grow.injEq, Bool.not_eq_false', Prod.mk.injEq, and_assoc, decide_false, decide_true, Bool.not_false, Bool.not_true, Bool.true_eq_false, Bool.false_eq_true, exists_false, Bool.not_eq_false, Bool.not_not, Value.bool.injEq, Value.int.injEq, Option.some.injEq, exists_eq_left', exists_eq_left, exists_and_left, exists_and_right, and_true, true_and, decide_eq_true_eq, decide_eq_false_iff_not, if_true, if_false, Bool.not_eq_true', beq_true, beq_false, ne_eq, not_true_eq_false, not_false_eq_true, reduceCtorEq, List.getD_cons_zero, List.getD_cons_succ, List.getD_nil, List.map_cons, List.map_nil, List.append_nil, Nat.reduceEqDiff, reduceIte, ite_true, ite_false, or_true, true_or, or_false, false_or, true_imp_iff, false_imp_iff, implies_true, imp_false, and_self, imp_self, and_false, false_and, forall_const, take_map_all, Nat.le_refl, Nat.reduceMul, Nat.reduceSub, List.length_cons, List.length_nil, List.length_map, List.length_set, List.all_cons, List.all_nil, Bool.and_self, Option.map_none, Option.map_some, List.set_cons_zero, List.set_cons_succ, Nat.lt_add_one, List.append_assoc, List.cons_append, List.nil_append, List.append_nil, List.length_append, List.take_zero, List.take_succ_cons, List.take_nil, List.drop_zero, List.drop_succ_cons, List.drop_nil, List.getElem?_cons_zero, List.getElem?_cons_succ, List.getElem?_map, Nat.reduceAdd, Nat.reduceLeDiff, Nat.add_eq_zero_iff, and_self, Nat.zero_add, Nat.add_zero, Nat.mul_one, Nat.one_mul, List.flatten_cons, List.flatten_nil, *]) | (simp only [zgoO, zgoG, zO_nil, zthen_normal, zgoC]) | (with_reducible apply And.intro) | (with_reducible intro _))
        refine zW_whileK [] 0 (fun m s' h' => s' 7 = .fz 2 false [] ∧ s' 8 = .own H.length 0 0 0 false ∧ h' = H ++ [.grow 0 2 []]) (by repeat' (first | exact trivial | (refine ⟨rfl, ?_⟩) | (refine ⟨by simp only [zupd_at, Nat.reduceEqDiff, reduceIte]; assumption, ?_⟩))) rfl ⟨rfl, rfl, rfl⟩ ?_
        rintro m s' h' ⟨f7, f8, rfl⟩ -
        have c0 : ¬ (0 : Int) < ((0 : Nat) : Int) := by omega
        repeat' (first | (simp only [zmPack, zfree, owners, Nat.reduceLT, List.filter_cons, List.filter_nil, List.contains_cons, List.contains_nil, Nat.reduceBEq, Bool.or_false, Bool.or_true, Bool.false_or, Bool.true_or, BEq.rfl, chunk, setAt, List.lookup_cons, List.lookup_nil, ZV.val.injEq, ZV.ptr.injEq, ZV.own.injEq, ZV.fz.injEq, ZV.func.injEq, ZV.tuple.injEq, ZV.agg.injEq, ZB.box.injEq, ZB.grow.injEq, Bool.not_eq_false', Prod.mk.injEq, and_assoc, decide_false, decide_true, Bool.not_false, Bool.not_true, Bool.true_eq_false, Bool.false_eq_true, exists_false, Bool.not_eq_false, Bool.not_not, Value.bool.injEq, Value.int.injEq, Option.some.injEq, exists_eq_left', exists_eq_left, exists_and_left, exists_and_right, and_true, true_and, decide_eq_true_eq, decide_eq_false_iff_not, if_true, if_false, Bool.not_eq_true', beq_true, beq_false, ne_eq, not_true_eq_false, not_false_eq_true, reduceCtorEq, List.getD_cons_zero, List.getD_cons_succ, List.getD_nil, List.map_cons, List.map_nil, List.append_nil, Nat.reduceEqDiff, reduceIte, ite_true, ite_false, or_true, true_or, or_false, false_or, true_imp_iff, false_imp_iff, implies_true, imp_false, and_self, imp_self, and_false, false_and, forall_const, take_map_all, Nat.le_refl, Nat.reduceMul, Nat.reduceSub, List.length_cons, List.length_nil, List.length_map, List.length_set, List.all_cons, List.all_nil, Bool.and_self, Option.map_none, Option.map_some, List.set_cons_zero, List.set_cons_succ, Nat.lt_add_one, List.append_assoc, List.cons_append, List.nil_append, List.append_nil, List.length_append, List.take_zero, List.take_succ_cons, List.take_nil, List.drop_zero, List.drop_succ_cons, List.drop_nil, List.getElem?_cons_zero, List.getElem?_cons_succ, List.getElem?_map, Nat.reduceAdd, Nat.reduceLeDiff, Nat.add_eq_zero_iff, and_self, Nat.zero_add, Nat.add_zero, Nat.mul_one, Nat.one_mul, List.flatten_cons, List.flatten_nil, c0, *]) | (simp only [zgoO, zgoG, zO_nil, zthen_normal, zgoC]) | (with_reducible apply And.intro) | (with_reducible intro _))
      · repeat' (first | (simp only [zmPack, zfree, owners, Nat.reduceLT, List.filter_cons, List.filter_nil, List.contains_cons, List.contains_nil, Nat.reduceBEq, Bool.or_false, Bool.or_true, Bool.false_or, Bool.true_or, BEq.rfl, chunk, setAt, List.lookup_cons, List.lookup_nil, ZV.val.injEq, ZV.ptr.injEq, ZV.own.injEq, ZV.fz.injEq, ZV.func.injEq, ZV.tuple.injEq, ZV.agg.injEq, ZB.box.injEq, ZB.grow.injEq, Bool.not_eq_false', Prod.mk.injEq, and_assoc, decide_false, decide_true, Bool.not_false, Bool.not_true, Bool.true_eq_false, Bool.false_eq_true, exists_false, Bool.not_eq_false, Bool.not_not, Value.bool.injEq, Value.int.injEq, Option.some.injEq, exists_eq_left', exists_eq_left, exists_and_left, exists_and_right, and_true, true_and, decide_eq_true_eq, decide_eq_false_iff_not, if_true, if_false, Bool.not_eq_true', beq_true, beq_false, ne_eq, not_true_eq_false, not_false_eq_true, reduceCtorEq, List.getD_cons_zero, List.getD_cons_succ, List.getD_nil, List.map_cons, List.map_nil, List.append_nil, Nat.reduceEqDiff, reduceIte, ite_true, ite_false, or_true, true_or, or_false, false_or, true_imp_iff, false_imp_iff, implies_true, imp_false, and_self, imp_self, and_false, false_and, forall_const, take_map_all, Nat.le_refl, Nat.reduceMul, Nat.reduceSub, List.length_cons, List.length_nil, List.length_map, List.length_set, List.all_cons, List.all_nil, Bool.and_self, Option.map_none, Option.map_some, List.set_cons_zero, List.set_cons_succ, Nat.lt_add_one, List.append_assoc, List.cons_append, List.nil_append, List.append_nil, List.length_append, List.take_zero, List.take_succ_cons, List.take_nil, List.drop_zero, List.drop_succ_cons, List.drop_nil, List.getElem?_cons_zero, List.getElem?_cons_succ, List.getElem?_map, Nat.reduceAdd, Nat.reduceLeDiff, Nat.add_eq_zero_iff, and_self, Nat.zero_add, Nat.add_zero, Nat.mul_one, Nat.one_mul, List.flatten_cons, List.flatten_nil, *]) | (simp only [zgoO, zgoG, zO_nil, zthen_normal, zgoC]) | (with_reducible apply And.intro) | (with_reducible intro _))
        refine delf_e rfl ?_
        repeat' (first | (simp only [zmPack, zfree, owners, Nat.reduceLT, List.filter_cons, List.filter_nil, List.contains_cons, List.contains_nil, Nat.reduceBEq, Bool.or_false, Bool.or_true, Bool.false_or, Bool.true_or, BEq.rfl, chunk, setAt, List.lookup_cons, List.lookup_nil, ZV.val.injEq, ZV.ptr.injEq, ZV.own.injEq, ZV.fz.injEq, ZV.func.injEq, ZV.tuple.injEq, ZV.agg.injEq, ZB.box.injEq, ZB.grow.injEq, Bool.not_eq_false', Prod.mk.injEq, and_assoc, decide_false, decide_true, Bool.not_false, Bool.not_true, Bool.true_eq_false, Bool.false_eq_true, exists_false, Bool.not_eq_false, Bool.not_not, Value.bool.injEq, Value.int.injEq, Option.some.injEq, exists_eq_left', exists_eq_left, exists_and_left, exists_and_right, and_true, true_and, decide_eq_true_eq, decide_eq_false_iff_not, if_true, if_false, Bool.not_eq_true', beq_true, beq_false, ne_eq, not_true_eq_false, not_false_eq_true, reduceCtorEq, List.getD_cons_zero, List.getD_cons_succ, List.getD_nil, List.map_cons, List.map_nil, List.append_nil, Nat.reduceEqDiff, reduceIte, ite_true, ite_false, or_true, true_or, or_false, false_or, true_imp_iff, false_imp_iff, implies_true, imp_false, and_self, imp_self, and_false, false_and, forall_const, take_map_all, Nat.le_refl, Nat.reduceMul, Nat.reduceSub, List.length_cons, List.length_nil, List.length_map, List.length_set, List.all_cons, List.all_nil, Bool.and_self, Option.map_none, Option.map_some, List.set_cons_zero, List.set_cons_succ, Nat.lt_add_one, List.append_assoc, List.cons_append, List.nil_append, List.append_nil, List.length_append, List.take_zero, List.take_succ_cons, List.take_nil, List.drop_zero, List.drop_succ_cons, List.drop_nil, List.getElem?_cons_zero, List.getElem?_cons_succ, List.getElem?_map, Nat.reduceAdd, Nat.reduceLeDiff, Nat.add_eq_zero_iff, and_self, Nat.zero_add, Nat.add_zero, Nat.mul_one, Nat.one_mul, List.flatten_cons, List.flatten_nil, *]) | (simp only [zgoO, zgoG, zO_nil, zthen_normal, zgoC]) | (with_reducible apply And.intro) | (with_reducible intro _))
        refine zW_whileK [] 0 (fun m s' h' => s' 7 = .nil ∧ s' 8 = .own H.length 0 0 0 false ∧ h' = H ++ [.grow 0 2 []]) (by repeat' (first | exact trivial | (refine ⟨rfl, ?_⟩) | (refine ⟨by simp only [zupd_at, Nat.reduceEqDiff, reduceIte]; assumption, ?_⟩))) rfl ⟨rfl, rfl, rfl⟩ ?_
        rintro m s' h' ⟨f7, f8, rfl⟩ -
        have c0 : ¬ (0 : Int) < ((0 : Nat) : Int) := by omega
        repeat' (first | (simp only [zmPack, zfree, owners, Nat.reduceLT, List.filter_cons, List.filter_nil, List.contains_cons, List.contains_nil, Nat.reduceBEq, Bool.or_false, Bool.or_true, Bool.false_or, Bool.true_or, BEq.rfl, chunk, setAt, List.lookup_cons, List.lookup_nil, ZV.val.injEq, ZV.ptr.injEq, ZV.own.injEq, ZV.fz.injEq, ZV.func.injEq, ZV.tuple.injEq, ZV.agg.injEq, ZB.box.injEq, ZB.grow.injEq, Bool.not_eq_false', Prod.mk.injEq, and_assoc, decide_false, decide_true, Bool.not_false, Bool.not_true, Bool.true_eq_false, Bool.false_eq_true, exists_false, Bool.not_eq_false, Bool.not_not, Value.bool.injEq, Value.int.injEq, Option.some.injEq, exists_eq_left', exists_eq_left, exists_and_left, exists_and_right, and_true, true_and, decide_eq_true_eq, decide_eq_false_iff_not, if_true, if_false, Bool.not_eq_true', beq_true, beq_false, ne_eq, not_true_eq_false, not_false_eq_true, reduceCtorEq, List.getD_cons_zero, List.getD_cons_succ, List.getD_nil, List.map_cons, List.map_nil, List.append_nil, Nat.reduceEqDiff, reduceIte, ite_true, ite_false, or_true, true_or, or_false, false_or, true_imp_iff, false_imp_iff, implies_true, imp_false, and_self, imp_self, and_false, false_and, forall_const, take_map_all, Nat.le_refl, Nat.reduceMul, Nat.reduceSub, List.length_cons, List.length_nil, List.length_map, List.length_set, List.all_cons, List.all_nil, Bool.and_self, Option.map_none, Option.map_some, List.set_cons_zero, List.set_cons_succ, Nat.lt_add_one, List.append_assoc, List.cons_append, List.nil_append, List.append_nil, List.length_append, List.take_zero, List.take_succ_cons, List.take_nil, List.drop_zero, List.drop_succ_cons, List.drop_nil, List.getElem?_cons_zero, List.getElem?_cons_succ, List.getElem?_map, Nat.reduceAdd, Nat.reduceLeDiff, Nat.add_eq_zero_iff, and_self, Nat.zero_add, Nat.add_zero, Nat.mul_one, Nat.one_mul, List.flatten_cons, List.flatten_nil, c0, *]) | (simp only [zgoO, zgoG, zO_nil, zthen_normal, zgoC]) | (with_reducible apply And.intro) | (with_reducible intro _))
    | a :: r, HB, HE, FI, FI1, OK =>
      refine clmove_z (by have := OK.out.1; unfold reach; omega) ?_
      obtain ⟨l, hl⟩ : ∃ l, l = a :: r := ⟨_, rfl⟩
      rw [← hl] at FI OK HB ⊢
      clear hl FI1 HE
      repeat' (first | (simp only [zmPack, zfree, owners, Nat.reduceLT, List.filter_cons, List.filter_nil, List.contains_cons, List.contains_nil, Nat.reduceBEq, Bool.or_false, Bool.or_true, Bool.false_or, Bool.true_or, BEq.rfl, chunk, setAt, List.lookup_cons, List.lookup_nil, ZV.val.injEq, ZV.ptr.injEq, ZV.own.injEq, ZV.fz.injEq, ZV.func.injEq, ZV.tuple.injEq, ZV.agg.injEq, ZB.box.injEq, ZB.grow.injEq, Bool.not_eq_false', Prod.mk.injEq, and_assoc, decide_false, decide_true, Bool.not_false, Bool.not_true, Bool.true_eq_false, Bool.false_eq_true, exists_false, Bool.not_eq_false, Bool.not_not, Value.bool.injEq, Value.int.injEq, Option.some.injEq, exists_eq_left', exists_eq_left, exists_and_left, exists_and_right, and_true, true_and, decide_eq_true_eq, decide_eq_false_iff_not, if_true, if_false, Bool.not_eq_true', beq_true, beq_false, ne_eq, not_true_eq_false, not_false_eq_true, reduceCtorEq, List.getD_cons_zero, List.getD_cons_succ, List.getD_nil, List.map_cons, List.map_nil, List.append_nil, Nat.reduceEqDiff, reduceIte, ite_true, ite_false, or_true, true_or, or_false, false_or, true_imp_iff, false_imp_iff, implies_true, imp_false, and_self, imp_self, and_false, false_and, forall_const, take_map_all, Nat.le_refl, Nat.reduceMul, Nat.reduceSub, List.length_cons, List.length_nil, List.length_map, List.length_set, List.all_cons, List.all_nil, Bool.and_self, Option.map_none, Option.map_some, List.set_cons_zero, List.set_cons_succ, Nat.lt_add_one, List.append_assoc, List.cons_append, List.nil_append, List.append_nil, List.length_append, List.take_zero, List.take_succ_cons, List.take_nil, List.drop_zero, List.drop_succ_cons, List.drop_nil, List.getElem?_cons_zero, List.getElem?_cons_succ, List.getElem?_map, Nat.reduceAdd, Nat.reduceLeDiff, Nat.add_eq_zero_iff, and_self, Nat.zero_add, Nat.add_zero, Nat.mul_one, Nat.one_mul, List.flatten_cons, List.flatten_nil, *]) | (simp only [zgoO, zgoG, zO_nil, zthen_normal, zgoC]) | (with_reducible apply And.intro) | (with_reducible intro _))
      refine delf_z OK.out.1 (hL 0) fun R h1 h2 h3 => ?_
      have hO : OInv s (loseP l) (measM (loseP l)) (loseP l) [] R := ⟨rfl, .start, by
        have : (loseP l).length ≤ l.length := List.length_filter_le ..
        have := OK.out.1
        unfold measM
        simp only [List.length_nil]
        split <;> omega, h1, h2, h3⟩
      have hg := GoodM.lose OK.out
      have h1' := Lib.hid h1
      have HO := Lib.hid hO
      have FF := Lib.hid (fun out g g2 A X h => FI.out OK.out out g g2 A X h)
      clear h1 h2 h3 hO h1' FI
      obtain ⟨l0, hl0⟩ : ∃ l0, l0 = loseP l := ⟨_, rfl⟩
      rw [← hl0] at HO FF hg ⊢
      have HG := Lib.hid hg
      clear hl0 hg OK HB
      repeat' (first | (simp only [zmPack, zfree, owners, Nat.reduceLT, List.filter_cons, List.filter_nil, List.contains_cons, List.contains_nil, Nat.reduceBEq, Bool.or_false, Bool.or_true, Bool.false_or, Bool.true_or, BEq.rfl, chunk, setAt, List.lookup_cons, List.lookup_nil, ZV.val.injEq, ZV.ptr.injEq, ZV.own.injEq, ZV.fz.injEq, ZV.func.injEq, ZV.tuple.injEq, ZV.agg.injEq, ZB.box.injEq, ZB.grow.injEq, Bool.not_eq_false', Prod.mk.injEq, and_assoc, decide_false, decide_true, Bool.not_false, Bool.not_true, Bool.true_eq_false, Bool.false_eq_true, exists_false, Bool.not_eq_false, Bool.not_not, Value.bool.injEq, Value.int.injEq, Option.some.injEq, exists_eq_left', exists_eq_left, exists_and_left, exists_and_right, and_true, true_and, decide_eq_true_eq, decide_eq_false_iff_not, if_true, if_false, Bool.not_eq_true', beq_true, beq_false, ne_eq, not_true_eq_false, not_false_eq_true, reduceCtorEq, List.getD_cons_zero, List.getD_cons_succ, List.getD_nil, List.map_cons, List.map_nil, List.append_nil, Nat.reduceEqDiff, reduceIte, ite_true, ite_false, or_true, true_or, or_false, false_or, true_imp_iff, false_imp_iff, implies_true, imp_false, and_self, imp_self, and_false, false_and, forall_const, take_map_all, Nat.le_refl, Nat.reduceMul, Nat.reduceSub, List.length_cons, List.length_nil, List.length_map, List.length_set, List.all_cons, List.all_nil, Bool.and_self, Option.map_none, Option.map_some, List.set_cons_zero, List.set_cons_succ, Nat.lt_add_one, List.append_assoc, List.cons_append, List.nil_append, List.append_nil, List.length_append, List.take_zero, List.take_succ_cons, List.take_nil, List.drop_zero, List.drop_succ_cons, List.drop_nil, List.getElem?_cons_zero, List.getElem?_cons_succ, List.getElem?_map, Nat.reduceAdd, Nat.reduceLeDiff, Nat.add_eq_zero_iff, and_self, Nat.zero_add, Nat.add_zero, Nat.mul_one, Nat.one_mul, List.flatten_cons, List.flatten_nil, *]) | (simp only [zgoO, zgoG, zO_nil, zthen_normal, zgoC]) | (with_reducible apply And.intro) | (with_reducible intro _))
      refine zW_whileK [(1, Z64 s)] (measM l0) (fun m s' h' => ∃ left out g g2 R X, s' 7 = .own H.length g 0 left.length false ∧ s' 8 = .own (H.length + 1) g2 0 out.length false ∧ h' = H ++ (.grow g 2 R :: .grow g2 2 (out.map eMv) :: X) ∧ OInv s l0 m left out R) (by repeat' (first | exact trivial | (refine ⟨rfl, ?_⟩) | (refine ⟨by simp only [zupd_at, Nat.reduceEqDiff, reduceIte]; assumption, ?_⟩))) rfl ⟨l0, [], 0, 0, R, [], rfl, rfl, rfl, HO.out⟩ ?_
      clear HO
      rintro m s' h' ⟨left, out, g, g2, R, X, f7, f8, rfl, hO⟩ ⟨f1, -⟩
      have HO := Lib.hid hO
      clear hO
      have gl0 : L H.length = true := hL 0
      have gl1 : L (H.length + 1) = true := hL 1
      have g0 : ∀ A Y, (H ++ (A :: Y))[H.length]? = some A := fun A Y => mv_at0 A Y
      by_cases hpos : 0 < left.length
      · have c0 : (0 : Int) < (left.length : Int) := by omega
        have HP := Lib.hid hpos
        clear hpos
        repeat' (first | (simp only [zmPack, zfree, owners, Nat.reduceLT, List.filter_cons, List.filter_nil, List.contains_cons, List.contains_nil, Nat.reduceBEq, Bool.or_false, Bool.or_true, Bool.false_or, Bool.true_or, BEq.rfl, chunk, setAt, List.lookup_cons, List.lookup_nil, ZV.val.injEq, ZV.ptr.injEq, ZV.own.injEq, ZV.fz.injEq, ZV.func.injEq, ZV.tuple.injEq, ZV.agg.injEq, ZB.box.injEq, ZB.grow.injEq, Bool.not_eq_false', Prod.mk.injEq, and_assoc, decide_false, decide_true, Bool.not_false, Bool.not_true, Bool.true_eq_false, Bool.false_eq_true, exists_false, Bool.not_eq_false, Bool.not_not, Value.bool.injEq, Value.int.injEq, Option.some.injEq, exists_eq_left', exists_eq_left, exists_and_left, exists_and_right, and_true, true_and, decide_eq_true_eq, decide_eq_false_iff_not, if_true, if_false, Bool.not_eq_true', beq_true, beq_false, ne_eq, not_true_eq_false, not_false_eq_true, reduceCtorEq, List.getD_cons_zero, List.getD_cons_succ, List.getD_nil, List.map_cons, List.map_nil, List.append_nil, Nat.reduceEqDiff, reduceIte, ite_true, ite_false, or_true, true_or, or_false, false_or, true_imp_iff, false_imp_iff, implies_true, imp_false, and_self, imp_self, and_false, false_and, forall_const, take_map_all, Nat.le_refl, Nat.reduceMul, Nat.reduceSub, List.length_cons, List.length_nil, List.length_map, List.length_set, List.all_cons, List.all_nil, Bool.and_self, Option.map_none, Option.map_some, List.set_cons_zero, List.set_cons_succ, Nat.lt_add_one, List.append_assoc, List.cons_append, List.nil_append, List.append_nil, List.length_append, List.take_zero, List.take_succ_cons, List.take_nil, List.drop_zero, List.drop_succ_cons, List.drop_nil, List.getElem?_cons_zero, List.getElem?_cons_succ, List.getElem?_map, Nat.reduceAdd, Nat.reduceLeDiff, Nat.add_eq_zero_iff, and_self, Nat.zero_add, Nat.add_zero, Nat.mul_one, Nat.one_mul, List.flatten_cons, List.flatten_nil, c0, g0, *]) | (simp only [zgoO, zgoG, zO_nil, zthen_normal, zgoC]) | (with_reducible apply And.intro) | (with_reducible intro _))
        refine mv_free_z (l := left) (by have := HO.out.ho; have := HO.out.hm; unfold measM at this; omega) (fun Y => by
          rw [rows_own]
          exact ⟨R, by rw [List.append_assoc, List.cons_append]; exact mv_at0 _ _, by have := HO.out.hl; omega, by rw [List.drop_zero]; exact HO.out.hR⟩) ?_
        cases hf : left.findIdx? (freeAt left) with
        | some i =>
          have hi : idxP (freeAt left) left = (i : Int) := by simp only [idxP, hf]
          rw [hi]
          obtain ⟨hil, m', hlt, hO', hlen⟩ := HO.out.go hf
          have c1 : (0 : Int) ≤ (i : Int) := by omega
          have hx : R[i]? = some (eMv left[i]) := by
            have : (R.take left.length)[i]? = R[i]? := by rw [List.getElem?_take, if_pos hil]
            rw [← this, HO.out.hR]; simp [hil]
          have hle := HO.out.hl
          have h60 : left.length ≤ 60 := by have := HO.out.ho; have := HO.out.hm; unfold measM at this; omega
          have wi : IntKind.i64.wrap ((i : Int) + 1) = (i : Int) + 1 := IntWalk.i64_in _ (by omega)
          obtain ⟨q, hq⟩ : ∃ q, q = left[i] := ⟨_, rfl⟩
          rw [← hq] at hO' hx
          have HO' := Lib.hid hO'
          obtain ⟨q1, q2⟩ := q
          have hol : (out.length + 1) * 16 ≤ reach := by have := HO.out.ho; unfold reach; omega
          have hap : ∀ Y, appZ L (H ++ (.grow g 2 R :: .grow g2 2 (out.map eMv) :: Y)) 2 16 [[Z64 q1, Z64 q2]] (.own (H.length + 1) g2 0 out.length false) = some (.own (H.length + 1) (g2 + 1) 0 (out.length + 1) false, H ++ (.grow g 2 R :: .grow (g2 + 1) 2 ((out ++ [(q1, q2)]).map eMv) :: Y)) := fun Y => by
            rw [app_own]
            exact ⟨out.map eMv, mv_at1 _ _ _, by simp, hol, gl1, rfl, by rw [mv_st1, List.drop_zero, take_map_all]; simp⟩
          have hlen' := Lib.hid hlen
          clear hf hi hq hO' HO hlen
          repeat' (first | (simp only [zmPack, zfree, owners, Nat.reduceLT, List.filter_cons, List.filter_nil, List.contains_cons, List.contains_nil, Nat.reduceBEq, Bool.or_false, Bool.or_true, Bool.false_or, Bool.true_or, BEq.rfl, chunk, setAt, List.lookup_cons, List.lookup_nil, ZV.val.injEq, ZV.ptr.injEq, ZV.own.injEq, ZV.fz.injEq, ZV.func.injEq, ZV.tuple.injEq, ZV.agg.injEq, ZB.box.injEq, ZB.grow.injEq, Bool.not_eq_false', Prod.mk.injEq, and_assoc, decide_false, decide_true, Bool.not_false, Bool.not_true, Bool.true_eq_false, Bool.false_eq_true, exists_false, Bool.not_eq_false, Bool.not_not, Value.bool.injEq, Value.int.injEq, Option.some.injEq, exists_eq_left', exists_eq_left, exists_and_left, exists_and_right, and_true, true_and, decide_eq_true_eq, decide_eq_false_iff_not, if_true, if_false, Bool.not_eq_true', beq_true, beq_false, ne_eq, not_true_eq_false, not_false_eq_true, reduceCtorEq, List.getD_cons_zero, List.getD_cons_succ, List.getD_nil, List.map_cons, List.map_nil, List.append_nil, Nat.reduceEqDiff, reduceIte, ite_true, ite_false, or_true, true_or, or_false, false_or, true_imp_iff, false_imp_iff, implies_true, imp_false, and_self, imp_self, and_false, false_and, forall_const, take_map_all, Nat.le_refl, Nat.reduceMul, Nat.reduceSub, List.length_cons, List.length_nil, List.length_map, List.length_set, List.all_cons, List.all_nil, Bool.and_self, Option.map_none, Option.map_some, List.set_cons_zero, List.set_cons_succ, Nat.lt_add_one, List.append_assoc, List.cons_append, List.nil_append, List.append_nil, List.length_append, List.take_zero, List.take_succ_cons, List.take_nil, List.drop_zero, List.drop_succ_cons, List.drop_nil, List.getElem?_cons_zero, List.getElem?_cons_succ, List.getElem?_map, Nat.reduceAdd, Nat.reduceLeDiff, Nat.add_eq_zero_iff, and_self, Nat.zero_add, Nat.add_zero, Nat.mul_one, Nat.one_mul, List.flatten_cons, List.flatten_nil, c1, hx, g0, hap, wi, *]) | (simp only [zgoO, zgoG, zO_nil, zthen_normal, zgoC]) | (with_reducible apply And.intro) | (with_reducible intro _))
          refine del_z (n := left.length) (i := i) (mv_at0 _ _) hle hil gl0 h60 ?_
          rw [mv_st0]
          repeat' (first | (simp only [zmPack, zfree, owners, Nat.reduceLT, List.filter_cons, List.filter_nil, List.contains_cons, List.contains_nil, Nat.reduceBEq, Bool.or_false, Bool.or_true, Bool.false_or, Bool.true_or, BEq.rfl, chunk, setAt, List.lookup_cons, List.lookup_nil, ZV.val.injEq, ZV.ptr.injEq, ZV.own.injEq, ZV.fz.injEq, ZV.func.injEq, ZV.tuple.injEq, ZV.agg.injEq, ZB.box.injEq, ZB.grow.injEq, Bool.not_eq_false', Prod.mk.injEq, and_assoc, decide_false, decide_true, Bool.not_false, Bool.not_true, Bool.true_eq_false, Bool.false_eq_true, exists_false, Bool.not_eq_false, Bool.not_not, Value.bool.injEq, Value.int.injEq, Option.some.injEq, exists_eq_left', exists_eq_left, exists_and_left, exists_and_right, and_true, true_and, decide_eq_true_eq, decide_eq_false_iff_not, if_true, if_false, Bool.not_eq_true', beq_true, beq_false, ne_eq, not_true_eq_false, not_false_eq_true, reduceCtorEq, List.getD_cons_zero, List.getD_cons_succ, List.getD_nil, List.map_cons, List.map_nil, List.append_nil, Nat.reduceEqDiff, reduceIte, ite_true, ite_false, or_true, true_or, or_false, false_or, true_imp_iff, false_imp_iff, implies_true, imp_false, and_self, imp_self, and_false, false_and, forall_const, take_map_all, Nat.le_refl, Nat.reduceMul, Nat.reduceSub, List.length_cons, List.length_nil, List.length_map, List.length_set, List.all_cons, List.all_nil, Bool.and_self, Option.map_none, Option.map_some, List.set_cons_zero, List.set_cons_succ, Nat.lt_add_one, List.append_assoc, List.cons_append, List.nil_append, List.append_nil, List.length_append, List.take_zero, List.take_succ_cons, List.take_nil, List.drop_zero, List.drop_succ_cons, List.drop_nil, List.getElem?_cons_zero, List.getElem?_cons_succ, List.getElem?_map, Nat.reduceAdd, Nat.reduceLeDiff, Nat.add_eq_zero_iff, and_self, Nat.zero_add, Nat.add_zero, Nat.mul_one, Nat.one_mul, List.flatten_cons, List.flatten_nil, *]) | (simp only [zgoO, zgoG, zO_nil, zthen_normal, zgoC]) | (with_reducible apply And.intro) | (with_reducible intro _))
          exact ⟨m', hlt, _, hlen'.out.symm, _, by simp, _, ⟨_, rfl⟩, HO'.out⟩
        | none =>
          have hi : idxP (freeAt left) left = -1 := by simp only [idxP, hf]
          rw [hi]
          have c1 : ¬ (0 : Int) ≤ -1 := by omega
          obtain ⟨q, hq⟩ : ∃ q, left[0]? = some q := ⟨_, List.getElem?_eq_getElem HP.out⟩
          have hB : BInv s q.1 left 0 R := ⟨by simpa using HO.out.hR, HO.out.hl, HO.out.hp⟩
          have hx : R[0]? = some (eMv q) := by
            have h1 := List.getElem?_eq_getElem HP.out
            rw [hq] at h1
            injection h1 with h1
            rw [h1]; exact hB.at HP.out
          have hbk := fun R2 h => HO.out.brk (R2 := R2) HG.out hf hq h
          have h60 : left.length ≤ 60 := by have := HO.out.ho; have := HO.out.hm; unfold measM at this; omega
          have hle := HO.out.hl
          have hol : (out.length + 1) * 16 ≤ reach := by have := HO.out.ho; unfold reach; omega
          obtain ⟨q1, q2⟩ := q
          have hap : ∀ Y, appZ L (H ++ (.grow g 2 R :: .grow g2 2 (out.map eMv) :: Y)) 2 16 [[Z64 s, Z64 q1]] (.own (H.length + 1) g2 0 out.length false) = some (.own (H.length + 1) (g2 + 1) 0 (out.length + 1) false, H ++ (.grow g 2 R :: .grow (g2 + 1) 2 ((out ++ [(s, q1)]).map eMv) :: Y)) := fun Y => by
            rw [app_own]
            exact ⟨out.map eMv, mv_at1 _ _ _, by simp, hol, gl1, rfl, by rw [mv_st1, List.drop_zero, take_map_all]; simp⟩
          have n0 : natZ (Z64 0) = some 0 := rfl
          have h0l := HP.out
          have HBK := Lib.hid hbk
          have HB0 := Lib.hid hB
          clear hf hi hq hB HO hbk
          repeat' (first | (simp only [zmPack, zfree, owners, Nat.reduceLT, List.filter_cons, List.filter_nil, List.contains_cons, List.contains_nil, Nat.reduceBEq, Bool.or_false, Bool.or_true, Bool.false_or, Bool.true_or, BEq.rfl, chunk, setAt, List.lookup_cons, List.lookup_nil, ZV.val.injEq, ZV.ptr.injEq, ZV.own.injEq, ZV.fz.injEq, ZV.func.injEq, ZV.tuple.injEq, ZV.agg.injEq, ZB.box.injEq, ZB.grow.injEq, Bool.not_eq_false', Prod.mk.injEq, and_assoc, decide_false, decide_true, Bool.not_false, Bool.not_true, Bool.true_eq_false, Bool.false_eq_true, exists_false, Bool.not_eq_false, Bool.not_not, Value.bool.injEq, Value.int.injEq, Option.some.injEq, exists_eq_left', exists_eq_left, exists_and_left, exists_and_right, and_true, true_and, decide_eq_true_eq, decide_eq_false_iff_not, if_true, if_false, Bool.not_eq_true', beq_true, beq_false, ne_eq, not_true_eq_false, not_false_eq_true, reduceCtorEq, List.getD_cons_zero, List.getD_cons_succ, List.getD_nil, List.map_cons, List.map_nil, List.append_nil, Nat.reduceEqDiff, reduceIte, ite_true, ite_false, or_true, true_or, or_false, false_or, true_imp_iff, false_imp_iff, implies_true, imp_false, and_self, imp_self, and_false, false_and, forall_const, take_map_all, Nat.le_refl, Nat.reduceMul, Nat.reduceSub, List.length_cons, List.length_nil, List.length_map, List.length_set, List.all_cons, List.all_nil, Bool.and_self, Option.map_none, Option.map_some, List.set_cons_zero, List.set_cons_succ, Nat.lt_add_one, List.append_assoc, List.cons_append, List.nil_append, List.append_nil, List.length_append, List.take_zero, List.take_succ_cons, List.take_nil, List.drop_zero, List.drop_succ_cons, List.drop_nil, List.getElem?_cons_zero, List.getElem?_cons_succ, List.getElem?_map, Nat.reduceAdd, Nat.reduceLeDiff, Nat.add_eq_zero_iff, and_self, Nat.zero_add, Nat.add_zero, Nat.mul_one, Nat.one_mul, List.flatten_cons, List.flatten_nil, c1, hx, g0, hap, n0, *]) | (simp only [zgoO, zgoG, zO_nil, zthen_normal, zgoC]) | (with_reducible apply And.intro) | (with_reducible intro _))
          refine zW_forK [(1, Z64 s), (10, Z64 q1), (7, .own H.length g 0 left.length false), (8, .own (H.length + 1) (g2 + 1) 0 (out.length + 1) false)] left.length (fun k s2 h2 => ∃ R2 X2, h2 = H ++ (.grow g 2 R2 :: .grow (g2 + 1) 2 ((out ++ [(s, q1)]).map eMv) :: X2) ∧ BInv s q1 left k R2) (by omega) ⟨rfl, rfl, rfl, rfl, rfl, rfl⟩ rfl rfl (by repeat' (first | exact trivial | (refine ⟨rfl, ?_⟩) | (refine ⟨by simp only [zupd_at, Nat.reduceEqDiff, reduceIte]; assumption, ?_⟩))) rfl rfl (by decide) ⟨R, _, rfl, HB0.out⟩ ?_ ?_
          · clear HB0 hx
            rintro k s2 h2 hk ⟨R2, X2, rfl, hB⟩ hi hl ⟨k1, k10, k7, k8, -⟩
            have hx := hB.at hk
            have hn := hB.next hk
            have hle2 := hB.hl
            obtain ⟨y, hy⟩ : ∃ y, y = left[k] := ⟨_, rfl⟩
            rw [← hy] at hx hn
            obtain ⟨y1, y2⟩ := y
            have HN := Lib.hid hn
            have gs : ∀ A C Y, (H ++ (A :: Y)).set H.length C = H ++ (C :: Y) := fun A C Y => mv_st0 A C Y
            have hkR : k < R2.length := by omega
            clear hB hn hy
            by_cases he : y2 = q1
            · have fin := HN.out.2 he
              subst he
              repeat' (first | (simp only [zmPack, zfree, owners, Nat.reduceLT, List.filter_cons, List.filter_nil, List.contains_cons, List.contains_nil, Nat.reduceBEq, Bool.or_false, Bool.or_true, Bool.false_or, Bool.true_or, BEq.rfl, chunk, setAt, List.lookup_cons, List.lookup_nil, ZV.val.injEq, ZV.ptr.injEq, ZV.own.injEq, ZV.fz.injEq, ZV.func.injEq, ZV.tuple.injEq, ZV.agg.injEq, ZB.box.injEq, ZB.grow.injEq, Bool.not_eq_false', Prod.mk.injEq, and_assoc, decide_false, decide_true, Bool.not_false, Bool.not_true, Bool.true_eq_false, Bool.false_eq_true, exists_false, Bool.not_eq_false, Bool.not_not, Value.bool.injEq, Value.int.injEq, Option.some.injEq, exists_eq_left', exists_eq_left, exists_and_left, exists_and_right, and_true, true_and, decide_eq_true_eq, decide_eq_false_iff_not, if_true, if_false, Bool.not_eq_true', beq_true, beq_false, ne_eq, not_true_eq_false, not_false_eq_true, reduceCtorEq, List.getD_cons_zero, List.getD_cons_succ, List.getD_nil, List.map_cons, List.map_nil, List.append_nil, Nat.reduceEqDiff, reduceIte, ite_true, ite_false, or_true, true_or, or_false, false_or, true_imp_iff, false_imp_iff, implies_true, imp_false, and_self, imp_self, and_false, false_and, forall_const, take_map_all, Nat.le_refl, Nat.reduceMul, Nat.reduceSub, List.length_cons, List.length_nil, List.length_map, List.length_set, List.all_cons, List.all_nil, Bool.and_self, Option.map_none, Option.map_some, List.set_cons_zero, List.set_cons_succ, Nat.lt_add_one, List.append_assoc, List.cons_append, List.nil_append, List.append_nil, List.length_append, List.take_zero, List.take_succ_cons, List.take_nil, List.drop_zero, List.drop_succ_cons, List.drop_nil, List.getElem?_cons_zero, List.getElem?_cons_succ, List.getElem?_map, Nat.reduceAdd, Nat.reduceLeDiff, Nat.add_eq_zero_iff, and_self, Nat.zero_add, Nat.add_zero, Nat.mul_one, Nat.one_mul, List.flatten_cons, List.flatten_nil, hx, g0, gs, *]) | (simp only [zgoO, zgoG, zO_nil, zthen_normal, zgoC]) | (with_reducible apply And.intro) | (with_reducible intro _))
              exact ⟨_, ⟨_, rfl⟩, fin⟩
            · have fin := HN.out.1 he
              repeat' (first | (simp only [zmPack, zfree, owners, Nat.reduceLT, List.filter_cons, List.filter_nil, List.contains_cons, List.contains_nil, Nat.reduceBEq, Bool.or_false, Bool.or_true, Bool.false_or, Bool.true_or, BEq.rfl, chunk, setAt, List.lookup_cons, List.lookup_nil, ZV.val.injEq, ZV.ptr.injEq, ZV.own.injEq, ZV.fz.injEq, ZV.func.injEq, ZV.tuple.injEq, ZV.agg.injEq, ZB.box.injEq, ZB.grow.injEq, Bool.not_eq_false', Prod.mk.injEq, and_assoc, decide_false, decide_true, Bool.not_false, Bool.not_true, Bool.true_eq_false, Bool.false_eq_true, exists_false, Bool.not_eq_false, Bool.not_not, Value.bool.injEq, Value.int.injEq, Option.some.injEq, exists_eq_left', exists_eq_left, exists_and_left, exists_and_right, and_true, true_and, decide_eq_true_eq, decide_eq_false_iff_not, if_true, if_false, Bool.not_eq_true', beq_true, beq_false, ne_eq, not_true_eq_false, not_false_eq_true, reduceCtorEq, List.getD_cons_zero, List.getD_cons_succ, List.getD_nil, List.map_cons, List.map_nil, List.append_nil, Nat.reduceEqDiff, reduceIte, ite_true, ite_false, or_true, true_or, or_false, false_or, true_imp_iff, false_imp_iff, implies_true, imp_false, and_self, imp_self, and_false, false_and, forall_const, take_map_all, Nat.le_refl, Nat.reduceMul, Nat.reduceSub, List.length_cons, List.length_nil, List.length_map, List.length_set, List.all_cons, List.all_nil, Bool.and_self, Option.map_none, Option.map_some, List.set_cons_zero, List.set_cons_succ, Nat.lt_add_one, List.append_assoc, List.cons_append, List.nil_append, List.append_nil, List.length_append, List.take_zero, List.take_succ_cons, List.take_nil, List.drop_zero, List.drop_succ_cons, List.drop_nil, List.getElem?_cons_zero, List.getElem?_cons_succ, List.getElem?_map, Nat.reduceAdd, Nat.reduceLeDiff, Nat.add_eq_zero_iff, and_self, Nat.zero_add, Nat.add_zero, Nat.mul_one, Nat.one_mul, List.flatten_cons, List.flatten_nil, hx, g0, gs, *]) | (simp only [zgoO, zgoG, zO_nil, zthen_normal, zgoC]) | (with_reducible apply And.intro) | (with_reducible intro _))
              exact ⟨_, ⟨_, rfl⟩, fin⟩
          · rintro s2 h2 ⟨R2, X2, rfl, hB⟩ ⟨k1, k10, k7, k8, -⟩
            obtain ⟨m', left', hlt, hO', hlen⟩ := HBK.out R2 hB
            have HO' := Lib.hid hO'
            have hlen' := Lib.hid hlen
            clear hB hO' hlen
            repeat' (first | (simp only [zmPack, zfree, owners, Nat.reduceLT, List.filter_cons, List.filter_nil, List.contains_cons, List.contains_nil, Nat.reduceBEq, Bool.or_false, Bool.or_true, Bool.false_or, Bool.true_or, BEq.rfl, chunk, setAt, List.lookup_cons, List.lookup_nil, ZV.val.injEq, ZV.ptr.injEq, ZV.own.injEq, ZV.fz.injEq, ZV.func.injEq, ZV.tuple.injEq, ZV.agg.injEq, ZB.box.injEq, ZB.grow.injEq, Bool.not_eq_false', Prod.mk.injEq, and_assoc, decide_false, decide_true, Bool.not_false, Bool.not_true, Bool.true_eq_false, Bool.false_eq_true, exists_false, Bool.not_eq_false, Bool.not_not, Value.bool.injEq, Value.int.injEq, Option.some.injEq, exists_eq_left', exists_eq_left, exists_and_left, exists_and_right, and_true, true_and, decide_eq_true_eq, decide_eq_false_iff_not, if_true, if_false, Bool.not_eq_true', beq_true, beq_false, ne_eq, not_true_eq_false, not_false_eq_true, reduceCtorEq, List.getD_cons_zero, List.getD_cons_succ, List.getD_nil, List.map_cons, List.map_nil, List.append_nil, Nat.reduceEqDiff, reduceIte, ite_true, ite_false, or_true, true_or, or_false, false_or, true_imp_iff, false_imp_iff, implies_true, imp_false, and_self, imp_self, and_false, false_and, forall_const, take_map_all, Nat.le_refl, Nat.reduceMul, Nat.reduceSub, List.length_cons, List.length_nil, List.length_map, List.length_set, List.all_cons, List.all_nil, Bool.and_self, Option.map_none, Option.map_some, List.set_cons_zero, List.set_cons_succ, Nat.lt_add_one, List.append_assoc, List.cons_append, List.nil_append, List.append_nil, List.length_append, List.take_zero, List.take_succ_cons, List.take_nil, List.drop_zero, List.drop_succ_cons, List.drop_nil, List.getElem?_cons_zero, List.getElem?_cons_succ, List.getElem?_map, Nat.reduceAdd, Nat.reduceLeDiff, Nat.add_eq_zero_iff, and_self, Nat.zero_add, Nat.add_zero, Nat.mul_one, Nat.one_mul, List.flatten_cons, List.flatten_nil, *]) | (simp only [zgoO, zgoG, zO_nil, zthen_normal, zgoC]) | (with_reducible apply And.intro) | (with_reducible intro _))
            exact ⟨m', hlt, _, hlen'.out.symm, _, by simp, _, ⟨_, rfl⟩, HO'.out⟩
      · have c0 : ¬ (0 : Int) < (left.length : Int) := by omega
        have hnil : left = [] := List.eq_nil_of_length_eq_zero (by omega)
        subst hnil
        simp only [List.length_nil] at f7 c0
        have fin := FF.out out g g2 (.grow g 2 R) X HO.out.hM
        clear HO hpos
        repeat' (first | (simp only [zmPack, zfree, owners, Nat.reduceLT, List.filter_cons, List.filter_nil, List.contains_cons, List.contains_nil, Nat.reduceBEq, Bool.or_false, Bool.or_true, Bool.false_or, Bool.true_or, BEq.rfl, chunk, setAt, List.lookup_cons, List.lookup_nil, ZV.val.injEq, ZV.ptr.injEq, ZV.own.injEq, ZV.fz.injEq, ZV.func.injEq, ZV.tuple.injEq, ZV.agg.injEq, ZB.box.injEq, ZB.grow.injEq, Bool.not_eq_false', Prod.mk.injEq, and_assoc, decide_false, decide_true, Bool.not_false, Bool.not_true, Bool.true_eq_false, Bool.false_eq_true, exists_false, Bool.not_eq_false, Bool.not_not, Value.bool.injEq, Value.int.injEq, Option.some.injEq, exists_eq_left', exists_eq_left, exists_and_left, exists_and_right, and_true, true_and, decide_eq_true_eq, decide_eq_false_iff_not, if_true, if_false, Bool.not_eq_true', beq_true, beq_false, ne_eq, not_true_eq_false, not_false_eq_true, reduceCtorEq, List.getD_cons_zero, List.getD_cons_succ, List.getD_nil, List.map_cons, List.map_nil, List.append_nil, Nat.reduceEqDiff, reduceIte, ite_true, ite_false, or_true, true_or, or_false, false_or, true_imp_iff, false_imp_iff, implies_true, imp_false, and_self, imp_self, and_false, false_and, forall_const, take_map_all, Nat.le_refl, Nat.reduceMul, Nat.reduceSub, List.length_cons, List.length_nil, List.length_map, List.length_set, List.all_cons, List.all_nil, Bool.and_self, Option.map_none, Option.map_some, List.set_cons_zero, List.set_cons_succ, Nat.lt_add_one, List.append_assoc, List.cons_append, List.nil_append, List.append_nil, List.length_append, List.take_zero, List.take_succ_cons, List.take_nil, List.drop_zero, List.drop_succ_cons, List.drop_nil, List.getElem?_cons_zero, List.getElem?_cons_succ, List.getElem?_map, Nat.reduceAdd, Nat.reduceLeDiff, Nat.add_eq_zero_iff, and_self, Nat.zero_add, Nat.add_zero, Nat.mul_one, Nat.one_mul, List.flatten_cons, List.flatten_nil, c0, g0, *]) | (simp only [zgoO, zgoG, zO_nil, zthen_normal, zgoC]) | (with_reducible apply And.intro) | (with_reducible intro _))
  · have fin := Fin.keep (H0 := H) (HE.out e h0)
    clear he
    repeat' (first | (simp only [zmPack, zfree, owners, Nat.reduceLT, List.filter_cons, List.filter_nil, List.contains_cons, List.contains_nil, Nat.reduceBEq, Bool.or_false, Bool.or_true, Bool.false_or, Bool.true_or, BEq.rfl, chunk, setAt, List.lookup_cons, List.lookup_nil, ZV.val.injEq, ZV.ptr.injEq, ZV.own.injEq, ZV.fz.injEq, ZV.func.injEq, ZV.tuple.injEq, ZV.agg.injEq, ZB.box.injEq, ZB.grow.injEq, Bool.not_eq_false', Prod.mk.injEq, and_assoc, decide_false, decide_true, Bool.not_false, Bool.not_true, Bool.true_eq_false, Bool.false_eq_true, exists_false, Bool.not_eq_false, Bool.not_not, Value.bool.injEq, Value.int.injEq, Option.some.injEq, exists_eq_left', exists_eq_left, exists_and_left, exists_and_right, and_true, true_and, decide_eq_true_eq, decide_eq_false_iff_not, if_true, if_false, Bool.not_eq_true', beq_true, beq_false, ne_eq, not_true_eq_false, not_false_eq_true, reduceCtorEq, List.getD_cons_zero, List.getD_cons_succ, List.getD_nil, List.map_cons, List.map_nil, List.append_nil, Nat.reduceEqDiff, reduceIte, ite_true, ite_false, or_true, true_or, or_false, false_or, true_imp_iff, false_imp_iff, implies_true, imp_false, and_self, imp_self, and_false, false_and, forall_const, take_map_all, Nat.le_refl, Nat.reduceMul, Nat.reduceSub, List.length_cons, List.length_nil, List.length_map, List.length_set, List.all_cons, List.all_nil, Bool.and_self, Option.map_none, Option.map_some, List.set_cons_zero, List.set_cons_succ, Nat.lt_add_one, List.append_assoc, List.cons_append, List.nil_append, List.append_nil, List.length_append, List.take_zero, List.take_succ_cons, List.take_nil, List.drop_zero, List.drop_succ_cons, List.drop_nil, List.getElem?_cons_zero, List.getElem?_cons_succ, List.getElem?_map, Nat.reduceAdd, Nat.reduceLeDiff, Nat.add_eq_zero_iff, and_self, Nat.zero_add, Nat.add_zero, Nat.mul_one, Nat.one_mul, List.flatten_cons, List.flatten_nil, *]) | (simp only [zgoO, zgoG, zO_nil, zthen_normal, zgoC]) | (with_reducible apply And.intro) | (with_reducible intro _))
end Go.Proofs.Ytmecaddjeljliaa
