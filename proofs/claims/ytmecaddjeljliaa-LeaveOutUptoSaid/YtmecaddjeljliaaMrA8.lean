/-
  leave.Cells, in ZM.
-/
import Derived.Test.YtmecaddjeljliaaMrA7
namespace Go.Proofs.Ytmecaddjeljliaa
open Go Go.RowKit
set_option linter.unusedVariables false
set_option linter.unusedSimpArgs false
variable {tb : List (FuncId × Bool)} {L : Nat → Bool} {H : ZH} {K : ZV → ZH → Prop}
abbrev Mk := Int × Int × Int × List Int
abbrev eM (m : Mk) : List ZV := [Z64 m.1, Z64 m.2.1, Z64 m.2.2.1, .fz 1 false (m.2.2.2.map eI)]
/-- One cell made. -/
def mkStep (vals : List (Int × Int)) (r : Int × List Cl) (m : Mk) : Int × List Cl :=
  if r.1 ≠ 0 then r else if (toldB [m.1] vals && toldB m.2.2.2 vals) = false then (3, []) else
    if (vals.getD m.1.toNat (0, 0)).1 = 5 ∧ 0 ≤ (vals.getD m.1.toNat (0, 0)).2 ∧ (vals.getD m.1.toNat (0, 0)).2 < r.2.length ∧ (r.2.getD (vals.getD m.1.toNat (0, 0)).2.toNat (1, 0, [], [])).1 = 0 then
      (0, r.2.set (vals.getD m.1.toNat (0, 0)).2.toNat (m.2.1, m.2.2.1, toldL m.2.2.2 vals, [])) else (8, [])
def mkAll (vals : List (Int × Int)) (l : List Cl) (ms : List Mk) : Int × List Cl := ms.foldl (mkStep vals) (0, l)
theorem mkAll_take {vals : List (Int × Int)} {l : List Cl} {ms : List Mk} {k : Nat} (hk : k < ms.length) : mkAll vals l (ms.take (k + 1)) = mkStep vals (mkAll vals l (ms.take k)) ms[k] := by
  unfold mkAll; rw [List.take_succ_eq_append_getElem hk, List.foldl_append]; rfl
theorem mkAll_stuck {vals : List (Int × Int)} {ms : List Mk} {r : Int × List Cl} (h : r.1 ≠ 0) : ms.foldl (mkStep vals) r = r := by
  induction ms generalizing r with
  | nil => rfl
  | cons m ms ih =>
    have e : mkStep vals r m = r := by unfold mkStep; rw [if_pos h]
    rw [List.foldl_cons, e]; exact ih h
theorem mkAll_bad {vals : List (Int × Int)} {l : List Cl} {ms : List Mk} {k : Nat} (h : (mkAll vals l (ms.take k)).1 ≠ 0) : mkAll vals l ms = mkAll vals l (ms.take k) := by
  have : mkAll vals l ms = (ms.drop k).foldl (mkStep vals) (mkAll vals l (ms.take k)) := by
    unfold mkAll; rw [← List.foldl_append, List.take_append_drop]
  rw [this]; exact mkAll_stuck h
theorem mkStep_len {vals : List (Int × Int)} {r : Int × List Cl} {m : Mk} (h : (mkStep vals r m).1 = 0) : r.1 = 0 ∧ (mkStep vals r m).2.length = r.2.length := by
  unfold mkStep at h ⊢
  split at h
  · contradiction
  · rename_i h0
    rw [if_neg h0]
    split at h
    · simp at h
    · rename_i h1
      rw [if_neg h1]
      split at h
      · rename_i h2
        rw [if_pos h2]
        exact ⟨Decidable.not_not.1 h0, by simp⟩
      · simp at h
theorem toldL_one {n : Int} {vals : List (Int × Int)} (h : toldB [n] vals = true) : toldL [n] vals = [vals.getD n.toNat (0, 0)] := by
  simp only [toldB, List.all_cons, List.all_nil, Bool.and_true, Bool.and_eq_true, decide_eq_true_eq] at h
  have hj : n.toNat < vals.length := by omega
  unfold toldL
  simp [List.getElem?_eq_getElem hj, List.getD]
set_option maxHeartbeats 4000000 in
theorem cells_z {ex es em ev : Bool} {p1 p2 : Int} {sets : List (Int × Int)} {l : List Cl} {ms : List Mk} {vals : List (Int × Int)} (hl : l.length * 64 ≤ reach) (hs : ∀ c ∈ l, clS c) (hms : ms.length ≤ 1048576) (hmv : ∀ m ∈ ms, m.2.2.2.length ≤ 1048576)
    (hK0 : ∀ E, E ≠ 0 → (mkAll vals l ms).1 = E → K (.tuple [.nil, Z64 E]) H) (hK1 : (mkAll vals l ms).1 = 0 → K (.tuple [.fz 4 false ((mkAll vals l ms).2.map eC), Z64 0]) H) :
    ZC (constX tb) (cFunc Try.prog) 9 [.fz 4 ex (l.map eC), .agg [Z64 p1, Z64 p2, .fz 2 es (sets.map eP), .fz 4 em (ms.map eM)], .fz 2 ev (vals.map eP)] L H K := by
  refine ZC.enterL ⟨[(81, [(3, 1008)])], [], []⟩ constX_none f_lv_cells (by simp) fun hL => ?_
  simp only [c_lv_cells]
  have F0 : Hid (∀ k E X, (mkAll vals l (ms.take k)).1 = E → E ≠ 0 → Fin H (.tuple [.nil, Z64 E]) (H ++ X) K) := fun k E X h hE => Fin.trunc (Mods.ext H X) rfl (by rw [List.take_left]; exact hK0 E hE (by rw [mkAll_bad (k := k) (by rw [h]; exact hE), h]))
  have F1 : Hid ((mkAll vals l ms).1 = 0 → ∀ g A X, Fin H (.tuple [.own (H.length + 1) g 0 (mkAll vals l ms).2.length false, Z64 0]) (H ++ (A :: .grow g 4 ((mkAll vals l ms).2.map eC) :: X)) K) := fun h g A X => by
    refine Fin.frzT (j := 0) (k := 4) (rows := (mkAll vals l ms).2.map eC) rfl (atN1 rfl _ _ _) (by simp) pureC ?_
    rw [stN1 rfl, List.drop_zero, take_map_all]
    exact Fin.trunc (Mods.ext H _) rfl (by rw [List.take_left]; exact hK1 h)
  have F2 : Hid ((mkAll vals l ms).1 = 0 → (mkAll vals l ms).2 = [] → ∀ X, Fin H (.tuple [.fz 4 false [], Z64 0]) (H ++ X) K) := fun h h2 X => by
    refine Fin.trunc (Mods.ext H X) rfl ?_
    rw [List.take_left]
    have := hK1 h
    rw [h2] at this
    exact this
  have HS := Lib.hid hs
  have HMV := Lib.hid hmv
  clear hK0 hK1 hs hmv
  repeat' (first | (simp only [zmPack, zfree, owners, Nat.reduceLT, List.filter_cons, List.filter_nil, List.contains_cons, List.contains_nil, Nat.reduceBEq, Bool.or_false, Bool.or_true, Bool.false_or, Bool.true_or, BEq.rfl, chunk, setAt, List.lookup_cons, List.lookup_nil, ZV.val.injEq, ZV.ptr.injEq, ZV.own.injEq, ZV.fz.injEq, ZV.func.injEq, ZV.tuple.injEq, ZV.agg.injEq, ZB.box.injEq, ZB.grow.injEq, Bool.not_eq_false', Prod.mk.injEq, and_assoc, decide_false, decide_true, Bool.not_false, Bool.not_true, Bool.true_eq_false, Bool.false_eq_true, exists_false, Bool.not_eq_false, Bool.not_not, Value.bool.injEq, Value.int.injEq, Option.some.injEq, exists_eq_left', exists_eq_left, exists_and_left, exists_and_right, and_true, true_and, decide_eq_true_eq, decide_eq_false_iff_not, if_true, if_false, Bool.not_eq_true', beq_true, beq_false, ne_eq, not_true_eq_false, not_false_eq_true, reduceCtorEq, List.getD_cons_zero, List.getD_cons_succ, List.getD_nil, List.map_cons, List.map_nil, List.append_nil, Nat.reduceEqDiff, reduceIte, ite_true, ite_false, or_true, true_or, or_false, false_or, true_imp_iff, false_imp_iff, implies_true, imp_false, and_self, imp_self, and_false, false_and, forall_const, take_map_all, Nat.le_refl, Nat.reduceMul, Nat.reduceSub, List.length_cons, List.length_nil, List.length_map, List.length_set, List.all_cons, List.all_nil, Bool.and_self, Option.map_none, Option.map_some, List.set_cons_zero, List.set_cons_succ, Nat.lt_add_one, List.append_assoc, List.cons_append, List.nil_append, List.append_nil, List.length_append, List.take_zero, List.take_succ_cons, List.take_nil, List.drop_zero, List.drop_succ_cons, List.drop_nil, List.getElem?_cons_zero, List.getElem?_cons_succ, List.getElem?_map, Nat.reduceAdd, Nat.reduceLeDiff, Nat.add_eq_zero_iff, and_self, Nat.zero_add, Nat.add_zero, Nat.mul_one, Nat.one_mul, List.flatten_cons, List.flatten_nil, *]) | (simp only [zgoO, zgoG, zO_nil, zthen_normal, zgoC]) | (with_reducible apply And.intro) | (with_reducible intro _))
  obtain ⟨A0, hA0⟩ : ∃ A0, A0 = ZB.box [Z64 p1, Z64 p2, .fz 2 es (sets.map eP), .fz 4 em (ms.map eM)] := ⟨_, rfl⟩
  by_cases hle : l = []
  · subst hle
    refine own_0 ?_
    repeat' (first | (simp only [zmPack, zfree, owners, Nat.reduceLT, List.filter_cons, List.filter_nil, List.contains_cons, List.contains_nil, Nat.reduceBEq, Bool.or_false, Bool.or_true, Bool.false_or, Bool.true_or, BEq.rfl, chunk, setAt, List.lookup_cons, List.lookup_nil, ZV.val.injEq, ZV.ptr.injEq, ZV.own.injEq, ZV.fz.injEq, ZV.func.injEq, ZV.tuple.injEq, ZV.agg.injEq, ZB.box.injEq, ZB.grow.injEq, Bool.not_eq_false', Prod.mk.injEq, and_assoc, decide_false, decide_true, Bool.not_false, Bool.not_true, Bool.true_eq_false, Bool.false_eq_true, exists_false, Bool.not_eq_false, Bool.not_not, Value.bool.injEq, Value.int.injEq, Option.some.injEq, exists_eq_left', exists_eq_left, exists_and_left, exists_and_right, and_true, true_and, decide_eq_true_eq, decide_eq_false_iff_not, if_true, if_false, Bool.not_eq_true', beq_true, beq_false, ne_eq, not_true_eq_false, not_false_eq_true, reduceCtorEq, List.getD_cons_zero, List.getD_cons_succ, List.getD_nil, List.map_cons, List.map_nil, List.append_nil, Nat.reduceEqDiff, reduceIte, ite_true, ite_false, or_true, true_or, or_false, false_or, true_imp_iff, false_imp_iff, implies_true, imp_false, and_self, imp_self, and_false, false_and, forall_const, take_map_all, Nat.le_refl, Nat.reduceMul, Nat.reduceSub, List.length_cons, List.length_nil, List.length_map, List.length_set, List.all_cons, List.all_nil, Bool.and_self, Option.map_none, Option.map_some, List.set_cons_zero, List.set_cons_succ, Nat.lt_add_one, List.append_assoc, List.cons_append, List.nil_append, List.append_nil, List.length_append, List.take_zero, List.take_succ_cons, List.take_nil, List.drop_zero, List.drop_succ_cons, List.drop_nil, List.getElem?_cons_zero, List.getElem?_cons_succ, List.getElem?_map, Nat.reduceAdd, Nat.reduceLeDiff, Nat.add_eq_zero_iff, and_self, Nat.zero_add, Nat.add_zero, Nat.mul_one, Nat.one_mul, List.flatten_cons, List.flatten_nil, *]) | (simp only [zgoO, zgoG, zO_nil, zthen_normal, zgoC]) | (with_reducible apply And.intro) | (with_reducible intro _))
    rw [← hA0]
    have HA := Lib.hid hA0
    clear hA0 hl HS
    refine zW_forK [(2, .fz 2 ev (vals.map eP)), (8, .fz 4 false []), (19, .fz 4 em (ms.map eM))] ms.length (fun k s' h' => mkAll vals [] (ms.take k) = (0, []) ∧ ∃ X, h' = H ++ (A0 :: X)) (by omega) ⟨rfl, rfl, rfl, rfl, rfl, rfl⟩ rfl rfl (by repeat' (first | exact trivial | (refine ⟨rfl, ?_⟩) | (refine ⟨by simp only [zupd_at, Nat.reduceEqDiff, reduceIte]; assumption, ?_⟩))) rfl rfl (by decide) ⟨rfl, [], rfl⟩ ?_ ?_
    · rintro k s' h' hk ⟨hok, X, rfl⟩ hi hll ⟨f2, f8, f19, -⟩
      have hx : ms[k]? = some ms[k] := List.getElem?_eq_getElem hk
      have hmv := HMV.out ms[k] (List.getElem_mem hk)
      have hT := mkAll_take (vals := vals) (l := []) hk
      have f0 := F0.out (k + 1)
      obtain ⟨m, hm⟩ : ∃ m, m = ms[k] := ⟨_, rfl⟩
      rw [← hm] at hx hmv hT
      rw [hok] at hT
      obtain ⟨m1, m2, m3, mv⟩ := m
      rw [hT] at f0
      unfold mkStep at f0
      simp only at hmv f0
      have FF0 := Lib.hid f0
      clear hT hm f0 hok
      have c0 : ∀ (A C : ZB) (Y : ZH), (H ++ (A :: (X ++ (C :: Y))))[H.length + (X.length + 1)]? = some C := fun A C Y => by rw [show H ++ (A :: (X ++ (C :: Y))) = (H ++ (A :: X)) ++ (C :: Y) by simp]; exact atN0 (by simp) _ _
      have s0 : ∀ (A C D : ZB) (Y : ZH), (H ++ (A :: (X ++ (C :: Y)))).set (H.length + (X.length + 1)) D = H ++ (A :: (X ++ (D :: Y))) := fun A C D Y => by rw [show H ++ (A :: (X ++ (C :: Y))) = (H ++ (A :: X)) ++ (C :: Y) by simp, stN0 (n := H.length + (X.length + 1)) (by simp)]; simp
      have d0 : ∀ (A C D : ZB) (Y : ZH), (H ++ (A :: (X ++ (C :: D :: Y))))[H.length + (X.length + 1 + 1)]? = some D := fun A C D Y => by rw [show H ++ (A :: (X ++ (C :: D :: Y))) = (H ++ (A :: X)) ++ (C :: D :: Y) by simp]; exact atN1 (n := H.length + (X.length + 1)) (by simp) _ _ _
      have sd : ∀ (A C D E : ZB) (Y : ZH), (H ++ (A :: (X ++ (C :: D :: Y)))).set (H.length + (X.length + 1 + 1)) E = H ++ (A :: (X ++ (C :: E :: Y))) := fun A C D E Y => by rw [show H ++ (A :: (X ++ (C :: D :: Y))) = (H ++ (A :: X)) ++ (C :: D :: Y) by simp]; exact (stN1 (n := H.length + (X.length + 1)) (by simp) C D E Y).trans (by simp)
      have lx : L (H.length + (X.length + 1)) = true := hL _
      have ly : L (H.length + (X.length + 1 + 1)) = true := hL _
      have n0 : natZ (.val (.int .i64 0)) = some 0 := rfl
      repeat' (first | (simp only [zmPack, zfree, owners, Nat.reduceLT, List.filter_cons, List.filter_nil, List.contains_cons, List.contains_nil, Nat.reduceBEq, Bool.or_false, Bool.or_true, Bool.false_or, Bool.true_or, BEq.rfl, chunk, setAt, List.lookup_cons, List.lookup_nil, ZV.val.injEq, ZV.ptr.injEq, ZV.own.injEq, ZV.fz.injEq, ZV.func.injEq, ZV.tuple.injEq, ZV.agg.injEq, ZB.box.injEq, ZB.grow.injEq, Bool.not_eq_false', Prod.mk.injEq, and_assoc, decide_false, decide_true, Bool.not_false, Bool.not_true, Bool.true_eq_false, Bool.false_eq_true, exists_false, Bool.not_eq_false, Bool.not_not, Value.bool.injEq, Value.int.injEq, Option.some.injEq, exists_eq_left', exists_eq_left, exists_and_left, exists_and_right, and_true, true_and, decide_eq_true_eq, decide_eq_false_iff_not, if_true, if_false, Bool.not_eq_true', beq_true, beq_false, ne_eq, not_true_eq_false, not_false_eq_true, reduceCtorEq, List.getD_cons_zero, List.getD_cons_succ, List.getD_nil, List.map_cons, List.map_nil, List.append_nil, Nat.reduceEqDiff, reduceIte, ite_true, ite_false, or_true, true_or, or_false, false_or, true_imp_iff, false_imp_iff, implies_true, imp_false, and_self, imp_self, and_false, false_and, forall_const, take_map_all, Nat.le_refl, Nat.reduceMul, Nat.reduceSub, List.length_cons, List.length_nil, List.length_map, List.length_set, List.all_cons, List.all_nil, Bool.and_self, Option.map_none, Option.map_some, List.set_cons_zero, List.set_cons_succ, Nat.lt_add_one, List.append_assoc, List.cons_append, List.nil_append, List.append_nil, List.length_append, List.take_zero, List.take_succ_cons, List.take_nil, List.drop_zero, List.drop_succ_cons, List.drop_nil, List.getElem?_cons_zero, List.getElem?_cons_succ, List.getElem?_map, Nat.reduceAdd, Nat.reduceLeDiff, Nat.add_eq_zero_iff, and_self, Nat.zero_add, Nat.add_zero, Nat.mul_one, Nat.one_mul, List.flatten_cons, List.flatten_nil, hx, c0, s0, lx, *]) | (simp only [zgoO, zgoG, zO_nil, zthen_normal, zgoC]) | (with_reducible apply And.intro) | (with_reducible intro _))
      refine told_z (l := [m1]) (by simp) (fun h1 => ?_) (fun h1 => ?_)
      · have fin := fun X => FF0.out 3 X (by rw [if_neg (by simp), if_pos (by rw [h1]; rfl)]) (by omega)
        clear h1
        repeat' (first | (simp only [zmPack, zfree, owners, Nat.reduceLT, List.filter_cons, List.filter_nil, List.contains_cons, List.contains_nil, Nat.reduceBEq, Bool.or_false, Bool.or_true, Bool.false_or, Bool.true_or, BEq.rfl, chunk, setAt, List.lookup_cons, List.lookup_nil, ZV.val.injEq, ZV.ptr.injEq, ZV.own.injEq, ZV.fz.injEq, ZV.func.injEq, ZV.tuple.injEq, ZV.agg.injEq, ZB.box.injEq, ZB.grow.injEq, Bool.not_eq_false', Prod.mk.injEq, and_assoc, decide_false, decide_true, Bool.not_false, Bool.not_true, Bool.true_eq_false, Bool.false_eq_true, exists_false, Bool.not_eq_false, Bool.not_not, Value.bool.injEq, Value.int.injEq, Option.some.injEq, exists_eq_left', exists_eq_left, exists_and_left, exists_and_right, and_true, true_and, decide_eq_true_eq, decide_eq_false_iff_not, if_true, if_false, Bool.not_eq_true', beq_true, beq_false, ne_eq, not_true_eq_false, not_false_eq_true, reduceCtorEq, List.getD_cons_zero, List.getD_cons_succ, List.getD_nil, List.map_cons, List.map_nil, List.append_nil, Nat.reduceEqDiff, reduceIte, ite_true, ite_false, or_true, true_or, or_false, false_or, true_imp_iff, false_imp_iff, implies_true, imp_false, and_self, imp_self, and_false, false_and, forall_const, take_map_all, Nat.le_refl, Nat.reduceMul, Nat.reduceSub, List.length_cons, List.length_nil, List.length_map, List.length_set, List.all_cons, List.all_nil, Bool.and_self, Option.map_none, Option.map_some, List.set_cons_zero, List.set_cons_succ, Nat.lt_add_one, List.append_assoc, List.cons_append, List.nil_append, List.append_nil, List.length_append, List.take_zero, List.take_succ_cons, List.take_nil, List.drop_zero, List.drop_succ_cons, List.drop_nil, List.getElem?_cons_zero, List.getElem?_cons_succ, List.getElem?_map, Nat.reduceAdd, Nat.reduceLeDiff, Nat.add_eq_zero_iff, and_self, Nat.zero_add, Nat.add_zero, Nat.mul_one, Nat.one_mul, List.flatten_cons, List.flatten_nil, c0, s0, *]) | (simp only [zgoO, zgoG, zO_nil, zthen_normal, zgoC]) | (with_reducible apply And.intro) | (with_reducible intro _))
        refine told_z (l := mv) hmv (fun h2 => ?_) (fun h2 => ?_)
        · clear h2
          repeat' (first | (simp only [zmPack, zfree, owners, Nat.reduceLT, List.filter_cons, List.filter_nil, List.contains_cons, List.contains_nil, Nat.reduceBEq, Bool.or_false, Bool.or_true, Bool.false_or, Bool.true_or, BEq.rfl, chunk, setAt, List.lookup_cons, List.lookup_nil, ZV.val.injEq, ZV.ptr.injEq, ZV.own.injEq, ZV.fz.injEq, ZV.func.injEq, ZV.tuple.injEq, ZV.agg.injEq, ZB.box.injEq, ZB.grow.injEq, Bool.not_eq_false', Prod.mk.injEq, and_assoc, decide_false, decide_true, Bool.not_false, Bool.not_true, Bool.true_eq_false, Bool.false_eq_true, exists_false, Bool.not_eq_false, Bool.not_not, Value.bool.injEq, Value.int.injEq, Option.some.injEq, exists_eq_left', exists_eq_left, exists_and_left, exists_and_right, and_true, true_and, decide_eq_true_eq, decide_eq_false_iff_not, if_true, if_false, Bool.not_eq_true', beq_true, beq_false, ne_eq, not_true_eq_false, not_false_eq_true, reduceCtorEq, List.getD_cons_zero, List.getD_cons_succ, List.getD_nil, List.map_cons, List.map_nil, List.append_nil, Nat.reduceEqDiff, reduceIte, ite_true, ite_false, or_true, true_or, or_false, false_or, true_imp_iff, false_imp_iff, implies_true, imp_false, and_self, imp_self, and_false, false_and, forall_const, take_map_all, Nat.le_refl, Nat.reduceMul, Nat.reduceSub, List.length_cons, List.length_nil, List.length_map, List.length_set, List.all_cons, List.all_nil, Bool.and_self, Option.map_none, Option.map_some, List.set_cons_zero, List.set_cons_succ, Nat.lt_add_one, List.append_assoc, List.cons_append, List.nil_append, List.append_nil, List.length_append, List.take_zero, List.take_succ_cons, List.take_nil, List.drop_zero, List.drop_succ_cons, List.drop_nil, List.getElem?_cons_zero, List.getElem?_cons_succ, List.getElem?_map, Nat.reduceAdd, Nat.reduceLeDiff, Nat.add_eq_zero_iff, and_self, Nat.zero_add, Nat.add_zero, Nat.mul_one, Nat.one_mul, List.flatten_cons, List.flatten_nil, c0, s0, *]) | (simp only [zgoO, zgoG, zO_nil, zthen_normal, zgoC]) | (with_reducible apply And.intro) | (with_reducible intro _))
        · clear h2
          repeat' (first | (simp only [zmPack, zfree, owners, Nat.reduceLT, List.filter_cons, List.filter_nil, List.contains_cons, List.contains_nil, Nat.reduceBEq, Bool.or_false, Bool.or_true, Bool.false_or, Bool.true_or, BEq.rfl, chunk, setAt, List.lookup_cons, List.lookup_nil, ZV.val.injEq, ZV.ptr.injEq, ZV.own.injEq, ZV.fz.injEq, ZV.func.injEq, ZV.tuple.injEq, ZV.agg.injEq, ZB.box.injEq, ZB.grow.injEq, Bool.not_eq_false', Prod.mk.injEq, and_assoc, decide_false, decide_true, Bool.not_false, Bool.not_true, Bool.true_eq_false, Bool.false_eq_true, exists_false, Bool.not_eq_false, Bool.not_not, Value.bool.injEq, Value.int.injEq, Option.some.injEq, exists_eq_left', exists_eq_left, exists_and_left, exists_and_right, and_true, true_and, decide_eq_true_eq, decide_eq_false_iff_not, if_true, if_false, Bool.not_eq_true', beq_true, beq_false, ne_eq, not_true_eq_false, not_false_eq_true, reduceCtorEq, List.getD_cons_zero, List.getD_cons_succ, List.getD_nil, List.map_cons, List.map_nil, List.append_nil, Nat.reduceEqDiff, reduceIte, ite_true, ite_false, or_true, true_or, or_false, false_or, true_imp_iff, false_imp_iff, implies_true, imp_false, and_self, imp_self, and_false, false_and, forall_const, take_map_all, Nat.le_refl, Nat.reduceMul, Nat.reduceSub, List.length_cons, List.length_nil, List.length_map, List.length_set, List.all_cons, List.all_nil, Bool.and_self, Option.map_none, Option.map_some, List.set_cons_zero, List.set_cons_succ, Nat.lt_add_one, List.append_assoc, List.cons_append, List.nil_append, List.append_nil, List.length_append, List.take_zero, List.take_succ_cons, List.take_nil, List.drop_zero, List.drop_succ_cons, List.drop_nil, List.getElem?_cons_zero, List.getElem?_cons_succ, List.getElem?_map, Nat.reduceAdd, Nat.reduceLeDiff, Nat.add_eq_zero_iff, and_self, Nat.zero_add, Nat.add_zero, Nat.mul_one, Nat.one_mul, List.flatten_cons, List.flatten_nil, c0, s0, *]) | (simp only [zgoO, zgoG, zO_nil, zthen_normal, zgoC]) | (with_reducible apply And.intro) | (with_reducible intro _))
      · rw [toldL_one h1]
        have h1 := Lib.hid h1
        obtain ⟨v, hv⟩ : ∃ v, v = vals.getD m1.toNat (0, 0) := ⟨_, rfl⟩
        rw [← hv] at FF0 ⊢
        clear hv
        obtain ⟨v1, v2⟩ := v
        rename_i h1o
        clear h1o
        repeat' (first | (simp only [zmPack, zfree, owners, Nat.reduceLT, List.filter_cons, List.filter_nil, List.contains_cons, List.contains_nil, Nat.reduceBEq, Bool.or_false, Bool.or_true, Bool.false_or, Bool.true_or, BEq.rfl, chunk, setAt, List.lookup_cons, List.lookup_nil, ZV.val.injEq, ZV.ptr.injEq, ZV.own.injEq, ZV.fz.injEq, ZV.func.injEq, ZV.tuple.injEq, ZV.agg.injEq, ZB.box.injEq, ZB.grow.injEq, Bool.not_eq_false', Prod.mk.injEq, and_assoc, decide_false, decide_true, Bool.not_false, Bool.not_true, Bool.true_eq_false, Bool.false_eq_true, exists_false, Bool.not_eq_false, Bool.not_not, Value.bool.injEq, Value.int.injEq, Option.some.injEq, exists_eq_left', exists_eq_left, exists_and_left, exists_and_right, and_true, true_and, decide_eq_true_eq, decide_eq_false_iff_not, if_true, if_false, Bool.not_eq_true', beq_true, beq_false, ne_eq, not_true_eq_false, not_false_eq_true, reduceCtorEq, List.getD_cons_zero, List.getD_cons_succ, List.getD_nil, List.map_cons, List.map_nil, List.append_nil, Nat.reduceEqDiff, reduceIte, ite_true, ite_false, or_true, true_or, or_false, false_or, true_imp_iff, false_imp_iff, implies_true, imp_false, and_self, imp_self, and_false, false_and, forall_const, take_map_all, Nat.le_refl, Nat.reduceMul, Nat.reduceSub, List.length_cons, List.length_nil, List.length_map, List.length_set, List.all_cons, List.all_nil, Bool.and_self, Option.map_none, Option.map_some, List.set_cons_zero, List.set_cons_succ, Nat.lt_add_one, List.append_assoc, List.cons_append, List.nil_append, List.append_nil, List.length_append, List.take_zero, List.take_succ_cons, List.take_nil, List.drop_zero, List.drop_succ_cons, List.drop_nil, List.getElem?_cons_zero, List.getElem?_cons_succ, List.getElem?_map, Nat.reduceAdd, Nat.reduceLeDiff, Nat.add_eq_zero_iff, and_self, Nat.zero_add, Nat.add_zero, Nat.mul_one, Nat.one_mul, List.flatten_cons, List.flatten_nil, c0, s0, *]) | (simp only [zgoO, zgoG, zO_nil, zthen_normal, zgoC]) | (with_reducible apply And.intro) | (with_reducible intro _))
        refine told_z (l := mv) hmv (fun h2 => ?_) (fun h2 => ?_)
        · have fin := fun X => FF0.out 3 X (by rw [if_neg (by simp), if_pos (by rw [h2, Bool.and_false])]) (by omega)
          clear h2
          repeat' (first | (simp only [zmPack, zfree, owners, Nat.reduceLT, List.filter_cons, List.filter_nil, List.contains_cons, List.contains_nil, Nat.reduceBEq, Bool.or_false, Bool.or_true, Bool.false_or, Bool.true_or, BEq.rfl, chunk, setAt, List.lookup_cons, List.lookup_nil, ZV.val.injEq, ZV.ptr.injEq, ZV.own.injEq, ZV.fz.injEq, ZV.func.injEq, ZV.tuple.injEq, ZV.agg.injEq, ZB.box.injEq, ZB.grow.injEq, Bool.not_eq_false', Prod.mk.injEq, and_assoc, decide_false, decide_true, Bool.not_false, Bool.not_true, Bool.true_eq_false, Bool.false_eq_true, exists_false, Bool.not_eq_false, Bool.not_not, Value.bool.injEq, Value.int.injEq, Option.some.injEq, exists_eq_left', exists_eq_left, exists_and_left, exists_and_right, and_true, true_and, decide_eq_true_eq, decide_eq_false_iff_not, if_true, if_false, Bool.not_eq_true', beq_true, beq_false, ne_eq, not_true_eq_false, not_false_eq_true, reduceCtorEq, List.getD_cons_zero, List.getD_cons_succ, List.getD_nil, List.map_cons, List.map_nil, List.append_nil, Nat.reduceEqDiff, reduceIte, ite_true, ite_false, or_true, true_or, or_false, false_or, true_imp_iff, false_imp_iff, implies_true, imp_false, and_self, imp_self, and_false, false_and, forall_const, take_map_all, Nat.le_refl, Nat.reduceMul, Nat.reduceSub, List.length_cons, List.length_nil, List.length_map, List.length_set, List.all_cons, List.all_nil, Bool.and_self, Option.map_none, Option.map_some, List.set_cons_zero, List.set_cons_succ, Nat.lt_add_one, List.append_assoc, List.cons_append, List.nil_append, List.append_nil, List.length_append, List.take_zero, List.take_succ_cons, List.take_nil, List.drop_zero, List.drop_succ_cons, List.drop_nil, List.getElem?_cons_zero, List.getElem?_cons_succ, List.getElem?_map, Nat.reduceAdd, Nat.reduceLeDiff, Nat.add_eq_zero_iff, and_self, Nat.zero_add, Nat.add_zero, Nat.mul_one, Nat.one_mul, List.flatten_cons, List.flatten_nil, c0, s0, *]) | (simp only [zgoO, zgoG, zO_nil, zthen_normal, zgoC]) | (with_reducible apply And.intro) | (with_reducible intro _))
        · obtain ⟨has, hh⟩ : ∃ has, has = toldL mv vals := ⟨_, rfl⟩
          rw [← hh] at FF0 ⊢
          have hB : ¬ (toldB [m1] vals && toldB mv vals) = false := by rw [h1.out, h2]; simp
          have fin := fun X => FF0.out 8 X (by rw [if_neg (by simp), if_neg hB, if_neg (fun h => by simp at h)]) (by omega)
          clear h2 hh hB
          by_cases c1 : v1 = 5
          · by_cases c2 : v2 < 0
            · repeat' (first | (simp only [zmPack, zfree, owners, Nat.reduceLT, List.filter_cons, List.filter_nil, List.contains_cons, List.contains_nil, Nat.reduceBEq, Bool.or_false, Bool.or_true, Bool.false_or, Bool.true_or, BEq.rfl, chunk, setAt, List.lookup_cons, List.lookup_nil, ZV.val.injEq, ZV.ptr.injEq, ZV.own.injEq, ZV.fz.injEq, ZV.func.injEq, ZV.tuple.injEq, ZV.agg.injEq, ZB.box.injEq, ZB.grow.injEq, Bool.not_eq_false', Prod.mk.injEq, and_assoc, decide_false, decide_true, Bool.not_false, Bool.not_true, Bool.true_eq_false, Bool.false_eq_true, exists_false, Bool.not_eq_false, Bool.not_not, Value.bool.injEq, Value.int.injEq, Option.some.injEq, exists_eq_left', exists_eq_left, exists_and_left, exists_and_right, and_true, true_and, decide_eq_true_eq, decide_eq_false_iff_not, if_true, if_false, Bool.not_eq_true', beq_true, beq_false, ne_eq, not_true_eq_false, not_false_eq_true, reduceCtorEq, List.getD_cons_zero, List.getD_cons_succ, List.getD_nil, List.map_cons, List.map_nil, List.append_nil, Nat.reduceEqDiff, reduceIte, ite_true, ite_false, or_true, true_or, or_false, false_or, true_imp_iff, false_imp_iff, implies_true, imp_false, and_self, imp_self, and_false, false_and, forall_const, take_map_all, Nat.le_refl, Nat.reduceMul, Nat.reduceSub, List.length_cons, List.length_nil, List.length_map, List.length_set, List.all_cons, List.all_nil, Bool.and_self, Option.map_none, Option.map_some, List.set_cons_zero, List.set_cons_succ, Nat.lt_add_one, List.append_assoc, List.cons_append, List.nil_append, List.append_nil, List.length_append, List.take_zero, List.take_succ_cons, List.take_nil, List.drop_zero, List.drop_succ_cons, List.drop_nil, List.getElem?_cons_zero, List.getElem?_cons_succ, List.getElem?_map, Nat.reduceAdd, Nat.reduceLeDiff, Nat.add_eq_zero_iff, and_self, Nat.zero_add, Nat.add_zero, Nat.mul_one, Nat.one_mul, List.flatten_cons, List.flatten_nil, c0, s0, d0, sd, ly, c1, c2, n0, List.getElem?_cons_zero, *]) | (simp only [zgoO, zgoG, zO_nil, zthen_normal, zgoC]) | (with_reducible apply And.intro) | (with_reducible intro _))
            · have c3 : (0 : Int) ≤ v2 := by omega
              have c4 : ((0 : Nat) : Int) ≤ v2 := by omega
              repeat' (first | (simp only [zmPack, zfree, owners, Nat.reduceLT, List.filter_cons, List.filter_nil, List.contains_cons, List.contains_nil, Nat.reduceBEq, Bool.or_false, Bool.or_true, Bool.false_or, Bool.true_or, BEq.rfl, chunk, setAt, List.lookup_cons, List.lookup_nil, ZV.val.injEq, ZV.ptr.injEq, ZV.own.injEq, ZV.fz.injEq, ZV.func.injEq, ZV.tuple.injEq, ZV.agg.injEq, ZB.box.injEq, ZB.grow.injEq, Bool.not_eq_false', Prod.mk.injEq, and_assoc, decide_false, decide_true, Bool.not_false, Bool.not_true, Bool.true_eq_false, Bool.false_eq_true, exists_false, Bool.not_eq_false, Bool.not_not, Value.bool.injEq, Value.int.injEq, Option.some.injEq, exists_eq_left', exists_eq_left, exists_and_left, exists_and_right, and_true, true_and, decide_eq_true_eq, decide_eq_false_iff_not, if_true, if_false, Bool.not_eq_true', beq_true, beq_false, ne_eq, not_true_eq_false, not_false_eq_true, reduceCtorEq, List.getD_cons_zero, List.getD_cons_succ, List.getD_nil, List.map_cons, List.map_nil, List.append_nil, Nat.reduceEqDiff, reduceIte, ite_true, ite_false, or_true, true_or, or_false, false_or, true_imp_iff, false_imp_iff, implies_true, imp_false, and_self, imp_self, and_false, false_and, forall_const, take_map_all, Nat.le_refl, Nat.reduceMul, Nat.reduceSub, List.length_cons, List.length_nil, List.length_map, List.length_set, List.all_cons, List.all_nil, Bool.and_self, Option.map_none, Option.map_some, List.set_cons_zero, List.set_cons_succ, Nat.lt_add_one, List.append_assoc, List.cons_append, List.nil_append, List.append_nil, List.length_append, List.take_zero, List.take_succ_cons, List.take_nil, List.drop_zero, List.drop_succ_cons, List.drop_nil, List.getElem?_cons_zero, List.getElem?_cons_succ, List.getElem?_map, Nat.reduceAdd, Nat.reduceLeDiff, Nat.add_eq_zero_iff, and_self, Nat.zero_add, Nat.add_zero, Nat.mul_one, Nat.one_mul, List.flatten_cons, List.flatten_nil, c0, s0, d0, sd, ly, c1, c2, c3, c4, n0, List.getElem?_cons_zero, *]) | (simp only [zgoO, zgoG, zO_nil, zthen_normal, zgoC]) | (with_reducible apply And.intro) | (with_reducible intro _))
          · repeat' (first | (simp only [zmPack, zfree, owners, Nat.reduceLT, List.filter_cons, List.filter_nil, List.contains_cons, List.contains_nil, Nat.reduceBEq, Bool.or_false, Bool.or_true, Bool.false_or, Bool.true_or, BEq.rfl, chunk, setAt, List.lookup_cons, List.lookup_nil, ZV.val.injEq, ZV.ptr.injEq, ZV.own.injEq, ZV.fz.injEq, ZV.func.injEq, ZV.tuple.injEq, ZV.agg.injEq, ZB.box.injEq, ZB.grow.injEq, Bool.not_eq_false', Prod.mk.injEq, and_assoc, decide_false, decide_true, Bool.not_false, Bool.not_true, Bool.true_eq_false, Bool.false_eq_true, exists_false, Bool.not_eq_false, Bool.not_not, Value.bool.injEq, Value.int.injEq, Option.some.injEq, exists_eq_left', exists_eq_left, exists_and_left, exists_and_right, and_true, true_and, decide_eq_true_eq, decide_eq_false_iff_not, if_true, if_false, Bool.not_eq_true', beq_true, beq_false, ne_eq, not_true_eq_false, not_false_eq_true, reduceCtorEq, List.getD_cons_zero, List.getD_cons_succ, List.getD_nil, List.map_cons, List.map_nil, List.append_nil, Nat.reduceEqDiff, reduceIte, ite_true, ite_false, or_true, true_or, or_false, false_or, true_imp_iff, false_imp_iff, implies_true, imp_false, and_self, imp_self, and_false, false_and, forall_const, take_map_all, Nat.le_refl, Nat.reduceMul, Nat.reduceSub, List.length_cons, List.length_nil, List.length_map, List.length_set, List.all_cons, List.all_nil, Bool.and_self, Option.map_none, Option.map_some, List.set_cons_zero, List.set_cons_succ, Nat.lt_add_one, List.append_assoc, List.cons_append, List.nil_append, List.append_nil, List.length_append, List.take_zero, List.take_succ_cons, List.take_nil, List.drop_zero, List.drop_succ_cons, List.drop_nil, List.getElem?_cons_zero, List.getElem?_cons_succ, List.getElem?_map, Nat.reduceAdd, Nat.reduceLeDiff, Nat.add_eq_zero_iff, and_self, Nat.zero_add, Nat.add_zero, Nat.mul_one, Nat.one_mul, List.flatten_cons, List.flatten_nil, c0, s0, d0, sd, ly, c1, n0, List.getElem?_cons_zero, *]) | (simp only [zgoO, zgoG, zO_nil, zthen_normal, zgoC]) | (with_reducible apply And.intro) | (with_reducible intro _))
    · rintro s' h' ⟨hok, X, rfl⟩ ⟨f2, f8, f19, -⟩
      rw [List.take_of_length_le (Nat.le_refl _)] at hok
      have fin := F2.out (by rw [hok]) (by rw [hok])
      clear hok
      repeat' (first | (simp only [zmPack, zfree, owners, Nat.reduceLT, List.filter_cons, List.filter_nil, List.contains_cons, List.contains_nil, Nat.reduceBEq, Bool.or_false, Bool.or_true, Bool.false_or, Bool.true_or, BEq.rfl, chunk, setAt, List.lookup_cons, List.lookup_nil, ZV.val.injEq, ZV.ptr.injEq, ZV.own.injEq, ZV.fz.injEq, ZV.func.injEq, ZV.tuple.injEq, ZV.agg.injEq, ZB.box.injEq, ZB.grow.injEq, Bool.not_eq_false', Prod.mk.injEq, and_assoc, decide_false, decide_true, Bool.not_false, Bool.not_true, Bool.true_eq_false, Bool.false_eq_true, exists_false, Bool.not_eq_false, Bool.not_not, Value.bool.injEq, Value.int.injEq, Option.some.injEq, exists_eq_left', exists_eq_left, exists_and_left, exists_and_right, and_true, true_and, decide_eq_true_eq, decide_eq_false_iff_not, if_true, if_false, Bool.not_eq_true', beq_true, beq_false, ne_eq, not_true_eq_false, not_false_eq_true, reduceCtorEq, List.getD_cons_zero, List.getD_cons_succ, List.getD_nil, List.map_cons, List.map_nil, List.append_nil, Nat.reduceEqDiff, reduceIte, ite_true, ite_false, or_true, true_or, or_false, false_or, true_imp_iff, false_imp_iff, implies_true, imp_false, and_self, imp_self, and_false, false_and, forall_const, take_map_all, Nat.le_refl, Nat.reduceMul, Nat.reduceSub, List.length_cons, List.length_nil, List.length_map, List.length_set, List.all_cons, List.all_nil, Bool.and_self, Option.map_none, Option.map_some, List.set_cons_zero, List.set_cons_succ, Nat.lt_add_one, List.append_assoc, List.cons_append, List.nil_append, List.append_nil, List.length_append, List.take_zero, List.take_succ_cons, List.take_nil, List.drop_zero, List.drop_succ_cons, List.drop_nil, List.getElem?_cons_zero, List.getElem?_cons_succ, List.getElem?_map, Nat.reduceAdd, Nat.reduceLeDiff, Nat.add_eq_zero_iff, and_self, Nat.zero_add, Nat.add_zero, Nat.mul_one, Nat.one_mul, List.flatten_cons, List.flatten_nil, *]) | (simp only [zgoO, zgoG, zO_nil, zthen_normal, zgoC]) | (with_reducible apply And.intro) | (with_reducible intro _))
  · refine own_1 hle hl HS.out ?_
    clear hl HS
    repeat' (first | (simp only [zmPack, zfree, owners, Nat.reduceLT, List.filter_cons, List.filter_nil, List.contains_cons, List.contains_nil, Nat.reduceBEq, Bool.or_false, Bool.or_true, Bool.false_or, Bool.true_or, BEq.rfl, chunk, setAt, List.lookup_cons, List.lookup_nil, ZV.val.injEq, ZV.ptr.injEq, ZV.own.injEq, ZV.fz.injEq, ZV.func.injEq, ZV.tuple.injEq, ZV.agg.injEq, ZB.box.injEq, ZB.grow.injEq, Bool.not_eq_false', Prod.mk.injEq, and_assoc, decide_false, decide_true, Bool.not_false, Bool.not_true, Bool.true_eq_false, Bool.false_eq_true, exists_false, Bool.not_eq_false, Bool.not_not, Value.bool.injEq, Value.int.injEq, Option.some.injEq, exists_eq_left', exists_eq_left, exists_and_left, exists_and_right, and_true, true_and, decide_eq_true_eq, decide_eq_false_iff_not, if_true, if_false, Bool.not_eq_true', beq_true, beq_false, ne_eq, not_true_eq_false, not_false_eq_true, reduceCtorEq, List.getD_cons_zero, List.getD_cons_succ, List.getD_nil, List.map_cons, List.map_nil, List.append_nil, Nat.reduceEqDiff, reduceIte, ite_true, ite_false, or_true, true_or, or_false, false_or, true_imp_iff, false_imp_iff, implies_true, imp_false, and_self, imp_self, and_false, false_and, forall_const, take_map_all, Nat.le_refl, Nat.reduceMul, Nat.reduceSub, List.length_cons, List.length_nil, List.length_map, List.length_set, List.all_cons, List.all_nil, Bool.and_self, Option.map_none, Option.map_some, List.set_cons_zero, List.set_cons_succ, Nat.lt_add_one, List.append_assoc, List.cons_append, List.nil_append, List.append_nil, List.length_append, List.take_zero, List.take_succ_cons, List.take_nil, List.drop_zero, List.drop_succ_cons, List.drop_nil, List.getElem?_cons_zero, List.getElem?_cons_succ, List.getElem?_map, Nat.reduceAdd, Nat.reduceLeDiff, Nat.add_eq_zero_iff, and_self, Nat.zero_add, Nat.add_zero, Nat.mul_one, Nat.one_mul, List.flatten_cons, List.flatten_nil, *]) | (simp only [zgoO, zgoG, zO_nil, zthen_normal, zgoC]) | (with_reducible apply And.intro) | (with_reducible intro _))
    rw [← hA0]
    have HA := Lib.hid hA0
    clear hA0 hle
    refine zW_forK [(2, .fz 2 ev (vals.map eP)), (8, .own (H.length + 1) 0 0 l.length false), (19, .fz 4 em (ms.map eM))] ms.length (fun k s' h' => (mkAll vals l (ms.take k)).1 = 0 ∧ (mkAll vals l (ms.take k)).2.length = l.length ∧ ∃ X, h' = H ++ (A0 :: .grow 0 4 ((mkAll vals l (ms.take k)).2.map eC) :: X)) (by omega) ⟨rfl, rfl, rfl, rfl, rfl, rfl⟩ rfl rfl (by repeat' (first | exact trivial | (refine ⟨rfl, ?_⟩) | (refine ⟨by simp only [zupd_at, Nat.reduceEqDiff, reduceIte]; assumption, ?_⟩))) rfl rfl (by decide) ⟨rfl, rfl, [], rfl⟩ ?_ ?_
    · rintro k s' h' hk ⟨hok, hln, X, rfl⟩ hi hll ⟨f2, f8, f19, -⟩
      have hx : ms[k]? = some ms[k] := List.getElem?_eq_getElem hk
      have hmv := HMV.out ms[k] (List.getElem_mem hk)
      have hT := mkAll_take (vals := vals) (l := l) hk
      have f0 := F0.out (k + 1)
      obtain ⟨m, hm⟩ : ∃ m, m = ms[k] := ⟨_, rfl⟩
      rw [← hm] at hx hmv hT
      obtain ⟨o, ho⟩ : ∃ o, o = mkAll vals l (ms.take k) := ⟨_, rfl⟩
      rw [← ho] at hok hln hT ⊢
      obtain ⟨e, o⟩ := o
      simp only at hok hln ⊢
      subst hok
      obtain ⟨m1, m2, m3, mv⟩ := m
      rw [hT] at f0
      unfold mkStep at f0 hT
      simp only at hmv f0 hT ⊢
      have FF0 := Lib.hid f0
      have HT := Lib.hid hT
      clear hT hm ho f0
      have c0 : ∀ (A B C : ZB) (Y : ZH), (H ++ (A :: B :: (X ++ (C :: Y))))[H.length + (X.length + 1 + 1)]? = some C := fun A B C Y => by rw [show H ++ (A :: B :: (X ++ (C :: Y))) = (H ++ (A :: B :: X)) ++ (C :: Y) by simp]; exact atN0 (by simp) _ _
      have s0 : ∀ (A B C D : ZB) (Y : ZH), (H ++ (A :: B :: (X ++ (C :: Y)))).set (H.length + (X.length + 1 + 1)) D = H ++ (A :: B :: (X ++ (D :: Y))) := fun A B C D Y => by rw [show H ++ (A :: B :: (X ++ (C :: Y))) = (H ++ (A :: B :: X)) ++ (C :: Y) by simp, stN0 (n := H.length + (X.length + 1 + 1)) (by simp)]; simp
      have d0 : ∀ (A B C D : ZB) (Y : ZH), (H ++ (A :: B :: (X ++ (C :: D :: Y))))[H.length + (X.length + 1 + 1 + 1)]? = some D := fun A B C D Y => by rw [show H ++ (A :: B :: (X ++ (C :: D :: Y))) = (H ++ (A :: B :: X)) ++ (C :: D :: Y) by simp]; exact atN1 (n := H.length + (X.length + 1 + 1)) (by simp) _ _ _
      have sd : ∀ (A B C D E : ZB) (Y : ZH), (H ++ (A :: B :: (X ++ (C :: D :: Y)))).set (H.length + (X.length + 1 + 1 + 1)) E = H ++ (A :: B :: (X ++ (C :: E :: Y))) := fun A B C D E Y => by rw [show H ++ (A :: B :: (X ++ (C :: D :: Y))) = (H ++ (A :: B :: X)) ++ (C :: D :: Y) by simp]; exact (stN1 (n := H.length + (X.length + 1 + 1)) (by simp) C D E Y).trans (by simp)
      have g1 : ∀ A B Y, (H ++ (A :: B :: Y))[H.length + 1]? = some B := fun A B Y => atN1 rfl A B Y
      have sg : ∀ A B C Y, (H ++ (A :: B :: Y)).set (H.length + 1) C = H ++ (A :: C :: Y) := fun A B C Y => stN1 rfl A B C Y
      have lx : L (H.length + (X.length + 1 + 1)) = true := hL _
      have ly : L (H.length + (X.length + 1 + 1 + 1)) = true := hL _
      have l1 : L (H.length + 1) = true := hL 1
      have n0 : natZ (.val (.int .i64 0)) = some 0 := rfl
      repeat' (first | (simp only [zmPack, zfree, owners, Nat.reduceLT, List.filter_cons, List.filter_nil, List.contains_cons, List.contains_nil, Nat.reduceBEq, Bool.or_false, Bool.or_true, Bool.false_or, Bool.true_or, BEq.rfl, chunk, setAt, List.lookup_cons, List.lookup_nil, ZV.val.injEq, ZV.ptr.injEq, ZV.own.injEq, ZV.fz.injEq, ZV.func.injEq, ZV.tuple.injEq, ZV.agg.injEq, ZB.box.injEq, ZB.grow.injEq, Bool.not_eq_false', Prod.mk.injEq, and_assoc, decide_false, decide_true, Bool.not_false, Bool.not_true, Bool.true_eq_false, Bool.false_eq_true, exists_false, Bool.not_eq_false, Bool.not_not, Value.bool.injEq, Value.int.injEq, Option.some.injEq, exists_eq_left', exists_eq_left, exists_and_left, exists_and_right, and_true, true_and, decide_eq_true_eq, decide_eq_false_iff_not, if_true, if_false, Bool.not_eq_true', beq_true, beq_false, ne_eq, not_true_eq_false, not_false_eq_true, reduceCtorEq, List.getD_cons_zero, List.getD_cons_succ, List.getD_nil, List.map_cons, List.map_nil, List.append_nil, Nat.reduceEqDiff, reduceIte, ite_true, ite_false, or_true, true_or, or_false, false_or, true_imp_iff, false_imp_iff, implies_true, imp_false, and_self, imp_self, and_false, false_and, forall_const, take_map_all, Nat.le_refl, Nat.reduceMul, Nat.reduceSub, List.length_cons, List.length_nil, List.length_map, List.length_set, List.all_cons, List.all_nil, Bool.and_self, Option.map_none, Option.map_some, List.set_cons_zero, List.set_cons_succ, Nat.lt_add_one, List.append_assoc, List.cons_append, List.nil_append, List.append_nil, List.length_append, List.take_zero, List.take_succ_cons, List.take_nil, List.drop_zero, List.drop_succ_cons, List.drop_nil, List.getElem?_cons_zero, List.getElem?_cons_succ, List.getElem?_map, Nat.reduceAdd, Nat.reduceLeDiff, Nat.add_eq_zero_iff, and_self, Nat.zero_add, Nat.add_zero, Nat.mul_one, Nat.one_mul, List.flatten_cons, List.flatten_nil, hx, c0, s0, lx, *]) | (simp only [zgoO, zgoG, zO_nil, zthen_normal, zgoC]) | (with_reducible apply And.intro) | (with_reducible intro _))
      refine told_z (l := [m1]) (by simp) (fun h1 => ?_) (fun h1 => ?_)
      · have fin := fun X => FF0.out 3 X (by rw [if_neg (by simp), if_pos (by rw [h1]; rfl)]) (by omega)
        clear h1
        repeat' (first | (simp only [zmPack, zfree, owners, Nat.reduceLT, List.filter_cons, List.filter_nil, List.contains_cons, List.contains_nil, Nat.reduceBEq, Bool.or_false, Bool.or_true, Bool.false_or, Bool.true_or, BEq.rfl, chunk, setAt, List.lookup_cons, List.lookup_nil, ZV.val.injEq, ZV.ptr.injEq, ZV.own.injEq, ZV.fz.injEq, ZV.func.injEq, ZV.tuple.injEq, ZV.agg.injEq, ZB.box.injEq, ZB.grow.injEq, Bool.not_eq_false', Prod.mk.injEq, and_assoc, decide_false, decide_true, Bool.not_false, Bool.not_true, Bool.true_eq_false, Bool.false_eq_true, exists_false, Bool.not_eq_false, Bool.not_not, Value.bool.injEq, Value.int.injEq, Option.some.injEq, exists_eq_left', exists_eq_left, exists_and_left, exists_and_right, and_true, true_and, decide_eq_true_eq, decide_eq_false_iff_not, if_true, if_false, Bool.not_eq_true', beq_true, beq_false, ne_eq, not_true_eq_false, not_false_eq_true, reduceCtorEq, List.getD_cons_zero, List.getD_cons_succ, List.getD_nil, List.map_cons, List.map_nil, List.append_nil, Nat.reduceEqDiff, reduceIte, ite_true, ite_false, or_true, true_or, or_false, false_or, true_imp_iff, false_imp_iff, implies_true, imp_false, and_self, imp_self, and_false, false_and, forall_const, take_map_all, Nat.le_refl, Nat.reduceMul, Nat.reduceSub, List.length_cons, List.length_nil, List.length_map, List.length_set, List.all_cons, List.all_nil, Bool.and_self, Option.map_none, Option.map_some, List.set_cons_zero, List.set_cons_succ, Nat.lt_add_one, List.append_assoc, List.cons_append, List.nil_append, List.append_nil, List.length_append, List.take_zero, List.take_succ_cons, List.take_nil, List.drop_zero, List.drop_succ_cons, List.drop_nil, List.getElem?_cons_zero, List.getElem?_cons_succ, List.getElem?_map, Nat.reduceAdd, Nat.reduceLeDiff, Nat.add_eq_zero_iff, and_self, Nat.zero_add, Nat.add_zero, Nat.mul_one, Nat.one_mul, List.flatten_cons, List.flatten_nil, c0, s0, *]) | (simp only [zgoO, zgoG, zO_nil, zthen_normal, zgoC]) | (with_reducible apply And.intro) | (with_reducible intro _))
        refine told_z (l := mv) hmv (fun h2 => ?_) (fun h2 => ?_)
        · clear h2
          repeat' (first | (simp only [zmPack, zfree, owners, Nat.reduceLT, List.filter_cons, List.filter_nil, List.contains_cons, List.contains_nil, Nat.reduceBEq, Bool.or_false, Bool.or_true, Bool.false_or, Bool.true_or, BEq.rfl, chunk, setAt, List.lookup_cons, List.lookup_nil, ZV.val.injEq, ZV.ptr.injEq, ZV.own.injEq, ZV.fz.injEq, ZV.func.injEq, ZV.tuple.injEq, ZV.agg.injEq, ZB.box.injEq, ZB.grow.injEq, Bool.not_eq_false', Prod.mk.injEq, and_assoc, decide_false, decide_true, Bool.not_false, Bool.not_true, Bool.true_eq_false, Bool.false_eq_true, exists_false, Bool.not_eq_false, Bool.not_not, Value.bool.injEq, Value.int.injEq, Option.some.injEq, exists_eq_left', exists_eq_left, exists_and_left, exists_and_right, and_true, true_and, decide_eq_true_eq, decide_eq_false_iff_not, if_true, if_false, Bool.not_eq_true', beq_true, beq_false, ne_eq, not_true_eq_false, not_false_eq_true, reduceCtorEq, List.getD_cons_zero, List.getD_cons_succ, List.getD_nil, List.map_cons, List.map_nil, List.append_nil, Nat.reduceEqDiff, reduceIte, ite_true, ite_false, or_true, true_or, or_false, false_or, true_imp_iff, false_imp_iff, implies_true, imp_false, and_self, imp_self, and_false, false_and, forall_const, take_map_all, Nat.le_refl, Nat.reduceMul, Nat.reduceSub, List.length_cons, List.length_nil, List.length_map, List.length_set, List.all_cons, List.all_nil, Bool.and_self, Option.map_none, Option.map_some, List.set_cons_zero, List.set_cons_succ, Nat.lt_add_one, List.append_assoc, List.cons_append, List.nil_append, List.append_nil, List.length_append, List.take_zero, List.take_succ_cons, List.take_nil, List.drop_zero, List.drop_succ_cons, List.drop_nil, List.getElem?_cons_zero, List.getElem?_cons_succ, List.getElem?_map, Nat.reduceAdd, Nat.reduceLeDiff, Nat.add_eq_zero_iff, and_self, Nat.zero_add, Nat.add_zero, Nat.mul_one, Nat.one_mul, List.flatten_cons, List.flatten_nil, c0, s0, *]) | (simp only [zgoO, zgoG, zO_nil, zthen_normal, zgoC]) | (with_reducible apply And.intro) | (with_reducible intro _))
        · clear h2
          repeat' (first | (simp only [zmPack, zfree, owners, Nat.reduceLT, List.filter_cons, List.filter_nil, List.contains_cons, List.contains_nil, Nat.reduceBEq, Bool.or_false, Bool.or_true, Bool.false_or, Bool.true_or, BEq.rfl, chunk, setAt, List.lookup_cons, List.lookup_nil, ZV.val.injEq, ZV.ptr.injEq, ZV.own.injEq, ZV.fz.injEq, ZV.func.injEq, ZV.tuple.injEq, ZV.agg.injEq, ZB.box.injEq, ZB.grow.injEq, Bool.not_eq_false', Prod.mk.injEq, and_assoc, decide_false, decide_true, Bool.not_false, Bool.not_true, Bool.true_eq_false, Bool.false_eq_true, exists_false, Bool.not_eq_false, Bool.not_not, Value.bool.injEq, Value.int.injEq, Option.some.injEq, exists_eq_left', exists_eq_left, exists_and_left, exists_and_right, and_true, true_and, decide_eq_true_eq, decide_eq_false_iff_not, if_true, if_false, Bool.not_eq_true', beq_true, beq_false, ne_eq, not_true_eq_false, not_false_eq_true, reduceCtorEq, List.getD_cons_zero, List.getD_cons_succ, List.getD_nil, List.map_cons, List.map_nil, List.append_nil, Nat.reduceEqDiff, reduceIte, ite_true, ite_false, or_true, true_or, or_false, false_or, true_imp_iff, false_imp_iff, implies_true, imp_false, and_self, imp_self, and_false, false_and, forall_const, take_map_all, Nat.le_refl, Nat.reduceMul, Nat.reduceSub, List.length_cons, List.length_nil, List.length_map, List.length_set, List.all_cons, List.all_nil, Bool.and_self, Option.map_none, Option.map_some, List.set_cons_zero, List.set_cons_succ, Nat.lt_add_one, List.append_assoc, List.cons_append, List.nil_append, List.append_nil, List.length_append, List.take_zero, List.take_succ_cons, List.take_nil, List.drop_zero, List.drop_succ_cons, List.drop_nil, List.getElem?_cons_zero, List.getElem?_cons_succ, List.getElem?_map, Nat.reduceAdd, Nat.reduceLeDiff, Nat.add_eq_zero_iff, and_self, Nat.zero_add, Nat.add_zero, Nat.mul_one, Nat.one_mul, List.flatten_cons, List.flatten_nil, c0, s0, *]) | (simp only [zgoO, zgoG, zO_nil, zthen_normal, zgoC]) | (with_reducible apply And.intro) | (with_reducible intro _))
      · rw [toldL_one h1]
        have h1 := Lib.hid h1
        obtain ⟨v, hv⟩ : ∃ v, v = vals.getD m1.toNat (0, 0) := ⟨_, rfl⟩
        rw [← hv] at FF0 HT ⊢
        clear hv
        obtain ⟨v1, v2⟩ := v
        rename_i h1o
        clear h1o
        repeat' (first | (simp only [zmPack, zfree, owners, Nat.reduceLT, List.filter_cons, List.filter_nil, List.contains_cons, List.contains_nil, Nat.reduceBEq, Bool.or_false, Bool.or_true, Bool.false_or, Bool.true_or, BEq.rfl, chunk, setAt, List.lookup_cons, List.lookup_nil, ZV.val.injEq, ZV.ptr.injEq, ZV.own.injEq, ZV.fz.injEq, ZV.func.injEq, ZV.tuple.injEq, ZV.agg.injEq, ZB.box.injEq, ZB.grow.injEq, Bool.not_eq_false', Prod.mk.injEq, and_assoc, decide_false, decide_true, Bool.not_false, Bool.not_true, Bool.true_eq_false, Bool.false_eq_true, exists_false, Bool.not_eq_false, Bool.not_not, Value.bool.injEq, Value.int.injEq, Option.some.injEq, exists_eq_left', exists_eq_left, exists_and_left, exists_and_right, and_true, true_and, decide_eq_true_eq, decide_eq_false_iff_not, if_true, if_false, Bool.not_eq_true', beq_true, beq_false, ne_eq, not_true_eq_false, not_false_eq_true, reduceCtorEq, List.getD_cons_zero, List.getD_cons_succ, List.getD_nil, List.map_cons, List.map_nil, List.append_nil, Nat.reduceEqDiff, reduceIte, ite_true, ite_false, or_true, true_or, or_false, false_or, true_imp_iff, false_imp_iff, implies_true, imp_false, and_self, imp_self, and_false, false_and, forall_const, take_map_all, Nat.le_refl, Nat.reduceMul, Nat.reduceSub, List.length_cons, List.length_nil, List.length_map, List.length_set, List.all_cons, List.all_nil, Bool.and_self, Option.map_none, Option.map_some, List.set_cons_zero, List.set_cons_succ, Nat.lt_add_one, List.append_assoc, List.cons_append, List.nil_append, List.append_nil, List.length_append, List.take_zero, List.take_succ_cons, List.take_nil, List.drop_zero, List.drop_succ_cons, List.drop_nil, List.getElem?_cons_zero, List.getElem?_cons_succ, List.getElem?_map, Nat.reduceAdd, Nat.reduceLeDiff, Nat.add_eq_zero_iff, and_self, Nat.zero_add, Nat.add_zero, Nat.mul_one, Nat.one_mul, List.flatten_cons, List.flatten_nil, c0, s0, *]) | (simp only [zgoO, zgoG, zO_nil, zthen_normal, zgoC]) | (with_reducible apply And.intro) | (with_reducible intro _))
        refine told_z (l := mv) hmv (fun h2 => ?_) (fun h2 => ?_)
        · have fin := fun X => FF0.out 3 X (by rw [if_neg (by simp), if_pos (by rw [h2, Bool.and_false])]) (by omega)
          clear h2
          repeat' (first | (simp only [zmPack, zfree, owners, Nat.reduceLT, List.filter_cons, List.filter_nil, List.contains_cons, List.contains_nil, Nat.reduceBEq, Bool.or_false, Bool.or_true, Bool.false_or, Bool.true_or, BEq.rfl, chunk, setAt, List.lookup_cons, List.lookup_nil, ZV.val.injEq, ZV.ptr.injEq, ZV.own.injEq, ZV.fz.injEq, ZV.func.injEq, ZV.tuple.injEq, ZV.agg.injEq, ZB.box.injEq, ZB.grow.injEq, Bool.not_eq_false', Prod.mk.injEq, and_assoc, decide_false, decide_true, Bool.not_false, Bool.not_true, Bool.true_eq_false, Bool.false_eq_true, exists_false, Bool.not_eq_false, Bool.not_not, Value.bool.injEq, Value.int.injEq, Option.some.injEq, exists_eq_left', exists_eq_left, exists_and_left, exists_and_right, and_true, true_and, decide_eq_true_eq, decide_eq_false_iff_not, if_true, if_false, Bool.not_eq_true', beq_true, beq_false, ne_eq, not_true_eq_false, not_false_eq_true, reduceCtorEq, List.getD_cons_zero, List.getD_cons_succ, List.getD_nil, List.map_cons, List.map_nil, List.append_nil, Nat.reduceEqDiff, reduceIte, ite_true, ite_false, or_true, true_or, or_false, false_or, true_imp_iff, false_imp_iff, implies_true, imp_false, and_self, imp_self, and_false, false_and, forall_const, take_map_all, Nat.le_refl, Nat.reduceMul, Nat.reduceSub, List.length_cons, List.length_nil, List.length_map, List.length_set, List.all_cons, List.all_nil, Bool.and_self, Option.map_none, Option.map_some, List.set_cons_zero, List.set_cons_succ, Nat.lt_add_one, List.append_assoc, List.cons_append, List.nil_append, List.append_nil, List.length_append, List.take_zero, List.take_succ_cons, List.take_nil, List.drop_zero, List.drop_succ_cons, List.drop_nil, List.getElem?_cons_zero, List.getElem?_cons_succ, List.getElem?_map, Nat.reduceAdd, Nat.reduceLeDiff, Nat.add_eq_zero_iff, and_self, Nat.zero_add, Nat.add_zero, Nat.mul_one, Nat.one_mul, List.flatten_cons, List.flatten_nil, c0, s0, *]) | (simp only [zgoO, zgoG, zO_nil, zthen_normal, zgoC]) | (with_reducible apply And.intro) | (with_reducible intro _))
        · obtain ⟨has, hh⟩ : ∃ has, has = toldL mv vals := ⟨_, rfl⟩
          rw [← hh] at FF0 HT ⊢
          have hB : ¬ (toldB [m1] vals && toldB mv vals) = false := by rw [h1.out, h2]; simp
          have HB := Lib.hid hB
          clear h2 hh hB
          simp only at FF0 HT ⊢
          by_cases c1 : v1 = 5
          · by_cases c2 : v2 < 0
            · have fin := fun X => FF0.out 8 X (by rw [if_neg (by simp), if_neg HB.out, if_neg (fun h => by omega)]) (by omega)
              repeat' (first | (simp only [zmPack, zfree, owners, Nat.reduceLT, List.filter_cons, List.filter_nil, List.contains_cons, List.contains_nil, Nat.reduceBEq, Bool.or_false, Bool.or_true, Bool.false_or, Bool.true_or, BEq.rfl, chunk, setAt, List.lookup_cons, List.lookup_nil, ZV.val.injEq, ZV.ptr.injEq, ZV.own.injEq, ZV.fz.injEq, ZV.func.injEq, ZV.tuple.injEq, ZV.agg.injEq, ZB.box.injEq, ZB.grow.injEq, Bool.not_eq_false', Prod.mk.injEq, and_assoc, decide_false, decide_true, Bool.not_false, Bool.not_true, Bool.true_eq_false, Bool.false_eq_true, exists_false, Bool.not_eq_false, Bool.not_not, Value.bool.injEq, Value.int.injEq, Option.some.injEq, exists_eq_left', exists_eq_left, exists_and_left, exists_and_right, and_true, true_and, decide_eq_true_eq, decide_eq_false_iff_not, if_true, if_false, Bool.not_eq_true', beq_true, beq_false, ne_eq, not_true_eq_false, not_false_eq_true, reduceCtorEq, List.getD_cons_zero, List.getD_cons_succ, List.getD_nil, List.map_cons, List.map_nil, List.append_nil, Nat.reduceEqDiff, reduceIte, ite_true, ite_false, or_true, true_or, or_false, false_or, true_imp_iff, false_imp_iff, implies_true, imp_false, and_self, imp_self, and_false, false_and, forall_const, take_map_all, Nat.le_refl, Nat.reduceMul, Nat.reduceSub, List.length_cons, List.length_nil, List.length_map, List.length_set, List.all_cons, List.all_nil, Bool.and_self, Option.map_none, Option.map_some, List.set_cons_zero, List.set_cons_succ, Nat.lt_add_one, List.append_assoc, List.cons_append, List.nil_append, List.append_nil, List.length_append, List.take_zero, List.take_succ_cons, List.take_nil, List.drop_zero, List.drop_succ_cons, List.drop_nil, List.getElem?_cons_zero, List.getElem?_cons_succ, List.getElem?_map, Nat.reduceAdd, Nat.reduceLeDiff, Nat.add_eq_zero_iff, and_self, Nat.zero_add, Nat.add_zero, Nat.mul_one, Nat.one_mul, List.flatten_cons, List.flatten_nil, c0, s0, d0, sd, ly, c1, c2, n0, List.getElem?_cons_zero, *]) | (simp only [zgoO, zgoG, zO_nil, zthen_normal, zgoC]) | (with_reducible apply And.intro) | (with_reducible intro _))
            · by_cases c3 : (l.length : Int) ≤ v2
              · have fin := fun X => FF0.out 8 X (by rw [if_neg (by simp), if_neg HB.out, if_neg (fun h => by omega)]) (by omega)
                repeat' (first | (simp only [zmPack, zfree, owners, Nat.reduceLT, List.filter_cons, List.filter_nil, List.contains_cons, List.contains_nil, Nat.reduceBEq, Bool.or_false, Bool.or_true, Bool.false_or, Bool.true_or, BEq.rfl, chunk, setAt, List.lookup_cons, List.lookup_nil, ZV.val.injEq, ZV.ptr.injEq, ZV.own.injEq, ZV.fz.injEq, ZV.func.injEq, ZV.tuple.injEq, ZV.agg.injEq, ZB.box.injEq, ZB.grow.injEq, Bool.not_eq_false', Prod.mk.injEq, and_assoc, decide_false, decide_true, Bool.not_false, Bool.not_true, Bool.true_eq_false, Bool.false_eq_true, exists_false, Bool.not_eq_false, Bool.not_not, Value.bool.injEq, Value.int.injEq, Option.some.injEq, exists_eq_left', exists_eq_left, exists_and_left, exists_and_right, and_true, true_and, decide_eq_true_eq, decide_eq_false_iff_not, if_true, if_false, Bool.not_eq_true', beq_true, beq_false, ne_eq, not_true_eq_false, not_false_eq_true, reduceCtorEq, List.getD_cons_zero, List.getD_cons_succ, List.getD_nil, List.map_cons, List.map_nil, List.append_nil, Nat.reduceEqDiff, reduceIte, ite_true, ite_false, or_true, true_or, or_false, false_or, true_imp_iff, false_imp_iff, implies_true, imp_false, and_self, imp_self, and_false, false_and, forall_const, take_map_all, Nat.le_refl, Nat.reduceMul, Nat.reduceSub, List.length_cons, List.length_nil, List.length_map, List.length_set, List.all_cons, List.all_nil, Bool.and_self, Option.map_none, Option.map_some, List.set_cons_zero, List.set_cons_succ, Nat.lt_add_one, List.append_assoc, List.cons_append, List.nil_append, List.append_nil, List.length_append, List.take_zero, List.take_succ_cons, List.take_nil, List.drop_zero, List.drop_succ_cons, List.drop_nil, List.getElem?_cons_zero, List.getElem?_cons_succ, List.getElem?_map, Nat.reduceAdd, Nat.reduceLeDiff, Nat.add_eq_zero_iff, and_self, Nat.zero_add, Nat.add_zero, Nat.mul_one, Nat.one_mul, List.flatten_cons, List.flatten_nil, c0, s0, d0, sd, ly, c1, c2, c3, n0, List.getElem?_cons_zero, *]) | (simp only [zgoO, zgoG, zO_nil, zthen_normal, zgoC]) | (with_reducible apply And.intro) | (with_reducible intro _))
              · obtain ⟨j, rfl⟩ : ∃ j : Nat, v2 = j := ⟨v2.toNat, by omega⟩
                have hj : j < o.length := by omega
                have hjl : j < l.length := by omega
                have hy : o[j]? = some o[j] := List.getElem?_eq_getElem hj
                have hg : o.getD j (1, 0, [], []) = o[j] := by simp [List.getD, hy]
                have hset : ∀ c, (o.map eC).set j (eC c) = (o.set j c).map eC := fun c => by rw [List.map_set]
                obtain ⟨q, hq⟩ : ∃ q, q = o[j] := ⟨_, rfl⟩
                rw [← hq] at hy hg
                obtain ⟨q1, q2, q3, q4⟩ := q
                have HG := Lib.hid hg
                clear hq hg
                by_cases c4 : q1 = 0
                · have hset2 : (o.map eC).set j [Z64 m2, Z64 m3, .fz 2 false (has.map eP), .fz 8 false []] = (o.set j (m2, m3, has, [])).map eC := by rw [← hset]; rfl
                  have hlo : l.length ≤ o.length := by omega
                  have HN : Hid (mkAll vals l (ms.take (k + 1)) = (0, o.set j (m2, m3, has, []))) := by
                    show _ = _
                    rw [HT.out, if_neg (by simp), if_neg HB.out, if_pos ⟨c1, by omega, by omega, by rw [show ((j : Int)).toNat = j by omega, HG.out]; exact c4⟩, show ((j : Int)).toNat = j by omega]
                  have HLN := Lib.hid hln
                  clear hset hln FF0 HT
                  subst c1 c4
                  repeat' (first | (simp only [zmPack, zfree, owners, Nat.reduceLT, List.filter_cons, List.filter_nil, List.contains_cons, List.contains_nil, Nat.reduceBEq, Bool.or_false, Bool.or_true, Bool.false_or, Bool.true_or, BEq.rfl, chunk, setAt, List.lookup_cons, List.lookup_nil, ZV.val.injEq, ZV.ptr.injEq, ZV.own.injEq, ZV.fz.injEq, ZV.func.injEq, ZV.tuple.injEq, ZV.agg.injEq, ZB.box.injEq, ZB.grow.injEq, Bool.not_eq_false', Prod.mk.injEq, and_assoc, decide_false, decide_true, Bool.not_false, Bool.not_true, Bool.true_eq_false, Bool.false_eq_true, exists_false, Bool.not_eq_false, Bool.not_not, Value.bool.injEq, Value.int.injEq, Option.some.injEq, exists_eq_left', exists_eq_left, exists_and_left, exists_and_right, and_true, true_and, decide_eq_true_eq, decide_eq_false_iff_not, if_true, if_false, Bool.not_eq_true', beq_true, beq_false, ne_eq, not_true_eq_false, not_false_eq_true, reduceCtorEq, List.getD_cons_zero, List.getD_cons_succ, List.getD_nil, List.map_cons, List.map_nil, List.append_nil, Nat.reduceEqDiff, reduceIte, ite_true, ite_false, or_true, true_or, or_false, false_or, true_imp_iff, false_imp_iff, implies_true, imp_false, and_self, imp_self, and_false, false_and, forall_const, take_map_all, Nat.le_refl, Nat.reduceMul, Nat.reduceSub, List.length_cons, List.length_nil, List.length_map, List.length_set, List.all_cons, List.all_nil, Bool.and_self, Option.map_none, Option.map_some, List.set_cons_zero, List.set_cons_succ, Nat.lt_add_one, List.append_assoc, List.cons_append, List.nil_append, List.append_nil, List.length_append, List.take_zero, List.take_succ_cons, List.take_nil, List.drop_zero, List.drop_succ_cons, List.drop_nil, List.getElem?_cons_zero, List.getElem?_cons_succ, List.getElem?_map, Nat.reduceAdd, Nat.reduceLeDiff, Nat.add_eq_zero_iff, and_self, Nat.zero_add, Nat.add_zero, Nat.mul_one, Nat.one_mul, List.flatten_cons, List.flatten_nil, c0, s0, d0, sd, ly, c2, c3, hy, g1, sg, l1, hset2, hlo, n0, List.getElem?_cons_zero, ownC_fz, hj, *]) | (simp only [zgoO, zgoG, zO_nil, zthen_normal, zgoC]) | (with_reducible apply And.intro) | (with_reducible intro _))
                  · rw [HN.out]
                  · rw [HN.out]; simp [HLN.out]
                  · exact ⟨_, by rw [HN.out]⟩
                · have fin := fun X => FF0.out 8 X (by rw [if_neg (by simp), if_neg HB.out, if_neg (fun h => by rw [show ((j : Int)).toNat = j by omega, HG.out] at h; exact c4 h.2.2.2)]) (by omega)
                  have hlo : l.length ≤ o.length := by omega
                  clear hset hln FF0 HT
                  subst c1
                  repeat' (first | (simp only [zmPack, zfree, owners, Nat.reduceLT, List.filter_cons, List.filter_nil, List.contains_cons, List.contains_nil, Nat.reduceBEq, Bool.or_false, Bool.or_true, Bool.false_or, Bool.true_or, BEq.rfl, chunk, setAt, List.lookup_cons, List.lookup_nil, ZV.val.injEq, ZV.ptr.injEq, ZV.own.injEq, ZV.fz.injEq, ZV.func.injEq, ZV.tuple.injEq, ZV.agg.injEq, ZB.box.injEq, ZB.grow.injEq, Bool.not_eq_false', Prod.mk.injEq, and_assoc, decide_false, decide_true, Bool.not_false, Bool.not_true, Bool.true_eq_false, Bool.false_eq_true, exists_false, Bool.not_eq_false, Bool.not_not, Value.bool.injEq, Value.int.injEq, Option.some.injEq, exists_eq_left', exists_eq_left, exists_and_left, exists_and_right, and_true, true_and, decide_eq_true_eq, decide_eq_false_iff_not, if_true, if_false, Bool.not_eq_true', beq_true, beq_false, ne_eq, not_true_eq_false, not_false_eq_true, reduceCtorEq, List.getD_cons_zero, List.getD_cons_succ, List.getD_nil, List.map_cons, List.map_nil, List.append_nil, Nat.reduceEqDiff, reduceIte, ite_true, ite_false, or_true, true_or, or_false, false_or, true_imp_iff, false_imp_iff, implies_true, imp_false, and_self, imp_self, and_false, false_and, forall_const, take_map_all, Nat.le_refl, Nat.reduceMul, Nat.reduceSub, List.length_cons, List.length_nil, List.length_map, List.length_set, List.all_cons, List.all_nil, Bool.and_self, Option.map_none, Option.map_some, List.set_cons_zero, List.set_cons_succ, Nat.lt_add_one, List.append_assoc, List.cons_append, List.nil_append, List.append_nil, List.length_append, List.take_zero, List.take_succ_cons, List.take_nil, List.drop_zero, List.drop_succ_cons, List.drop_nil, List.getElem?_cons_zero, List.getElem?_cons_succ, List.getElem?_map, Nat.reduceAdd, Nat.reduceLeDiff, Nat.add_eq_zero_iff, and_self, Nat.zero_add, Nat.add_zero, Nat.mul_one, Nat.one_mul, List.flatten_cons, List.flatten_nil, c0, s0, d0, sd, ly, c2, c3, hy, g1, c4, hlo, hj, n0, List.getElem?_cons_zero, *]) | (simp only [zgoO, zgoG, zO_nil, zthen_normal, zgoC]) | (with_reducible apply And.intro) | (with_reducible intro _))
          · have fin := fun X => FF0.out 8 X (by rw [if_neg (by simp), if_neg HB.out, if_neg (fun h => by omega)]) (by omega)
            repeat' (first | (simp only [zmPack, zfree, owners, Nat.reduceLT, List.filter_cons, List.filter_nil, List.contains_cons, List.contains_nil, Nat.reduceBEq, Bool.or_false, Bool.or_true, Bool.false_or, Bool.true_or, BEq.rfl, chunk, setAt, List.lookup_cons, List.lookup_nil, ZV.val.injEq, ZV.ptr.injEq, ZV.own.injEq, ZV.fz.injEq, ZV.func.injEq, ZV.tuple.injEq, ZV.agg.injEq, ZB.box.injEq, ZB.grow.injEq, Bool.not_eq_false', Prod.mk.injEq, and_assoc, decide_false, decide_true, Bool.not_false, Bool.not_true, Bool.true_eq_false, Bool.false_eq_true, exists_false, Bool.not_eq_false, Bool.not_not, Value.bool.injEq, Value.int.injEq, Option.some.injEq, exists_eq_left', exists_eq_left, exists_and_left, exists_and_right, and_true, true_and, decide_eq_true_eq, decide_eq_false_iff_not, if_true, if_false, Bool.not_eq_true', beq_true, beq_false, ne_eq, not_true_eq_false, not_false_eq_true, reduceCtorEq, List.getD_cons_zero, List.getD_cons_succ, List.getD_nil, List.map_cons, List.map_nil, List.append_nil, Nat.reduceEqDiff, reduceIte, ite_true, ite_false, or_true, true_or, or_false, false_or, true_imp_iff, false_imp_iff, implies_true, imp_false, and_self, imp_self, and_false, false_and, forall_const, take_map_all, Nat.le_refl, Nat.reduceMul, Nat.reduceSub, List.length_cons, List.length_nil, List.length_map, List.length_set, List.all_cons, List.all_nil, Bool.and_self, Option.map_none, Option.map_some, List.set_cons_zero, List.set_cons_succ, Nat.lt_add_one, List.append_assoc, List.cons_append, List.nil_append, List.append_nil, List.length_append, List.take_zero, List.take_succ_cons, List.take_nil, List.drop_zero, List.drop_succ_cons, List.drop_nil, List.getElem?_cons_zero, List.getElem?_cons_succ, List.getElem?_map, Nat.reduceAdd, Nat.reduceLeDiff, Nat.add_eq_zero_iff, and_self, Nat.zero_add, Nat.add_zero, Nat.mul_one, Nat.one_mul, List.flatten_cons, List.flatten_nil, c0, s0, d0, sd, ly, c1, n0, List.getElem?_cons_zero, *]) | (simp only [zgoO, zgoG, zO_nil, zthen_normal, zgoC]) | (with_reducible apply And.intro) | (with_reducible intro _))
    · rintro s' h' ⟨hok, hln, X, rfl⟩ ⟨f2, f8, f19, -⟩
      rw [List.take_of_length_le (Nat.le_refl _)] at hok hln ⊢
      have fin := F1.out hok
      rw [hln] at fin
      clear hok hln
      repeat' (first | (simp only [zmPack, zfree, owners, Nat.reduceLT, List.filter_cons, List.filter_nil, List.contains_cons, List.contains_nil, Nat.reduceBEq, Bool.or_false, Bool.or_true, Bool.false_or, Bool.true_or, BEq.rfl, chunk, setAt, List.lookup_cons, List.lookup_nil, ZV.val.injEq, ZV.ptr.injEq, ZV.own.injEq, ZV.fz.injEq, ZV.func.injEq, ZV.tuple.injEq, ZV.agg.injEq, ZB.box.injEq, ZB.grow.injEq, Bool.not_eq_false', Prod.mk.injEq, and_assoc, decide_false, decide_true, Bool.not_false, Bool.not_true, Bool.true_eq_false, Bool.false_eq_true, exists_false, Bool.not_eq_false, Bool.not_not, Value.bool.injEq, Value.int.injEq, Option.some.injEq, exists_eq_left', exists_eq_left, exists_and_left, exists_and_right, and_true, true_and, decide_eq_true_eq, decide_eq_false_iff_not, if_true, if_false, Bool.not_eq_true', beq_true, beq_false, ne_eq, not_true_eq_false, not_false_eq_true, reduceCtorEq, List.getD_cons_zero, List.getD_cons_succ, List.getD_nil, List.map_cons, List.map_nil, List.append_nil, Nat.reduceEqDiff, reduceIte, ite_true, ite_false, or_true, true_or, or_false, false_or, true_imp_iff, false_imp_iff, implies_true, imp_false, and_self, imp_self, and_false, false_and, forall_const, take_map_all, Nat.le_refl, Nat.reduceMul, Nat.reduceSub, List.length_cons, List.length_nil, List.length_map, List.length_set, List.all_cons, List.all_nil, Bool.and_self, Option.map_none, Option.map_some, List.set_cons_zero, List.set_cons_succ, Nat.lt_add_one, List.append_assoc, List.cons_append, List.nil_append, List.append_nil, List.length_append, List.take_zero, List.take_succ_cons, List.take_nil, List.drop_zero, List.drop_succ_cons, List.drop_nil, List.getElem?_cons_zero, List.getElem?_cons_succ, List.getElem?_map, Nat.reduceAdd, Nat.reduceLeDiff, Nat.add_eq_zero_iff, and_self, Nat.zero_add, Nat.add_zero, Nat.mul_one, Nat.one_mul, List.flatten_cons, List.flatten_nil, *]) | (simp only [zgoO, zgoG, zO_nil, zthen_normal, zgoC]) | (with_reducible apply And.intro) | (with_reducible intro _))
end Go.Proofs.Ytmecaddjeljliaa

namespace Go.Proofs.Ytmecaddjeljliaa
open Go Go.RowKit
set_option linter.unusedVariables false
set_option linter.unusedSimpArgs false
/-- The value that a make's cell is. -/
def mv (vals : List (Int × Int)) (m : Mk) : Int × Int := vals.getD m.1.toNat (0, 0)
def told2 (vals : List (Int × Int)) (m : Mk) : Prop := toldB [m.1] vals = true ∧ toldB m.2.2.2 vals = true
theorem step_ok {vals : List (Int × Int)} {r : Int × List Cl} {m : Mk} (h : (mkStep vals r m).1 = 0) : r.1 = 0 ∧ told2 vals m ∧ (mv vals m).1 = 5 ∧ 0 ≤ (mv vals m).2 ∧ (mv vals m).2 < r.2.length ∧ (r.2.getD (mv vals m).2.toNat (1, 0, [], [])).1 = 0 ∧
    mkStep vals r m = (0, r.2.set (mv vals m).2.toNat (m.2.1, m.2.2.1, toldL m.2.2.2 vals, [])) := by
  unfold mkStep at h ⊢
  split at h
  · contradiction
  · rename_i h0
    split at h
    · simp at h
    · rename_i h1
      split at h
      · rename_i h2
        refine ⟨Decidable.not_not.1 h0, ?_, h2.1, h2.2.1, h2.2.2.1, h2.2.2.2, ?_⟩
        · simp only [Bool.not_eq_false, Bool.and_eq_true] at h1
          exact h1
        · rw [if_neg h0, if_neg h1, if_pos h2]; rfl
      · simp at h
theorem step_8 {vals : List (Int × Int)} {r : Int × List Cl} {m : Mk} (h0 : r.1 = 0) (ht : told2 vals m) : (mkStep vals r m).1 = 0 ∨ (mkStep vals r m).1 = 8 := by
  unfold mkStep
  rw [if_neg (by rw [h0]; simp), if_neg (by rw [ht.1, ht.2]; simp)]
  split
  · exact .inl rfl
  · exact .inr rfl
def mkF (vals : List (Int × Int)) (r : Int × List Cl) (ms : List Mk) : Int × List Cl := ms.foldl (mkStep vals) r
theorem mkF_ok {vals : List (Int × Int)} {ms : List Mk} : ∀ {r : Int × List Cl}, (mkF vals r ms).1 = 0 → r.1 = 0 ∧ (mkF vals r ms).2.length = r.2.length ∧ (∀ m ∈ ms, told2 vals m ∧ (mv vals m).1 = 5 ∧ 0 ≤ (mv vals m).2 ∧ (mv vals m).2 < r.2.length) := by
  induction ms with
  | nil => intro r h; exact ⟨h, rfl, fun m hm => by cases hm⟩
  | cons m ms ih =>
    intro r h
    have h' : (mkF vals (mkStep vals r m) ms).1 = 0 := h
    obtain ⟨h1, h2, h3⟩ := ih h'
    obtain ⟨q0, q1, q2, q3, q4, q5, q6⟩ := step_ok h1
    have hl : (mkStep vals r m).2.length = r.2.length := by rw [q6]; simp
    refine ⟨q0, h2.trans hl, fun x hx => ?_⟩
    rcases List.mem_cons.1 hx with rfl | hx
    · exact ⟨q1, q2, q3, q4⟩
    · have := h3 x hx; rw [hl] at this; exact this
/-- A cell that is made already is left alone. -/
theorem mkF_keep {vals : List (Int × Int)} {ms : List Mk} : ∀ {r : Int × List Cl} {j : Nat} {c : Cl}, (mkF vals r ms).1 = 0 → r.2[j]? = some c → c.1 ≠ 0 → (mkF vals r ms).2[j]? = some c := by
  induction ms with
  | nil => intro r j c h hc _; exact hc
  | cons m ms ih =>
    intro r j c h hc hk
    have h' : (mkF vals (mkStep vals r m) ms).1 = 0 := h
    obtain ⟨q0, q1, q2, q3, q4, q5, q6⟩ := step_ok (mkF_ok h').1
    refine ih h' ?_ hk
    rw [q6]
    simp only
    rw [List.getElem?_set]
    split
    · rename_i e
      rw [e] at q5
      rw [List.getD, hc] at q5
      exact absurd q5 hk
    · exact hc
/-- What no make speaks of stays. -/
theorem mkF_else {vals : List (Int × Int)} {ms : List Mk} : ∀ {r : Int × List Cl} {j : Nat}, (mkF vals r ms).1 = 0 → (∀ m ∈ ms, (mv vals m).2.toNat ≠ j) → (mkF vals r ms).2[j]? = r.2[j]? := by
  induction ms with
  | nil => intro r j h _; rfl
  | cons m ms ih =>
    intro r j h hn
    have h' : (mkF vals (mkStep vals r m) ms).1 = 0 := h
    obtain ⟨q0, q1, q2, q3, q4, q5, q6⟩ := step_ok (mkF_ok h').1
    have := ih h' (fun x hx => hn x (List.mem_cons_of_mem _ hx))
    show (mkF vals (mkStep vals r m) ms).2[j]? = _
    rw [this, q6]
    simp only
    rw [List.getElem?_set, if_neg (hn m (List.mem_cons_self ..))]
theorem mkF_8 {vals : List (Int × Int)} {ms : List Mk} : ∀ {r : Int × List Cl}, r.1 = 0 → (∀ m ∈ ms, told2 vals m) → (mkF vals r ms).1 = 0 ∨ (mkF vals r ms).1 = 8 := by
  induction ms with
  | nil => intro r h _; exact .inl h
  | cons m ms ih =>
    intro r h ht
    show (mkF vals (mkStep vals r m) ms).1 = 0 ∨ (mkF vals (mkStep vals r m) ms).1 = 8
    rcases step_8 h (ht m (List.mem_cons_self ..)) with e | e
    · exact ih e fun x hx => ht x (List.mem_cons_of_mem _ hx)
    · right
      show (ms.foldl (mkStep vals) (mkStep vals r m)).1 = 8
      rw [mkAll_stuck (by rw [e]; simp)]; exact e
theorem mkF_S {vals : List (Int × Int)} {ms : List Mk} (hv : ∀ m ∈ ms, m.2.2.2.length ≤ 1048576) : ∀ {r : Int × List Cl}, (mkF vals r ms).1 = 0 → (∀ c ∈ r.2, clS c) → ∀ c ∈ (mkF vals r ms).2, clS c := by
  induction ms with
  | nil => intro r _ h; exact h
  | cons m ms ih =>
    intro r h hr
    have h' : (mkF vals (mkStep vals r m) ms).1 = 0 := h
    obtain ⟨q0, q1, q2, q3, q4, q5, q6⟩ := step_ok (mkF_ok h').1
    refine ih (fun x hx => hv x (List.mem_cons_of_mem _ hx)) h' (fun c hc => ?_)
    rw [q6] at hc
    rcases List.mem_or_eq_of_mem_set hc with hc | hc
    · exact hr c hc
    · subst hc
      have h1 := hv m (List.mem_cons_self ..)
      have h2 : (toldL m.2.2.2 vals).length ≤ m.2.2.2.length := List.length_filterMap_le _ _
      refine ⟨?_, ?_, fun f hf => by cases hf⟩
      · show (toldL m.2.2.2 vals).length * 16 ≤ reach
        unfold reach; omega
      · show 0 * 96 ≤ reach
        omega
/-- MADE ONCE. -/
theorem mk_twice {vals : List (Int × Int)} {l : List Cl} {ms : List Mk} (h : (mkAll vals l ms).1 = 0) (hm : ∃ m ∈ ms, m.2.1 ≠ 0) : (mkAll vals (mkAll vals l ms).2 ms).1 = 8 := by
  obtain ⟨m, hmm, hk⟩ := hm
  obtain ⟨pre, post, rfl⟩ := List.append_of_mem hmm
  obtain ⟨o, ho⟩ : ∃ o, o = (mkAll vals l (pre ++ m :: post)).2 := ⟨_, rfl⟩
  have hall := (mkF_ok (r := (0, l)) h).2.2
  have e1 : mkAll vals l (pre ++ m :: post) = mkF vals (mkStep vals (mkF vals (0, l) pre) m) post := by unfold mkAll mkF; rw [List.foldl_append]; rfl
  have e2 : mkAll vals o (pre ++ m :: post) = mkF vals (mkStep vals (mkF vals (0, o) pre) m) post := by unfold mkAll mkF; rw [List.foldl_append]; rfl
  rw [← ho, e2]
  have h1 : (mkF vals (mkStep vals (mkF vals (0, l) pre) m) post).1 = 0 := by rw [← e1]; exact h
  obtain ⟨q0, q1, q2, q3, q4, q5, q6⟩ := step_ok (mkF_ok h1).1
  have hj : o[(mv vals m).2.toNat]? = some (m.2.1, m.2.2.1, toldL m.2.2.2 vals, []) := by
    rw [ho, e1]
    refine mkF_keep h1 ?_ hk
    rw [q6]
    simp only
    rw [List.getElem?_set, if_pos rfl, if_pos (by omega)]
  rcases mkF_8 (vals := vals) (ms := pre) (r := (0, o)) rfl (fun x hx => (hall x (List.mem_append_left _ hx)).1) with z | z
  · have hj2 := mkF_keep z hj hk
    have hs : (mkStep vals (mkF vals (0, o) pre) m).1 = 8 := by
      rcases step_8 z q1 with e | e
      · have := (step_ok e).2.2.2.2.2.1
        rw [List.getD, hj2] at this
        exact absurd this hk
      · exact e
    show (post.foldl (mkStep vals) _).1 = 8
    rw [mkAll_stuck (by rw [hs]; simp)]; exact hs
  · have hs : mkStep vals (mkF vals (0, o) pre) m = mkF vals (0, o) pre := by unfold mkStep; rw [if_pos (by rw [z]; simp)]
    show (post.foldl (mkStep vals) _).1 = 8
    rw [hs, mkAll_stuck (by rw [z]; simp)]; exact z
end Go.Proofs.Ytmecaddjeljliaa
