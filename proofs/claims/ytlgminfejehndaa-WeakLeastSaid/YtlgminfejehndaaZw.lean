/-
  weak's contracts in ZM, out of AM's.
-/
import Derived.Test.YtlgminfejehndaaZmP
import Derived.Test.YtlgminfejehndaaZr
import Derived.Test.YtlgminfejehndaaWaKept
namespace Go.Proofs.Ytlgminfejehndaa
open Go Go.RowKit
set_option linter.unusedVariables false
set_option linter.unusedSimpArgs false
variable {tb : List (FuncId × Bool)} {L : Nat → Bool} {H : ZH} {K : ZV → ZH → Prop}

abbrev eP (p : Int × Int) : List ZV := [Z64 p.1, Z64 p.2]
abbrev eL (l : List Int) : List ZV := [zI l]
def toA : ZV → AV
  | .val v => .val v
  | _ => .no
theorem val_cells {w : Wd} : ∀ {zs : List ZV} {ys : List AV}, ZRs w zs ys → (∀ z ∈ zs, ∃ v, z = .val v) → ys = zs.map toA
  | [], [], _, _ => rfl
  | [], _ :: _, h, _ => by have := h.1; simp at this
  | _ :: _, [], h, _ => by have := h.1; simp at this
  | z :: zs, a :: ys, h, hv => by
    obtain ⟨v, rfl⟩ := hv z (by simp)
    have e := (h.2 0 _ _ rfl rfl).val_inv
    subst e
    rw [List.map_cons, ← val_cells ⟨by simpa using h.1, fun i x y hx hy => h.2 (i + 1) x y (by simpa using hx) (by simpa using hy)⟩ (fun z hz => hv z (by simp [hz]))]
    rfl
theorem pl_of {fl : Nat → Bool} {w : Wd} (r : ZRel fl L w) {z : ZV} {a : AV} (hz : ZR w z a) {ps : List (Int × Int)} (hr : rowsZ w.H 2 z = some (ps.map eP)) : PL w.h a ps := by
  obtain ⟨cells, h1, h2⟩ := rows_sl r hz hr
  rw [List.length_map] at h1
  have := val_cells h2 (fun z hz => by
    simp only [List.mem_flatten, List.mem_map] at hz
    obtain ⟨_, ⟨p, _, rfl⟩, hz⟩ := hz
    simp at hz
    rcases hz with rfl | rfl <;> exact ⟨_, rfl⟩)
  have e : ((ps.map eP).flatten.map toA) = pairsA ps := by
    clear h1 h2 this hr
    induction ps with
    | nil => rfl
    | cons p ps ih =>
      rw [List.map_cons, List.flatten_cons, List.map_append, ih]; rfl
  rw [this, e] at h1
  exact h1
theorem pairs_zrs (l : List (Int × Int)) (w : Wd) : ZRs w (l.map eP).flatten (pairsA l) := by
  induction l with
  | nil => exact .nil
  | cons p l ih => exact ZRs.append (zs := eP p) (ys := [I64 p.1, I64 p.2]) (.cons (.fr (.val _)) (.cons (.fr (.val _)) .nil)) ih
theorem live_z {z1 z2 z3 : ZV} {has : List (List Int)} {roots : List Int} {ps : List (Int × Int)} (h1 : rowsZ H 1 z1 = some (has.map eL)) (h2 : rowsZ H 1 z2 = some (roots.map eI)) (h3 : rowsZ H 2 z3 = some (ps.map eP))
    (hK : ∀ l, (l = if liveE has roots ps = 0 then liveL has ps roots else []) → K (.tuple [.own H.length 0 0 l.length false, Z64 (liveE has roots ps)]) (H ++ [.grow 0 1 (l.map eI)])) :
    ZC (constX tb) (cFunc Try.prog) 13 [.agg [z1, z2], z3] L H K := by
  intro fl w args r e ha
  subst e
  obtain ⟨a, ha0, ha1⟩ := ha.get (i := 0) rfl
  obtain ⟨b, hb0, hb1⟩ := ha.get (i := 1) rfl
  obtain ⟨ys, rfl, hys⟩ := ha1.agg_inv
  obtain ⟨v1, hv0, hv1⟩ := hys.get (i := 0) rfl
  obtain ⟨v2, hu0, hu1⟩ := hys.get (i := 1) rfl
  have e1 : ys = [v1, v2] := by
    have := hys.1
    match ys, this, hv0, hu0 with
    | [x, y], _, hv0, hu0 => simp at hv0 hu0; rw [hv0, hu0]
  have e2 : args = [.agg ys, b] := by
    have := ha.1
    match args, this, ha0, hb0 with
    | [x, y], _, hv0, hu0 => simp at hv0 hu0; rw [hv0, hu0]
  subst e1; subst e2
  refine live_am (ll_of r hv1 h1) (il_of r hu1 h2) (pl_of r hb1 h3) r.fresh fun h' v hn => ?_
  obtain ⟨w', q1, q2, q3, q4, q5⟩ := newI_w r hn
  exact ⟨_, w', q1, q3, q4, ZRs.toTuple (.cons q5 (.cons (.fr (.val _)) .nil)), by rw [q2]; exact hK _ rfl⟩
theorem kept_z {z1 z2 z3 : ZV} {has : List (List Int)} {roots : List Int} {ps : List (Int × Int)} (h1 : rowsZ H 1 z1 = some (has.map eL)) (h2 : rowsZ H 1 z2 = some (roots.map eI)) (h3 : rowsZ H 2 z3 = some (ps.map eP))
    (hK : ∀ l, (l = if liveE has roots ps = 0 then keptL has ps roots ps.length else []) → K (.tuple [.own H.length 0 0 l.length false, Z64 (liveE has roots ps)]) (H ++ [.grow 0 2 (l.map eP)])) :
    ZC (constX tb) (cFunc Try.prog) 19 [.agg [z1, z2], z3] L H K := by
  intro fl w args r e ha
  subst e
  obtain ⟨a, ha0, ha1⟩ := ha.get (i := 0) rfl
  obtain ⟨b, hb0, hb1⟩ := ha.get (i := 1) rfl
  obtain ⟨ys, rfl, hys⟩ := ha1.agg_inv
  obtain ⟨v1, hv0, hv1⟩ := hys.get (i := 0) rfl
  obtain ⟨v2, hu0, hu1⟩ := hys.get (i := 1) rfl
  have e1 : ys = [v1, v2] := by
    have := hys.1
    match ys, this, hv0, hu0 with
    | [x, y], _, hv0, hu0 => simp at hv0 hu0; rw [hv0, hu0]
  have e2 : args = [.agg ys, b] := by
    have := ha.1
    match args, this, ha0, hb0 with
    | [x, y], _, hv0, hu0 => simp at hv0 hu0; rw [hv0, hu0]
  subst e1; subst e2
  refine kept_am (ll_of r hv1 h1) (il_of r hu1 h2) (pl_of r hb1 h3) r.fresh fun h' v l hn hl => ?_
  obtain ⟨w', q1, q2, q3, q4, q5⟩ := new_w r (rows := l.map eP) hn (by intro x hx; obtain ⟨p, _, rfl⟩ := List.mem_map.1 hx; rfl) (by simp) (pairs_zrs l)
  exact ⟨_, w', q1, q3, q4, ZRs.toTuple (.cons q5 (.cons (.fr (.val _)) .nil)), by rw [q2]; exact hK _ hl⟩
theorem needed_z {z1 z2 : ZV} {has : List (List Int)} {roots : List Int} (h1 : rowsZ H 1 z1 = some (has.map eL)) (h2 : rowsZ H 1 z2 = some (roots.map eI))
    (hK : ∀ l, (l = if checkE has roots = 0 then liveL has [] roots else []) → K (.tuple [.own H.length 0 0 l.length false, Z64 (checkE has roots)]) (H ++ [.grow 0 1 (l.map eI)])) :
    ZC (constX tb) (cFunc Try.prog) 20 [.agg [z1, z2]] L H K := by
  intro fl w args r e ha
  subst e
  obtain ⟨a, ha0, ha1⟩ := ha.get (i := 0) rfl
  obtain ⟨ys, rfl, hys⟩ := ha1.agg_inv
  obtain ⟨v1, hv0, hv1⟩ := hys.get (i := 0) rfl
  obtain ⟨v2, hu0, hu1⟩ := hys.get (i := 1) rfl
  have e1 : ys = [v1, v2] := by
    have := hys.1
    match ys, this, hv0, hu0 with
    | [x, y], _, hv0, hu0 => simp at hv0 hu0; rw [hv0, hu0]
  have e2 : args = [.agg ys] := by
    have := ha.1
    match args, this, ha0 with
    | [x], _, hv0 => simp at hv0; rw [hv0]
  subst e1; subst e2
  refine needed_am (ll_of r hv1 h1) (il_of r hu1 h2) r.fresh fun h' v l hn hl => ?_
  obtain ⟨w', q1, q2, q3, q4, q5⟩ := newI_w r hn
  exact ⟨_, w', q1, q3, q4, ZRs.toTuple (.cons q5 (.cons (.fr (.val _)) .nil)), by rw [q2]; exact hK _ hl⟩
theorem copypair_z {z : ZV} {l : List (Int × Int)} (hz : rowsZ H 2 z = some (l.map eP)) (hb : l.length ≤ 1000000) (hK : K (.own H.length 0 0 l.length false) (H ++ [.grow 0 2 (l.map eP)])) : ZC (constX tb) (cFunc Try.prog) 15 [z] L H K := by
  refine ZC.enter Gh.no constX_none f_r_copypair (by simp) ?_
  simp only [c_r_copypair]
  have hreach : l.length * 16 ≤ reach := by unfold reach; omega
  repeat' (first | (simp only [zmPack, zfree, owners, Nat.reduceLT, List.filter_cons, List.filter_nil, List.contains_cons, List.contains_nil, Nat.reduceBEq, Bool.or_false, Bool.or_true, Bool.false_or, Bool.true_or, BEq.rfl, chunk, setAt, List.lookup_cons, List.lookup_nil, ZV.val.injEq, ZV.ptr.injEq, ZV.own.injEq, ZV.fz.injEq, ZV.func.injEq, ZV.tuple.injEq, ZV.agg.injEq, ZB.box.injEq, ZB.grow.injEq, Bool.not_eq_false', Prod.mk.injEq, and_assoc, decide_false, decide_true, Bool.not_false, Bool.not_true, Bool.true_eq_false, Bool.false_eq_true, exists_false, Bool.not_eq_false, Bool.not_not, Value.bool.injEq, Value.int.injEq, Option.some.injEq, exists_eq_left', exists_eq_left, exists_and_left, exists_and_right, and_true, true_and, decide_eq_true_eq, decide_eq_false_iff_not, if_true, if_false, Bool.not_eq_true', beq_true, beq_false, ne_eq, not_true_eq_false, not_false_eq_true, reduceCtorEq, List.getD_cons_zero, List.getD_cons_succ, List.getD_nil, List.map_cons, List.map_nil, List.append_nil, Nat.reduceEqDiff, reduceIte, ite_true, ite_false, or_true, true_or, or_false, false_or, true_imp_iff, false_imp_iff, implies_true, imp_false, and_self, imp_self, and_false, false_and, forall_const, take_map_all, Nat.le_refl, Nat.reduceMul, Nat.reduceSub, List.length_cons, List.length_nil, List.length_map, List.length_set, List.all_cons, List.all_nil, Bool.and_self, Option.map_none, Option.map_some, List.set_cons_zero, List.set_cons_succ, Nat.lt_add_one, List.append_assoc, List.cons_append, List.nil_append, List.append_nil, List.length_append, List.take_zero, List.take_succ_cons, List.take_nil, List.drop_zero, List.drop_succ_cons, List.drop_nil, List.getElem?_cons_zero, List.getElem?_cons_succ, List.getElem?_map, Nat.reduceAdd, Nat.reduceLeDiff, Nat.add_eq_zero_iff, and_self, Nat.zero_add, Nat.add_zero, Nat.mul_one, Nat.one_mul, List.flatten_cons, List.flatten_nil, hz, hreach, *]) | (simp only [zgoO, zgoG, zO_nil, zthen_normal, zgoC]) | (with_reducible apply And.intro) | (with_reducible intro _))
  exact Fin.keep hK
end Go.Proofs.Ytlgminfejehndaa
