/-
  words' writer in ZM.
-/
import Derived.Test.YtpmmiaadfnildaaBoxX
import Derived.Test.YtpmmiaadfnildaaWoCode
namespace Go.Proofs.Ytpmmiaadfnildaa
open Go Go.RowKit
set_option linter.unusedVariables false
set_option linter.unusedSimpArgs false
abbrev eU (n : Int) : List ZV := [.val (.int .u64 n)]
abbrev eP (p : Int × Int) : List ZV := [Z64 p.1, Z64 p.2]
def u64 (n : Int) : Int := IntKind.u64.wrap n
/-- The writer in block i, its words in block j. -/
def wrH (H : ZH) (i j g : Nat) (out : List Int) (e : Int) : ZH := (H.set i (.box [.own j g 0 out.length false, Z64 e])).set j (.grow g 1 (out.map eU))
structure WOk (H : ZH) (L : Nat → Bool) (i j : Nat) : Prop where
  hi : i < H.length
  hj : j < H.length
  ne : i ≠ j
  li : L i = true
  lj : L j = true
section
variable {H : ZH} {L : Nat → Bool} {i j g : Nat} {out : List Int} {e : Int}
theorem wr_len : (wrH H i j g out e).length = H.length := by simp [wrH]
theorem wr_i (w : WOk H L i j) : (wrH H i j g out e)[i]? = some (.box [.own j g 0 out.length false, Z64 e]) := by
  unfold wrH; rw [List.getElem?_set, if_neg (Ne.symm w.ne), List.getElem?_set]; simp [w.hi]
theorem wr_j (w : WOk H L i j) : (wrH H i j g out e)[j]? = some (.grow g 1 (out.map eU)) := by
  unfold wrH; rw [List.getElem?_set]; simp [w.hj]
theorem wr_push {g' : Nat} {out' : List Int} {e' : Int} (w : WOk H L i j) : ((wrH H i j g out e).set j (.grow g' 1 (out'.map eU))).set i (.box [.own j g' 0 out'.length false, Z64 e']) = wrH H i j g' out' e' := by
  unfold wrH
  rw [List.set_set, List.set_comm _ _ w.ne, List.set_set, List.set_comm _ _ (Ne.symm w.ne)]
theorem wr_e {e' : Int} (w : WOk H L i j) : (wrH H i j g out e).set i (.box [.own j g 0 out.length false, Z64 e']) = wrH H i j g out e' := by
  unfold wrH
  rw [List.set_comm _ _ w.ne, List.set_set, List.set_comm _ _ (Ne.symm w.ne)]
end
variable {tb : List (FuncId × Bool)} {L : Nat → Bool} {H : ZH} {K : ZV → ZH → Prop}
theorem numbers_z {i j g : Nat} {out : List Int} {e : Int} {z : ZV} {l : List Int} (w : WOk H L i j) (hz : rowsZ (wrH H i j g out e) 1 z = some (l.map eI)) (hzi : ∀ g' out', rowsZ (wrH H i j g' out' e) 1 z = some (l.map eI)) (hlen : out.length + l.length ≤ 1000000) (hK : K (.tuple []) (wrH H i j (g + l.length) (out ++ l.map u64) e)) :
    ZC (boxX tb) (cFunc Try.prog) 49 [.ptr i 0, z] L (wrH H i j g out e) K := by
  refine ZC.enter Gh.no (boxX_none (by decide)) f_wo_numbers (by simp) ?_
  simp only [c_wo_numbers]
  have hln := rows_len hz
  rw [List.length_map] at hln
  repeat' (first | (simp only [zmPack, zfree, owners, Nat.reduceLT, List.filter_cons, List.filter_nil, List.contains_cons, List.contains_nil, Nat.reduceBEq, Bool.or_false, Bool.or_true, Bool.false_or, Bool.true_or, BEq.rfl, chunk, setAt, List.lookup_cons, List.lookup_nil, ZV.val.injEq, ZV.ptr.injEq, ZV.own.injEq, ZV.fz.injEq, ZV.func.injEq, ZV.tuple.injEq, ZV.agg.injEq, ZB.box.injEq, ZB.grow.injEq, Bool.not_eq_false', Prod.mk.injEq, and_assoc, decide_false, decide_true, Bool.not_false, Bool.not_true, Bool.true_eq_false, Bool.false_eq_true, exists_false, Bool.not_eq_false, Bool.not_not, Value.bool.injEq, Value.int.injEq, Option.some.injEq, exists_eq_left', exists_eq_left, exists_and_left, exists_and_right, and_true, true_and, decide_eq_true_eq, decide_eq_false_iff_not, if_true, if_false, Bool.not_eq_true', beq_true, beq_false, ne_eq, not_true_eq_false, not_false_eq_true, reduceCtorEq, List.getD_cons_zero, List.getD_cons_succ, List.getD_nil, List.map_cons, List.map_nil, List.append_nil, Nat.reduceEqDiff, reduceIte, ite_true, ite_false, or_true, true_or, or_false, false_or, true_imp_iff, false_imp_iff, implies_true, imp_false, and_self, imp_self, and_false, false_and, forall_const, take_map_all, Nat.le_refl, Nat.reduceMul, Nat.reduceSub, List.length_cons, List.length_nil, List.length_map, List.length_set, List.all_cons, List.all_nil, Bool.and_self, Option.map_none, Option.map_some, List.set_cons_zero, List.set_cons_succ, Nat.lt_add_one, List.append_assoc, List.cons_append, List.nil_append, List.append_nil, List.length_append, List.take_zero, List.take_succ_cons, List.take_nil, List.drop_zero, List.drop_succ_cons, List.drop_nil, List.getElem?_cons_zero, List.getElem?_cons_succ, List.getElem?_map, Nat.reduceAdd, Nat.reduceLeDiff, Nat.add_eq_zero_iff, and_self, Nat.zero_add, Nat.add_zero, Nat.mul_one, Nat.one_mul, List.flatten_cons, List.flatten_nil, hln, *]) | (simp only [zgoO, zgoG, zO_nil, zthen_normal, zgoC]) | (with_reducible apply And.intro) | (with_reducible intro _))
  refine zW_forK [(0, .ptr i 0), (6, z)] l.length (fun k s' h' => h' = wrH H i j (g + k) (out ++ (l.take k).map u64) e) (by omega) ⟨rfl, rfl, rfl, rfl, rfl, rfl⟩ rfl rfl (by repeat' (first | exact trivial | (refine ⟨rfl, ?_⟩) | (refine ⟨by simp only [zupd_at, Nat.reduceEqDiff, reduceIte]; assumption, ?_⟩))) rfl rfl (by decide) (by simp) ?_ ?_
  · rintro k s' h' hk rfl hi hl ⟨f0, f6, -⟩
    obtain ⟨p, hp, hld⟩ := rows_at (hzi (g + k) (out ++ (l.take k).map u64)) hk
    have h1 := wr_i (g := g + k) (out := out ++ (l.take k).map u64) (e := e) w
    have h2 := wr_j (g := g + k) (out := out ++ (l.take k).map u64) (e := e) w
    obtain ⟨x, hx⟩ : ∃ x, x = l[k] := ⟨_, rfl⟩
    have ht : (out ++ (l.take (k + 1)).map u64) = (out ++ (l.take k).map u64) ++ [u64 x] := by rw [List.take_succ_eq_append_getElem hk, hx, List.map_append, List.append_assoc]; rfl
    have hol : (out ++ (l.take k).map u64).length = out.length + k := by simp; omega
    rw [← hx] at hld
    rw [ht]
    obtain ⟨o, ho⟩ : ∃ o, o = out ++ (l.take k).map u64 := ⟨_, rfl⟩
    rw [← ho] at hp hld h1 h2 hol ⊢
    have hr : (o.length + 1) * 8 ≤ reach := by unfold reach; omega
    have li := w.li
    have lj := w.lj
    have hpush := wr_push (g := g + k) (g' := g + k + 1) (out := o) (out' := o ++ [u64 x]) (e := e) (e' := e) w
    have hu : IntKind.u64.wrap x = u64 x := rfl
    have hg : g + (k + 1) = g + k + 1 := by omega
    have fin : ((wrH H i j (g + k) o e).set j (.grow (g + k + 1) 1 (o.map eU ++ [[.val (.int .u64 (u64 x))]]))).set i (.box [.own j (g + k + 1) 0 (o.length + 1) false, Z64 e]) = wrH H i j (g + k + 1) (o ++ [u64 x]) e := by rw [← hpush]; simp
    have hne := w.ne
    have h1' : ∀ B, ((wrH H i j (g + k) o e).set j B)[i]? = some (.box [.own j (g + k) 0 o.length false, Z64 e]) := fun B => by rw [List.getElem?_set, if_neg (Ne.symm hne)]; exact h1
    clear hx ht ho hol hpush w hzi hz hK hln hlen
    repeat' (first | (simp only [zmPack, zfree, owners, Nat.reduceLT, List.filter_cons, List.filter_nil, List.contains_cons, List.contains_nil, Nat.reduceBEq, Bool.or_false, Bool.or_true, Bool.false_or, Bool.true_or, BEq.rfl, chunk, setAt, List.lookup_cons, List.lookup_nil, ZV.val.injEq, ZV.ptr.injEq, ZV.own.injEq, ZV.fz.injEq, ZV.func.injEq, ZV.tuple.injEq, ZV.agg.injEq, ZB.box.injEq, ZB.grow.injEq, Bool.not_eq_false', Prod.mk.injEq, and_assoc, decide_false, decide_true, Bool.not_false, Bool.not_true, Bool.true_eq_false, Bool.false_eq_true, exists_false, Bool.not_eq_false, Bool.not_not, Value.bool.injEq, Value.int.injEq, Option.some.injEq, exists_eq_left', exists_eq_left, exists_and_left, exists_and_right, and_true, true_and, decide_eq_true_eq, decide_eq_false_iff_not, if_true, if_false, Bool.not_eq_true', beq_true, beq_false, ne_eq, not_true_eq_false, not_false_eq_true, reduceCtorEq, List.getD_cons_zero, List.getD_cons_succ, List.getD_nil, List.map_cons, List.map_nil, List.append_nil, Nat.reduceEqDiff, reduceIte, ite_true, ite_false, or_true, true_or, or_false, false_or, true_imp_iff, false_imp_iff, implies_true, imp_false, and_self, imp_self, and_false, false_and, forall_const, take_map_all, Nat.le_refl, Nat.reduceMul, Nat.reduceSub, List.length_cons, List.length_nil, List.length_map, List.length_set, List.all_cons, List.all_nil, Bool.and_self, Option.map_none, Option.map_some, List.set_cons_zero, List.set_cons_succ, Nat.lt_add_one, List.append_assoc, List.cons_append, List.nil_append, List.append_nil, List.length_append, List.take_zero, List.take_succ_cons, List.take_nil, List.drop_zero, List.drop_succ_cons, List.drop_nil, List.getElem?_cons_zero, List.getElem?_cons_succ, List.getElem?_map, Nat.reduceAdd, Nat.reduceLeDiff, Nat.add_eq_zero_iff, and_self, Nat.zero_add, Nat.add_zero, Nat.mul_one, Nat.one_mul, List.flatten_cons, List.flatten_nil, hp, hld, h1, h2, hr, li, lj, hu, hg, h1', fin, *]) | (simp only [zgoO, zgoG, zO_nil, zthen_normal, zgoC]) | (with_reducible apply And.intro) | (with_reducible intro _))
  · rintro s' h' rfl ⟨f0, f6, -⟩
    rw [List.take_of_length_le (Nat.le_refl _)]
    have fin := Fin.keep (H0 := wrH H i j g out e) hK
    clear hK hz hzi hln
    repeat' (first | (simp only [zmPack, zfree, owners, Nat.reduceLT, List.filter_cons, List.filter_nil, List.contains_cons, List.contains_nil, Nat.reduceBEq, Bool.or_false, Bool.or_true, Bool.false_or, Bool.true_or, BEq.rfl, chunk, setAt, List.lookup_cons, List.lookup_nil, ZV.val.injEq, ZV.ptr.injEq, ZV.own.injEq, ZV.fz.injEq, ZV.func.injEq, ZV.tuple.injEq, ZV.agg.injEq, ZB.box.injEq, ZB.grow.injEq, Bool.not_eq_false', Prod.mk.injEq, and_assoc, decide_false, decide_true, Bool.not_false, Bool.not_true, Bool.true_eq_false, Bool.false_eq_true, exists_false, Bool.not_eq_false, Bool.not_not, Value.bool.injEq, Value.int.injEq, Option.some.injEq, exists_eq_left', exists_eq_left, exists_and_left, exists_and_right, and_true, true_and, decide_eq_true_eq, decide_eq_false_iff_not, if_true, if_false, Bool.not_eq_true', beq_true, beq_false, ne_eq, not_true_eq_false, not_false_eq_true, reduceCtorEq, List.getD_cons_zero, List.getD_cons_succ, List.getD_nil, List.map_cons, List.map_nil, List.append_nil, Nat.reduceEqDiff, reduceIte, ite_true, ite_false, or_true, true_or, or_false, false_or, true_imp_iff, false_imp_iff, implies_true, imp_false, and_self, imp_self, and_false, false_and, forall_const, take_map_all, Nat.le_refl, Nat.reduceMul, Nat.reduceSub, List.length_cons, List.length_nil, List.length_map, List.length_set, List.all_cons, List.all_nil, Bool.and_self, Option.map_none, Option.map_some, List.set_cons_zero, List.set_cons_succ, Nat.lt_add_one, List.append_assoc, List.cons_append, List.nil_append, List.append_nil, List.length_append, List.take_zero, List.take_succ_cons, List.take_nil, List.drop_zero, List.drop_succ_cons, List.drop_nil, List.getElem?_cons_zero, List.getElem?_cons_succ, List.getElem?_map, Nat.reduceAdd, Nat.reduceLeDiff, Nat.add_eq_zero_iff, and_self, Nat.zero_add, Nat.add_zero, Nat.mul_one, Nat.one_mul, List.flatten_cons, List.flatten_nil, zresults, zress, *]) | (simp only [zgoO, zgoG, zO_nil, zthen_normal, zgoC]) | (with_reducible apply And.intro) | (with_reducible intro _))
end Go.Proofs.Ytpmmiaadfnildaa
