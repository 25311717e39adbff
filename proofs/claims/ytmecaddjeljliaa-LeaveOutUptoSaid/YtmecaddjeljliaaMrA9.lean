/-
  ZM: a list that stands in another list's row is written to no more.
-/
import Derived.Test.YtmecaddjeljliaaMrA7
import Derived.Test.YtmecaddjeljliaaMrA8
namespace Go.Proofs.Ytmecaddjeljliaa
open Go Go.RowKit
set_option linter.unusedVariables false
set_option linter.unusedSimpArgs false
variable {fl L : Nat → Bool} {w : Wd}
/-- Other words for the same memory, row by row. -/
theorem swap_rows (r : ZRel fl L w) {t g k : Nat} {rows rows' : List (List ZV)} (hb : w.H[t]? = some (.grow g k rows)) (hl : rows'.length = rows.length) (hk : ∀ x ∈ rows', x.length = k)
    (hz : ∀ id b row, w.mu t = some (id, b) → blk w.h id = some row → ZRs w rows'.flatten ((row.drop b).take (rows.length * k))) :
    ∃ w', w'.h = w.h ∧ w'.H = w.H.set t (.grow g k rows') ∧ ZRel fl L w' ∧ Ext w w' := by
  have ht : t < w.H.length := (List.getElem?_eq_some_iff.1 hb).1
  obtain ⟨w', hw⟩ : ∃ w' : Wd, w' = ⟨w.Fr, w.mu, w.H.set t (.grow g k rows'), w.h⟩ := ⟨_, rfl⟩
  have hat : w'.H[t]? = some (.grow g k rows') := by rw [hw]; simp [ht]
  have hne : ∀ i, i ≠ t → w'.H[i]? = w.H[i]? := fun i hi => by rw [hw]; exact List.getElem?_set_ne (Ne.symm hi)
  have hh : w'.h = w.h := by rw [hw]
  have hmu : w'.mu = w.mu := by rw [hw]
  have hfr : w'.Fr = w.Fr := by rw [hw]
  have hHl : w'.H.length = w.H.length := by rw [hw]; simp
  have ext : Ext w w' := by
    refine ⟨fun id h => by rw [hfr]; exact h, fun id row _ h => by rw [hh]; exact h, by rw [hh]; exact Nat.le_refl _, by rw [hHl]; exact Nat.le_refl _, fun i p h => .inl ⟨p, by rw [hmu] at h; exact h, rfl⟩, fun i cs h => ?_, fun i cs hi h => ?_, fun i g' k' rs hi h => ?_⟩
    · have hi : i ≠ t := fun e => by rw [e, hb] at h; cases h
      exact ⟨⟨cs, by rw [hne i hi]; exact h⟩, by rw [hmu]⟩
    · have hi : i ≠ t := fun e => by rw [e, hat] at h; cases h
      exact ⟨cs, by rw [← hne i hi]; exact h⟩
    · by_cases e : i = t
      · subst e
        rw [hat] at h
        injection h with h; injection h with e1 e2 e3
        subst e1; subst e2; subst e3
        exact ⟨_, _, hb, Nat.le_refl _, fun _ => ⟨by rw [hmu], hl, fun id b row _ hr => ⟨row, by rw [hh]; exact hr, rfl⟩⟩⟩
      · rw [hne i e] at h
        exact ⟨_, _, h, Nat.le_refl _, fun _ => ⟨by rw [hmu], rfl, fun id b row _ hr => ⟨row, by rw [hh]; exact hr, rfl⟩⟩⟩
  refine ⟨w', hh, by rw [hw], ⟨fun id h => r.fresh id (by rw [hh] at h; exact h), fun i h => r.lfresh i (by rw [hHl] at h; exact h), fun id h => by rw [hh]; exact r.frlt id (by rw [hfr] at h; exact h), fun i p h => by rw [hHl]; exact r.dom i p (by rw [hmu] at h; exact h), fun i j p q h1 h2 => by rw [hmu] at h1 h2; exact r.inj i j p q h1 h2, fun i p h => by rw [hmu] at h; rw [hfr, hh]; exact r.nfr i p h, fun i p h => by rw [hmu] at h; exact r.wr i p h, fun i cs h => ?_, fun i g' k' rs h => ?_⟩, ext⟩
  · have hi : i ≠ t := fun e => by rw [e, hat] at h; cases h
    rw [hne i hi] at h
    obtain ⟨id, row, h1, h2, h3⟩ := r.box i cs h
    exact ⟨id, row, by rw [hmu]; exact h1, by rw [hh]; exact h2, h3.ext ext⟩
  · by_cases e : i = t
    · subst e
      rw [hat] at h
      injection h with h; injection h with e1 e2 e3
      subst e1; subst e2; subst e3
      refine ⟨hk, ?_⟩
      rcases (r.grow _ _ _ _ hb).2 with ⟨h1, h2⟩ | ⟨id, b, row, h1, h2, h3, h4⟩
      · exact .inl ⟨by rw [hmu]; exact h1, List.eq_nil_of_length_eq_zero (by rw [hl, h2]; rfl)⟩
      · exact .inr ⟨id, b, row, by rw [hmu]; exact h1, by rw [hh]; exact h2, by rw [hl]; exact h3, by rw [hl]; exact (hz id b row h1 h2).ext ext⟩
    · rw [hne i e] at h
      obtain ⟨q1, q2⟩ := r.grow i g' k' rs h
      refine ⟨q1, ?_⟩
      rcases q2 with ⟨h1, h2⟩ | ⟨id, b, row, h1, h2, h3, h4⟩
      · exact .inl ⟨by rw [hmu]; exact h1, h2⟩
      · exact .inr ⟨id, b, row, by rw [hmu]; exact h1, by rw [hh]; exact h2, h3, h4.ext ext⟩
theorem frz_row (r : ZRel fl L w) {t g k e c j g2 n k2 : Nat} {ex : Bool} {rows rows2 : List (List ZV)} {rr : List ZV} (ht : w.H[t]? = some (.grow g k rows)) (hr : rows[e]? = some rr) (hc : rr[c]? = some (.own j g2 0 n ex)) (hb : w.H[j]? = some (.grow g2 k2 rows2)) (hle : n ≤ rows2.length) (hp : rows2.flatten.all pureZ = true) (hjt : j ≠ t) :
    ∃ w', w'.h = w.h ∧ w'.H = (w.H.set j .dead).set t (.grow g k (rows.set e (setAt rr c [.fz k2 ex (rows2.take n)]))) ∧ ZRel fl L w' ∧ Ext w w' := by
  obtain ⟨g0, gB⟩ := r.grow _ _ _ _ ht
  have hrk : rr.length = k := g0 rr (List.mem_of_getElem? hr)
  have hck : c < k := by have := (List.getElem?_eq_some_iff.1 hc).1; omega
  rcases gB with ⟨_, h0⟩ | ⟨id, b, row, m1, m2, m3, m4⟩
  · rw [h0] at hr; simp at hr
  · have hat : rows.flatten[e * k + c]? = some (.own j g2 0 n ex) := by
      have h1 := zflat_at g0 hr
      have h2 : ((rows.flatten.drop (e * k)).take k)[c]? = some (.own j g2 0 n ex) := by rw [h1]; exact hc
      rw [List.getElem?_take, if_pos hck, List.getElem?_drop] at h2
      exact h2
    obtain ⟨a, ha, hz⟩ := m4.get hat
    obtain ⟨w2, e1, e2, e3, e4, e5⟩ := freeze_own r hb (by omega) hp hz
    rw [List.drop_zero] at e5
    have ht2 : w2.H[t]? = some (.grow g k rows) := by rw [e2, List.getElem?_set, if_neg hjt]; exact ht
    have htl : t < w.H.length := (List.getElem?_eq_some_iff.1 ht).1
    have hmu : w2.mu t = w.mu t := by
      obtain ⟨g1, r1, q1, _, q3⟩ := e4.grow t g k rows htl ht2
      rw [ht] at q1; injection q1 with q1; injection q1 with q1 _ _
      exact (q3 q1.symm).1
    obtain ⟨w3, f1, f2, f3, f4⟩ := swap_rows e3 ht2 (rows' := rows.set e (setAt rr c [.fz k2 ex (rows2.take n)])) (by simp) (fun x hx => by
      rcases List.mem_or_eq_of_mem_set hx with hx | rfl
      · exact g0 x hx
      · rw [setAt_length (by simp; omega)]; exact hrk) (fun id' b' row' q1 q2 => by
      rw [hmu, m1] at q1
      injection q1 with q1; injection q1 with q3 q4
      subst q3; subst q4
      rw [e1, m2] at q2
      injection q2 with q2; subst q2
      rw [zflat_set g0 hr (by simp; omega)]
      have hs := setAt_spec (m4.ext e4) (ZRs.cons e5 .nil) (e * k + c)
      obtain ⟨seg, hseg⟩ : ∃ seg, seg = (row.drop b).take (rows.length * k) := ⟨_, rfl⟩
      rw [← hseg] at ha hs ⊢
      have hlt := (List.getElem?_eq_some_iff.1 ha).1
      have hcut : seg.take (e * k + c) ++ [a] ++ seg.drop (e * k + c + [a].length) = seg := by
        have h1 : seg[e * k + c] = a := (List.getElem?_eq_some_iff.1 ha).2
        rw [List.append_assoc]
        have h2 : [a] ++ seg.drop (e * k + c + [a].length) = seg.drop (e * k + c) := by
          rw [List.drop_eq_getElem_cons hlt, h1]; rfl
        rw [h2, List.take_append_drop]
      rw [hcut] at hs
      exact hs)
    exact ⟨w3, f1.trans e1, by rw [f2, e2], f3, e4.trans f4⟩
/-- It is handed back: a list in a row is written to no more. -/
theorem Fin.frzRow {H0 : ZH} {z : ZV} {H' : ZH} {K : ZV → ZH → Prop} {t g k e c j g2 n k2 : Nat} {ex : Bool} {rows rows2 : List (List ZV)} {rr : List ZV} (ht : H'[t]? = some (.grow g k rows)) (hr : rows[e]? = some rr) (hc : rr[c]? = some (.own j g2 0 n ex)) (hb : H'[j]? = some (.grow g2 k2 rows2)) (hle : n ≤ rows2.length) (hp : rows2.flatten.all pureZ = true) (hjt : j ≠ t)
    (hk : Fin H0 z ((H'.set j .dead).set t (.grow g k (rows.set e (setAt rr c [.fz k2 ex (rows2.take n)])))) K) : Fin H0 z H' K := fun fl L w w' a r e0 r' e' he hz => by
  subst he
  obtain ⟨w3, f1, f2, f3, f4⟩ := frz_row r' ht hr hc hb hle hp hjt
  rw [← f1]
  exact hk fl L w w3 a r e0 f3 (e'.trans f4) f2 (hz.ext f4)
end Go.Proofs.Ytmecaddjeljliaa

namespace Go.Proofs.Ytmecaddjeljliaa
open Go Go.RowKit
set_option linter.unusedVariables false
set_option linter.unusedSimpArgs false
theorem Fin.frzTA {H0 : ZH} {i g off len : Nat} {ex : Bool} {H' : ZH} {K : ZV → ZH → Prop} {k : Nat} {rows : List (List ZV)} {vs cs : List ZV} {j c : Nat} (hj : vs[j]? = some (.agg cs)) (hc : cs[c]? = some (.own i g off len ex)) (hb : H'[i]? = some (.grow g k rows)) (hle : off + len ≤ rows.length) (hp : rows.flatten.all pureZ = true) (hk : Fin H0 (.tuple (vs.set j (.agg (cs.set c (.fz k ex ((rows.drop off).take len)))))) (H'.set i .dead) K) : Fin H0 (.tuple vs) H' K := fun fl L w w' a r e r' e' he hz => by
  subst he
  obtain ⟨ys, rfl, hys⟩ := hz.tuple_inv
  obtain ⟨y, hy, hyz⟩ := hys.get hj
  obtain ⟨us, rfl, hus⟩ := hyz.agg_inv
  obtain ⟨u, hu, huz⟩ := hus.get hc
  obtain ⟨w2, e1, e2, e3, e4, e5⟩ := freeze_own r' hb hle hp huz
  rw [← e1]
  have hcl : c < cs.length := (List.getElem?_eq_some_iff.1 hc).1
  have hagg : ZR w2 (.agg (cs.set c (.fz k ex ((rows.drop off).take len)))) (.agg us) := ZRs.toAgg ⟨by simp [hus.1], fun m z a hz' ha' => by
    by_cases hm : m = c
    · subst hm
      rw [List.getElem?_set] at hz'
      simp [hcl] at hz'
      rw [hu] at ha'; injection ha' with ha'
      subst hz'; subst ha'; exact e5
    · rw [List.getElem?_set, if_neg (Ne.symm hm)] at hz'
      exact (hus.2 m z a hz' ha').ext e4⟩
  refine hk fl L w w2 _ r e e3 (e'.trans e4) e2 (ZRs.toTuple ⟨by simp [hys.1], fun m z a hz' ha' => ?_⟩)
  have hjl : j < vs.length := (List.getElem?_eq_some_iff.1 hj).1
  by_cases hm : m = j
  · subst hm
    rw [List.getElem?_set] at hz'
    simp [hjl] at hz'
    rw [hy] at ha'; injection ha' with ha'
    subst hz'; subst ha'; exact hagg
  · rw [List.getElem?_set, if_neg (Ne.symm hm)] at hz'
    exact (hys.2 m z a hz' ha').ext e4
theorem Fin.truncT {H0 : ZH} {zs : List ZV} {H' : ZH} {K : ZV → ZH → Prop} (hm : Mods H0 H') (hz : zs.all (refs H0.length) = true) (k : K (.tuple zs) (H'.take H0.length)) : Fin H0 (.tuple zs) H' K := fun fl L w w' a r e r' e' he hzz => by
  subst e; subst he
  obtain ⟨r2, e2⟩ := trunc_w r r' e' hm
  obtain ⟨ys, rfl, hys⟩ := hzz.tuple_inv
  exact ⟨.tuple zs, truncW w' w.H.length, rfl, r2, e2, ZRs.toTuple ⟨hys.1, fun i z b h1 h2 => (hys.2 i z b h1 h2).ren (trunc_ren e'.Hl) (List.all_eq_true.1 hz z (List.mem_of_getElem? h1))⟩, k⟩
theorem atN3 {W : ZH} {n : Nat} (h : W.length = n) (A B C D : ZB) (X : ZH) : (W ++ (A :: B :: C :: D :: X))[n + 3]? = some D := by rw [← h, List.getElem?_append_right (by omega), Nat.add_sub_cancel_left]; rfl
theorem stN3 {W : ZH} {n : Nat} (h : W.length = n) (A B D C E : ZB) (X : ZH) : (W ++ (A :: B :: D :: C :: X)).set (n + 3) E = W ++ (A :: B :: D :: E :: X) := by rw [← h, List.set_append_right _ _ (by omega), Nat.add_sub_cancel_left]; rfl
/-- One register set. -/
def frStep (vals : List (Int × Int)) (r : Int × List (Int × Int)) (s : Int × Int) : Int × List (Int × Int) :=
  if r.1 ≠ 0 then r else if toldB [s.2] vals = false ∨ s.1 < 0 ∨ (r.2.length : Int) ≤ s.1 then (3, []) else (0, r.2.set s.1.toNat (vals.getD s.2.toNat (0, 0)))
def frAll (vals regs : List (Int × Int)) (sets : List (Int × Int)) : Int × List (Int × Int) := sets.foldl (frStep vals) (0, regs)
theorem frAll_take {vals regs sets : List (Int × Int)} {k : Nat} (hk : k < sets.length) : frAll vals regs (sets.take (k + 1)) = frStep vals (frAll vals regs (sets.take k)) sets[k] := by
  unfold frAll; rw [List.take_succ_eq_append_getElem hk, List.foldl_append]; rfl
theorem frAll_stuck {vals sets : List (Int × Int)} {r : Int × List (Int × Int)} (h : r.1 ≠ 0) : sets.foldl (frStep vals) r = r := by
  induction sets generalizing r with
  | nil => rfl
  | cons m ms ih =>
    have e : frStep vals r m = r := by unfold frStep; rw [if_pos h]
    rw [List.foldl_cons, e]; exact ih h
theorem frAll_bad {vals regs sets : List (Int × Int)} {k : Nat} (h : (frAll vals regs (sets.take k)).1 ≠ 0) : frAll vals regs sets = frAll vals regs (sets.take k) := by
  have : frAll vals regs sets = (sets.drop k).foldl (frStep vals) (frAll vals regs (sets.take k)) := by
    unfold frAll; rw [← List.foldl_append, List.take_append_drop]
  rw [this]; exact frAll_stuck h
/-- The frame behind the exit. -/
def frOut (f : Fr) (at_ : Int) (vals sets : List (Int × Int)) : Fr := (f.1, at_, f.2.2.1, f.2.2.2.1, f.2.2.2.2.1, (frAll vals f.2.2.2.2.2.1 sets).2, f.2.2.2.2.2.2)
variable {tb : List (FuncId × Bool)} {L : Nat → Bool} {H : ZH} {K : ZV → ZH → Prop}
abbrev zFr : List ZV := [Z64 0, Z64 0, Z64 0, Z64 0, Z64 0, Z64 0, .nil, .nil]
set_option maxHeartbeats 4000000 in
theorem frame_z {es ev : Bool} {f : Fr} {p1 p2 : Int} {sets vals : List (Int × Int)} {zm : ZV} (hf : frS f) (hsl : sets.length ≤ 1000000000000000)
    (hK0 : (frAll vals f.2.2.2.2.2.1 sets).1 ≠ 0 → K (.tuple [.agg zFr, Z64 3]) H) (hK1 : (frAll vals f.2.2.2.2.2.1 sets).1 = 0 → K (.tuple [.agg (eF (frOut f p1 vals sets)), Z64 0]) H) (hzm : pureZ zm = true) :
    ZC (constX tb) (cFunc Try.prog) 14 [.agg (eF f), .agg [Z64 p1, Z64 p2, .fz 2 es (sets.map eP), zm], .fz 2 ev (vals.map eP)] L H K := by
  refine ZC.enterL Gh.no constX_none f_lv_frame (by simp) fun hL => ?_
  simp only [c_lv_frame]
  obtain ⟨a1, a2, a3, a4, ⟨a5, a6⟩, rg, tr⟩ := f
  obtain ⟨hs1, hs2⟩ := hf
  simp only [eF] at hs1 hs2 hK0 hK1 ⊢
  have F0 : Hid (∀ k X, (frAll vals rg (sets.take k)).1 ≠ 0 → Fin H (.tuple [.agg zFr, Z64 3]) (H ++ X) K) := fun k X h => Fin.truncT (Mods.ext H X) rfl (by rw [List.take_left]; exact hK0 (by rw [frAll_bad h]; exact h))
  have hcell : zm.isCell = true := by cases zm <;> first | rfl | simp [pureZ] at hzm
  have HK1 := Lib.hid hK1
  clear hK0 hK1
  repeat' (first | (simp only [zmPack, zfree, owners, Nat.reduceLT, List.filter_cons, List.filter_nil, List.contains_cons, List.contains_nil, Nat.reduceBEq, Bool.or_false, Bool.or_true, Bool.false_or, Bool.true_or, BEq.rfl, chunk, setAt, List.lookup_cons, List.lookup_nil, ZV.val.injEq, ZV.ptr.injEq, ZV.own.injEq, ZV.fz.injEq, ZV.func.injEq, ZV.tuple.injEq, ZV.agg.injEq, ZB.box.injEq, ZB.grow.injEq, Bool.not_eq_false', Prod.mk.injEq, and_assoc, decide_false, decide_true, Bool.not_false, Bool.not_true, Bool.true_eq_false, Bool.false_eq_true, exists_false, Bool.not_eq_false, Bool.not_not, Value.bool.injEq, Value.int.injEq, Option.some.injEq, exists_eq_left', exists_eq_left, exists_and_left, exists_and_right, and_true, true_and, decide_eq_true_eq, decide_eq_false_iff_not, if_true, if_false, Bool.not_eq_true', beq_true, beq_false, ne_eq, not_true_eq_false, not_false_eq_true, reduceCtorEq, List.getD_cons_zero, List.getD_cons_succ, List.getD_nil, List.map_cons, List.map_nil, List.append_nil, Nat.reduceEqDiff, reduceIte, ite_true, ite_false, or_true, true_or, or_false, false_or, true_imp_iff, false_imp_iff, implies_true, imp_false, and_self, imp_self, and_false, false_and, forall_const, take_map_all, Nat.le_refl, Nat.reduceMul, Nat.reduceSub, List.length_cons, List.length_nil, List.length_map, List.length_set, List.all_cons, List.all_nil, Bool.and_self, Option.map_none, Option.map_some, List.set_cons_zero, List.set_cons_succ, Nat.lt_add_one, List.append_assoc, List.cons_append, List.nil_append, List.append_nil, List.length_append, List.take_zero, List.take_succ_cons, List.take_nil, List.drop_zero, List.drop_succ_cons, List.drop_nil, List.getElem?_cons_zero, List.getElem?_cons_succ, List.getElem?_map, Nat.reduceAdd, Nat.reduceLeDiff, Nat.add_eq_zero_iff, and_self, Nat.zero_add, Nat.add_zero, Nat.mul_one, Nat.one_mul, List.flatten_cons, List.flatten_nil, hcell, *]) | (simp only [zgoO, zgoG, zO_nil, zthen_normal, zgoC]) | (with_reducible apply And.intro) | (with_reducible intro _))
  obtain ⟨X0, hX0⟩ : ∃ X0, X0 = ZB.box [Z64 p1, Z64 p2, .fz 2 es (sets.map eP), zm] := ⟨_, rfl⟩
  obtain ⟨Z0, hZ0⟩ : ∃ Z0, Z0 = ZB.box [Z64 0, Z64 0, Z64 0, Z64 0, Z64 0, Z64 0, .nil, .nil] := ⟨_, rfl⟩
  have L0 : L H.length = true := hL 0
  have L2 : L (H.length + 2) = true := hL 2
  have L3 : L (H.length + 3) = true := hL 3
  have hlt : H.length < H.length + 3 := by omega
  have hlt4 : H.length < H.length + 4 := by omega
  by_cases hle : rg = []
  · subst hle
    refine clval_0 ?_
    repeat' (first | (simp only [zmPack, zfree, owners, Nat.reduceLT, List.filter_cons, List.filter_nil, List.contains_cons, List.contains_nil, Nat.reduceBEq, Bool.or_false, Bool.or_true, Bool.false_or, Bool.true_or, BEq.rfl, chunk, setAt, List.lookup_cons, List.lookup_nil, ZV.val.injEq, ZV.ptr.injEq, ZV.own.injEq, ZV.fz.injEq, ZV.func.injEq, ZV.tuple.injEq, ZV.agg.injEq, ZB.box.injEq, ZB.grow.injEq, Bool.not_eq_false', Prod.mk.injEq, and_assoc, decide_false, decide_true, Bool.not_false, Bool.not_true, Bool.true_eq_false, Bool.false_eq_true, exists_false, Bool.not_eq_false, Bool.not_not, Value.bool.injEq, Value.int.injEq, Option.some.injEq, exists_eq_left', exists_eq_left, exists_and_left, exists_and_right, and_true, true_and, decide_eq_true_eq, decide_eq_false_iff_not, if_true, if_false, Bool.not_eq_true', beq_true, beq_false, ne_eq, not_true_eq_false, not_false_eq_true, reduceCtorEq, List.getD_cons_zero, List.getD_cons_succ, List.getD_nil, List.map_cons, List.map_nil, List.append_nil, Nat.reduceEqDiff, reduceIte, ite_true, ite_false, or_true, true_or, or_false, false_or, true_imp_iff, false_imp_iff, implies_true, imp_false, and_self, imp_self, and_false, false_and, forall_const, take_map_all, Nat.le_refl, Nat.reduceMul, Nat.reduceSub, List.length_cons, List.length_nil, List.length_map, List.length_set, List.all_cons, List.all_nil, Bool.and_self, Option.map_none, Option.map_some, List.set_cons_zero, List.set_cons_succ, Nat.lt_add_one, List.append_assoc, List.cons_append, List.nil_append, List.append_nil, List.length_append, List.take_zero, List.take_succ_cons, List.take_nil, List.drop_zero, List.drop_succ_cons, List.drop_nil, List.getElem?_cons_zero, List.getElem?_cons_succ, List.getElem?_map, Nat.reduceAdd, Nat.reduceLeDiff, Nat.add_eq_zero_iff, and_self, Nat.zero_add, Nat.add_zero, Nat.mul_one, Nat.one_mul, List.flatten_cons, List.flatten_nil, hlt, hlt4, *]) | (simp only [zgoO, zgoG, zO_nil, zthen_normal, zgoC]) | (with_reducible apply And.intro) | (with_reducible intro _))
    refine cltry_f pureP (by rw [List.length_map]; exact hs2) ?_
    clear hs2 hs1
    repeat' (first | (simp only [zmPack, zfree, owners, Nat.reduceLT, List.filter_cons, List.filter_nil, List.contains_cons, List.contains_nil, Nat.reduceBEq, Bool.or_false, Bool.or_true, Bool.false_or, Bool.true_or, BEq.rfl, chunk, setAt, List.lookup_cons, List.lookup_nil, ZV.val.injEq, ZV.ptr.injEq, ZV.own.injEq, ZV.fz.injEq, ZV.func.injEq, ZV.tuple.injEq, ZV.agg.injEq, ZB.box.injEq, ZB.grow.injEq, Bool.not_eq_false', Prod.mk.injEq, and_assoc, decide_false, decide_true, Bool.not_false, Bool.not_true, Bool.true_eq_false, Bool.false_eq_true, exists_false, Bool.not_eq_false, Bool.not_not, Value.bool.injEq, Value.int.injEq, Option.some.injEq, exists_eq_left', exists_eq_left, exists_and_left, exists_and_right, and_true, true_and, decide_eq_true_eq, decide_eq_false_iff_not, if_true, if_false, Bool.not_eq_true', beq_true, beq_false, ne_eq, not_true_eq_false, not_false_eq_true, reduceCtorEq, List.getD_cons_zero, List.getD_cons_succ, List.getD_nil, List.map_cons, List.map_nil, List.append_nil, Nat.reduceEqDiff, reduceIte, ite_true, ite_false, or_true, true_or, or_false, false_or, true_imp_iff, false_imp_iff, implies_true, imp_false, and_self, imp_self, and_false, false_and, forall_const, take_map_all, Nat.le_refl, Nat.reduceMul, Nat.reduceSub, List.length_cons, List.length_nil, List.length_map, List.length_set, List.all_cons, List.all_nil, Bool.and_self, Option.map_none, Option.map_some, List.set_cons_zero, List.set_cons_succ, Nat.lt_add_one, List.append_assoc, List.cons_append, List.nil_append, List.append_nil, List.length_append, List.take_zero, List.take_succ_cons, List.take_nil, List.drop_zero, List.drop_succ_cons, List.drop_nil, List.getElem?_cons_zero, List.getElem?_cons_succ, List.getElem?_map, Nat.reduceAdd, Nat.reduceLeDiff, Nat.add_eq_zero_iff, and_self, Nat.zero_add, Nat.add_zero, Nat.mul_one, Nat.one_mul, List.flatten_cons, List.flatten_nil, hlt, hlt4, L0, *]) | (simp only [zgoO, zgoG, zO_nil, zthen_normal, zgoC]) | (with_reducible apply And.intro) | (with_reducible intro _))
    rw [← hX0, ← hZ0]
    have HX := Lib.hid hX0
    have HZ := Lib.hid hZ0
    clear hX0 hZ0 hlt hlt4
    obtain ⟨F, hF⟩ : ∃ F, F = ZB.box [Z64 a1, Z64 a2, Z64 a3, Z64 a4, Z64 a5, Z64 a6, .fz 2 false [], .fz 2 false (tr.map eP)] := ⟨_, rfl⟩
    rw [← hF]
    have HF := Lib.hid hF
    clear hF
    have g0 : ∀ A Y, (H ++ (A :: Y))[H.length]? = some A := fun A Y => atN0 rfl A Y
    have g1 : ∀ A B Y, (H ++ (A :: B :: Y))[H.length + 1]? = some B := fun A B Y => atN1 rfl A B Y
    have g2 : ∀ A B C Y, (H ++ (A :: B :: C :: Y))[H.length + 2]? = some C := fun A B C Y => atN2 rfl A B C Y
    have t0 : ∀ A C Y, (H ++ (A :: Y)).set H.length C = H ++ (C :: Y) := fun A C Y => stN0 rfl A C Y
    have t2 : ∀ A B C D Y, (H ++ (A :: B :: C :: Y)).set (H.length + 2) D = H ++ (A :: B :: D :: Y) := fun A B C D Y => stN2 rfl A B C D Y
    refine zW_forK [(2, .fz 2 ev (vals.map eP)), (3, .ptr H.length 0), (4, .ptr (H.length + 1) 0), (6, .ptr (H.length + 2) 0), (21, .fz 2 es (sets.map eP))] sets.length (fun k s' h' => frAll vals [] (sets.take k) = (0, []) ∧ ∃ Y, h' = H ++ (F :: X0 :: Z0 :: Y)) (by omega) ⟨rfl, rfl, rfl, rfl, rfl, rfl⟩ rfl rfl (by repeat' (first | exact trivial | (refine ⟨rfl, ?_⟩) | (refine ⟨by simp only [zupd_at, Nat.reduceEqDiff, reduceIte]; assumption, ?_⟩))) rfl rfl (by decide) ⟨rfl, [], rfl⟩ ?_ ?_
    · rintro k s' h' hk ⟨hok, Y, rfl⟩ hi hll ⟨f2, f3, f4, f6, f21, -⟩
      have hx : sets[k]? = some sets[k] := List.getElem?_eq_getElem hk
      have hT := frAll_take (vals := vals) (regs := []) hk
      have f0 := F0.out (k + 1)
      obtain ⟨m, hm⟩ : ∃ m, m = sets[k] := ⟨_, rfl⟩
      rw [← hm] at hx hT
      rw [hok] at hT
      obtain ⟨m1, m2⟩ := m
      rw [hT] at f0
      unfold frStep at f0
      simp only at f0
      have FF0 := Lib.hid f0
      clear hT hm f0 hok
      have c0 : ∀ (A B C E : ZB), (H ++ (A :: B :: C :: (Y ++ [E])))[H.length + (Y.length + 1 + 1 + 1)]? = some E := fun A B C E => by rw [show H ++ (A :: B :: C :: (Y ++ [E])) = (H ++ (A :: B :: C :: Y)) ++ [E] by simp]; exact atN0 (by simp) _ _
      have s0 : ∀ (A B C E G : ZB), (H ++ (A :: B :: C :: (Y ++ [E]))).set (H.length + (Y.length + 1 + 1 + 1)) G = H ++ (A :: B :: C :: (Y ++ [G])) := fun A B C E G => by rw [show H ++ (A :: B :: C :: (Y ++ [E])) = (H ++ (A :: B :: C :: Y)) ++ [E] by simp, stN0 (n := H.length + (Y.length + 1 + 1 + 1)) (by simp)]; simp
      have lx : L (H.length + (Y.length + 1 + 1 + 1)) = true := hL _
      repeat' (first | (simp only [zmPack, zfree, owners, Nat.reduceLT, List.filter_cons, List.filter_nil, List.contains_cons, List.contains_nil, Nat.reduceBEq, Bool.or_false, Bool.or_true, Bool.false_or, Bool.true_or, BEq.rfl, chunk, setAt, List.lookup_cons, List.lookup_nil, ZV.val.injEq, ZV.ptr.injEq, ZV.own.injEq, ZV.fz.injEq, ZV.func.injEq, ZV.tuple.injEq, ZV.agg.injEq, ZB.box.injEq, ZB.grow.injEq, Bool.not_eq_false', Prod.mk.injEq, and_assoc, decide_false, decide_true, Bool.not_false, Bool.not_true, Bool.true_eq_false, Bool.false_eq_true, exists_false, Bool.not_eq_false, Bool.not_not, Value.bool.injEq, Value.int.injEq, Option.some.injEq, exists_eq_left', exists_eq_left, exists_and_left, exists_and_right, and_true, true_and, decide_eq_true_eq, decide_eq_false_iff_not, if_true, if_false, Bool.not_eq_true', beq_true, beq_false, ne_eq, not_true_eq_false, not_false_eq_true, reduceCtorEq, List.getD_cons_zero, List.getD_cons_succ, List.getD_nil, List.map_cons, List.map_nil, List.append_nil, Nat.reduceEqDiff, reduceIte, ite_true, ite_false, or_true, true_or, or_false, false_or, true_imp_iff, false_imp_iff, implies_true, imp_false, and_self, imp_self, and_false, false_and, forall_const, take_map_all, Nat.le_refl, Nat.reduceMul, Nat.reduceSub, List.length_cons, List.length_nil, List.length_map, List.length_set, List.all_cons, List.all_nil, Bool.and_self, Option.map_none, Option.map_some, List.set_cons_zero, List.set_cons_succ, Nat.lt_add_one, List.append_assoc, List.cons_append, List.nil_append, List.append_nil, List.length_append, List.take_zero, List.take_succ_cons, List.take_nil, List.drop_zero, List.drop_succ_cons, List.drop_nil, List.getElem?_cons_zero, List.getElem?_cons_succ, List.getElem?_map, Nat.reduceAdd, Nat.reduceLeDiff, Nat.add_eq_zero_iff, and_self, Nat.zero_add, Nat.add_zero, Nat.mul_one, Nat.one_mul, List.flatten_cons, List.flatten_nil, hx, c0, s0, lx, *]) | (simp only [zgoO, zgoG, zO_nil, zthen_normal, zgoC]) | (with_reducible apply And.intro) | (with_reducible intro _))
      refine told_z (l := [m2]) (by simp) (fun h1 => ?_) (fun h1 => ?_)
      · have fin := fun X => FF0.out X (by rw [if_neg (by simp), if_pos (.inl h1)]; simp)
        clear h1
        rw [HZ.out]
        repeat' (first | (simp only [zmPack, zfree, owners, Nat.reduceLT, List.filter_cons, List.filter_nil, List.contains_cons, List.contains_nil, Nat.reduceBEq, Bool.or_false, Bool.or_true, Bool.false_or, Bool.true_or, BEq.rfl, chunk, setAt, List.lookup_cons, List.lookup_nil, ZV.val.injEq, ZV.ptr.injEq, ZV.own.injEq, ZV.fz.injEq, ZV.func.injEq, ZV.tuple.injEq, ZV.agg.injEq, ZB.box.injEq, ZB.grow.injEq, Bool.not_eq_false', Prod.mk.injEq, and_assoc, decide_false, decide_true, Bool.not_false, Bool.not_true, Bool.true_eq_false, Bool.false_eq_true, exists_false, Bool.not_eq_false, Bool.not_not, Value.bool.injEq, Value.int.injEq, Option.some.injEq, exists_eq_left', exists_eq_left, exists_and_left, exists_and_right, and_true, true_and, decide_eq_true_eq, decide_eq_false_iff_not, if_true, if_false, Bool.not_eq_true', beq_true, beq_false, ne_eq, not_true_eq_false, not_false_eq_true, reduceCtorEq, List.getD_cons_zero, List.getD_cons_succ, List.getD_nil, List.map_cons, List.map_nil, List.append_nil, Nat.reduceEqDiff, reduceIte, ite_true, ite_false, or_true, true_or, or_false, false_or, true_imp_iff, false_imp_iff, implies_true, imp_false, and_self, imp_self, and_false, false_and, forall_const, take_map_all, Nat.le_refl, Nat.reduceMul, Nat.reduceSub, List.length_cons, List.length_nil, List.length_map, List.length_set, List.all_cons, List.all_nil, Bool.and_self, Option.map_none, Option.map_some, List.set_cons_zero, List.set_cons_succ, Nat.lt_add_one, List.append_assoc, List.cons_append, List.nil_append, List.append_nil, List.length_append, List.take_zero, List.take_succ_cons, List.take_nil, List.drop_zero, List.drop_succ_cons, List.drop_nil, List.getElem?_cons_zero, List.getElem?_cons_succ, List.getElem?_map, Nat.reduceAdd, Nat.reduceLeDiff, Nat.add_eq_zero_iff, and_self, Nat.zero_add, Nat.add_zero, Nat.mul_one, Nat.one_mul, List.flatten_cons, List.flatten_nil, c0, s0, g0, g1, g2, t2, L2, *]) | (simp only [zgoO, zgoG, zO_nil, zthen_normal, zgoC]) | (with_reducible apply And.intro) | (with_reducible intro _))
      · have fin := fun X => FF0.out X (by rw [if_neg (by simp), if_pos (.inr (by simp; omega))]; simp)
        rw [toldL_one h1, HF.out, HZ.out]
        clear h1
        by_cases c1 : m1 < 0
        · repeat' (first | (simp only [zmPack, zfree, owners, Nat.reduceLT, List.filter_cons, List.filter_nil, List.contains_cons, List.contains_nil, Nat.reduceBEq, Bool.or_false, Bool.or_true, Bool.false_or, Bool.true_or, BEq.rfl, chunk, setAt, List.lookup_cons, List.lookup_nil, ZV.val.injEq, ZV.ptr.injEq, ZV.own.injEq, ZV.fz.injEq, ZV.func.injEq, ZV.tuple.injEq, ZV.agg.injEq, ZB.box.injEq, ZB.grow.injEq, Bool.not_eq_false', Prod.mk.injEq, and_assoc, decide_false, decide_true, Bool.not_false, Bool.not_true, Bool.true_eq_false, Bool.false_eq_true, exists_false, Bool.not_eq_false, Bool.not_not, Value.bool.injEq, Value.int.injEq, Option.some.injEq, exists_eq_left', exists_eq_left, exists_and_left, exists_and_right, and_true, true_and, decide_eq_true_eq, decide_eq_false_iff_not, if_true, if_false, Bool.not_eq_true', beq_true, beq_false, ne_eq, not_true_eq_false, not_false_eq_true, reduceCtorEq, List.getD_cons_zero, List.getD_cons_succ, List.getD_nil, List.map_cons, List.map_nil, List.append_nil, Nat.reduceEqDiff, reduceIte, ite_true, ite_false, or_true, true_or, or_false, false_or, true_imp_iff, false_imp_iff, implies_true, imp_false, and_self, imp_self, and_false, false_and, forall_const, take_map_all, Nat.le_refl, Nat.reduceMul, Nat.reduceSub, List.length_cons, List.length_nil, List.length_map, List.length_set, List.all_cons, List.all_nil, Bool.and_self, Option.map_none, Option.map_some, List.set_cons_zero, List.set_cons_succ, Nat.lt_add_one, List.append_assoc, List.cons_append, List.nil_append, List.append_nil, List.length_append, List.take_zero, List.take_succ_cons, List.take_nil, List.drop_zero, List.drop_succ_cons, List.drop_nil, List.getElem?_cons_zero, List.getElem?_cons_succ, List.getElem?_map, Nat.reduceAdd, Nat.reduceLeDiff, Nat.add_eq_zero_iff, and_self, Nat.zero_add, Nat.add_zero, Nat.mul_one, Nat.one_mul, List.flatten_cons, List.flatten_nil, c0, s0, c1, g0, g1, g2, t2, L2, *]) | (simp only [zgoO, zgoG, zO_nil, zthen_normal, zgoC]) | (with_reducible apply And.intro) | (with_reducible intro _))
        · have c2 : (0 : Int) ≤ m1 := by omega
          have c3 : ((0 : Nat) : Int) ≤ m1 := by omega
          repeat' (first | (simp only [zmPack, zfree, owners, Nat.reduceLT, List.filter_cons, List.filter_nil, List.contains_cons, List.contains_nil, Nat.reduceBEq, Bool.or_false, Bool.or_true, Bool.false_or, Bool.true_or, BEq.rfl, chunk, setAt, List.lookup_cons, List.lookup_nil, ZV.val.injEq, ZV.ptr.injEq, ZV.own.injEq, ZV.fz.injEq, ZV.func.injEq, ZV.tuple.injEq, ZV.agg.injEq, ZB.box.injEq, ZB.grow.injEq, Bool.not_eq_false', Prod.mk.injEq, and_assoc, decide_false, decide_true, Bool.not_false, Bool.not_true, Bool.true_eq_false, Bool.false_eq_true, exists_false, Bool.not_eq_false, Bool.not_not, Value.bool.injEq, Value.int.injEq, Option.some.injEq, exists_eq_left', exists_eq_left, exists_and_left, exists_and_right, and_true, true_and, decide_eq_true_eq, decide_eq_false_iff_not, if_true, if_false, Bool.not_eq_true', beq_true, beq_false, ne_eq, not_true_eq_false, not_false_eq_true, reduceCtorEq, List.getD_cons_zero, List.getD_cons_succ, List.getD_nil, List.map_cons, List.map_nil, List.append_nil, Nat.reduceEqDiff, reduceIte, ite_true, ite_false, or_true, true_or, or_false, false_or, true_imp_iff, false_imp_iff, implies_true, imp_false, and_self, imp_self, and_false, false_and, forall_const, take_map_all, Nat.le_refl, Nat.reduceMul, Nat.reduceSub, List.length_cons, List.length_nil, List.length_map, List.length_set, List.all_cons, List.all_nil, Bool.and_self, Option.map_none, Option.map_some, List.set_cons_zero, List.set_cons_succ, Nat.lt_add_one, List.append_assoc, List.cons_append, List.nil_append, List.append_nil, List.length_append, List.take_zero, List.take_succ_cons, List.take_nil, List.drop_zero, List.drop_succ_cons, List.drop_nil, List.getElem?_cons_zero, List.getElem?_cons_succ, List.getElem?_map, Nat.reduceAdd, Nat.reduceLeDiff, Nat.add_eq_zero_iff, and_self, Nat.zero_add, Nat.add_zero, Nat.mul_one, Nat.one_mul, List.flatten_cons, List.flatten_nil, c0, s0, c1, c2, c3, g0, g1, g2, t2, L2, *]) | (simp only [zgoO, zgoG, zO_nil, zthen_normal, zgoC]) | (with_reducible apply And.intro) | (with_reducible intro _))
    · rintro s' h' ⟨hok, Y, rfl⟩ ⟨f2, f3, f4, f6, f21, -⟩
      rw [List.take_of_length_le (Nat.le_refl _)] at hok
      have hk1 := HK1.out (by rw [hok])
      unfold frOut at hk1
      rw [hok] at hk1
      have fin : ∀ Y, Fin H (.tuple [.agg [Z64 a1, Z64 p1, Z64 a3, Z64 a4, Z64 a5, Z64 a6, .fz 2 false [], .fz 2 false (tr.map eP)], Z64 0]) (H ++ Y) K := fun Y => Fin.truncT (Mods.ext H _) rfl (by rw [List.take_left]; exact hk1)
      clear hok hk1
      rw [HF.out, HX.out, HZ.out]
      repeat' (first | (simp only [zmPack, zfree, owners, Nat.reduceLT, List.filter_cons, List.filter_nil, List.contains_cons, List.contains_nil, Nat.reduceBEq, Bool.or_false, Bool.or_true, Bool.false_or, Bool.true_or, BEq.rfl, chunk, setAt, List.lookup_cons, List.lookup_nil, ZV.val.injEq, ZV.ptr.injEq, ZV.own.injEq, ZV.fz.injEq, ZV.func.injEq, ZV.tuple.injEq, ZV.agg.injEq, ZB.box.injEq, ZB.grow.injEq, Bool.not_eq_false', Prod.mk.injEq, and_assoc, decide_false, decide_true, Bool.not_false, Bool.not_true, Bool.true_eq_false, Bool.false_eq_true, exists_false, Bool.not_eq_false, Bool.not_not, Value.bool.injEq, Value.int.injEq, Option.some.injEq, exists_eq_left', exists_eq_left, exists_and_left, exists_and_right, and_true, true_and, decide_eq_true_eq, decide_eq_false_iff_not, if_true, if_false, Bool.not_eq_true', beq_true, beq_false, ne_eq, not_true_eq_false, not_false_eq_true, reduceCtorEq, List.getD_cons_zero, List.getD_cons_succ, List.getD_nil, List.map_cons, List.map_nil, List.append_nil, Nat.reduceEqDiff, reduceIte, ite_true, ite_false, or_true, true_or, or_false, false_or, true_imp_iff, false_imp_iff, implies_true, imp_false, and_self, imp_self, and_false, false_and, forall_const, take_map_all, Nat.le_refl, Nat.reduceMul, Nat.reduceSub, List.length_cons, List.length_nil, List.length_map, List.length_set, List.all_cons, List.all_nil, Bool.and_self, Option.map_none, Option.map_some, List.set_cons_zero, List.set_cons_succ, Nat.lt_add_one, List.append_assoc, List.cons_append, List.nil_append, List.append_nil, List.length_append, List.take_zero, List.take_succ_cons, List.take_nil, List.drop_zero, List.drop_succ_cons, List.drop_nil, List.getElem?_cons_zero, List.getElem?_cons_succ, List.getElem?_map, Nat.reduceAdd, Nat.reduceLeDiff, Nat.add_eq_zero_iff, and_self, Nat.zero_add, Nat.add_zero, Nat.mul_one, Nat.one_mul, List.flatten_cons, List.flatten_nil, g0, g1, g2, t0, t2, L0, L2, *]) | (simp only [zgoO, zgoG, zO_nil, zthen_normal, zgoC]) | (with_reducible apply And.intro) | (with_reducible intro _))
  · refine clval_n (by simpa using hle) (by rw [List.length_map]; exact hs1) ?_
    rw [List.length_map]
    have HLE := Lib.hid hle
    clear hle
    repeat' (first | (simp only [zmPack, zfree, owners, Nat.reduceLT, List.filter_cons, List.filter_nil, List.contains_cons, List.contains_nil, Nat.reduceBEq, Bool.or_false, Bool.or_true, Bool.false_or, Bool.true_or, BEq.rfl, chunk, setAt, List.lookup_cons, List.lookup_nil, ZV.val.injEq, ZV.ptr.injEq, ZV.own.injEq, ZV.fz.injEq, ZV.func.injEq, ZV.tuple.injEq, ZV.agg.injEq, ZB.box.injEq, ZB.grow.injEq, Bool.not_eq_false', Prod.mk.injEq, and_assoc, decide_false, decide_true, Bool.not_false, Bool.not_true, Bool.true_eq_false, Bool.false_eq_true, exists_false, Bool.not_eq_false, Bool.not_not, Value.bool.injEq, Value.int.injEq, Option.some.injEq, exists_eq_left', exists_eq_left, exists_and_left, exists_and_right, and_true, true_and, decide_eq_true_eq, decide_eq_false_iff_not, if_true, if_false, Bool.not_eq_true', beq_true, beq_false, ne_eq, not_true_eq_false, not_false_eq_true, reduceCtorEq, List.getD_cons_zero, List.getD_cons_succ, List.getD_nil, List.map_cons, List.map_nil, List.append_nil, Nat.reduceEqDiff, reduceIte, ite_true, ite_false, or_true, true_or, or_false, false_or, true_imp_iff, false_imp_iff, implies_true, imp_false, and_self, imp_self, and_false, false_and, forall_const, take_map_all, Nat.le_refl, Nat.reduceMul, Nat.reduceSub, List.length_cons, List.length_nil, List.length_map, List.length_set, List.all_cons, List.all_nil, Bool.and_self, Option.map_none, Option.map_some, List.set_cons_zero, List.set_cons_succ, Nat.lt_add_one, List.append_assoc, List.cons_append, List.nil_append, List.append_nil, List.length_append, List.take_zero, List.take_succ_cons, List.take_nil, List.drop_zero, List.drop_succ_cons, List.drop_nil, List.getElem?_cons_zero, List.getElem?_cons_succ, List.getElem?_map, Nat.reduceAdd, Nat.reduceLeDiff, Nat.add_eq_zero_iff, and_self, Nat.zero_add, Nat.add_zero, Nat.mul_one, Nat.one_mul, List.flatten_cons, List.flatten_nil, hlt, hlt4, *]) | (simp only [zgoO, zgoG, zO_nil, zthen_normal, zgoC]) | (with_reducible apply And.intro) | (with_reducible intro _))
    refine cltry_f pureP (by rw [List.length_map]; exact hs2) ?_
    clear hs2
    repeat' (first | (simp only [zmPack, zfree, owners, Nat.reduceLT, List.filter_cons, List.filter_nil, List.contains_cons, List.contains_nil, Nat.reduceBEq, Bool.or_false, Bool.or_true, Bool.false_or, Bool.true_or, BEq.rfl, chunk, setAt, List.lookup_cons, List.lookup_nil, ZV.val.injEq, ZV.ptr.injEq, ZV.own.injEq, ZV.fz.injEq, ZV.func.injEq, ZV.tuple.injEq, ZV.agg.injEq, ZB.box.injEq, ZB.grow.injEq, Bool.not_eq_false', Prod.mk.injEq, and_assoc, decide_false, decide_true, Bool.not_false, Bool.not_true, Bool.true_eq_false, Bool.false_eq_true, exists_false, Bool.not_eq_false, Bool.not_not, Value.bool.injEq, Value.int.injEq, Option.some.injEq, exists_eq_left', exists_eq_left, exists_and_left, exists_and_right, and_true, true_and, decide_eq_true_eq, decide_eq_false_iff_not, if_true, if_false, Bool.not_eq_true', beq_true, beq_false, ne_eq, not_true_eq_false, not_false_eq_true, reduceCtorEq, List.getD_cons_zero, List.getD_cons_succ, List.getD_nil, List.map_cons, List.map_nil, List.append_nil, Nat.reduceEqDiff, reduceIte, ite_true, ite_false, or_true, true_or, or_false, false_or, true_imp_iff, false_imp_iff, implies_true, imp_false, and_self, imp_self, and_false, false_and, forall_const, take_map_all, Nat.le_refl, Nat.reduceMul, Nat.reduceSub, List.length_cons, List.length_nil, List.length_map, List.length_set, List.all_cons, List.all_nil, Bool.and_self, Option.map_none, Option.map_some, List.set_cons_zero, List.set_cons_succ, Nat.lt_add_one, List.append_assoc, List.cons_append, List.nil_append, List.append_nil, List.length_append, List.take_zero, List.take_succ_cons, List.take_nil, List.drop_zero, List.drop_succ_cons, List.drop_nil, List.getElem?_cons_zero, List.getElem?_cons_succ, List.getElem?_map, Nat.reduceAdd, Nat.reduceLeDiff, Nat.add_eq_zero_iff, and_self, Nat.zero_add, Nat.add_zero, Nat.mul_one, Nat.one_mul, List.flatten_cons, List.flatten_nil, hlt, hlt4, L0, *]) | (simp only [zgoO, zgoG, zO_nil, zthen_normal, zgoC]) | (with_reducible apply And.intro) | (with_reducible intro _))
    rw [← hX0, ← hZ0]
    have HX := Lib.hid hX0
    have HZ := Lib.hid hZ0
    clear hX0 hZ0 hlt hlt4
    obtain ⟨F, hF⟩ : ∃ F, F = ZB.box [Z64 a1, Z64 a2, Z64 a3, Z64 a4, Z64 a5, Z64 a6, .own (H.length + 3) 0 0 rg.length false, .fz 2 false (tr.map eP)] := ⟨_, rfl⟩
    rw [← hF]
    have HF := Lib.hid hF
    clear hF
    have g0 : ∀ A Y, (H ++ (A :: Y))[H.length]? = some A := fun A Y => atN0 rfl A Y
    have g1 : ∀ A B Y, (H ++ (A :: B :: Y))[H.length + 1]? = some B := fun A B Y => atN1 rfl A B Y
    have g2 : ∀ A B C Y, (H ++ (A :: B :: C :: Y))[H.length + 2]? = some C := fun A B C Y => atN2 rfl A B C Y
    have g3 : ∀ A B C D Y, (H ++ (A :: B :: C :: D :: Y))[H.length + 3]? = some D := fun A B C D Y => atN3 rfl A B C D Y
    have t0 : ∀ A C Y, (H ++ (A :: Y)).set H.length C = H ++ (C :: Y) := fun A C Y => stN0 rfl A C Y
    have t2 : ∀ A B C D Y, (H ++ (A :: B :: C :: Y)).set (H.length + 2) D = H ++ (A :: B :: D :: Y) := fun A B C D Y => stN2 rfl A B C D Y
    have t3 : ∀ A B C D E Y, (H ++ (A :: B :: C :: D :: Y)).set (H.length + 3) E = H ++ (A :: B :: C :: E :: Y) := fun A B C D E Y => stN3 rfl A B C D E Y
    refine zW_forK [(2, .fz 2 ev (vals.map eP)), (3, .ptr H.length 0), (4, .ptr (H.length + 1) 0), (6, .ptr (H.length + 2) 0), (21, .fz 2 es (sets.map eP))] sets.length (fun k s' h' => (frAll vals rg (sets.take k)).1 = 0 ∧ (frAll vals rg (sets.take k)).2.length = rg.length ∧ ∃ Y, h' = H ++ (F :: X0 :: Z0 :: .grow 0 2 ((frAll vals rg (sets.take k)).2.map eP) :: Y)) (by omega) ⟨rfl, rfl, rfl, rfl, rfl, rfl⟩ rfl rfl (by repeat' (first | exact trivial | (refine ⟨rfl, ?_⟩) | (refine ⟨by simp only [zupd_at, Nat.reduceEqDiff, reduceIte]; assumption, ?_⟩))) rfl rfl (by decide) ⟨rfl, rfl, [], rfl⟩ ?_ ?_
    · rintro k s' h' hk ⟨hok, hln, Y, rfl⟩ hi hll ⟨f2, f3, f4, f6, f21, -⟩
      have hx : sets[k]? = some sets[k] := List.getElem?_eq_getElem hk
      have hT := frAll_take (vals := vals) (regs := rg) hk
      have f0 := F0.out (k + 1)
      obtain ⟨m, hm⟩ : ∃ m, m = sets[k] := ⟨_, rfl⟩
      rw [← hm] at hx hT
      obtain ⟨o, ho⟩ : ∃ o, o = frAll vals rg (sets.take k) := ⟨_, rfl⟩
      rw [← ho] at hok hln hT ⊢
      obtain ⟨e, o⟩ := o
      simp only at hok hln ⊢
      subst hok
      obtain ⟨m1, m2⟩ := m
      rw [hT] at f0
      unfold frStep at f0 hT
      simp only at f0 hT
      have FF0 := Lib.hid f0
      have HT := Lib.hid hT
      clear hT hm ho f0
      have c0 : ∀ (A B C D E : ZB), (H ++ (A :: B :: C :: D :: (Y ++ [E])))[H.length + (Y.length + 1 + 1 + 1 + 1)]? = some E := fun A B C D E => by rw [show H ++ (A :: B :: C :: D :: (Y ++ [E])) = (H ++ (A :: B :: C :: D :: Y)) ++ [E] by simp]; exact atN0 (by simp) _ _
      have s0 : ∀ (A B C D E G : ZB), (H ++ (A :: B :: C :: D :: (Y ++ [E]))).set (H.length + (Y.length + 1 + 1 + 1 + 1)) G = H ++ (A :: B :: C :: D :: (Y ++ [G])) := fun A B C D E G => by rw [show H ++ (A :: B :: C :: D :: (Y ++ [E])) = (H ++ (A :: B :: C :: D :: Y)) ++ [E] by simp, stN0 (n := H.length + (Y.length + 1 + 1 + 1 + 1)) (by simp)]; simp
      have lx : L (H.length + (Y.length + 1 + 1 + 1 + 1)) = true := hL _
      have n0 : natZ (.val (.int .i64 0)) = some 0 := rfl
      repeat' (first | (simp only [zmPack, zfree, owners, Nat.reduceLT, List.filter_cons, List.filter_nil, List.contains_cons, List.contains_nil, Nat.reduceBEq, Bool.or_false, Bool.or_true, Bool.false_or, Bool.true_or, BEq.rfl, chunk, setAt, List.lookup_cons, List.lookup_nil, ZV.val.injEq, ZV.ptr.injEq, ZV.own.injEq, ZV.fz.injEq, ZV.func.injEq, ZV.tuple.injEq, ZV.agg.injEq, ZB.box.injEq, ZB.grow.injEq, Bool.not_eq_false', Prod.mk.injEq, and_assoc, decide_false, decide_true, Bool.not_false, Bool.not_true, Bool.true_eq_false, Bool.false_eq_true, exists_false, Bool.not_eq_false, Bool.not_not, Value.bool.injEq, Value.int.injEq, Option.some.injEq, exists_eq_left', exists_eq_left, exists_and_left, exists_and_right, and_true, true_and, decide_eq_true_eq, decide_eq_false_iff_not, if_true, if_false, Bool.not_eq_true', beq_true, beq_false, ne_eq, not_true_eq_false, not_false_eq_true, reduceCtorEq, List.getD_cons_zero, List.getD_cons_succ, List.getD_nil, List.map_cons, List.map_nil, List.append_nil, Nat.reduceEqDiff, reduceIte, ite_true, ite_false, or_true, true_or, or_false, false_or, true_imp_iff, false_imp_iff, implies_true, imp_false, and_self, imp_self, and_false, false_and, forall_const, take_map_all, Nat.le_refl, Nat.reduceMul, Nat.reduceSub, List.length_cons, List.length_nil, List.length_map, List.length_set, List.all_cons, List.all_nil, Bool.and_self, Option.map_none, Option.map_some, List.set_cons_zero, List.set_cons_succ, Nat.lt_add_one, List.append_assoc, List.cons_append, List.nil_append, List.append_nil, List.length_append, List.take_zero, List.take_succ_cons, List.take_nil, List.drop_zero, List.drop_succ_cons, List.drop_nil, List.getElem?_cons_zero, List.getElem?_cons_succ, List.getElem?_map, Nat.reduceAdd, Nat.reduceLeDiff, Nat.add_eq_zero_iff, and_self, Nat.zero_add, Nat.add_zero, Nat.mul_one, Nat.one_mul, List.flatten_cons, List.flatten_nil, hx, c0, s0, lx, *]) | (simp only [zgoO, zgoG, zO_nil, zthen_normal, zgoC]) | (with_reducible apply And.intro) | (with_reducible intro _))
      refine told_z (l := [m2]) (by simp) (fun h1 => ?_) (fun h1 => ?_)
      · have fin := fun X => FF0.out X (by rw [if_neg (by simp), if_pos (.inl h1)]; simp)
        clear h1
        rw [HZ.out]
        repeat' (first | (simp only [zmPack, zfree, owners, Nat.reduceLT, List.filter_cons, List.filter_nil, List.contains_cons, List.contains_nil, Nat.reduceBEq, Bool.or_false, Bool.or_true, Bool.false_or, Bool.true_or, BEq.rfl, chunk, setAt, List.lookup_cons, List.lookup_nil, ZV.val.injEq, ZV.ptr.injEq, ZV.own.injEq, ZV.fz.injEq, ZV.func.injEq, ZV.tuple.injEq, ZV.agg.injEq, ZB.box.injEq, ZB.grow.injEq, Bool.not_eq_false', Prod.mk.injEq, and_assoc, decide_false, decide_true, Bool.not_false, Bool.not_true, Bool.true_eq_false, Bool.false_eq_true, exists_false, Bool.not_eq_false, Bool.not_not, Value.bool.injEq, Value.int.injEq, Option.some.injEq, exists_eq_left', exists_eq_left, exists_and_left, exists_and_right, and_true, true_and, decide_eq_true_eq, decide_eq_false_iff_not, if_true, if_false, Bool.not_eq_true', beq_true, beq_false, ne_eq, not_true_eq_false, not_false_eq_true, reduceCtorEq, List.getD_cons_zero, List.getD_cons_succ, List.getD_nil, List.map_cons, List.map_nil, List.append_nil, Nat.reduceEqDiff, reduceIte, ite_true, ite_false, or_true, true_or, or_false, false_or, true_imp_iff, false_imp_iff, implies_true, imp_false, and_self, imp_self, and_false, false_and, forall_const, take_map_all, Nat.le_refl, Nat.reduceMul, Nat.reduceSub, List.length_cons, List.length_nil, List.length_map, List.length_set, List.all_cons, List.all_nil, Bool.and_self, Option.map_none, Option.map_some, List.set_cons_zero, List.set_cons_succ, Nat.lt_add_one, List.append_assoc, List.cons_append, List.nil_append, List.append_nil, List.length_append, List.take_zero, List.take_succ_cons, List.take_nil, List.drop_zero, List.drop_succ_cons, List.drop_nil, List.getElem?_cons_zero, List.getElem?_cons_succ, List.getElem?_map, Nat.reduceAdd, Nat.reduceLeDiff, Nat.add_eq_zero_iff, and_self, Nat.zero_add, Nat.add_zero, Nat.mul_one, Nat.one_mul, List.flatten_cons, List.flatten_nil, c0, s0, g0, g1, g2, t2, L2, *]) | (simp only [zgoO, zgoG, zO_nil, zthen_normal, zgoC]) | (with_reducible apply And.intro) | (with_reducible intro _))
      · rw [toldL_one h1]
        have H1 := Lib.hid h1
        obtain ⟨v, hv⟩ : ∃ v, v = vals.getD m2.toNat (0, 0) := ⟨_, rfl⟩
        rw [← hv] at FF0 HT ⊢
        clear hv h1
        obtain ⟨v1, v2⟩ := v
        by_cases c1 : m1 < 0
        · have fin := fun X => FF0.out X (by rw [if_neg (by simp), if_pos (.inr (.inl c1))]; simp)
          rw [HZ.out]
          repeat' (first | (simp only [zmPack, zfree, owners, Nat.reduceLT, List.filter_cons, List.filter_nil, List.contains_cons, List.contains_nil, Nat.reduceBEq, Bool.or_false, Bool.or_true, Bool.false_or, Bool.true_or, BEq.rfl, chunk, setAt, List.lookup_cons, List.lookup_nil, ZV.val.injEq, ZV.ptr.injEq, ZV.own.injEq, ZV.fz.injEq, ZV.func.injEq, ZV.tuple.injEq, ZV.agg.injEq, ZB.box.injEq, ZB.grow.injEq, Bool.not_eq_false', Prod.mk.injEq, and_assoc, decide_false, decide_true, Bool.not_false, Bool.not_true, Bool.true_eq_false, Bool.false_eq_true, exists_false, Bool.not_eq_false, Bool.not_not, Value.bool.injEq, Value.int.injEq, Option.some.injEq, exists_eq_left', exists_eq_left, exists_and_left, exists_and_right, and_true, true_and, decide_eq_true_eq, decide_eq_false_iff_not, if_true, if_false, Bool.not_eq_true', beq_true, beq_false, ne_eq, not_true_eq_false, not_false_eq_true, reduceCtorEq, List.getD_cons_zero, List.getD_cons_succ, List.getD_nil, List.map_cons, List.map_nil, List.append_nil, Nat.reduceEqDiff, reduceIte, ite_true, ite_false, or_true, true_or, or_false, false_or, true_imp_iff, false_imp_iff, implies_true, imp_false, and_self, imp_self, and_false, false_and, forall_const, take_map_all, Nat.le_refl, Nat.reduceMul, Nat.reduceSub, List.length_cons, List.length_nil, List.length_map, List.length_set, List.all_cons, List.all_nil, Bool.and_self, Option.map_none, Option.map_some, List.set_cons_zero, List.set_cons_succ, Nat.lt_add_one, List.append_assoc, List.cons_append, List.nil_append, List.append_nil, List.length_append, List.take_zero, List.take_succ_cons, List.take_nil, List.drop_zero, List.drop_succ_cons, List.drop_nil, List.getElem?_cons_zero, List.getElem?_cons_succ, List.getElem?_map, Nat.reduceAdd, Nat.reduceLeDiff, Nat.add_eq_zero_iff, and_self, Nat.zero_add, Nat.add_zero, Nat.mul_one, Nat.one_mul, List.flatten_cons, List.flatten_nil, c0, s0, c1, g0, g1, g2, t2, L2, *]) | (simp only [zgoO, zgoG, zO_nil, zthen_normal, zgoC]) | (with_reducible apply And.intro) | (with_reducible intro _))
        · by_cases c2 : (rg.length : Int) ≤ m1
          · have fin := fun X => FF0.out X (by rw [if_neg (by simp), if_pos (.inr (.inr (by omega)))]; simp)
            rw [HF.out, HZ.out]
            repeat' (first | (simp only [zmPack, zfree, owners, Nat.reduceLT, List.filter_cons, List.filter_nil, List.contains_cons, List.contains_nil, Nat.reduceBEq, Bool.or_false, Bool.or_true, Bool.false_or, Bool.true_or, BEq.rfl, chunk, setAt, List.lookup_cons, List.lookup_nil, ZV.val.injEq, ZV.ptr.injEq, ZV.own.injEq, ZV.fz.injEq, ZV.func.injEq, ZV.tuple.injEq, ZV.agg.injEq, ZB.box.injEq, ZB.grow.injEq, Bool.not_eq_false', Prod.mk.injEq, and_assoc, decide_false, decide_true, Bool.not_false, Bool.not_true, Bool.true_eq_false, Bool.false_eq_true, exists_false, Bool.not_eq_false, Bool.not_not, Value.bool.injEq, Value.int.injEq, Option.some.injEq, exists_eq_left', exists_eq_left, exists_and_left, exists_and_right, and_true, true_and, decide_eq_true_eq, decide_eq_false_iff_not, if_true, if_false, Bool.not_eq_true', beq_true, beq_false, ne_eq, not_true_eq_false, not_false_eq_true, reduceCtorEq, List.getD_cons_zero, List.getD_cons_succ, List.getD_nil, List.map_cons, List.map_nil, List.append_nil, Nat.reduceEqDiff, reduceIte, ite_true, ite_false, or_true, true_or, or_false, false_or, true_imp_iff, false_imp_iff, implies_true, imp_false, and_self, imp_self, and_false, false_and, forall_const, take_map_all, Nat.le_refl, Nat.reduceMul, Nat.reduceSub, List.length_cons, List.length_nil, List.length_map, List.length_set, List.all_cons, List.all_nil, Bool.and_self, Option.map_none, Option.map_some, List.set_cons_zero, List.set_cons_succ, Nat.lt_add_one, List.append_assoc, List.cons_append, List.nil_append, List.append_nil, List.length_append, List.take_zero, List.take_succ_cons, List.take_nil, List.drop_zero, List.drop_succ_cons, List.drop_nil, List.getElem?_cons_zero, List.getElem?_cons_succ, List.getElem?_map, Nat.reduceAdd, Nat.reduceLeDiff, Nat.add_eq_zero_iff, and_self, Nat.zero_add, Nat.add_zero, Nat.mul_one, Nat.one_mul, List.flatten_cons, List.flatten_nil, c0, s0, c1, c2, g0, g1, g2, t2, L2, *]) | (simp only [zgoO, zgoG, zO_nil, zthen_normal, zgoC]) | (with_reducible apply And.intro) | (with_reducible intro _))
          · obtain ⟨j, rfl⟩ : ∃ j : Nat, m1 = j := ⟨m1.toNat, by omega⟩
            have hj : j < o.length := by omega
            have hjl : j < rg.length := by omega
            have hy : o[j]? = some o[j] := List.getElem?_eq_getElem hj
            have hset : (o.map eP).set j [Z64 v1, Z64 v2] = (o.set j (v1, v2)).map eP := by rw [List.map_set]
            obtain ⟨q, hq⟩ : ∃ q, q = o[j] := ⟨_, rfl⟩
            rw [← hq] at hy
            obtain ⟨q1, q2⟩ := q
            have hlo : rg.length ≤ o.length := by omega
            have HN : Hid (frAll vals rg (sets.take (k + 1)) = (0, o.set j (v1, v2))) := by
              show _ = _
              rw [HT.out, if_neg (by simp), if_neg (fun h => by rcases h with h | h | h; rw [H1.out] at h; cases h; omega; omega), show ((j : Int)).toNat = j by omega]
            have HLN := Lib.hid hln
            clear hq hln FF0 HT
            rw [HF.out]
            repeat' (first | (simp only [zmPack, zfree, owners, Nat.reduceLT, List.filter_cons, List.filter_nil, List.contains_cons, List.contains_nil, Nat.reduceBEq, Bool.or_false, Bool.or_true, Bool.false_or, Bool.true_or, BEq.rfl, chunk, setAt, List.lookup_cons, List.lookup_nil, ZV.val.injEq, ZV.ptr.injEq, ZV.own.injEq, ZV.fz.injEq, ZV.func.injEq, ZV.tuple.injEq, ZV.agg.injEq, ZB.box.injEq, ZB.grow.injEq, Bool.not_eq_false', Prod.mk.injEq, and_assoc, decide_false, decide_true, Bool.not_false, Bool.not_true, Bool.true_eq_false, Bool.false_eq_true, exists_false, Bool.not_eq_false, Bool.not_not, Value.bool.injEq, Value.int.injEq, Option.some.injEq, exists_eq_left', exists_eq_left, exists_and_left, exists_and_right, and_true, true_and, decide_eq_true_eq, decide_eq_false_iff_not, if_true, if_false, Bool.not_eq_true', beq_true, beq_false, ne_eq, not_true_eq_false, not_false_eq_true, reduceCtorEq, List.getD_cons_zero, List.getD_cons_succ, List.getD_nil, List.map_cons, List.map_nil, List.append_nil, Nat.reduceEqDiff, reduceIte, ite_true, ite_false, or_true, true_or, or_false, false_or, true_imp_iff, false_imp_iff, implies_true, imp_false, and_self, imp_self, and_false, false_and, forall_const, take_map_all, Nat.le_refl, Nat.reduceMul, Nat.reduceSub, List.length_cons, List.length_nil, List.length_map, List.length_set, List.all_cons, List.all_nil, Bool.and_self, Option.map_none, Option.map_some, List.set_cons_zero, List.set_cons_succ, Nat.lt_add_one, List.append_assoc, List.cons_append, List.nil_append, List.append_nil, List.length_append, List.take_zero, List.take_succ_cons, List.take_nil, List.drop_zero, List.drop_succ_cons, List.drop_nil, List.getElem?_cons_zero, List.getElem?_cons_succ, List.getElem?_map, Nat.reduceAdd, Nat.reduceLeDiff, Nat.add_eq_zero_iff, and_self, Nat.zero_add, Nat.add_zero, Nat.mul_one, Nat.one_mul, List.flatten_cons, List.flatten_nil, c0, s0, c1, c2, g0, g1, g2, g3, t3, L3, hy, hset, hlo, n0, List.getElem?_cons_zero, hj, *]) | (simp only [zgoO, zgoG, zO_nil, zthen_normal, zgoC]) | (with_reducible apply And.intro) | (with_reducible intro _))
            · rw [HN.out]
            · rw [HN.out]; simp [HLN.out]
            · exact ⟨_, by rw [HN.out]⟩
    · rintro s' h' ⟨hok, hln, Y, rfl⟩ ⟨f2, f3, f4, f6, f21, -⟩
      rw [List.take_of_length_le (Nat.le_refl _)] at hok hln ⊢
      have fin : ∀ A B C Y, Fin H (.tuple [.agg [Z64 a1, Z64 p1, Z64 a3, Z64 a4, Z64 a5, Z64 a6, .own (H.length + 3) 0 0 rg.length false, .fz 2 false (tr.map eP)], Z64 0]) (H ++ (A :: B :: C :: .grow 0 2 ((frAll vals rg sets).2.map eP) :: Y)) K := fun A B C Y => by
        refine Fin.frzTA (j := 0) (c := 6) (k := 2) (rows := (frAll vals rg sets).2.map eP) rfl rfl (atN3 rfl _ _ _ _ _) (by rw [List.length_map]; omega) pureP ?_
        rw [stN3 rfl, List.drop_zero, ← hln, take_map_all]
        exact Fin.truncT (Mods.ext H _) rfl (by rw [List.take_left]; exact HK1.out hok)
      clear hok hln
      rw [HF.out, HX.out, HZ.out]
      repeat' (first | (simp only [zmPack, zfree, owners, Nat.reduceLT, List.filter_cons, List.filter_nil, List.contains_cons, List.contains_nil, Nat.reduceBEq, Bool.or_false, Bool.or_true, Bool.false_or, Bool.true_or, BEq.rfl, chunk, setAt, List.lookup_cons, List.lookup_nil, ZV.val.injEq, ZV.ptr.injEq, ZV.own.injEq, ZV.fz.injEq, ZV.func.injEq, ZV.tuple.injEq, ZV.agg.injEq, ZB.box.injEq, ZB.grow.injEq, Bool.not_eq_false', Prod.mk.injEq, and_assoc, decide_false, decide_true, Bool.not_false, Bool.not_true, Bool.true_eq_false, Bool.false_eq_true, exists_false, Bool.not_eq_false, Bool.not_not, Value.bool.injEq, Value.int.injEq, Option.some.injEq, exists_eq_left', exists_eq_left, exists_and_left, exists_and_right, and_true, true_and, decide_eq_true_eq, decide_eq_false_iff_not, if_true, if_false, Bool.not_eq_true', beq_true, beq_false, ne_eq, not_true_eq_false, not_false_eq_true, reduceCtorEq, List.getD_cons_zero, List.getD_cons_succ, List.getD_nil, List.map_cons, List.map_nil, List.append_nil, Nat.reduceEqDiff, reduceIte, ite_true, ite_false, or_true, true_or, or_false, false_or, true_imp_iff, false_imp_iff, implies_true, imp_false, and_self, imp_self, and_false, false_and, forall_const, take_map_all, Nat.le_refl, Nat.reduceMul, Nat.reduceSub, List.length_cons, List.length_nil, List.length_map, List.length_set, List.all_cons, List.all_nil, Bool.and_self, Option.map_none, Option.map_some, List.set_cons_zero, List.set_cons_succ, Nat.lt_add_one, List.append_assoc, List.cons_append, List.nil_append, List.append_nil, List.length_append, List.take_zero, List.take_succ_cons, List.take_nil, List.drop_zero, List.drop_succ_cons, List.drop_nil, List.getElem?_cons_zero, List.getElem?_cons_succ, List.getElem?_map, Nat.reduceAdd, Nat.reduceLeDiff, Nat.add_eq_zero_iff, and_self, Nat.zero_add, Nat.add_zero, Nat.mul_one, Nat.one_mul, List.flatten_cons, List.flatten_nil, g0, g1, g2, t0, t2, L0, L2, *]) | (simp only [zgoO, zgoG, zO_nil, zthen_normal, zgoC]) | (with_reducible apply And.intro) | (with_reducible intro _))
end Go.Proofs.Ytmecaddjeljliaa

namespace Go.Proofs.Ytmecaddjeljliaa
open Go Go.RowKit
set_option linter.unusedVariables false
set_option linter.unusedSimpArgs false
abbrev Th := List Fr × Int × Int × (Int × Int)
abbrev eT (t : Th) : List ZV := [.fz 8 false (t.1.map eF), Z64 t.2.1, Z64 t.2.2.1, Z64 t.2.2.2.1, Z64 t.2.2.2.2]
abbrev En := Int × (Int × Int)
abbrev eN (n : En) : List ZV := [Z64 n.1, Z64 n.2.1, Z64 n.2.2]
abbrev eS (s : ByteArray) : List ZV := [.val (.string s)]
abbrev St := List Cl × List (Int × Int) × List ByteArray × List Th × List En × List (Int × Int) × Int × Int
abbrev eSt (s : St) : List ZV := [.fz 4 false (s.1.map eC), .fz 2 false (s.2.1.map eP), .fz 1 false (s.2.2.1.map eS), .fz 5 false (s.2.2.2.1.map eT), .fz 3 false (s.2.2.2.2.1.map eN), .fz 2 false (s.2.2.2.2.2.1.map eP), Z64 s.2.2.2.2.2.2.1, Z64 s.2.2.2.2.2.2.2]
abbrev zSt : List ZV := [.nil, .nil, .nil, .nil, .nil, .nil, Z64 0, Z64 0]
theorem pureT {l : List Th} : (l.map eT).flatten.all pureZ = true := pure_mapI fun _ => rfl
theorem pureN {l : List En} : (l.map eN).flatten.all pureZ = true := pure_mapI fun _ => rfl
theorem pureS {l : List ByteArray} : (l.map eS).flatten.all pureZ = true := pure_mapI fun _ => rfl
/-- Lists that can be made again. -/
structure stS (s : St) : Prop where
  c1 : s.1.length * 64 ≤ reach
  c2 : ∀ c ∈ s.1, clS c
  sh : s.2.1.length * 16 ≤ reach
  tx : s.2.2.1.length * 16 ≤ reach
  t1 : s.2.2.2.1.length * 56 ≤ reach
  t2 : ∀ t ∈ s.2.2.2.1, t.1.length * 96 ≤ reach ∧ ∀ f ∈ t.1, frS f
  en : s.2.2.2.2.1.length * 24 ≤ reach
  sa : s.2.2.2.2.2.1.length * 16 ≤ reach
/-- The threads behind the exit. -/
def outTh (ths : List Th) (t : Nat) (f' : Fr) : List Th := ths.set t (((ths.getD t ([], 0, 0, 0, 0)).1.set ((ths.getD t ([], 0, 0, 0, 0)).1.length - 1) f'), (ths.getD t ([], 0, 0, 0, 0)).2)
def lastF (ths : List Th) (t : Nat) : Fr := (ths.getD t ([], 0, 0, 0, 0)).1.getD ((ths.getD t ([], 0, 0, 0, 0)).1.length - 1) (0, 0, 0, 0, (0, 0), [], [])
def outSt (s : St) (t : Nat) (p1 p2 : Int) (sets : List (Int × Int)) (ms : List Mk) (vals : List (Int × Int)) : St :=
  ((mkAll vals s.1 ms).2, s.2.1, s.2.2.1, outTh s.2.2.2.1 t (frOut (lastF s.2.2.2.1 t) p1 vals sets), s.2.2.2.2.1, s.2.2.2.2.2.1, s.2.2.2.2.2.2.1, IntKind.i64.wrap (s.2.2.2.2.2.2.2 + p2))
def noTh (ths : List Th) (th : Int) : Prop := th < 0 ∨ (ths.length : Int) ≤ th ∨ (ths.getD th.toNat ([], 0, 0, 0, 0)).1 = []
variable {tb : List (FuncId × Bool)} {L : Nat → Bool} {H : ZH} {K : ZV → ZH → Prop}
/-- The rows of the threads' list while frames are copied: those of thread th are in block j. -/
def ThInv (n th : Nat) (ths : List Th) (t : Th) (k : Nat) (R : List (List ZV)) (Y : ZH) : Prop :=
  (k ≤ th → R = ths.map eT) ∧ (th < k → ∃ j, R = (ths.map eT).set th [.own (n + 4 + j) 0 0 t.1.length false, Z64 t.2.1, Z64 t.2.2.1, Z64 t.2.2.2.1, Z64 t.2.2.2.2] ∧ Y[j]? = some (.grow 0 8 (t.1.map eF)))
set_option maxHeartbeats 8000000 in
theorem out_z {es em ev : Bool} {s : St} {th p1 p2 : Int} {sets vals : List (Int × Int)} {ms : List Mk} (hs : stS s) (hsl : sets.length ≤ 1000000000000000) (hms : ms.length ≤ 1048576) (hmv : ∀ m ∈ ms, m.2.2.2.length ≤ 1048576)
    (hK5 : noTh s.2.2.2.1 th → K (.tuple [.agg zSt, Z64 5]) H)
    (hKE : ¬ noTh s.2.2.2.1 th → ∀ E, E ≠ 0 → (mkAll vals s.1 ms).1 = E → K (.tuple [.agg zSt, Z64 E]) H)
    (hK3 : ¬ noTh s.2.2.2.1 th → (mkAll vals s.1 ms).1 = 0 → (frAll vals (lastF s.2.2.2.1 th.toNat).2.2.2.2.2.1 sets).1 ≠ 0 → K (.tuple [.agg zSt, Z64 3]) H)
    (hK0 : ¬ noTh s.2.2.2.1 th → (mkAll vals s.1 ms).1 = 0 → (frAll vals (lastF s.2.2.2.1 th.toNat).2.2.2.2.2.1 sets).1 = 0 → K (.tuple [.agg (eSt (outSt s th.toNat p1 p2 sets ms vals)), Z64 0]) H) :
    ZC (constX tb) (cFunc Try.prog) 11 [.agg (eSt s), Z64 th, .agg [Z64 p1, Z64 p2, .fz 2 es (sets.map eP), .fz 4 em (ms.map eM)], .fz 2 ev (vals.map eP)] L H K := by
  refine ZC.enterL Gh.no constX_none f_lv_out (by simp) fun hL => ?_
  simp only [c_lv_out]
  obtain ⟨cells, shapes, texts, ths, ends, said, asked, steps⟩ := s
  simp only [eSt] at hK5 hKE hK3 hK0 ⊢
  have F5 : Hid (noTh ths th → ∀ X, Fin H (.tuple [.agg zSt, Z64 5]) (H ++ X) K) := fun h X => Fin.truncT (Mods.ext H X) rfl (by rw [List.take_left]; exact hK5 h)
  have FE : Hid (¬ noTh ths th → ∀ E X, E ≠ 0 → (mkAll vals cells ms).1 = E → Fin H (.tuple [.agg zSt, Z64 E]) (H ++ X) K) := fun h E X hE he => Fin.truncT (Mods.ext H X) rfl (by rw [List.take_left]; exact hKE h E hE he)
  have F3 : Hid (¬ noTh ths th → (mkAll vals cells ms).1 = 0 → (frAll vals (lastF ths th.toNat).2.2.2.2.2.1 sets).1 ≠ 0 → ∀ X, Fin H (.tuple [.agg zSt, Z64 3]) (H ++ X) K) := fun h h1 h2 X => Fin.truncT (Mods.ext H X) rfl (by rw [List.take_left]; exact hK3 h h1 h2)
  have HK0 := Lib.hid hK0
  have HS := Lib.hid hs
  have HMV := Lib.hid hmv
  clear hK5 hKE hK3 hK0 hs hmv
  have L0 : L H.length = true := hL 0
  have L2 : L (H.length + 2) = true := hL 2
  have hlt : H.length < H.length + 3 := by omega
  by_cases c1 : th < 0
  · have fin := F5.out (.inl c1)
    repeat' (first | (simp only [zmPack, zfree, owners, Nat.reduceLT, List.filter_cons, List.filter_nil, List.contains_cons, List.contains_nil, Nat.reduceBEq, Bool.or_false, Bool.or_true, Bool.false_or, Bool.true_or, BEq.rfl, chunk, setAt, List.lookup_cons, List.lookup_nil, ZV.val.injEq, ZV.ptr.injEq, ZV.own.injEq, ZV.fz.injEq, ZV.func.injEq, ZV.tuple.injEq, ZV.agg.injEq, ZB.box.injEq, ZB.grow.injEq, Bool.not_eq_false', Prod.mk.injEq, and_assoc, decide_false, decide_true, Bool.not_false, Bool.not_true, Bool.true_eq_false, Bool.false_eq_true, exists_false, Bool.not_eq_false, Bool.not_not, Value.bool.injEq, Value.int.injEq, Option.some.injEq, exists_eq_left', exists_eq_left, exists_and_left, exists_and_right, and_true, true_and, decide_eq_true_eq, decide_eq_false_iff_not, if_true, if_false, Bool.not_eq_true', beq_true, beq_false, ne_eq, not_true_eq_false, not_false_eq_true, reduceCtorEq, List.getD_cons_zero, List.getD_cons_succ, List.getD_nil, List.map_cons, List.map_nil, List.append_nil, Nat.reduceEqDiff, reduceIte, ite_true, ite_false, or_true, true_or, or_false, false_or, true_imp_iff, false_imp_iff, implies_true, imp_false, and_self, imp_self, and_false, false_and, forall_const, take_map_all, Nat.le_refl, Nat.reduceMul, Nat.reduceSub, List.length_cons, List.length_nil, List.length_map, List.length_set, List.all_cons, List.all_nil, Bool.and_self, Option.map_none, Option.map_some, List.set_cons_zero, List.set_cons_succ, Nat.lt_add_one, List.append_assoc, List.cons_append, List.nil_append, List.append_nil, List.length_append, List.take_zero, List.take_succ_cons, List.take_nil, List.drop_zero, List.drop_succ_cons, List.drop_nil, List.getElem?_cons_zero, List.getElem?_cons_succ, List.getElem?_map, Nat.reduceAdd, Nat.reduceLeDiff, Nat.add_eq_zero_iff, and_self, Nat.zero_add, Nat.add_zero, Nat.mul_one, Nat.one_mul, List.flatten_cons, List.flatten_nil, c1, L2, *]) | (simp only [zgoO, zgoG, zO_nil, zthen_normal, zgoC]) | (with_reducible apply And.intro) | (with_reducible intro _))
  · by_cases c2 : (ths.length : Int) ≤ th
    · have fin := F5.out (.inr (.inl c2))
      repeat' (first | (simp only [zmPack, zfree, owners, Nat.reduceLT, List.filter_cons, List.filter_nil, List.contains_cons, List.contains_nil, Nat.reduceBEq, Bool.or_false, Bool.or_true, Bool.false_or, Bool.true_or, BEq.rfl, chunk, setAt, List.lookup_cons, List.lookup_nil, ZV.val.injEq, ZV.ptr.injEq, ZV.own.injEq, ZV.fz.injEq, ZV.func.injEq, ZV.tuple.injEq, ZV.agg.injEq, ZB.box.injEq, ZB.grow.injEq, Bool.not_eq_false', Prod.mk.injEq, and_assoc, decide_false, decide_true, Bool.not_false, Bool.not_true, Bool.true_eq_false, Bool.false_eq_true, exists_false, Bool.not_eq_false, Bool.not_not, Value.bool.injEq, Value.int.injEq, Option.some.injEq, exists_eq_left', exists_eq_left, exists_and_left, exists_and_right, and_true, true_and, decide_eq_true_eq, decide_eq_false_iff_not, if_true, if_false, Bool.not_eq_true', beq_true, beq_false, ne_eq, not_true_eq_false, not_false_eq_true, reduceCtorEq, List.getD_cons_zero, List.getD_cons_succ, List.getD_nil, List.map_cons, List.map_nil, List.append_nil, Nat.reduceEqDiff, reduceIte, ite_true, ite_false, or_true, true_or, or_false, false_or, true_imp_iff, false_imp_iff, implies_true, imp_false, and_self, imp_self, and_false, false_and, forall_const, take_map_all, Nat.le_refl, Nat.reduceMul, Nat.reduceSub, List.length_cons, List.length_nil, List.length_map, List.length_set, List.all_cons, List.all_nil, Bool.and_self, Option.map_none, Option.map_some, List.set_cons_zero, List.set_cons_succ, Nat.lt_add_one, List.append_assoc, List.cons_append, List.nil_append, List.append_nil, List.length_append, List.take_zero, List.take_succ_cons, List.take_nil, List.drop_zero, List.drop_succ_cons, List.drop_nil, List.getElem?_cons_zero, List.getElem?_cons_succ, List.getElem?_map, Nat.reduceAdd, Nat.reduceLeDiff, Nat.add_eq_zero_iff, and_self, Nat.zero_add, Nat.add_zero, Nat.mul_one, Nat.one_mul, List.flatten_cons, List.flatten_nil, c1, c2, L2, *]) | (simp only [zgoO, zgoG, zO_nil, zthen_normal, zgoC]) | (with_reducible apply And.intro) | (with_reducible intro _))
    · obtain ⟨t, rfl⟩ : ∃ t : Nat, th = t := ⟨th.toNat, by omega⟩
      have ht : t < ths.length := by omega
      have hx : ths[t]? = some ths[t] := List.getElem?_eq_getElem ht
      have hg : ths.getD t ([], 0, 0, 0, 0) = ths[t] := by simp [List.getD, hx]
      have hsz := HS.out.t2 ths[t] (List.getElem_mem ht)
      obtain ⟨q, hq⟩ : ∃ q, q = ths[t] := ⟨_, rfl⟩
      rw [← hq] at hx hg hsz
      obtain ⟨frs, q2, q3, q4, q5⟩ := q
      have HG := Lib.hid hg
      have HZ := Lib.hid hsz
      simp only [show (((t : Nat) : Int)).toNat = t by omega] at F3 HK0
      clear hq hg hsz
      by_cases c3 : frs = []
      · have fin := F5.out (.inr (.inr (by rw [show (((t : Nat) : Int)).toNat = t by omega, HG.out]; exact c3)))
        subst c3
        have d00 : decide (((0 : Nat) : Int) = 0) = true := rfl
        repeat' (first | (simp only [zmPack, zfree, owners, Nat.reduceLT, List.filter_cons, List.filter_nil, List.contains_cons, List.contains_nil, Nat.reduceBEq, Bool.or_false, Bool.or_true, Bool.false_or, Bool.true_or, BEq.rfl, chunk, setAt, List.lookup_cons, List.lookup_nil, ZV.val.injEq, ZV.ptr.injEq, ZV.own.injEq, ZV.fz.injEq, ZV.func.injEq, ZV.tuple.injEq, ZV.agg.injEq, ZB.box.injEq, ZB.grow.injEq, Bool.not_eq_false', Prod.mk.injEq, and_assoc, decide_false, decide_true, Bool.not_false, Bool.not_true, Bool.true_eq_false, Bool.false_eq_true, exists_false, Bool.not_eq_false, Bool.not_not, Value.bool.injEq, Value.int.injEq, Option.some.injEq, exists_eq_left', exists_eq_left, exists_and_left, exists_and_right, and_true, true_and, decide_eq_true_eq, decide_eq_false_iff_not, if_true, if_false, Bool.not_eq_true', beq_true, beq_false, ne_eq, not_true_eq_false, not_false_eq_true, reduceCtorEq, List.getD_cons_zero, List.getD_cons_succ, List.getD_nil, List.map_cons, List.map_nil, List.append_nil, Nat.reduceEqDiff, reduceIte, ite_true, ite_false, or_true, true_or, or_false, false_or, true_imp_iff, false_imp_iff, implies_true, imp_false, and_self, imp_self, and_false, false_and, forall_const, take_map_all, Nat.le_refl, Nat.reduceMul, Nat.reduceSub, List.length_cons, List.length_nil, List.length_map, List.length_set, List.all_cons, List.all_nil, Bool.and_self, Option.map_none, Option.map_some, List.set_cons_zero, List.set_cons_succ, Nat.lt_add_one, List.append_assoc, List.cons_append, List.nil_append, List.append_nil, List.length_append, List.take_zero, List.take_succ_cons, List.take_nil, List.drop_zero, List.drop_succ_cons, List.drop_nil, List.getElem?_cons_zero, List.getElem?_cons_succ, List.getElem?_map, Nat.reduceAdd, Nat.reduceLeDiff, Nat.add_eq_zero_iff, and_self, Nat.zero_add, Nat.add_zero, Nat.mul_one, Nat.one_mul, List.flatten_cons, List.flatten_nil, c1, c2, hx, ht, L2, d00, *]) | (simp only [zgoO, zgoG, zO_nil, zthen_normal, zgoC]) | (with_reducible apply And.intro) | (with_reducible intro _))
      · have hlen : ¬ ((frs.length : Nat) : Int) = 0 := fun h => c3 (List.eq_nil_of_length_eq_zero (by omega))
        have hno : ¬ noTh ths (t : Int) := fun h => by
          rcases h with h | h | h
          · exact c1 h
          · exact c2 h
          · rw [show (((t : Nat) : Int)).toNat = t by omega, HG.out] at h; exact c3 h
        have fe := FE.out hno
        have FE' := Lib.hid fe
        have F3' := Lib.hid (F3.out hno)
        have HK0' := Lib.hid (HK0.out hno)
        have C3 := Lib.hid c3
        clear fe hno F5 FE F3 HK0 c3
        repeat' (first | (simp only [zmPack, zfree, owners, Nat.reduceLT, List.filter_cons, List.filter_nil, List.contains_cons, List.contains_nil, Nat.reduceBEq, Bool.or_false, Bool.or_true, Bool.false_or, Bool.true_or, BEq.rfl, chunk, setAt, List.lookup_cons, List.lookup_nil, ZV.val.injEq, ZV.ptr.injEq, ZV.own.injEq, ZV.fz.injEq, ZV.func.injEq, ZV.tuple.injEq, ZV.agg.injEq, ZB.box.injEq, ZB.grow.injEq, Bool.not_eq_false', Prod.mk.injEq, and_assoc, decide_false, decide_true, Bool.not_false, Bool.not_true, Bool.true_eq_false, Bool.false_eq_true, exists_false, Bool.not_eq_false, Bool.not_not, Value.bool.injEq, Value.int.injEq, Option.some.injEq, exists_eq_left', exists_eq_left, exists_and_left, exists_and_right, and_true, true_and, decide_eq_true_eq, decide_eq_false_iff_not, if_true, if_false, Bool.not_eq_true', beq_true, beq_false, ne_eq, not_true_eq_false, not_false_eq_true, reduceCtorEq, List.getD_cons_zero, List.getD_cons_succ, List.getD_nil, List.map_cons, List.map_nil, List.append_nil, Nat.reduceEqDiff, reduceIte, ite_true, ite_false, or_true, true_or, or_false, false_or, true_imp_iff, false_imp_iff, implies_true, imp_false, and_self, imp_self, and_false, false_and, forall_const, take_map_all, Nat.le_refl, Nat.reduceMul, Nat.reduceSub, List.length_cons, List.length_nil, List.length_map, List.length_set, List.all_cons, List.all_nil, Bool.and_self, Option.map_none, Option.map_some, List.set_cons_zero, List.set_cons_succ, Nat.lt_add_one, List.append_assoc, List.cons_append, List.nil_append, List.append_nil, List.length_append, List.take_zero, List.take_succ_cons, List.take_nil, List.drop_zero, List.drop_succ_cons, List.drop_nil, List.getElem?_cons_zero, List.getElem?_cons_succ, List.getElem?_map, Nat.reduceAdd, Nat.reduceLeDiff, Nat.add_eq_zero_iff, and_self, Nat.zero_add, Nat.add_zero, Nat.mul_one, Nat.one_mul, List.flatten_cons, List.flatten_nil, c1, c2, hx, ht, hlen, *]) | (simp only [zgoO, zgoG, zO_nil, zthen_normal, zgoC]) | (with_reducible apply And.intro) | (with_reducible intro _))
        refine cells_z (l := cells) HS.out.c1 HS.out.c2 hms HMV.out (fun E hE he => ?_) (fun hok => ?_)
        · have fin := fun X => FE'.out E X hE he
          clear he
          repeat' (first | (simp only [zmPack, zfree, owners, Nat.reduceLT, List.filter_cons, List.filter_nil, List.contains_cons, List.contains_nil, Nat.reduceBEq, Bool.or_false, Bool.or_true, Bool.false_or, Bool.true_or, BEq.rfl, chunk, setAt, List.lookup_cons, List.lookup_nil, ZV.val.injEq, ZV.ptr.injEq, ZV.own.injEq, ZV.fz.injEq, ZV.func.injEq, ZV.tuple.injEq, ZV.agg.injEq, ZB.box.injEq, ZB.grow.injEq, Bool.not_eq_false', Prod.mk.injEq, and_assoc, decide_false, decide_true, Bool.not_false, Bool.not_true, Bool.true_eq_false, Bool.false_eq_true, exists_false, Bool.not_eq_false, Bool.not_not, Value.bool.injEq, Value.int.injEq, Option.some.injEq, exists_eq_left', exists_eq_left, exists_and_left, exists_and_right, and_true, true_and, decide_eq_true_eq, decide_eq_false_iff_not, if_true, if_false, Bool.not_eq_true', beq_true, beq_false, ne_eq, not_true_eq_false, not_false_eq_true, reduceCtorEq, List.getD_cons_zero, List.getD_cons_succ, List.getD_nil, List.map_cons, List.map_nil, List.append_nil, Nat.reduceEqDiff, reduceIte, ite_true, ite_false, or_true, true_or, or_false, false_or, true_imp_iff, false_imp_iff, implies_true, imp_false, and_self, imp_self, and_false, false_and, forall_const, take_map_all, Nat.le_refl, Nat.reduceMul, Nat.reduceSub, List.length_cons, List.length_nil, List.length_map, List.length_set, List.all_cons, List.all_nil, Bool.and_self, Option.map_none, Option.map_some, List.set_cons_zero, List.set_cons_succ, Nat.lt_add_one, List.append_assoc, List.cons_append, List.nil_append, List.append_nil, List.length_append, List.take_zero, List.take_succ_cons, List.take_nil, List.drop_zero, List.drop_succ_cons, List.drop_nil, List.getElem?_cons_zero, List.getElem?_cons_succ, List.getElem?_map, Nat.reduceAdd, Nat.reduceLeDiff, Nat.add_eq_zero_iff, and_self, Nat.zero_add, Nat.add_zero, Nat.mul_one, Nat.one_mul, List.flatten_cons, List.flatten_nil, hE, L2, *]) | (simp only [zgoO, zgoG, zO_nil, zthen_normal, zgoC]) | (with_reducible apply And.intro) | (with_reducible intro _))
        · have F3'' := Lib.hid (F3'.out hok)
          have HK0'' := Lib.hid (HK0'.out hok)
          obtain ⟨co, hco⟩ : ∃ co, co = (mkAll vals cells ms).2 := ⟨_, rfl⟩
          rw [← hco]
          have HCO := Lib.hid hco
          clear F3' HK0' hok hco FE' c1 c2 hlen
          repeat' (first | (simp only [zmPack, zfree, owners, Nat.reduceLT, List.filter_cons, List.filter_nil, List.contains_cons, List.contains_nil, Nat.reduceBEq, Bool.or_false, Bool.or_true, Bool.false_or, Bool.true_or, BEq.rfl, chunk, setAt, List.lookup_cons, List.lookup_nil, ZV.val.injEq, ZV.ptr.injEq, ZV.own.injEq, ZV.fz.injEq, ZV.func.injEq, ZV.tuple.injEq, ZV.agg.injEq, ZB.box.injEq, ZB.grow.injEq, Bool.not_eq_false', Prod.mk.injEq, and_assoc, decide_false, decide_true, Bool.not_false, Bool.not_true, Bool.true_eq_false, Bool.false_eq_true, exists_false, Bool.not_eq_false, Bool.not_not, Value.bool.injEq, Value.int.injEq, Option.some.injEq, exists_eq_left', exists_eq_left, exists_and_left, exists_and_right, and_true, true_and, decide_eq_true_eq, decide_eq_false_iff_not, if_true, if_false, Bool.not_eq_true', beq_true, beq_false, ne_eq, not_true_eq_false, not_false_eq_true, reduceCtorEq, List.getD_cons_zero, List.getD_cons_succ, List.getD_nil, List.map_cons, List.map_nil, List.append_nil, Nat.reduceEqDiff, reduceIte, ite_true, ite_false, or_true, true_or, or_false, false_or, true_imp_iff, false_imp_iff, implies_true, imp_false, and_self, imp_self, and_false, false_and, forall_const, take_map_all, Nat.le_refl, Nat.reduceMul, Nat.reduceSub, List.length_cons, List.length_nil, List.length_map, List.length_set, List.all_cons, List.all_nil, Bool.and_self, Option.map_none, Option.map_some, List.set_cons_zero, List.set_cons_succ, Nat.lt_add_one, List.append_assoc, List.cons_append, List.nil_append, List.append_nil, List.length_append, List.take_zero, List.take_succ_cons, List.take_nil, List.drop_zero, List.drop_succ_cons, List.drop_nil, List.getElem?_cons_zero, List.getElem?_cons_succ, List.getElem?_map, Nat.reduceAdd, Nat.reduceLeDiff, Nat.add_eq_zero_iff, and_self, Nat.zero_add, Nat.add_zero, Nat.mul_one, Nat.one_mul, List.flatten_cons, List.flatten_nil, *]) | (simp only [zgoO, zgoG, zO_nil, zthen_normal, zgoC]) | (with_reducible apply And.intro) | (with_reducible intro _))
          refine clthread_n (rows := ths.map eT) (by intro h; rw [List.map_eq_nil_iff] at h; rw [h] at ht; simp at ht) (by rw [List.length_map]; exact HS.out.t1) ?_
          rw [List.length_map]
          obtain ⟨X0, hX0⟩ : ∃ X0, X0 = ZB.box [Z64 p1, Z64 p2, .fz 2 es (sets.map eP), .fz 4 em (ms.map eM)] := ⟨_, rfl⟩
          obtain ⟨Z0, hZ0⟩ : ∃ Z0, Z0 = ZB.box [.nil, .nil, .nil, .nil, .nil, .nil, Z64 0, Z64 0] := ⟨_, rfl⟩
          repeat' (first | (simp only [zmPack, zfree, owners, Nat.reduceLT, List.filter_cons, List.filter_nil, List.contains_cons, List.contains_nil, Nat.reduceBEq, Bool.or_false, Bool.or_true, Bool.false_or, Bool.true_or, BEq.rfl, chunk, setAt, List.lookup_cons, List.lookup_nil, ZV.val.injEq, ZV.ptr.injEq, ZV.own.injEq, ZV.fz.injEq, ZV.func.injEq, ZV.tuple.injEq, ZV.agg.injEq, ZB.box.injEq, ZB.grow.injEq, Bool.not_eq_false', Prod.mk.injEq, and_assoc, decide_false, decide_true, Bool.not_false, Bool.not_true, Bool.true_eq_false, Bool.false_eq_true, exists_false, Bool.not_eq_false, Bool.not_not, Value.bool.injEq, Value.int.injEq, Option.some.injEq, exists_eq_left', exists_eq_left, exists_and_left, exists_and_right, and_true, true_and, decide_eq_true_eq, decide_eq_false_iff_not, if_true, if_false, Bool.not_eq_true', beq_true, beq_false, ne_eq, not_true_eq_false, not_false_eq_true, reduceCtorEq, List.getD_cons_zero, List.getD_cons_succ, List.getD_nil, List.map_cons, List.map_nil, List.append_nil, Nat.reduceEqDiff, reduceIte, ite_true, ite_false, or_true, true_or, or_false, false_or, true_imp_iff, false_imp_iff, implies_true, imp_false, and_self, imp_self, and_false, false_and, forall_const, take_map_all, Nat.le_refl, Nat.reduceMul, Nat.reduceSub, List.length_cons, List.length_nil, List.length_map, List.length_set, List.all_cons, List.all_nil, Bool.and_self, Option.map_none, Option.map_some, List.set_cons_zero, List.set_cons_succ, Nat.lt_add_one, List.append_assoc, List.cons_append, List.nil_append, List.append_nil, List.length_append, List.take_zero, List.take_succ_cons, List.take_nil, List.drop_zero, List.drop_succ_cons, List.drop_nil, List.getElem?_cons_zero, List.getElem?_cons_succ, List.getElem?_map, Nat.reduceAdd, Nat.reduceLeDiff, Nat.add_eq_zero_iff, and_self, Nat.zero_add, Nat.add_zero, Nat.mul_one, Nat.one_mul, List.flatten_cons, List.flatten_nil, L0, *]) | (simp only [zgoO, zgoG, zO_nil, zthen_normal, zgoC]) | (with_reducible apply And.intro) | (with_reducible intro _))
          rw [← hX0, ← hZ0]
          have HX := Lib.hid hX0
          have HZ0 := Lib.hid hZ0
          clear hX0 hZ0 hlt
          obtain ⟨S0, hS0⟩ : ∃ S0, S0 = ZB.box [.fz 4 false (cells.map eC), .fz 2 false (shapes.map eP), .fz 1 false (texts.map eS), .own (H.length + 3) 0 0 ths.length false, .fz 3 false (ends.map eN), .fz 2 false (said.map eP), Z64 asked, Z64 steps] := ⟨_, rfl⟩
          rw [← hS0]
          have HS0 := Lib.hid hS0
          clear hS0
          have hthl : ths.length < 9223372036854775807 := by have := HS.out.t1; simp only at this; unfold reach at this; omega
          refine zW_forK [(1, Z64 t), (3, .fz 2 ev (vals.map eP)), (4, .ptr H.length 0), (6, .ptr (H.length + 1) 0), (8, .ptr (H.length + 2) 0), (10, .fz 4 false (co.map eC)), (53, .own (H.length + 3) 0 0 ths.length false)] ths.length (fun k s' h' => ∃ R Y, ThInv H.length t ths (frs, q2, q3, (q4, q5)) k R Y ∧ h' = H ++ (S0 :: X0 :: Z0 :: .grow 0 5 R :: Y)) (by omega) ⟨rfl, rfl, rfl, rfl, rfl, rfl⟩ rfl rfl (by repeat' (first | exact trivial | (refine ⟨rfl, ?_⟩) | (refine ⟨by simp only [zupd_at, Nat.reduceEqDiff, reduceIte]; assumption, ?_⟩))) rfl rfl (by decide) ⟨ths.map eT, [], ⟨fun _ => rfl, fun h => by omega⟩, rfl⟩ ?_ ?_
          · rintro k s' h' hk ⟨R, Y, hI, rfl⟩ hi hll ⟨f1, f3, f4, f6, f8, f10, f53, -⟩
            have hxk : ths[k]? = some ths[k] := List.getElem?_eq_getElem hk
            obtain ⟨z1, z2⟩ := HS.out.t2 ths[k] (List.getElem_mem hk)
            have hRl : R.length = ths.length := by
              by_cases h : k ≤ t
              · rw [hI.1 h]; simp
              · obtain ⟨j, hj, _⟩ := hI.2 (by omega); rw [hj]; simp
            have hRk : R[k]? = some (eT ths[k]) := by
              by_cases h : k ≤ t
              · rw [hI.1 h, List.getElem?_map, hxk]; rfl
              · obtain ⟨j, hj, _⟩ := hI.2 (by omega)
                rw [hj, List.getElem?_set, if_neg (by omega), List.getElem?_map, hxk]; rfl
            have hset : R.set k (eT ths[k]) = R := by
              apply List.ext_getElem?
              intro i
              rw [List.getElem?_set]
              split
              · rename_i e; subst e; rw [if_pos (by omega), hRk]
              · rfl
            have hkR : k < R.length := by omega
            have hkt : k = t → ths[k] = (frs, q2, q3, (q4, q5)) := fun h => by subst h; rw [hxk] at hx; injection hx
            obtain ⟨q, hq⟩ : ∃ q, q = ths[k] := ⟨_, rfl⟩
            rw [← hq] at hRk hset z1 z2 hkt
            obtain ⟨fk, b2, b3, b4, b5⟩ := q
            simp only at hRk hset z1 z2
            have Z2 := Lib.hid z2
            have HI := Lib.hid hI
            have HKT := Lib.hid hkt
            have hlR : ths.length ≤ R.length := by omega
            have HRL := Lib.hid hRl
            clear hxk hq z2 hI hkt hRl hx
            have c0 : ∀ (A B C D E : ZB) (W : ZH), (H ++ (A :: B :: C :: D :: (Y ++ (E :: W))))[H.length + (Y.length + 1 + 1 + 1 + 1)]? = some E := fun A B C D E W => by rw [show H ++ (A :: B :: C :: D :: (Y ++ (E :: W))) = (H ++ (A :: B :: C :: D :: Y)) ++ (E :: W) by simp]; exact atN0 (by simp) _ _
            have s0 : ∀ (A B C D E G : ZB) (W : ZH), (H ++ (A :: B :: C :: D :: (Y ++ (E :: W)))).set (H.length + (Y.length + 1 + 1 + 1 + 1)) G = H ++ (A :: B :: C :: D :: (Y ++ (G :: W))) := fun A B C D E G W => by rw [show H ++ (A :: B :: C :: D :: (Y ++ (E :: W))) = (H ++ (A :: B :: C :: D :: Y)) ++ (E :: W) by simp, stN0 (n := H.length + (Y.length + 1 + 1 + 1 + 1)) (by simp)]; simp
            have lx : L (H.length + (Y.length + 1 + 1 + 1 + 1)) = true := hL _
            have l3 : L (H.length + 3) = true := hL 3
            have g0 : ∀ A Y, (H ++ (A :: Y))[H.length]? = some A := fun A Y => atN0 rfl A Y
            have g3 : ∀ A B C D Y, (H ++ (A :: B :: C :: D :: Y))[H.length + 3]? = some D := fun A B C D Y => atN3 rfl A B C D Y
            have t3 : ∀ A B C D E Y, (H ++ (A :: B :: C :: D :: Y)).set (H.length + 3) E = H ++ (A :: B :: C :: E :: Y) := fun A B C D E Y => stN3 rfl A B C D E Y
            have u1 : H.length < H.length + (Y.length + 1 + 1 + 1 + 1 + 1) := by omega
            have u2 : H.length < H.length + (Y.length + 1 + 1 + 1 + 1 + 1 + 1) := by omega
            have u3 : (H.length + 3 == H.length) = false := by simp
            rw [HS0.out]
            repeat' (first | (simp only [zmPack, zfree, owners, Nat.reduceLT, List.filter_cons, List.filter_nil, List.contains_cons, List.contains_nil, Nat.reduceBEq, Bool.or_false, Bool.or_true, Bool.false_or, Bool.true_or, BEq.rfl, chunk, setAt, List.lookup_cons, List.lookup_nil, ZV.val.injEq, ZV.ptr.injEq, ZV.own.injEq, ZV.fz.injEq, ZV.func.injEq, ZV.tuple.injEq, ZV.agg.injEq, ZB.box.injEq, ZB.grow.injEq, Bool.not_eq_false', Prod.mk.injEq, and_assoc, decide_false, decide_true, Bool.not_false, Bool.not_true, Bool.true_eq_false, Bool.false_eq_true, exists_false, Bool.not_eq_false, Bool.not_not, Value.bool.injEq, Value.int.injEq, Option.some.injEq, exists_eq_left', exists_eq_left, exists_and_left, exists_and_right, and_true, true_and, decide_eq_true_eq, decide_eq_false_iff_not, if_true, if_false, Bool.not_eq_true', beq_true, beq_false, ne_eq, not_true_eq_false, not_false_eq_true, reduceCtorEq, List.getD_cons_zero, List.getD_cons_succ, List.getD_nil, List.map_cons, List.map_nil, List.append_nil, Nat.reduceEqDiff, reduceIte, ite_true, ite_false, or_true, true_or, or_false, false_or, true_imp_iff, false_imp_iff, implies_true, imp_false, and_self, imp_self, and_false, false_and, forall_const, take_map_all, Nat.le_refl, Nat.reduceMul, Nat.reduceSub, List.length_cons, List.length_nil, List.length_map, List.length_set, List.all_cons, List.all_nil, Bool.and_self, Option.map_none, Option.map_some, List.set_cons_zero, List.set_cons_succ, Nat.lt_add_one, List.append_assoc, List.cons_append, List.nil_append, List.append_nil, List.length_append, List.take_zero, List.take_succ_cons, List.take_nil, List.drop_zero, List.drop_succ_cons, List.drop_nil, List.getElem?_cons_zero, List.getElem?_cons_succ, List.getElem?_map, Nat.reduceAdd, Nat.reduceLeDiff, Nat.add_eq_zero_iff, and_self, Nat.zero_add, Nat.add_zero, Nat.mul_one, Nat.one_mul, List.flatten_cons, List.flatten_nil, hRk, c0, s0, lx, g0, g3, hkR, hlR, hk, u1, u2, u3, *]) | (simp only [zgoO, zgoG, zO_nil, zthen_normal, zgoC]) | (with_reducible apply And.intro) | (with_reducible intro _))
            by_cases hkt : k = t
            · have e := HKT.out hkt
              simp only [Prod.mk.injEq] at e
              obtain ⟨rfl, rfl, rfl, rfl, rfl⟩ := e
              subst hkt
              have HR := Lib.hid (HI.out.1 (Nat.le_refl _))
              clear HKT HI HG HZ
              refine frames_1 C3.out z1 Z2.out ?_
              repeat' (first | (simp only [zmPack, zfree, owners, Nat.reduceLT, List.filter_cons, List.filter_nil, List.contains_cons, List.contains_nil, Nat.reduceBEq, Bool.or_false, Bool.or_true, Bool.false_or, Bool.true_or, BEq.rfl, chunk, setAt, List.lookup_cons, List.lookup_nil, ZV.val.injEq, ZV.ptr.injEq, ZV.own.injEq, ZV.fz.injEq, ZV.func.injEq, ZV.tuple.injEq, ZV.agg.injEq, ZB.box.injEq, ZB.grow.injEq, Bool.not_eq_false', Prod.mk.injEq, and_assoc, decide_false, decide_true, Bool.not_false, Bool.not_true, Bool.true_eq_false, Bool.false_eq_true, exists_false, Bool.not_eq_false, Bool.not_not, Value.bool.injEq, Value.int.injEq, Option.some.injEq, exists_eq_left', exists_eq_left, exists_and_left, exists_and_right, and_true, true_and, decide_eq_true_eq, decide_eq_false_iff_not, if_true, if_false, Bool.not_eq_true', beq_true, beq_false, ne_eq, not_true_eq_false, not_false_eq_true, reduceCtorEq, List.getD_cons_zero, List.getD_cons_succ, List.getD_nil, List.map_cons, List.map_nil, List.append_nil, Nat.reduceEqDiff, reduceIte, ite_true, ite_false, or_true, true_or, or_false, false_or, true_imp_iff, false_imp_iff, implies_true, imp_false, and_self, imp_self, and_false, false_and, forall_const, take_map_all, Nat.le_refl, Nat.reduceMul, Nat.reduceSub, List.length_cons, List.length_nil, List.length_map, List.length_set, List.all_cons, List.all_nil, Bool.and_self, Option.map_none, Option.map_some, List.set_cons_zero, List.set_cons_succ, Nat.lt_add_one, List.append_assoc, List.cons_append, List.nil_append, List.append_nil, List.length_append, List.take_zero, List.take_succ_cons, List.take_nil, List.drop_zero, List.drop_succ_cons, List.drop_nil, List.getElem?_cons_zero, List.getElem?_cons_succ, List.getElem?_map, Nat.reduceAdd, Nat.reduceLeDiff, Nat.add_eq_zero_iff, and_self, Nat.zero_add, Nat.add_zero, Nat.mul_one, Nat.one_mul, List.flatten_cons, List.flatten_nil, hRk, c0, s0, lx, g0, g3, t3, l3, hkR, hlR, hk, u1, u2, u3, *]) | (simp only [zgoO, zgoG, zO_nil, zthen_normal, zgoC]) | (with_reducible apply And.intro) | (with_reducible intro _))
              refine ⟨_, Y ++ [_, _], ⟨fun h => by omega, fun _ => ⟨Y.length + 1, ?_, atN1 rfl _ _ _⟩⟩, rfl⟩
              rw [HR.out, show H.length + 4 + (Y.length + 1) = H.length + (Y.length + 1 + 1 + 1 + 1 + 1) by omega]
            · refine frames_f z1 Z2.out ?_
              repeat' (first | (simp only [zmPack, zfree, owners, Nat.reduceLT, List.filter_cons, List.filter_nil, List.contains_cons, List.contains_nil, Nat.reduceBEq, Bool.or_false, Bool.or_true, Bool.false_or, Bool.true_or, BEq.rfl, chunk, setAt, List.lookup_cons, List.lookup_nil, ZV.val.injEq, ZV.ptr.injEq, ZV.own.injEq, ZV.fz.injEq, ZV.func.injEq, ZV.tuple.injEq, ZV.agg.injEq, ZB.box.injEq, ZB.grow.injEq, Bool.not_eq_false', Prod.mk.injEq, and_assoc, decide_false, decide_true, Bool.not_false, Bool.not_true, Bool.true_eq_false, Bool.false_eq_true, exists_false, Bool.not_eq_false, Bool.not_not, Value.bool.injEq, Value.int.injEq, Option.some.injEq, exists_eq_left', exists_eq_left, exists_and_left, exists_and_right, and_true, true_and, decide_eq_true_eq, decide_eq_false_iff_not, if_true, if_false, Bool.not_eq_true', beq_true, beq_false, ne_eq, not_true_eq_false, not_false_eq_true, reduceCtorEq, List.getD_cons_zero, List.getD_cons_succ, List.getD_nil, List.map_cons, List.map_nil, List.append_nil, Nat.reduceEqDiff, reduceIte, ite_true, ite_false, or_true, true_or, or_false, false_or, true_imp_iff, false_imp_iff, implies_true, imp_false, and_self, imp_self, and_false, false_and, forall_const, take_map_all, Nat.le_refl, Nat.reduceMul, Nat.reduceSub, List.length_cons, List.length_nil, List.length_map, List.length_set, List.all_cons, List.all_nil, Bool.and_self, Option.map_none, Option.map_some, List.set_cons_zero, List.set_cons_succ, Nat.lt_add_one, List.append_assoc, List.cons_append, List.nil_append, List.append_nil, List.length_append, List.take_zero, List.take_succ_cons, List.take_nil, List.drop_zero, List.drop_succ_cons, List.drop_nil, List.getElem?_cons_zero, List.getElem?_cons_succ, List.getElem?_map, Nat.reduceAdd, Nat.reduceLeDiff, Nat.add_eq_zero_iff, and_self, Nat.zero_add, Nat.add_zero, Nat.mul_one, Nat.one_mul, List.flatten_cons, List.flatten_nil, hRk, c0, s0, lx, g0, g3, t3, l3, hkR, hlR, hk, u1, u2, u3, hset, *]) | (simp only [zgoO, zgoG, zO_nil, zthen_normal, zgoC]) | (with_reducible apply And.intro) | (with_reducible intro _))
              refine ⟨R, Y ++ [_], ⟨fun h => HI.out.1 (by omega), fun h => ?_⟩, rfl⟩
              obtain ⟨j, e1, e2⟩ := HI.out.2 (by omega)
              exact ⟨j, e1, by rw [List.getElem?_append_left (List.getElem?_eq_some_iff.1 e2).1]; exact e2⟩
          · rintro s' h' ⟨R, Y, hI, rfl⟩ ⟨f1, f3, f4, f6, f8, f10, f53, -⟩
            obtain ⟨j, hR, hY⟩ := hI.2 ht
            obtain ⟨Y1, G, Y2, hYe, hY1⟩ : ∃ Y1 G Y2, Y = Y1 ++ (G :: Y2) ∧ Y1.length = j := ⟨Y.take j, Y[j]'(List.getElem?_eq_some_iff.1 hY).1, Y.drop (j + 1), by rw [← List.drop_eq_getElem_cons, List.take_append_drop], by rw [List.length_take]; have := (List.getElem?_eq_some_iff.1 hY).1; omega⟩
            subst hYe
            rw [List.getElem?_append_right (by omega), hY1, Nat.sub_self] at hY
            simp only [List.getElem?_cons_zero, Option.some.injEq] at hY
            subst hY
            simp only at hR
            have hRl : R.length = ths.length := by rw [hR]; simp
            have hRt : R[t]? = some [.own (H.length + 4 + j) 0 0 frs.length false, Z64 q2, Z64 q3, Z64 q4, Z64 q5] := by rw [hR, List.getElem?_set]; simp [ht]
            have HR := Lib.hid hR
            have HRL := Lib.hid hRl
            have htR : t < R.length := by omega
            have hlR : ths.length ≤ R.length := by omega
            have hfl : 0 < frs.length := List.length_pos_iff.2 C3.out
            have hm : frs.length - 1 < frs.length := by omega
            have hyl : frs[frs.length - 1]? = some frs[frs.length - 1] := List.getElem?_eq_getElem hm
            have hfs := HZ.out.2 frs[frs.length - 1] (List.getElem_mem hm)
            have hlf : lastF ths t = frs[frs.length - 1] := by unfold lastF; rw [HG.out]; simp [List.getD, hyl]
            obtain ⟨lf, hlfe⟩ : ∃ lf, lf = frs[frs.length - 1] := ⟨_, rfl⟩
            rw [← hlfe] at hyl hfs hlf
            rw [hlf] at F3'' HK0''
            have HLF := Lib.hid hlf
            have hws : IntKind.i64.wrap ((frs.length : Int) - 1) = ((frs.length - 1 : Nat) : Int) := by
              have := HZ.out.1
              simp only at this
              unfold reach at this
              rw [IntWalk.i64_in _ (by omega)]; omega
            have gj : ∀ A B C D E W, (H ++ (A :: B :: C :: D :: (Y1 ++ (E :: W))))[H.length + 4 + j]? = some E := fun A B C D E W => by rw [show H ++ (A :: B :: C :: D :: (Y1 ++ (E :: W))) = (H ++ (A :: B :: C :: D :: Y1)) ++ (E :: W) by simp]; exact atN0 (by simp; omega) _ _
            have tj : ∀ A B C D E G W, (H ++ (A :: B :: C :: D :: (Y1 ++ (E :: W)))).set (H.length + 4 + j) G = H ++ (A :: B :: C :: D :: (Y1 ++ (G :: W))) := fun A B C D E G W => by rw [show H ++ (A :: B :: C :: D :: (Y1 ++ (E :: W))) = (H ++ (A :: B :: C :: D :: Y1)) ++ (E :: W) by simp, stN0 (n := H.length + 4 + j) (by simp; omega)]; simp
            have lj : L (H.length + 4 + j) = true := by rw [Nat.add_assoc]; exact hL _
            have g0 : ∀ A Y, (H ++ (A :: Y))[H.length]? = some A := fun A Y => atN0 rfl A Y
            have g1 : ∀ A B Y, (H ++ (A :: B :: Y))[H.length + 1]? = some B := fun A B Y => atN1 rfl A B Y
            have g2 : ∀ A B C Y, (H ++ (A :: B :: C :: Y))[H.length + 2]? = some C := fun A B C Y => atN2 rfl A B C Y
            have g3 : ∀ A B C D Y, (H ++ (A :: B :: C :: D :: Y))[H.length + 3]? = some D := fun A B C D Y => atN3 rfl A B C D Y
            have t0 : ∀ A C Y, (H ++ (A :: Y)).set H.length C = H ++ (C :: Y) := fun A C Y => stN0 rfl A C Y
            have t2 : ∀ A B C D Y, (H ++ (A :: B :: C :: Y)).set (H.length + 2) D = H ++ (A :: B :: D :: Y) := fun A B C D Y => stN2 rfl A B C D Y
            clear hI hlfe hlf hR hRl
            rw [HS0.out, HX.out, HZ0.out]
            repeat' (first | (simp only [zmPack, zfree, owners, Nat.reduceLT, List.filter_cons, List.filter_nil, List.contains_cons, List.contains_nil, Nat.reduceBEq, Bool.or_false, Bool.or_true, Bool.false_or, Bool.true_or, BEq.rfl, chunk, setAt, List.lookup_cons, List.lookup_nil, ZV.val.injEq, ZV.ptr.injEq, ZV.own.injEq, ZV.fz.injEq, ZV.func.injEq, ZV.tuple.injEq, ZV.agg.injEq, ZB.box.injEq, ZB.grow.injEq, Bool.not_eq_false', Prod.mk.injEq, and_assoc, decide_false, decide_true, Bool.not_false, Bool.not_true, Bool.true_eq_false, Bool.false_eq_true, exists_false, Bool.not_eq_false, Bool.not_not, Value.bool.injEq, Value.int.injEq, Option.some.injEq, exists_eq_left', exists_eq_left, exists_and_left, exists_and_right, and_true, true_and, decide_eq_true_eq, decide_eq_false_iff_not, if_true, if_false, Bool.not_eq_true', beq_true, beq_false, ne_eq, not_true_eq_false, not_false_eq_true, reduceCtorEq, List.getD_cons_zero, List.getD_cons_succ, List.getD_nil, List.map_cons, List.map_nil, List.append_nil, Nat.reduceEqDiff, reduceIte, ite_true, ite_false, or_true, true_or, or_false, false_or, true_imp_iff, false_imp_iff, implies_true, imp_false, and_self, imp_self, and_false, false_and, forall_const, take_map_all, Nat.le_refl, Nat.reduceMul, Nat.reduceSub, List.length_cons, List.length_nil, List.length_map, List.length_set, List.all_cons, List.all_nil, Bool.and_self, Option.map_none, Option.map_some, List.set_cons_zero, List.set_cons_succ, Nat.lt_add_one, List.append_assoc, List.cons_append, List.nil_append, List.append_nil, List.length_append, List.take_zero, List.take_succ_cons, List.take_nil, List.drop_zero, List.drop_succ_cons, List.drop_nil, List.getElem?_cons_zero, List.getElem?_cons_succ, List.getElem?_map, Nat.reduceAdd, Nat.reduceLeDiff, Nat.add_eq_zero_iff, and_self, Nat.zero_add, Nat.add_zero, Nat.mul_one, Nat.one_mul, List.flatten_cons, List.flatten_nil, hRt, htR, hlR, gj, g0, g1, g2, g3, hws, hm, hyl, *]) | (simp only [zgoO, zgoG, zO_nil, zthen_normal, zgoC]) | (with_reducible apply And.intro) | (with_reducible intro _))
            refine frame_z (f := lf) hfs hsl (fun h => ?_) (fun h => ?_) rfl
            · have fin := fun X => F3''.out h X
              clear h
              have n3 : ¬ (3 : Int) = 0 := by omega
              repeat' (first | (simp only [zmPack, zfree, owners, Nat.reduceLT, List.filter_cons, List.filter_nil, List.contains_cons, List.contains_nil, Nat.reduceBEq, Bool.or_false, Bool.or_true, Bool.false_or, Bool.true_or, BEq.rfl, chunk, setAt, List.lookup_cons, List.lookup_nil, ZV.val.injEq, ZV.ptr.injEq, ZV.own.injEq, ZV.fz.injEq, ZV.func.injEq, ZV.tuple.injEq, ZV.agg.injEq, ZB.box.injEq, ZB.grow.injEq, Bool.not_eq_false', Prod.mk.injEq, and_assoc, decide_false, decide_true, Bool.not_false, Bool.not_true, Bool.true_eq_false, Bool.false_eq_true, exists_false, Bool.not_eq_false, Bool.not_not, Value.bool.injEq, Value.int.injEq, Option.some.injEq, exists_eq_left', exists_eq_left, exists_and_left, exists_and_right, and_true, true_and, decide_eq_true_eq, decide_eq_false_iff_not, if_true, if_false, Bool.not_eq_true', beq_true, beq_false, ne_eq, not_true_eq_false, not_false_eq_true, reduceCtorEq, List.getD_cons_zero, List.getD_cons_succ, List.getD_nil, List.map_cons, List.map_nil, List.append_nil, Nat.reduceEqDiff, reduceIte, ite_true, ite_false, or_true, true_or, or_false, false_or, true_imp_iff, false_imp_iff, implies_true, imp_false, and_self, imp_self, and_false, false_and, forall_const, take_map_all, Nat.le_refl, Nat.reduceMul, Nat.reduceSub, List.length_cons, List.length_nil, List.length_map, List.length_set, List.all_cons, List.all_nil, Bool.and_self, Option.map_none, Option.map_some, List.set_cons_zero, List.set_cons_succ, Nat.lt_add_one, List.append_assoc, List.cons_append, List.nil_append, List.append_nil, List.length_append, List.take_zero, List.take_succ_cons, List.take_nil, List.drop_zero, List.drop_succ_cons, List.drop_nil, List.getElem?_cons_zero, List.getElem?_cons_succ, List.getElem?_map, Nat.reduceAdd, Nat.reduceLeDiff, Nat.add_eq_zero_iff, and_self, Nat.zero_add, Nat.add_zero, Nat.mul_one, Nat.one_mul, List.flatten_cons, List.flatten_nil, gj, tj, lj, g0, g1, g2, g3, t0, t2, L0, L2, hm, hyl, n3, *]) | (simp only [zgoO, zgoG, zO_nil, zthen_normal, zgoC]) | (with_reducible apply And.intro) | (with_reducible intro _))
            · have hk0 := HK0''.out h
              clear h
              obtain ⟨f', hf'⟩ : ∃ f', f' = frOut lf p1 vals sets := ⟨_, rfl⟩
              unfold outSt at hk0
              simp only at hk0
              rw [HLF.out, ← hf', ← HCO.out] at hk0
              rw [← hf']
              have hRR : R.set t [.fz 8 false ((frs.set (frs.length - 1) f').map eF), Z64 q2, Z64 q3, Z64 q4, Z64 q5] = (outTh ths t f').map eT := by
                unfold outTh
                rw [HG.out, HR.out, List.set_set]
                have e : eT (frs.set (frs.length - 1) f', q2, q3, (q4, q5)) = [.fz 8 false ((frs.set (frs.length - 1) f').map eF), Z64 q2, Z64 q3, Z64 q4, Z64 q5] := rfl
                rw [← e]
                exact (List.map_set (f := eT) (l := ths) (a := (frs.set (frs.length - 1) f', q2, q3, (q4, q5)))).symm
              have hset : (frs.map eF).set (frs.length - 1) (eF f') = (frs.set (frs.length - 1) f').map eF := by rw [List.map_set]
              have fin : ∀ A B C, Fin H (.tuple [.agg [.fz 4 false (co.map eC), .fz 2 false (shapes.map eP), .fz 1 false (texts.map eS), .own (H.length + 3) 0 0 ths.length false, .fz 3 false (ends.map eN), .fz 2 false (said.map eP), Z64 asked, Z64 (IntKind.i64.wrap (steps + p2))], Z64 0]) (H ++ (A :: B :: C :: .grow 0 5 R :: (Y1 ++ (.grow 0 8 ((frs.set (frs.length - 1) f').map eF) :: Y2)))) K := fun A B C => by
                refine Fin.frzRow (t := H.length + 3) (e := t) (c := 0) (j := H.length + 4 + j) (n := frs.length) (k2 := 8) (rows := R) (rows2 := (frs.set (frs.length - 1) f').map eF) (g3 ..) hRt rfl (gj ..) (by simp) pureF (by omega) ?_
                rw [tj, stN3 rfl, List.take_of_length_le (by simp)]
                rw [show R.set t (setAt [.own (H.length + 4 + j) 0 0 frs.length false, Z64 q2, Z64 q3, Z64 q4, Z64 q5] 0 [.fz 8 false ((frs.set (frs.length - 1) f').map eF)]) = (outTh ths t f').map eT from hRR]
                have hol : (outTh ths t f').length = ths.length := by unfold outTh; simp
                refine Fin.frzTA (j := 0) (c := 3) (k := 5) (rows := (outTh ths t f').map eT) rfl rfl (g3 ..) (by rw [List.length_map]; omega) pureT ?_
                rw [stN3 rfl, List.drop_zero, ← hol, take_map_all]
                exact Fin.truncT (Mods.ext H _) rfl (by rw [List.take_left]; exact hk0)
              have HF' := Lib.hid hf'
              clear hk0 hRR hf'
              obtain ⟨b1, b2, b3, b4, ⟨b5, b6⟩, b7, b8⟩ := f'
              have u1 : H.length + 1 < H.length + (j + (Y2.length + 1) + 1 + 1 + 1 + 1) := by omega
              have u2 : H.length < H.length + (j + (Y2.length + 1) + 1 + 1 + 1 + 1) := by omega
              have u3 : (H.length == H.length + 1) = false := by simp
              repeat' (first | (simp only [zmPack, zfree, owners, Nat.reduceLT, List.filter_cons, List.filter_nil, List.contains_cons, List.contains_nil, Nat.reduceBEq, Bool.or_false, Bool.or_true, Bool.false_or, Bool.true_or, BEq.rfl, chunk, setAt, List.lookup_cons, List.lookup_nil, ZV.val.injEq, ZV.ptr.injEq, ZV.own.injEq, ZV.fz.injEq, ZV.func.injEq, ZV.tuple.injEq, ZV.agg.injEq, ZB.box.injEq, ZB.grow.injEq, Bool.not_eq_false', Prod.mk.injEq, and_assoc, decide_false, decide_true, Bool.not_false, Bool.not_true, Bool.true_eq_false, Bool.false_eq_true, exists_false, Bool.not_eq_false, Bool.not_not, Value.bool.injEq, Value.int.injEq, Option.some.injEq, exists_eq_left', exists_eq_left, exists_and_left, exists_and_right, and_true, true_and, decide_eq_true_eq, decide_eq_false_iff_not, if_true, if_false, Bool.not_eq_true', beq_true, beq_false, ne_eq, not_true_eq_false, not_false_eq_true, reduceCtorEq, List.getD_cons_zero, List.getD_cons_succ, List.getD_nil, List.map_cons, List.map_nil, List.append_nil, Nat.reduceEqDiff, reduceIte, ite_true, ite_false, or_true, true_or, or_false, false_or, true_imp_iff, false_imp_iff, implies_true, imp_false, and_self, imp_self, and_false, false_and, forall_const, take_map_all, Nat.le_refl, Nat.reduceMul, Nat.reduceSub, List.length_cons, List.length_nil, List.length_map, List.length_set, List.all_cons, List.all_nil, Bool.and_self, Option.map_none, Option.map_some, List.set_cons_zero, List.set_cons_succ, Nat.lt_add_one, List.append_assoc, List.cons_append, List.nil_append, List.append_nil, List.length_append, List.take_zero, List.take_succ_cons, List.take_nil, List.drop_zero, List.drop_succ_cons, List.drop_nil, List.getElem?_cons_zero, List.getElem?_cons_succ, List.getElem?_map, Nat.reduceAdd, Nat.reduceLeDiff, Nat.add_eq_zero_iff, and_self, Nat.zero_add, Nat.add_zero, Nat.mul_one, Nat.one_mul, List.flatten_cons, List.flatten_nil, gj, tj, lj, g0, g1, g2, g3, t0, t2, L0, L2, hm, hyl, hset, u1, u2, u3, *]) | (simp only [zgoO, zgoG, zO_nil, zthen_normal, zgoC]) | (with_reducible apply And.intro) | (with_reducible intro _))
              refine clshape_f pureP (by rw [List.length_map]; exact HS.out.sh) ?_
              repeat' (first | (simp only [zmPack, zfree, owners, Nat.reduceLT, List.filter_cons, List.filter_nil, List.contains_cons, List.contains_nil, Nat.reduceBEq, Bool.or_false, Bool.or_true, Bool.false_or, Bool.true_or, BEq.rfl, chunk, setAt, List.lookup_cons, List.lookup_nil, ZV.val.injEq, ZV.ptr.injEq, ZV.own.injEq, ZV.fz.injEq, ZV.func.injEq, ZV.tuple.injEq, ZV.agg.injEq, ZB.box.injEq, ZB.grow.injEq, Bool.not_eq_false', Prod.mk.injEq, and_assoc, decide_false, decide_true, Bool.not_false, Bool.not_true, Bool.true_eq_false, Bool.false_eq_true, exists_false, Bool.not_eq_false, Bool.not_not, Value.bool.injEq, Value.int.injEq, Option.some.injEq, exists_eq_left', exists_eq_left, exists_and_left, exists_and_right, and_true, true_and, decide_eq_true_eq, decide_eq_false_iff_not, if_true, if_false, Bool.not_eq_true', beq_true, beq_false, ne_eq, not_true_eq_false, not_false_eq_true, reduceCtorEq, List.getD_cons_zero, List.getD_cons_succ, List.getD_nil, List.map_cons, List.map_nil, List.append_nil, Nat.reduceEqDiff, reduceIte, ite_true, ite_false, or_true, true_or, or_false, false_or, true_imp_iff, false_imp_iff, implies_true, imp_false, and_self, imp_self, and_false, false_and, forall_const, take_map_all, Nat.le_refl, Nat.reduceMul, Nat.reduceSub, List.length_cons, List.length_nil, List.length_map, List.length_set, List.all_cons, List.all_nil, Bool.and_self, Option.map_none, Option.map_some, List.set_cons_zero, List.set_cons_succ, Nat.lt_add_one, List.append_assoc, List.cons_append, List.nil_append, List.append_nil, List.length_append, List.take_zero, List.take_succ_cons, List.take_nil, List.drop_zero, List.drop_succ_cons, List.drop_nil, List.getElem?_cons_zero, List.getElem?_cons_succ, List.getElem?_map, Nat.reduceAdd, Nat.reduceLeDiff, Nat.add_eq_zero_iff, and_self, Nat.zero_add, Nat.add_zero, Nat.mul_one, Nat.one_mul, List.flatten_cons, List.flatten_nil, gj, tj, lj, g0, g1, g2, g3, t0, t2, L0, L2, hm, hyl, hset, u1, u2, u3, *]) | (simp only [zgoO, zgoG, zO_nil, zthen_normal, zgoC]) | (with_reducible apply And.intro) | (with_reducible intro _))
              refine clstring_f pureS (by rw [List.length_map]; exact HS.out.tx) ?_
              repeat' (first | (simp only [zmPack, zfree, owners, Nat.reduceLT, List.filter_cons, List.filter_nil, List.contains_cons, List.contains_nil, Nat.reduceBEq, Bool.or_false, Bool.or_true, Bool.false_or, Bool.true_or, BEq.rfl, chunk, setAt, List.lookup_cons, List.lookup_nil, ZV.val.injEq, ZV.ptr.injEq, ZV.own.injEq, ZV.fz.injEq, ZV.func.injEq, ZV.tuple.injEq, ZV.agg.injEq, ZB.box.injEq, ZB.grow.injEq, Bool.not_eq_false', Prod.mk.injEq, and_assoc, decide_false, decide_true, Bool.not_false, Bool.not_true, Bool.true_eq_false, Bool.false_eq_true, exists_false, Bool.not_eq_false, Bool.not_not, Value.bool.injEq, Value.int.injEq, Option.some.injEq, exists_eq_left', exists_eq_left, exists_and_left, exists_and_right, and_true, true_and, decide_eq_true_eq, decide_eq_false_iff_not, if_true, if_false, Bool.not_eq_true', beq_true, beq_false, ne_eq, not_true_eq_false, not_false_eq_true, reduceCtorEq, List.getD_cons_zero, List.getD_cons_succ, List.getD_nil, List.map_cons, List.map_nil, List.append_nil, Nat.reduceEqDiff, reduceIte, ite_true, ite_false, or_true, true_or, or_false, false_or, true_imp_iff, false_imp_iff, implies_true, imp_false, and_self, imp_self, and_false, false_and, forall_const, take_map_all, Nat.le_refl, Nat.reduceMul, Nat.reduceSub, List.length_cons, List.length_nil, List.length_map, List.length_set, List.all_cons, List.all_nil, Bool.and_self, Option.map_none, Option.map_some, List.set_cons_zero, List.set_cons_succ, Nat.lt_add_one, List.append_assoc, List.cons_append, List.nil_append, List.append_nil, List.length_append, List.take_zero, List.take_succ_cons, List.take_nil, List.drop_zero, List.drop_succ_cons, List.drop_nil, List.getElem?_cons_zero, List.getElem?_cons_succ, List.getElem?_map, Nat.reduceAdd, Nat.reduceLeDiff, Nat.add_eq_zero_iff, and_self, Nat.zero_add, Nat.add_zero, Nat.mul_one, Nat.one_mul, List.flatten_cons, List.flatten_nil, gj, tj, lj, g0, g1, g2, g3, t0, t2, L0, L2, hm, hyl, hset, u1, u2, u3, *]) | (simp only [zgoO, zgoG, zO_nil, zthen_normal, zgoC]) | (with_reducible apply And.intro) | (with_reducible intro _))
              refine clend_f pureN (by rw [List.length_map]; exact HS.out.en) ?_
              repeat' (first | (simp only [zmPack, zfree, owners, Nat.reduceLT, List.filter_cons, List.filter_nil, List.contains_cons, List.contains_nil, Nat.reduceBEq, Bool.or_false, Bool.or_true, Bool.false_or, Bool.true_or, BEq.rfl, chunk, setAt, List.lookup_cons, List.lookup_nil, ZV.val.injEq, ZV.ptr.injEq, ZV.own.injEq, ZV.fz.injEq, ZV.func.injEq, ZV.tuple.injEq, ZV.agg.injEq, ZB.box.injEq, ZB.grow.injEq, Bool.not_eq_false', Prod.mk.injEq, and_assoc, decide_false, decide_true, Bool.not_false, Bool.not_true, Bool.true_eq_false, Bool.false_eq_true, exists_false, Bool.not_eq_false, Bool.not_not, Value.bool.injEq, Value.int.injEq, Option.some.injEq, exists_eq_left', exists_eq_left, exists_and_left, exists_and_right, and_true, true_and, decide_eq_true_eq, decide_eq_false_iff_not, if_true, if_false, Bool.not_eq_true', beq_true, beq_false, ne_eq, not_true_eq_false, not_false_eq_true, reduceCtorEq, List.getD_cons_zero, List.getD_cons_succ, List.getD_nil, List.map_cons, List.map_nil, List.append_nil, Nat.reduceEqDiff, reduceIte, ite_true, ite_false, or_true, true_or, or_false, false_or, true_imp_iff, false_imp_iff, implies_true, imp_false, and_self, imp_self, and_false, false_and, forall_const, take_map_all, Nat.le_refl, Nat.reduceMul, Nat.reduceSub, List.length_cons, List.length_nil, List.length_map, List.length_set, List.all_cons, List.all_nil, Bool.and_self, Option.map_none, Option.map_some, List.set_cons_zero, List.set_cons_succ, Nat.lt_add_one, List.append_assoc, List.cons_append, List.nil_append, List.append_nil, List.length_append, List.take_zero, List.take_succ_cons, List.take_nil, List.drop_zero, List.drop_succ_cons, List.drop_nil, List.getElem?_cons_zero, List.getElem?_cons_succ, List.getElem?_map, Nat.reduceAdd, Nat.reduceLeDiff, Nat.add_eq_zero_iff, and_self, Nat.zero_add, Nat.add_zero, Nat.mul_one, Nat.one_mul, List.flatten_cons, List.flatten_nil, gj, tj, lj, g0, g1, g2, g3, t0, t2, L0, L2, hm, hyl, hset, u1, u2, u3, *]) | (simp only [zgoO, zgoG, zO_nil, zthen_normal, zgoC]) | (with_reducible apply And.intro) | (with_reducible intro _))
              refine clval_f pureP (by rw [List.length_map]; exact HS.out.sa) ?_
              repeat' (first | (simp only [zmPack, zfree, owners, Nat.reduceLT, List.filter_cons, List.filter_nil, List.contains_cons, List.contains_nil, Nat.reduceBEq, Bool.or_false, Bool.or_true, Bool.false_or, Bool.true_or, BEq.rfl, chunk, setAt, List.lookup_cons, List.lookup_nil, ZV.val.injEq, ZV.ptr.injEq, ZV.own.injEq, ZV.fz.injEq, ZV.func.injEq, ZV.tuple.injEq, ZV.agg.injEq, ZB.box.injEq, ZB.grow.injEq, Bool.not_eq_false', Prod.mk.injEq, and_assoc, decide_false, decide_true, Bool.not_false, Bool.not_true, Bool.true_eq_false, Bool.false_eq_true, exists_false, Bool.not_eq_false, Bool.not_not, Value.bool.injEq, Value.int.injEq, Option.some.injEq, exists_eq_left', exists_eq_left, exists_and_left, exists_and_right, and_true, true_and, decide_eq_true_eq, decide_eq_false_iff_not, if_true, if_false, Bool.not_eq_true', beq_true, beq_false, ne_eq, not_true_eq_false, not_false_eq_true, reduceCtorEq, List.getD_cons_zero, List.getD_cons_succ, List.getD_nil, List.map_cons, List.map_nil, List.append_nil, Nat.reduceEqDiff, reduceIte, ite_true, ite_false, or_true, true_or, or_false, false_or, true_imp_iff, false_imp_iff, implies_true, imp_false, and_self, imp_self, and_false, false_and, forall_const, take_map_all, Nat.le_refl, Nat.reduceMul, Nat.reduceSub, List.length_cons, List.length_nil, List.length_map, List.length_set, List.all_cons, List.all_nil, Bool.and_self, Option.map_none, Option.map_some, List.set_cons_zero, List.set_cons_succ, Nat.lt_add_one, List.append_assoc, List.cons_append, List.nil_append, List.append_nil, List.length_append, List.take_zero, List.take_succ_cons, List.take_nil, List.drop_zero, List.drop_succ_cons, List.drop_nil, List.getElem?_cons_zero, List.getElem?_cons_succ, List.getElem?_map, Nat.reduceAdd, Nat.reduceLeDiff, Nat.add_eq_zero_iff, and_self, Nat.zero_add, Nat.add_zero, Nat.mul_one, Nat.one_mul, List.flatten_cons, List.flatten_nil, gj, tj, lj, g0, g1, g2, g3, t0, t2, L0, L2, hm, hyl, hset, u1, u2, u3, *]) | (simp only [zgoO, zgoG, zO_nil, zthen_normal, zgoC]) | (with_reducible apply And.intro) | (with_reducible intro _))
end Go.Proofs.Ytmecaddjeljliaa

namespace Go.Proofs.Ytmecaddjeljliaa
open Go Go.RowKit
set_option linter.unusedVariables false
set_option linter.unusedSimpArgs false
abbrev tbL : List (FuncId × Bool) := [(8, true)]
theorem leftby_z {L : Nat → Bool} {H : ZH} {K : ZV → ZH → Prop} (k : K (ZBo true) H) : ZC (constX tbL) (cFunc Try.prog) 8 [] L H K := ZC.const (constX_some rfl) k
section
variable {tb : List (FuncId × Bool)} {L : Nat → Bool} {H : ZH} {K : ZV → ZH → Prop}
theorem rest_z {k m : Int} (hm : 0 < m ∧ m ≤ 1000000000) (hK : K (Z64 (k % m)) H) : ZC (constX tb) (cFunc Try.prog) 12 [Z64 k, Z64 m] L H K := by
  refine ZC.enter Gh.no (constX_none) f_r_rest (by simp) ?_
  simp only [c_r_rest]
  have hr : binV .rem (.int .i64 k) (.int .i64 m) = some (.int .i64 (k.tmod m)) := by simp [binV]; omega
  have fin := Fin.keep (H0 := H) hK
  have h1 : -m < k.tmod m := by
    have := Int.lt_tmod_of_pos k hm.1
    omega
  have h2 : k.tmod m < m := Int.tmod_lt_of_pos k hm.1
  have h3 : k.tmod m = k % m ∨ k.tmod m = k % m - m := by
    rw [Int.tmod_eq_emod]
    split
    · left; omega
    · right; omega
  have h4 := Int.emod_nonneg k (b := m) (by omega)
  have h5 := Int.emod_lt_of_pos k hm.1
  clear hK
  by_cases hn : k.tmod m < 0
  · have hw : IntKind.i64.wrap (k.tmod m + m) = k % m := by
      rw [IntWalk.i64_in _ (by omega)]; omega
    have F := Lib.hid fin
    clear h3 h4 h5 h1 h2 fin
    obtain ⟨t, ht⟩ : ∃ t, t = k.tmod m := ⟨_, rfl⟩
    rw [← ht] at hr hn hw
    have fin := F.out
    clear ht
    repeat' (first | (simp only [zmPack, zfree, owners, Nat.reduceLT, List.filter_cons, List.filter_nil, List.contains_cons, List.contains_nil, Nat.reduceBEq, Bool.or_false, Bool.or_true, Bool.false_or, Bool.true_or, BEq.rfl, chunk, setAt, List.lookup_cons, List.lookup_nil, ZV.val.injEq, ZV.ptr.injEq, ZV.own.injEq, ZV.fz.injEq, ZV.func.injEq, ZV.tuple.injEq, ZV.agg.injEq, ZB.box.injEq, ZB.grow.injEq, Bool.not_eq_false', Prod.mk.injEq, and_assoc, decide_false, decide_true, Bool.not_false, Bool.not_true, Bool.true_eq_false, Bool.false_eq_true, exists_false, Bool.not_eq_false, Bool.not_not, Value.bool.injEq, Value.int.injEq, Option.some.injEq, exists_eq_left', exists_eq_left, exists_and_left, exists_and_right, and_true, true_and, decide_eq_true_eq, decide_eq_false_iff_not, if_true, if_false, Bool.not_eq_true', beq_true, beq_false, ne_eq, not_true_eq_false, not_false_eq_true, reduceCtorEq, List.getD_cons_zero, List.getD_cons_succ, List.getD_nil, List.map_cons, List.map_nil, List.append_nil, Nat.reduceEqDiff, reduceIte, ite_true, ite_false, or_true, true_or, or_false, false_or, true_imp_iff, false_imp_iff, implies_true, imp_false, and_self, imp_self, and_false, false_and, forall_const, take_map_all, Nat.le_refl, Nat.reduceMul, Nat.reduceSub, List.length_cons, List.length_nil, List.length_map, List.length_set, List.all_cons, List.all_nil, Bool.and_self, Option.map_none, Option.map_some, List.set_cons_zero, List.set_cons_succ, Nat.lt_add_one, List.append_assoc, List.cons_append, List.nil_append, List.append_nil, List.length_append, List.take_zero, List.take_succ_cons, List.take_nil, List.drop_zero, List.drop_succ_cons, List.drop_nil, List.getElem?_cons_zero, List.getElem?_cons_succ, List.getElem?_map, Nat.reduceAdd, Nat.reduceLeDiff, Nat.add_eq_zero_iff, and_self, Nat.zero_add, Nat.add_zero, Nat.mul_one, Nat.one_mul, List.flatten_cons, List.flatten_nil, hr, hn, hw, *]) | (simp only [zgoO, zgoG, zO_nil, zthen_normal, zgoC]) | (with_reducible apply And.intro) | (with_reducible intro _))
  · have hw : k.tmod m = k % m := by omega
    have F := Lib.hid fin
    clear h3 h4 h5 h1 h2 fin
    rw [hw] at hr hn
    have fin := F.out
    clear hw
    repeat' (first | (simp only [zmPack, zfree, owners, Nat.reduceLT, List.filter_cons, List.filter_nil, List.contains_cons, List.contains_nil, Nat.reduceBEq, Bool.or_false, Bool.or_true, Bool.false_or, Bool.true_or, BEq.rfl, chunk, setAt, List.lookup_cons, List.lookup_nil, ZV.val.injEq, ZV.ptr.injEq, ZV.own.injEq, ZV.fz.injEq, ZV.func.injEq, ZV.tuple.injEq, ZV.agg.injEq, ZB.box.injEq, ZB.grow.injEq, Bool.not_eq_false', Prod.mk.injEq, and_assoc, decide_false, decide_true, Bool.not_false, Bool.not_true, Bool.true_eq_false, Bool.false_eq_true, exists_false, Bool.not_eq_false, Bool.not_not, Value.bool.injEq, Value.int.injEq, Option.some.injEq, exists_eq_left', exists_eq_left, exists_and_left, exists_and_right, and_true, true_and, decide_eq_true_eq, decide_eq_false_iff_not, if_true, if_false, Bool.not_eq_true', beq_true, beq_false, ne_eq, not_true_eq_false, not_false_eq_true, reduceCtorEq, List.getD_cons_zero, List.getD_cons_succ, List.getD_nil, List.map_cons, List.map_nil, List.append_nil, Nat.reduceEqDiff, reduceIte, ite_true, ite_false, or_true, true_or, or_false, false_or, true_imp_iff, false_imp_iff, implies_true, imp_false, and_self, imp_self, and_false, false_and, forall_const, take_map_all, Nat.le_refl, Nat.reduceMul, Nat.reduceSub, List.length_cons, List.length_nil, List.length_map, List.length_set, List.all_cons, List.all_nil, Bool.and_self, Option.map_none, Option.map_some, List.set_cons_zero, List.set_cons_succ, Nat.lt_add_one, List.append_assoc, List.cons_append, List.nil_append, List.append_nil, List.length_append, List.take_zero, List.take_succ_cons, List.take_nil, List.drop_zero, List.drop_succ_cons, List.drop_nil, List.getElem?_cons_zero, List.getElem?_cons_succ, List.getElem?_map, Nat.reduceAdd, Nat.reduceLeDiff, Nat.add_eq_zero_iff, and_self, Nat.zero_add, Nat.add_zero, Nat.mul_one, Nat.one_mul, List.flatten_cons, List.flatten_nil, hr, hn, *]) | (simp only [zgoO, zgoG, zO_nil, zthen_normal, zgoC]) | (with_reducible apply And.intro) | (with_reducible intro _))
/-- A nil that is handed over is an empty list that nobody writes to. -/
theorem ZC.nil3 {X : CallT} {F : FuncId → Option AFunc} {f : FuncId} {a b c : ZV} {k : Nat} (h : ZC X F f [a, b, c, .fz k false []] L H K) : ZC X F f [a, b, c, .nil] L H K := fun fl w args r e ha => by
  refine h fl w args r e ⟨ha.1, fun i z x hz hx => ?_⟩
  by_cases hi : i = 3
  · subst hi
    simp at hz
    subst hz
    have := ha.2 3 .nil x rfl hx
    rw [this.val_inv]
    exact .fr (.fnil (.inl rfl))
  · refine ha.2 i z x ?_ hx
    match i, hi with
    | 0, _ => exact hz
    | 1, _ => exact hz
    | 2, _ => exact hz
    | n + 4, _ => simp at hz
end
end Go.Proofs.Ytmecaddjeljliaa

namespace Go.Proofs.Ytmecaddjeljliaa
open Go Go.RowKit
set_option linter.unusedVariables false
set_option linter.unusedSimpArgs false
variable {tb : List (FuncId × Bool)} {L : Nat → Bool} {H : ZH} {K : ZV → ZH → Prop}
set_option maxHeartbeats 1000000 in
theorem eqshape_s {exa exb : Bool} {a : List (Int × Int)} (hl1 : a.length ≤ 1000000000000000) (hK : K (ZBo true) H) :
    ZC (constX tb) (cFunc Try.prog) 17 [.fz 2 exa (a.map eP), .fz 2 exb (a.map eP)] L H K := by
  refine ZC.enterL Gh.no constX_none f_r_eqshape (by simp) fun hL => ?_
  simp only [c_r_eqshape]
  have F0 : Hid (∀ X, Fin H (ZBo true) (H ++ X) K) := fun X => Fin.trunc (Mods.ext H X) rfl (by rw [List.take_left]; exact hK)
  clear hK
  repeat' (first | (simp only [zmPack, zfree, owners, Nat.reduceLT, List.filter_cons, List.filter_nil, List.contains_cons, List.contains_nil, Nat.reduceBEq, Bool.or_false, Bool.or_true, Bool.false_or, Bool.true_or, BEq.rfl, chunk, setAt, List.lookup_cons, List.lookup_nil, ZV.val.injEq, ZV.ptr.injEq, ZV.own.injEq, ZV.fz.injEq, ZV.func.injEq, ZV.tuple.injEq, ZV.agg.injEq, ZB.box.injEq, ZB.grow.injEq, Bool.not_eq_false', Prod.mk.injEq, and_assoc, decide_false, decide_true, Bool.not_false, Bool.not_true, Bool.true_eq_false, Bool.false_eq_true, exists_false, Bool.not_eq_false, Bool.not_not, Value.bool.injEq, Value.int.injEq, Option.some.injEq, exists_eq_left', exists_eq_left, exists_and_left, exists_and_right, and_true, true_and, decide_eq_true_eq, decide_eq_false_iff_not, if_true, if_false, Bool.not_eq_true', beq_true, beq_false, ne_eq, not_true_eq_false, not_false_eq_true, reduceCtorEq, List.getD_cons_zero, List.getD_cons_succ, List.getD_nil, List.map_cons, List.map_nil, List.append_nil, Nat.reduceEqDiff, reduceIte, ite_true, ite_false, or_true, true_or, or_false, false_or, true_imp_iff, false_imp_iff, implies_true, imp_false, and_self, imp_self, and_false, false_and, forall_const, take_map_all, Nat.le_refl, Nat.reduceMul, Nat.reduceSub, List.length_cons, List.length_nil, List.length_map, List.length_set, List.all_cons, List.all_nil, Bool.and_self, Option.map_none, Option.map_some, List.set_cons_zero, List.set_cons_succ, Nat.lt_add_one, List.append_assoc, List.cons_append, List.nil_append, List.append_nil, List.length_append, List.take_zero, List.take_succ_cons, List.take_nil, List.drop_zero, List.drop_succ_cons, List.drop_nil, List.getElem?_cons_zero, List.getElem?_cons_succ, List.getElem?_map, Nat.reduceAdd, Nat.reduceLeDiff, Nat.add_eq_zero_iff, and_self, Nat.zero_add, Nat.add_zero, Nat.mul_one, Nat.one_mul, List.flatten_cons, List.flatten_nil, *]) | (simp only [zgoO, zgoG, zO_nil, zthen_normal, zgoC]) | (with_reducible apply And.intro) | (with_reducible intro _))
  refine zW_forK [(1, .fz 2 exb (a.map eP)), (12, .fz 2 exa (a.map eP))] a.length (fun k s' h' => ∃ X, h' = H ++ X) (by omega) ⟨rfl, rfl, rfl, rfl, rfl, rfl⟩ rfl rfl (by repeat' (first | exact trivial | (refine ⟨rfl, ?_⟩) | (refine ⟨by simp only [zupd_at, Nat.reduceEqDiff, reduceIte]; assumption, ?_⟩))) rfl rfl (by decide) ⟨[], by simp⟩ ?_ ?_
  · rintro k s' h' hk ⟨X, rfl⟩ hi hl ⟨f1, f12, -⟩
    have hx : a[k]? = some a[k] := List.getElem?_eq_getElem hk
    obtain ⟨p, hp⟩ : ∃ p, p = a[k] := ⟨_, rfl⟩
    rw [← hp] at hx
    clear hp
    obtain ⟨p1, p2⟩ := p
    have a0 : ∀ A : ZB, (H ++ (X ++ [A]))[H.length + X.length]? = some A := fun A => by rw [← List.append_assoc, ← List.length_append]; exact H_at0 ..
    have s0 : ∀ A B : ZB, (H ++ (X ++ [A])).set (H.length + X.length) B = H ++ (X ++ [B]) := fun A B => by rw [← List.append_assoc, ← List.length_append, List.set_append_right _ _ (Nat.le_refl _), Nat.sub_self, List.append_assoc]; rfl
    have lx : L (H.length + X.length) = true := hL _
    have hs : sameZ [0, 0] [Z64 p1, Z64 p2] [Z64 p1, Z64 p2] = some true := by rw [same2]; simp
    repeat' (first | (simp only [zmPack, zfree, owners, Nat.reduceLT, List.filter_cons, List.filter_nil, List.contains_cons, List.contains_nil, Nat.reduceBEq, Bool.or_false, Bool.or_true, Bool.false_or, Bool.true_or, BEq.rfl, chunk, setAt, List.lookup_cons, List.lookup_nil, ZV.val.injEq, ZV.ptr.injEq, ZV.own.injEq, ZV.fz.injEq, ZV.func.injEq, ZV.tuple.injEq, ZV.agg.injEq, ZB.box.injEq, ZB.grow.injEq, Bool.not_eq_false', Prod.mk.injEq, and_assoc, decide_false, decide_true, Bool.not_false, Bool.not_true, Bool.true_eq_false, Bool.false_eq_true, exists_false, Bool.not_eq_false, Bool.not_not, Value.bool.injEq, Value.int.injEq, Option.some.injEq, exists_eq_left', exists_eq_left, exists_and_left, exists_and_right, and_true, true_and, decide_eq_true_eq, decide_eq_false_iff_not, if_true, if_false, Bool.not_eq_true', beq_true, beq_false, ne_eq, not_true_eq_false, not_false_eq_true, reduceCtorEq, List.getD_cons_zero, List.getD_cons_succ, List.getD_nil, List.map_cons, List.map_nil, List.append_nil, Nat.reduceEqDiff, reduceIte, ite_true, ite_false, or_true, true_or, or_false, false_or, true_imp_iff, false_imp_iff, implies_true, imp_false, and_self, imp_self, and_false, false_and, forall_const, take_map_all, Nat.le_refl, Nat.reduceMul, Nat.reduceSub, List.length_cons, List.length_nil, List.length_map, List.length_set, List.all_cons, List.all_nil, Bool.and_self, Option.map_none, Option.map_some, List.set_cons_zero, List.set_cons_succ, Nat.lt_add_one, List.append_assoc, List.cons_append, List.nil_append, List.append_nil, List.length_append, List.take_zero, List.take_succ_cons, List.take_nil, List.drop_zero, List.drop_succ_cons, List.drop_nil, List.getElem?_cons_zero, List.getElem?_cons_succ, List.getElem?_map, Nat.reduceAdd, Nat.reduceLeDiff, Nat.add_eq_zero_iff, and_self, Nat.zero_add, Nat.add_zero, Nat.mul_one, Nat.one_mul, List.flatten_cons, List.flatten_nil, hx, a0, s0, lx, hs, hk, *]) | (simp only [zgoO, zgoG, zO_nil, zthen_normal, zgoC]) | (with_reducible apply And.intro) | (with_reducible intro _))
    exact ⟨_, rfl⟩
  · rintro s' h' ⟨X, rfl⟩ ⟨f1, f12, -⟩
    have fin := F0.out
    repeat' (first | (simp only [zmPack, zfree, owners, Nat.reduceLT, List.filter_cons, List.filter_nil, List.contains_cons, List.contains_nil, Nat.reduceBEq, Bool.or_false, Bool.or_true, Bool.false_or, Bool.true_or, BEq.rfl, chunk, setAt, List.lookup_cons, List.lookup_nil, ZV.val.injEq, ZV.ptr.injEq, ZV.own.injEq, ZV.fz.injEq, ZV.func.injEq, ZV.tuple.injEq, ZV.agg.injEq, ZB.box.injEq, ZB.grow.injEq, Bool.not_eq_false', Prod.mk.injEq, and_assoc, decide_false, decide_true, Bool.not_false, Bool.not_true, Bool.true_eq_false, Bool.false_eq_true, exists_false, Bool.not_eq_false, Bool.not_not, Value.bool.injEq, Value.int.injEq, Option.some.injEq, exists_eq_left', exists_eq_left, exists_and_left, exists_and_right, and_true, true_and, decide_eq_true_eq, decide_eq_false_iff_not, if_true, if_false, Bool.not_eq_true', beq_true, beq_false, ne_eq, not_true_eq_false, not_false_eq_true, reduceCtorEq, List.getD_cons_zero, List.getD_cons_succ, List.getD_nil, List.map_cons, List.map_nil, List.append_nil, Nat.reduceEqDiff, reduceIte, ite_true, ite_false, or_true, true_or, or_false, false_or, true_imp_iff, false_imp_iff, implies_true, imp_false, and_self, imp_self, and_false, false_and, forall_const, take_map_all, Nat.le_refl, Nat.reduceMul, Nat.reduceSub, List.length_cons, List.length_nil, List.length_map, List.length_set, List.all_cons, List.all_nil, Bool.and_self, Option.map_none, Option.map_some, List.set_cons_zero, List.set_cons_succ, Nat.lt_add_one, List.append_assoc, List.cons_append, List.nil_append, List.append_nil, List.length_append, List.take_zero, List.take_succ_cons, List.take_nil, List.drop_zero, List.drop_succ_cons, List.drop_nil, List.getElem?_cons_zero, List.getElem?_cons_succ, List.getElem?_map, Nat.reduceAdd, Nat.reduceLeDiff, Nat.add_eq_zero_iff, and_self, Nat.zero_add, Nat.add_zero, Nat.mul_one, Nat.one_mul, List.flatten_cons, List.flatten_nil, *]) | (simp only [zgoO, zgoG, zO_nil, zthen_normal, zgoC]) | (with_reducible apply And.intro) | (with_reducible intro _))
set_option maxHeartbeats 1000000 in
theorem eqend_s {exa exb : Bool} {a : List En} (hl1 : a.length ≤ 1000000000000000) (hK : K (ZBo true) H) :
    ZC (constX tb) (cFunc Try.prog) 18 [.fz 3 exa (a.map eN), .fz 3 exb (a.map eN)] L H K := by
  refine ZC.enterL Gh.no constX_none f_r_eqend (by simp) fun hL => ?_
  simp only [c_r_eqend]
  have F0 : Hid (∀ X, Fin H (ZBo true) (H ++ X) K) := fun X => Fin.trunc (Mods.ext H X) rfl (by rw [List.take_left]; exact hK)
  clear hK
  repeat' (first | (simp only [zmPack, zfree, owners, Nat.reduceLT, List.filter_cons, List.filter_nil, List.contains_cons, List.contains_nil, Nat.reduceBEq, Bool.or_false, Bool.or_true, Bool.false_or, Bool.true_or, BEq.rfl, chunk, setAt, List.lookup_cons, List.lookup_nil, ZV.val.injEq, ZV.ptr.injEq, ZV.own.injEq, ZV.fz.injEq, ZV.func.injEq, ZV.tuple.injEq, ZV.agg.injEq, ZB.box.injEq, ZB.grow.injEq, Bool.not_eq_false', Prod.mk.injEq, and_assoc, decide_false, decide_true, Bool.not_false, Bool.not_true, Bool.true_eq_false, Bool.false_eq_true, exists_false, Bool.not_eq_false, Bool.not_not, Value.bool.injEq, Value.int.injEq, Option.some.injEq, exists_eq_left', exists_eq_left, exists_and_left, exists_and_right, and_true, true_and, decide_eq_true_eq, decide_eq_false_iff_not, if_true, if_false, Bool.not_eq_true', beq_true, beq_false, ne_eq, not_true_eq_false, not_false_eq_true, reduceCtorEq, List.getD_cons_zero, List.getD_cons_succ, List.getD_nil, List.map_cons, List.map_nil, List.append_nil, Nat.reduceEqDiff, reduceIte, ite_true, ite_false, or_true, true_or, or_false, false_or, true_imp_iff, false_imp_iff, implies_true, imp_false, and_self, imp_self, and_false, false_and, forall_const, take_map_all, Nat.le_refl, Nat.reduceMul, Nat.reduceSub, List.length_cons, List.length_nil, List.length_map, List.length_set, List.all_cons, List.all_nil, Bool.and_self, Option.map_none, Option.map_some, List.set_cons_zero, List.set_cons_succ, Nat.lt_add_one, List.append_assoc, List.cons_append, List.nil_append, List.append_nil, List.length_append, List.take_zero, List.take_succ_cons, List.take_nil, List.drop_zero, List.drop_succ_cons, List.drop_nil, List.getElem?_cons_zero, List.getElem?_cons_succ, List.getElem?_map, Nat.reduceAdd, Nat.reduceLeDiff, Nat.add_eq_zero_iff, and_self, Nat.zero_add, Nat.add_zero, Nat.mul_one, Nat.one_mul, List.flatten_cons, List.flatten_nil, *]) | (simp only [zgoO, zgoG, zO_nil, zthen_normal, zgoC]) | (with_reducible apply And.intro) | (with_reducible intro _))
  refine zW_forK [(1, .fz 3 exb (a.map eN)), (12, .fz 3 exa (a.map eN))] a.length (fun k s' h' => ∃ X, h' = H ++ X) (by omega) ⟨rfl, rfl, rfl, rfl, rfl, rfl⟩ rfl rfl (by repeat' (first | exact trivial | (refine ⟨rfl, ?_⟩) | (refine ⟨by simp only [zupd_at, Nat.reduceEqDiff, reduceIte]; assumption, ?_⟩))) rfl rfl (by decide) ⟨[], by simp⟩ ?_ ?_
  · rintro k s' h' hk ⟨X, rfl⟩ hi hl ⟨f1, f12, -⟩
    have hx : a[k]? = some a[k] := List.getElem?_eq_getElem hk
    obtain ⟨p, hp⟩ : ∃ p, p = a[k] := ⟨_, rfl⟩
    rw [← hp] at hx
    clear hp
    obtain ⟨p1, p2, p3⟩ := p
    have a0 : ∀ A : ZB, (H ++ (X ++ [A]))[H.length + X.length]? = some A := fun A => by rw [← List.append_assoc, ← List.length_append]; exact H_at0 ..
    have s0 : ∀ A B : ZB, (H ++ (X ++ [A])).set (H.length + X.length) B = H ++ (X ++ [B]) := fun A B => by rw [← List.append_assoc, ← List.length_append, List.set_append_right _ _ (Nat.le_refl _), Nat.sub_self, List.append_assoc]; rfl
    have lx : L (H.length + X.length) = true := hL _
    have hs : sameZ [0, 0, 0] [Z64 p1, Z64 p2, Z64 p3] [Z64 p1, Z64 p2, Z64 p3] = some true := by simp [sameZ, sameV]
    repeat' (first | (simp only [zmPack, zfree, owners, Nat.reduceLT, List.filter_cons, List.filter_nil, List.contains_cons, List.contains_nil, Nat.reduceBEq, Bool.or_false, Bool.or_true, Bool.false_or, Bool.true_or, BEq.rfl, chunk, setAt, List.lookup_cons, List.lookup_nil, ZV.val.injEq, ZV.ptr.injEq, ZV.own.injEq, ZV.fz.injEq, ZV.func.injEq, ZV.tuple.injEq, ZV.agg.injEq, ZB.box.injEq, ZB.grow.injEq, Bool.not_eq_false', Prod.mk.injEq, and_assoc, decide_false, decide_true, Bool.not_false, Bool.not_true, Bool.true_eq_false, Bool.false_eq_true, exists_false, Bool.not_eq_false, Bool.not_not, Value.bool.injEq, Value.int.injEq, Option.some.injEq, exists_eq_left', exists_eq_left, exists_and_left, exists_and_right, and_true, true_and, decide_eq_true_eq, decide_eq_false_iff_not, if_true, if_false, Bool.not_eq_true', beq_true, beq_false, ne_eq, not_true_eq_false, not_false_eq_true, reduceCtorEq, List.getD_cons_zero, List.getD_cons_succ, List.getD_nil, List.map_cons, List.map_nil, List.append_nil, Nat.reduceEqDiff, reduceIte, ite_true, ite_false, or_true, true_or, or_false, false_or, true_imp_iff, false_imp_iff, implies_true, imp_false, and_self, imp_self, and_false, false_and, forall_const, take_map_all, Nat.le_refl, Nat.reduceMul, Nat.reduceSub, List.length_cons, List.length_nil, List.length_map, List.length_set, List.all_cons, List.all_nil, Bool.and_self, Option.map_none, Option.map_some, List.set_cons_zero, List.set_cons_succ, Nat.lt_add_one, List.append_assoc, List.cons_append, List.nil_append, List.append_nil, List.length_append, List.take_zero, List.take_succ_cons, List.take_nil, List.drop_zero, List.drop_succ_cons, List.drop_nil, List.getElem?_cons_zero, List.getElem?_cons_succ, List.getElem?_map, Nat.reduceAdd, Nat.reduceLeDiff, Nat.add_eq_zero_iff, and_self, Nat.zero_add, Nat.add_zero, Nat.mul_one, Nat.one_mul, List.flatten_cons, List.flatten_nil, hx, a0, s0, lx, hs, hk, *]) | (simp only [zgoO, zgoG, zO_nil, zthen_normal, zgoC]) | (with_reducible apply And.intro) | (with_reducible intro _))
    exact ⟨_, rfl⟩
  · rintro s' h' ⟨X, rfl⟩ ⟨f1, f12, -⟩
    have fin := F0.out
    repeat' (first | (simp only [zmPack, zfree, owners, Nat.reduceLT, List.filter_cons, List.filter_nil, List.contains_cons, List.contains_nil, Nat.reduceBEq, Bool.or_false, Bool.or_true, Bool.false_or, Bool.true_or, BEq.rfl, chunk, setAt, List.lookup_cons, List.lookup_nil, ZV.val.injEq, ZV.ptr.injEq, ZV.own.injEq, ZV.fz.injEq, ZV.func.injEq, ZV.tuple.injEq, ZV.agg.injEq, ZB.box.injEq, ZB.grow.injEq, Bool.not_eq_false', Prod.mk.injEq, and_assoc, decide_false, decide_true, Bool.not_false, Bool.not_true, Bool.true_eq_false, Bool.false_eq_true, exists_false, Bool.not_eq_false, Bool.not_not, Value.bool.injEq, Value.int.injEq, Option.some.injEq, exists_eq_left', exists_eq_left, exists_and_left, exists_and_right, and_true, true_and, decide_eq_true_eq, decide_eq_false_iff_not, if_true, if_false, Bool.not_eq_true', beq_true, beq_false, ne_eq, not_true_eq_false, not_false_eq_true, reduceCtorEq, List.getD_cons_zero, List.getD_cons_succ, List.getD_nil, List.map_cons, List.map_nil, List.append_nil, Nat.reduceEqDiff, reduceIte, ite_true, ite_false, or_true, true_or, or_false, false_or, true_imp_iff, false_imp_iff, implies_true, imp_false, and_self, imp_self, and_false, false_and, forall_const, take_map_all, Nat.le_refl, Nat.reduceMul, Nat.reduceSub, List.length_cons, List.length_nil, List.length_map, List.length_set, List.all_cons, List.all_nil, Bool.and_self, Option.map_none, Option.map_some, List.set_cons_zero, List.set_cons_succ, Nat.lt_add_one, List.append_assoc, List.cons_append, List.nil_append, List.append_nil, List.length_append, List.take_zero, List.take_succ_cons, List.take_nil, List.drop_zero, List.drop_succ_cons, List.drop_nil, List.getElem?_cons_zero, List.getElem?_cons_succ, List.getElem?_map, Nat.reduceAdd, Nat.reduceLeDiff, Nat.add_eq_zero_iff, and_self, Nat.zero_add, Nat.add_zero, Nat.mul_one, Nat.one_mul, List.flatten_cons, List.flatten_nil, *]) | (simp only [zgoO, zgoG, zO_nil, zthen_normal, zgoC]) | (with_reducible apply And.intro) | (with_reducible intro _))
set_option maxHeartbeats 1000000 in
theorem eqstring_s {exa exb : Bool} {a : List ByteArray} (hl1 : a.length ≤ 1000000000000000) (hK : K (ZBo true) H) :
    ZC (constX tb) (cFunc Try.prog) 16 [.fz 1 exa (a.map eS), .fz 1 exb (a.map eS)] L H K := by
  refine ZC.enterL Gh.no constX_none f_r_eqstring (by simp) fun hL => ?_
  simp only [c_r_eqstring]
  have F0 : Hid (∀ X, Fin H (ZBo true) (H ++ X) K) := fun X => Fin.trunc (Mods.ext H X) rfl (by rw [List.take_left]; exact hK)
  clear hK
  repeat' (first | (simp only [zmPack, zfree, owners, Nat.reduceLT, List.filter_cons, List.filter_nil, List.contains_cons, List.contains_nil, Nat.reduceBEq, Bool.or_false, Bool.or_true, Bool.false_or, Bool.true_or, BEq.rfl, chunk, setAt, List.lookup_cons, List.lookup_nil, ZV.val.injEq, ZV.ptr.injEq, ZV.own.injEq, ZV.fz.injEq, ZV.func.injEq, ZV.tuple.injEq, ZV.agg.injEq, ZB.box.injEq, ZB.grow.injEq, Bool.not_eq_false', Prod.mk.injEq, and_assoc, decide_false, decide_true, Bool.not_false, Bool.not_true, Bool.true_eq_false, Bool.false_eq_true, exists_false, Bool.not_eq_false, Bool.not_not, Value.bool.injEq, Value.int.injEq, Option.some.injEq, exists_eq_left', exists_eq_left, exists_and_left, exists_and_right, and_true, true_and, decide_eq_true_eq, decide_eq_false_iff_not, if_true, if_false, Bool.not_eq_true', beq_true, beq_false, ne_eq, not_true_eq_false, not_false_eq_true, reduceCtorEq, List.getD_cons_zero, List.getD_cons_succ, List.getD_nil, List.map_cons, List.map_nil, List.append_nil, Nat.reduceEqDiff, reduceIte, ite_true, ite_false, or_true, true_or, or_false, false_or, true_imp_iff, false_imp_iff, implies_true, imp_false, and_self, imp_self, and_false, false_and, forall_const, take_map_all, Nat.le_refl, Nat.reduceMul, Nat.reduceSub, List.length_cons, List.length_nil, List.length_map, List.length_set, List.all_cons, List.all_nil, Bool.and_self, Option.map_none, Option.map_some, List.set_cons_zero, List.set_cons_succ, Nat.lt_add_one, List.append_assoc, List.cons_append, List.nil_append, List.append_nil, List.length_append, List.take_zero, List.take_succ_cons, List.take_nil, List.drop_zero, List.drop_succ_cons, List.drop_nil, List.getElem?_cons_zero, List.getElem?_cons_succ, List.getElem?_map, Nat.reduceAdd, Nat.reduceLeDiff, Nat.add_eq_zero_iff, and_self, Nat.zero_add, Nat.add_zero, Nat.mul_one, Nat.one_mul, List.flatten_cons, List.flatten_nil, *]) | (simp only [zgoO, zgoG, zO_nil, zthen_normal, zgoC]) | (with_reducible apply And.intro) | (with_reducible intro _))
  refine zW_forK [(1, .fz 1 exb (a.map eS)), (12, .fz 1 exa (a.map eS))] a.length (fun k s' h' => ∃ X, h' = H ++ X) (by omega) ⟨rfl, rfl, rfl, rfl, rfl, rfl⟩ rfl rfl (by repeat' (first | exact trivial | (refine ⟨rfl, ?_⟩) | (refine ⟨by simp only [zupd_at, Nat.reduceEqDiff, reduceIte]; assumption, ?_⟩))) rfl rfl (by decide) ⟨[], by simp⟩ ?_ ?_
  · rintro k s' h' hk ⟨X, rfl⟩ hi hl ⟨f1, f12, -⟩
    have hx : a[k]? = some a[k] := List.getElem?_eq_getElem hk
    obtain ⟨p, hp⟩ : ∃ p, p = a[k] := ⟨_, rfl⟩
    rw [← hp] at hx
    clear hp
    
    have a0 : ∀ A : ZB, (H ++ (X ++ [A]))[H.length + X.length]? = some A := fun A => by rw [← List.append_assoc, ← List.length_append]; exact H_at0 ..
    have s0 : ∀ A B : ZB, (H ++ (X ++ [A])).set (H.length + X.length) B = H ++ (X ++ [B]) := fun A B => by rw [← List.append_assoc, ← List.length_append, List.set_append_right _ _ (Nat.le_refl _), Nat.sub_self, List.append_assoc]; rfl
    have lx : L (H.length + X.length) = true := hL _
    have hs : binV .neq (.string p) (.string p) = some (.bool false) := by simp [binV]
    repeat' (first | (simp only [zmPack, zfree, owners, Nat.reduceLT, List.filter_cons, List.filter_nil, List.contains_cons, List.contains_nil, Nat.reduceBEq, Bool.or_false, Bool.or_true, Bool.false_or, Bool.true_or, BEq.rfl, chunk, setAt, List.lookup_cons, List.lookup_nil, ZV.val.injEq, ZV.ptr.injEq, ZV.own.injEq, ZV.fz.injEq, ZV.func.injEq, ZV.tuple.injEq, ZV.agg.injEq, ZB.box.injEq, ZB.grow.injEq, Bool.not_eq_false', Prod.mk.injEq, and_assoc, decide_false, decide_true, Bool.not_false, Bool.not_true, Bool.true_eq_false, Bool.false_eq_true, exists_false, Bool.not_eq_false, Bool.not_not, Value.bool.injEq, Value.int.injEq, Option.some.injEq, exists_eq_left', exists_eq_left, exists_and_left, exists_and_right, and_true, true_and, decide_eq_true_eq, decide_eq_false_iff_not, if_true, if_false, Bool.not_eq_true', beq_true, beq_false, ne_eq, not_true_eq_false, not_false_eq_true, reduceCtorEq, List.getD_cons_zero, List.getD_cons_succ, List.getD_nil, List.map_cons, List.map_nil, List.append_nil, Nat.reduceEqDiff, reduceIte, ite_true, ite_false, or_true, true_or, or_false, false_or, true_imp_iff, false_imp_iff, implies_true, imp_false, and_self, imp_self, and_false, false_and, forall_const, take_map_all, Nat.le_refl, Nat.reduceMul, Nat.reduceSub, List.length_cons, List.length_nil, List.length_map, List.length_set, List.all_cons, List.all_nil, Bool.and_self, Option.map_none, Option.map_some, List.set_cons_zero, List.set_cons_succ, Nat.lt_add_one, List.append_assoc, List.cons_append, List.nil_append, List.append_nil, List.length_append, List.take_zero, List.take_succ_cons, List.take_nil, List.drop_zero, List.drop_succ_cons, List.drop_nil, List.getElem?_cons_zero, List.getElem?_cons_succ, List.getElem?_map, Nat.reduceAdd, Nat.reduceLeDiff, Nat.add_eq_zero_iff, and_self, Nat.zero_add, Nat.add_zero, Nat.mul_one, Nat.one_mul, List.flatten_cons, List.flatten_nil, hx, a0, s0, lx, hs, hk, *]) | (simp only [zgoO, zgoG, zO_nil, zthen_normal, zgoC]) | (with_reducible apply And.intro) | (with_reducible intro _))
    exact ⟨_, rfl⟩
  · rintro s' h' ⟨X, rfl⟩ ⟨f1, f12, -⟩
    have fin := F0.out
    repeat' (first | (simp only [zmPack, zfree, owners, Nat.reduceLT, List.filter_cons, List.filter_nil, List.contains_cons, List.contains_nil, Nat.reduceBEq, Bool.or_false, Bool.or_true, Bool.false_or, Bool.true_or, BEq.rfl, chunk, setAt, List.lookup_cons, List.lookup_nil, ZV.val.injEq, ZV.ptr.injEq, ZV.own.injEq, ZV.fz.injEq, ZV.func.injEq, ZV.tuple.injEq, ZV.agg.injEq, ZB.box.injEq, ZB.grow.injEq, Bool.not_eq_false', Prod.mk.injEq, and_assoc, decide_false, decide_true, Bool.not_false, Bool.not_true, Bool.true_eq_false, Bool.false_eq_true, exists_false, Bool.not_eq_false, Bool.not_not, Value.bool.injEq, Value.int.injEq, Option.some.injEq, exists_eq_left', exists_eq_left, exists_and_left, exists_and_right, and_true, true_and, decide_eq_true_eq, decide_eq_false_iff_not, if_true, if_false, Bool.not_eq_true', beq_true, beq_false, ne_eq, not_true_eq_false, not_false_eq_true, reduceCtorEq, List.getD_cons_zero, List.getD_cons_succ, List.getD_nil, List.map_cons, List.map_nil, List.append_nil, Nat.reduceEqDiff, reduceIte, ite_true, ite_false, or_true, true_or, or_false, false_or, true_imp_iff, false_imp_iff, implies_true, imp_false, and_self, imp_self, and_false, false_and, forall_const, take_map_all, Nat.le_refl, Nat.reduceMul, Nat.reduceSub, List.length_cons, List.length_nil, List.length_map, List.length_set, List.all_cons, List.all_nil, Bool.and_self, Option.map_none, Option.map_some, List.set_cons_zero, List.set_cons_succ, Nat.lt_add_one, List.append_assoc, List.cons_append, List.nil_append, List.append_nil, List.length_append, List.take_zero, List.take_succ_cons, List.take_nil, List.drop_zero, List.drop_succ_cons, List.drop_nil, List.getElem?_cons_zero, List.getElem?_cons_succ, List.getElem?_map, Nat.reduceAdd, Nat.reduceLeDiff, Nat.add_eq_zero_iff, and_self, Nat.zero_add, Nat.add_zero, Nat.mul_one, Nat.one_mul, List.flatten_cons, List.flatten_nil, *]) | (simp only [zgoO, zgoG, zO_nil, zthen_normal, zgoC]) | (with_reducible apply And.intro) | (with_reducible intro _))
end Go.Proofs.Ytmecaddjeljliaa
