/-
  Proved: the law MarkRaces answers true, whatever the input: where nothing else is done between, marking in whatever steps leaves just what is needed.
-/
import Derived.Test.YtpeagenjmmkohaaMrA12
namespace Go.Proofs.Ytpeagenjmmkohaa
open Go Go.RowKit
set_option linter.unusedVariables false
set_option linter.unusedSimpArgs false
section
variable {kd : Int} {mk mk' : Bool} {T T' : List TB} {a b n d r e : Int}
def AllW (T : List TB) : Prop := ∀ n, n < T.length → cF T n = 0
theorem set_le : (setT kd mk T a b n).2.length ≤ T.length := by
  unfold setT
  split
  · exact Nat.le_refl _
  · split
    · exact Nat.le_refl _
    · split
      · exact Nat.le_refl _
      · simp only
        split
        · rw [List.length_set, shade_len]; exact Nat.le_refl _
        · rw [shade_len]; exact Nat.le_refl _
theorem do_early (h : DoT kd false T a b n d r e mk' T') (hd : d < 5) (g : GS kd false T) (w : AllW T) : mk' = false ∧ AllW T' := by
  cases h with
  | new h =>
    refine ⟨rfl, ?_⟩
    by_cases ha : n < 0 ∨ 10 < n
    · rw [(h.arg ha).2.2]; exact w
    · by_cases hl : 100 ≤ T.length
      · rw [(h.large ha hl).2.2]; exact w
      · obtain ⟨-, -, o, rfl⟩ := h.ok ha (by omega)
        obtain ⟨q1, q2, q3, q4, q5⟩ := made_facts (mk := false) (o := o) g.1 ha (by omega)
        intro k hk
        by_cases hkl : k = T.length
        · subst hkl; rw [q3]; rfl
        · rw [q2 k hkl]; exact w k (by simp at hk; omega)
  | set =>
    refine ⟨rfl, fun k hk => ?_⟩
    rw [(set_mut g.1 g.2.kind).hm rfl]
    refine w k ?_
    by_cases q : k < T.length
    · exact q
    · exact absurd (Nat.lt_of_lt_of_le hk (set_le)) q
  | drop => exact ⟨rfl, fun k hk => by rw [(hold_mut g.1 g.2.kind).hm rfl]; exact w k (by rw [key_len hold_key] at hk; exact hk)⟩
  | hold => exact ⟨rfl, fun k hk => by rw [(hold_mut g.1 g.2.kind).hm rfl]; exact w k (by rw [key_len hold_key] at hk; exact hk)⟩
  | other _ => exact ⟨rfl, w⟩
  | _ => exact absurd hd (by omega)
/-- Between beginning and ending. -/
structure RI (kd : Int) (T0 T : List TB) : Prop where
  gs : GS kd true T
  un : UIn (Un (needT T0)) (cF T) (eF T) (rF T)
  key : T.map keyT = T0.map keyT
  held : heldB T = heldB T0
theorem ri_begin (g : GS kd false T) : RI kd T (begT T) := ⟨begin_good g, begin_un g, beg_key, beg_held⟩
theorem ri_step {T0 : List TB} (h : DoT kd true T a b n 5 r e mk' T') (i : RI kd T0 T) : mk' = true ∧ RI kd T0 T' := by
  cases h with
  | other q => omega
  | stepNo q => cases q
  | stepArg _ _ => exact ⟨rfl, i⟩
  | step _ _ hS _ _ => exact ⟨rfl, hS.good i.gs, hS.un i.un, by rw [hS.key, i.key], by rw [hS.held, i.held]⟩
theorem ri_begin' (h : DoT kd false T a b n 6 r e mk' T') (g : GS kd false T) : mk' = true ∧ RI kd T T' := by
  cases h with
  | other q => omega
  | beginNo q => cases q
  | begn _ => exact ⟨rfl, ri_begin g⟩
theorem ri_end {T0 : List TB} (h : DoT kd true T a b n 7 r e mk' T') (i : RI kd T0 T) (hr : Rng T0) : e = 0 ∧ mk' = false ∧ T'.length = T0.length ∧ ∀ n, n < T0.length → (cF T' n ≠ 3 ↔ Sn (needT T0) n) := by
  cases h with
  | other q => omega
  | endNo q => cases q
  | @done j T1 _ hS hno =>
    have g1 := hS.good i.gs
    have u1 := hS.un i.un
    refine ⟨rfl, rfl, by rw [List.length_map, key_len hS.key, key_len i.key], fun n hn => ?_⟩
    rw [end_c]
    by_cases hs : Sn (needT T0) n
    · have hnd := (need_nd hr).1 hs
      rw [← ef_fun i.key, ← rf_fun i.held, ← ef_fun hS.key, ← rf_fun hS.held] at hnd
      have hb := g1.2.black (noGrey hno) hnd
      rw [hb]
      exact ⟨fun _ => hs, fun _ => by decide⟩
    · have hu := u1.u3 n ⟨by rw [need_len]; exact hn, hs⟩
      refine ⟨fun q => absurd ?_ q, fun q => absurd q hs⟩
      rcases hu with q | q <;> rw [q] <;> simp
def leftB (T : List TB) : List Bool := T.map fun x => decide (x.2.2.1 ≠ 3)
def leftTo (T : List TB) (k : Nat) : List Int := riseTo (leftB T) k
theorem left_next {k : Nat} (hk : k < T.length) : leftTo T (k + 1) = leftTo T k ++ (if cF T k ≠ 3 then [(k : Int)] else []) := by
  unfold leftTo
  rw [riseTo_succ, cF_at (List.getElem?_eq_getElem hk)]
  have : (leftB T).getD k false = decide (T[k].2.2.1 ≠ 3) := by simp [List.getD, hk, leftB]
  rw [this]
  by_cases h : T[k].2.2.1 = 3 <;> simp [h]
theorem left_need {T0 : List TB} (hl : T'.length = T0.length) (h : ∀ n, n < T0.length → (cF T' n ≠ 3 ↔ Sn (needT T0) n)) : leftTo T' T'.length = rising (needT T0) := by
  have e : leftB T' = needT T0 := by
    apply List.ext_getElem (by rw [need_len]; simp [leftB, hl])
    intro i h1 h2
    have hi : i < T'.length := by simpa [leftB] using h1
    have := h i (by omega)
    rw [cF_at (List.getElem?_eq_getElem hi)] at this
    unfold Sn at this
    rw [List.getD_eq_getElem?_getD, List.getElem?_eq_getElem h2] at this
    simp only [Option.getD_some] at this
    simp only [leftB, List.getElem_map]
    cases hb : (needT T0)[i] with
    | true => rw [hb] at this; exact decide_eq_true (this.2 rfl)
    | false => rw [hb] at this; exact decide_eq_false fun q => by have := this.1 q; cases this
  unfold leftTo rising
  rw [e, hl, need_len]
end
set_option maxHeartbeats 8000000 in
theorem markraces_z {kind : Int} {l : List Dd} {steps : List Int} (hst : steps.length ≤ 100000000000000) :
    ZC (constX tbMk) (cFunc Try.prog) 10 [Z64 kind, .fz 4 false (l.map eD), .fz 1 false (steps.map eI)] (fun _ => true) [] fun z _ => z = ZBo true := by
  refine ZC.enter ⟨[(16, [(0, 1)])], [], []⟩ constX_none f_mk_races (by simp) ?_
  simp only [c_mk_races]
  have fin : ∀ X, Fin [] (ZBo true) X (fun z _ => z = ZBo true) := fun X => Fin.trunc (Mods.ext [] X) rfl rfl
  have FI := Lib.hid fin
  have HST := Lib.hid hst
  clear fin hst
  repeat' (first | (simp only [zmPack, zxPack, ne_eq, zfree, owners, Nat.reduceLT, List.contains_cons, List.contains_nil, Nat.reduceBEq, BEq.rfl, chunk, setAt, List.lookup_cons, List.lookup_nil, reduceCtorEq, Nat.reduceEqDiff, reduceIte, implies_true, forall_const, Nat.reduceMul, Nat.reduceSub, Nat.reduceAdd, Nat.reduceLeDiff, *]) | (simp only [zgoO, zgoG, zO_nil, zthen_normal, zgoC]) | (with_reducible apply And.intro) | (with_reducible intro _))
  refine marked_z ?_
  repeat' (first | (simp only [zmPack, zxPack, ne_eq, zfree, owners, Nat.reduceLT, List.contains_cons, List.contains_nil, Nat.reduceBEq, BEq.rfl, chunk, setAt, List.lookup_cons, List.lookup_nil, reduceCtorEq, Nat.reduceEqDiff, reduceIte, implies_true, forall_const, Nat.reduceMul, Nat.reduceSub, Nat.reduceAdd, Nat.reduceLeDiff, *]) | (simp only [zgoO, zgoG, zO_nil, zthen_normal, zgoC]) | (with_reducible apply And.intro) | (with_reducible intro _))
  refine rest_z (by omega) ?_
  obtain ⟨kd, hkd⟩ : ∃ kd, kd = 1 + kind % 2 := ⟨_, rfl⟩
  have hk12 : kd = 1 ∨ kd = 2 := by omega
  have w1 : IntKind.i64.wrap (1 + kind % 2) = kd := by rw [IntWalk.i64_in _ (by omega), hkd]
  obtain ⟨kr, hkr⟩ : ∃ kr, kr = kind % 2 := ⟨_, rfl⟩
  rw [← hkr] at w1 ⊢
  have HK12 := Lib.hid hk12
  clear hkd hk12 hkr
  repeat' (first | (simp only [zmPack, zxPack, ne_eq, zfree, owners, Nat.reduceLT, List.contains_cons, List.contains_nil, Nat.reduceBEq, BEq.rfl, chunk, setAt, List.lookup_cons, List.lookup_nil, reduceCtorEq, Nat.reduceEqDiff, reduceIte, implies_true, forall_const, Nat.reduceMul, Nat.reduceSub, Nat.reduceAdd, Nat.reduceLeDiff, w1, *]) | (simp only [zgoO, zgoG, zO_nil, zthen_normal, zgoC]) | (with_reducible apply And.intro) | (with_reducible intro _))
  refine new_z HK12.out fun H0 p t hM0 => ?_
  obtain ⟨ex2, hct⟩ := dd_cut (e := eD) (k := 4) (ex := false) (l := l) (n := min l.length 60) (Nat.min_le_left _ _)
  obtain ⟨ds, hds⟩ : ∃ ds, ds = l.take (min l.length 60) := ⟨_, rfl⟩
  have hlen : ds.length ≤ 60 := by rw [hds, List.length_take]; omega
  rw [← hds] at hct
  have hbm : bestZ false (Z64 (l.length : Nat)) [Z64 (60 : Int)] = some (Z64 ((min l.length 60 : Nat) : Int)) := best_min (m := 60)
  have HM0 := Lib.hid hM0
  have HLEN := Lib.hid hlen
  clear hds hM0 hlen w1
  have hnil : ∀ (H : ZH) i o, nilZ H 1 (.ptr i o) = some false := fun _ _ _ => rfl
  repeat' (first | (simp only [zmPack, zxPack, ne_eq, zfree, owners, Nat.reduceLT, List.contains_cons, List.contains_nil, Nat.reduceBEq, BEq.rfl, chunk, setAt, List.lookup_cons, List.lookup_nil, reduceCtorEq, Nat.reduceEqDiff, reduceIte, implies_true, forall_const, Nat.reduceMul, Nat.reduceSub, Nat.reduceAdd, Nat.reduceLeDiff, hnil, *]) | (simp only [zgoO, zgoG, zO_nil, zthen_normal, zgoC]) | (with_reducible apply And.intro) | (with_reducible intro _))
  refine marked_z ?_
  repeat' (first | (simp only [zmPack, zxPack, ne_eq, zfree, owners, Nat.reduceLT, List.contains_cons, List.contains_nil, Nat.reduceBEq, BEq.rfl, chunk, setAt, List.lookup_cons, List.lookup_nil, reduceCtorEq, Nat.reduceEqDiff, reduceIte, implies_true, forall_const, Nat.reduceMul, Nat.reduceSub, Nat.reduceAdd, Nat.reduceLeDiff, hbm, hct, mv_num0, mv_num1, natZ_nat, Option.bind_some, Option.isSome_none, *]) | (simp only [zgoO, zgoG, zO_nil, zthen_normal, zgoC]) | (with_reducible apply And.intro) | (with_reducible intro _))
  clear hct hbm hnil
  refine zW_forK [(7, .ptr p 0), (42, .fz 4 ex2 (ds.map eD)), (2, .fz 1 false (steps.map eI))] ds.length (fun k s' h' => ∃ g T, MkAt h' p t g kd false T ∧ GS kd false T ∧ AllW T) (by have := HLEN.out; omega) ⟨rfl, rfl, rfl, rfl, rfl, rfl⟩ rfl rfl (by repeat' (first | exact trivial | (refine ⟨rfl, ?_⟩) | (refine ⟨by simp only [zupd_at, Nat.reduceEqDiff, reduceIte]; assumption, ?_⟩))) rfl rfl (by decide) ⟨0, [], HM0.out, gs_start HK12.out, fun n hn => absurd hn (by simp)⟩ ?_ ?_
  · rintro k s' h' hk ⟨g, T, hM, hG, hW⟩ hi hl ⟨f7, f42, -⟩
    have hx : ds[k]? = some ds[k] := List.getElem?_eq_getElem hk
    obtain ⟨d, hd⟩ : ∃ d, d = ds[k] := ⟨_, rfl⟩
    rw [← hd] at hx
    obtain ⟨d1, d2, d3, d4⟩ := d
    have HM := Lib.hid hM
    have HG := Lib.hid hG
    have HW := Lib.hid hW
    clear hd hM hG hW
    by_cases h5 : d1 < 5
    · repeat' (first | (simp only [zmPack, zxPack, ne_eq, zfree, owners, Nat.reduceLT, List.contains_cons, List.contains_nil, Nat.reduceBEq, BEq.rfl, chunk, setAt, List.lookup_cons, List.lookup_nil, reduceCtorEq, Nat.reduceEqDiff, reduceIte, implies_true, forall_const, Nat.reduceMul, Nat.reduceSub, Nat.reduceAdd, Nat.reduceLeDiff, hx, *]) | (simp only [zgoO, zgoG, zO_nil, zthen_normal, zgoC]) | (with_reducible apply And.intro) | (with_reducible intro _))
      refine do_z (HM.out.ext _) HG.out.1 (fun _ => rfl) fun H2 g2 r e mk2 T2 hdo hM2 hfr => ?_
      obtain ⟨q1, q2⟩ := do_early hdo h5 HG.out HW.out
      have q3 := do_good hdo HG.out
      subst q1
      have FN : Hid (∃ g3 T3, MkAt H2 p t g3 kd false T3 ∧ GS kd false T3 ∧ AllW T3) := Lib.hid ⟨g2, T2, hM2, q3, q2⟩
      clear hdo hM2 hfr q2 q3
      repeat' (first | (simp only [zmPack, zxPack, ne_eq, zfree, owners, Nat.reduceLT, List.contains_cons, List.contains_nil, Nat.reduceBEq, BEq.rfl, chunk, setAt, List.lookup_cons, List.lookup_nil, reduceCtorEq, Nat.reduceEqDiff, reduceIte, implies_true, forall_const, Nat.reduceMul, Nat.reduceSub, Nat.reduceAdd, Nat.reduceLeDiff, *]) | (simp only [zgoO, zgoG, zO_nil, zthen_normal, zgoC]) | (with_reducible apply And.intro) | (with_reducible intro _))
      all_goals exact FN.out
    · have FN : Hid (∀ Y, ∃ g3 T3, MkAt (h' ++ Y) p t g3 kd false T3 ∧ GS kd false T3 ∧ AllW T3) := Lib.hid fun Y => ⟨g, T, HM.out.ext Y, HG.out, HW.out⟩
      repeat' (first | (simp only [zmPack, zxPack, ne_eq, zfree, owners, Nat.reduceLT, List.contains_cons, List.contains_nil, Nat.reduceBEq, BEq.rfl, chunk, setAt, List.lookup_cons, List.lookup_nil, reduceCtorEq, Nat.reduceEqDiff, reduceIte, implies_true, forall_const, Nat.reduceMul, Nat.reduceSub, Nat.reduceAdd, Nat.reduceLeDiff, hx, *]) | (simp only [zgoO, zgoG, zO_nil, zthen_normal, zgoC]) | (with_reducible apply And.intro) | (with_reducible intro _))
      all_goals exact FN.out _
  · rintro s' h' ⟨g, T, hM, hG, hW⟩ ⟨f7, f42, f2, -⟩
    have HM := Lib.hid hM
    have HG := Lib.hid hG
    clear hM hG hW
    repeat' (first | (simp only [zmPack, zxPack, ne_eq, zfree, owners, Nat.reduceLT, List.contains_cons, List.contains_nil, Nat.reduceBEq, BEq.rfl, chunk, setAt, List.lookup_cons, List.lookup_nil, reduceCtorEq, Nat.reduceEqDiff, reduceIte, implies_true, forall_const, Nat.reduceMul, Nat.reduceSub, Nat.reduceAdd, Nat.reduceLeDiff, *]) | (simp only [zgoO, zgoG, zO_nil, zthen_normal, zgoC]) | (with_reducible apply And.intro) | (with_reducible intro _))
    refine graph_z HM.out ?_
    repeat' (first | (simp only [zmPack, zxPack, ne_eq, zfree, owners, Nat.reduceLT, List.contains_cons, List.contains_nil, Nat.reduceBEq, BEq.rfl, chunk, setAt, List.lookup_cons, List.lookup_nil, reduceCtorEq, Nat.reduceEqDiff, reduceIte, implies_true, forall_const, Nat.reduceMul, Nat.reduceSub, Nat.reduceAdd, Nat.reduceLeDiff, *]) | (simp only [zgoO, zgoG, zO_nil, zthen_normal, zgoC]) | (with_reducible apply And.intro) | (with_reducible intro _))
    refine neededin_z (by rw [hasOf_len]; have := HG.out.1.len; omega) (rootsLen HG.out.1) HG.out.1.own HG.out.1.ok HG.out.1.root ?_
    rw [needL_eq]
    obtain ⟨nl, hnl⟩ : ∃ nl, nl = rising (needT T) := ⟨_, rfl⟩
    rw [← hnl]
    have HNL := Lib.hid hnl
    clear hnl
    repeat' (first | (simp only [zmPack, zxPack, ne_eq, zfree, owners, Nat.reduceLT, List.contains_cons, List.contains_nil, Nat.reduceBEq, BEq.rfl, chunk, setAt, List.lookup_cons, List.lookup_nil, reduceCtorEq, Nat.reduceEqDiff, reduceIte, implies_true, forall_const, Nat.reduceMul, Nat.reduceSub, Nat.reduceAdd, Nat.reduceLeDiff, *]) | (simp only [zgoO, zgoG, zO_nil, zthen_normal, zgoC]) | (with_reducible apply And.intro) | (with_reducible intro _))
    refine do_z HM.out HG.out.1 (fun _ => rfl) fun H2 g2 r e mk2 T2 hdo hM2 hfr => ?_
    obtain ⟨q1, q2⟩ := ri_begin' hdo HG.out
    subst q1
    have HM2 := Lib.hid hM2
    have HI := Lib.hid q2
    clear hdo hM2 hfr q2
    obtain ⟨exT, hctT⟩ := dd_cut (e := eI) (k := 1) (ex := false) (l := steps) (n := min steps.length 20) (Nat.min_le_left _ _)
    obtain ⟨ss, hss⟩ : ∃ ss, ss = steps.take (min steps.length 20) := ⟨_, rfl⟩
    have hsl : ss.length ≤ 20 := by rw [hss, List.length_take]; omega
    rw [← hss] at hctT
    have hbT : bestZ false (Z64 (steps.length : Nat)) [Z64 (20 : Int)] = some (Z64 ((min steps.length 20 : Nat) : Int)) := best_min (m := 20)
    have HSL := Lib.hid hsl
    clear hss hsl
    repeat' (first | (simp only [zmPack, zxPack, ne_eq, zfree, owners, Nat.reduceLT, List.contains_cons, List.contains_nil, Nat.reduceBEq, BEq.rfl, chunk, setAt, List.lookup_cons, List.lookup_nil, reduceCtorEq, Nat.reduceEqDiff, reduceIte, implies_true, forall_const, Nat.reduceMul, Nat.reduceSub, Nat.reduceAdd, Nat.reduceLeDiff, hbT, hctT, mv_num0, mv_num1, natZ_nat, Option.bind_some, Option.isSome_none, *]) | (simp only [zgoO, zgoG, zO_nil, zthen_normal, zgoC]) | (with_reducible apply And.intro) | (with_reducible intro _))
    clear hctT hbT
    refine zW_forK [(7, .ptr p 0), (65, .fz 1 exT (ss.map eI)), (11, .fz 1 false (nl.map eI))] ss.length (fun k s' h' => ∃ g T2, MkAt h' p t g kd true T2 ∧ RI kd T T2) (by have := HSL.out; omega) ⟨rfl, rfl, rfl, rfl, rfl, rfl⟩ rfl rfl (by repeat' (first | exact trivial | (refine ⟨rfl, ?_⟩) | (refine ⟨by simp only [zupd_at, Nat.reduceEqDiff, reduceIte]; assumption, ?_⟩))) rfl rfl (by decide) ⟨g2, T2, HM2.out, HI.out⟩ ?_ ?_
    · clear HI HM2
      rintro k s2 h2 hk ⟨g3, T3, hM3, hI3⟩ hi hl ⟨f7, f65, -⟩
      have hx : ss[k]? = some ss[k] := List.getElem?_eq_getElem hk
      obtain ⟨x, hxe⟩ : ∃ x, x = ss[k] := ⟨_, rfl⟩
      rw [← hxe] at hx
      have HM3 := Lib.hid hM3
      have HI3 := Lib.hid hI3
      clear hxe hM3 hI3
      repeat' (first | (simp only [zmPack, zxPack, ne_eq, zfree, owners, Nat.reduceLT, List.contains_cons, List.contains_nil, Nat.reduceBEq, BEq.rfl, chunk, setAt, List.lookup_cons, List.lookup_nil, reduceCtorEq, Nat.reduceEqDiff, reduceIte, implies_true, forall_const, Nat.reduceMul, Nat.reduceSub, Nat.reduceAdd, Nat.reduceLeDiff, hx, *]) | (simp only [zgoO, zgoG, zO_nil, zthen_normal, zgoC]) | (with_reducible apply And.intro) | (with_reducible intro _))
      refine rest_z (by omega) ?_
      repeat' (first | (simp only [zmPack, zxPack, ne_eq, zfree, owners, Nat.reduceLT, List.contains_cons, List.contains_nil, Nat.reduceBEq, BEq.rfl, chunk, setAt, List.lookup_cons, List.lookup_nil, reduceCtorEq, Nat.reduceEqDiff, reduceIte, implies_true, forall_const, Nat.reduceMul, Nat.reduceSub, Nat.reduceAdd, Nat.reduceLeDiff, *]) | (simp only [zgoO, zgoG, zO_nil, zthen_normal, zgoC]) | (with_reducible apply And.intro) | (with_reducible intro _))
      refine do_z HM3.out HI3.out.gs.1 (fun _ => rfl) fun H4 g4 r4 e4 mk4 T4 hdo hM4 hfr => ?_
      obtain ⟨q1, q2⟩ := ri_step hdo HI3.out
      subst q1
      have FN : Hid (∃ g T2, MkAt H4 p t g kd true T2 ∧ RI kd T T2) := Lib.hid ⟨g4, T4, hM4, q2⟩
      clear hdo hM4 hfr q2
      repeat' (first | (simp only [zmPack, zxPack, ne_eq, zfree, owners, Nat.reduceLT, List.contains_cons, List.contains_nil, Nat.reduceBEq, BEq.rfl, chunk, setAt, List.lookup_cons, List.lookup_nil, reduceCtorEq, Nat.reduceEqDiff, reduceIte, implies_true, forall_const, Nat.reduceMul, Nat.reduceSub, Nat.reduceAdd, Nat.reduceLeDiff, *]) | (simp only [zgoO, zgoG, zO_nil, zthen_normal, zgoC]) | (with_reducible apply And.intro) | (with_reducible intro _))
      all_goals exact FN.out
    · clear HI HM2
      rintro s2 h2 ⟨g3, T3, hM3, hI3⟩ ⟨f7, f65, f11, -⟩
      have HM3 := Lib.hid hM3
      have HI3 := Lib.hid hI3
      clear hM3 hI3
      repeat' (first | (simp only [zmPack, zxPack, ne_eq, zfree, owners, Nat.reduceLT, List.contains_cons, List.contains_nil, Nat.reduceBEq, BEq.rfl, chunk, setAt, List.lookup_cons, List.lookup_nil, reduceCtorEq, Nat.reduceEqDiff, reduceIte, implies_true, forall_const, Nat.reduceMul, Nat.reduceSub, Nat.reduceAdd, Nat.reduceLeDiff, *]) | (simp only [zgoO, zgoG, zO_nil, zthen_normal, zgoC]) | (with_reducible apply And.intro) | (with_reducible intro _))
      refine do_z HM3.out HI3.out.gs.1 (fun _ => rfl) fun H4 g4 r4 e4 mk4 T4 hdo hM4 hfr => ?_
      obtain ⟨q1, q2, q3, q4⟩ := ri_end hdo HI3.out HG.out.1
      subst q1; subst q2
      have hln := left_need q3 q4
      have h100 : T4.length ≤ 100 := by rw [q3]; exact HG.out.1.len
      have HLN := Lib.hid hln
      have HM4 := Lib.hid hM4
      have H100 := Lib.hid h100
      clear hdo hM4 hfr q3 q4 hln h100
      repeat' (first | (simp only [zmPack, zxPack, ne_eq, zfree, owners, Nat.reduceLT, List.contains_cons, List.contains_nil, Nat.reduceBEq, BEq.rfl, chunk, setAt, List.lookup_cons, List.lookup_nil, reduceCtorEq, Nat.reduceEqDiff, reduceIte, implies_true, forall_const, Nat.reduceMul, Nat.reduceSub, Nat.reduceAdd, Nat.reduceLeDiff, *]) | (simp only [zgoO, zgoG, zO_nil, zthen_normal, zgoC]) | (with_reducible apply And.intro) | (with_reducible intro _))
      refine colours_z (HM4.out.ext _) ?_
      obtain ⟨cl, hcl⟩ : ∃ cl, cl = colsOf T4 := ⟨_, rfl⟩
      have hcn : cl.length = T4.length := by rw [hcl, cols_len]
      rw [← hcl]
      have HCL := Lib.hid hcl
      have HCN := Lib.hid hcn
      clear hcl hcn
      repeat' (first | (simp only [zmPack, zxPack, ne_eq, zfree, owners, Nat.reduceLT, List.contains_cons, List.contains_nil, Nat.reduceBEq, BEq.rfl, chunk, setAt, List.lookup_cons, List.lookup_nil, reduceCtorEq, Nat.reduceEqDiff, reduceIte, implies_true, forall_const, Nat.reduceMul, Nat.reduceSub, Nat.reduceAdd, Nat.reduceLeDiff, *]) | (simp only [zgoO, zgoG, zO_nil, zthen_normal, zgoC]) | (with_reducible apply And.intro) | (with_reducible intro _))
      refine zW_forK [(84, .fz 1 false (cl.map eI)), (7, .ptr p 0), (11, .fz 1 false (nl.map eI)), (15, Z64 0)] cl.length (fun k s3 W => ∃ g5, s3 16 = .own H4.length g5 0 (leftTo T4 k).length false ∧ W = H4 ++ [.grow g5 1 ((leftTo T4 k).map eI)]) (by have := HCN.out; have := H100.out; omega) ⟨rfl, rfl, rfl, rfl, rfl, rfl⟩ rfl rfl (by repeat' (first | exact trivial | (refine ⟨rfl, ?_⟩) | (refine ⟨by simp only [zupd_at, Nat.reduceEqDiff, reduceIte]; assumption, ?_⟩))) rfl rfl (by decide) ⟨0, rfl, rfl⟩ ?_ ?_
      · rintro q s3 W hq ⟨g5, f16, rfl⟩ hi3 hl3 ⟨f84, f7, f11, f15, -⟩
        have hqT : q < T4.length := by rw [← HCN.out]; exact hq
        have hx : cl[q]? = some (cF T4 q) := by rw [HCL.out]; exact cols_at (n := 0) rfl hqT
        have hn := left_next hqT
        have hle : (leftTo T4 q).length ≤ q := by have := riseTo_length (leftB T4) q; unfold leftTo; exact this
        obtain ⟨c, hc⟩ : ∃ c, c = cF T4 q := ⟨_, rfl⟩
        rw [← hc] at hx hn
        have hap : appZ (fun _ => true) (H4 ++ [.grow g5 1 ((leftTo T4 q).map eI)]) 1 8 [[Z64 q]] (.own H4.length g5 0 (leftTo T4 q).length false) = some (.own H4.length (g5 + 1) 0 ((leftTo T4 q).length + 1) false, H4 ++ [.grow (g5 + 1) 1 ((leftTo T4 q ++ [(q : Int)]).map eI)]) := by
          have := H100.out
          rw [app_ownN (mv_at0 _ _) (by simp) (by unfold reach; simp; omega) rfl, mv_st0, List.map_append]; rfl
        have HN := Lib.hid hn
        clear hqT hc hn hle
        by_cases h3 : c = 3
        · subst h3
          repeat' (first | (simp only [zmPack, zxPack, ne_eq, zfree, owners, Nat.reduceLT, List.contains_cons, List.contains_nil, Nat.reduceBEq, BEq.rfl, chunk, setAt, List.lookup_cons, List.lookup_nil, reduceCtorEq, Nat.reduceEqDiff, reduceIte, implies_true, forall_const, Nat.reduceMul, Nat.reduceSub, Nat.reduceAdd, Nat.reduceLeDiff, hx, hap, *]) | (simp only [zgoO, zgoG, zO_nil, zthen_normal, zgoC]) | (with_reducible apply And.intro) | (with_reducible intro _))
          all_goals first | (rw [HN.out, if_neg (by decide), List.append_nil]; done) | (rw [HN.out, if_neg (by decide), List.append_nil]; exact ⟨_, rfl⟩) | (rw [HN.out, if_neg (by decide), List.append_nil]; exact ⟨_, rfl, rfl⟩) | (rw [HN.out, if_neg (by decide), List.append_nil]; exact ⟨_, ⟨rfl, rfl⟩, rfl⟩) | fail
        · repeat' (first | (simp only [zmPack, zxPack, ne_eq, zfree, owners, Nat.reduceLT, List.contains_cons, List.contains_nil, Nat.reduceBEq, BEq.rfl, chunk, setAt, List.lookup_cons, List.lookup_nil, reduceCtorEq, Nat.reduceEqDiff, reduceIte, implies_true, forall_const, Nat.reduceMul, Nat.reduceSub, Nat.reduceAdd, Nat.reduceLeDiff, hx, hap, h3, *]) | (simp only [zgoO, zgoG, zO_nil, zthen_normal, zgoC]) | (with_reducible apply And.intro) | (with_reducible intro _))
          all_goals first | (rw [HN.out, if_pos h3, List.length_append]; done) | (rw [HN.out, if_pos h3, List.length_append]; rfl) | (rw [HN.out, if_pos h3]; done) | (rw [HN.out, if_pos h3]; exact ⟨_, rfl⟩) | (rw [HN.out, if_pos h3, List.length_append]; exact ⟨_, rfl, rfl⟩) | (rw [HN.out, if_pos h3, List.length_append]; exact ⟨_, ⟨rfl, rfl⟩, rfl⟩) | fail
      · rintro s3 W ⟨g5, f16, rfl⟩ ⟨f84, f7, f11, f15, -⟩
        have e1 : leftTo T4 cl.length = nl := by rw [HCN.out, HLN.out, ← HNL.out]
        rw [e1] at f16 ⊢
        have hnl : nl.length ≤ 1000000 := by
          rw [← e1]
          have := riseTo_length (leftB T4) cl.length
          have := HCN.out
          have := H100.out
          unfold leftTo; omega
        have HNLL := Lib.hid hnl
        clear e1 hnl
        repeat' (first | (simp only [zmPack, zxPack, ne_eq, zfree, owners, Nat.reduceLT, List.contains_cons, List.contains_nil, Nat.reduceBEq, BEq.rfl, chunk, setAt, List.lookup_cons, List.lookup_nil, reduceCtorEq, Nat.reduceEqDiff, reduceIte, implies_true, forall_const, Nat.reduceMul, Nat.reduceSub, Nat.reduceAdd, Nat.reduceLeDiff, *]) | (simp only [zgoO, zgoG, zO_nil, zthen_normal, zgoC]) | (with_reducible apply And.intro) | (with_reducible intro _))
        refine eqint_z (a := nl) (b := nl) (rows_whole (mv_at0 _ _) (by simp)) rows_fz HNLL.out HNLL.out ?_
        have e2 : decide (nl = nl) = true := by simp
        rw [e2]
        clear e2
        repeat' (first | (simp only [zmPack, zxPack, ne_eq, zfree, owners, Nat.reduceLT, List.contains_cons, List.contains_nil, Nat.reduceBEq, BEq.rfl, chunk, setAt, List.lookup_cons, List.lookup_nil, reduceCtorEq, Nat.reduceEqDiff, reduceIte, implies_true, forall_const, Nat.reduceMul, Nat.reduceSub, Nat.reduceAdd, Nat.reduceLeDiff, *]) | (simp only [zgoO, zgoG, zO_nil, zthen_normal, zgoC]) | (with_reducible apply And.intro) | (with_reducible intro _))
        refine marking_z (HM4.out.ext _) ?_
        have fin := FI.out (H4 ++ [.grow g5 1 (nl.map eI)])
        repeat' (first | (simp only [zmPack, zxPack, ne_eq, zfree, owners, Nat.reduceLT, List.contains_cons, List.contains_nil, Nat.reduceBEq, BEq.rfl, chunk, setAt, List.lookup_cons, List.lookup_nil, reduceCtorEq, Nat.reduceEqDiff, reduceIte, implies_true, forall_const, Nat.reduceMul, Nat.reduceSub, Nat.reduceAdd, Nat.reduceLeDiff, *]) | (simp only [zgoO, zgoG, zO_nil, zthen_normal, zgoC]) | (with_reducible apply And.intro) | (with_reducible intro _))
end Go.Proofs.Ytpeagenjmmkohaa

namespace Go.Proofs.Ytpeagenjmmkohaa
open Go Go.RowKit Go.ChangeShapes Go.WideShapes Go.ChangeAt
set_option linter.unusedVariables false
set_option linter.unusedSimpArgs false
set_option maxRecDepth 100000 in
theorem markraces_lifted (os : Os) (started : os.Started) (H : Type) (enc : TypeId × Value → H) :
    ReturnsInHanded {} Try.checked os 10 .any (Rows.markRacesSpec.pre6 enc Try.prog Try.f10 Rows.markRacesRow.domain false) (Rows.markRacesSpec.post enc Try.prog Try.f10 false true false false) := by
  refine law_lifted (C := Try.checked) 12 [(false, .int .i64), (false, .slice 32 (.prod (.int .i64) (.prod (.int .i64) (.prod (.int .i64) (.int .i64))))), (false, .slice 8 (.int .i64))] 4 Try.own Try.laidOut started (by kernel_rfl) Try.func10
    (ChangeSpec.witness6 (enc := enc) (C := Try.checked) false ⟨#[], #[.int .i64 0, .slice none 0 0, .slice none 0 0], []⟩ 8 (by kernel_rfl) (by kernel_rfl) (by kernel_rfl) (by kernel_rfl))
    rfl (by kernel_rfl) Try.underlying4 (fun ds h => ?_) (by kernel_rfl) (by kernel_rfl) (fun W args h => ?_)
  · match ds, h with
    | [d0, d1, d2], _ => rfl
  · refine zm_walk (by kernel_rfl) (constX_ok (n := 200) (F := cFunc Try.prog) (by kernel_rfl) (fun f af h => h) tbMk (by intro p hp; rw [List.mem_singleton.1 hp]; kernel_rfl)) (fun f af h => h) rfl (fun zl hz => ?_) W args h
    obtain ⟨kind, _, rfl, _, _, l, _, rfl, hl, sl, r, _, rfl, hr, sr, rfl⟩ := hz
    have a1 := sr.1
    exact markraces_z (kind := kind) (l := l) (steps := r) (by omega)
theorem markraces_holds : Rows.MarkRacesSaid :=
  OpenClaim.holds_of_wide 10 Try.f10 rfl rfl rfl rfl rfl rfl rfl ⟨rfl, rfl, rfl, rfl, rfl⟩ rfl rfl rfl rfl rfl (by kernel_rfl) Try.func10 (by kernel_rfl) (of_decide_eq_true (by kernel_rfl)) (by unfold Func.isWrapper; first | (rw [if_pos (by decide +kernel)]; kernel_rfl) | (rw [if_neg (by decide +kernel)]; exact ⟨rfl, rfl⟩))
    (fun os started H enc _ => markraces_lifted os started H enc)
end Go.Proofs.Ytpeagenjmmkohaa
