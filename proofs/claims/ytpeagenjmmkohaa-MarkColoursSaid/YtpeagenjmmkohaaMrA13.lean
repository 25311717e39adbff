/-
  Proved: the law MarkColours answers true, whatever the input: of the first kind no black thing has a white one; of the second kind each needed white thing is a grey one's, or such a white one's.
-/
import Derived.Test.YtpeagenjmmkohaaMrA12
namespace Go.Proofs.Ytpeagenjmmkohaa
open Go Go.RowKit
set_option linter.unusedVariables false
set_option linter.unusedSimpArgs false
section
variable {kd : Int} {mk : Bool} {T : List TB}
/-- What white and grey ones have; grey ones. -/
def whas (T : List TB) : List (List Int) := T.map fun x => if x.2.2.1 > 1 then [] else keepN x.2.1
def greyTo (T : List TB) (k : Nat) : List Int := riseTo (T.map greyB) k
theorem whas_next {k : Nat} (hk : k < T.length) : whas (T.take (k + 1)) = whas (T.take k) ++ [if T[k].2.2.1 > 1 then [] else keepN T[k].2.1] := by
  unfold whas; rw [List.take_succ_eq_append_getElem hk, List.map_append]; rfl
theorem grey_next {k : Nat} (hk : k < T.length) : greyTo T (k + 1) = greyTo T k ++ (if T[k].2.2.1 = 1 then [(k : Int)] else []) := by
  unfold greyTo
  rw [riseTo_succ]
  have : (T.map greyB).getD k false = decide (T[k].2.2.1 = 1) := by simp [List.getD, hk, greyB]
  rw [this]
  by_cases h : T[k].2.2.1 = 1 <;> simp [h]
theorem whas_mem {n : Nat} {y : Int} : y ∈ (whas T).getD n [] ↔ 0 ≤ y ∧ eF T n y.toNat ∧ cF T n ≤ 1 := by
  unfold whas eF cF
  rw [List.getD_eq_getElem?_getD, List.getElem?_map]
  cases T[n]? with
  | none => simp
  | some x =>
    simp only [Option.map_some, Option.getD_some]
    by_cases h : x.2.2.1 > 1
    · rw [if_pos h]
      constructor
      · intro q; cases q
      · rintro ⟨_, _, q⟩; omega
    · rw [if_neg h]
      simp only [keepN, List.mem_filter]
      constructor
      · rintro ⟨h1, h2⟩
        have h2 : ¬ y < 0 := by simpa using h2
        exact ⟨by omega, ⟨x, rfl, by rw [Int.toNat_of_nonneg (by omega)]; exact h1⟩, by omega⟩
      · rintro ⟨h0, ⟨z, hz, hm⟩, _⟩
        injection hz with hz
        subst hz
        rw [Int.toNat_of_nonneg h0] at hm
        exact ⟨hm, by simp; omega⟩
def greys (T : List TB) : List Int := greyTo T T.length
theorem greys_eq : greys T = rising (T.map greyB) := by unfold greys greyTo rising; rw [List.length_map]
theorem greys_mem {n : Nat} : (n : Int) ∈ greys T ↔ cF T n = 1 := by
  rw [greys_eq, mem_rising, Int.toNat_natCast]
  unfold Sn
  rw [List.getD_eq_getElem?_getD, List.getElem?_map]
  unfold cF
  cases T[n]? with
  | none => simp
  | some x => simp [greyB]
theorem wr_liv (g : GS kd mk T) {n : Nat} (h : Wr (cF T) (eF T) n) : Liv (whas T) [] (greys T) n := by
  induction h with
  | @grey n hg =>
    have := Liv.base (has := whas T) (ps := []) (greys_mem.2 hg)
    rwa [Int.toNat_natCast] at this
  | @edge n k _ hc he ih =>
    have := Liv.cl (whas T) [] (greys T) n ih (k : Int) (whas_mem.2 ⟨by omega, by rw [Int.toNat_natCast]; exact he, by omega⟩)
    rwa [Int.toNat_natCast] at this
theorem whas_len : (whas T).length = T.length := by simp [whas]
theorem whas_ok (h : Rng T) : okHas (whas T) (whas T).length := by
  refine ⟨rfl, fun o ho y hy => ?_⟩
  obtain ⟨x, hx, rfl⟩ := List.mem_map.1 ho
  rw [whas_len]
  split at hy
  · cases hy
  · have hm := List.mem_filter.1 hy
    have := h.rng x hx y hm.1
    have h0 : ¬ y < 0 := by simpa using hm.2
    omega
theorem whas_own (h : Rng T) : ∀ o ∈ whas T, o.length ≤ 1000 := fun o ho => by
  obtain ⟨x, hx, rfl⟩ := List.mem_map.1 ho
  split
  · simp
  · have h1 := h.sm x hx
    have h2 := List.length_filter_le (fun x => !decide (x < 0)) x.2.1
    unfold keepN; omega
theorem greys_rng : ∀ x ∈ greys T, 0 ≤ x ∧ x < ((whas T).length : Int) := fun x hx => by
  rw [greys_eq] at hx
  obtain ⟨h0, h1⟩ := mem_rising.1 hx
  have := Sn_lt h1
  rw [whas_len]; simp at this; omega
theorem greys_cnt : (greys T).length ≤ T.length := by have := riseTo_length (T.map greyB) T.length; unfold greys greyTo; omega
end
set_option maxHeartbeats 8000000 in
theorem markcolours_z {kind : Int} {l : List Dd} :
    ZC (constX tbMk) (cFunc Try.prog) 9 [Z64 kind, .fz 4 false (l.map eD)] (fun _ => true) [] fun z _ => z = ZBo true := by
  refine ZC.enter ⟨[(16, [(0, 1)]), (93, [(0, 1)]), (19, [(0, 1001)])], [], []⟩ constX_none f_mk_cols (by simp) ?_
  simp only [c_mk_cols]
  have fin : ∀ X, Fin [] (ZBo true) X (fun z _ => z = ZBo true) := fun X => Fin.trunc (Mods.ext [] X) rfl rfl
  have FI := Lib.hid fin
  clear fin
  repeat' (first | (simp only [zmPack, zxPack, ne_eq, zfree, owners, Nat.reduceLT, List.contains_cons, List.contains_nil, Nat.reduceBEq, BEq.rfl, chunk, setAt, List.lookup_cons, List.lookup_nil, reduceCtorEq, Nat.reduceEqDiff, reduceIte, implies_true, forall_const, Nat.reduceMul, Nat.reduceSub, Nat.reduceAdd, Nat.reduceLeDiff, *]) | (simp only [zgoO, zgoG, zO_nil, zthen_normal, zgoC]) | (with_reducible apply And.intro) | (with_reducible intro _))
  refine marked_z ?_
  repeat' (first | (simp only [zmPack, zxPack, ne_eq, zfree, owners, Nat.reduceLT, List.contains_cons, List.contains_nil, Nat.reduceBEq, BEq.rfl, chunk, setAt, List.lookup_cons, List.lookup_nil, reduceCtorEq, Nat.reduceEqDiff, reduceIte, implies_true, forall_const, Nat.reduceMul, Nat.reduceSub, Nat.reduceAdd, Nat.reduceLeDiff, *]) | (simp only [zgoO, zgoG, zO_nil, zthen_normal, zgoC]) | (with_reducible apply And.intro) | (with_reducible intro _))
  refine rest_z (by omega) ?_
  obtain ⟨kd, hkd⟩ : ∃ kd, kd = 1 + kind % 2 := ⟨_, rfl⟩
  have hk12 : kd = 1 ∨ kd = 2 := by omega
  have w1 : IntKind.i64.wrap (1 + kind % 2) = kd := by rw [IntWalk.i64_in _ (by omega), hkd]
  obtain ⟨kr, hkr⟩ : ∃ kr, kr = kind % 2 := ⟨_, rfl⟩
  rw [← hkr] at w1 ⊢
  have HK12 := Lib.hid hk12
  clear hkd hk12 hkr
  repeat' (first | (simp only [zmPack, zxPack, ne_eq, zfree, owners, Nat.reduceLT, List.contains_cons, List.contains_nil, Nat.reduceBEq, BEq.rfl, chunk, setAt, List.lookup_cons, List.lookup_nil, reduceCtorEq, Nat.reduceEqDiff, reduceIte, implies_true, forall_const, Nat.reduceMul, Nat.reduceSub, Nat.reduceAdd, Nat.reduceLeDiff, w1, *]) | (simp only [zgoO, zgoG, zO_nil, zthen_normal, zgoC]) | (with_reducible apply And.intro) | (with_reducible intro _))
  refine new_z HK12.out fun H0 p t hM0 => ?_
  obtain ⟨ex2, hct⟩ := dd_cut (e := eD) (k := 4) (ex := false) (l := l) (n := min l.length 80) (Nat.min_le_left _ _)
  obtain ⟨ds, hds⟩ : ∃ ds, ds = l.take (min l.length 80) := ⟨_, rfl⟩
  have hlen : ds.length ≤ 80 := by rw [hds, List.length_take]; omega
  rw [← hds] at hct
  have hbm : bestZ false (Z64 (l.length : Nat)) [Z64 (80 : Int)] = some (Z64 ((min l.length 80 : Nat) : Int)) := best_min (m := 80)
  have HM0 := Lib.hid hM0
  have HLEN := Lib.hid hlen
  clear hds hM0 hlen w1
  have hnil : ∀ (H : ZH) i o, nilZ H 1 (.ptr i o) = some false := fun _ _ _ => rfl
  repeat' (first | (simp only [zmPack, zxPack, ne_eq, zfree, owners, Nat.reduceLT, List.contains_cons, List.contains_nil, Nat.reduceBEq, BEq.rfl, chunk, setAt, List.lookup_cons, List.lookup_nil, reduceCtorEq, Nat.reduceEqDiff, reduceIte, implies_true, forall_const, Nat.reduceMul, Nat.reduceSub, Nat.reduceAdd, Nat.reduceLeDiff, hnil, *]) | (simp only [zgoO, zgoG, zO_nil, zthen_normal, zgoC]) | (with_reducible apply And.intro) | (with_reducible intro _))
  refine marked_z ?_
  repeat' (first | (simp only [zmPack, zxPack, ne_eq, zfree, owners, Nat.reduceLT, List.contains_cons, List.contains_nil, Nat.reduceBEq, BEq.rfl, chunk, setAt, List.lookup_cons, List.lookup_nil, reduceCtorEq, Nat.reduceEqDiff, reduceIte, implies_true, forall_const, Nat.reduceMul, Nat.reduceSub, Nat.reduceAdd, Nat.reduceLeDiff, hbm, hct, mv_num0, mv_num1, natZ_nat, Option.bind_some, Option.isSome_none, *]) | (simp only [zgoO, zgoG, zO_nil, zthen_normal, zgoC]) | (with_reducible apply And.intro) | (with_reducible intro _))
  clear hct hbm hnil
  refine zW_forK [(6, .ptr p 0), (5, Z64 kd), (47, .fz 4 ex2 (ds.map eD))] ds.length (fun k s' h' => ∃ g mk T, MkAt h' p t g kd mk T ∧ GS kd mk T) (by have := HLEN.out; omega) ⟨rfl, rfl, rfl, rfl, rfl, rfl⟩ rfl rfl (by repeat' (first | exact trivial | (refine ⟨rfl, ?_⟩) | (refine ⟨by simp only [zupd_at, Nat.reduceEqDiff, reduceIte]; assumption, ?_⟩))) rfl rfl (by decide) ⟨0, false, [], HM0.out, gs_start HK12.out⟩ ?_ ?_
  · rintro k s' h' hk ⟨g, mk, T, hM, hG⟩ hi hl ⟨f6, f5, f47, -⟩
    have hx : ds[k]? = some ds[k] := List.getElem?_eq_getElem hk
    obtain ⟨d, hd⟩ : ∃ d, d = ds[k] := ⟨_, rfl⟩
    rw [← hd] at hx
    obtain ⟨d1, d2, d3, d4⟩ := d
    have HM := Lib.hid hM
    have HG := Lib.hid hG
    clear hd hM hG
    repeat' (first | (simp only [zmPack, zxPack, ne_eq, zfree, owners, Nat.reduceLT, List.contains_cons, List.contains_nil, Nat.reduceBEq, BEq.rfl, chunk, setAt, List.lookup_cons, List.lookup_nil, reduceCtorEq, Nat.reduceEqDiff, reduceIte, implies_true, forall_const, Nat.reduceMul, Nat.reduceSub, Nat.reduceAdd, Nat.reduceLeDiff, hx, *]) | (simp only [zgoO, zgoG, zO_nil, zthen_normal, zgoC]) | (with_reducible apply And.intro) | (with_reducible intro _))
    refine do_z (HM.out.ext _) HG.out.1 (fun _ => rfl) fun H2 g2 r e mk2 T2 hdo hM2 hfr => ?_
    have hG2 := do_good hdo HG.out
    have HM2 := Lib.hid hM2
    have HG2 := Lib.hid hG2
    have FN : Hid (∀ Y, ∃ g3 mk3 T3, MkAt (H2 ++ Y) p t g3 kd mk3 T3 ∧ GS kd mk3 T3) := Lib.hid fun Y => ⟨g2, mk2, T2, HM2.out.ext Y, HG2.out⟩
    have FN0 : Hid (∃ g3 mk3 T3, MkAt H2 p t g3 kd mk3 T3 ∧ GS kd mk3 T3) := Lib.hid ⟨g2, mk2, T2, HM2.out, HG2.out⟩
    clear hdo hM2 hfr hG2
    repeat' (first | (simp only [zmPack, zxPack, ne_eq, zfree, owners, Nat.reduceLT, List.contains_cons, List.contains_nil, Nat.reduceBEq, BEq.rfl, chunk, setAt, List.lookup_cons, List.lookup_nil, reduceCtorEq, Nat.reduceEqDiff, reduceIte, implies_true, forall_const, Nat.reduceMul, Nat.reduceSub, Nat.reduceAdd, Nat.reduceLeDiff, *]) | (simp only [zgoO, zgoG, zO_nil, zthen_normal, zgoC]) | (with_reducible apply And.intro) | (with_reducible intro _))
    refine marking_z HM2.out ?_
    cases mk2 with
    | false =>
      repeat' (first | (simp only [zmPack, zxPack, ne_eq, zfree, owners, Nat.reduceLT, List.contains_cons, List.contains_nil, Nat.reduceBEq, BEq.rfl, chunk, setAt, List.lookup_cons, List.lookup_nil, reduceCtorEq, Nat.reduceEqDiff, reduceIte, implies_true, forall_const, Nat.reduceMul, Nat.reduceSub, Nat.reduceAdd, Nat.reduceLeDiff, *]) | (simp only [zgoO, zgoG, zO_nil, zthen_normal, zgoC]) | (with_reducible apply And.intro) | (with_reducible intro _))
      all_goals exact FN0.out
    | true =>
      repeat' (first | (simp only [zmPack, zxPack, ne_eq, zfree, owners, Nat.reduceLT, List.contains_cons, List.contains_nil, Nat.reduceBEq, BEq.rfl, chunk, setAt, List.lookup_cons, List.lookup_nil, reduceCtorEq, Nat.reduceEqDiff, reduceIte, implies_true, forall_const, Nat.reduceMul, Nat.reduceSub, Nat.reduceAdd, Nat.reduceLeDiff, *]) | (simp only [zgoO, zgoG, zO_nil, zthen_normal, zgoC]) | (with_reducible apply And.intro) | (with_reducible intro _))
      refine graph_z HM2.out ?_
      repeat' (first | (simp only [zmPack, zxPack, ne_eq, zfree, owners, Nat.reduceLT, List.contains_cons, List.contains_nil, Nat.reduceBEq, BEq.rfl, chunk, setAt, List.lookup_cons, List.lookup_nil, reduceCtorEq, Nat.reduceEqDiff, reduceIte, implies_true, forall_const, Nat.reduceMul, Nat.reduceSub, Nat.reduceAdd, Nat.reduceLeDiff, *]) | (simp only [zgoO, zgoG, zO_nil, zthen_normal, zgoC]) | (with_reducible apply And.intro) | (with_reducible intro _))
      refine colours_z HM2.out ?_
      obtain ⟨cl, hcl⟩ : ∃ cl, cl = colsOf T2 := ⟨_, rfl⟩
      have hca : ∀ m, m < T2.length → cl[m]? = some (cF T2 m) := fun m hm => by rw [hcl]; exact cols_at (n := 0) rfl hm
      have hcn : cl.length = T2.length := by rw [hcl, cols_len]
      rw [← hcl]
      have HCA := Lib.hid hca
      have HCN := Lib.hid hcn
      clear hcl hca hcn
      have hTl : T2.length ≤ 100 := HG2.out.1.len
      have HTL := Lib.hid hTl
      clear hTl
      by_cases hk1 : kd = 1
      · subst hk1
        have hhl : (hasOf T2).length < 9223372036854775807 := by rw [hasOf_len]; have := HTL.out; omega
        repeat' (first | (simp only [zmPack, zxPack, ne_eq, zfree, owners, Nat.reduceLT, List.contains_cons, List.contains_nil, Nat.reduceBEq, BEq.rfl, chunk, setAt, List.lookup_cons, List.lookup_nil, reduceCtorEq, Nat.reduceEqDiff, reduceIte, implies_true, forall_const, Nat.reduceMul, Nat.reduceSub, Nat.reduceAdd, Nat.reduceLeDiff, *]) | (simp only [zgoO, zgoG, zO_nil, zthen_normal, zgoC]) | (with_reducible apply And.intro) | (with_reducible intro _))
        refine zW_forK [(66, .fz 1 false ((hasOf T2).map eL)), (11, .fz 1 false (cl.map eI))] (hasOf T2).length (fun _ _ W => W = H2 ++ [.box [.fz 1 false ((hasOf T2).map eL), .fz 1 false ((rising (heldB T2)).map eI)]]) hhl ⟨rfl, rfl, rfl, rfl, rfl, rfl⟩ rfl rfl (by repeat' (first | exact trivial | (refine ⟨rfl, ?_⟩) | (refine ⟨by simp only [zupd_at, Nat.reduceEqDiff, reduceIte]; assumption, ?_⟩))) rfl rfl (by decide) rfl ?_ ?_
        · rintro q s2 W hq rfl hi2 hl2 ⟨f66, f11, -⟩
          have hy : (hasOf T2)[q]? = some (hasOf T2)[q] := List.getElem?_eq_getElem hq
          have hqT : q < T2.length := by rw [hasOf_len] at hq; exact hq
          have hmem : ∀ y ∈ (hasOf T2)[q], 0 ≤ y ∧ eF T2 q y.toNat := fun y hy => has_mem.1 (by simp [List.getD, hq]; exact hy)
          have hol := HG2.out.1.own _ (List.getElem_mem hq)
          obtain ⟨o, ho⟩ : ∃ o, o = (hasOf T2)[q] := ⟨_, rfl⟩
          rw [← ho] at hy hmem hol
          have hcq := HCA.out q hqT
          have hqc : q < cl.length := by rw [HCN.out]; exact hqT
          have HME := Lib.hid hmem
          have HOL := Lib.hid hol
          clear ho hmem hol hqT hhl
          repeat' (first | (simp only [zmPack, zxPack, ne_eq, zfree, owners, Nat.reduceLT, List.contains_cons, List.contains_nil, Nat.reduceBEq, BEq.rfl, chunk, setAt, List.lookup_cons, List.lookup_nil, reduceCtorEq, Nat.reduceEqDiff, reduceIte, implies_true, forall_const, Nat.reduceMul, Nat.reduceSub, Nat.reduceAdd, Nat.reduceLeDiff, hy, *]) | (simp only [zgoO, zgoG, zO_nil, zthen_normal, zgoC]) | (with_reducible apply And.intro) | (with_reducible intro _))
          refine zW_forK [(73, zI o), (12, Z64 (q : Nat)), (11, .fz 1 false (cl.map eI))] o.length (fun _ _ W => W = H2 ++ [.box [.fz 1 false ((hasOf T2).map eL), .fz 1 false ((rising (heldB T2)).map eI)]]) (by have := HOL.out; omega) ⟨rfl, rfl, rfl, rfl, rfl, rfl⟩ rfl rfl (by repeat' (first | exact trivial | (refine ⟨rfl, ?_⟩) | (refine ⟨by simp only [zupd_at, Nat.reduceEqDiff, reduceIte]; assumption, ?_⟩))) rfl rfl (by decide) rfl ?_ ?_
          · rintro m s3 W hm rfl hi3 hl3 ⟨f73, f12, f11, -⟩
            have hz : o[m]? = some o[m] := List.getElem?_eq_getElem hm
            obtain ⟨h0, he⟩ := HME.out _ (List.getElem_mem hm)
            obtain ⟨j, hj⟩ := Int.eq_ofNat_of_zero_le h0
            rw [hj] at hz he
            rw [Int.toNat_natCast] at he
            have hjT := (eF_lt HG2.out.1 he).2
            have hcj := HCA.out j hjT
            have hjc : j < cl.length := by rw [HCN.out]; exact hjT
            have hd := HG2.out.2.d1 rfl rfl q j
            obtain ⟨c1, hc1⟩ : ∃ c1, c1 = cF T2 q := ⟨_, rfl⟩
            obtain ⟨c2, hc2⟩ : ∃ c2, c2 = cF T2 j := ⟨_, rfl⟩
            rw [← hc1] at hcq hd
            rw [← hc2] at hcj hd
            by_cases h2 : c1 = 2
            · have hne := hd h2 he
              subst h2
              clear hd hj h0 he hjT hc1 hc2 hy
              repeat' (first | (simp only [zmPack, zxPack, ne_eq, zfree, owners, Nat.reduceLT, List.contains_cons, List.contains_nil, Nat.reduceBEq, BEq.rfl, chunk, setAt, List.lookup_cons, List.lookup_nil, reduceCtorEq, Nat.reduceEqDiff, reduceIte, implies_true, forall_const, Nat.reduceMul, Nat.reduceSub, Nat.reduceAdd, Nat.reduceLeDiff, hz, hcq, hqc, hcj, hjc, hne, *]) | (simp only [zgoO, zgoG, zO_nil, zthen_normal, zgoC]) | (with_reducible apply And.intro) | (with_reducible intro _))
            · clear hd hj h0 he hjT hc1 hc2 hy
              repeat' (first | (simp only [zmPack, zxPack, ne_eq, zfree, owners, Nat.reduceLT, List.contains_cons, List.contains_nil, Nat.reduceBEq, BEq.rfl, chunk, setAt, List.lookup_cons, List.lookup_nil, reduceCtorEq, Nat.reduceEqDiff, reduceIte, implies_true, forall_const, Nat.reduceMul, Nat.reduceSub, Nat.reduceAdd, Nat.reduceLeDiff, hz, hcq, hqc, h2, *]) | (simp only [zgoO, zgoG, zO_nil, zthen_normal, zgoC]) | (with_reducible apply And.intro) | (with_reducible intro _))
          · rintro s3 W rfl ⟨f73, f12, f11, -⟩
            clear hy hcq hqc
            repeat' (first | (simp only [zmPack, zxPack, ne_eq, zfree, owners, Nat.reduceLT, List.contains_cons, List.contains_nil, Nat.reduceBEq, BEq.rfl, chunk, setAt, List.lookup_cons, List.lookup_nil, reduceCtorEq, Nat.reduceEqDiff, reduceIte, implies_true, forall_const, Nat.reduceMul, Nat.reduceSub, Nat.reduceAdd, Nat.reduceLeDiff, *]) | (simp only [zgoO, zgoG, zO_nil, zthen_normal, zgoC]) | (with_reducible apply And.intro) | (with_reducible intro _))
        · rintro s2 W rfl ⟨f66, f11, -⟩
          clear hhl
          repeat' (first | (simp only [zmPack, zxPack, ne_eq, zfree, owners, Nat.reduceLT, List.contains_cons, List.contains_nil, Nat.reduceBEq, BEq.rfl, chunk, setAt, List.lookup_cons, List.lookup_nil, reduceCtorEq, Nat.reduceEqDiff, reduceIte, implies_true, forall_const, Nat.reduceMul, Nat.reduceSub, Nat.reduceAdd, Nat.reduceLeDiff, *]) | (simp only [zgoO, zgoG, zO_nil, zthen_normal, zgoC]) | (with_reducible apply And.intro) | (with_reducible intro _))
          all_goals exact FN.out _
      · have hk2 : kd = 2 := by have := HK12.out; omega
        subst hk2
        obtain ⟨GB, hGB⟩ : ∃ GB, GB = ZB.box [.fz 1 false ((hasOf T2).map eL), .fz 1 false ((rising (heldB T2)).map eI)] := ⟨_, rfl⟩
        have hhl : (hasOf T2).length < 9223372036854775807 := by rw [hasOf_len]; have := HTL.out; omega
        have HHL := Lib.hid hhl
        clear hhl
        repeat' (first | (simp only [zmPack, zxPack, ne_eq, zfree, owners, Nat.reduceLT, List.contains_cons, List.contains_nil, Nat.reduceBEq, BEq.rfl, chunk, setAt, List.lookup_cons, List.lookup_nil, reduceCtorEq, Nat.reduceEqDiff, reduceIte, implies_true, forall_const, Nat.reduceMul, Nat.reduceSub, Nat.reduceAdd, Nat.reduceLeDiff, zown_nil1, *]) | (simp only [zgoO, zgoG, zO_nil, zthen_normal, zgoC]) | (with_reducible apply And.intro) | (with_reducible intro _))
        rw [← hGB]
        have HGB := Lib.hid hGB
        clear hGB
        refine zW_forK [(95, .fz 1 false ((hasOf T2).map eL)), (11, .fz 1 false (cl.map eI)), (17, .ptr (H2.length + 3) 0), (10, .ptr H2.length 0)] (hasOf T2).length (fun q s2 W => ∃ g1 g3, s2 16 = .own (H2.length + 1) g1 0 (greyTo T2 q).length false ∧ W = H2 ++ [GB, .grow g1 1 ((greyTo T2 q).map eI), .grow g3 1 ((whas (T2.take q)).map eL), .box [.own (H2.length + 2) g3 0 q false, .nil]]) HHL.out ⟨rfl, rfl, rfl, rfl, rfl, rfl⟩ rfl rfl (by repeat' (first | exact trivial | (refine ⟨rfl, ?_⟩) | (refine ⟨by simp only [zupd_at, Nat.reduceEqDiff, reduceIte]; assumption, ?_⟩))) rfl rfl (by decide) ⟨0, 0, rfl, by rw [HGB.out]; rfl⟩ ?_ ?_
        · rintro q s2 W hq ⟨g1, g3, f16, rfl⟩ hi2 hl2 ⟨f95, f11, f17, f10, -⟩
          have hqT : q < T2.length := by rw [hasOf_len] at hq; exact hq
          have hy : (hasOf T2)[q]? = some (keepN T2[q].2.1) := by unfold hasOf; rw [List.getElem?_map, List.getElem?_eq_getElem hqT]; rfl
          have hcq := HCA.out q hqT
          have hqc : q < cl.length := by rw [HCN.out]; exact hqT
          have hgn := grey_next hqT
          have hwn := whas_next hqT
          rw [cF_at (List.getElem?_eq_getElem hqT)] at hcq
          obtain ⟨c, hc⟩ : ∃ c, c = T2[q].2.2.1 := ⟨_, rfl⟩
          obtain ⟨o, ho⟩ : ∃ o, o = keepN T2[q].2.1 := ⟨_, rfl⟩
          rw [← hc] at hcq hgn hwn
          rw [← ho] at hy hwn
          have hgl : (greyTo T2 q).length ≤ q := by have := riseTo_length (T2.map greyB) q; unfold greyTo; exact this
          have hap1 : ∀ A B C, appZ (fun _ => true) (H2 ++ [A, .grow g1 1 ((greyTo T2 q).map eI), B, C]) 1 8 [[Z64 q]] (.own (H2.length + 1) g1 0 (greyTo T2 q).length false) = some (.own (H2.length + 1) (g1 + 1) 0 ((greyTo T2 q).length + 1) false, H2 ++ [A, .grow (g1 + 1) 1 ((greyTo T2 q ++ [(q : Int)]).map eI), B, C]) := fun A B C => by
            rw [app_ownN (mv_at1 _ _ _) (by simp) (by have := HTL.out; unfold reach; simp; omega) rfl, mv_st1, List.map_append]; rfl
          have hap2 : ∀ (x : List Int) A B C, appZ (fun _ => true) (H2 ++ [A, B, .grow g3 1 ((whas (T2.take q)).map eL), C]) 1 24 [[.fz 1 false (x.map eI)]] (.own (H2.length + 2) g3 0 q false) = some (.own (H2.length + 2) (g3 + 1) 0 (q + 1) false, H2 ++ [A, B, .grow (g3 + 1) 1 ((whas (T2.take q) ++ [x]).map eL), C]) := fun x A B C => by
            have hwl : (whas (T2.take q)).length = q := by rw [whas_len]; simp; omega
            rw [app_ownN (by rw [List.getElem?_append_right (by omega), Nat.add_sub_cancel_left]; rfl) (by rw [List.length_map]; exact hwl) (by have := HTL.out; unfold reach; simp; omega) rfl, List.set_append_right _ _ (by omega), Nat.add_sub_cancel_left, List.map_append]; rfl
          have hap20 := hap2 []
          have hap2o := hap2 o
          rw [List.map_nil] at hap20
          have HGN := Lib.hid hgn
          have HWN := Lib.hid hwn
          have HA1 := Lib.hid hap1
          have HA20 := Lib.hid hap20
          have HA2o := Lib.hid hap2o
          clear hqT hc ho hgn hwn hgl hap1 hap2 hap20 hap2o
          by_cases h1 : c = 1
          · have n1 : ¬ (1 : Int) < c := by omega
            have E1 : Hid (greyTo T2 (q + 1) = greyTo T2 q ++ [(q : Int)]) := Lib.hid (by rw [HGN.out, if_pos h1])
            have E2 : Hid (whas (T2.take (q + 1)) = whas (T2.take q) ++ [o]) := Lib.hid (by rw [HWN.out, if_neg (by omega)])
            have hap1 := HA1.out
            have hap2 := HA2o.out
            subst h1
            repeat' (first | (simp only [zmPack, zxPack, ne_eq, zfree, owners, Nat.reduceLT, List.contains_cons, List.contains_nil, Nat.reduceBEq, BEq.rfl, chunk, setAt, List.lookup_cons, List.lookup_nil, reduceCtorEq, Nat.reduceEqDiff, reduceIte, implies_true, forall_const, Nat.reduceMul, Nat.reduceSub, Nat.reduceAdd, Nat.reduceLeDiff, hy, hcq, hqc, hap1, hap2, zown_fz1, *]) | (simp only [zgoO, zgoG, zO_nil, zthen_normal, zgoC]) | (with_reducible apply And.intro) | (with_reducible intro _))
            all_goals first | (rw [E1.out, List.length_append]; done) | (rw [E1.out, List.length_append]; rfl) | (rw [E1.out]; done) | (rw [E1.out, E2.out]; exact ⟨_, rfl⟩) | (rw [E1.out, E2.out]; exact ⟨_, _, rfl⟩) | (rw [E1.out, E2.out]; exact ⟨_, _, rfl, rfl⟩) | (rw [E2.out]; exact ⟨_, rfl⟩)
          · by_cases h2 : 1 < c
            · have E1 : Hid (greyTo T2 (q + 1) = greyTo T2 q) := Lib.hid (by rw [HGN.out, if_neg h1, List.append_nil])
              have E2 : Hid (whas (T2.take (q + 1)) = whas (T2.take q) ++ [[]]) := Lib.hid (by rw [HWN.out, if_pos h2])
              have hap2 := HA20.out
              repeat' (first | (simp only [zmPack, zxPack, ne_eq, zfree, owners, Nat.reduceLT, List.contains_cons, List.contains_nil, Nat.reduceBEq, BEq.rfl, chunk, setAt, List.lookup_cons, List.lookup_nil, reduceCtorEq, Nat.reduceEqDiff, reduceIte, implies_true, forall_const, Nat.reduceMul, Nat.reduceSub, Nat.reduceAdd, Nat.reduceLeDiff, hy, hcq, hqc, hap2, zown_fz1, zown_nil1, *]) | (simp only [zgoO, zgoG, zO_nil, zthen_normal, zgoC]) | (with_reducible apply And.intro) | (with_reducible intro _))
              all_goals first | (rw [E1.out, List.length_append]; done) | (rw [E1.out, List.length_append]; rfl) | (rw [E1.out]; done) | (rw [E1.out, E2.out]; exact ⟨_, rfl⟩) | (rw [E1.out, E2.out]; exact ⟨_, _, rfl⟩) | (rw [E1.out, E2.out]; exact ⟨_, _, rfl, rfl⟩) | (rw [E2.out]; exact ⟨_, rfl⟩)
            · have E1 : Hid (greyTo T2 (q + 1) = greyTo T2 q) := Lib.hid (by rw [HGN.out, if_neg h1, List.append_nil])
              have E2 : Hid (whas (T2.take (q + 1)) = whas (T2.take q) ++ [o]) := Lib.hid (by rw [HWN.out, if_neg h2])
              have hap2 := HA2o.out
              repeat' (first | (simp only [zmPack, zxPack, ne_eq, zfree, owners, Nat.reduceLT, List.contains_cons, List.contains_nil, Nat.reduceBEq, BEq.rfl, chunk, setAt, List.lookup_cons, List.lookup_nil, reduceCtorEq, Nat.reduceEqDiff, reduceIte, implies_true, forall_const, Nat.reduceMul, Nat.reduceSub, Nat.reduceAdd, Nat.reduceLeDiff, hy, hcq, hqc, hap2, zown_fz1, *]) | (simp only [zgoO, zgoG, zO_nil, zthen_normal, zgoC]) | (with_reducible apply And.intro) | (with_reducible intro _))
              all_goals first | (rw [E1.out, List.length_append]; done) | (rw [E1.out, List.length_append]; rfl) | (rw [E1.out]; done) | (rw [E1.out, E2.out]; exact ⟨_, rfl⟩) | (rw [E1.out, E2.out]; exact ⟨_, _, rfl⟩) | (rw [E1.out, E2.out]; exact ⟨_, _, rfl, rfl⟩) | (rw [E2.out]; exact ⟨_, rfl⟩)
        · rintro s2 W ⟨g1, g3, f16, rfl⟩ ⟨f95, f11, f17, f10, -⟩
          have e1 : T2.take (hasOf T2).length = T2 := by rw [hasOf_len, List.take_length]
          have e2 : greyTo T2 (hasOf T2).length = greys T2 := by rw [hasOf_len]; rfl
          have e3 : (hasOf T2).length = (whas T2).length := by rw [hasOf_len, whas_len]
          rw [e1, e2, e3]
          rw [e2] at f16
          clear e1 e2 e3
          repeat' (first | (simp only [zmPack, zxPack, ne_eq, zfree, owners, Nat.reduceLT, List.contains_cons, List.contains_nil, Nat.reduceBEq, BEq.rfl, chunk, setAt, List.lookup_cons, List.lookup_nil, reduceCtorEq, Nat.reduceEqDiff, reduceIte, implies_true, forall_const, Nat.reduceMul, Nat.reduceSub, Nat.reduceAdd, Nat.reduceLeDiff, *]) | (simp only [zgoO, zgoG, zO_nil, zthen_normal, zgoC]) | (with_reducible apply And.intro) | (with_reducible intro _))
          have ra : ∀ X, rowsZ ((H2 ++ [GB, .grow g1 1 ((greys T2).map eI), .grow g3 1 ((whas T2).map eL), .box [.own (H2.length + 2) g3 0 (whas T2).length false, .nil]]) ++ X) 1 (.own (H2.length + 2) g3 0 (whas T2).length false) = some ((whas T2).map eL) := fun X => rows_whole (g := g3) (by rw [List.append_assoc, List.getElem?_append_right (by omega), Nat.add_sub_cancel_left]; rfl) (by simp)
          have rb : ∀ X, rowsZ ((H2 ++ [GB, .grow g1 1 ((greys T2).map eI), .grow g3 1 ((whas T2).map eL), .box [.own (H2.length + 2) g3 0 (whas T2).length false, .nil]]) ++ X) 1 (.own (H2.length + 1) g1 0 (greys T2).length false) = some ((greys T2).map eI) := fun X => rows_whole (g := g1) (by rw [List.append_assoc, List.getElem?_append_right (by omega), Nat.add_sub_cancel_left]; rfl) (by simp)
          have ra0 := ra []
          have rb0 := rb []
          rw [List.append_nil] at ra0 rb0
          refine rfrom_z (z2 := .nil) ra0 rfl rfl rb0 (by rw [whas_len]; have := HTL.out; omega) (by have := greys_cnt (T := T2); have := HTL.out; omega) (whas_own HG2.out.1) (whas_ok HG2.out.1) greys_rng ra rb fun exS => ?_
          clear ra rb ra0 rb0
          obtain ⟨sn, hsn⟩ : ∃ sn, sn = liveSb (whas T2) [] (greys T2) := ⟨_, rfl⟩
          rw [← hsn]
          have hsl : sn.length = T2.length := by rw [hsn, liveSb_length, whas_len]
          have hsy : ∀ m, m < T2.length → cF T2 m = 0 → Nd (eF T2) (rF T2) m → sn[m]? = some true := fun m hm h0 hnd => by
            have h1 := (Sn_liveSb (whas T2) [] (greys T2) m).2 ⟨by rw [whas_len]; exact hm, wr_liv HG2.out (HG2.out.2.y1 rfl rfl m hnd h0)⟩
            rw [← hsn] at h1
            unfold Sn at h1
            rw [List.getD_eq_getElem?_getD] at h1
            cases hq : sn[m]? with
            | none => rw [hq] at h1; cases h1
            | some b => rw [hq] at h1; exact congrArg some h1
          have HSL := Lib.hid hsl
          have HSY := Lib.hid hsy
          clear hsn hsl hsy
          rw [HGB.out]
          repeat' (first | (simp only [zmPack, zxPack, ne_eq, zfree, owners, Nat.reduceLT, List.contains_cons, List.contains_nil, Nat.reduceBEq, BEq.rfl, chunk, setAt, List.lookup_cons, List.lookup_nil, reduceCtorEq, Nat.reduceEqDiff, reduceIte, implies_true, forall_const, Nat.reduceMul, Nat.reduceSub, Nat.reduceAdd, Nat.reduceLeDiff, *]) | (simp only [zgoO, zgoG, zO_nil, zthen_normal, zgoC]) | (with_reducible apply And.intro) | (with_reducible intro _))
          refine neededin_z (by rw [hasOf_len]; have := HTL.out; omega) (rootsLen HG2.out.1) HG2.out.1.own HG2.out.1.ok HG2.out.1.root ?_
          rw [needL_eq]
          have hnc := need_cnt HG2.out
          have hna : ∀ x ∈ rising (needT T2), ∃ m : Nat, x = m ∧ m < T2.length ∧ Nd (eF T2) (rF T2) m := fun x hx => by
            obtain ⟨m, e1, e2, _⟩ := need_at HG2.out hx
            subst e1
            have := (mem_rising.1 hx).2
            rw [Int.toNat_natCast] at this
            exact ⟨m, rfl, e2, (need_nd HG2.out.1).1 this⟩
          obtain ⟨nl, hnl⟩ : ∃ nl, nl = rising (needT T2) := ⟨_, rfl⟩
          rw [← hnl] at hnc hna ⊢
          have HNC := Lib.hid hnc
          have HNA := Lib.hid hna
          clear hnc hna hnl
          rw [← HGB.out]
          obtain ⟨W, hW⟩ : ∃ W, W = H2 ++ [GB, .grow g1 1 ((greys T2).map eI), .grow g3 1 ((whas T2).map eL), .box [.own (H2.length + 2) g3 0 (whas T2).length false, .nil]] := ⟨_, rfl⟩
          have FNW : Hid (∃ g3 mk3 T3, MkAt W p t g3 2 mk3 T3 ∧ GS 2 mk3 T3) := Lib.hid (by rw [hW]; exact FN.out _)
          rw [← hW]
          clear hW
          repeat' (first | (simp only [zmPack, zxPack, ne_eq, zfree, owners, Nat.reduceLT, List.contains_cons, List.contains_nil, Nat.reduceBEq, BEq.rfl, chunk, setAt, List.lookup_cons, List.lookup_nil, reduceCtorEq, Nat.reduceEqDiff, reduceIte, implies_true, forall_const, Nat.reduceMul, Nat.reduceSub, Nat.reduceAdd, Nat.reduceLeDiff, *]) | (simp only [zgoO, zgoG, zO_nil, zthen_normal, zgoC]) | (with_reducible apply And.intro) | (with_reducible intro _))
          refine zW_forK [(127, .fz 1 false (nl.map eI)), (11, .fz 1 false (cl.map eI)), (20, .fz 1 exS (sn.map eB))] nl.length (fun _ _ W2 => W2 = W) (by have := HNC.out; omega) ⟨rfl, rfl, rfl, rfl, rfl, rfl⟩ rfl rfl (by repeat' (first | exact trivial | (refine ⟨rfl, ?_⟩) | (refine ⟨by simp only [zupd_at, Nat.reduceEqDiff, reduceIte]; assumption, ?_⟩))) rfl rfl (by decide) rfl ?_ ?_
          · rintro q s3 W2 hq rfl hi3 hl3 ⟨f127, f11, f20, -⟩
            have hy : nl[q]? = some nl[q] := List.getElem?_eq_getElem hq
            obtain ⟨m, hm, hml, hnd⟩ := HNA.out _ (List.getElem_mem hq)
            rw [hm] at hy
            have hcm := HCA.out m hml
            have hmc : m < cl.length := by rw [HCN.out]; exact hml
            have hms : m < sn.length := by rw [HSL.out]; exact hml
            by_cases h0 : cF T2 m = 0
            · have hs := HSY.out m hml h0 hnd
              rw [h0] at hcm
              clear hm hml hnd h0
              repeat' (first | (simp only [zmPack, zxPack, ne_eq, zfree, owners, Nat.reduceLT, List.contains_cons, List.contains_nil, Nat.reduceBEq, BEq.rfl, chunk, setAt, List.lookup_cons, List.lookup_nil, reduceCtorEq, Nat.reduceEqDiff, reduceIte, implies_true, forall_const, Nat.reduceMul, Nat.reduceSub, Nat.reduceAdd, Nat.reduceLeDiff, hy, hcm, hmc, hs, hms, *]) | (simp only [zgoO, zgoG, zO_nil, zthen_normal, zgoC]) | (with_reducible apply And.intro) | (with_reducible intro _))
            · obtain ⟨c, hc⟩ : ∃ c, c = cF T2 m := ⟨_, rfl⟩
              rw [← hc] at hcm h0
              clear hm hml hnd hc
              repeat' (first | (simp only [zmPack, zxPack, ne_eq, zfree, owners, Nat.reduceLT, List.contains_cons, List.contains_nil, Nat.reduceBEq, BEq.rfl, chunk, setAt, List.lookup_cons, List.lookup_nil, reduceCtorEq, Nat.reduceEqDiff, reduceIte, implies_true, forall_const, Nat.reduceMul, Nat.reduceSub, Nat.reduceAdd, Nat.reduceLeDiff, hy, hcm, hmc, h0, *]) | (simp only [zgoO, zgoG, zO_nil, zthen_normal, zgoC]) | (with_reducible apply And.intro) | (with_reducible intro _))
          · rintro s3 W2 rfl ⟨f127, f11, f20, -⟩
            repeat' (first | (simp only [zmPack, zxPack, ne_eq, zfree, owners, Nat.reduceLT, List.contains_cons, List.contains_nil, Nat.reduceBEq, BEq.rfl, chunk, setAt, List.lookup_cons, List.lookup_nil, reduceCtorEq, Nat.reduceEqDiff, reduceIte, implies_true, forall_const, Nat.reduceMul, Nat.reduceSub, Nat.reduceAdd, Nat.reduceLeDiff, *]) | (simp only [zgoO, zgoG, zO_nil, zthen_normal, zgoC]) | (with_reducible apply And.intro) | (with_reducible intro _))
            all_goals exact FNW.out
  · rintro s' h' ⟨g, mk, T, hM, hG⟩ ⟨f6, f5, f47, -⟩
    have fin := FI.out h'
    clear hM hG
    repeat' (first | (simp only [zmPack, zxPack, ne_eq, zfree, owners, Nat.reduceLT, List.contains_cons, List.contains_nil, Nat.reduceBEq, BEq.rfl, chunk, setAt, List.lookup_cons, List.lookup_nil, reduceCtorEq, Nat.reduceEqDiff, reduceIte, implies_true, forall_const, Nat.reduceMul, Nat.reduceSub, Nat.reduceAdd, Nat.reduceLeDiff, *]) | (simp only [zgoO, zgoG, zO_nil, zthen_normal, zgoC]) | (with_reducible apply And.intro) | (with_reducible intro _))
end Go.Proofs.Ytpeagenjmmkohaa

namespace Go.Proofs.Ytpeagenjmmkohaa
open Go Go.RowKit Go.ChangeShapes Go.WideShapes Go.ChangeAt
set_option linter.unusedVariables false
set_option linter.unusedSimpArgs false
set_option maxRecDepth 100000 in
theorem markcolours_lifted (os : Os) (started : os.Started) (H : Type) (enc : TypeId × Value → H) :
    ReturnsInHanded {} Try.checked os 9 .any (Rows.markColoursSpec.pre6 enc Try.prog Try.f9 Rows.markColoursRow.domain false) (Rows.markColoursSpec.post enc Try.prog Try.f9 false true false false) := by
  refine law_lifted (C := Try.checked) 12 [(false, .int .i64), (false, .slice 32 (.prod (.int .i64) (.prod (.int .i64) (.prod (.int .i64) (.int .i64)))))] 4 Try.own Try.laidOut started (by kernel_rfl) Try.func9
    (ChangeSpec.witness6 (enc := enc) (C := Try.checked) false ⟨#[], #[.int .i64 0, .slice none 0 0], []⟩ 8 (by kernel_rfl) (by kernel_rfl) (by kernel_rfl) (by kernel_rfl))
    rfl (by kernel_rfl) Try.underlying4 (fun ds h => ?_) (by kernel_rfl) (by kernel_rfl) (fun W args h => ?_)
  · match ds, h with
    | [d0, d1], _ => rfl
  · refine zm_walk (by kernel_rfl) (constX_ok (n := 200) (F := cFunc Try.prog) (by kernel_rfl) (fun f af h => h) tbMk (by intro p hp; rw [List.mem_singleton.1 hp]; kernel_rfl)) (fun f af h => h) rfl (fun zl hz => ?_) W args h
    obtain ⟨kind, _, rfl, _, _, l, _, rfl, hl, sl, rfl⟩ := hz
    exact markcolours_z (kind := kind) (l := l)
theorem markcolours_holds : Rows.MarkColoursSaid :=
  OpenClaim.holds_of_wide 9 Try.f9 rfl rfl rfl rfl rfl rfl rfl ⟨rfl, rfl, rfl, rfl, rfl⟩ rfl rfl rfl rfl rfl (by kernel_rfl) Try.func9 (by kernel_rfl) (of_decide_eq_true (by kernel_rfl)) (by unfold Func.isWrapper; first | (rw [if_pos (by decide +kernel)]; kernel_rfl) | (rw [if_neg (by decide +kernel)]; exact ⟨rfl, rfl⟩))
    (fun os started H enc _ => markcolours_lifted os started H enc)
end Go.Proofs.Ytpeagenjmmkohaa
