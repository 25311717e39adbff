/-
  Proved: the law GensBarrier answers true, whatever the input: each young one that an old one has is had by one of Barrier; these are old.
-/
import Derived.Test.YtblgljahhhdlhaaMrB12
namespace Go.Proofs.Ytblgljahhhdlhaa
open Go Go.RowKit
set_option linter.unusedVariables false
set_option linter.unusedSimpArgs false
variable {H : ZH} {p t g m : Nat} {nu : Int} {T T2 : List TB} {R R' : List Int}
theorem putR_nod {r : Int} (h : R.Nodup) : (putR R r).Nodup := by
  unfold putR; split
  · exact h
  · rename_i hm
    rw [List.nodup_append]
    exact ⟨h, by simp, fun a ha b hb e => by rw [List.mem_singleton.1 hb] at e; subst e; exact hm ha⟩
theorem do_nod {a b n d r e : Int} {T' : List TB} (h : DoG nu T R a b n d r e T' R') (hn : R.Nodup) : R'.Nodup := by
  cases h with
  | new hm =>
    by_cases ha : n < 0 ∨ 10 < n
    · obtain ⟨-, -, -, rfl⟩ := hm.arg ha; exact hn
    · by_cases hl : 100 ≤ T.length
      · obtain ⟨-, -, -, rfl⟩ := hm.large ha hl; exact hn
      · obtain ⟨-, -, T1, o, hmid, -⟩ := hm.ok ha (by omega)
        rcases hmid with ⟨-, -, rfl⟩ | ⟨-, sb, -, -, rfl⟩
        · exact hn
        · exact List.nodup_nil
  | set =>
    unfold setT
    split
    · exact hn
    · split <;> first | exact hn | (unfold setX; split <;> first | exact hn | (simp only; split <;> first | exact putR_nod hn | exact hn))
  | drop => exact hn
  | hold => exact hn
  | minor _ => exact List.nodup_nil
  | major => exact List.nodup_nil
  | other _ _ _ _ _ _ => exact hn
/-- What Barrier tells of a thing. -/
theorem bar_iff (g : GI nu T R) {out : List Int} (ho : ∀ r, r ∈ out ↔ r ∈ R ∧ yoT T r) {k : Nat} {o : List Int} (hk : (hasOf T)[k]? = some o) : (k : Int) ∈ out ↔ ¬ (k : Int) ∈ rising (ageB T 0) ∧ ∃ y ∈ o, y ∈ rising (ageB T 0) := by
  have hkl : k < T.length := by have := (List.getElem?_eq_some_iff.1 hk).1; rwa [hasOf_len] at this
  have hx : T[k]? = some T[k] := List.getElem?_eq_getElem hkl
  obtain ⟨x, hxe⟩ : ∃ x, x = T[k] := ⟨_, rfl⟩
  rw [← hxe] at hx
  have hoe : o = keepN x.2.1 := by
    unfold hasOf at hk
    rw [List.getElem?_map, hx] at hk
    injection hk with hk; exact hk.symm
  have hyF : ∀ n : Nat, (n : Int) ∈ rising (ageB T 0) ↔ cF T n = 0 := fun n => by
    rw [mem_rising, Int.toNat_natCast]
    have : Sn (ageB T 0) n ↔ cF T n = 0 := yF_c
    rw [this]
    exact ⟨fun h => h.2, fun h => ⟨by omega, h⟩⟩
  have hany : yoT T (k : Nat) ↔ ∃ y ∈ o, y ∈ rising (ageB T 0) := by
    unfold yoT
    rw [Int.toNat_natCast, hx]
    have h1 : (∃ z, some x = some z ∧ z.2.1.any (yngB T) = true) ↔ ∃ y ∈ x.2.1, yngB T y = true := by
      constructor
      · rintro ⟨z, hz, ha⟩; injection hz with hz; subst hz; exact List.any_eq_true.1 ha
      · exact fun h => ⟨x, rfl, List.any_eq_true.2 h⟩
    rw [h1]
    constructor
    · rintro ⟨y, hy, hyy⟩
      have h0 : 0 ≤ y := by
        unfold yngB at hyy
        simp at hyy; exact hyy.1
      obtain ⟨j, rfl⟩ := Int.eq_ofNat_of_zero_le h0
      exact ⟨j, by rw [hoe]; unfold keepN; rw [List.mem_filter]; exact ⟨hy, by simp⟩, (hyF j).2 (yngB_c.1 hyy)⟩
    · rintro ⟨y, hy, hyy⟩
      rw [hoe] at hy
      unfold keepN at hy
      obtain ⟨h1, h2⟩ := List.mem_filter.1 hy
      have h0 : 0 ≤ y := by have : ¬ y < 0 := by simpa using h2
                            omega
      obtain ⟨j, rfl⟩ := Int.eq_ofNat_of_zero_le h0
      exact ⟨j, h1, yngB_c.2 ((hyF j).1 hyy)⟩
  rw [ho, hyF, hany]
  constructor
  · rintro ⟨h1, h2⟩
    exact ⟨by have := g.ro _ h1; rwa [Int.toNat_natCast] at this, h2⟩
  · rintro ⟨h1, h2⟩
    refine ⟨?_, h2⟩
    obtain ⟨y, hy, hyy⟩ := h2
    rw [hoe] at hy
    unfold keepN at hy
    obtain ⟨q1, q2⟩ := List.mem_filter.1 hy
    have h0 : 0 ≤ y := by have : ¬ y < 0 := by simpa using q2
                          omega
    obtain ⟨j, rfl⟩ := Int.eq_ofNat_of_zero_le h0
    exact g.rem k j ⟨x, hx, q1⟩ h1 ((hyF j).1 hyy)
def BUI (p t m : Nat) (nu : Int) (h' : ZH) : Prop := ∃ g T R, GeAt h' p t g m nu T R ∧ GI nu T R ∧ R.Nodup
set_option maxHeartbeats 8000000 in
theorem gensbarrier_z {kind : Int} {l : List Dd} :
    ZC (XG tbGe true) (cFunc Try.prog) 6 [Z64 kind, .fz 4 false (l.map eD)] (fun _ => true) [] fun z _ => z = ZBo true := by
  refine ZC.enter Gh.no (fun args fl hp ha => constX_none (l := tbGe) (f := 6) (by decide) args fl hp ha) f_ge_barr (by simp) ?_
  simp only [c_ge_barr]
  have fin : ∀ X, Fin [] (ZBo true) X (fun z _ => z = ZBo true) := fun X => Fin.trunc (Mods.ext [] X) rfl rfl
  have FI := Lib.hid fin
  clear fin
  repeat' (first | (simp only [zmPack, zxPack, ne_eq, zfree, owners, Nat.reduceLT, List.contains_cons, List.contains_nil, Nat.reduceBEq, BEq.rfl, chunk, setAt, List.lookup_cons, List.lookup_nil, reduceCtorEq, Nat.reduceEqDiff, reduceIte, implies_true, forall_const, Nat.reduceMul, Nat.reduceSub, Nat.reduceAdd, Nat.reduceLeDiff, *]) | (simp only [zgoO, zgoG, zO_nil, zthen_normal, zgoC]) | (with_reducible apply And.intro) | (with_reducible intro _))
  refine yes_z ?_
  repeat' (first | (simp only [zmPack, zxPack, ne_eq, zfree, owners, Nat.reduceLT, List.contains_cons, List.contains_nil, Nat.reduceBEq, BEq.rfl, chunk, setAt, List.lookup_cons, List.lookup_nil, reduceCtorEq, Nat.reduceEqDiff, reduceIte, implies_true, forall_const, Nat.reduceMul, Nat.reduceSub, Nat.reduceAdd, Nat.reduceLeDiff, *]) | (simp only [zgoO, zgoG, zO_nil, zthen_normal, zgoC]) | (with_reducible apply And.intro) | (with_reducible intro _))
  refine ZC.up (rest_z (by omega) ?_)
  obtain ⟨nu, hnu⟩ : ∃ nu, nu = 1 + kind % 10 := ⟨_, rfl⟩
  have hn1 : 1 ≤ nu ∧ nu ≤ 100 := by omega
  have w1 : IntKind.i64.wrap (1 + kind % 10) = nu := by rw [IntWalk.i64_in _ (by omega), hnu]
  obtain ⟨kr, hkr⟩ : ∃ kr, kr = kind % 10 := ⟨_, rfl⟩
  rw [← hkr] at w1 ⊢
  have HNU := Lib.hid hn1
  clear hnu hn1 hkr
  repeat' (first | (simp only [zmPack, zxPack, ne_eq, zfree, owners, Nat.reduceLT, List.contains_cons, List.contains_nil, Nat.reduceBEq, BEq.rfl, chunk, setAt, List.lookup_cons, List.lookup_nil, reduceCtorEq, Nat.reduceEqDiff, reduceIte, implies_true, forall_const, Nat.reduceMul, Nat.reduceSub, Nat.reduceAdd, Nat.reduceLeDiff, w1, *]) | (simp only [zgoO, zgoG, zO_nil, zthen_normal, zgoC]) | (with_reducible apply And.intro) | (with_reducible intro _))
  refine new_z HNU.out.1 HNU.out.2 fun H0 p t m hM0 => ?_
  obtain ⟨ex2, hct⟩ := dd_cut (e := eD) (k := 4) (ex := false) (l := l) (n := min l.length 80) (Nat.min_le_left _ _)
  obtain ⟨ds, hds⟩ : ∃ ds, ds = l.take (min l.length 80) := ⟨_, rfl⟩
  have hlen : ds.length ≤ 80 := by rw [hds, List.length_take]; omega
  rw [← hds] at hct
  have hbm : bestZ false (Z64 (l.length : Nat)) [Z64 (80 : Int)] = some (Z64 ((min l.length 80 : Nat) : Int)) := best_min (m := 80)
  have HM0 := Lib.hid hM0
  have HLEN := Lib.hid hlen
  clear hds hM0 hlen w1
  have hnil : ∀ (H : ZH) i o, nilZ H 1 (.ptr i o) = some false := fun _ _ _ => rfl
  repeat' (first | (simp only [zmPack, zxPack, ne_eq, zfree, owners, Nat.reduceLT, List.contains_cons, List.contains_nil, Nat.reduceBEq, BEq.rfl, chunk, setAt, List.lookup_cons, List.lookup_nil, reduceCtorEq, Nat.reduceEqDiff, reduceIte, implies_true, forall_const, Nat.reduceMul, Nat.reduceSub, Nat.reduceAdd, Nat.reduceLeDiff, hnil, *]) | (simp only [zgoO, zgoG, zO_nil, zthen_normal, zgoC]) | (with_reducible apply And.intro) | (with_reducible intro _))
  refine yes_z ?_
  repeat' (first | (simp only [zmPack, zxPack, ne_eq, zfree, owners, Nat.reduceLT, List.contains_cons, List.contains_nil, Nat.reduceBEq, BEq.rfl, chunk, setAt, List.lookup_cons, List.lookup_nil, reduceCtorEq, Nat.reduceEqDiff, reduceIte, implies_true, forall_const, Nat.reduceMul, Nat.reduceSub, Nat.reduceAdd, Nat.reduceLeDiff, hbm, hct, mv_num0, mv_num1, natZ_nat, Option.bind_some, Option.isSome_none, *]) | (simp only [zgoO, zgoG, zO_nil, zthen_normal, zgoC]) | (with_reducible apply And.intro) | (with_reducible intro _))
  clear hct hbm hnil
  refine zW_forK [(5, .ptr p 0), (40, .fz 4 ex2 (ds.map eD))] ds.length (fun k s' h' => BUI p t m nu h') (by have := HLEN.out; omega) ⟨rfl, rfl, rfl, rfl, rfl, rfl⟩ rfl rfl (by repeat' (first | exact trivial | (refine ⟨rfl, ?_⟩) | (refine ⟨by simp only [zupd_at, Nat.reduceEqDiff, reduceIte]; assumption, ?_⟩))) rfl rfl (by decide) ⟨0, [], [], HM0.out, GI.start HNU.out.1, List.nodup_nil⟩ ?_ ?_
  · rintro k s' h' hk ⟨g, T, R, hM, hG, hN⟩ hi hl ⟨f5, f40, -⟩
    have hx : ds[k]? = some ds[k] := List.getElem?_eq_getElem hk
    obtain ⟨d, hd⟩ : ∃ d, d = ds[k] := ⟨_, rfl⟩
    rw [← hd] at hx
    obtain ⟨d1, d2, d3, d4⟩ := d
    have HM := Lib.hid hM
    have HG := Lib.hid hG
    have HN := Lib.hid hN
    clear hd hM hG hN
    repeat' (first | (simp only [zmPack, zxPack, ne_eq, zfree, owners, Nat.reduceLT, List.contains_cons, List.contains_nil, Nat.reduceBEq, BEq.rfl, chunk, setAt, List.lookup_cons, List.lookup_nil, reduceCtorEq, Nat.reduceEqDiff, reduceIte, implies_true, forall_const, Nat.reduceMul, Nat.reduceSub, Nat.reduceAdd, Nat.reduceLeDiff, hx, *]) | (simp only [zgoO, zgoG, zO_nil, zthen_normal, zgoC]) | (with_reducible apply And.intro) | (with_reducible intro _))
    refine do_z (HM.out.ext _) HG.out.rng HG.out.rr (fun _ => rfl) fun H2 g2 r e T2 R2 hdo hM2 hfr => ?_
    have hn2 := do_nod hdo HN.out
    have hg2 := (do_gi hdo HG.out HNU.out.1).1
    have HM2 := Lib.hid hM2
    have HG2 := Lib.hid hg2
    have HN2 := Lib.hid hn2
    clear hdo hM2 hfr hn2 hg2
    repeat' (first | (simp only [zmPack, zxPack, ne_eq, zfree, owners, Nat.reduceLT, List.contains_cons, List.contains_nil, Nat.reduceBEq, BEq.rfl, chunk, setAt, List.lookup_cons, List.lookup_nil, reduceCtorEq, Nat.reduceEqDiff, reduceIte, implies_true, forall_const, Nat.reduceMul, Nat.reduceSub, Nat.reduceAdd, Nat.reduceLeDiff, *]) | (simp only [zgoO, zgoG, zO_nil, zthen_normal, zgoC]) | (with_reducible apply And.intro) | (with_reducible intro _))
    refine barrier_z HM2.out HG2.out.rng HG2.out.rr HN2.out (fun _ => rfl) fun out ho hol => ?_
    have HO := Lib.hid ho
    have HOL := Lib.hid hol
    clear ho hol
    repeat' (first | (simp only [zmPack, zxPack, ne_eq, zfree, owners, Nat.reduceLT, List.contains_cons, List.contains_nil, Nat.reduceBEq, BEq.rfl, chunk, setAt, List.lookup_cons, List.lookup_nil, reduceCtorEq, Nat.reduceEqDiff, reduceIte, implies_true, forall_const, Nat.reduceMul, Nat.reduceSub, Nat.reduceAdd, Nat.reduceLeDiff, *]) | (simp only [zgoO, zgoG, zO_nil, zthen_normal, zgoC]) | (with_reducible apply And.intro) | (with_reducible intro _))
    refine young_z HM2.out ?_
    have hzl := young_len HG2.out
    have hbi := fun (k : Nat) o hk => bar_iff HG2.out HO.out (k := k) (o := o) hk
    obtain ⟨zs, hzs⟩ : ∃ zs, zs = rising (ageB T2 0) := ⟨_, rfl⟩
    rw [← hzs] at hzl hbi ⊢
    have HZL := Lib.hid hzl
    have HBI := Lib.hid hbi
    clear hzs hzl hbi
    repeat' (first | (simp only [zmPack, zxPack, ne_eq, zfree, owners, Nat.reduceLT, List.contains_cons, List.contains_nil, Nat.reduceBEq, BEq.rfl, chunk, setAt, List.lookup_cons, List.lookup_nil, reduceCtorEq, Nat.reduceEqDiff, reduceIte, implies_true, forall_const, Nat.reduceMul, Nat.reduceSub, Nat.reduceAdd, Nat.reduceLeDiff, *]) | (simp only [zgoO, zgoG, zO_nil, zthen_normal, zgoC]) | (with_reducible apply And.intro) | (with_reducible intro _))
    refine graph_z HM2.out ?_
    have hls : ∀ o ∈ hasOf T2, o.length ≤ 1000 := HG2.out.rng.own
    have hhl : (hasOf T2).length ≤ 100 := by rw [hasOf_len]; exact HG2.out.rng.len
    obtain ⟨hs, hhs⟩ : ∃ hs, hs = hasOf T2 := ⟨_, rfl⟩
    rw [← hhs] at HBI hls hhl ⊢
    have HLS := Lib.hid hls
    have HHL := Lib.hid hhl
    clear hhs hls hhl
    repeat' (first | (simp only [zmPack, zxPack, ne_eq, zfree, owners, Nat.reduceLT, List.contains_cons, List.contains_nil, Nat.reduceBEq, BEq.rfl, chunk, setAt, List.lookup_cons, List.lookup_nil, reduceCtorEq, Nat.reduceEqDiff, reduceIte, implies_true, forall_const, Nat.reduceMul, Nat.reduceSub, Nat.reduceAdd, Nat.reduceLeDiff, *]) | (simp only [zgoO, zgoG, zO_nil, zthen_normal, zgoC]) | (with_reducible apply And.intro) | (with_reducible intro _))
    refine zW_forK [(55, .fz 1 false (hs.map eL)), (9, .fz 1 false (out.map eI)), (10, .fz 1 false (zs.map eI))] hs.length (fun _ _ W => W = H2) (by have := HHL.out; omega) ⟨rfl, rfl, rfl, rfl, rfl, rfl⟩ rfl rfl (by repeat' (first | exact trivial | (refine ⟨rfl, ?_⟩) | (refine ⟨by simp only [zupd_at, Nat.reduceEqDiff, reduceIte]; assumption, ?_⟩))) rfl rfl (by decide) rfl ?_ ?_
    · rintro q s2 W hq rfl hi2 hl2 ⟨f55, f9, f10, -⟩
      have hh : hs[q]? = some hs[q] := List.getElem?_eq_getElem hq
      have hol := HLS.out _ (List.getElem_mem hq)
      obtain ⟨o, hoe⟩ : ∃ o, o = hs[q] := ⟨_, rfl⟩
      rw [← hoe] at hh hol
      have hiff := HBI.out q o hh
      have HOO := Lib.hid hol
      have HIF := Lib.hid hiff
      clear hoe hol hiff
      repeat' (first | (simp only [zmPack, zxPack, ne_eq, zfree, owners, Nat.reduceLT, List.contains_cons, List.contains_nil, Nat.reduceBEq, BEq.rfl, chunk, setAt, List.lookup_cons, List.lookup_nil, reduceCtorEq, Nat.reduceEqDiff, reduceIte, implies_true, forall_const, Nat.reduceMul, Nat.reduceSub, Nat.reduceAdd, Nat.reduceLeDiff, hh, *]) | (simp only [zgoO, zgoG, zO_nil, zthen_normal, zgoC]) | (with_reducible apply And.intro) | (with_reducible intro _))
      refine ZC.up (hasint_z rows_fz (by have := HZL.out; omega) ?_)
      repeat' (first | (simp only [zmPack, zxPack, ne_eq, zfree, owners, Nat.reduceLT, List.contains_cons, List.contains_nil, Nat.reduceBEq, BEq.rfl, chunk, setAt, List.lookup_cons, List.lookup_nil, reduceCtorEq, Nat.reduceEqDiff, reduceIte, implies_true, forall_const, Nat.reduceMul, Nat.reduceSub, Nat.reduceAdd, Nat.reduceLeDiff, *]) | (simp only [zgoO, zgoG, zO_nil, zthen_normal, zgoC]) | (with_reducible apply And.intro) | (with_reducible intro _))
      refine zW_forK [(66, .fz 1 false (o.map eI)), (9, .fz 1 false (out.map eI)), (10, .fz 1 false (zs.map eI)), (11, Z64 (q : Nat)), (13, ZBo (!decide ((q : Int) ∈ zs)))] o.length (fun j s3 W2 => W2 = W ∧ s3 14 = ZBo ((o.take j).any fun y => decide (y ∈ zs))) (by have := HOO.out; omega) ⟨rfl, rfl, rfl, rfl, rfl, rfl⟩ rfl rfl (by repeat' (first | exact trivial | (refine ⟨rfl, ?_⟩) | (refine ⟨by simp only [zupd_at, Nat.reduceEqDiff, reduceIte]; assumption, ?_⟩))) rfl rfl (by decide) ⟨rfl, rfl⟩ ?_ ?_
      · rintro j s3 W2 hj ⟨rfl, f14⟩ hi3 hl3 ⟨f66, f9, f10, f11, f13, -⟩
        have hy : o[j]? = some o[j] := List.getElem?_eq_getElem hj
        have htk : ((o.take (j + 1)).any fun y => decide (y ∈ zs)) = (((o.take j).any fun y => decide (y ∈ zs)) || decide (o[j] ∈ zs)) := by
          rw [List.take_succ_eq_append_getElem hj, List.any_append]; simp
        obtain ⟨y, hye⟩ : ∃ y, y = o[j] := ⟨_, rfl⟩
        rw [← hye] at hy htk
        obtain ⟨c, hc⟩ : ∃ c, c = (o.take j).any fun y => decide (y ∈ zs) := ⟨_, rfl⟩
        rw [← hc] at f14 htk
        clear hye hc
        cases c with
        | true =>
          rw [Bool.true_or] at htk
          repeat' (first | (simp only [zmPack, zxPack, ne_eq, zfree, owners, Nat.reduceLT, List.contains_cons, List.contains_nil, Nat.reduceBEq, BEq.rfl, chunk, setAt, List.lookup_cons, List.lookup_nil, reduceCtorEq, Nat.reduceEqDiff, reduceIte, implies_true, forall_const, Nat.reduceMul, Nat.reduceSub, Nat.reduceAdd, Nat.reduceLeDiff, htk, *]) | (simp only [zgoO, zgoG, zO_nil, zthen_normal, zgoC]) | (with_reducible apply And.intro) | (with_reducible intro _))
        | false =>
          rw [Bool.false_or] at htk
          have HTK := Lib.hid htk
          clear htk
          repeat' (first | (simp only [zmPack, zxPack, ne_eq, zfree, owners, Nat.reduceLT, List.contains_cons, List.contains_nil, Nat.reduceBEq, BEq.rfl, chunk, setAt, List.lookup_cons, List.lookup_nil, reduceCtorEq, Nat.reduceEqDiff, reduceIte, implies_true, forall_const, Nat.reduceMul, Nat.reduceSub, Nat.reduceAdd, Nat.reduceLeDiff, hy, *]) | (simp only [zgoO, zgoG, zO_nil, zthen_normal, zgoC]) | (with_reducible apply And.intro) | (with_reducible intro _))
          refine ZC.up (hasint_z rows_fz (by have := HZL.out; omega) ?_)
          have htk := HTK.out
          repeat' (first | (simp only [zmPack, zxPack, ne_eq, zfree, owners, Nat.reduceLT, List.contains_cons, List.contains_nil, Nat.reduceBEq, BEq.rfl, chunk, setAt, List.lookup_cons, List.lookup_nil, reduceCtorEq, Nat.reduceEqDiff, reduceIte, implies_true, forall_const, Nat.reduceMul, Nat.reduceSub, Nat.reduceAdd, Nat.reduceLeDiff, htk, *]) | (simp only [zgoO, zgoG, zO_nil, zthen_normal, zgoC]) | (with_reducible apply And.intro) | (with_reducible intro _))
      · rintro s3 W2 ⟨rfl, f14⟩ ⟨f66, f9, f10, f11, f13, -⟩
        rw [List.take_of_length_le (Nat.le_refl _)] at f14
        have hb : decide ((q : Int) ∈ out) = (!decide ((q : Int) ∈ zs) && o.any fun y => decide (y ∈ zs)) := by
          rw [Bool.eq_iff_iff, decide_eq_true_iff, HIF.out]
          simp
        obtain ⟨c1, hc1⟩ : ∃ c, c = decide ((q : Int) ∈ zs) := ⟨_, rfl⟩
        obtain ⟨c2, hc2⟩ : ∃ c, c = o.any fun y => decide (y ∈ zs) := ⟨_, rfl⟩
        rw [← hc1] at hb f13
        rw [← hc2] at hb f14
        have HB := Lib.hid hb
        clear hb hc1 hc2 hh
        repeat' (first | (simp only [zmPack, zxPack, ne_eq, zfree, owners, Nat.reduceLT, List.contains_cons, List.contains_nil, Nat.reduceBEq, BEq.rfl, chunk, setAt, List.lookup_cons, List.lookup_nil, reduceCtorEq, Nat.reduceEqDiff, reduceIte, implies_true, forall_const, Nat.reduceMul, Nat.reduceSub, Nat.reduceAdd, Nat.reduceLeDiff, *]) | (simp only [zgoO, zgoG, zO_nil, zthen_normal, zgoC]) | (with_reducible apply And.intro) | (with_reducible intro _))
        refine ZC.up (hasint_z rows_fz (by have := HOL.out; omega) ?_)
        rw [HB.out]
        cases c1 <;> cases c2
        all_goals repeat' (first | (simp only [zmPack, zxPack, ne_eq, zfree, owners, Nat.reduceLT, List.contains_cons, List.contains_nil, Nat.reduceBEq, BEq.rfl, chunk, setAt, List.lookup_cons, List.lookup_nil, reduceCtorEq, Nat.reduceEqDiff, reduceIte, implies_true, forall_const, Nat.reduceMul, Nat.reduceSub, Nat.reduceAdd, Nat.reduceLeDiff, Bool.and_false, Bool.and_true, Bool.not_false, Bool.not_true, *]) | (simp only [zgoO, zgoG, zO_nil, zthen_normal, zgoC]) | (with_reducible apply And.intro) | (with_reducible intro _))
    · rintro s2 W rfl ⟨f55, f9, f10, -⟩
      have fin : BUI p t m nu W := ⟨g2, T2, R2, HM2.out, HG2.out, HN2.out⟩
      have FN := Lib.hid fin
      clear fin
      repeat' (first | (simp only [zmPack, zxPack, ne_eq, zfree, owners, Nat.reduceLT, List.contains_cons, List.contains_nil, Nat.reduceBEq, BEq.rfl, chunk, setAt, List.lookup_cons, List.lookup_nil, reduceCtorEq, Nat.reduceEqDiff, reduceIte, implies_true, forall_const, Nat.reduceMul, Nat.reduceSub, Nat.reduceAdd, Nat.reduceLeDiff, *]) | (simp only [zgoO, zgoG, zO_nil, zthen_normal, zgoC]) | (with_reducible apply And.intro) | (with_reducible intro _))
      all_goals exact FN.out
  · rintro s' h' - ⟨f5, f40, -⟩
    have fin := FI.out h'
    repeat' (first | (simp only [zmPack, zxPack, ne_eq, zfree, owners, Nat.reduceLT, List.contains_cons, List.contains_nil, Nat.reduceBEq, BEq.rfl, chunk, setAt, List.lookup_cons, List.lookup_nil, reduceCtorEq, Nat.reduceEqDiff, reduceIte, implies_true, forall_const, Nat.reduceMul, Nat.reduceSub, Nat.reduceAdd, Nat.reduceLeDiff, *]) | (simp only [zgoO, zgoG, zO_nil, zthen_normal, zgoC]) | (with_reducible apply And.intro) | (with_reducible intro _))
end Go.Proofs.Ytblgljahhhdlhaa

namespace Go.Proofs.Ytblgljahhhdlhaa
open Go Go.RowKit Go.ChangeShapes Go.WideShapes Go.ChangeAt
set_option linter.unusedVariables false
set_option linter.unusedSimpArgs false
set_option maxRecDepth 100000 in
theorem gensbarrier_lifted (os : Os) (started : os.Started) (H : Type) (enc : TypeId × Value → H) :
    ReturnsInHanded {} Try.checked os 6 .any (Rows.gensBarrierSpec.pre6 enc Try.prog Try.f6 Rows.gensBarrierRow.domain false) (Rows.gensBarrierSpec.post enc Try.prog Try.f6 false true false false) := by
  refine law_lifted (C := Try.checked) 12 [(false, .int .i64), (false, .slice 32 (.prod (.int .i64) (.prod (.int .i64) (.prod (.int .i64) (.int .i64)))))] 4 Try.own Try.laidOut started (by kernel_rfl) Try.func6
    (ChangeSpec.witness6 (enc := enc) (C := Try.checked) false ⟨#[], #[.int .i64 0, .slice none 0 0], []⟩ 8 (by kernel_rfl) (by kernel_rfl) (by kernel_rfl) (by kernel_rfl))
    rfl (by kernel_rfl) Try.underlying4 (fun ds h => ?_) (by kernel_rfl) (by kernel_rfl) (fun W args h => ?_)
  · match ds, h with
    | [d0, d1], _ => rfl
  · refine zm_walk_nd (by kernel_rfl) (constX_ok (n := 200) (F := cFunc Try.prog) (by kernel_rfl) (fun f af h => h) tbGe (by intro p hp; rw [List.mem_singleton.1 hp]; kernel_rfl)) (fun f af h => h) rfl (fun zl hz => ?_) W args h
    obtain ⟨kind, _, rfl, _, _, l, _, rfl, hl, sl, rfl⟩ := hz
    exact gensbarrier_z (kind := kind) (l := l)
theorem gensbarrier_holds : Rows.GensBarrierSaid :=
  OpenClaim.holds_of_wide 6 Try.f6 rfl rfl rfl rfl rfl rfl rfl ⟨rfl, rfl, rfl, rfl, rfl⟩ rfl rfl rfl rfl rfl (by kernel_rfl) Try.func6 (by kernel_rfl) (of_decide_eq_true (by kernel_rfl)) (by unfold Func.isWrapper; first | (rw [if_pos (by decide +kernel)]; kernel_rfl) | (rw [if_neg (by decide +kernel)]; exact ⟨rfl, rfl⟩))
    (fun os started H enc _ => gensbarrier_lifted os started H enc)
end Go.Proofs.Ytblgljahhhdlhaa
