/-
  Proved: the law MarkKeeps answers true, whatever the input: whatever is done between the collector's steps, a needed thing is never gone; what was not needed when marking began is, when it is over.
-/
import Derived.Test.YtpeagenjmmkohaaMrA12
namespace Go.Proofs.Ytpeagenjmmkohaa
open Go Go.RowKit
set_option linter.unusedVariables false
set_option linter.unusedSimpArgs false
set_option maxHeartbeats 8000000 in
theorem markkeeps_z {kind : Int} {l : List Dd} :
    ZC (constX tbMk) (cFunc Try.prog) 8 [Z64 kind, .fz 4 false (l.map eD)] (fun _ => true) [] fun z _ => z = ZBo true := by
  refine ZC.enter ⟨[(7, [(0, 1001)])], [], []⟩ constX_none f_mk_keeps (by simp) ?_
  simp only [c_mk_keeps]
  have fin : ∀ X, Fin [] (ZBo true) X (fun z _ => z = ZBo true) := fun X => Fin.trunc (Mods.ext [] X) rfl rfl
  have FI := Lib.hid fin
  clear fin
  repeat' (first | (simp only [zmPack, zxPack, ne_eq, zfree, owners, Nat.reduceLT, List.contains_cons, List.contains_nil, Nat.reduceBEq, BEq.rfl, chunk, setAt, List.lookup_cons, List.lookup_nil, reduceCtorEq, Nat.reduceEqDiff, reduceIte, implies_true, forall_const, Nat.reduceMul, Nat.reduceSub, Nat.reduceAdd, Nat.reduceLeDiff, *]) | (simp only [zgoO, zgoG, zO_nil, zthen_normal, zgoC]) | (with_reducible apply And.intro) | (with_reducible intro _))
  refine marked_z ?_
  repeat' (first | (simp only [zmPack, zxPack, ne_eq, zfree, owners, Nat.reduceLT, List.contains_cons, List.contains_nil, Nat.reduceBEq, BEq.rfl, chunk, setAt, List.lookup_cons, List.lookup_nil, reduceCtorEq, Nat.reduceEqDiff, reduceIte, implies_true, forall_const, Nat.reduceMul, Nat.reduceSub, Nat.reduceAdd, Nat.reduceLeDiff, *]) | (simp only [zgoO, zgoG, zO_nil, zthen_normal, zgoC]) | (with_reducible apply And.intro) | (with_reducible intro _))
  refine rest_z (by omega) ?_
  obtain ⟨kd, hkd⟩ : ∃ kd, kd = 1 + kind % 2 := ⟨_, rfl⟩
  have hk12 : kd = 1 ∨ kd = 2 := by omega
  have w1 : IntKind.i64.wrap (1 + kind % 2) = kd := by rw [IntWalk.i64_in _ (by omega), hkd]
  obtain ⟨kr, hkr⟩ : ∃ kr, kr = kind % 2 := ⟨_, rfl⟩
  rw [← hkr] at w1 ⊢
  have HK12 := Lib.hid hk12
  clear hkd hk12 hkr
  repeat' (first | (simp only [zmPack, zxPack, ne_eq, zfree, owners, Nat.reduceLT, List.contains_cons, List.contains_nil, Nat.reduceBEq, BEq.rfl, chunk, setAt, List.lookup_cons, List.lookup_nil, reduceCtorEq, Nat.reduceEqDiff, reduceIte, implies_true, forall_const, Nat.reduceMul, Nat.reduceSub, Nat.reduceAdd, Nat.reduceLeDiff, w1, *]) | (simp only [zgoO, zgoG, zO_nil, zthen_normal, zgoC]) | (with_reducible apply And.intro) | (with_reducible intro _))
  refine new_z HK12.out fun H0 p t hM0 => ?_
  obtain ⟨ex2, hct⟩ := dd_cut (e := eD) (k := 4) (ex := false) (l := l) (n := min l.length 100) (Nat.min_le_left _ _)
  obtain ⟨ds, hds⟩ : ∃ ds, ds = l.take (min l.length 100) := ⟨_, rfl⟩
  have hlen : ds.length ≤ 100 := by rw [hds, List.length_take]; omega
  rw [← hds] at hct
  have hbm : bestZ false (Z64 (l.length : Nat)) [Z64 (100 : Int)] = some (Z64 ((min l.length 100 : Nat) : Int)) := best_min (m := 100)
  have HM0 := Lib.hid hM0
  have HLEN := Lib.hid hlen
  clear hds hM0 hlen w1
  have hnil : ∀ (H : ZH) i o, nilZ H 1 (.ptr i o) = some false := fun _ _ _ => rfl
  repeat' (first | (simp only [zmPack, zxPack, ne_eq, zfree, owners, Nat.reduceLT, List.contains_cons, List.contains_nil, Nat.reduceBEq, BEq.rfl, chunk, setAt, List.lookup_cons, List.lookup_nil, reduceCtorEq, Nat.reduceEqDiff, reduceIte, implies_true, forall_const, Nat.reduceMul, Nat.reduceSub, Nat.reduceAdd, Nat.reduceLeDiff, hnil, *]) | (simp only [zgoO, zgoG, zO_nil, zthen_normal, zgoC]) | (with_reducible apply And.intro) | (with_reducible intro _))
  refine marked_z ?_
  repeat' (first | (simp only [zmPack, zxPack, ne_eq, zfree, owners, Nat.reduceLT, List.contains_cons, List.contains_nil, Nat.reduceBEq, BEq.rfl, chunk, setAt, List.lookup_cons, List.lookup_nil, reduceCtorEq, Nat.reduceEqDiff, reduceIte, implies_true, forall_const, Nat.reduceMul, Nat.reduceSub, Nat.reduceAdd, Nat.reduceLeDiff, hbm, hct, mv_num0, mv_num1, natZ_nat, Option.bind_some, Option.isSome_none, zown_nil1, *]) | (simp only [zgoO, zgoG, zO_nil, zthen_normal, zgoC]) | (with_reducible apply And.intro) | (with_reducible intro _))
  clear hct hbm hnil
  refine zW_forK [(5, .ptr p 0), (42, .fz 4 ex2 (ds.map eD))] ds.length (fun k s' h' => ∃ g mk T bg ex7, s' 7 = .fz 1 ex7 (bg.map eB) ∧ MkAt h' p t g kd mk T ∧ KI kd bg mk T) (by have := HLEN.out; omega) ⟨rfl, rfl, rfl, rfl, rfl, rfl⟩ rfl rfl (by repeat' (first | exact trivial | (refine ⟨rfl, ?_⟩) | (refine ⟨by simp only [zupd_at, Nat.reduceEqDiff, reduceIte]; assumption, ?_⟩))) rfl rfl (by decide) ⟨0, false, [], [], false, rfl, HM0.out, ⟨⟨by simp, by simp, by simp⟩, HK12.out, fun n => .inr (by right; right; rfl), fun n hn => (by cases hn with | root h => obtain ⟨x, hx, _⟩ := h; simp at hx | edge _ h => obtain ⟨x, hx, _⟩ := h; simp at hx), fun _ n => .inr rfl, (fun q => by cases q), (fun q => by cases q), (fun q => by cases q)⟩, (fun q => by cases q), by simp⟩ ?_ ?_
  · rintro k s' h' hk ⟨g, mk, T, bg, ex7, f7, hM, hI⟩ hi hl ⟨f5, f42, -⟩
    have hx : ds[k]? = some ds[k] := List.getElem?_eq_getElem hk
    obtain ⟨d, hd⟩ : ∃ d, d = ds[k] := ⟨_, rfl⟩
    rw [← hd] at hx
    obtain ⟨d1, d2, d3, d4⟩ := d
    have hlt : p < h'.length := lt_of_get hM.box
    have HM := Lib.hid hM
    have HI := Lib.hid hI
    have HLT := Lib.hid hlt
    clear hd hM hI hlt
    repeat' (first | (simp only [zmPack, zxPack, ne_eq, zfree, owners, Nat.reduceLT, List.contains_cons, List.contains_nil, Nat.reduceBEq, BEq.rfl, chunk, setAt, List.lookup_cons, List.lookup_nil, reduceCtorEq, Nat.reduceEqDiff, reduceIte, implies_true, forall_const, Nat.reduceMul, Nat.reduceSub, Nat.reduceAdd, Nat.reduceLeDiff, hx, *]) | (simp only [zgoO, zgoG, zO_nil, zthen_normal, zgoC]) | (with_reducible apply And.intro) | (with_reducible intro _))
    refine marking_z (HM.out.ext _) ?_
    repeat' (first | (simp only [zmPack, zxPack, ne_eq, zfree, owners, Nat.reduceLT, List.contains_cons, List.contains_nil, Nat.reduceBEq, BEq.rfl, chunk, setAt, List.lookup_cons, List.lookup_nil, reduceCtorEq, Nat.reduceEqDiff, reduceIte, implies_true, forall_const, Nat.reduceMul, Nat.reduceSub, Nat.reduceAdd, Nat.reduceLeDiff, *]) | (simp only [zgoO, zgoG, zO_nil, zthen_normal, zgoC]) | (with_reducible apply And.intro) | (with_reducible intro _))
    refine graph_z (HM.out.ext _) ?_
    repeat' (first | (simp only [zmPack, zxPack, ne_eq, zfree, owners, Nat.reduceLT, List.contains_cons, List.contains_nil, Nat.reduceBEq, BEq.rfl, chunk, setAt, List.lookup_cons, List.lookup_nil, reduceCtorEq, Nat.reduceEqDiff, reduceIte, implies_true, forall_const, Nat.reduceMul, Nat.reduceSub, Nat.reduceAdd, Nat.reduceLeDiff, *]) | (simp only [zgoO, zgoG, zO_nil, zthen_normal, zgoC]) | (with_reducible apply And.intro) | (with_reducible intro _))
    refine do_z (HM.out.ext _) HI.out.gs.1 (fun _ => rfl) fun H2 g2 r e mk2 T2 hdo hM2 hfr => ?_
    obtain ⟨r9, r11⟩ := fr_two hfr HLT.out
    have HM2 := Lib.hid hM2
    have HDO := Lib.hid hdo
    clear hM2 hdo hfr
    cases mk with
    | true =>
      have hI2 := HI.out.go HDO.out rfl
      have HI2 := Lib.hid hI2
      clear hI2
      repeat' (first | (simp only [zmPack, zxPack, ne_eq, zfree, owners, Nat.reduceLT, List.contains_cons, List.contains_nil, Nat.reduceBEq, BEq.rfl, chunk, setAt, List.lookup_cons, List.lookup_nil, reduceCtorEq, Nat.reduceEqDiff, reduceIte, implies_true, forall_const, Nat.reduceMul, Nat.reduceSub, Nat.reduceAdd, Nat.reduceLeDiff, *]) | (simp only [zgoO, zgoG, zO_nil, zthen_normal, zgoC]) | (with_reducible apply And.intro) | (with_reducible intro _))
      refine graph_z HM2.out ?_
      repeat' (first | (simp only [zmPack, zxPack, ne_eq, zfree, owners, Nat.reduceLT, List.contains_cons, List.contains_nil, Nat.reduceBEq, BEq.rfl, chunk, setAt, List.lookup_cons, List.lookup_nil, reduceCtorEq, Nat.reduceEqDiff, reduceIte, implies_true, forall_const, Nat.reduceMul, Nat.reduceSub, Nat.reduceAdd, Nat.reduceLeDiff, *]) | (simp only [zgoO, zgoG, zO_nil, zthen_normal, zgoC]) | (with_reducible apply And.intro) | (with_reducible intro _))
      refine colours_z (HM2.out.ext _) ?_
      repeat' (first | (simp only [zmPack, zxPack, ne_eq, zfree, owners, Nat.reduceLT, List.contains_cons, List.contains_nil, Nat.reduceBEq, BEq.rfl, chunk, setAt, List.lookup_cons, List.lookup_nil, reduceCtorEq, Nat.reduceEqDiff, reduceIte, implies_true, forall_const, Nat.reduceMul, Nat.reduceSub, Nat.reduceAdd, Nat.reduceLeDiff, *]) | (simp only [zgoO, zgoG, zO_nil, zthen_normal, zgoC]) | (with_reducible apply And.intro) | (with_reducible intro _))
      refine neededin_z (by rw [hasOf_len]; have := HI2.out.gs.1.len; omega) (rootsLen HI2.out.gs.1) HI2.out.gs.1.own HI2.out.gs.1.ok HI2.out.gs.1.root ?_
      rw [needL_eq]
      have hnc := need_cnt HI2.out.gs
      have hna := fun x hx => need_at (x := x) HI2.out.gs hx
      obtain ⟨nl, hnl⟩ : ∃ nl, nl = rising (needT T2) := ⟨_, rfl⟩
      rw [← hnl] at hnc hna ⊢
      obtain ⟨cl, hcl⟩ : ∃ cl, cl = colsOf T2 := ⟨_, rfl⟩
      rw [← hcl] at hna ⊢
      have HNC := Lib.hid hnc
      have HNA := Lib.hid hna
      have HCL := Lib.hid hcl
      clear hnc hna hnl hcl
      repeat' (first | (simp only [zmPack, zxPack, ne_eq, zfree, owners, Nat.reduceLT, List.contains_cons, List.contains_nil, Nat.reduceBEq, BEq.rfl, chunk, setAt, List.lookup_cons, List.lookup_nil, reduceCtorEq, Nat.reduceEqDiff, reduceIte, implies_true, forall_const, Nat.reduceMul, Nat.reduceSub, Nat.reduceAdd, Nat.reduceLeDiff, *]) | (simp only [zgoO, zgoG, zO_nil, zthen_normal, zgoC]) | (with_reducible apply And.intro) | (with_reducible intro _))
      refine zW_forK [(73, .fz 1 false (nl.map eI)), (15, .fz 1 false (cl.map eI)), (7, .fz 1 ex7 (bg.map eB)), (9, .ptr h'.length 0), (13, Z64 e)] nl.length (fun _ _ W => W = H2 ++ [.box [.fz 1 false ((hasOf T2).map eL), .fz 1 false ((rising (heldB T2)).map eI)]]) (by have := HNC.out; omega) ⟨rfl, rfl, rfl, rfl, rfl, rfl⟩ rfl rfl (by repeat' (first | exact trivial | (refine ⟨rfl, ?_⟩) | (refine ⟨by simp only [zupd_at, Nat.reduceEqDiff, reduceIte]; assumption, ?_⟩))) rfl rfl (by decide) rfl ?_ ?_
      · rintro q s2 W hq rfl hi2 hl2 ⟨f73, f15, -⟩
        have hy : nl[q]? = some nl[q] := List.getElem?_eq_getElem hq
        obtain ⟨m, hm, hml, hcm, hc3⟩ := HNA.out _ (List.getElem_mem hq)
        rw [hm] at hy
        have hmc : m < cl.length := (List.getElem?_eq_some_iff.1 hcm).1
        obtain ⟨c, hc⟩ : ∃ c, c = cF T2 m := ⟨_, rfl⟩
        rw [← hc] at hcm hc3
        clear hm hml hc r9 r11
        repeat' (first | (simp only [zmPack, zxPack, ne_eq, zfree, owners, Nat.reduceLT, List.contains_cons, List.contains_nil, Nat.reduceBEq, BEq.rfl, chunk, setAt, List.lookup_cons, List.lookup_nil, reduceCtorEq, Nat.reduceEqDiff, reduceIte, implies_true, forall_const, Nat.reduceMul, Nat.reduceSub, Nat.reduceAdd, Nat.reduceLeDiff, hy, hcm, hc3, hmc, *]) | (simp only [zgoO, zgoG, zO_nil, zthen_normal, zgoC]) | (with_reducible apply And.intro) | (with_reducible intro _))
      · rintro s2 W rfl ⟨f73, f15, f7, f9, f13, -⟩
        have fin : ∃ g3 mk3 T3 bg3 ex3, ZV.fz 1 ex7 (bg.map eB) = .fz 1 ex3 (bg3.map eB) ∧ MkAt (H2 ++ [.box [.fz 1 false ((hasOf T2).map eL), .fz 1 false ((rising (heldB T2)).map eI)]]) p t g3 kd mk3 T3 ∧ KI kd bg3 mk3 T3 := ⟨g2, mk2, T2, bg, ex7, rfl, HM2.out.ext _, HI2.out⟩
        have FN := Lib.hid fin
        clear fin
        by_cases h7 : d1 = 7
        · by_cases he : e = 0
          · subst h7
            subst he
            have hmj := fun m hm => do_major (m := m) HI.out HDO.out hm
            have HMJ := Lib.hid hmj
            clear hmj
            repeat' (first | (simp only [zmPack, zxPack, ne_eq, zfree, owners, Nat.reduceLT, List.contains_cons, List.contains_nil, Nat.reduceBEq, BEq.rfl, chunk, setAt, List.lookup_cons, List.lookup_nil, reduceCtorEq, Nat.reduceEqDiff, reduceIte, implies_true, forall_const, Nat.reduceMul, Nat.reduceSub, Nat.reduceAdd, Nat.reduceLeDiff, r9, *]) | (simp only [zgoO, zgoG, zO_nil, zthen_normal, zgoC]) | (with_reducible apply And.intro) | (with_reducible intro _))
            refine zW_forK [(7, .fz 1 ex7 (bg.map eB)), (15, .fz 1 false (cl.map eI))] bg.length (fun _ _ W => W = H2 ++ [.box [.fz 1 false ((hasOf T2).map eL), .fz 1 false ((rising (heldB T2)).map eI)]]) (by have := HI2.out.len; have := HI2.out.gs.1.len; omega) ⟨rfl, rfl, rfl, rfl, rfl, rfl⟩ rfl rfl (by repeat' (first | exact trivial | (refine ⟨rfl, ?_⟩) | (refine ⟨by simp only [zupd_at, Nat.reduceEqDiff, reduceIte]; assumption, ?_⟩))) rfl rfl (by decide) rfl ?_ ?_
            · rintro q s3 W hq rfl hi3 hl3 ⟨f7, f15, -⟩
              have hb : bg[q]? = some bg[q] := List.getElem?_eq_getElem hq
              have hqT : q < T2.length := by have := HI2.out.len; omega
              have hcq : cl[q]? = some (cF T2 q) := by rw [HCL.out]; exact cols_at (n := 0) rfl hqT
              have hqc : q < cl.length := (List.getElem?_eq_some_iff.1 hcq).1
              obtain ⟨bb, hbb⟩ : ∃ bb, bb = bg[q] := ⟨_, rfl⟩
              rw [← hbb] at hb
              cases bb with
              | true =>
                clear hbb hqT r9 r11
                repeat' (first | (simp only [zmPack, zxPack, ne_eq, zfree, owners, Nat.reduceLT, List.contains_cons, List.contains_nil, Nat.reduceBEq, BEq.rfl, chunk, setAt, List.lookup_cons, List.lookup_nil, reduceCtorEq, Nat.reduceEqDiff, reduceIte, implies_true, forall_const, Nat.reduceMul, Nat.reduceSub, Nat.reduceAdd, Nat.reduceLeDiff, hb, hcq, hqc, *]) | (simp only [zgoO, zgoG, zO_nil, zthen_normal, zgoC]) | (with_reducible apply And.intro) | (with_reducible intro _))
              | false =>
                have h3 : cF T2 q = 3 := HMJ.out q ⟨hq, fun hs => by unfold Sn at hs; simp [List.getD, hb] at hs⟩
                rw [h3] at hcq
                clear hbb hqT h3 r9 r11
                repeat' (first | (simp only [zmPack, zxPack, ne_eq, zfree, owners, Nat.reduceLT, List.contains_cons, List.contains_nil, Nat.reduceBEq, BEq.rfl, chunk, setAt, List.lookup_cons, List.lookup_nil, reduceCtorEq, Nat.reduceEqDiff, reduceIte, implies_true, forall_const, Nat.reduceMul, Nat.reduceSub, Nat.reduceAdd, Nat.reduceLeDiff, hb, hcq, hqc, *]) | (simp only [zgoO, zgoG, zO_nil, zthen_normal, zgoC]) | (with_reducible apply And.intro) | (with_reducible intro _))
            · rintro s3 W rfl ⟨f7, f15, -⟩
              clear r9 r11
              repeat' (first | (simp only [zmPack, zxPack, ne_eq, zfree, owners, Nat.reduceLT, List.contains_cons, List.contains_nil, Nat.reduceBEq, BEq.rfl, chunk, setAt, List.lookup_cons, List.lookup_nil, reduceCtorEq, Nat.reduceEqDiff, reduceIte, implies_true, forall_const, Nat.reduceMul, Nat.reduceSub, Nat.reduceAdd, Nat.reduceLeDiff, *]) | (simp only [zgoO, zgoG, zO_nil, zthen_normal, zgoC]) | (with_reducible apply And.intro) | (with_reducible intro _))
              all_goals first | exact FN.out | exact ⟨_, _, _, _, rfl, HM2.out.ext _, HI2.out⟩ | exact ⟨_, _, _, _, _, rfl, HM2.out.ext _, HI2.out⟩ | fail
          · repeat' (first | (simp only [zmPack, zxPack, ne_eq, zfree, owners, Nat.reduceLT, List.contains_cons, List.contains_nil, Nat.reduceBEq, BEq.rfl, chunk, setAt, List.lookup_cons, List.lookup_nil, reduceCtorEq, Nat.reduceEqDiff, reduceIte, implies_true, forall_const, Nat.reduceMul, Nat.reduceSub, Nat.reduceAdd, Nat.reduceLeDiff, r9, *]) | (simp only [zgoO, zgoG, zO_nil, zthen_normal, zgoC]) | (with_reducible apply And.intro) | (with_reducible intro _))
            all_goals first | exact FN.out | exact ⟨_, _, _, _, rfl, HM2.out.ext _, HI2.out⟩ | exact ⟨_, _, _, _, _, rfl, HM2.out.ext _, HI2.out⟩ | fail
        · repeat' (first | (simp only [zmPack, zxPack, ne_eq, zfree, owners, Nat.reduceLT, List.contains_cons, List.contains_nil, Nat.reduceBEq, BEq.rfl, chunk, setAt, List.lookup_cons, List.lookup_nil, reduceCtorEq, Nat.reduceEqDiff, reduceIte, implies_true, forall_const, Nat.reduceMul, Nat.reduceSub, Nat.reduceAdd, Nat.reduceLeDiff, r9, *]) | (simp only [zgoO, zgoG, zO_nil, zthen_normal, zgoC]) | (with_reducible apply And.intro) | (with_reducible intro _))
          all_goals first | exact FN.out | exact ⟨_, _, _, _, rfl, HM2.out.ext _, HI2.out⟩ | exact ⟨_, _, _, _, _, rfl, HM2.out.ext _, HI2.out⟩ | fail
    | false =>
      repeat' (first | (simp only [zmPack, zxPack, ne_eq, zfree, owners, Nat.reduceLT, List.contains_cons, List.contains_nil, Nat.reduceBEq, BEq.rfl, chunk, setAt, List.lookup_cons, List.lookup_nil, reduceCtorEq, Nat.reduceEqDiff, reduceIte, implies_true, forall_const, Nat.reduceMul, Nat.reduceSub, Nat.reduceAdd, Nat.reduceLeDiff, *]) | (simp only [zgoO, zgoG, zO_nil, zthen_normal, zgoC]) | (with_reducible apply And.intro) | (with_reducible intro _))
      refine marking_z HM2.out ?_
      cases mk2 with
      | true =>
        have hI2 := HI.out.begun HDO.out rfl rfl
        have HI2 := Lib.hid hI2
        clear hI2
        have r11e := r11 []
        rw [List.append_nil] at r11e
        repeat' (first | (simp only [zmPack, zxPack, ne_eq, zfree, owners, Nat.reduceLT, List.contains_cons, List.contains_nil, Nat.reduceBEq, BEq.rfl, chunk, setAt, List.lookup_cons, List.lookup_nil, reduceCtorEq, Nat.reduceEqDiff, reduceIte, implies_true, forall_const, Nat.reduceMul, Nat.reduceSub, Nat.reduceAdd, Nat.reduceLeDiff, r11e, *]) | (simp only [zgoO, zgoG, zO_nil, zthen_normal, zgoC]) | (with_reducible apply And.intro) | (with_reducible intro _))
        refine rfrom_z (z2 := .fz 1 false ((rising (heldB T)).map eI)) rows_fz rfl rfl rows_fz (by rw [hasOf_len]; have := HI.out.gs.1.len; omega) (rootsLen HI.out.gs.1) HI.out.gs.1.own HI.out.gs.1.ok HI.out.gs.1.root (fun _ => rows_fz) (fun _ => rows_fz) fun ex => ?_
        rw [show liveSb (hasOf T) [] (rising (heldB T)) = needT T from rfl]
        obtain ⟨nb, hnb⟩ : ∃ nb, nb = needT T := ⟨_, rfl⟩
        rw [← hnb] at HI2 ⊢
        have HNB := Lib.hid hnb
        clear hnb
        repeat' (first | (simp only [zmPack, zxPack, ne_eq, zfree, owners, Nat.reduceLT, List.contains_cons, List.contains_nil, Nat.reduceBEq, BEq.rfl, chunk, setAt, List.lookup_cons, List.lookup_nil, reduceCtorEq, Nat.reduceEqDiff, reduceIte, implies_true, forall_const, Nat.reduceMul, Nat.reduceSub, Nat.reduceAdd, Nat.reduceLeDiff, zown_fz1, *]) | (simp only [zgoO, zgoG, zO_nil, zthen_normal, zgoC]) | (with_reducible apply And.intro) | (with_reducible intro _))
        refine graph_z HM2.out ?_
        repeat' (first | (simp only [zmPack, zxPack, ne_eq, zfree, owners, Nat.reduceLT, List.contains_cons, List.contains_nil, Nat.reduceBEq, BEq.rfl, chunk, setAt, List.lookup_cons, List.lookup_nil, reduceCtorEq, Nat.reduceEqDiff, reduceIte, implies_true, forall_const, Nat.reduceMul, Nat.reduceSub, Nat.reduceAdd, Nat.reduceLeDiff, *]) | (simp only [zgoO, zgoG, zO_nil, zthen_normal, zgoC]) | (with_reducible apply And.intro) | (with_reducible intro _))
        refine colours_z (HM2.out.ext _) ?_
        repeat' (first | (simp only [zmPack, zxPack, ne_eq, zfree, owners, Nat.reduceLT, List.contains_cons, List.contains_nil, Nat.reduceBEq, BEq.rfl, chunk, setAt, List.lookup_cons, List.lookup_nil, reduceCtorEq, Nat.reduceEqDiff, reduceIte, implies_true, forall_const, Nat.reduceMul, Nat.reduceSub, Nat.reduceAdd, Nat.reduceLeDiff, *]) | (simp only [zgoO, zgoG, zO_nil, zthen_normal, zgoC]) | (with_reducible apply And.intro) | (with_reducible intro _))
        refine neededin_z (by rw [hasOf_len]; have := HI2.out.gs.1.len; omega) (rootsLen HI2.out.gs.1) HI2.out.gs.1.own HI2.out.gs.1.ok HI2.out.gs.1.root ?_
        rw [needL_eq]
        have hnc := need_cnt HI2.out.gs
        have hna := fun x hx => need_at (x := x) HI2.out.gs hx
        obtain ⟨nl, hnl⟩ : ∃ nl, nl = rising (needT T2) := ⟨_, rfl⟩
        rw [← hnl] at hnc hna ⊢
        obtain ⟨cl, hcl⟩ : ∃ cl, cl = colsOf T2 := ⟨_, rfl⟩
        rw [← hcl] at hna ⊢
        have HNC := Lib.hid hnc
        have HNA := Lib.hid hna
        have HCL := Lib.hid hcl
        clear hnc hna hnl hcl
        repeat' (first | (simp only [zmPack, zxPack, ne_eq, zfree, owners, Nat.reduceLT, List.contains_cons, List.contains_nil, Nat.reduceBEq, BEq.rfl, chunk, setAt, List.lookup_cons, List.lookup_nil, reduceCtorEq, Nat.reduceEqDiff, reduceIte, implies_true, forall_const, Nat.reduceMul, Nat.reduceSub, Nat.reduceAdd, Nat.reduceLeDiff, *]) | (simp only [zgoO, zgoG, zO_nil, zthen_normal, zgoC]) | (with_reducible apply And.intro) | (with_reducible intro _))
        refine zW_forK [(73, .fz 1 false (nl.map eI)), (15, .fz 1 false (cl.map eI)), (7, .fz 1 ex (nb.map eB)), (9, .ptr h'.length 0), (13, Z64 e)] nl.length (fun _ _ W => W = H2 ++ [.box [.fz 1 false ((hasOf T2).map eL), .fz 1 false ((rising (heldB T2)).map eI)]]) (by have := HNC.out; omega) ⟨rfl, rfl, rfl, rfl, rfl, rfl⟩ rfl rfl (by repeat' (first | exact trivial | (refine ⟨rfl, ?_⟩) | (refine ⟨by simp only [zupd_at, Nat.reduceEqDiff, reduceIte]; assumption, ?_⟩))) rfl rfl (by decide) rfl ?_ ?_
        · rintro q s2 W hq rfl hi2 hl2 ⟨f73, f15, -⟩
          have hy : nl[q]? = some nl[q] := List.getElem?_eq_getElem hq
          obtain ⟨m, hm, hml, hcm, hc3⟩ := HNA.out _ (List.getElem_mem hq)
          rw [hm] at hy
          have hmc : m < cl.length := (List.getElem?_eq_some_iff.1 hcm).1
          obtain ⟨c, hc⟩ : ∃ c, c = cF T2 m := ⟨_, rfl⟩
          rw [← hc] at hcm hc3
          clear hm hml hc r9 r11
          repeat' (first | (simp only [zmPack, zxPack, ne_eq, zfree, owners, Nat.reduceLT, List.contains_cons, List.contains_nil, Nat.reduceBEq, BEq.rfl, chunk, setAt, List.lookup_cons, List.lookup_nil, reduceCtorEq, Nat.reduceEqDiff, reduceIte, implies_true, forall_const, Nat.reduceMul, Nat.reduceSub, Nat.reduceAdd, Nat.reduceLeDiff, hy, hcm, hc3, hmc, *]) | (simp only [zgoO, zgoG, zO_nil, zthen_normal, zgoC]) | (with_reducible apply And.intro) | (with_reducible intro _))
        · rintro s2 W rfl ⟨f73, f15, f7, f9, f13, -⟩
          have fin : ∃ g3 mk3 T3 bg3 ex3, ZV.fz 1 ex (nb.map eB) = .fz 1 ex3 (bg3.map eB) ∧ MkAt (H2 ++ [.box [.fz 1 false ((hasOf T2).map eL), .fz 1 false ((rising (heldB T2)).map eI)]]) p t g3 kd mk3 T3 ∧ KI kd bg3 mk3 T3 := ⟨g2, true, T2, nb, ex, rfl, HM2.out.ext _, HI2.out⟩
          have FN := Lib.hid fin
          clear fin
          by_cases h7 : d1 = 7
          · by_cases he : e = 0
            · subst h7
              subst he
              have hmj := fun m hm => do_major (m := m) HI.out HDO.out hm
              have HMJ := Lib.hid hmj
              clear hmj
              repeat' (first | (simp only [zmPack, zxPack, ne_eq, zfree, owners, Nat.reduceLT, List.contains_cons, List.contains_nil, Nat.reduceBEq, BEq.rfl, chunk, setAt, List.lookup_cons, List.lookup_nil, reduceCtorEq, Nat.reduceEqDiff, reduceIte, implies_true, forall_const, Nat.reduceMul, Nat.reduceSub, Nat.reduceAdd, Nat.reduceLeDiff, r9, *]) | (simp only [zgoO, zgoG, zO_nil, zthen_normal, zgoC]) | (with_reducible apply And.intro) | (with_reducible intro _))
              refine zW_forK [(7, .fz 1 ex (nb.map eB)), (15, .fz 1 false (cl.map eI))] nb.length (fun _ _ W => W = H2 ++ [.box [.fz 1 false ((hasOf T2).map eL), .fz 1 false ((rising (heldB T2)).map eI)]]) (by have := HI2.out.len; have := HI2.out.gs.1.len; omega) ⟨rfl, rfl, rfl, rfl, rfl, rfl⟩ rfl rfl (by repeat' (first | exact trivial | (refine ⟨rfl, ?_⟩) | (refine ⟨by simp only [zupd_at, Nat.reduceEqDiff, reduceIte]; assumption, ?_⟩))) rfl rfl (by decide) rfl ?_ ?_
              · rintro q s3 W hq rfl hi3 hl3 ⟨f7, f15, -⟩
                have hb : nb[q]? = some nb[q] := List.getElem?_eq_getElem hq
                have hqT : q < T2.length := by have := HI2.out.len; omega
                have hcq : cl[q]? = some (cF T2 q) := by rw [HCL.out]; exact cols_at (n := 0) rfl hqT
                have hqc : q < cl.length := (List.getElem?_eq_some_iff.1 hcq).1
                obtain ⟨bb, hbb⟩ : ∃ bb, bb = nb[q] := ⟨_, rfl⟩
                rw [← hbb] at hb
                cases bb with
                | true =>
                  clear hbb hqT r9 r11
                  repeat' (first | (simp only [zmPack, zxPack, ne_eq, zfree, owners, Nat.reduceLT, List.contains_cons, List.contains_nil, Nat.reduceBEq, BEq.rfl, chunk, setAt, List.lookup_cons, List.lookup_nil, reduceCtorEq, Nat.reduceEqDiff, reduceIte, implies_true, forall_const, Nat.reduceMul, Nat.reduceSub, Nat.reduceAdd, Nat.reduceLeDiff, hb, hcq, hqc, *]) | (simp only [zgoO, zgoG, zO_nil, zthen_normal, zgoC]) | (with_reducible apply And.intro) | (with_reducible intro _))
                | false =>
                  have h3 : cF T2 q = 3 := (do_major_no HDO.out).elim
                  rw [h3] at hcq
                  clear hbb hqT h3 r9 r11
                  repeat' (first | (simp only [zmPack, zxPack, ne_eq, zfree, owners, Nat.reduceLT, List.contains_cons, List.contains_nil, Nat.reduceBEq, BEq.rfl, chunk, setAt, List.lookup_cons, List.lookup_nil, reduceCtorEq, Nat.reduceEqDiff, reduceIte, implies_true, forall_const, Nat.reduceMul, Nat.reduceSub, Nat.reduceAdd, Nat.reduceLeDiff, hb, hcq, hqc, *]) | (simp only [zgoO, zgoG, zO_nil, zthen_normal, zgoC]) | (with_reducible apply And.intro) | (with_reducible intro _))
              · rintro s3 W rfl ⟨f7, f15, -⟩
                clear r9 r11
                repeat' (first | (simp only [zmPack, zxPack, ne_eq, zfree, owners, Nat.reduceLT, List.contains_cons, List.contains_nil, Nat.reduceBEq, BEq.rfl, chunk, setAt, List.lookup_cons, List.lookup_nil, reduceCtorEq, Nat.reduceEqDiff, reduceIte, implies_true, forall_const, Nat.reduceMul, Nat.reduceSub, Nat.reduceAdd, Nat.reduceLeDiff, *]) | (simp only [zgoO, zgoG, zO_nil, zthen_normal, zgoC]) | (with_reducible apply And.intro) | (with_reducible intro _))
                all_goals first | exact FN.out | exact ⟨_, _, _, _, rfl, HM2.out.ext _, HI2.out⟩ | exact ⟨_, _, _, _, _, rfl, HM2.out.ext _, HI2.out⟩ | fail
            · repeat' (first | (simp only [zmPack, zxPack, ne_eq, zfree, owners, Nat.reduceLT, List.contains_cons, List.contains_nil, Nat.reduceBEq, BEq.rfl, chunk, setAt, List.lookup_cons, List.lookup_nil, reduceCtorEq, Nat.reduceEqDiff, reduceIte, implies_true, forall_const, Nat.reduceMul, Nat.reduceSub, Nat.reduceAdd, Nat.reduceLeDiff, r9, *]) | (simp only [zgoO, zgoG, zO_nil, zthen_normal, zgoC]) | (with_reducible apply And.intro) | (with_reducible intro _))
              all_goals first | exact FN.out | exact ⟨_, _, _, _, rfl, HM2.out.ext _, HI2.out⟩ | exact ⟨_, _, _, _, _, rfl, HM2.out.ext _, HI2.out⟩ | fail
          · repeat' (first | (simp only [zmPack, zxPack, ne_eq, zfree, owners, Nat.reduceLT, List.contains_cons, List.contains_nil, Nat.reduceBEq, BEq.rfl, chunk, setAt, List.lookup_cons, List.lookup_nil, reduceCtorEq, Nat.reduceEqDiff, reduceIte, implies_true, forall_const, Nat.reduceMul, Nat.reduceSub, Nat.reduceAdd, Nat.reduceLeDiff, r9, *]) | (simp only [zgoO, zgoG, zO_nil, zthen_normal, zgoC]) | (with_reducible apply And.intro) | (with_reducible intro _))
            all_goals first | exact FN.out | exact ⟨_, _, _, _, rfl, HM2.out.ext _, HI2.out⟩ | exact ⟨_, _, _, _, _, rfl, HM2.out.ext _, HI2.out⟩ | fail
      | false =>
        have hI2 := HI.out.idle HDO.out rfl
        have HI2 := Lib.hid hI2
        clear hI2
        repeat' (first | (simp only [zmPack, zxPack, ne_eq, zfree, owners, Nat.reduceLT, List.contains_cons, List.contains_nil, Nat.reduceBEq, BEq.rfl, chunk, setAt, List.lookup_cons, List.lookup_nil, reduceCtorEq, Nat.reduceEqDiff, reduceIte, implies_true, forall_const, Nat.reduceMul, Nat.reduceSub, Nat.reduceAdd, Nat.reduceLeDiff, *]) | (simp only [zgoO, zgoG, zO_nil, zthen_normal, zgoC]) | (with_reducible apply And.intro) | (with_reducible intro _))
        refine graph_z HM2.out ?_
        repeat' (first | (simp only [zmPack, zxPack, ne_eq, zfree, owners, Nat.reduceLT, List.contains_cons, List.contains_nil, Nat.reduceBEq, BEq.rfl, chunk, setAt, List.lookup_cons, List.lookup_nil, reduceCtorEq, Nat.reduceEqDiff, reduceIte, implies_true, forall_const, Nat.reduceMul, Nat.reduceSub, Nat.reduceAdd, Nat.reduceLeDiff, *]) | (simp only [zgoO, zgoG, zO_nil, zthen_normal, zgoC]) | (with_reducible apply And.intro) | (with_reducible intro _))
        refine colours_z (HM2.out.ext _) ?_
        repeat' (first | (simp only [zmPack, zxPack, ne_eq, zfree, owners, Nat.reduceLT, List.contains_cons, List.contains_nil, Nat.reduceBEq, BEq.rfl, chunk, setAt, List.lookup_cons, List.lookup_nil, reduceCtorEq, Nat.reduceEqDiff, reduceIte, implies_true, forall_const, Nat.reduceMul, Nat.reduceSub, Nat.reduceAdd, Nat.reduceLeDiff, *]) | (simp only [zgoO, zgoG, zO_nil, zthen_normal, zgoC]) | (with_reducible apply And.intro) | (with_reducible intro _))
        refine neededin_z (by rw [hasOf_len]; have := HI2.out.gs.1.len; omega) (rootsLen HI2.out.gs.1) HI2.out.gs.1.own HI2.out.gs.1.ok HI2.out.gs.1.root ?_
        rw [needL_eq]
        have hnc := need_cnt HI2.out.gs
        have hna := fun x hx => need_at (x := x) HI2.out.gs hx
        obtain ⟨nl, hnl⟩ : ∃ nl, nl = rising (needT T2) := ⟨_, rfl⟩
        rw [← hnl] at hnc hna ⊢
        obtain ⟨cl, hcl⟩ : ∃ cl, cl = colsOf T2 := ⟨_, rfl⟩
        rw [← hcl] at hna ⊢
        have HNC := Lib.hid hnc
        have HNA := Lib.hid hna
        have HCL := Lib.hid hcl
        clear hnc hna hnl hcl
        repeat' (first | (simp only [zmPack, zxPack, ne_eq, zfree, owners, Nat.reduceLT, List.contains_cons, List.contains_nil, Nat.reduceBEq, BEq.rfl, chunk, setAt, List.lookup_cons, List.lookup_nil, reduceCtorEq, Nat.reduceEqDiff, reduceIte, implies_true, forall_const, Nat.reduceMul, Nat.reduceSub, Nat.reduceAdd, Nat.reduceLeDiff, *]) | (simp only [zgoO, zgoG, zO_nil, zthen_normal, zgoC]) | (with_reducible apply And.intro) | (with_reducible intro _))
        refine zW_forK [(73, .fz 1 false (nl.map eI)), (15, .fz 1 false (cl.map eI)), (7, .fz 1 ex7 (bg.map eB)), (9, .ptr h'.length 0), (13, Z64 e)] nl.length (fun _ _ W => W = H2 ++ [.box [.fz 1 false ((hasOf T2).map eL), .fz 1 false ((rising (heldB T2)).map eI)]]) (by have := HNC.out; omega) ⟨rfl, rfl, rfl, rfl, rfl, rfl⟩ rfl rfl (by repeat' (first | exact trivial | (refine ⟨rfl, ?_⟩) | (refine ⟨by simp only [zupd_at, Nat.reduceEqDiff, reduceIte]; assumption, ?_⟩))) rfl rfl (by decide) rfl ?_ ?_
        · rintro q s2 W hq rfl hi2 hl2 ⟨f73, f15, -⟩
          have hy : nl[q]? = some nl[q] := List.getElem?_eq_getElem hq
          obtain ⟨m, hm, hml, hcm, hc3⟩ := HNA.out _ (List.getElem_mem hq)
          rw [hm] at hy
          have hmc : m < cl.length := (List.getElem?_eq_some_iff.1 hcm).1
          obtain ⟨c, hc⟩ : ∃ c, c = cF T2 m := ⟨_, rfl⟩
          rw [← hc] at hcm hc3
          clear hm hml hc r9 r11
          repeat' (first | (simp only [zmPack, zxPack, ne_eq, zfree, owners, Nat.reduceLT, List.contains_cons, List.contains_nil, Nat.reduceBEq, BEq.rfl, chunk, setAt, List.lookup_cons, List.lookup_nil, reduceCtorEq, Nat.reduceEqDiff, reduceIte, implies_true, forall_const, Nat.reduceMul, Nat.reduceSub, Nat.reduceAdd, Nat.reduceLeDiff, hy, hcm, hc3, hmc, *]) | (simp only [zgoO, zgoG, zO_nil, zthen_normal, zgoC]) | (with_reducible apply And.intro) | (with_reducible intro _))
        · rintro s2 W rfl ⟨f73, f15, f7, f9, f13, -⟩
          have fin : ∃ g3 mk3 T3 bg3 ex3, ZV.fz 1 ex7 (bg.map eB) = .fz 1 ex3 (bg3.map eB) ∧ MkAt (H2 ++ [.box [.fz 1 false ((hasOf T2).map eL), .fz 1 false ((rising (heldB T2)).map eI)]]) p t g3 kd mk3 T3 ∧ KI kd bg3 mk3 T3 := ⟨g2, false, T2, bg, ex7, rfl, HM2.out.ext _, HI2.out⟩
          have FN := Lib.hid fin
          clear fin
          by_cases h7 : d1 = 7
          · by_cases he : e = 0
            · subst h7
              subst he
              have hmj := fun m hm => do_major (m := m) HI.out HDO.out hm
              have HMJ := Lib.hid hmj
              clear hmj
              repeat' (first | (simp only [zmPack, zxPack, ne_eq, zfree, owners, Nat.reduceLT, List.contains_cons, List.contains_nil, Nat.reduceBEq, BEq.rfl, chunk, setAt, List.lookup_cons, List.lookup_nil, reduceCtorEq, Nat.reduceEqDiff, reduceIte, implies_true, forall_const, Nat.reduceMul, Nat.reduceSub, Nat.reduceAdd, Nat.reduceLeDiff, r9, *]) | (simp only [zgoO, zgoG, zO_nil, zthen_normal, zgoC]) | (with_reducible apply And.intro) | (with_reducible intro _))
              refine zW_forK [(7, .fz 1 ex7 (bg.map eB)), (15, .fz 1 false (cl.map eI))] bg.length (fun _ _ W => W = H2 ++ [.box [.fz 1 false ((hasOf T2).map eL), .fz 1 false ((rising (heldB T2)).map eI)]]) (by have := HI2.out.len; have := HI2.out.gs.1.len; omega) ⟨rfl, rfl, rfl, rfl, rfl, rfl⟩ rfl rfl (by repeat' (first | exact trivial | (refine ⟨rfl, ?_⟩) | (refine ⟨by simp only [zupd_at, Nat.reduceEqDiff, reduceIte]; assumption, ?_⟩))) rfl rfl (by decide) rfl ?_ ?_
              · rintro q s3 W hq rfl hi3 hl3 ⟨f7, f15, -⟩
                have hb : bg[q]? = some bg[q] := List.getElem?_eq_getElem hq
                have hqT : q < T2.length := by have := HI2.out.len; omega
                have hcq : cl[q]? = some (cF T2 q) := by rw [HCL.out]; exact cols_at (n := 0) rfl hqT
                have hqc : q < cl.length := (List.getElem?_eq_some_iff.1 hcq).1
                obtain ⟨bb, hbb⟩ : ∃ bb, bb = bg[q] := ⟨_, rfl⟩
                rw [← hbb] at hb
                cases bb with
                | true =>
                  clear hbb hqT r9 r11
                  repeat' (first | (simp only [zmPack, zxPack, ne_eq, zfree, owners, Nat.reduceLT, List.contains_cons, List.contains_nil, Nat.reduceBEq, BEq.rfl, chunk, setAt, List.lookup_cons, List.lookup_nil, reduceCtorEq, Nat.reduceEqDiff, reduceIte, implies_true, forall_const, Nat.reduceMul, Nat.reduceSub, Nat.reduceAdd, Nat.reduceLeDiff, hb, hcq, hqc, *]) | (simp only [zgoO, zgoG, zO_nil, zthen_normal, zgoC]) | (with_reducible apply And.intro) | (with_reducible intro _))
                | false =>
                  have h3 : cF T2 q = 3 := HMJ.out q ⟨hq, fun hs => by unfold Sn at hs; simp [List.getD, hb] at hs⟩
                  rw [h3] at hcq
                  clear hbb hqT h3 r9 r11
                  repeat' (first | (simp only [zmPack, zxPack, ne_eq, zfree, owners, Nat.reduceLT, List.contains_cons, List.contains_nil, Nat.reduceBEq, BEq.rfl, chunk, setAt, List.lookup_cons, List.lookup_nil, reduceCtorEq, Nat.reduceEqDiff, reduceIte, implies_true, forall_const, Nat.reduceMul, Nat.reduceSub, Nat.reduceAdd, Nat.reduceLeDiff, hb, hcq, hqc, *]) | (simp only [zgoO, zgoG, zO_nil, zthen_normal, zgoC]) | (with_reducible apply And.intro) | (with_reducible intro _))
              · rintro s3 W rfl ⟨f7, f15, -⟩
                clear r9 r11
                repeat' (first | (simp only [zmPack, zxPack, ne_eq, zfree, owners, Nat.reduceLT, List.contains_cons, List.contains_nil, Nat.reduceBEq, BEq.rfl, chunk, setAt, List.lookup_cons, List.lookup_nil, reduceCtorEq, Nat.reduceEqDiff, reduceIte, implies_true, forall_const, Nat.reduceMul, Nat.reduceSub, Nat.reduceAdd, Nat.reduceLeDiff, *]) | (simp only [zgoO, zgoG, zO_nil, zthen_normal, zgoC]) | (with_reducible apply And.intro) | (with_reducible intro _))
                all_goals first | exact FN.out | exact ⟨_, _, _, _, rfl, HM2.out.ext _, HI2.out⟩ | exact ⟨_, _, _, _, _, rfl, HM2.out.ext _, HI2.out⟩ | fail
            · repeat' (first | (simp only [zmPack, zxPack, ne_eq, zfree, owners, Nat.reduceLT, List.contains_cons, List.contains_nil, Nat.reduceBEq, BEq.rfl, chunk, setAt, List.lookup_cons, List.lookup_nil, reduceCtorEq, Nat.reduceEqDiff, reduceIte, implies_true, forall_const, Nat.reduceMul, Nat.reduceSub, Nat.reduceAdd, Nat.reduceLeDiff, r9, *]) | (simp only [zgoO, zgoG, zO_nil, zthen_normal, zgoC]) | (with_reducible apply And.intro) | (with_reducible intro _))
              all_goals first | exact FN.out | exact ⟨_, _, _, _, rfl, HM2.out.ext _, HI2.out⟩ | exact ⟨_, _, _, _, _, rfl, HM2.out.ext _, HI2.out⟩ | fail
          · repeat' (first | (simp only [zmPack, zxPack, ne_eq, zfree, owners, Nat.reduceLT, List.contains_cons, List.contains_nil, Nat.reduceBEq, BEq.rfl, chunk, setAt, List.lookup_cons, List.lookup_nil, reduceCtorEq, Nat.reduceEqDiff, reduceIte, implies_true, forall_const, Nat.reduceMul, Nat.reduceSub, Nat.reduceAdd, Nat.reduceLeDiff, r9, *]) | (simp only [zgoO, zgoG, zO_nil, zthen_normal, zgoC]) | (with_reducible apply And.intro) | (with_reducible intro _))
            all_goals first | exact FN.out | exact ⟨_, _, _, _, rfl, HM2.out.ext _, HI2.out⟩ | exact ⟨_, _, _, _, _, rfl, HM2.out.ext _, HI2.out⟩ | fail
  · rintro s' h' ⟨g, mk, T, bg, ex7, f7, hM, hI⟩ ⟨f5, f42, -⟩
    have fin := FI.out h'
    clear hM hI f7
    repeat' (first | (simp only [zmPack, zxPack, ne_eq, zfree, owners, Nat.reduceLT, List.contains_cons, List.contains_nil, Nat.reduceBEq, BEq.rfl, chunk, setAt, List.lookup_cons, List.lookup_nil, reduceCtorEq, Nat.reduceEqDiff, reduceIte, implies_true, forall_const, Nat.reduceMul, Nat.reduceSub, Nat.reduceAdd, Nat.reduceLeDiff, *]) | (simp only [zgoO, zgoG, zO_nil, zthen_normal, zgoC]) | (with_reducible apply And.intro) | (with_reducible intro _))
end Go.Proofs.Ytpeagenjmmkohaa

namespace Go.Proofs.Ytpeagenjmmkohaa
open Go Go.RowKit Go.ChangeShapes Go.WideShapes Go.ChangeAt
set_option linter.unusedVariables false
set_option linter.unusedSimpArgs false
set_option maxRecDepth 100000 in
theorem markkeeps_lifted (os : Os) (started : os.Started) (H : Type) (enc : TypeId × Value → H) :
    ReturnsInHanded {} Try.checked os 8 .any (Rows.markKeepsSpec.pre6 enc Try.prog Try.f8 Rows.markKeepsRow.domain false) (Rows.markKeepsSpec.post enc Try.prog Try.f8 false true false false) := by
  refine law_lifted (C := Try.checked) 12 [(false, .int .i64), (false, .slice 32 (.prod (.int .i64) (.prod (.int .i64) (.prod (.int .i64) (.int .i64)))))] 4 Try.own Try.laidOut started (by kernel_rfl) Try.func8
    (ChangeSpec.witness6 (enc := enc) (C := Try.checked) false ⟨#[], #[.int .i64 0, .slice none 0 0], []⟩ 8 (by kernel_rfl) (by kernel_rfl) (by kernel_rfl) (by kernel_rfl))
    rfl (by kernel_rfl) Try.underlying4 (fun ds h => ?_) (by kernel_rfl) (by kernel_rfl) (fun W args h => ?_)
  · match ds, h with
    | [d0, d1], _ => rfl
  · refine zm_walk (by kernel_rfl) (constX_ok (n := 200) (F := cFunc Try.prog) (by kernel_rfl) (fun f af h => h) tbMk (by intro p hp; rw [List.mem_singleton.1 hp]; kernel_rfl)) (fun f af h => h) rfl (fun zl hz => ?_) W args h
    obtain ⟨kind, _, rfl, _, _, l, _, rfl, hl, sl, rfl⟩ := hz
    exact markkeeps_z (kind := kind) (l := l)
theorem markkeeps_holds : Rows.MarkKeepsSaid :=
  OpenClaim.holds_of_wide 8 Try.f8 rfl rfl rfl rfl rfl rfl rfl ⟨rfl, rfl, rfl, rfl, rfl⟩ rfl rfl rfl rfl rfl (by kernel_rfl) Try.func8 (by kernel_rfl) (of_decide_eq_true (by kernel_rfl)) (by unfold Func.isWrapper; first | (rw [if_pos (by decide +kernel)]; kernel_rfl) | (rw [if_neg (by decide +kernel)]; exact ⟨rfl, rfl⟩))
    (fun os started H enc _ => markkeeps_lifted os started H enc)
end Go.Proofs.Ytpeagenjmmkohaa
