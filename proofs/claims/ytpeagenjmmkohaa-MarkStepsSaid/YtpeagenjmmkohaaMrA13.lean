/-
  Proved: the law MarkSteps answers true, whatever the input: steps tell how many became black; when none is grey more steps do nothing; white ones are what goes.
-/
import Derived.Test.YtpeagenjmmkohaaMrA12
namespace Go.Proofs.Ytpeagenjmmkohaa
open Go Go.RowKit
set_option linter.unusedVariables false
set_option linter.unusedSimpArgs false
section
variable {kd : Int} {mk mk' : Bool} {T T' : List TB} {a b n d r e c : Int}
def cntI (l : List Int) (c : Int) : Nat := l.countP fun x => decide (x = c)
def cntT (T : List TB) (c : Int) : Nat := T.countP fun x => decide (x.2.2.1 = c)
theorem cntT_eq : cntI (colsOf T) c = cntT T c := by
  unfold cntI cntT colsOf
  rw [List.countP_map]; rfl
theorem cnt_le {l : List Int} : cntI l c ≤ l.length := List.countP_le_length
theorem cnt_shade {z : Int} (h0 : c ≠ 0) (h1 : c ≠ 1) : cntT (shadeT mk T z) c = cntT T c := by
  unfold shadeT
  split
  · split
    · rename_i x hx
      split
      · rename_i hc
        have := countP_put (q := fun x : TB => decide (x.2.2.1 = c)) (y := colX x 1) hx
        have e1 : ¬ x.2.2.1 = c := by omega
        have e2 : ¬ (1 : Int) = c := by omega
        simp only [e1, e2, decide_false, Bool.false_eq_true, if_false, Nat.add_zero] at this
        exact this
      · rfl
    · rfl
  · rfl
theorem cnt_shades {l : List Int} (h0 : c ≠ 0) (h1 : c ≠ 1) : ∀ {T : List TB}, cntT (shades mk T l) c = cntT T c := by
  induction l with
  | nil => exact rfl
  | cons a l ih => intro T; exact (ih (T := shadeT mk T a)).trans (cnt_shade h0 h1)
theorem cnt_step (h : stepT mk T = some T') : cntT T' 2 = cntT T 2 + 1 ∧ cntT T' 3 = cntT T 3 := by
  obtain ⟨i, x, hx, h1, rfl, _⟩ := stepT_some h
  rw [cnt_shades (by decide) (by decide), cnt_shades (by decide) (by decide)]
  have a1 := countP_put (q := fun x : TB => decide (x.2.2.1 = 2)) (y := colX x 2) hx
  have a2 := countP_put (q := fun x : TB => decide (x.2.2.1 = 3)) (y := colX x 2) hx
  have e1 : ¬ x.2.2.1 = 2 := by omega
  have e2 : ¬ x.2.2.1 = 3 := by omega
  have e3 : ¬ (2 : Int) = 3 := by omega
  simp only [e1, e2, e3, decide_false, decide_true, Bool.false_eq_true, if_false, if_true, Nat.add_zero] at a1 a2
  exact ⟨a1, a2⟩
theorem cnt_stp {m : Nat} (h : Stp mk m T T') : cntT T' 2 = cntT T 2 + m ∧ cntT T' 3 = cntT T 3 := by
  induction h with
  | zero => exact ⟨rfl, rfl⟩
  | next _ h2 ih => obtain ⟨q1, q2⟩ := cnt_step h2; exact ⟨by omega, by omega⟩
theorem cnt_none (h : ∀ n, cF T n ≠ c) : cntT T c = 0 := by
  unfold cntT
  rw [List.countP_eq_zero]
  intro x hx
  obtain ⟨i, hi, rfl⟩ := List.getElem_of_mem hx
  have := h i
  rw [cF_at (List.getElem?_eq_getElem hi)] at this
  simpa using this
theorem cnt_end : cntT (T.map endX) 3 = cntT T 3 + cntT T 0 := by
  unfold cntT
  induction T with
  | nil => rfl
  | cons x T ih =>
    rw [List.map_cons, List.countP_cons, List.countP_cons, List.countP_cons, ih]
    unfold endX
    by_cases h0 : x.2.2.1 = 0
    · simp [h0]; omega
    · by_cases h2 : x.2.2.1 = 2
      · simp [h0, h2]
      · simp [h0, h2]; omega
theorem grey_none (g : stepT mk T = none) : cntT T 1 = 0 := by
  unfold stepT at g
  cases hf : T.findIdx? greyB with
  | none =>
    unfold cntT
    rw [List.countP_eq_zero]
    intro x hx
    have := List.findIdx?_eq_none_iff.1 hf x hx
    simpa [greyB] using this
  | some i =>
    obtain ⟨h1, _, _⟩ := List.findIdx?_eq_some_iff_getElem.1 hf
    rw [hf] at g
    simp [List.getElem?_eq_getElem h1] at g
theorem do_steps (h : DoT kd mk T a b n 5 r 0 mk' T') : r ≤ n ∧ (∃ m : Nat, r = m ∧ cntT T' 2 = cntT T 2 + m) ∧ (r < n → cntT T' 1 = 0) := by
  cases h with
  | step q h0 hS h1 h2 => exact ⟨h1, ⟨_, rfl, (cnt_stp hS).1⟩, fun q => grey_none (h2 q)⟩
theorem do_end (g : GS kd mk T) (h : DoT kd mk T a b n 7 r 0 mk' T') : (∃ m : Nat, r = m ∧ cntT T' 3 = cntT T 3 + m) ∧ cntT T' 1 = 0 ∧ cntT T' 2 = 0 ∧ mk' = false := by
  have g' := do_good h g
  cases h with
  | @done j T1 q hS hno =>
    have hid := g'.2.idle rfl
    exact ⟨⟨_, rfl, by rw [cnt_end, (cnt_stp hS).2]; rfl⟩, cnt_none fun n hc => by rcases hid n with q | q <;> omega, cnt_none fun n hc => by rcases hid n with q | q <;> omega, rfl⟩
theorem idle_cnt (g : GS kd false T) : cntT T 1 = 0 ∧ cntT T 2 = 0 :=
  ⟨cnt_none fun n hc => by rcases g.2.idle rfl n with q | q <;> omega, cnt_none fun n hc => by rcases g.2.idle rfl n with q | q <;> omega⟩
theorem cntT_le (g : GS kd mk T) : cntT T c ≤ 100 := by have := cnt_le (l := colsOf T) (c := c); rw [cntT_eq, cols_len] at this; have := g.1.len; omega
end
theorem count_z {tb : List (FuncId × Bool)} {L : Nat → Bool} {H : ZH} {K : ZV → ZH → Prop} {l : List Int} {c : Int} (hl : l.length ≤ 1000) (hK : K (Z64 (cntI l c)) H) :
    ZC (constX tb) (cFunc Try.prog) 23 [.fz 1 false (l.map eI), Z64 c] L H K := by
  refine ZC.enter Gh.no constX_none f_mk_count (by simp) ?_
  simp only [c_mk_count]
  have HL := Lib.hid hl
  have HK := Lib.hid hK
  clear hl hK
  repeat' (first | (simp only [zmPack, zxPack, ne_eq, zfree, owners, Nat.reduceLT, List.contains_cons, List.contains_nil, Nat.reduceBEq, BEq.rfl, chunk, setAt, List.lookup_cons, List.lookup_nil, reduceCtorEq, Nat.reduceEqDiff, reduceIte, implies_true, forall_const, Nat.reduceMul, Nat.reduceSub, Nat.reduceAdd, Nat.reduceLeDiff, *]) | (simp only [zgoO, zgoG, zO_nil, zthen_normal, zgoC]) | (with_reducible apply And.intro) | (with_reducible intro _))
  refine zW_forK [(8, .fz 1 false (l.map eI)), (1, Z64 c)] l.length (fun k s' h' => h' = H ∧ s' 5 = Z64 (cntI (l.take k) c)) (by have := HL.out; omega) ⟨rfl, rfl, rfl, rfl, rfl, rfl⟩ rfl rfl (by repeat' (first | exact trivial | (refine ⟨rfl, ?_⟩) | (refine ⟨by simp only [zupd_at, Nat.reduceEqDiff, reduceIte]; assumption, ?_⟩))) rfl rfl (by decide) ⟨rfl, rfl⟩ ?_ ?_
  · rintro k s' h' hk ⟨rfl, f5⟩ hi hll ⟨f8, f1, -⟩
    have hx : l[k]? = some l[k] := List.getElem?_eq_getElem hk
    have hn : cntI (l.take (k + 1)) c = cntI (l.take k) c + (if l[k] = c then 1 else 0) := by
      unfold cntI
      rw [List.take_succ_eq_append_getElem hk, List.countP_append]
      simp [List.countP_cons]
    have hle := cnt_le (l := l.take k) (c := c)
    rw [List.length_take] at hle
    have w1 : IntKind.i64.wrap ((cntI (l.take k) c : Int) + 1) = ((cntI (l.take k) c + 1 : Nat) : Int) := by have := HL.out; rw [IntWalk.i64_in _ (by omega)]; omega
    obtain ⟨x, hxe⟩ : ∃ x, x = l[k] := ⟨_, rfl⟩
    rw [← hxe] at hx hn
    clear hxe hle
    by_cases h : x = c
    · rw [if_pos h] at hn
      have HN := Lib.hid hn
      clear hn
      repeat' (first | (simp only [zmPack, zxPack, ne_eq, zfree, owners, Nat.reduceLT, List.contains_cons, List.contains_nil, Nat.reduceBEq, BEq.rfl, chunk, setAt, List.lookup_cons, List.lookup_nil, reduceCtorEq, Nat.reduceEqDiff, reduceIte, implies_true, forall_const, Nat.reduceMul, Nat.reduceSub, Nat.reduceAdd, Nat.reduceLeDiff, hx, w1, *]) | (simp only [zgoO, zgoG, zO_nil, zthen_normal, zgoC]) | (with_reducible apply And.intro) | (with_reducible intro _))
      all_goals first | (rw [HN.out]; done) | (rw [HN.out]; rfl)
    · rw [if_neg h] at hn
      have HN := Lib.hid hn
      clear hn
      repeat' (first | (simp only [zmPack, zxPack, ne_eq, zfree, owners, Nat.reduceLT, List.contains_cons, List.contains_nil, Nat.reduceBEq, BEq.rfl, chunk, setAt, List.lookup_cons, List.lookup_nil, reduceCtorEq, Nat.reduceEqDiff, reduceIte, implies_true, forall_const, Nat.reduceMul, Nat.reduceSub, Nat.reduceAdd, Nat.reduceLeDiff, hx, w1, *]) | (simp only [zgoO, zgoG, zO_nil, zthen_normal, zgoC]) | (with_reducible apply And.intro) | (with_reducible intro _))
      all_goals first | (rw [HN.out]; done) | (rw [HN.out]; rfl)
  · rintro s' h' ⟨rfl, f5⟩ ⟨f8, f1, -⟩
    rw [List.take_length] at f5
    have fin := Fin.keep (H0 := h') HK.out
    repeat' (first | (simp only [zmPack, zxPack, ne_eq, zfree, owners, Nat.reduceLT, List.contains_cons, List.contains_nil, Nat.reduceBEq, BEq.rfl, chunk, setAt, List.lookup_cons, List.lookup_nil, reduceCtorEq, Nat.reduceEqDiff, reduceIte, implies_true, forall_const, Nat.reduceMul, Nat.reduceSub, Nat.reduceAdd, Nat.reduceLeDiff, *]) | (simp only [zgoO, zgoG, zO_nil, zthen_normal, zgoC]) | (with_reducible apply And.intro) | (with_reducible intro _))
end Go.Proofs.Ytpeagenjmmkohaa

namespace Go.Proofs.Ytpeagenjmmkohaa
open Go Go.RowKit
set_option linter.unusedVariables false
set_option linter.unusedSimpArgs false
set_option maxHeartbeats 8000000 in
theorem marksteps_z {kind : Int} {l : List Dd} :
    ZC (constX tbMk) (cFunc Try.prog) 7 [Z64 kind, .fz 4 false (l.map eD)] (fun _ => true) [] fun z _ => z = ZBo true := by
  refine ZC.enter Gh.no constX_none f_mk_steps (by simp) ?_
  simp only [c_mk_steps]
  have fin : ∀ X, Fin [] (ZBo true) X (fun z _ => z = ZBo true) := fun X => Fin.trunc (Mods.ext [] X) rfl rfl
  have FI := Lib.hid fin
  clear fin
  repeat' (first | (simp only [zmPack, zxPack, ne_eq, zfree, owners, Nat.reduceLT, List.contains_cons, List.contains_nil, Nat.reduceBEq, BEq.rfl, chunk, setAt, List.lookup_cons, List.lookup_nil, reduceCtorEq, Nat.reduceEqDiff, reduceIte, implies_true, forall_const, Nat.reduceMul, Nat.reduceSub, Nat.reduceAdd, Nat.reduceLeDiff, *]) | (simp only [zgoO, zgoG, zO_nil, zthen_normal, zgoC]) | (with_reducible apply And.intro) | (with_reducible intro _))
  refine marked_z ?_
  repeat' (first | (simp only [zmPack, zxPack, ne_eq, zfree, owners, Nat.reduceLT, List.contains_cons, List.contains_nil, Nat.reduceBEq, BEq.rfl, chunk, setAt, List.lookup_cons, List.lookup_nil, reduceCtorEq, Nat.reduceEqDiff, reduceIte, implies_true, forall_const, Nat.reduceMul, Nat.reduceSub, Nat.reduceAdd, Nat.reduceLeDiff, *]) | (simp only [zgoO, zgoG, zO_nil, zthen_normal, zgoC]) | (with_reducible apply And.intro) | (with_reducible intro _))
  refine rest_z (by omega) ?_
  obtain ⟨kd, hkd⟩ : ∃ kd, kd = 1 + kind % 2 := ⟨_, rfl⟩
  have hk12 : kd = 1 ∨ kd = 2 := by omega
  have w1 : IntKind.i64.wrap (1 + kind % 2) = kd := by rw [IntWalk.i64_in _ (by omega), hkd]
  obtain ⟨kr, hkr⟩ : ∃ kr, kr = kind % 2 := ⟨_, rfl⟩
  rw [← hkr] at w1 ⊢
  have HK12 := Lib.hid hk12
  clear hkd hk12 hkr
  repeat' (first | (simp only [zmPack, zxPack, ne_eq, zfree, owners, Nat.reduceLT, List.contains_cons, List.contains_nil, Nat.reduceBEq, BEq.rfl, chunk, setAt, List.lookup_cons, List.lookup_nil, reduceCtorEq, Nat.reduceEqDiff, reduceIte, implies_true, forall_const, Nat.reduceMul, Nat.reduceSub, Nat.reduceAdd, Nat.reduceLeDiff, w1, *]) | (simp only [zgoO, zgoG, zO_nil, zthen_normal, zgoC]) | (with_reducible apply And.intro) | (with_reducible intro _))
  refine new_z HK12.out fun H0 p t hM0 => ?_
  obtain ⟨ex2, hct⟩ := dd_cut (e := eD) (k := 4) (ex := false) (l := l) (n := min l.length 80) (Nat.min_le_left _ _)
  obtain ⟨ds, hds⟩ : ∃ ds, ds = l.take (min l.length 80) := ⟨_, rfl⟩
  have hlen : ds.length ≤ 80 := by rw [hds, List.length_take]; omega
  rw [← hds] at hct
  have hbm : bestZ false (Z64 (l.length : Nat)) [Z64 (80 : Int)] = some (Z64 ((min l.length 80 : Nat) : Int)) := best_min (m := 80)
  have HM0 := Lib.hid hM0
  have HLEN := Lib.hid hlen
  clear hds hM0 hlen w1
  have hnil : ∀ (H : ZH) i o, nilZ H 1 (.ptr i o) = some false := fun _ _ _ => rfl
  repeat' (first | (simp only [zmPack, zxPack, ne_eq, zfree, owners, Nat.reduceLT, List.contains_cons, List.contains_nil, Nat.reduceBEq, BEq.rfl, chunk, setAt, List.lookup_cons, List.lookup_nil, reduceCtorEq, Nat.reduceEqDiff, reduceIte, implies_true, forall_const, Nat.reduceMul, Nat.reduceSub, Nat.reduceAdd, Nat.reduceLeDiff, hnil, *]) | (simp only [zgoO, zgoG, zO_nil, zthen_normal, zgoC]) | (with_reducible apply And.intro) | (with_reducible intro _))
  refine marked_z ?_
  repeat' (first | (simp only [zmPack, zxPack, ne_eq, zfree, owners, Nat.reduceLT, List.contains_cons, List.contains_nil, Nat.reduceBEq, BEq.rfl, chunk, setAt, List.lookup_cons, List.lookup_nil, reduceCtorEq, Nat.reduceEqDiff, reduceIte, implies_true, forall_const, Nat.reduceMul, Nat.reduceSub, Nat.reduceAdd, Nat.reduceLeDiff, hbm, hct, mv_num0, mv_num1, natZ_nat, Option.bind_some, Option.isSome_none, *]) | (simp only [zgoO, zgoG, zO_nil, zthen_normal, zgoC]) | (with_reducible apply And.intro) | (with_reducible intro _))
  clear hct hbm hnil
  refine zW_forK [(5, .ptr p 0), (38, .fz 4 ex2 (ds.map eD)), (7, .func 23 [])] ds.length (fun k s' h' => ∃ g mk T, MkAt h' p t g kd mk T ∧ GS kd mk T) (by have := HLEN.out; omega) ⟨rfl, rfl, rfl, rfl, rfl, rfl⟩ rfl rfl (by repeat' (first | exact trivial | (refine ⟨rfl, ?_⟩) | (refine ⟨by simp only [zupd_at, Nat.reduceEqDiff, reduceIte]; assumption, ?_⟩))) rfl rfl (by decide) ⟨0, false, [], HM0.out, gs_start HK12.out⟩ ?_ ?_
  · rintro k s' h' hk ⟨g, mk, T, hM, hG⟩ hi hl ⟨f5, f38, f7, -⟩
    have hx : ds[k]? = some ds[k] := List.getElem?_eq_getElem hk
    obtain ⟨d, hd⟩ : ∃ d, d = ds[k] := ⟨_, rfl⟩
    rw [← hd] at hx
    obtain ⟨d1, d2, d3, d4⟩ := d
    have hlt : p < h'.length := lt_of_get hM.box
    have HM := Lib.hid hM
    have HG := Lib.hid hG
    have HLT := Lib.hid hlt
    clear hd hM hG hlt
    repeat' (first | (simp only [zmPack, zxPack, ne_eq, zfree, owners, Nat.reduceLT, List.contains_cons, List.contains_nil, Nat.reduceBEq, BEq.rfl, chunk, setAt, List.lookup_cons, List.lookup_nil, reduceCtorEq, Nat.reduceEqDiff, reduceIte, implies_true, forall_const, Nat.reduceMul, Nat.reduceSub, Nat.reduceAdd, Nat.reduceLeDiff, hx, *]) | (simp only [zgoO, zgoG, zO_nil, zthen_normal, zgoC]) | (with_reducible apply And.intro) | (with_reducible intro _))
    refine colours_z (HM.out.ext _) ?_
    repeat' (first | (simp only [zmPack, zxPack, ne_eq, zfree, owners, Nat.reduceLT, List.contains_cons, List.contains_nil, Nat.reduceBEq, BEq.rfl, chunk, setAt, List.lookup_cons, List.lookup_nil, reduceCtorEq, Nat.reduceEqDiff, reduceIte, implies_true, forall_const, Nat.reduceMul, Nat.reduceSub, Nat.reduceAdd, Nat.reduceLeDiff, *]) | (simp only [zgoO, zgoG, zO_nil, zthen_normal, zgoC]) | (with_reducible apply And.intro) | (with_reducible intro _))
    refine marking_z (HM.out.ext _) ?_
    repeat' (first | (simp only [zmPack, zxPack, ne_eq, zfree, owners, Nat.reduceLT, List.contains_cons, List.contains_nil, Nat.reduceBEq, BEq.rfl, chunk, setAt, List.lookup_cons, List.lookup_nil, reduceCtorEq, Nat.reduceEqDiff, reduceIte, implies_true, forall_const, Nat.reduceMul, Nat.reduceSub, Nat.reduceAdd, Nat.reduceLeDiff, *]) | (simp only [zgoO, zgoG, zO_nil, zthen_normal, zgoC]) | (with_reducible apply And.intro) | (with_reducible intro _))
    refine do_z (HM.out.ext _) HG.out.1 (fun _ => rfl) fun H2 g2 r e mk2 T2 hdo hM2 hfr => ?_
    have r9 := fr_one hfr HLT.out
    have r9e := r9 []
    rw [List.append_nil] at r9e
    have hG2 := do_good hdo HG.out
    have hcl1 := cols_len (T := T)
    have hcl2 := cols_len (T := T2)
    have HM2 := Lib.hid hM2
    have HDO := Lib.hid hdo
    have HG2 := Lib.hid hG2
    obtain ⟨w0, hw0⟩ : ∃ w0, w0 = colsOf T := ⟨_, rfl⟩
    obtain ⟨w2, hw2⟩ : ∃ w2, w2 = colsOf T2 := ⟨_, rfl⟩
    have c0 : ∀ c, cntI w0 c = cntT T c := fun c => by rw [hw0, cntT_eq]
    have c2 : ∀ c, cntI w2 c = cntT T2 c := fun c => by rw [hw2, cntT_eq]
    have l0 : w0.length ≤ 1000 := by rw [hw0, hcl1]; have := HG.out.1.len; omega
    have l2 : w2.length ≤ 1000 := by rw [hw2, hcl2]; have := HG2.out.1.len; omega
    have FN : Hid (∃ g3 mk3 T3, MkAt H2 p t g3 kd mk3 T3 ∧ GS kd mk3 T3) := Lib.hid ⟨g2, mk2, T2, HM2.out, HG2.out⟩
    rw [← hw0]
    have C0 := Lib.hid c0
    have C2 := Lib.hid c2
    have L0 := Lib.hid l0
    have L2 := Lib.hid l2
    clear hdo hM2 hfr hG2 hcl1 hcl2 hw0 c0 c2 l0 l2 r9
    repeat' (first | (simp only [zmPack, zxPack, ne_eq, zfree, owners, Nat.reduceLT, List.contains_cons, List.contains_nil, Nat.reduceBEq, BEq.rfl, chunk, setAt, List.lookup_cons, List.lookup_nil, reduceCtorEq, Nat.reduceEqDiff, reduceIte, implies_true, forall_const, Nat.reduceMul, Nat.reduceSub, Nat.reduceAdd, Nat.reduceLeDiff, *]) | (simp only [zgoO, zgoG, zO_nil, zthen_normal, zgoC]) | (with_reducible apply And.intro) | (with_reducible intro _))
    refine colours_z HM2.out ?_
    rw [← hw2]
    clear hw2
    -- what is not begun and not over is white
    have idle : Hid (mk2 = false → cntI w2 1 = 0 ∧ cntI w2 2 = 0) := Lib.hid fun h => by
      have := idle_cnt (by rw [← h]; exact HG2.out)
      rw [C2.out, C2.out]; exact this
    have wz : IntKind.i64.wrap (((0 : Nat) : Int) + ((0 : Nat) : Int)) = 0 := by rfl
    have nz : ¬ ((0 : Int) < 0) := by omega
    have nz0 : ¬ ((0 : Int) < ((0 : Nat) : Int)) := by omega
    by_cases h5 : d1 = 5
    · by_cases he : e = 0
      · subst h5
        subst he
        obtain ⟨q1, ⟨m, hm, q2⟩, q3⟩ := do_steps HDO.out
        subst hm
        have hmk : mk = true ∧ mk2 = true := by
          have hd := HDO.out
          cases hd with
          | step q _ _ _ _ => exact ⟨q, q⟩
        obtain ⟨e1, e2⟩ := hmk
        subst e1
        subst e2
        have wa : IntKind.i64.wrap ((cntI w0 2 : Int) + (m : Int)) = (cntI w2 2 : Int) := by
          have h1 := cntT_le (c := 2) HG2.out
          rw [C0.out, C2.out, q2, IntWalk.i64_in _ (by omega)]; omega
        have ngt : ¬ d4 < (m : Int) := by omega
        have n57 : ¬ (5 : Int) = 7 := by omega
        have Q3 := Lib.hid q3
        clear q1 q2 q3
        repeat' (first | (simp only [zmPack, zxPack, ne_eq, zfree, owners, Nat.reduceLT, List.contains_cons, List.contains_nil, Nat.reduceBEq, BEq.rfl, chunk, setAt, List.lookup_cons, List.lookup_nil, reduceCtorEq, Nat.reduceEqDiff, reduceIte, implies_true, forall_const, Nat.reduceMul, Nat.reduceSub, Nat.reduceAdd, Nat.reduceLeDiff, r9e, ngt, n57, *]) | (simp only [zgoO, zgoG, zO_nil, zthen_normal, zgoC]) | (with_reducible apply And.intro) | (with_reducible intro _))
        refine count_z L2.out ?_
        repeat' (first | (simp only [zmPack, zxPack, ne_eq, zfree, owners, Nat.reduceLT, List.contains_cons, List.contains_nil, Nat.reduceBEq, BEq.rfl, chunk, setAt, List.lookup_cons, List.lookup_nil, reduceCtorEq, Nat.reduceEqDiff, reduceIte, implies_true, forall_const, Nat.reduceMul, Nat.reduceSub, Nat.reduceAdd, Nat.reduceLeDiff, *]) | (simp only [zgoO, zgoG, zO_nil, zthen_normal, zgoC]) | (with_reducible apply And.intro) | (with_reducible intro _))
        refine count_z L0.out ?_
        by_cases hlt : (m : Int) < d4
        · have hz : cntI w2 1 = 0 := by rw [C2.out]; exact Q3.out hlt
          repeat' (first | (simp only [zmPack, zxPack, ne_eq, zfree, owners, Nat.reduceLT, List.contains_cons, List.contains_nil, Nat.reduceBEq, BEq.rfl, chunk, setAt, List.lookup_cons, List.lookup_nil, reduceCtorEq, Nat.reduceEqDiff, reduceIte, implies_true, forall_const, Nat.reduceMul, Nat.reduceSub, Nat.reduceAdd, Nat.reduceLeDiff, wa, r9e, n57, hlt, *]) | (simp only [zgoO, zgoG, zO_nil, zthen_normal, zgoC]) | (with_reducible apply And.intro) | (with_reducible intro _))
          refine count_z L2.out ?_
          rw [hz]
          repeat' (first | (simp only [zmPack, zxPack, ne_eq, zfree, owners, Nat.reduceLT, List.contains_cons, List.contains_nil, Nat.reduceBEq, BEq.rfl, chunk, setAt, List.lookup_cons, List.lookup_nil, reduceCtorEq, Nat.reduceEqDiff, reduceIte, implies_true, forall_const, Nat.reduceMul, Nat.reduceSub, Nat.reduceAdd, Nat.reduceLeDiff, r9e, n57, nz0, *]) | (simp only [zgoO, zgoG, zO_nil, zthen_normal, zgoC]) | (with_reducible apply And.intro) | (with_reducible intro _))
          all_goals exact FN.out
        · repeat' (first | (simp only [zmPack, zxPack, ne_eq, zfree, owners, Nat.reduceLT, List.contains_cons, List.contains_nil, Nat.reduceBEq, BEq.rfl, chunk, setAt, List.lookup_cons, List.lookup_nil, reduceCtorEq, Nat.reduceEqDiff, reduceIte, implies_true, forall_const, Nat.reduceMul, Nat.reduceSub, Nat.reduceAdd, Nat.reduceLeDiff, wa, r9e, n57, hlt, *]) | (simp only [zgoO, zgoG, zO_nil, zthen_normal, zgoC]) | (with_reducible apply And.intro) | (with_reducible intro _))
          all_goals exact FN.out
      · have n57 : ¬ (5 : Int) = 7 := by omega
        subst h5
        cases mk with
        | true =>
          repeat' (first | (simp only [zmPack, zxPack, ne_eq, zfree, owners, Nat.reduceLT, List.contains_cons, List.contains_nil, Nat.reduceBEq, BEq.rfl, chunk, setAt, List.lookup_cons, List.lookup_nil, reduceCtorEq, Nat.reduceEqDiff, reduceIte, implies_true, forall_const, Nat.reduceMul, Nat.reduceSub, Nat.reduceAdd, Nat.reduceLeDiff, r9e, he, n57, *]) | (simp only [zgoO, zgoG, zO_nil, zthen_normal, zgoC]) | (with_reducible apply And.intro) | (with_reducible intro _))
          all_goals exact FN.out
        | false =>
          repeat' (first | (simp only [zmPack, zxPack, ne_eq, zfree, owners, Nat.reduceLT, List.contains_cons, List.contains_nil, Nat.reduceBEq, BEq.rfl, chunk, setAt, List.lookup_cons, List.lookup_nil, reduceCtorEq, Nat.reduceEqDiff, reduceIte, implies_true, forall_const, Nat.reduceMul, Nat.reduceSub, Nat.reduceAdd, Nat.reduceLeDiff, r9e, he, n57, *]) | (simp only [zgoO, zgoG, zO_nil, zthen_normal, zgoC]) | (with_reducible apply And.intro) | (with_reducible intro _))
          refine marking_z HM2.out ?_
          cases mk2 with
          | true =>
            repeat' (first | (simp only [zmPack, zxPack, ne_eq, zfree, owners, Nat.reduceLT, List.contains_cons, List.contains_nil, Nat.reduceBEq, BEq.rfl, chunk, setAt, List.lookup_cons, List.lookup_nil, reduceCtorEq, Nat.reduceEqDiff, reduceIte, implies_true, forall_const, Nat.reduceMul, Nat.reduceSub, Nat.reduceAdd, Nat.reduceLeDiff, *]) | (simp only [zgoO, zgoG, zO_nil, zthen_normal, zgoC]) | (with_reducible apply And.intro) | (with_reducible intro _))
            all_goals exact FN.out
          | false =>
            obtain ⟨z1, z2⟩ := idle.out rfl
            repeat' (first | (simp only [zmPack, zxPack, ne_eq, zfree, owners, Nat.reduceLT, List.contains_cons, List.contains_nil, Nat.reduceBEq, BEq.rfl, chunk, setAt, List.lookup_cons, List.lookup_nil, reduceCtorEq, Nat.reduceEqDiff, reduceIte, implies_true, forall_const, Nat.reduceMul, Nat.reduceSub, Nat.reduceAdd, Nat.reduceLeDiff, *]) | (simp only [zgoO, zgoG, zO_nil, zthen_normal, zgoC]) | (with_reducible apply And.intro) | (with_reducible intro _))
            refine count_z L2.out ?_
            rw [z1]
            repeat' (first | (simp only [zmPack, zxPack, ne_eq, zfree, owners, Nat.reduceLT, List.contains_cons, List.contains_nil, Nat.reduceBEq, BEq.rfl, chunk, setAt, List.lookup_cons, List.lookup_nil, reduceCtorEq, Nat.reduceEqDiff, reduceIte, implies_true, forall_const, Nat.reduceMul, Nat.reduceSub, Nat.reduceAdd, Nat.reduceLeDiff, *]) | (simp only [zgoO, zgoG, zO_nil, zthen_normal, zgoC]) | (with_reducible apply And.intro) | (with_reducible intro _))
            refine count_z L2.out ?_
            rw [z2]
            repeat' (first | (simp only [zmPack, zxPack, ne_eq, zfree, owners, Nat.reduceLT, List.contains_cons, List.contains_nil, Nat.reduceBEq, BEq.rfl, chunk, setAt, List.lookup_cons, List.lookup_nil, reduceCtorEq, Nat.reduceEqDiff, reduceIte, implies_true, forall_const, Nat.reduceMul, Nat.reduceSub, Nat.reduceAdd, Nat.reduceLeDiff, wz, nz, *]) | (simp only [zgoO, zgoG, zO_nil, zthen_normal, zgoC]) | (with_reducible apply And.intro) | (with_reducible intro _))
            all_goals exact FN.out
    · by_cases h7 : d1 = 7
      · by_cases he : e = 0
        · subst h7
          subst he
          obtain ⟨⟨m, hm, q2⟩, z1, z2, hm2⟩ := do_end HG.out HDO.out
          subst hm
          subst hm2
          have hmk : mk = true := by
            have hd := HDO.out
            cases hd with
            | done q _ _ => exact q
          subst hmk
          rw [← C2.out] at z1 z2
          have wa : IntKind.i64.wrap ((cntI w0 3 : Int) + (m : Int)) = (cntI w2 3 : Int) := by
            have h1 := cntT_le (c := 3) HG2.out
            rw [C0.out, C2.out, q2, IntWalk.i64_in _ (by omega)]; omega
          have n75 : ¬ (7 : Int) = 5 := by omega
          clear q2
          repeat' (first | (simp only [zmPack, zxPack, ne_eq, zfree, owners, Nat.reduceLT, List.contains_cons, List.contains_nil, Nat.reduceBEq, BEq.rfl, chunk, setAt, List.lookup_cons, List.lookup_nil, reduceCtorEq, Nat.reduceEqDiff, reduceIte, implies_true, forall_const, Nat.reduceMul, Nat.reduceSub, Nat.reduceAdd, Nat.reduceLeDiff, r9e, n75, *]) | (simp only [zgoO, zgoG, zO_nil, zthen_normal, zgoC]) | (with_reducible apply And.intro) | (with_reducible intro _))
          refine count_z L2.out ?_
          repeat' (first | (simp only [zmPack, zxPack, ne_eq, zfree, owners, Nat.reduceLT, List.contains_cons, List.contains_nil, Nat.reduceBEq, BEq.rfl, chunk, setAt, List.lookup_cons, List.lookup_nil, reduceCtorEq, Nat.reduceEqDiff, reduceIte, implies_true, forall_const, Nat.reduceMul, Nat.reduceSub, Nat.reduceAdd, Nat.reduceLeDiff, *]) | (simp only [zgoO, zgoG, zO_nil, zthen_normal, zgoC]) | (with_reducible apply And.intro) | (with_reducible intro _))
          refine count_z L0.out ?_
          repeat' (first | (simp only [zmPack, zxPack, ne_eq, zfree, owners, Nat.reduceLT, List.contains_cons, List.contains_nil, Nat.reduceBEq, BEq.rfl, chunk, setAt, List.lookup_cons, List.lookup_nil, reduceCtorEq, Nat.reduceEqDiff, reduceIte, implies_true, forall_const, Nat.reduceMul, Nat.reduceSub, Nat.reduceAdd, Nat.reduceLeDiff, wa, *]) | (simp only [zgoO, zgoG, zO_nil, zthen_normal, zgoC]) | (with_reducible apply And.intro) | (with_reducible intro _))
          refine count_z L2.out ?_
          rw [z1]
          repeat' (first | (simp only [zmPack, zxPack, ne_eq, zfree, owners, Nat.reduceLT, List.contains_cons, List.contains_nil, Nat.reduceBEq, BEq.rfl, chunk, setAt, List.lookup_cons, List.lookup_nil, reduceCtorEq, Nat.reduceEqDiff, reduceIte, implies_true, forall_const, Nat.reduceMul, Nat.reduceSub, Nat.reduceAdd, Nat.reduceLeDiff, *]) | (simp only [zgoO, zgoG, zO_nil, zthen_normal, zgoC]) | (with_reducible apply And.intro) | (with_reducible intro _))
          refine count_z L2.out ?_
          rw [z2]
          repeat' (first | (simp only [zmPack, zxPack, ne_eq, zfree, owners, Nat.reduceLT, List.contains_cons, List.contains_nil, Nat.reduceBEq, BEq.rfl, chunk, setAt, List.lookup_cons, List.lookup_nil, reduceCtorEq, Nat.reduceEqDiff, reduceIte, implies_true, forall_const, Nat.reduceMul, Nat.reduceSub, Nat.reduceAdd, Nat.reduceLeDiff, wz, nz, *]) | (simp only [zgoO, zgoG, zO_nil, zthen_normal, zgoC]) | (with_reducible apply And.intro) | (with_reducible intro _))
          refine marking_z HM2.out ?_
          repeat' (first | (simp only [zmPack, zxPack, ne_eq, zfree, owners, Nat.reduceLT, List.contains_cons, List.contains_nil, Nat.reduceBEq, BEq.rfl, chunk, setAt, List.lookup_cons, List.lookup_nil, reduceCtorEq, Nat.reduceEqDiff, reduceIte, implies_true, forall_const, Nat.reduceMul, Nat.reduceSub, Nat.reduceAdd, Nat.reduceLeDiff, *]) | (simp only [zgoO, zgoG, zO_nil, zthen_normal, zgoC]) | (with_reducible apply And.intro) | (with_reducible intro _))
          all_goals exact FN.out
        · have n75 : ¬ (7 : Int) = 5 := by omega
          subst h7
          cases mk with
          | true =>
            repeat' (first | (simp only [zmPack, zxPack, ne_eq, zfree, owners, Nat.reduceLT, List.contains_cons, List.contains_nil, Nat.reduceBEq, BEq.rfl, chunk, setAt, List.lookup_cons, List.lookup_nil, reduceCtorEq, Nat.reduceEqDiff, reduceIte, implies_true, forall_const, Nat.reduceMul, Nat.reduceSub, Nat.reduceAdd, Nat.reduceLeDiff, r9e, he, n75, *]) | (simp only [zgoO, zgoG, zO_nil, zthen_normal, zgoC]) | (with_reducible apply And.intro) | (with_reducible intro _))
            all_goals exact FN.out
          | false =>
            repeat' (first | (simp only [zmPack, zxPack, ne_eq, zfree, owners, Nat.reduceLT, List.contains_cons, List.contains_nil, Nat.reduceBEq, BEq.rfl, chunk, setAt, List.lookup_cons, List.lookup_nil, reduceCtorEq, Nat.reduceEqDiff, reduceIte, implies_true, forall_const, Nat.reduceMul, Nat.reduceSub, Nat.reduceAdd, Nat.reduceLeDiff, r9e, he, n75, *]) | (simp only [zgoO, zgoG, zO_nil, zthen_normal, zgoC]) | (with_reducible apply And.intro) | (with_reducible intro _))
            refine marking_z HM2.out ?_
            cases mk2 with
            | true =>
              repeat' (first | (simp only [zmPack, zxPack, ne_eq, zfree, owners, Nat.reduceLT, List.contains_cons, List.contains_nil, Nat.reduceBEq, BEq.rfl, chunk, setAt, List.lookup_cons, List.lookup_nil, reduceCtorEq, Nat.reduceEqDiff, reduceIte, implies_true, forall_const, Nat.reduceMul, Nat.reduceSub, Nat.reduceAdd, Nat.reduceLeDiff, *]) | (simp only [zgoO, zgoG, zO_nil, zthen_normal, zgoC]) | (with_reducible apply And.intro) | (with_reducible intro _))
              all_goals exact FN.out
            | false =>
              obtain ⟨z1, z2⟩ := idle.out rfl
              repeat' (first | (simp only [zmPack, zxPack, ne_eq, zfree, owners, Nat.reduceLT, List.contains_cons, List.contains_nil, Nat.reduceBEq, BEq.rfl, chunk, setAt, List.lookup_cons, List.lookup_nil, reduceCtorEq, Nat.reduceEqDiff, reduceIte, implies_true, forall_const, Nat.reduceMul, Nat.reduceSub, Nat.reduceAdd, Nat.reduceLeDiff, *]) | (simp only [zgoO, zgoG, zO_nil, zthen_normal, zgoC]) | (with_reducible apply And.intro) | (with_reducible intro _))
              refine count_z L2.out ?_
              rw [z1]
              repeat' (first | (simp only [zmPack, zxPack, ne_eq, zfree, owners, Nat.reduceLT, List.contains_cons, List.contains_nil, Nat.reduceBEq, BEq.rfl, chunk, setAt, List.lookup_cons, List.lookup_nil, reduceCtorEq, Nat.reduceEqDiff, reduceIte, implies_true, forall_const, Nat.reduceMul, Nat.reduceSub, Nat.reduceAdd, Nat.reduceLeDiff, *]) | (simp only [zgoO, zgoG, zO_nil, zthen_normal, zgoC]) | (with_reducible apply And.intro) | (with_reducible intro _))
              refine count_z L2.out ?_
              rw [z2]
              repeat' (first | (simp only [zmPack, zxPack, ne_eq, zfree, owners, Nat.reduceLT, List.contains_cons, List.contains_nil, Nat.reduceBEq, BEq.rfl, chunk, setAt, List.lookup_cons, List.lookup_nil, reduceCtorEq, Nat.reduceEqDiff, reduceIte, implies_true, forall_const, Nat.reduceMul, Nat.reduceSub, Nat.reduceAdd, Nat.reduceLeDiff, wz, nz, *]) | (simp only [zgoO, zgoG, zO_nil, zthen_normal, zgoC]) | (with_reducible apply And.intro) | (with_reducible intro _))
              all_goals exact FN.out
      · cases mk with
        | true =>
          repeat' (first | (simp only [zmPack, zxPack, ne_eq, zfree, owners, Nat.reduceLT, List.contains_cons, List.contains_nil, Nat.reduceBEq, BEq.rfl, chunk, setAt, List.lookup_cons, List.lookup_nil, reduceCtorEq, Nat.reduceEqDiff, reduceIte, implies_true, forall_const, Nat.reduceMul, Nat.reduceSub, Nat.reduceAdd, Nat.reduceLeDiff, r9e, h5, h7, *]) | (simp only [zgoO, zgoG, zO_nil, zthen_normal, zgoC]) | (with_reducible apply And.intro) | (with_reducible intro _))
          all_goals exact FN.out
        | false =>
          repeat' (first | (simp only [zmPack, zxPack, ne_eq, zfree, owners, Nat.reduceLT, List.contains_cons, List.contains_nil, Nat.reduceBEq, BEq.rfl, chunk, setAt, List.lookup_cons, List.lookup_nil, reduceCtorEq, Nat.reduceEqDiff, reduceIte, implies_true, forall_const, Nat.reduceMul, Nat.reduceSub, Nat.reduceAdd, Nat.reduceLeDiff, r9e, h5, h7, *]) | (simp only [zgoO, zgoG, zO_nil, zthen_normal, zgoC]) | (with_reducible apply And.intro) | (with_reducible intro _))
          refine marking_z HM2.out ?_
          cases mk2 with
          | true =>
            repeat' (first | (simp only [zmPack, zxPack, ne_eq, zfree, owners, Nat.reduceLT, List.contains_cons, List.contains_nil, Nat.reduceBEq, BEq.rfl, chunk, setAt, List.lookup_cons, List.lookup_nil, reduceCtorEq, Nat.reduceEqDiff, reduceIte, implies_true, forall_const, Nat.reduceMul, Nat.reduceSub, Nat.reduceAdd, Nat.reduceLeDiff, *]) | (simp only [zgoO, zgoG, zO_nil, zthen_normal, zgoC]) | (with_reducible apply And.intro) | (with_reducible intro _))
            all_goals exact FN.out
          | false =>
            obtain ⟨z1, z2⟩ := idle.out rfl
            repeat' (first | (simp only [zmPack, zxPack, ne_eq, zfree, owners, Nat.reduceLT, List.contains_cons, List.contains_nil, Nat.reduceBEq, BEq.rfl, chunk, setAt, List.lookup_cons, List.lookup_nil, reduceCtorEq, Nat.reduceEqDiff, reduceIte, implies_true, forall_const, Nat.reduceMul, Nat.reduceSub, Nat.reduceAdd, Nat.reduceLeDiff, *]) | (simp only [zgoO, zgoG, zO_nil, zthen_normal, zgoC]) | (with_reducible apply And.intro) | (with_reducible intro _))
            refine count_z L2.out ?_
            rw [z1]
            repeat' (first | (simp only [zmPack, zxPack, ne_eq, zfree, owners, Nat.reduceLT, List.contains_cons, List.contains_nil, Nat.reduceBEq, BEq.rfl, chunk, setAt, List.lookup_cons, List.lookup_nil, reduceCtorEq, Nat.reduceEqDiff, reduceIte, implies_true, forall_const, Nat.reduceMul, Nat.reduceSub, Nat.reduceAdd, Nat.reduceLeDiff, *]) | (simp only [zgoO, zgoG, zO_nil, zthen_normal, zgoC]) | (with_reducible apply And.intro) | (with_reducible intro _))
            refine count_z L2.out ?_
            rw [z2]
            repeat' (first | (simp only [zmPack, zxPack, ne_eq, zfree, owners, Nat.reduceLT, List.contains_cons, List.contains_nil, Nat.reduceBEq, BEq.rfl, chunk, setAt, List.lookup_cons, List.lookup_nil, reduceCtorEq, Nat.reduceEqDiff, reduceIte, implies_true, forall_const, Nat.reduceMul, Nat.reduceSub, Nat.reduceAdd, Nat.reduceLeDiff, wz, nz, *]) | (simp only [zgoO, zgoG, zO_nil, zthen_normal, zgoC]) | (with_reducible apply And.intro) | (with_reducible intro _))
            all_goals exact FN.out
  · rintro s' h' ⟨g, mk, T, hM, hG⟩ ⟨f5, f38, -⟩
    have fin := FI.out h'
    clear hM hG
    repeat' (first | (simp only [zmPack, zxPack, ne_eq, zfree, owners, Nat.reduceLT, List.contains_cons, List.contains_nil, Nat.reduceBEq, BEq.rfl, chunk, setAt, List.lookup_cons, List.lookup_nil, reduceCtorEq, Nat.reduceEqDiff, reduceIte, implies_true, forall_const, Nat.reduceMul, Nat.reduceSub, Nat.reduceAdd, Nat.reduceLeDiff, *]) | (simp only [zgoO, zgoG, zO_nil, zthen_normal, zgoC]) | (with_reducible apply And.intro) | (with_reducible intro _))
end Go.Proofs.Ytpeagenjmmkohaa

namespace Go.Proofs.Ytpeagenjmmkohaa
open Go Go.RowKit Go.ChangeShapes Go.WideShapes Go.ChangeAt
set_option linter.unusedVariables false
set_option linter.unusedSimpArgs false
set_option maxRecDepth 100000 in
theorem marksteps_lifted (os : Os) (started : os.Started) (H : Type) (enc : TypeId × Value → H) :
    ReturnsInHanded {} Try.checked os 7 .any (Rows.markStepsSpec.pre6 enc Try.prog Try.f7 Rows.markStepsRow.domain false) (Rows.markStepsSpec.post enc Try.prog Try.f7 false true false false) := by
  refine law_lifted (C := Try.checked) 12 [(false, .int .i64), (false, .slice 32 (.prod (.int .i64) (.prod (.int .i64) (.prod (.int .i64) (.int .i64)))))] 4 Try.own Try.laidOut started (by kernel_rfl) Try.func7
    (ChangeSpec.witness6 (enc := enc) (C := Try.checked) false ⟨#[], #[.int .i64 0, .slice none 0 0], []⟩ 8 (by kernel_rfl) (by kernel_rfl) (by kernel_rfl) (by kernel_rfl))
    rfl (by kernel_rfl) Try.underlying4 (fun ds h => ?_) (by kernel_rfl) (by kernel_rfl) (fun W args h => ?_)
  · match ds, h with
    | [d0, d1], _ => rfl
  · refine zm_walk (by kernel_rfl) (constX_ok (n := 200) (F := cFunc Try.prog) (by kernel_rfl) (fun f af h => h) tbMk (by intro p hp; rw [List.mem_singleton.1 hp]; kernel_rfl)) (fun f af h => h) rfl (fun zl hz => ?_) W args h
    obtain ⟨kind, _, rfl, _, _, l, _, rfl, hl, sl, rfl⟩ := hz
    exact marksteps_z (kind := kind) (l := l)
theorem marksteps_holds : Rows.MarkStepsSaid :=
  OpenClaim.holds_of_wide 7 Try.f7 rfl rfl rfl rfl rfl rfl rfl ⟨rfl, rfl, rfl, rfl, rfl⟩ rfl rfl rfl rfl rfl (by kernel_rfl) Try.func7 (by kernel_rfl) (of_decide_eq_true (by kernel_rfl)) (by unfold Func.isWrapper; first | (rw [if_pos (by decide +kernel)]; kernel_rfl) | (rw [if_neg (by decide +kernel)]; exact ⟨rfl, rfl⟩))
    (fun os started H enc _ => marksteps_lifted os started H enc)
end Go.Proofs.Ytpeagenjmmkohaa
