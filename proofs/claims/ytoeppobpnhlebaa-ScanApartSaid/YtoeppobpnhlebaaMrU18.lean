/-
  Proved: the law ScanApart answers true, whatever the input: no two that live at once are in one place; each that counts has a place; where registers are enough no slot is used.
-/
import Derived.Test.YtoeppobpnhlebaaMrU17
namespace Go.Proofs.Ytoeppobpnhlebaa
open Go Go.RowKit
set_option linter.unusedVariables false
set_option linter.unusedSimpArgs false
variable {l at2 : List Sp} {regs : Nat} {s : Int}
theorem Asg.apart (A : Asg l regs at2 s) {i j : Nat} (hij : i < j) (hj : j < l.length) (ci : cts l i) (cj : cts l j) (hm : mt l i j) : ¬ sameP (sp at2 i) (sp at2 j) := by
  have hlen := A.inv.len
  obtain ⟨_, at1, e, G, I⟩ := A.inv
  have r1 := rg_eq (at_ := at2) (k := i) (by omega)
  have r2 := rg_eq (at_ := at2) (k := j) (by omega)
  have t1 := sl_eq (at_ := at2) (k := i) (by omega)
  have t2 := sl_eq (at_ := at2) (k := j) (by omega)
  rintro (⟨h1, h2⟩ | ⟨h1, h2, h3⟩)
  · rw [← r1, ← r2, e] at h1 h2
    have := G.ap i j (by omega) h2 hm
    omega
  · rw [← t1] at h2 h3
    rw [← t2] at h3
    have := I.ap i j h2 h3 hm
    omega
theorem nL_all {x : Int} : ∀ (j : Nat), j ≤ l.length → nL (l.take j) x = num j (fun i => 0 ≤ (sp l i).1 ∧ cov l x i)
  | 0, _ => by simp [nL, num]
  | j + 1, h => by
    have hx := sp_at (l := l) (k := j) (by omega)
    have htk : l.take (j + 1) = l.take j ++ [sp l j] := by rw [List.take_add_one, hx]; rfl
    rw [htk, nL_snoc, num_succ, nL_all j (by omega)]
    congr 1
    by_cases c : 0 ≤ (sp l j).1 ∧ cov l x j
    · rw [if_pos (⟨c.1, c.2.1, c.2.2⟩ : 0 ≤ (sp l j).1 ∧ (sp l j).1 ≤ x ∧ x < (sp l j).2), if_pos c]
    · rw [if_neg (fun q : 0 ≤ (sp l j).1 ∧ (sp l j).1 ≤ x ∧ x < (sp l j).2 => c ⟨q.1, q.2.1, q.2.2⟩), if_neg c]
theorem most_feas {r : Int} (hm : MostR l r) (hr : r ≤ (regs : Int)) : Feas l regs (fun i => i < l.length ∧ cts l i) := fun x => by
  by_cases h : ∃ i, i < l.length ∧ ((i < l.length ∧ cts l i) ∧ cov l x i)
  · obtain ⟨i0, h1, h2, h3⟩ := max_ex (fun i => (sp l i).1) h
    have h4 := hm (sp l i0) (List.mem_of_getElem? (sp_at h1)) h2.1.2.1 h2.1.2.2
    have h6 := nL_all (l := l) (x := (sp l i0).1) l.length (Nat.le_refl _)
    rw [List.take_length] at h6
    rw [h6] at h4
    have h5 := num_le (N := l.length) (P := fun i => (i < l.length ∧ cts l i) ∧ cov l x i) (Q := fun i => 0 ≤ (sp l i).1 ∧ cov l (sp l i0).1 i) (fun i hi hp => ⟨hp.1.2.1, h3 i hi hp, by have := hp.2.2; have := h2.2.1; omega⟩)
    show num l.length (fun i => (i < l.length ∧ cts l i) ∧ cov l x i) ≤ regs
    omega
  · rw [num_none (fun i hi hp => h ⟨i, hi, hp⟩)]; exact Nat.zero_le _
theorem Asg.enough (A : Asg l regs at2 s) {r : Int} (hm : MostR l r) (hr : r ≤ (regs : Int)) : ¬ 0 < s := by
  have h1 := A.best (most_feas hm hr) (fun i hi => hi)
  obtain ⟨_, at1, e, G, I⟩ := A.inv
  have h2 := num_eq (N := l.length) (P := fun i => 0 ≤ rg at2 i) (Q := fun i => i < l.length ∧ cts l i) (fun i hi hp => A.isc hp) h1
  have := I.no (fun k hk => by
    have hk := (ordF_ok.mem k).1 hk
    have := h2 k hk.1 hk
    rw [e] at this
    exact this)
  omega
theorem Asg.place (A : Asg l regs at2 s) {i : Nat} (hi : i < l.length) : (cts l i ∧ (sp at2 i).2 = -1 ∧ 0 ≤ (sp at2 i).1 ∧ (sp at2 i).1 < (regs : Int)) ∨ (cts l i ∧ (sp at2 i).1 = -1 ∧ 0 ≤ (sp at2 i).2 ∧ (sp at2 i).2 < s) ∨ (¬ cts l i ∧ (sp at2 i).1 = -1 ∧ (sp at2 i).2 = -1) := by
  have hlen := A.inv.len
  have hk := A.kinds hi
  obtain ⟨_, at1, e, G, I⟩ := A.inv
  have r1 := rg_eq (at_ := at2) (k := i) (by omega)
  have t1 := sl_eq (at_ := at2) (k := i) (by omega)
  rw [← r1, ← t1]
  have g1 := G.ge i
  have g2 := G.lt i
  rw [← e] at g1 g2
  have g3 := I.ge i
  have g4 := I.lt i
  by_cases c : cts l i
  · rcases hk.1.1 c with h | h
    · exact .inr (.inl ⟨c, by have : ¬ 0 ≤ rg at2 i := fun q => hk.2 ⟨h, q⟩
                              omega, h, by omega⟩)
    · exact .inl ⟨c, by have : ¬ 0 ≤ sl at2 i := fun q => hk.2 ⟨q, h⟩
                        omega, h, g2⟩
  · exact .inr (.inr ⟨c, by have : ¬ 0 ≤ rg at2 i := fun q => c (hk.1.2 (.inr q))
                            omega, by have : ¬ 0 ≤ sl at2 i := fun q => c (hk.1.2 (.inl q))
                                      omega⟩)
variable {n : Int}
set_option maxHeartbeats 8000000 in
theorem scanapart_z : ZC (constX tbS) (cFunc Try.prog) 8 [.fz 2 false (l.map eS), Z64 n] (fun _ => true) [] fun z _ => z = ZBo true := by
  refine ZC.enter Gh.no (fun args fl hp ha => constX_none (l := tbS) (f := 8) (by decide) args fl hp ha) f_sn_apart (by simp) ?_
  simp only [c_sn_apart]
  have fin : ∀ X, Fin [] (ZBo true) X (fun z _ => z = ZBo true) := fun X => Fin.trunc (Mods.ext [] X) rfl rfl
  have FI := Lib.hid fin
  clear fin
  repeat' (first | (simp only [zmPack, zxPack, ne_eq, zfree, owners, Nat.reduceLT, List.contains_cons, List.contains_nil, Nat.reduceBEq, BEq.rfl, chunk, setAt, List.lookup_cons, List.lookup_nil, reduceCtorEq, Nat.reduceEqDiff, reduceIte, implies_true, forall_const, Nat.reduceMul, Nat.reduceSub, Nat.reduceAdd, Nat.reduceLeDiff, *]) | (simp only [zgoO, zgoG, zO_nil, zthen_normal, zgoC]) | (with_reducible apply And.intro) | (with_reducible intro _))
  refine scanned_z ?_
  have hbm : bestZ false (Z64 (l.length : Nat)) [Z64 (60 : Int)] = some (Z64 ((min l.length 60 : Nat) : Int)) := best_min (m := 60)
  obtain ⟨ex2, hct⟩ := dd_cut (e := eS) (k := 2) (ex := false) (l := l) (n := min l.length 60) (Nat.min_le_left _ _)
  obtain ⟨m, hm⟩ : ∃ m, m = l.take (min l.length 60) := ⟨_, rfl⟩
  have hml : m.length ≤ 60 := by rw [hm, List.length_take]; omega
  rw [← hm] at hct
  clear hm
  repeat' (first | (simp only [zmPack, zxPack, ne_eq, zfree, owners, Nat.reduceLT, List.contains_cons, List.contains_nil, Nat.reduceBEq, BEq.rfl, chunk, setAt, List.lookup_cons, List.lookup_nil, reduceCtorEq, Nat.reduceEqDiff, reduceIte, implies_true, forall_const, Nat.reduceMul, Nat.reduceSub, Nat.reduceAdd, Nat.reduceLeDiff, hbm, hct, numZ_none, numZ_some, natZ_nat, Option.bind_some, Option.isSome_none, *]) | (simp only [zgoO, zgoG, zO_nil, zthen_normal, zgoC]) | (with_reducible apply And.intro) | (with_reducible intro _))
  clear hbm hct
  refine rest_z (m := 12) (by omega) ?_
  obtain ⟨regs, hregs⟩ : ∃ regs : Nat, n % 12 = (regs : Int) := Int.eq_ofNat_of_zero_le (Int.emod_nonneg _ (by omega))
  have hr5 : regs ≤ 60 := by have := Int.emod_lt_of_pos n (show (0 : Int) < 12 by omega); omega
  rw [hregs]
  clear hregs
  repeat' (first | (simp only [zmPack, zxPack, ne_eq, zfree, owners, Nat.reduceLT, List.contains_cons, List.contains_nil, Nat.reduceBEq, BEq.rfl, chunk, setAt, List.lookup_cons, List.lookup_nil, reduceCtorEq, Nat.reduceEqDiff, reduceIte, implies_true, forall_const, Nat.reduceMul, Nat.reduceSub, Nat.reduceAdd, Nat.reduceLeDiff, *]) | (simp only [zgoO, zgoG, zO_nil, zthen_normal, zgoC]) | (with_reducible apply And.intro) | (with_reducible intro _))
  refine assign_z (l := m) (regs := regs) (by omega) hr5 (fun at2 s hA => ?_)
  have HA := Lib.hid hA
  have HAL := Lib.hid hA.inv.len
  clear hA hr5
  repeat' (first | (simp only [zmPack, zxPack, ne_eq, zfree, owners, Nat.reduceLT, List.contains_cons, List.contains_nil, Nat.reduceBEq, BEq.rfl, chunk, setAt, List.lookup_cons, List.lookup_nil, reduceCtorEq, Nat.reduceEqDiff, reduceIte, implies_true, forall_const, Nat.reduceMul, Nat.reduceSub, Nat.reduceAdd, Nat.reduceLeDiff, *]) | (simp only [zgoO, zgoG, zO_nil, zthen_normal, zgoC]) | (with_reducible apply And.intro) | (with_reducible intro _))
  refine clash_z (by omega) HAL.out (fun i j hij hj ci cj hm => HA.out.apart hij hj ci cj hm) ?_
  have e0 : ((at2.length : Nat) : Int) = ((m.length : Nat) : Int) := by rw [HAL.out]
  have e1 : ¬ ¬ ((m.length : Int) = (m.length : Int)) := fun h => h rfl
  repeat' (first | (simp only [zmPack, zxPack, ne_eq, zfree, owners, Nat.reduceLT, List.contains_cons, List.contains_nil, Nat.reduceBEq, BEq.rfl, chunk, setAt, List.lookup_cons, List.lookup_nil, reduceCtorEq, Nat.reduceEqDiff, reduceIte, implies_true, forall_const, Nat.reduceMul, Nat.reduceSub, Nat.reduceAdd, Nat.reduceLeDiff, e0, e1, *]) | (simp only [zgoO, zgoG, zO_nil, zthen_normal, zgoC]) | (with_reducible apply And.intro) | (with_reducible intro _))
  refine most_z (M := m) (fun X => by simp [rowsZ]) (by omega) (fun r hr => ?_)
  by_cases hrr : r ≤ (regs : Int)
  · have hs := HA.out.enough hr hrr
    repeat' (first | (simp only [zmPack, zxPack, ne_eq, zfree, owners, Nat.reduceLT, List.contains_cons, List.contains_nil, Nat.reduceBEq, BEq.rfl, chunk, setAt, List.lookup_cons, List.lookup_nil, reduceCtorEq, Nat.reduceEqDiff, reduceIte, implies_true, forall_const, Nat.reduceMul, Nat.reduceSub, Nat.reduceAdd, Nat.reduceLeDiff, hrr, hs, *]) | (simp only [zgoO, zgoG, zO_nil, zthen_normal, zgoC]) | (with_reducible apply And.intro) | (with_reducible intro _))
    refine zW_forK [(61, .fz 2 ex2 (m.map eS)), (5, Z64 (regs : Int)), (6, .fz 2 false (at2.map eS)), (7, Z64 s)] m.length (fun k s h => True) (by omega) ⟨rfl, rfl, rfl, rfl, rfl, rfl⟩ rfl rfl (by repeat' (first | exact trivial | (refine ⟨rfl, ?_⟩) | (refine ⟨by simp only [zupd_at, Nat.reduceEqDiff, reduceIte]; assumption, ?_⟩))) rfl rfl (by decide) trivial ?_ ?_
    · rintro k s2 W hk - hi hll ⟨f61, f5, f6, f7, -⟩
      have x1 := sp_at hk
      have k2 : k < at2.length := by rw [HAL.out]; exact hk
      have y1 := sp_at k2
      have hp := HA.out.place hk
      unfold cts at hp
      have HP := Lib.hid hp
      clear hp
      generalize sp m k = u at x1 HP
      generalize sp at2 k = p at y1 HP
      obtain ⟨p1, p2⟩ := p
      have z1 : ¬ (0 : Int) ≤ -1 := by decide
      rcases HP.out with ⟨h1, h2, h3, h4⟩ | ⟨h1, h2, h3, h4⟩ | ⟨h1, h2, h3⟩
      · simp only at h2 h3 h4
        subst h2
        have d := decide_eq_true h1
        have HDD := Lib.hid d
        clear HP h1 d z1
        repeat' (first | (simp only [zmPack, zxPack, ne_eq, zfree, owners, Nat.reduceLT, List.contains_cons, List.contains_nil, Nat.reduceBEq, BEq.rfl, chunk, setAt, List.lookup_cons, List.lookup_nil, reduceCtorEq, Nat.reduceEqDiff, reduceIte, implies_true, forall_const, Nat.reduceMul, Nat.reduceSub, Nat.reduceAdd, Nat.reduceLeDiff, x1, y1, h3, h4, eq_self, *]) | (simp only [zgoO, zgoG, zO_nil, zthen_normal, zgoC]) | (with_reducible apply And.intro) | (with_reducible intro _))
        refine rcounts_z ?_
        rw [HDD.out]
        repeat' (first | (simp only [zmPack, zxPack, ne_eq, zfree, owners, Nat.reduceLT, List.contains_cons, List.contains_nil, Nat.reduceBEq, BEq.rfl, chunk, setAt, List.lookup_cons, List.lookup_nil, reduceCtorEq, Nat.reduceEqDiff, reduceIte, implies_true, forall_const, Nat.reduceMul, Nat.reduceSub, Nat.reduceAdd, Nat.reduceLeDiff, x1, y1, h3, h4, eq_self, *]) | (simp only [zgoO, zgoG, zO_nil, zthen_normal, zgoC]) | (with_reducible apply And.intro) | (with_reducible intro _))
      · simp only at h2 h3 h4
        subst h2
        have d := decide_eq_true h1
        have HDD := Lib.hid d
        have h5 : ¬ p2 = -1 := by omega
        clear HP h1 d
        repeat' (first | (simp only [zmPack, zxPack, ne_eq, zfree, owners, Nat.reduceLT, List.contains_cons, List.contains_nil, Nat.reduceBEq, BEq.rfl, chunk, setAt, List.lookup_cons, List.lookup_nil, reduceCtorEq, Nat.reduceEqDiff, reduceIte, implies_true, forall_const, Nat.reduceMul, Nat.reduceSub, Nat.reduceAdd, Nat.reduceLeDiff, x1, y1, h3, h4, h5, z1, eq_self, *]) | (simp only [zgoO, zgoG, zO_nil, zthen_normal, zgoC]) | (with_reducible apply And.intro) | (with_reducible intro _))
        refine rcounts_z ?_
        rw [HDD.out]
        repeat' (first | (simp only [zmPack, zxPack, ne_eq, zfree, owners, Nat.reduceLT, List.contains_cons, List.contains_nil, Nat.reduceBEq, BEq.rfl, chunk, setAt, List.lookup_cons, List.lookup_nil, reduceCtorEq, Nat.reduceEqDiff, reduceIte, implies_true, forall_const, Nat.reduceMul, Nat.reduceSub, Nat.reduceAdd, Nat.reduceLeDiff, x1, y1, h3, h4, h5, z1, eq_self, *]) | (simp only [zgoO, zgoG, zO_nil, zthen_normal, zgoC]) | (with_reducible apply And.intro) | (with_reducible intro _))
      · simp only at h2 h3
        subst h2
        subst h3
        have d := decide_eq_false h1
        have HDD := Lib.hid d
        clear HP h1 d
        repeat' (first | (simp only [zmPack, zxPack, ne_eq, zfree, owners, Nat.reduceLT, List.contains_cons, List.contains_nil, Nat.reduceBEq, BEq.rfl, chunk, setAt, List.lookup_cons, List.lookup_nil, reduceCtorEq, Nat.reduceEqDiff, reduceIte, implies_true, forall_const, Nat.reduceMul, Nat.reduceSub, Nat.reduceAdd, Nat.reduceLeDiff, x1, y1, z1, eq_self, *]) | (simp only [zgoO, zgoG, zO_nil, zthen_normal, zgoC]) | (with_reducible apply And.intro) | (with_reducible intro _))
        refine rcounts_z ?_
        rw [HDD.out]
        repeat' (first | (simp only [zmPack, zxPack, ne_eq, zfree, owners, Nat.reduceLT, List.contains_cons, List.contains_nil, Nat.reduceBEq, BEq.rfl, chunk, setAt, List.lookup_cons, List.lookup_nil, reduceCtorEq, Nat.reduceEqDiff, reduceIte, implies_true, forall_const, Nat.reduceMul, Nat.reduceSub, Nat.reduceAdd, Nat.reduceLeDiff, x1, y1, z1, eq_self, *]) | (simp only [zgoO, zgoG, zO_nil, zthen_normal, zgoC]) | (with_reducible apply And.intro) | (with_reducible intro _))
        all_goals exact ⟨true, by first | rfl | simp [sameZ], fun h => (by cases h)⟩
    · rintro s2 h - ⟨f61, f5, f6, f7, -⟩
      repeat' (first | (simp only [zmPack, zxPack, ne_eq, zfree, owners, Nat.reduceLT, List.contains_cons, List.contains_nil, Nat.reduceBEq, BEq.rfl, chunk, setAt, List.lookup_cons, List.lookup_nil, reduceCtorEq, Nat.reduceEqDiff, reduceIte, implies_true, forall_const, Nat.reduceMul, Nat.reduceSub, Nat.reduceAdd, Nat.reduceLeDiff, *]) | (simp only [zgoO, zgoG, zO_nil, zthen_normal, zgoC]) | (with_reducible apply And.intro) | (with_reducible intro _))
      refine scanned_z ?_
      have fin := FI.out
      repeat' (first | (simp only [zmPack, zxPack, ne_eq, zfree, owners, Nat.reduceLT, List.contains_cons, List.contains_nil, Nat.reduceBEq, BEq.rfl, chunk, setAt, List.lookup_cons, List.lookup_nil, reduceCtorEq, Nat.reduceEqDiff, reduceIte, implies_true, forall_const, Nat.reduceMul, Nat.reduceSub, Nat.reduceAdd, Nat.reduceLeDiff, *]) | (simp only [zgoO, zgoG, zO_nil, zthen_normal, zgoC]) | (with_reducible apply And.intro) | (with_reducible intro _))
  · clear hr
    repeat' (first | (simp only [zmPack, zxPack, ne_eq, zfree, owners, Nat.reduceLT, List.contains_cons, List.contains_nil, Nat.reduceBEq, BEq.rfl, chunk, setAt, List.lookup_cons, List.lookup_nil, reduceCtorEq, Nat.reduceEqDiff, reduceIte, implies_true, forall_const, Nat.reduceMul, Nat.reduceSub, Nat.reduceAdd, Nat.reduceLeDiff, hrr, *]) | (simp only [zgoO, zgoG, zO_nil, zthen_normal, zgoC]) | (with_reducible apply And.intro) | (with_reducible intro _))
    clear hrr e0 e1
    refine zW_forK [(61, .fz 2 ex2 (m.map eS)), (5, Z64 (regs : Int)), (6, .fz 2 false (at2.map eS)), (7, Z64 s)] m.length (fun k s h => True) (by omega) ⟨rfl, rfl, rfl, rfl, rfl, rfl⟩ rfl rfl (by repeat' (first | exact trivial | (refine ⟨rfl, ?_⟩) | (refine ⟨by simp only [zupd_at, Nat.reduceEqDiff, reduceIte]; assumption, ?_⟩))) rfl rfl (by decide) trivial ?_ ?_
    · rintro k s2 W hk - hi hll ⟨f61, f5, f6, f7, -⟩
      have x1 := sp_at hk
      have k2 : k < at2.length := by rw [HAL.out]; exact hk
      have y1 := sp_at k2
      have hp := HA.out.place hk
      unfold cts at hp
      have HP := Lib.hid hp
      clear hp
      generalize sp m k = u at x1 HP
      generalize sp at2 k = p at y1 HP
      obtain ⟨p1, p2⟩ := p
      have z1 : ¬ (0 : Int) ≤ -1 := by decide
      rcases HP.out with ⟨h1, h2, h3, h4⟩ | ⟨h1, h2, h3, h4⟩ | ⟨h1, h2, h3⟩
      · simp only at h2 h3 h4
        subst h2
        have d := decide_eq_true h1
        have HDD := Lib.hid d
        clear HP h1 d z1
        repeat' (first | (simp only [zmPack, zxPack, ne_eq, zfree, owners, Nat.reduceLT, List.contains_cons, List.contains_nil, Nat.reduceBEq, BEq.rfl, chunk, setAt, List.lookup_cons, List.lookup_nil, reduceCtorEq, Nat.reduceEqDiff, reduceIte, implies_true, forall_const, Nat.reduceMul, Nat.reduceSub, Nat.reduceAdd, Nat.reduceLeDiff, x1, y1, h3, h4, eq_self, *]) | (simp only [zgoO, zgoG, zO_nil, zthen_normal, zgoC]) | (with_reducible apply And.intro) | (with_reducible intro _))
        refine rcounts_z ?_
        rw [HDD.out]
        repeat' (first | (simp only [zmPack, zxPack, ne_eq, zfree, owners, Nat.reduceLT, List.contains_cons, List.contains_nil, Nat.reduceBEq, BEq.rfl, chunk, setAt, List.lookup_cons, List.lookup_nil, reduceCtorEq, Nat.reduceEqDiff, reduceIte, implies_true, forall_const, Nat.reduceMul, Nat.reduceSub, Nat.reduceAdd, Nat.reduceLeDiff, x1, y1, h3, h4, eq_self, *]) | (simp only [zgoO, zgoG, zO_nil, zthen_normal, zgoC]) | (with_reducible apply And.intro) | (with_reducible intro _))
      · simp only at h2 h3 h4
        subst h2
        have d := decide_eq_true h1
        have HDD := Lib.hid d
        have h5 : ¬ p2 = -1 := by omega
        clear HP h1 d
        repeat' (first | (simp only [zmPack, zxPack, ne_eq, zfree, owners, Nat.reduceLT, List.contains_cons, List.contains_nil, Nat.reduceBEq, BEq.rfl, chunk, setAt, List.lookup_cons, List.lookup_nil, reduceCtorEq, Nat.reduceEqDiff, reduceIte, implies_true, forall_const, Nat.reduceMul, Nat.reduceSub, Nat.reduceAdd, Nat.reduceLeDiff, x1, y1, h3, h4, h5, z1, eq_self, *]) | (simp only [zgoO, zgoG, zO_nil, zthen_normal, zgoC]) | (with_reducible apply And.intro) | (with_reducible intro _))
        refine rcounts_z ?_
        rw [HDD.out]
        repeat' (first | (simp only [zmPack, zxPack, ne_eq, zfree, owners, Nat.reduceLT, List.contains_cons, List.contains_nil, Nat.reduceBEq, BEq.rfl, chunk, setAt, List.lookup_cons, List.lookup_nil, reduceCtorEq, Nat.reduceEqDiff, reduceIte, implies_true, forall_const, Nat.reduceMul, Nat.reduceSub, Nat.reduceAdd, Nat.reduceLeDiff, x1, y1, h3, h4, h5, z1, eq_self, *]) | (simp only [zgoO, zgoG, zO_nil, zthen_normal, zgoC]) | (with_reducible apply And.intro) | (with_reducible intro _))
      · simp only at h2 h3
        subst h2
        subst h3
        have d := decide_eq_false h1
        have HDD := Lib.hid d
        clear HP h1 d
        repeat' (first | (simp only [zmPack, zxPack, ne_eq, zfree, owners, Nat.reduceLT, List.contains_cons, List.contains_nil, Nat.reduceBEq, BEq.rfl, chunk, setAt, List.lookup_cons, List.lookup_nil, reduceCtorEq, Nat.reduceEqDiff, reduceIte, implies_true, forall_const, Nat.reduceMul, Nat.reduceSub, Nat.reduceAdd, Nat.reduceLeDiff, x1, y1, z1, eq_self, *]) | (simp only [zgoO, zgoG, zO_nil, zthen_normal, zgoC]) | (with_reducible apply And.intro) | (with_reducible intro _))
        refine rcounts_z ?_
        rw [HDD.out]
        repeat' (first | (simp only [zmPack, zxPack, ne_eq, zfree, owners, Nat.reduceLT, List.contains_cons, List.contains_nil, Nat.reduceBEq, BEq.rfl, chunk, setAt, List.lookup_cons, List.lookup_nil, reduceCtorEq, Nat.reduceEqDiff, reduceIte, implies_true, forall_const, Nat.reduceMul, Nat.reduceSub, Nat.reduceAdd, Nat.reduceLeDiff, x1, y1, z1, eq_self, *]) | (simp only [zgoO, zgoG, zO_nil, zthen_normal, zgoC]) | (with_reducible apply And.intro) | (with_reducible intro _))
        all_goals exact ⟨true, by first | rfl | simp [sameZ], fun h => (by cases h)⟩
    · rintro s2 h - ⟨f61, f5, f6, f7, -⟩
      repeat' (first | (simp only [zmPack, zxPack, ne_eq, zfree, owners, Nat.reduceLT, List.contains_cons, List.contains_nil, Nat.reduceBEq, BEq.rfl, chunk, setAt, List.lookup_cons, List.lookup_nil, reduceCtorEq, Nat.reduceEqDiff, reduceIte, implies_true, forall_const, Nat.reduceMul, Nat.reduceSub, Nat.reduceAdd, Nat.reduceLeDiff, *]) | (simp only [zgoO, zgoG, zO_nil, zthen_normal, zgoC]) | (with_reducible apply And.intro) | (with_reducible intro _))
      refine scanned_z ?_
      have fin := FI.out
      repeat' (first | (simp only [zmPack, zxPack, ne_eq, zfree, owners, Nat.reduceLT, List.contains_cons, List.contains_nil, Nat.reduceBEq, BEq.rfl, chunk, setAt, List.lookup_cons, List.lookup_nil, reduceCtorEq, Nat.reduceEqDiff, reduceIte, implies_true, forall_const, Nat.reduceMul, Nat.reduceSub, Nat.reduceAdd, Nat.reduceLeDiff, *]) | (simp only [zgoO, zgoG, zO_nil, zthen_normal, zgoC]) | (with_reducible apply And.intro) | (with_reducible intro _))
end Go.Proofs.Ytoeppobpnhlebaa

namespace Go.Proofs.Ytoeppobpnhlebaa
open Go Go.RowKit Go.ChangeShapes Go.WideShapes Go.ChangeAt
set_option linter.unusedVariables false
set_option linter.unusedSimpArgs false
set_option maxRecDepth 100000 in
theorem scanapart_lifted (os : Os) (started : os.Started) (H : Type) (enc : TypeId × Value → H) :
    ReturnsInHanded {} Try.checked os 8 .any (Rows.scanApartSpec.pre6 enc Try.prog Try.f8 Rows.scanApartRow.domain false) (Rows.scanApartSpec.post enc Try.prog Try.f8 false true false false) := by
  refine law_lifted (C := Try.checked) 12 [(false, .slice 16 (.prod (.int .i64) (.int .i64))), (false, .int .i64)] 4 Try.own Try.laidOut started (by kernel_rfl) Try.func8
    (ChangeSpec.witness6 (enc := enc) (C := Try.checked) false ⟨#[], #[.slice none 0 0, .int .i64 0], []⟩ 8 (by kernel_rfl) (by kernel_rfl) (by kernel_rfl) (by kernel_rfl))
    rfl (by kernel_rfl) Try.underlying4 (fun ds h => ?_) (by kernel_rfl) (by kernel_rfl) (fun W args h => ?_)
  · match ds, h with
    | [d0, d1], _ => rfl
  · refine zm_walk (by kernel_rfl) (constX_ok (n := 1000) (F := cFunc Try.prog) (by kernel_rfl) (fun f af h => h) tbS (by intro p hp; rw [List.mem_singleton.1 hp]; kernel_rfl)) (fun f af h => h) rfl (fun zl hz => ?_) W args h
    obtain ⟨l, _, rfl, hl, sl, n, _, rfl, hn, _, rfl⟩ := hz
    exact scanapart_z (l := l) (n := n)
theorem scanapart_holds : Rows.ScanApartSaid :=
  OpenClaim.holds_of_wide 8 Try.f8 rfl rfl rfl rfl rfl rfl rfl ⟨rfl, rfl, rfl, rfl, rfl⟩ rfl rfl rfl rfl rfl (by kernel_rfl) Try.func8 (by kernel_rfl) (of_decide_eq_true (by kernel_rfl)) (by unfold Func.isWrapper; first | (rw [if_pos (by decide +kernel)]; kernel_rfl) | (rw [if_neg (by decide +kernel)]; exact ⟨rfl, rfl⟩))
    (fun os started H enc _ => scanapart_lifted os started H enc)
end Go.Proofs.Ytoeppobpnhlebaa
