/-
  Proved: the law ScanMore answers true, whatever the input: with a register more no more spans have slots; with none all have.
-/
import Derived.Test.YtoeppobpnhlebaaMrT16
namespace Go.Proofs.Ytoeppobpnhlebaa
open Go Go.RowKit
set_option linter.unusedVariables false
set_option linter.unusedSimpArgs false
theorem num_sum {P Q T : Nat → Prop} : ∀ (k : Nat), (∀ j, j < k → (P j ↔ Q j ∨ T j) ∧ ¬ (Q j ∧ T j)) → num k Q + num k T = num k P
  | 0, _ => by simp [num]
  | k + 1, h => by
    have := num_sum k (fun j hj => h j (by omega))
    obtain ⟨h1, h2⟩ := h k (by omega)
    rw [num_succ, num_succ, num_succ]
    by_cases q : Q k
    · rw [if_pos q, if_neg (fun t => h2 ⟨q, t⟩), if_pos (h1.2 (.inl q))]; omega
    · by_cases t : T k
      · rw [if_neg q, if_pos t, if_pos (h1.2 (.inr t))]; omega
      · rw [if_neg q, if_neg t, if_neg (fun p => (h1.1 p).elim q t)]; omega
theorem num_le_self {N : Nat} {P : Nat → Prop} : num N P ≤ N :=
  num_inj (f := fun i => (i : Int)) (fun i hi _ => by omega) (fun i j _ _ _ _ e => by omega)
variable {l at2 at3 : List Sp} {regs : Nat} {s s3 : Int}
theorem Asg.kinds (A : Asg l regs at2 s) {i : Nat} (hi : i < l.length) : (cts l i ↔ 0 ≤ sl at2 i ∨ 0 ≤ rg at2 i) ∧ ¬ (0 ≤ sl at2 i ∧ 0 ≤ rg at2 i) := by
  obtain ⟨_, at1, e, G, I⟩ := A.inv
  rw [e]
  refine ⟨⟨fun h => ?_, fun h => ?_⟩, fun h => by have := (I.dn i h.1).2; omega⟩
  · by_cases q : 0 ≤ rg at1 i
    · exact .inr q
    · exact .inl (I.all i ((ordF_ok.mem i).2 ⟨hi, h⟩) (by omega))
  · rcases h with h | h
    · exact ((ordF_ok.mem i).1 (I.dn i h).1).2
    · exact ((ordF_ok.mem i).1 (G.dn i h)).2
theorem Asg.sum (A : Asg l regs at2 s) : num l.length (fun i => 0 ≤ sl at2 i) + num l.length (fun i => 0 ≤ rg at2 i) = num l.length (cts l) :=
  num_sum _ fun j hj => A.kinds hj
theorem Asg.feas (A : Asg l regs at2 s) : Feas l regs (fun i => 0 ≤ rg at2 i) := by
  obtain ⟨_, at1, e, G, I⟩ := A.inv
  rw [e]
  exact G.feasA
theorem Asg.isc (A : Asg l regs at2 s) {i : Nat} (h : 0 ≤ rg at2 i) : i < l.length ∧ cts l i := by
  obtain ⟨_, at1, e, G, I⟩ := A.inv
  rw [e] at h
  exact (ordF_ok.mem i).1 (G.dn i h)
theorem Asg.more (A : Asg l regs at2 s) (A3 : Asg l (regs + 1) at3 s3) : num l.length (fun i => 0 ≤ sl at3 i) ≤ num l.length (fun i => 0 ≤ sl at2 i) := by
  have h1 := A.sum
  have h2 := A3.sum
  have h3 := A3.best (F := fun i => 0 ≤ rg at2 i) (fun x => Nat.le_trans (A.feas x) (by omega)) (fun i hi => A.isc hi)
  omega
theorem Asg.none (A : Asg l 0 at2 s) : num l.length (fun i => 0 ≤ sl at2 i) = num l.length (cts l) := by
  have h1 := A.sum
  obtain ⟨_, at1, e, G, I⟩ := A.inv
  have h2 : num l.length (fun i => 0 ≤ rg at2 i) = 0 := num_none fun i _ h => by
    rw [e] at h
    have := G.lt i
    omega
  omega
section
variable {tb : List (FuncId × Bool)} {L : Nat → Bool} {H : ZH} {K : ZV → ZH → Prop}
set_option maxHeartbeats 4000000 in
theorem morea_z {ex : Bool} {q : Nat} (hq : H[q]? = some (.box [.fz 2 ex (l.map eS)])) (hl : l.length ≤ 300) (hr : regs ≤ 60) (hK : ∀ at2 s, Asg l regs at2 s → K (Z64 ((num l.length (fun i => 0 ≤ sl at2 i) : Nat) : Int)) H) :
    ZC (constX tb) (cFunc Try.prog) 15 [Z64 (regs : Int), .ptr q 0] L H K := by
  refine ZC.enterL Gh.no constX_none f_sn_morea (by simp) fun hL => ?_
  simp only [c_sn_morea]
  have FIN := Lib.hid fun at2 s X A => (Fin.trunc (Mods.ext H X) rfl (by rw [List.take_left]; exact hK at2 s A) : Fin H (Z64 ((num l.length (fun i => 0 ≤ sl at2 i) : Nat) : Int)) (H ++ X) K)
  have lx := hL
  clear hK hL
  repeat' (first | (simp only [zmPack, zxPack, ne_eq, zfree, owners, Nat.reduceLT, List.contains_cons, List.contains_nil, Nat.reduceBEq, BEq.rfl, chunk, setAt, List.lookup_cons, List.lookup_nil, reduceCtorEq, Nat.reduceEqDiff, reduceIte, implies_true, forall_const, Nat.reduceMul, Nat.reduceSub, Nat.reduceAdd, Nat.reduceLeDiff, hq, *]) | (simp only [zgoO, zgoG, zO_nil, zthen_normal, zgoC]) | (with_reducible apply And.intro) | (with_reducible intro _))
  refine assign_z (l := l) (regs := regs) hl hr (fun at2 s hA => ?_)
  have HA := Lib.hid hA
  have hal := hA.inv.len
  have hal2 : at2.length ≤ 300 := by omega
  have HAL := Lib.hid hal
  have HQ := Lib.hid hq
  clear hA hal hq
  repeat' (first | (simp only [zmPack, zxPack, ne_eq, zfree, owners, Nat.reduceLT, List.contains_cons, List.contains_nil, Nat.reduceBEq, BEq.rfl, chunk, setAt, List.lookup_cons, List.lookup_nil, reduceCtorEq, Nat.reduceEqDiff, reduceIte, implies_true, forall_const, Nat.reduceMul, Nat.reduceSub, Nat.reduceAdd, Nat.reduceLeDiff, *]) | (simp only [zgoO, zgoG, zO_nil, zthen_normal, zgoC]) | (with_reducible apply And.intro) | (with_reducible intro _))
  refine zW_forK [(19, .fz 2 false (at2.map eS))] at2.length (fun k s h => ∃ X, h = H ++ X ∧ s 7 = Z64 ((num k (fun i => 0 ≤ sl at2 i) : Nat) : Int)) (by omega) ⟨rfl, rfl, rfl, rfl, rfl, rfl⟩ rfl rfl (by repeat' (first | exact trivial | (refine ⟨rfl, ?_⟩) | (refine ⟨by simp only [zupd_at, Nat.reduceEqDiff, reduceIte]; assumption, ?_⟩))) rfl rfl (by decide) ⟨[], by simp, by simp [num]; rfl⟩ ?_ ?_
  · rintro k s2 h hk ⟨X, rfl, f7⟩ hi hll ⟨f19, -⟩
    have hx := sp_at hk
    have hn := num_succ (N := k) (P := fun i => 0 ≤ sl at2 i)
    have hnl := num_le_self (N := k) (P := fun i => 0 ≤ sl at2 i)
    rw [sl_eq hk] at hn
    obtain ⟨c, hc⟩ : ∃ c, c = num k (fun i => 0 ≤ sl at2 i) := ⟨_, rfl⟩
    rw [← hc] at hn hnl f7
    have HN := Lib.hid hn
    have w1 : IntKind.i64.wrap ((c : Int) + 1) = ((c + 1 : Nat) : Int) := by rw [IntWalk.i64_in _ (by omega)]; omega
    clear hn hc
    generalize sp at2 k = u at hx HN
    by_cases h0 : 0 ≤ u.2
    · have e := HN.out
      rw [if_pos h0] at e
      have HE := Lib.hid e
      clear e HN
      repeat' (first | (simp only [zmPack, zxPack, ne_eq, zfree, owners, Nat.reduceLT, List.contains_cons, List.contains_nil, Nat.reduceBEq, BEq.rfl, chunk, setAt, List.lookup_cons, List.lookup_nil, reduceCtorEq, Nat.reduceEqDiff, reduceIte, implies_true, forall_const, Nat.reduceMul, Nat.reduceSub, Nat.reduceAdd, Nat.reduceLeDiff, hx, sn_ld, sn_sv, lx, h0, w1, *]) | (simp only [zgoO, zgoG, zO_nil, zthen_normal, zgoC]) | (with_reducible apply And.intro) | (with_reducible intro _))
      all_goals first | exact ⟨_, rfl⟩ | (rw [HE.out]; done) | (rw [HE.out]; rfl)
    · have e := HN.out
      rw [if_neg h0] at e
      have HE := Lib.hid e
      clear e HN
      repeat' (first | (simp only [zmPack, zxPack, ne_eq, zfree, owners, Nat.reduceLT, List.contains_cons, List.contains_nil, Nat.reduceBEq, BEq.rfl, chunk, setAt, List.lookup_cons, List.lookup_nil, reduceCtorEq, Nat.reduceEqDiff, reduceIte, implies_true, forall_const, Nat.reduceMul, Nat.reduceSub, Nat.reduceAdd, Nat.reduceLeDiff, hx, sn_ld, sn_sv, lx, h0, *]) | (simp only [zgoO, zgoG, zO_nil, zthen_normal, zgoC]) | (with_reducible apply And.intro) | (with_reducible intro _))
      all_goals first | exact ⟨_, rfl⟩ | (rw [HE.out]; done) | (rw [HE.out]; rfl)
  · rintro s2 h ⟨X, rfl, f7⟩ ⟨f19, -⟩
    rw [HAL.out] at f7
    have fin := FIN.out at2 s X HA.out
    generalize num l.length (fun i => 0 ≤ sl at2 i) = c at f7 fin
    repeat' (first | (simp only [zmPack, zxPack, ne_eq, zfree, owners, Nat.reduceLT, List.contains_cons, List.contains_nil, Nat.reduceBEq, BEq.rfl, chunk, setAt, List.lookup_cons, List.lookup_nil, reduceCtorEq, Nat.reduceEqDiff, reduceIte, implies_true, forall_const, Nat.reduceMul, Nat.reduceSub, Nat.reduceAdd, Nat.reduceLeDiff, f7, *]) | (simp only [zgoO, zgoG, zO_nil, zthen_normal, zgoC]) | (with_reducible apply And.intro) | (with_reducible intro _))
end
variable {n : Int}
set_option maxHeartbeats 8000000 in
theorem scanmore_z : ZC (constX tbS) (cFunc Try.prog) 5 [.fz 2 false (l.map eS), Z64 n] (fun _ => true) [] fun z _ => z = ZBo true := by
  refine ZC.enter Gh.no (fun args fl hp ha => constX_none (l := tbS) (f := 5) (by decide) args fl hp ha) f_sn_more (by simp) ?_
  simp only [c_sn_more]
  have fin : ∀ X, Fin [] (ZBo true) X (fun z _ => z = ZBo true) := fun X => Fin.trunc (Mods.ext [] X) rfl rfl
  have FI := Lib.hid fin
  clear fin
  repeat' (first | (simp only [zmPack, zxPack, ne_eq, zfree, owners, Nat.reduceLT, List.contains_cons, List.contains_nil, Nat.reduceBEq, BEq.rfl, chunk, setAt, List.lookup_cons, List.lookup_nil, reduceCtorEq, Nat.reduceEqDiff, reduceIte, implies_true, forall_const, Nat.reduceMul, Nat.reduceSub, Nat.reduceAdd, Nat.reduceLeDiff, *]) | (simp only [zgoO, zgoG, zO_nil, zthen_normal, zgoC]) | (with_reducible apply And.intro) | (with_reducible intro _))
  refine scanned_z ?_
  have hbm : bestZ false (Z64 (l.length : Nat)) [Z64 (40 : Int)] = some (Z64 ((min l.length 40 : Nat) : Int)) := best_min (m := 40)
  obtain ⟨ex2, hct⟩ := dd_cut (e := eS) (k := 2) (ex := false) (l := l) (n := min l.length 40) (Nat.min_le_left _ _)
  obtain ⟨m, hm⟩ : ∃ m, m = l.take (min l.length 40) := ⟨_, rfl⟩
  have hml : m.length ≤ 40 := by rw [hm, List.length_take]; omega
  rw [← hm] at hct
  clear hm
  repeat' (first | (simp only [zmPack, zxPack, ne_eq, zfree, owners, Nat.reduceLT, List.contains_cons, List.contains_nil, Nat.reduceBEq, BEq.rfl, chunk, setAt, List.lookup_cons, List.lookup_nil, reduceCtorEq, Nat.reduceEqDiff, reduceIte, implies_true, forall_const, Nat.reduceMul, Nat.reduceSub, Nat.reduceAdd, Nat.reduceLeDiff, hbm, hct, numZ_none, numZ_some, natZ_nat, Option.bind_some, Option.isSome_none, *]) | (simp only [zgoO, zgoG, zO_nil, zthen_normal, zgoC]) | (with_reducible apply And.intro) | (with_reducible intro _))
  clear hbm hct
  refine rest_z (m := 10) (by omega) ?_
  obtain ⟨regs, hregs⟩ : ∃ regs : Nat, n % 10 = (regs : Int) := Int.eq_ofNat_of_zero_le (Int.emod_nonneg _ (by omega))
  have hr5 : regs + 1 ≤ 60 := by have := Int.emod_lt_of_pos n (show (0 : Int) < 10 by omega); omega
  rw [hregs]
  clear hregs
  repeat' (first | (simp only [zmPack, zxPack, ne_eq, zfree, owners, Nat.reduceLT, List.contains_cons, List.contains_nil, Nat.reduceBEq, BEq.rfl, chunk, setAt, List.lookup_cons, List.lookup_nil, reduceCtorEq, Nat.reduceEqDiff, reduceIte, implies_true, forall_const, Nat.reduceMul, Nat.reduceSub, Nat.reduceAdd, Nat.reduceLeDiff, *]) | (simp only [zgoO, zgoG, zO_nil, zthen_normal, zgoC]) | (with_reducible apply And.intro) | (with_reducible intro _))
  obtain ⟨W0, hW0⟩ : ∃ W0, W0 = ([.box [.fz 2 ex2 (m.map eS)]] : ZH) := ⟨_, rfl⟩
  have hq : ∀ X, (W0 ++ X)[0]? = some (.box [.fz 2 ex2 (m.map eS)]) := fun X => by rw [hW0]; rfl
  rw [← hW0]
  clear hW0
  refine zW_forK [(20, .fz 2 ex2 (m.map eS)), (5, Z64 (regs : Int)), (6, .func 15 [.ptr 0 0])] m.length (fun k s h => ∃ X, h = W0 ++ X ∧ s 7 = Z64 ((num k (cts m) : Nat) : Int)) (by omega) ⟨rfl, rfl, rfl, rfl, rfl, rfl⟩ rfl rfl (by repeat' (first | exact trivial | (refine ⟨rfl, ?_⟩) | (refine ⟨by simp only [zupd_at, Nat.reduceEqDiff, reduceIte]; assumption, ?_⟩))) rfl rfl (by decide) ⟨[], by simp, by simp [num]; rfl⟩ ?_ ?_
  · rintro k s2 h hk ⟨X, rfl, f7⟩ hi hll ⟨f20, f5, f6, -⟩
    have hx := sp_at hk
    have hn := num_succ (N := k) (P := cts m)
    have hnl := num_le_self (N := k) (P := cts m)
    obtain ⟨c, hc⟩ : ∃ c, c = num k (cts m) := ⟨_, rfl⟩
    rw [← hc] at hn hnl f7
    have hn2 : num (k + 1) (cts m) = c + if 0 ≤ (sp m k).1 ∧ (sp m k).1 < (sp m k).2 then 1 else 0 := by
      rw [num_succ, ← hc]
      by_cases h : cts m k
      · rw [if_pos h, if_pos (⟨h.1, h.2⟩ : 0 ≤ (sp m k).1 ∧ (sp m k).1 < (sp m k).2)]
      · rw [if_neg h, if_neg (fun q : 0 ≤ (sp m k).1 ∧ (sp m k).1 < (sp m k).2 => h ⟨q.1, q.2⟩)]
    have HN := Lib.hid hn2
    have w1 : IntKind.i64.wrap ((c : Int) + 1) = ((c + 1 : Nat) : Int) := by rw [IntWalk.i64_in _ (by omega)]; omega
    clear hn hc hn2
    generalize sp m k = u at hx HN
    repeat' (first | (simp only [zmPack, zxPack, ne_eq, zfree, owners, Nat.reduceLT, List.contains_cons, List.contains_nil, Nat.reduceBEq, BEq.rfl, chunk, setAt, List.lookup_cons, List.lookup_nil, reduceCtorEq, Nat.reduceEqDiff, reduceIte, implies_true, forall_const, Nat.reduceMul, Nat.reduceSub, Nat.reduceAdd, Nat.reduceLeDiff, hx, sn_ld, sn_sv, *]) | (simp only [zgoO, zgoG, zO_nil, zthen_normal, zgoC]) | (with_reducible apply And.intro) | (with_reducible intro _))
    refine rcounts_z ?_
    by_cases h0 : 0 ≤ u.1 ∧ u.1 < u.2
    · have e := HN.out
      rw [if_pos h0] at e
      have HE := Lib.hid e
      rw [decide_eq_true h0]
      clear e HN h0
      repeat' (first | (simp only [zmPack, zxPack, ne_eq, zfree, owners, Nat.reduceLT, List.contains_cons, List.contains_nil, Nat.reduceBEq, BEq.rfl, chunk, setAt, List.lookup_cons, List.lookup_nil, reduceCtorEq, Nat.reduceEqDiff, reduceIte, implies_true, forall_const, Nat.reduceMul, Nat.reduceSub, Nat.reduceAdd, Nat.reduceLeDiff, w1, *]) | (simp only [zgoO, zgoG, zO_nil, zthen_normal, zgoC]) | (with_reducible apply And.intro) | (with_reducible intro _))
      all_goals first | exact ⟨_, rfl⟩ | (rw [HE.out]; done) | (rw [HE.out]; rfl)
    · have e := HN.out
      rw [if_neg h0] at e
      have HE := Lib.hid e
      rw [decide_eq_false h0]
      clear e HN h0
      repeat' (first | (simp only [zmPack, zxPack, ne_eq, zfree, owners, Nat.reduceLT, List.contains_cons, List.contains_nil, Nat.reduceBEq, BEq.rfl, chunk, setAt, List.lookup_cons, List.lookup_nil, reduceCtorEq, Nat.reduceEqDiff, reduceIte, implies_true, forall_const, Nat.reduceMul, Nat.reduceSub, Nat.reduceAdd, Nat.reduceLeDiff, *]) | (simp only [zgoO, zgoG, zO_nil, zthen_normal, zgoC]) | (with_reducible apply And.intro) | (with_reducible intro _))
      all_goals first | exact ⟨_, rfl⟩ | (rw [HE.out]; done) | (rw [HE.out]; rfl)
  · rintro s2 h ⟨X, rfl, f7⟩ ⟨f20, f5, f6, -⟩
    have w1 : IntKind.i64.wrap ((regs : Int) + 1) = ((regs + 1 : Nat) : Int) := by rw [IntWalk.i64_in _ (by omega)]; omega
    repeat' (first | (simp only [zmPack, zxPack, ne_eq, zfree, owners, Nat.reduceLT, List.contains_cons, List.contains_nil, Nat.reduceBEq, BEq.rfl, chunk, setAt, List.lookup_cons, List.lookup_nil, reduceCtorEq, Nat.reduceEqDiff, reduceIte, implies_true, forall_const, Nat.reduceMul, Nat.reduceSub, Nat.reduceAdd, Nat.reduceLeDiff, *]) | (simp only [zgoO, zgoG, zO_nil, zthen_normal, zgoC]) | (with_reducible apply And.intro) | (with_reducible intro _))
    refine scanned_z ?_
    repeat' (first | (simp only [zmPack, zxPack, ne_eq, zfree, owners, Nat.reduceLT, List.contains_cons, List.contains_nil, Nat.reduceBEq, BEq.rfl, chunk, setAt, List.lookup_cons, List.lookup_nil, reduceCtorEq, Nat.reduceEqDiff, reduceIte, implies_true, forall_const, Nat.reduceMul, Nat.reduceSub, Nat.reduceAdd, Nat.reduceLeDiff, w1, *]) | (simp only [zgoO, zgoG, zO_nil, zthen_normal, zgoC]) | (with_reducible apply And.intro) | (with_reducible intro _))
    refine morea_z (regs := regs + 1) (hq X) (by omega) (by omega) (fun b1 s1 A1 => ?_)
    have g1 : (0 : Int) ≤ ((num m.length (fun i => 0 ≤ sl b1 i) : Nat) : Int) := Int.natCast_nonneg _
    clear A1
    generalize num m.length (fun i => 0 ≤ sl b1 i) = v1 at g1 ⊢
    repeat' (first | (simp only [zmPack, zxPack, ne_eq, zfree, owners, Nat.reduceLT, List.contains_cons, List.contains_nil, Nat.reduceBEq, BEq.rfl, chunk, setAt, List.lookup_cons, List.lookup_nil, reduceCtorEq, Nat.reduceEqDiff, reduceIte, implies_true, forall_const, Nat.reduceMul, Nat.reduceSub, Nat.reduceAdd, Nat.reduceLeDiff, w1, g1, *]) | (simp only [zgoO, zgoG, zO_nil, zthen_normal, zgoC]) | (with_reducible apply And.intro) | (with_reducible intro _))
    refine morea_z (regs := regs + 1) (hq X) (by omega) (by omega) (fun b2 s3 A2 => ?_)
    have HA2 := Lib.hid A2
    clear A2 g1
    repeat' (first | (simp only [zmPack, zxPack, ne_eq, zfree, owners, Nat.reduceLT, List.contains_cons, List.contains_nil, Nat.reduceBEq, BEq.rfl, chunk, setAt, List.lookup_cons, List.lookup_nil, reduceCtorEq, Nat.reduceEqDiff, reduceIte, implies_true, forall_const, Nat.reduceMul, Nat.reduceSub, Nat.reduceAdd, Nat.reduceLeDiff, *]) | (simp only [zgoO, zgoG, zO_nil, zthen_normal, zgoC]) | (with_reducible apply And.intro) | (with_reducible intro _))
    refine morea_z (regs := regs) (hq X) (by omega) (by omega) (fun b3 s4 A3 => ?_)
    have g2 : ((num m.length (fun i => 0 ≤ sl b2 i) : Nat) : Int) ≤ ((num m.length (fun i => 0 ≤ sl b3 i) : Nat) : Int) := by have := A3.more HA2.out; omega
    clear A3 HA2
    generalize num m.length (fun i => 0 ≤ sl b2 i) = v2 at g2 ⊢
    generalize num m.length (fun i => 0 ≤ sl b3 i) = v3 at g2 ⊢
    repeat' (first | (simp only [zmPack, zxPack, ne_eq, zfree, owners, Nat.reduceLT, List.contains_cons, List.contains_nil, Nat.reduceBEq, BEq.rfl, chunk, setAt, List.lookup_cons, List.lookup_nil, reduceCtorEq, Nat.reduceEqDiff, reduceIte, implies_true, forall_const, Nat.reduceMul, Nat.reduceSub, Nat.reduceAdd, Nat.reduceLeDiff, g2, *]) | (simp only [zgoO, zgoG, zO_nil, zthen_normal, zgoC]) | (with_reducible apply And.intro) | (with_reducible intro _))
    refine morea_z (regs := 0) (hq X) (by omega) (by omega) (fun b4 s5 A4 => ?_)
    have g3 : num m.length (fun i => 0 ≤ sl b4 i) = num m.length (cts m) := A4.none
    rw [g3]
    have fin := FI.out
    clear A4 g2 g3 w1
    generalize num m.length (cts m) = c at f7
    repeat' (first | (simp only [zmPack, zxPack, ne_eq, zfree, owners, Nat.reduceLT, List.contains_cons, List.contains_nil, Nat.reduceBEq, BEq.rfl, chunk, setAt, List.lookup_cons, List.lookup_nil, reduceCtorEq, Nat.reduceEqDiff, reduceIte, implies_true, forall_const, Nat.reduceMul, Nat.reduceSub, Nat.reduceAdd, Nat.reduceLeDiff, f7, eq_self, *]) | (simp only [zgoO, zgoG, zO_nil, zthen_normal, zgoC]) | (with_reducible apply And.intro) | (with_reducible intro _))
end Go.Proofs.Ytoeppobpnhlebaa

namespace Go.Proofs.Ytoeppobpnhlebaa
open Go Go.RowKit Go.ChangeShapes Go.WideShapes Go.ChangeAt
set_option linter.unusedVariables false
set_option linter.unusedSimpArgs false
set_option maxRecDepth 100000 in
theorem scanmore_lifted (os : Os) (started : os.Started) (H : Type) (enc : TypeId × Value → H) :
    ReturnsInHanded {} Try.checked os 5 .any (Rows.scanMoreSpec.pre6 enc Try.prog Try.f5 Rows.scanMoreRow.domain false) (Rows.scanMoreSpec.post enc Try.prog Try.f5 false true false false) := by
  refine law_lifted (C := Try.checked) 12 [(false, .slice 16 (.prod (.int .i64) (.int .i64))), (false, .int .i64)] 4 Try.own Try.laidOut started (by kernel_rfl) Try.func5
    (ChangeSpec.witness6 (enc := enc) (C := Try.checked) false ⟨#[], #[.slice none 0 0, .int .i64 0], []⟩ 8 (by kernel_rfl) (by kernel_rfl) (by kernel_rfl) (by kernel_rfl))
    rfl (by kernel_rfl) Try.underlying4 (fun ds h => ?_) (by kernel_rfl) (by kernel_rfl) (fun W args h => ?_)
  · match ds, h with
    | [d0, d1], _ => rfl
  · refine zm_walk (by kernel_rfl) (constX_ok (n := 1000) (F := cFunc Try.prog) (by kernel_rfl) (fun f af h => h) tbS (by intro p hp; rw [List.mem_singleton.1 hp]; kernel_rfl)) (fun f af h => h) rfl (fun zl hz => ?_) W args h
    obtain ⟨l, _, rfl, hl, sl, n, _, rfl, hn, _, rfl⟩ := hz
    exact scanmore_z (l := l) (n := n)
theorem scanmore_holds : Rows.ScanMoreSaid :=
  OpenClaim.holds_of_wide 5 Try.f5 rfl rfl rfl rfl rfl rfl rfl ⟨rfl, rfl, rfl, rfl, rfl⟩ rfl rfl rfl rfl rfl (by kernel_rfl) Try.func5 (by kernel_rfl) (of_decide_eq_true (by kernel_rfl)) (by unfold Func.isWrapper; first | (rw [if_pos (by decide +kernel)]; kernel_rfl) | (rw [if_neg (by decide +kernel)]; exact ⟨rfl, rfl⟩))
    (fun os started H enc _ => scanmore_lifted os started H enc)
end Go.Proofs.Ytoeppobpnhlebaa
