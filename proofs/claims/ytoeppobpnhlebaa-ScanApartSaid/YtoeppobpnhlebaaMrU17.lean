/-
  'ScanMore' in ZM.
-/
import Derived.Test.YtoeppobpnhlebaaMrU16
namespace Go.Proofs.Ytoeppobpnhlebaa
open Go Go.RowKit
set_option linter.unusedVariables false
set_option linter.unusedSimpArgs false
theorem num_sum {P Q T : Nat → Prop} : ∀ (k : Nat), (∀ j, j < k → (P j ↔ Q j ∨ T j) ∧ ¬ (Q j ∧ T j)) → num k Q + num k T = num k P
  | 0, _ => by simp [num]
  | k + 1, h => by
    have := num_sum k (fun j hj => h j (by omega))
    obtain ⟨h1, h2⟩ := h k (by omega)
    rw [num_succ, num_succ, num_succ]
    by_cases q : Q k
    · rw [if_pos q, if_neg (fun t => h2 ⟨q, t⟩), if_pos (h1.2 (.inl q))]; omega
    · by_cases t : T k
      · rw [if_neg q, if_pos t, if_pos (h1.2 (.inr t))]; omega
      · rw [if_neg q, if_neg t, if_neg (fun p => (h1.1 p).elim q t)]; omega
variable {l at2 at3 : List Sp} {regs : Nat} {s s3 : Int}
theorem Asg.kinds (A : Asg l regs at2 s) {i : Nat} (hi : i < l.length) : (cts l i ↔ 0 ≤ sl at2 i ∨ 0 ≤ rg at2 i) ∧ ¬ (0 ≤ sl at2 i ∧ 0 ≤ rg at2 i) := by
  obtain ⟨_, at1, e, G, I⟩ := A.inv
  rw [e]
  refine ⟨⟨fun h => ?_, fun h => ?_⟩, fun h => by have := (I.dn i h.1).2; omega⟩
  · by_cases q : 0 ≤ rg at1 i
    · exact .inr q
    · exact .inl (I.all i ((ordF_ok.mem i).2 ⟨hi, h⟩) (by omega))
  · rcases h with h | h
    · exact ((ordF_ok.mem i).1 (I.dn i h).1).2
    · exact ((ordF_ok.mem i).1 (G.dn i h)).2
theorem Asg.sum (A : Asg l regs at2 s) : num l.length (fun i => 0 ≤ sl at2 i) + num l.length (fun i => 0 ≤ rg at2 i) = num l.length (cts l) :=
  num_sum _ fun j hj => A.kinds hj
theorem Asg.feas (A : Asg l regs at2 s) : Feas l regs (fun i => 0 ≤ rg at2 i) := by
  obtain ⟨_, at1, e, G, I⟩ := A.inv
  rw [e]
  exact G.feasA
theorem Asg.isc (A : Asg l regs at2 s) {i : Nat} (h : 0 ≤ rg at2 i) : i < l.length ∧ cts l i := by
  obtain ⟨_, at1, e, G, I⟩ := A.inv
  rw [e] at h
  exact (ordF_ok.mem i).1 (G.dn i h)
theorem Asg.more (A : Asg l regs at2 s) (A3 : Asg l (regs + 1) at3 s3) : num l.length (fun i => 0 ≤ sl at3 i) ≤ num l.length (fun i => 0 ≤ sl at2 i) := by
  have h1 := A.sum
  have h2 := A3.sum
  have h3 := A3.best (F := fun i => 0 ≤ rg at2 i) (fun x => Nat.le_trans (A.feas x) (by omega)) (fun i hi => A.isc hi)
  omega
theorem Asg.none (A : Asg l 0 at2 s) : num l.length (fun i => 0 ≤ sl at2 i) = num l.length (cts l) := by
  have h1 := A.sum
  obtain ⟨_, at1, e, G, I⟩ := A.inv
  have h2 : num l.length (fun i => 0 ≤ rg at2 i) = 0 := num_none fun i _ h => by
    rw [e] at h
    have := G.lt i
    omega
  omega
section
variable {tb : List (FuncId × Bool)} {L : Nat → Bool} {H : ZH} {K : ZV → ZH → Prop}
end
variable {n : Int}
end Go.Proofs.Ytoeppobpnhlebaa

namespace Go.Proofs.Ytoeppobpnhlebaa
open Go Go.RowKit
set_option linter.unusedVariables false
set_option linter.unusedSimpArgs false
variable {tb : List (FuncId × Bool)} {L : Nat → Bool} {H : ZH} {K : ZV → ZH → Prop}
variable {l at2 : List Sp} {regs : Nat} {s : Int}
def sameP (a b : Sp) : Prop := ((0 ≤ a.1 ∨ 0 ≤ b.1) ∧ a.1 = b.1) ∨ (¬ (0 ≤ a.1 ∨ 0 ≤ b.1) ∧ 0 ≤ a.2 ∧ a.2 = b.2)
set_option maxHeartbeats 4000000 in
/-- Where places are not the same. -/
theorem same_z {a b : Sp} (hno : ¬ sameP a b) (hK : K (ZBo false) H) : ZC (constX tb) (cFunc Try.prog) 37 [.agg (eS a), .agg (eS b)] L H K := by
  refine ZC.enter Gh.no constX_none f_sn_same (by simp) ?_
  simp only [c_sn_same]
  have fin : ∀ X, Fin H (ZBo false) (H ++ X) K := fun X => Fin.trunc (Mods.ext H X) rfl (by rw [List.take_left]; exact hK)
  have h1 : (0 ≤ a.1 ∨ 0 ≤ b.1) → ¬ a.1 = b.1 := fun h e => hno (.inl ⟨h, e⟩)
  have h2 : ¬ 0 ≤ a.1 → ¬ 0 ≤ b.1 → ¬ 0 ≤ a.2 ∨ ¬ a.2 = b.2 := fun x y => by
    by_cases p : 0 ≤ a.2
    · exact .inr fun e => hno (.inr ⟨fun q => q.elim x y, p, e⟩)
    · exact .inl p
  have H1 := Lib.hid h1
  have H2 := Lib.hid h2
  clear hno hK h1 h2
  obtain ⟨a1, a2⟩ := a
  obtain ⟨b1, b2⟩ := b
  by_cases c1 : 0 ≤ a1
  · have d1 := H1.out (.inl c1)
    simp only at d1
    clear H1 H2
    repeat' (first | (simp only [zmPack, zxPack, ne_eq, zfree, owners, Nat.reduceLT, List.contains_cons, List.contains_nil, Nat.reduceBEq, BEq.rfl, chunk, setAt, List.lookup_cons, List.lookup_nil, reduceCtorEq, Nat.reduceEqDiff, reduceIte, implies_true, forall_const, Nat.reduceMul, Nat.reduceSub, Nat.reduceAdd, Nat.reduceLeDiff, c1, d1, *]) | (simp only [zgoO, zgoG, zO_nil, zthen_normal, zgoC]) | (with_reducible apply And.intro) | (with_reducible intro _))
  · by_cases c2 : 0 ≤ b1
    · have d1 := H1.out (.inr c2)
      simp only at d1
      clear H1 H2
      repeat' (first | (simp only [zmPack, zxPack, ne_eq, zfree, owners, Nat.reduceLT, List.contains_cons, List.contains_nil, Nat.reduceBEq, BEq.rfl, chunk, setAt, List.lookup_cons, List.lookup_nil, reduceCtorEq, Nat.reduceEqDiff, reduceIte, implies_true, forall_const, Nat.reduceMul, Nat.reduceSub, Nat.reduceAdd, Nat.reduceLeDiff, c1, c2, d1, *]) | (simp only [zgoO, zgoG, zO_nil, zthen_normal, zgoC]) | (with_reducible apply And.intro) | (with_reducible intro _))
    · have d2 := H2.out c1 c2
      simp only at d2
      clear H1 H2
      by_cases e1 : a1 = -1
      · by_cases e2 : b1 = -1
        · subst e1; subst e2
          have x1 : ¬ (0 : Int) ≤ -1 := by decide
          by_cases e3 : 0 ≤ a2
          · have d3 := d2.resolve_left (fun q => q e3)
            clear d2 c1 c2
            repeat' (first | (simp only [zmPack, zxPack, ne_eq, zfree, owners, Nat.reduceLT, List.contains_cons, List.contains_nil, Nat.reduceBEq, BEq.rfl, chunk, setAt, List.lookup_cons, List.lookup_nil, reduceCtorEq, Nat.reduceEqDiff, reduceIte, implies_true, forall_const, Nat.reduceMul, Nat.reduceSub, Nat.reduceAdd, Nat.reduceLeDiff, x1, e3, d3, eq_self, *]) | (simp only [zgoO, zgoG, zO_nil, zthen_normal, zgoC]) | (with_reducible apply And.intro) | (with_reducible intro _))
          · clear d2 c1 c2
            repeat' (first | (simp only [zmPack, zxPack, ne_eq, zfree, owners, Nat.reduceLT, List.contains_cons, List.contains_nil, Nat.reduceBEq, BEq.rfl, chunk, setAt, List.lookup_cons, List.lookup_nil, reduceCtorEq, Nat.reduceEqDiff, reduceIte, implies_true, forall_const, Nat.reduceMul, Nat.reduceSub, Nat.reduceAdd, Nat.reduceLeDiff, x1, e3, eq_self, *]) | (simp only [zgoO, zgoG, zO_nil, zthen_normal, zgoC]) | (with_reducible apply And.intro) | (with_reducible intro _))
        · subst e1
          have x1 : ¬ (0 : Int) ≤ -1 := by decide
          clear d2 c1
          repeat' (first | (simp only [zmPack, zxPack, ne_eq, zfree, owners, Nat.reduceLT, List.contains_cons, List.contains_nil, Nat.reduceBEq, BEq.rfl, chunk, setAt, List.lookup_cons, List.lookup_nil, reduceCtorEq, Nat.reduceEqDiff, reduceIte, implies_true, forall_const, Nat.reduceMul, Nat.reduceSub, Nat.reduceAdd, Nat.reduceLeDiff, x1, c2, e2, eq_self, *]) | (simp only [zgoO, zgoG, zO_nil, zthen_normal, zgoC]) | (with_reducible apply And.intro) | (with_reducible intro _))
      · clear d2
        repeat' (first | (simp only [zmPack, zxPack, ne_eq, zfree, owners, Nat.reduceLT, List.contains_cons, List.contains_nil, Nat.reduceBEq, BEq.rfl, chunk, setAt, List.lookup_cons, List.lookup_nil, reduceCtorEq, Nat.reduceEqDiff, reduceIte, implies_true, forall_const, Nat.reduceMul, Nat.reduceSub, Nat.reduceAdd, Nat.reduceLeDiff, c1, c2, e1, *]) | (simp only [zgoO, zgoG, zO_nil, zthen_normal, zgoC]) | (with_reducible apply And.intro) | (with_reducible intro _))
set_option maxHeartbeats 8000000 in
theorem clash_z {ex ex2 : Bool} (hl : l.length ≤ 300) (ha : at2.length = l.length) (hno : ∀ i j, i < j → j < l.length → cts l i → cts l j → mt l i j → ¬ sameP (sp at2 i) (sp at2 j)) (hK : K (.tuple [Z64 0, Z64 0, ZBo false]) H) :
    ZC (constX tb) (cFunc Try.prog) 20 [.fz 2 ex (l.map eS), .fz 2 ex2 (at2.map eS)] L H K := by
  refine ZC.enter Gh.no constX_none f_sn_clash (by simp) ?_
  simp only [c_sn_clash]
  have fin : Fin H (.tuple [Z64 0, Z64 0, ZBo false]) H K := Fin.keep hK
  have HA := Lib.hid ha
  have HN := Lib.hid hno
  have FI := Lib.hid fin
  have hbm : bestZ false (Z64 (l.length : Nat)) [Z64 (at2.length : Int)] = some (Z64 (l.length : Int)) := by rw [best_min, show min l.length at2.length = l.length by omega]
  clear ha hno fin hK
  repeat' (first | (simp only [zmPack, zxPack, ne_eq, zfree, owners, Nat.reduceLT, List.contains_cons, List.contains_nil, Nat.reduceBEq, BEq.rfl, chunk, setAt, List.lookup_cons, List.lookup_nil, reduceCtorEq, Nat.reduceEqDiff, reduceIte, implies_true, forall_const, Nat.reduceMul, Nat.reduceSub, Nat.reduceAdd, Nat.reduceLeDiff, hbm, *]) | (simp only [zgoO, zgoG, zO_nil, zthen_normal, zgoC]) | (with_reducible apply And.intro) | (with_reducible intro _))
  clear hbm
  refine zW_forK [(7, Z64 (l.length : Int)), (0, .fz 2 ex (l.map eS)), (1, .fz 2 ex2 (at2.map eS))] l.length (fun k s h => h = H) (by omega) ⟨rfl, rfl, rfl, rfl, rfl, rfl⟩ rfl rfl (by repeat' (first | exact trivial | (refine ⟨rfl, ?_⟩) | (refine ⟨by simp only [zupd_at, Nat.reduceEqDiff, reduceIte]; assumption, ?_⟩))) rfl rfl (by decide) rfl ?_ ?_
  · rintro k s h hk rfl hi hll ⟨f7, f0, f1, -⟩
    have w1 : IntKind.i64.wrap ((k : Int) + 1) = ((k + 1 : Nat) : Int) := by rw [IntWalk.i64_in _ (by omega)]; omega
    have x1 := sp_at hk
    have k2 : k < at2.length := by rw [HA.out]; exact hk
    have y1 := sp_at k2
    repeat' (first | (simp only [zmPack, zxPack, ne_eq, zfree, owners, Nat.reduceLT, List.contains_cons, List.contains_nil, Nat.reduceBEq, BEq.rfl, chunk, setAt, List.lookup_cons, List.lookup_nil, reduceCtorEq, Nat.reduceEqDiff, reduceIte, implies_true, forall_const, Nat.reduceMul, Nat.reduceSub, Nat.reduceAdd, Nat.reduceLeDiff, w1, *]) | (simp only [zgoO, zgoG, zO_nil, zthen_normal, zgoC]) | (with_reducible apply And.intro) | (with_reducible intro _))
    clear w1
    refine zW_whileK [(7, Z64 (l.length : Int)), (0, .fz 2 ex (l.map eS)), (1, .fz 2 ex2 (at2.map eS)), (8, Z64 (k : Int))] (l.length - (k + 1)) (fun r s2 h2 => ∃ j : Nat, s2 9 = Z64 (j : Int) ∧ h2 = h ∧ k < j ∧ j ≤ l.length ∧ r = l.length - j) (by repeat' (first | exact trivial | (refine ⟨rfl, ?_⟩) | (refine ⟨by simp only [zupd_at, Nat.reduceEqDiff, reduceIte]; assumption, ?_⟩))) rfl ⟨k + 1, rfl, rfl, by omega, by omega, rfl⟩ ?_
    clear f7 f0 f1
    rintro r s2 h2 ⟨j, f9, rfl, hkj, hjl, rfl⟩ ⟨f7, f0, f1, f8, -⟩
    by_cases hj : j < l.length
    · have c1 : (j : Int) < (l.length : Int) := by omega
      have x2 := sp_at hj
      have j2 : j < at2.length := by rw [HA.out]; exact hj
      have y2 := sp_at j2
      have hn := HN.out k j hkj hj
      unfold cts mt at hn
      have w2 : IntKind.i64.wrap ((j : Int) + 1) = ((j + 1 : Nat) : Int) := by rw [IntWalk.i64_in _ (by omega)]; omega
      have HNN := Lib.hid hn
      clear hn
      generalize sp l k = u at x1 HNN
      generalize sp l j = v at x2 HNN
      generalize sp at2 k = p at y1 HNN
      generalize sp at2 j = q at y2 HNN
      repeat' (first | (simp only [zmPack, zxPack, ne_eq, zfree, owners, Nat.reduceLT, List.contains_cons, List.contains_nil, Nat.reduceBEq, BEq.rfl, chunk, setAt, List.lookup_cons, List.lookup_nil, reduceCtorEq, Nat.reduceEqDiff, reduceIte, implies_true, forall_const, Nat.reduceMul, Nat.reduceSub, Nat.reduceAdd, Nat.reduceLeDiff, c1, x1, *]) | (simp only [zgoO, zgoG, zO_nil, zthen_normal, zgoC]) | (with_reducible apply And.intro) | (with_reducible intro _))
      refine counts_z ?_
      by_cases d1 : 0 ≤ u.1 ∧ u.1 < u.2
      · rw [decide_eq_true d1]
        repeat' (first | (simp only [zmPack, zxPack, ne_eq, zfree, owners, Nat.reduceLT, List.contains_cons, List.contains_nil, Nat.reduceBEq, BEq.rfl, chunk, setAt, List.lookup_cons, List.lookup_nil, reduceCtorEq, Nat.reduceEqDiff, reduceIte, implies_true, forall_const, Nat.reduceMul, Nat.reduceSub, Nat.reduceAdd, Nat.reduceLeDiff, x2, *]) | (simp only [zgoO, zgoG, zO_nil, zthen_normal, zgoC]) | (with_reducible apply And.intro) | (with_reducible intro _))
        refine counts_z ?_
        by_cases d2 : 0 ≤ v.1 ∧ v.1 < v.2
        · rw [decide_eq_true d2]
          repeat' (first | (simp only [zmPack, zxPack, ne_eq, zfree, owners, Nat.reduceLT, List.contains_cons, List.contains_nil, Nat.reduceBEq, BEq.rfl, chunk, setAt, List.lookup_cons, List.lookup_nil, reduceCtorEq, Nat.reduceEqDiff, reduceIte, implies_true, forall_const, Nat.reduceMul, Nat.reduceSub, Nat.reduceAdd, Nat.reduceLeDiff, x1, x2, *]) | (simp only [zgoO, zgoG, zO_nil, zthen_normal, zgoC]) | (with_reducible apply And.intro) | (with_reducible intro _))
          refine meet_z ?_
          by_cases d3 : u.1 < v.2 ∧ v.1 < u.2
          · rw [decide_eq_true d3]
            have d4 := HNN.out d1 d2 d3
            have D4 := Lib.hid d4
            clear d1 d2 d3 d4 HNN
            repeat' (first | (simp only [zmPack, zxPack, ne_eq, zfree, owners, Nat.reduceLT, List.contains_cons, List.contains_nil, Nat.reduceBEq, BEq.rfl, chunk, setAt, List.lookup_cons, List.lookup_nil, reduceCtorEq, Nat.reduceEqDiff, reduceIte, implies_true, forall_const, Nat.reduceMul, Nat.reduceSub, Nat.reduceAdd, Nat.reduceLeDiff, y1, y2, *]) | (simp only [zgoO, zgoG, zO_nil, zthen_normal, zgoC]) | (with_reducible apply And.intro) | (with_reducible intro _))
            refine same_z D4.out ?_
            repeat' (first | (simp only [zmPack, zxPack, ne_eq, zfree, owners, Nat.reduceLT, List.contains_cons, List.contains_nil, Nat.reduceBEq, BEq.rfl, chunk, setAt, List.lookup_cons, List.lookup_nil, reduceCtorEq, Nat.reduceEqDiff, reduceIte, implies_true, forall_const, Nat.reduceMul, Nat.reduceSub, Nat.reduceAdd, Nat.reduceLeDiff, w2, *]) | (simp only [zgoO, zgoG, zO_nil, zthen_normal, zgoC]) | (with_reducible apply And.intro) | (with_reducible intro _))
            all_goals exact ⟨l.length - (j + 1), by omega, j + 1, rfl, by omega, by omega, rfl⟩
          · rw [decide_eq_false d3]
            clear d1 d2 d3 HNN
            repeat' (first | (simp only [zmPack, zxPack, ne_eq, zfree, owners, Nat.reduceLT, List.contains_cons, List.contains_nil, Nat.reduceBEq, BEq.rfl, chunk, setAt, List.lookup_cons, List.lookup_nil, reduceCtorEq, Nat.reduceEqDiff, reduceIte, implies_true, forall_const, Nat.reduceMul, Nat.reduceSub, Nat.reduceAdd, Nat.reduceLeDiff, w2, *]) | (simp only [zgoO, zgoG, zO_nil, zthen_normal, zgoC]) | (with_reducible apply And.intro) | (with_reducible intro _))
            all_goals exact ⟨l.length - (j + 1), by omega, j + 1, rfl, by omega, by omega, rfl⟩
        · rw [decide_eq_false d2]
          clear d1 d2 HNN
          repeat' (first | (simp only [zmPack, zxPack, ne_eq, zfree, owners, Nat.reduceLT, List.contains_cons, List.contains_nil, Nat.reduceBEq, BEq.rfl, chunk, setAt, List.lookup_cons, List.lookup_nil, reduceCtorEq, Nat.reduceEqDiff, reduceIte, implies_true, forall_const, Nat.reduceMul, Nat.reduceSub, Nat.reduceAdd, Nat.reduceLeDiff, w2, *]) | (simp only [zgoO, zgoG, zO_nil, zthen_normal, zgoC]) | (with_reducible apply And.intro) | (with_reducible intro _))
          all_goals exact ⟨l.length - (j + 1), by omega, j + 1, rfl, by omega, by omega, rfl⟩
      · rw [decide_eq_false d1]
        clear d1 HNN
        repeat' (first | (simp only [zmPack, zxPack, ne_eq, zfree, owners, Nat.reduceLT, List.contains_cons, List.contains_nil, Nat.reduceBEq, BEq.rfl, chunk, setAt, List.lookup_cons, List.lookup_nil, reduceCtorEq, Nat.reduceEqDiff, reduceIte, implies_true, forall_const, Nat.reduceMul, Nat.reduceSub, Nat.reduceAdd, Nat.reduceLeDiff, w2, *]) | (simp only [zgoO, zgoG, zO_nil, zthen_normal, zgoC]) | (with_reducible apply And.intro) | (with_reducible intro _))
        all_goals exact ⟨l.length - (j + 1), by omega, j + 1, rfl, by omega, by omega, rfl⟩
    · have c1 : ¬ (j : Int) < (l.length : Int) := by omega
      repeat' (first | (simp only [zmPack, zxPack, ne_eq, zfree, owners, Nat.reduceLT, List.contains_cons, List.contains_nil, Nat.reduceBEq, BEq.rfl, chunk, setAt, List.lookup_cons, List.lookup_nil, reduceCtorEq, Nat.reduceEqDiff, reduceIte, implies_true, forall_const, Nat.reduceMul, Nat.reduceSub, Nat.reduceAdd, Nat.reduceLeDiff, c1, *]) | (simp only [zgoO, zgoG, zO_nil, zthen_normal, zgoC]) | (with_reducible apply And.intro) | (with_reducible intro _))
  · rintro s h rfl ⟨f7, f0, f1, -⟩
    have fin := FI.out
    repeat' (first | (simp only [zmPack, zxPack, ne_eq, zfree, owners, Nat.reduceLT, List.contains_cons, List.contains_nil, Nat.reduceBEq, BEq.rfl, chunk, setAt, List.lookup_cons, List.lookup_nil, reduceCtorEq, Nat.reduceEqDiff, reduceIte, implies_true, forall_const, Nat.reduceMul, Nat.reduceSub, Nat.reduceAdd, Nat.reduceLeDiff, *]) | (simp only [zgoO, zgoG, zO_nil, zthen_normal, zgoC]) | (with_reducible apply And.intro) | (with_reducible intro _))
end Go.Proofs.Ytoeppobpnhlebaa
