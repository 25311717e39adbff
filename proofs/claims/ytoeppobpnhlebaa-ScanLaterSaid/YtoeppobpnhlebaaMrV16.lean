/-
  Scan in ZM: the rest of a division, most at once.
-/
import Derived.Test.YtoeppobpnhlebaaMrV15
namespace Go.Proofs.Ytoeppobpnhlebaa
open Go Go.RowKit
set_option linter.unusedVariables false
set_option linter.unusedSimpArgs false
variable {tb : List (FuncId × Bool)} {L : Nat → Bool} {H : ZH} {K : ZV → ZH → Prop}
theorem rest_z {k m : Int} (hm : 0 < m ∧ m ≤ 1000000000) (hK : K (Z64 (k % m)) H) : ZC (constX tb) (cFunc Try.prog) 14 [Z64 k, Z64 m] L H K := by
  refine ZC.enter Gh.no (constX_none) f_sn_rest (by simp) ?_
  simp only [c_sn_rest]
  have hr : binV .rem (.int .i64 k) (.int .i64 m) = some (.int .i64 (k.tmod m)) := by simp [binV]; omega
  have fin := Fin.keep (H0 := H) hK
  have h1 : -m < k.tmod m := by
    have := Int.lt_tmod_of_pos k hm.1
    omega
  have h2 : k.tmod m < m := Int.tmod_lt_of_pos k hm.1
  have h3 : k.tmod m = k % m ∨ k.tmod m = k % m - m := by
    rw [Int.tmod_eq_emod]
    split
    · left; omega
    · right; omega
  have h4 := Int.emod_nonneg k (b := m) (by omega)
  have h5 := Int.emod_lt_of_pos k hm.1
  clear hK
  by_cases hn : k.tmod m < 0
  · have hw : IntKind.i64.wrap (k.tmod m + m) = k % m := by
      rw [IntWalk.i64_in _ (by omega)]; omega
    have F := Lib.hid fin
    clear h3 h4 h5 h1 h2 fin
    obtain ⟨t, ht⟩ : ∃ t, t = k.tmod m := ⟨_, rfl⟩
    rw [← ht] at hr hn hw
    have fin := F.out
    clear ht
    repeat' (first | (simp only [zmPack, zxPack, ne_eq, zfree, owners, Nat.reduceLT, List.contains_cons, List.contains_nil, Nat.reduceBEq, BEq.rfl, chunk, setAt, List.lookup_cons, List.lookup_nil, reduceCtorEq, Nat.reduceEqDiff, reduceIte, implies_true, forall_const, Nat.reduceMul, Nat.reduceSub, Nat.reduceAdd, Nat.reduceLeDiff, hr, hn, hw, *]) | (simp only [zgoO, zgoG, zO_nil, zthen_normal, zgoC]) | (with_reducible apply And.intro) | (with_reducible intro _))
  · have hw : k.tmod m = k % m := by omega
    have F := Lib.hid fin
    clear h3 h4 h5 h1 h2 fin
    rw [hw] at hr hn
    have fin := F.out
    clear hw
    repeat' (first | (simp only [zmPack, zxPack, ne_eq, zfree, owners, Nat.reduceLT, List.contains_cons, List.contains_nil, Nat.reduceBEq, BEq.rfl, chunk, setAt, List.lookup_cons, List.lookup_nil, reduceCtorEq, Nat.reduceEqDiff, reduceIte, implies_true, forall_const, Nat.reduceMul, Nat.reduceSub, Nat.reduceAdd, Nat.reduceLeDiff, hr, hn, *]) | (simp only [zgoO, zgoG, zO_nil, zthen_normal, zgoC]) | (with_reducible apply And.intro) | (with_reducible intro _))
def nL (M : List Sp) (x : Int) : Nat := M.countP fun b => decide (0 ≤ b.1 ∧ b.1 ≤ x ∧ x < b.2)
theorem nL_snoc {M : List Sp} {x : Int} {b : Sp} : nL (M ++ [b]) x = nL M x + if 0 ≤ b.1 ∧ b.1 ≤ x ∧ x < b.2 then 1 else 0 := by
  unfold nL
  rw [List.countP_append, List.countP_singleton]
  by_cases h : 0 ≤ b.1 ∧ b.1 ≤ x ∧ x < b.2
  · rw [if_pos h, if_pos (by simpa using h)]
  · rw [if_neg h, if_neg (by simpa using h)]
def MostR (M : List Sp) (r : Int) : Prop := ∀ a, a ∈ M → 0 ≤ a.1 → a.1 < a.2 → (nL M a.1 : Int) ≤ r
theorem sn_ld {W Y : ZH} {A : ZB} : (W ++ (Y ++ [A]))[W.length + Y.length]? = some A := by
  rw [← List.append_assoc, show W.length + Y.length = (W ++ Y).length by simp]; exact sn_at0 _ _
theorem sn_sv {W Y : ZH} {A B : ZB} : (W ++ (Y ++ [A])).set (W.length + Y.length) B = W ++ (Y ++ [B]) := by
  rw [← List.append_assoc, ← List.append_assoc, show W.length + Y.length = (W ++ Y).length by simp]; exact sn_st0 _ _ _
end Go.Proofs.Ytoeppobpnhlebaa

namespace Go.Proofs.Ytoeppobpnhlebaa
open Go Go.RowKit
set_option linter.unusedVariables false
set_option linter.unusedSimpArgs false
variable {l at_ at1 at2 : List Sp} {regs : Nat} {s : Int} {c : Nat → Bool}
def someL (l : List Sp) (c : Nat → Bool) (j : Nat) : List Sp := ((List.range j).filter fun i => c i && decide (0 ≤ (sp l i).1 ∧ (sp l i).1 < (sp l i).2)).map (sp l)
theorem someL_succ {j : Nat} : someL l c (j + 1) = if (c j && decide (0 ≤ (sp l j).1 ∧ (sp l j).1 < (sp l j).2)) = true then someL l c j ++ [sp l j] else someL l c j := by
  unfold someL
  rw [List.range_succ, List.filter_append, List.map_append]
  split
  · rename_i h; rw [List.filter_cons_of_pos (p := fun i => c i && decide (0 ≤ (sp l i).1 ∧ (sp l i).1 < (sp l i).2)) h]; rfl
  · rename_i h; rw [List.filter_cons_of_neg (p := fun i => c i && decide (0 ≤ (sp l i).1 ∧ (sp l i).1 < (sp l i).2)) h]; simp
def chs (l : List Sp) (c : Nat → Bool) (i : Nat) : Prop := c i = true ∧ cts l i
theorem chs_iff {j : Nat} : (c j && decide (0 ≤ (sp l j).1 ∧ (sp l j).1 < (sp l j).2)) = true ↔ chs l c j := by
  unfold chs cts; simp
theorem someL_len : ∀ (j : Nat), (someL l c j).length = num j (chs l c)
  | 0 => by simp [someL, num]
  | j + 1 => by
    rw [someL_succ, num_succ]
    by_cases h : chs l c j
    · rw [if_pos (chs_iff.2 h), if_pos h, List.length_append, someL_len j]; rfl
    · rw [if_neg (fun q => h (chs_iff.1 q)), if_neg h, someL_len j]; rfl
theorem someL_nL {x : Int} : ∀ (j : Nat), nL (someL l c j) x = num j (fun i => chs l c i ∧ cov l x i)
  | 0 => by simp [someL, num, nL]
  | j + 1 => by
    rw [someL_succ, num_succ]
    by_cases h : chs l c j
    · rw [if_pos (chs_iff.2 h), nL_snoc, someL_nL j]
      congr 1
      have h0 := h.2.1
      by_cases h2 : cov l x j
      · rw [if_pos (⟨h0, h2.1, h2.2⟩ : 0 ≤ (sp l j).1 ∧ (sp l j).1 ≤ x ∧ x < (sp l j).2), if_pos ⟨h, h2⟩]
      · rw [if_neg (fun q : 0 ≤ (sp l j).1 ∧ (sp l j).1 ≤ x ∧ x < (sp l j).2 => h2 ⟨q.2.1, q.2.2⟩), if_neg (fun q => h2 q.2)]
    · rw [if_neg (fun q => h (chs_iff.1 q)), if_neg (fun q => h q.1), someL_nL j]; rfl
theorem mem_someL {j i : Nat} (hi : i < j) (h : chs l c i) : sp l i ∈ someL l c j := by
  unfold someL
  exact List.mem_map.2 ⟨i, List.mem_filter.2 ⟨List.mem_range.2 hi, chs_iff.2 h⟩, rfl⟩
theorem someL_feas {r : Int} (hm : MostR (someL l c l.length) r) (hr : r ≤ (regs : Int)) : Feas l regs (chs l c) := fun x => by
  by_cases h : ∃ i, i < l.length ∧ (chs l c i ∧ cov l x i)
  · obtain ⟨i0, h1, h2, h3⟩ := max_ex (fun i => (sp l i).1) h
    have h4 := hm _ (mem_someL h1 h2.1) h2.1.2.1 h2.1.2.2
    rw [someL_nL] at h4
    have h5 := num_le (N := l.length) (P := fun i => chs l c i ∧ cov l x i) (Q := fun i => chs l c i ∧ cov l (sp l i0).1 i) (fun i hi hp => ⟨hp.1, h3 i hi hp, by have := hp.2.2; have := h2.2.1; omega⟩)
    omega
  · rw [num_none (fun i hi hp => h ⟨i, hi, hp⟩)]; exact Nat.zero_le _
structure AsgI (l : List Sp) (regs : Nat) (at2 : List Sp) (s : Int) : Prop where
  len : at2.length = l.length
  ex : ∃ at1, rg at2 = rg at1 ∧ GI l (ordF l) regs (ordF l) (rg at1) ∧ SlI l at1 (ordF l) at2 s
theorem Asg.inv (A : Asg l regs at2 s) : AsgI l regs at2 s := by
  obtain ⟨at1, h1, h2⟩ := A
  obtain ⟨k1, k2, k3⟩ := h1.inv ordF_ok [] (by simp)
  have I := h2.inv (fun k hk => k3 k (by rw [← k1]; exact hk)) ordF_ok.nd (fun k hk => by rw [k1]; exact ((ordF_ok.mem k).1 hk).1) (fun k hk => hk)
  exact ⟨by rw [I.len, k1], at1, I.rge, k2, I⟩
theorem Asg.best (A : Asg l regs at2 s) {F : Nat → Prop} (h1 : Feas l regs F) (h2 : ∀ i, F i → i < l.length ∧ cts l i) : num l.length F ≤ num l.length (fun i => 0 ≤ rg at2 i) := by
  obtain ⟨_, at1, e, G, _⟩ := A.inv
  rw [e]
  exact G.best h1 (fun i hi => (ordF_ok.mem i).2 (h2 i hi))
theorem Asg.some (A : Asg l regs at2 s) {r : Int} (hm : MostR (someL l c l.length) r) (hr : r ≤ (regs : Int)) : (someL l c l.length).length ≤ num l.length (fun i => 0 ≤ rg at2 i) := by
  rw [someL_len]
  have hF : Feas l regs (fun i => i < l.length ∧ chs l c i) := fun x => Nat.le_trans (num_le fun i hi hp => ⟨hp.1.2, hp.2⟩) (someL_feas hm hr x)
  exact Nat.le_trans (num_le fun i hi hp => ⟨hi, hp⟩) (A.best hF (fun i hi => ⟨hi.1, hi.2.2⟩))
end Go.Proofs.Ytoeppobpnhlebaa

namespace Go.Proofs.Ytoeppobpnhlebaa
open Go Go.RowKit
set_option linter.unusedVariables false
set_option linter.unusedSimpArgs false
abbrev tbS : List (FuncId × Bool) := [(13, true)]
theorem scanned_z {L : Nat → Bool} {H : ZH} {K : ZV → ZH → Prop} (k : K (ZBo true) H) : ZC (constX tbS) (cFunc Try.prog) 13 [] L H K :=
  ZC.const (fun args fl hp ha => constX_some (l := tbS) (f := 13) (b := true) rfl args fl hp ha) k
theorem best_min {n m : Nat} : bestZ false (Z64 (n : Nat)) [Z64 (m : Nat)] = some (Z64 ((min n m : Nat) : Int)) := by
  simp only [bestZ]
  by_cases h : m < n
  · rw [show min n m = m by omega]
    have : ((m : Nat) : Int) < ((n : Nat) : Int) := by omega
    simp [this]
  · rw [show min n m = n by omega]
    have : ¬ ((m : Nat) : Int) < ((n : Nat) : Int) := by omega
    simp [this]
theorem numZ_none {S : ZS} {d : Nat} : numZ S d none = some d := rfl
theorem numZ_some {S : ZS} {d : Nat} {x : Opd} : numZ S d (some x) = (zev S x).bind natZ := by
  simp only [numZ]; cases zev S x <;> rfl
theorem dd_cut {α : Type} {e : α → List ZV} {k n : Nat} {ex : Bool} {l : List α} (h : n ≤ l.length) : ∃ ex2, ∀ H, cutZ H k 0 n l.length false (.fz k ex (l.map e)) = some (.fz k ex2 ((l.take n).map e)) := by
  by_cases hl : l = []
  · subst hl
    have : n = 0 := by simpa using h
    subst this
    exact ⟨false, fun H => by simp [cutZ]⟩
  · refine ⟨(ex || false) && n == l.length, fun H => ?_⟩
    simp only [cutZ]
    rw [if_pos ⟨trivial, Nat.zero_le _, h, by simp⟩, if_neg (by simpa using hl)]
    simp only [List.drop_zero, Nat.sub_zero, List.map_take]
variable {l : List Sp} {n : Int}
end Go.Proofs.Ytoeppobpnhlebaa
