/-
  Scan, plain: how many things of a kind there are; spans; taking registers in order.
-/
import Derived.KernelRfl
import Derived.Test.YtoeppobpnhlebaaMrV1
import Derived.Test.YtoeppobpnhlebaaMrV4
namespace Go.Proofs.Ytoeppobpnhlebaa
open Go Go.RowKit
set_option linter.unusedVariables false
set_option linter.unusedSimpArgs false
open Classical in
noncomputable def num (N : Nat) (P : Nat → Prop) : Nat := ((List.range N).filter (fun i => decide (P i))).length
open Classical in
theorem num_succ {N : Nat} {P : Nat → Prop} : num (N + 1) P = num N P + if P N then 1 else 0 := by
  unfold num
  rw [List.range_succ, List.filter_append, List.length_append]
  by_cases h : P N
  · rw [if_pos h, List.filter_cons_of_pos (by simpa using h)]; rfl
  · rw [if_neg h, List.filter_cons_of_neg (by simpa using h)]; rfl
theorem num_le : ∀ {N : Nat} {P Q : Nat → Prop}, (∀ i, i < N → P i → Q i) → num N P ≤ num N Q
  | 0, P, Q, _ => by simp [num]
  | N + 1, P, Q, h => by
    have := num_le (N := N) (P := P) (Q := Q) (fun i hi => h i (by omega))
    have h1 := h N (by omega)
    rw [num_succ, num_succ]
    by_cases p : P N
    · rw [if_pos p, if_pos (h1 p)]; omega
    · rw [if_neg p]; omega
theorem num_congr {N : Nat} {P Q : Nat → Prop} (h : ∀ i, i < N → (P i ↔ Q i)) : num N P = num N Q :=
  Nat.le_antisymm (num_le fun i hi => (h i hi).1) (num_le fun i hi => (h i hi).2)
theorem num_upd : ∀ {N : Nat} {P Q : Nat → Prop} {c : Nat}, c < N → P c → ¬ Q c → (∀ i, i < N → i ≠ c → (P i ↔ Q i)) → num N P = num N Q + 1
  | 0, P, Q, c, h, _, _, _ => by omega
  | N + 1, P, Q, c, h, hp, hq, he => by
    rw [num_succ, num_succ]
    by_cases e : c = N
    · subst e
      rw [if_pos hp, if_neg hq, num_congr (P := P) (Q := Q) (fun i hi => he i (by omega) (by omega))]
    · have := num_upd (N := N) (by omega) hp hq (fun i hi => he i (by omega))
      have h1 := he N (by omega) (fun h => e h.symm)
      by_cases p : P N
      · rw [if_pos p, if_pos (h1.1 p)]; omega
      · rw [if_neg p, if_neg (fun q => p (h1.2 q))]; omega
theorem num_none {N : Nat} {P : Nat → Prop} (h : ∀ i, i < N → ¬ P i) : num N P = 0 := by
  unfold num
  rw [List.length_eq_zero_iff, List.filter_eq_nil_iff]
  exact fun i hi => by simpa using h i (List.mem_range.1 hi)
theorem num_inj {N : Nat} : ∀ {k : Nat} {P : Nat → Prop} {f : Nat → Int}, (∀ i, i < N → P i → 0 ≤ f i ∧ f i < (k : Int)) → (∀ i j, i < N → j < N → P i → P j → f i = f j → i = j) → num N P ≤ k
  | 0, P, f, h, _ => by
    rw [num_none (fun i hi hp => by have := h i hi hp; omega)]; exact Nat.le_refl _
  | k + 1, P, f, h, hi => by
    by_cases e : ∃ c, c < N ∧ P c ∧ f c = (k : Int)
    · obtain ⟨c, hc, hp, hf⟩ := e
      have h1 := num_upd (Q := fun i => P i ∧ i ≠ c) hc hp (fun q => q.2 rfl) (fun i _ hne => ⟨fun p => ⟨p, hne⟩, fun q => q.1⟩)
      have h2 := num_inj (k := k) (P := fun i => P i ∧ i ≠ c) (f := f) (fun i hi2 hp2 => by
        have := h i hi2 hp2.1
        have hne : f i ≠ (k : Int) := fun q => hp2.2 (hi i c hi2 hc hp2.1 hp (q.trans hf.symm))
        omega) (fun i j a b c d e => hi i j a b c.1 d.1 e)
      omega
    · have h2 := num_inj (k := k) (P := P) (f := f) (fun i hi2 hp2 => by
        have := h i hi2 hp2
        have hne : f i ≠ (k : Int) := fun q => e ⟨i, hi2, hp2, q⟩
        omega) hi
      omega
theorem num_ge {N : Nat} : ∀ {k : Nat} {P : Nat → Prop} {g : Nat → Nat}, (∀ j, j < k → g j < N ∧ P (g j)) → (∀ i j, i < k → j < k → g i = g j → i = j) → k ≤ num N P
  | 0, P, g, _, _ => Nat.zero_le _
  | k + 1, P, g, h, hi => by
    obtain ⟨h1, h2⟩ := h k (by omega)
    have h3 := num_upd (Q := fun i => P i ∧ i ≠ g k) h1 h2 (fun q => q.2 rfl) (fun i _ hne => ⟨fun p => ⟨p, hne⟩, fun q => q.1⟩)
    have h4 := num_ge (k := k) (P := fun i => P i ∧ i ≠ g k) (g := g) (fun j hj => ⟨(h j (by omega)).1, (h j (by omega)).2, fun e => by have := hi j k (by omega) (by omega) e; omega⟩) (fun i j a b c => hi i j (by omega) (by omega) c)
    omega
theorem max_ex (f : Nat → Int) : ∀ {N : Nat} {P : Nat → Prop}, (∃ i, i < N ∧ P i) → ∃ i, i < N ∧ P i ∧ ∀ j, j < N → P j → f j ≤ f i
  | 0, P, h => by obtain ⟨i, h, _⟩ := h; omega
  | N + 1, P, h => by
    by_cases e : ∃ i, i < N ∧ P i
    · obtain ⟨i, h1, h2, h3⟩ := max_ex f e
      by_cases p : P N ∧ f i ≤ f N
      · refine ⟨N, by omega, p.1, fun j hj hp => ?_⟩
        by_cases q : j = N
        · subst q; exact Int.le_refl _
        · exact Int.le_trans (h3 j (by omega) hp) p.2
      · refine ⟨i, by omega, h2, fun j hj hp => ?_⟩
        by_cases q : j = N
        · subst q
          have : ¬ f i ≤ f j := fun r => p ⟨hp, r⟩
          omega
        · exact h3 j (by omega) hp
    · obtain ⟨i, h1, h2⟩ := h
      have : i = N := Classical.byContradiction fun q => e ⟨i, by omega, h2⟩
      subst this
      refine ⟨i, by omega, h2, fun j hj hp => ?_⟩
      have : j = i := Classical.byContradiction fun q => e ⟨j, by omega, hp⟩
      subst this; exact Int.le_refl _
abbrev Sp := Int × Int
def sp (l : List Sp) (n : Nat) : Sp := l.getD n (0, 0)
def cts (l : List Sp) (n : Nat) : Prop := 0 ≤ (sp l n).1 ∧ (sp l n).1 < (sp l n).2
def mt (l : List Sp) (a b : Nat) : Prop := (sp l a).1 < (sp l b).2 ∧ (sp l b).1 < (sp l a).2
def cov (l : List Sp) (x : Int) (n : Nat) : Prop := (sp l n).1 ≤ x ∧ x < (sp l n).2
def Feas (l : List Sp) (k : Nat) (F : Nat → Prop) : Prop := ∀ x, num l.length (fun i => F i ∧ cov l x i) ≤ k
def IsLeast (B : Int → Prop) (r : Nat) : Prop := ¬ B (r : Int) ∧ ∀ i : Nat, i < r → B (i : Int)
theorem IsLeast.eq {B : Int → Prop} {r s : Nat} (h : IsLeast B r) (h2 : IsLeast B s) : r = s := by
  rcases Nat.lt_trichotomy r s with e | e | e
  · exact absurd (h2.2 r e) h.1
  · exact e
  · exact absurd (h.2 s e) h2.1
def busyP (l : List Sp) (order : List Nat) (R : Nat → Int) (n : Nat) (p : Int) : Prop := ∃ k, k ∈ order ∧ k ≠ n ∧ 0 ≤ R k ∧ mt l k n ∧ R k = p
def cand (l : List Sp) (R : Nat → Int) (n k : Nat) : Prop := k = n ∨ (0 ≤ R k ∧ mt l k n)
def updR (R : Nat → Int) (n : Nat) (v : Int) : Nat → Int := fun i => if i = n then v else R i
theorem updR_n {R : Nat → Int} {n : Nat} {v : Int} : updR R n v n = v := if_pos rfl
theorem updR_ne {R : Nat → Int} {n i : Nat} {v : Int} (h : i ≠ n) : updR R n v i = R i := if_neg h
inductive Take (l : List Sp) (order : List Nat) (regs : Nat) (R : Nat → Int) (n : Nat) : (Nat → Int) → Prop
  | have_ {r : Nat} : IsLeast (busyP l order R n) r → r < regs → Take l order regs R n (updR R n (r : Int))
  | out {r m : Nat} : IsLeast (busyP l order R n) r → regs ≤ r → m ∈ order → cand l R n m → (∀ k, k ∈ order → cand l R n k → (sp l k).2 ≤ (sp l m).2) → Take l order regs R n (if m = n then R else updR (updR R n (R m)) m (-1))
structure GI (l : List Sp) (order : List Nat) (regs : Nat) (done : List Nat) (R : Nat → Int) : Prop where
  dn : ∀ n, 0 ≤ R n → n ∈ done
  lt : ∀ n, R n < (regs : Int)
  ge : ∀ n, -1 ≤ R n
  ap : ∀ a b, 0 ≤ R a → R a = R b → mt l a b → a = b
  opt : ∀ F : Nat → Prop, Feas l regs F → (∀ i, F i → i ∈ order) → ∃ F2 : Nat → Prop, Feas l regs F2 ∧ (∀ i, F2 i → i ∈ order) ∧ num l.length F ≤ num l.length F2 ∧ ∀ i, i ∈ done → F2 i → 0 ≤ R i
variable {l : List Sp} {order done rest : List Nat} {regs : Nat} {R R2 : Nat → Int} {n : Nat}
theorem GI.start : GI l order regs [] (fun _ => -1) :=
  ⟨fun n h => by simp at h, fun n => by show (-1 : Int) < _; omega, fun n => Int.le_refl _, fun a b h => by simp at h, fun F h1 h2 => ⟨F, h1, h2, Nat.le_refl _, fun i h => by cases h⟩⟩
structure OrdS (l : List Sp) (order : List Nat) : Prop where
  mem : ∀ n, n ∈ order ↔ n < l.length ∧ cts l n
  nd : order.Nodup
  so : order.Pairwise fun a b => (sp l a).1 ≤ (sp l b).1
theorem mt_cov {a b : Nat} {x : Int} (ha : cov l x a) (hb : cov l x b) : mt l a b := by
  unfold cov at ha hb; unfold mt; omega
theorem GI.feasA (G : GI l order regs done R) : Feas l regs (fun i => 0 ≤ R i) := fun x => by
  refine num_inj (f := R) (fun i _ h => ⟨h.1, G.lt i⟩) (fun i j _ _ h1 h2 e => G.ap i j h1.1 e (mt_cov h1.2 h2.2))
theorem OrdS.before (O : OrdS l (done ++ n :: rest)) {i : Nat} (h : i ∈ done) : (sp l i).1 ≤ (sp l n).1 := (List.pairwise_append.1 O.so).2.2 i h n (by simp)
theorem OrdS.behind (O : OrdS l (done ++ n :: rest)) {i : Nat} (h : i ∈ n :: rest) : (sp l n).1 ≤ (sp l i).1 := by
  rcases List.mem_cons.1 h with rfl | h
  · exact Int.le_refl _
  · exact (List.pairwise_cons.1 (List.pairwise_append.1 O.so).2.1).1 i h
theorem GI.take (O : OrdS l (done ++ n :: rest)) (G : GI l (done ++ n :: rest) regs done R) (T : Take l (done ++ n :: rest) regs R n R2) : GI l (done ++ n :: rest) regs (done ++ [n]) R2 := by
  have hnN : ¬ n ∈ done := fun h => by
    have := (List.nodup_append.1 O.nd).2.2 n h n (by simp)
    exact this rfl
  have hRn : ¬ 0 ≤ R n := fun h => hnN (G.dn n h)
  have hcn : n < l.length ∧ cts l n := (O.mem n).1 (by simp)
  have hcov : ∀ k, 0 ≤ R k → mt l k n → cov l (sp l n).1 k := fun k h1 h2 => ⟨O.before (G.dn k h1), h2.2⟩
  have hcovn : cov l (sp l n).1 n := ⟨Int.le_refl _, hcn.2.2⟩
  cases T with
  | @have_ r hr hlt =>
    refine ⟨fun i h => ?_, fun i => ?_, fun i => ?_, fun a b h1 h2 h3 => ?_, fun F h1 h2 => ?_⟩
    · by_cases e : i = n
      · subst e; simp
      · rw [updR_ne e] at h; exact List.mem_append_left _ (G.dn i h)
    · by_cases e : i = n
      · subst e; rw [updR_n]; omega
      · rw [updR_ne e]; exact G.lt i
    · by_cases e : i = n
      · subst e; rw [updR_n]; omega
      · rw [updR_ne e]; exact G.ge i
    · by_cases ea : a = n
      · by_cases eb : b = n
        · rw [ea, eb]
        · subst ea
          rw [updR_n, updR_ne eb] at h2
          refine absurd ⟨b, List.mem_append_left _ (G.dn b (by omega)), eb, by omega, ⟨h3.2, h3.1⟩, h2.symm⟩ hr.1
      · rw [updR_ne ea] at h1 h2
        by_cases eb : b = n
        · subst eb
          rw [updR_n] at h2
          exact absurd ⟨a, List.mem_append_left _ (G.dn a h1), ea, h1, h3, h2⟩ hr.1
        · rw [updR_ne eb] at h2
          exact G.ap a b h1 h2 h3
    · obtain ⟨F2, k1, k2, k3, k4⟩ := G.opt F h1 h2
      refine ⟨F2, k1, k2, k3, fun i hi hf => ?_⟩
      by_cases e : i = n
      · subst e; rw [updR_n]; omega
      · rw [updR_ne e]
        rcases List.mem_append.1 hi with h | h
        · exact k4 i h hf
        · exact absurd (List.mem_singleton.1 h) e
  | @out r m hr hle hmo hm hmax =>
    have hmN : m < l.length := ((O.mem m).1 hmo).1
    -- the state behind
    have hR2n : m ≠ n → (if m = n then R else updR (updR R n (R m)) m (-1)) n = R m := fun e => by rw [if_neg e, updR_ne (Ne.symm e), updR_n]
    have hR2m : m ≠ n → (if m = n then R else updR (updR R n (R m)) m (-1)) m = -1 := fun e => by rw [if_neg e, updR_n]
    have hR2o : ∀ i, i ≠ n → i ≠ m → (if m = n then R else updR (updR R n (R m)) m (-1)) i = R i := fun i e1 e2 => by
      by_cases e : m = n
      · rw [if_pos e]
      · rw [if_neg e, updR_ne e2, updR_ne e1]
    have hR2e : m = n → (if m = n then R else updR (updR R n (R m)) m (-1)) = R := fun e => if_pos e
    generalize (if m = n then R else updR (updR R n (R m)) m (-1)) = S at hR2n hR2m hR2o hR2e
    have hmR : m ≠ n → 0 ≤ R m ∧ mt l m n := fun e => hm.resolve_left e
    refine ⟨fun i h => ?_, fun i => ?_, fun i => ?_, fun a b h1 h2 h3 => ?_, fun F h1 h2 => ?_⟩
    · by_cases e : i = n
      · subst e; simp
      · by_cases em : m = n
        · rw [hR2e em] at h; exact List.mem_append_left _ (G.dn i h)
        · by_cases e2 : i = m
          · subst e2; rw [hR2m em] at h; simp at h
          · rw [hR2o i e e2] at h; exact List.mem_append_left _ (G.dn i h)
    · by_cases em : m = n
      · rw [hR2e em]; exact G.lt i
      · by_cases e : i = n
        · subst e; rw [hR2n em]; exact G.lt m
        · by_cases e2 : i = m
          · subst e2; rw [hR2m em]; omega
          · rw [hR2o i e e2]; exact G.lt i
    · by_cases em : m = n
      · rw [hR2e em]; exact G.ge i
      · by_cases e : i = n
        · subst e; rw [hR2n em]; exact G.ge m
        · by_cases e2 : i = m
          · subst e2; rw [hR2m em]; omega
          · rw [hR2o i e e2]; exact G.ge i
    · by_cases em : m = n
      · rw [hR2e em] at h1 h2; exact G.ap a b h1 h2 h3
      · obtain ⟨m1, m2⟩ := hmR em
        have oth : ∀ c, c ≠ n → c ≠ m → R c = R m → mt l c n → False := fun c c1 c2 c3 c4 =>
          c2 (G.ap c m (by omega) c3 (mt_cov (hcov c (by omega) c4) (hcov m m1 m2)))
        have am : a ≠ m := fun q => by subst q; rw [hR2m em] at h1; simp at h1
        have bm : b ≠ m := fun q => by subst q; rw [hR2m em] at h2; rw [h2] at h1; simp at h1
        by_cases ea : a = n
        · by_cases eb : b = n
          · rw [ea, eb]
          · subst ea
            rw [hR2n em, hR2o b eb bm] at h2
            exact (oth b eb bm h2.symm ⟨h3.2, h3.1⟩).elim
        · rw [hR2o a ea am] at h1 h2
          by_cases eb : b = n
          · subst eb
            rw [hR2n em] at h2
            exact (oth a ea am h2 h3).elim
          · rw [hR2o b eb bm] at h2
            exact G.ap a b h1 h2 h3
    · obtain ⟨F1, k1, k2, k3, k4⟩ := G.opt F h1 h2
      have back : ∀ F2 : Nat → Prop, ¬ F2 m → (∀ i, i ∈ done → F2 i → i ≠ m → 0 ≤ R i) → ∀ i, i ∈ done ++ [n] → F2 i → 0 ≤ S i := fun F2 n1 n2 i hi hf => by
        have em : i ≠ m := fun q => by subst q; exact n1 hf
        by_cases e : i = n
        · subst e
          rw [hR2n (Ne.symm em)]
          exact (hmR (Ne.symm em)).1
        · rw [hR2o i e em]
          rcases List.mem_append.1 hi with h | h
          · exact n2 i h hf em
          · exact absurd (List.mem_singleton.1 h) e
      by_cases hF : F1 m
      · -- one of the k + 1 is not in it
        obtain ⟨c, hc, hcF⟩ : ∃ c, cand l R n c ∧ ¬ F1 c := by
          refine Classical.byContradiction fun hno => ?_
          have all : ∀ c, cand l R n c → F1 c := fun c hc => Classical.byContradiction fun h => hno ⟨c, hc, h⟩
          have hb : ∀ j : Nat, ∃ k, j < regs → k ∈ done ++ n :: rest ∧ k ≠ n ∧ 0 ≤ R k ∧ mt l k n ∧ R k = (j : Int) := fun j => by
            by_cases h : j < regs
            · obtain ⟨k, h⟩ := hr.2 j (by omega)
              exact ⟨k, fun _ => h⟩
            · exact ⟨0, fun q => absurd q h⟩
          let g : Nat → Nat := fun j => if j < regs then Classical.choose (hb j) else n
          have hg : ∀ j, j < regs → g j ∈ done ++ n :: rest ∧ g j ≠ n ∧ 0 ≤ R (g j) ∧ mt l (g j) n ∧ R (g j) = (j : Int) := fun j h => by
            show (if j < regs then Classical.choose (hb j) else n) ∈ _ ∧ _
            have e : g j = Classical.choose (hb j) := if_pos h
            have := Classical.choose_spec (hb j) h
            rw [← e] at this
            exact this
          have hgr : g regs = n := if_neg (by omega)
          have h5 := num_ge (N := l.length) (k := regs + 1) (P := fun i => F1 i ∧ cov l (sp l n).1 i) (g := g) (fun j hj => by
            by_cases e : j < regs
            · obtain ⟨g1, g2, g3, g4, g5⟩ := hg j e
              exact ⟨((O.mem _).1 g1).1, all _ (.inr ⟨g3, g4⟩), hcov _ g3 g4⟩
            · have : j = regs := by omega
              subst this
              rw [hgr]
              exact ⟨hcn.1, all n (.inl rfl), hcovn⟩) (fun i j hi hj e => by
            by_cases e1 : i < regs
            · by_cases e2 : j < regs
              · have a1 := (hg i e1).2.2.2.2
                have a2 := (hg j e2).2.2.2.2
                rw [e, a2] at a1
                omega
              · have : j = regs := by omega
                subst this
                rw [hgr] at e
                exact absurd e (hg i e1).2.1
            · have : i = regs := by omega
              subst this
              by_cases e2 : j < i
              · rw [hgr] at e
                exact absurd e.symm (hg j e2).2.1
              · omega)
          have := k1 (sp l n).1
          omega
        have hco : c ∈ done ++ n :: rest := by
          rcases hc with rfl | hc
          · simp
          · exact List.mem_append_left _ (G.dn c hc.1)
        have hcN : c < l.length := ((O.mem c).1 hco).1
        have hcm : c ≠ m := fun q => by subst q; exact hcF hF
        have hto := hmax c hco hc
        have hfrom : ∀ k, cand l R n k → (sp l k).1 ≤ (sp l n).1 := fun k hk => by
          rcases hk with rfl | hk
          · exact Int.le_refl _
          · exact O.before (G.dn k hk.1)
        have swap : ∀ C : Nat → Prop, (C c → C m) → num l.length (fun i => ((F1 i ∧ i ≠ m) ∨ i = c) ∧ C i) ≤ num l.length (fun i => F1 i ∧ C i) := fun C hC => by
          by_cases h : C c
          · have q1 := num_upd (N := l.length) (P := fun i => ((F1 i ∧ i ≠ m) ∨ i = c) ∧ C i) (Q := fun i => (F1 i ∧ i ≠ m) ∧ C i) hcN ⟨.inr rfl, h⟩ (fun q => hcF q.1.1) (fun i _ hne => ⟨fun q => ⟨q.1.resolve_right hne, q.2⟩, fun q => ⟨.inl q.1, q.2⟩⟩)
            have q2 := num_upd (N := l.length) (P := fun i => F1 i ∧ C i) (Q := fun i => (F1 i ∧ i ≠ m) ∧ C i) hmN ⟨hF, hC h⟩ (fun q => q.1.2 rfl) (fun i _ hne => ⟨fun q => ⟨⟨q.1, hne⟩, q.2⟩, fun q => ⟨q.1.1, q.2⟩⟩)
            omega
          · refine num_le fun i _ q => ?_
            rcases q.1 with q1 | rfl
            · exact ⟨q1.1, q.2⟩
            · exact absurd q.2 h
        have same : num l.length F1 ≤ num l.length (fun i => (F1 i ∧ i ≠ m) ∨ i = c) := by
          have q1 := num_upd (N := l.length) (P := fun i => (F1 i ∧ i ≠ m) ∨ i = c) (Q := fun i => F1 i ∧ i ≠ m) hcN (.inr rfl) (fun q => hcF q.1) (fun i _ hne => ⟨fun q => q.resolve_right hne, fun q => .inl q⟩)
          have q2 := num_upd (N := l.length) (P := F1) (Q := fun i => F1 i ∧ i ≠ m) hmN hF (fun q => q.2 rfl) (fun i _ hne => ⟨fun q => ⟨q, hne⟩, fun q => q.1⟩)
          omega
        have inA : ∀ i, i ∈ done → ((F1 i ∧ i ≠ m) ∨ i = c) → 0 ≤ R i := fun i hi q => by
          rcases q with q | rfl
          · exact k4 i hi q.1
          · rcases hc with rfl | hc
            · exact absurd hi hnN
            · exact hc.1
        refine ⟨fun i => (F1 i ∧ i ≠ m) ∨ i = c, fun x => ?_, fun i q => ?_, Nat.le_trans k3 same, back _ (fun q => ?_) (fun i hi q _ => inA i hi q)⟩
        · by_cases hx : (sp l n).1 ≤ x
          · exact Nat.le_trans (swap (cov l x) (fun q => ⟨Int.le_trans (hfrom m hm) hx, by have := q.2; omega⟩)) (k1 x)
          · refine Nat.le_trans (num_le fun i hi q => ?_) (G.feasA x)
            have hio : i ∈ done ++ n :: rest := by
              rcases q.1 with q1 | rfl
              · exact k2 i q1.1
              · exact hco
            rcases List.mem_append.1 hio with h | h
            · exact ⟨inA i h q.1, q.2⟩
            · have a1 := O.behind h
              have a2 := q.2.1
              omega
        · rcases q with q | rfl
          · exact k2 i q.1
          · exact hco
        · rcases q with q | q
          · exact q.2 rfl
          · exact hcm q.symm
      · exact ⟨F1, k1, k2, k3, back F1 hF (fun i hi hf _ => k4 i hi hf)⟩
theorem GI.best (G : GI l order regs order R) {F : Nat → Prop} (h1 : Feas l regs F) (h2 : ∀ i, F i → i ∈ order) : num l.length F ≤ num l.length (fun i => 0 ≤ R i) := by
  obtain ⟨F2, k1, k2, k3, k4⟩ := G.opt F h1 h2
  exact Nat.le_trans k3 (num_le fun i hi hf => k4 i (k2 i hf) hf)
end Go.Proofs.Ytoeppobpnhlebaa

namespace Go.Proofs.Ytoeppobpnhlebaa
open Go Go.RowKit
set_option linter.unusedVariables false
set_option linter.unusedSimpArgs false
variable {lt : Int → Int → Bool} {key : Int → Int}
theorem getD_at {D : List Int} {i : Nat} (h : i < D.length) : D.getD i 0 = D[i] := by rw [List.getD_eq_getElem?_getD, List.getElem?_eq_getElem h]; rfl
def sw (D : List Int) (i j : Nat) : List Int := (D.set i (D.getD j 0)).set j (D.getD i 0)
theorem sw_len {D : List Int} {i j : Nat} : (sw D i j).length = D.length := by simp [sw]
theorem sw_at {D : List Int} {i j p : Nat} (hi : i < D.length) (hj : j < D.length) : (sw D i j).getD p 0 = if p = j then D.getD i 0 else if p = i then D.getD j 0 else D.getD p 0 := by
  unfold sw
  rw [List.getD_eq_getElem?_getD, List.getElem?_set]
  by_cases e : j = p
  · subst e
    rw [if_pos rfl, if_pos (by rw [List.length_set]; exact hj), if_pos rfl]; rfl
  · rw [if_neg e, if_neg (Ne.symm e), List.getElem?_set]
    by_cases e2 : i = p
    · subst e2; rw [if_pos rfl, if_pos hi, if_pos rfl]; rfl
    · rw [if_neg e2, if_neg (Ne.symm e2), ← List.getD_eq_getElem?_getD]
theorem sw_perm {D : List Int} {i j : Nat} (hi : i < D.length) (hj : j < D.length) : (sw D i j).Perm D := by
  rw [List.perm_iff_count]
  intro x
  unfold sw
  rw [List.count_set (by rw [List.length_set]; exact hj), List.count_set hi, List.getElem_set, getD_at hi, getD_at hj]
  have c1 : D[i] = x → 0 < D.count x := fun e => List.count_pos_iff.2 (by rw [← e]; exact List.getElem_mem hi)
  have c2 : D[j] = x → 0 < D.count x := fun e => List.count_pos_iff.2 (by rw [← e]; exact List.getElem_mem hj)
  by_cases e : i = j
  · subst e
    rw [if_pos rfl]
    by_cases h : D[i] = x
    · have := c1 h; simp [h]; omega
    · simp [h]
  · rw [if_neg e]
    by_cases h : D[i] = x
    · by_cases h2 : D[j] = x
      · have := c1 h; simp [h, h2]; omega
      · have := c1 h; simp [h, h2]; omega
    · by_cases h2 : D[j] = x
      · have := c2 h2; simp [h, h2]
      · simp [h, h2]
def insIn (lt : Int → Int → Bool) (a : Nat) : Nat → List Int → List Int
  | 0, D => D
  | j + 1, D => if a < j + 1 ∧ lt (D.getD (j + 1) 0) (D.getD j 0) = true then insIn lt a j (sw D (j + 1) j) else D
def insTo (lt : Int → Int → Bool) (a : Nat) : Nat → List Int → List Int
  | 0, D => D
  | m + 1, D => insIn lt a (a + 1 + m) (insTo lt a m D)
theorem insIn_succ {a j : Nat} {D : List Int} : insIn lt a (j + 1) D = if a < j + 1 ∧ lt (D.getD (j + 1) 0) (D.getD j 0) = true then insIn lt a j (sw D (j + 1) j) else D := rfl
theorem insIn_stop {a : Nat} : ∀ {j : Nat} {D : List Int}, ¬ a < j → insIn lt a j D = D
  | 0, D, _ => rfl
  | j + 1, D, h => by unfold insIn; rw [if_neg (fun q => h q.1)]
theorem insIn_perm {a : Nat} : ∀ {j : Nat} {D : List Int}, j < D.length → (insIn lt a j D).Perm D
  | 0, D, _ => List.Perm.refl _
  | j + 1, D, h => by
    unfold insIn
    split
    · exact (insIn_perm (by rw [sw_len]; omega)).trans (sw_perm h (by omega))
    · exact List.Perm.refl _
theorem insTo_perm {a : Nat} : ∀ {m : Nat} {D : List Int}, a + m < D.length ∨ m = 0 → (insTo lt a m D).Perm D
  | 0, D, _ => List.Perm.refl _
  | m + 1, D, h => by
    have ih := insTo_perm (m := m) (D := D) (a := a) (by omega)
    exact (insIn_perm (by rw [ih.length_eq]; omega)).trans ih
def SoOn (key : Int → Int) (D : List Int) (a b : Nat) : Prop := ∀ p q, a ≤ p → p < q → q < b → key (D.getD p 0) ≤ key (D.getD q 0)
theorem insIn_so {a e : Nat} (hk : ∀ x y, lt x y = decide (key x < key y)) : ∀ {j : Nat} {D : List Int}, a ≤ j → j < e → e ≤ D.length → (∀ p q, a ≤ p → p < q → q < e → q ≠ j → p ≠ j → key (D.getD p 0) ≤ key (D.getD q 0)) → (∀ q, j < q → q < e → key (D.getD j 0) ≤ key (D.getD q 0)) → SoOn key (insIn lt a j D) a e
  | 0, D, ha, he, hl, h1, h2 => fun p q hp hpq hq => by
    unfold insIn
    by_cases e0 : p = 0
    · subst e0; exact h2 q (by omega) hq
    · exact h1 p q hp hpq hq (by omega) e0
  | j + 1, D, ha, he, hl, h1, h2 => by
    unfold insIn
    split
    · rename_i h
      obtain ⟨h3, h4⟩ := h
      rw [hk] at h4
      have h4 := of_decide_eq_true h4
      refine insIn_so hk (by omega) (by omega) (by rw [sw_len]; exact hl) (fun p q hp hpq hq n1 n2 => ?_) (fun q hq hqe => ?_)
      · rw [sw_at (by omega) (by omega), sw_at (by omega) (by omega), if_neg n2, if_neg n1]
        by_cases e1 : q = j + 1
        · rw [if_pos e1, if_neg (by omega)]
          exact h1 p j hp (by omega) (by omega) (by omega) (by omega)
        · rw [if_neg e1]
          by_cases e2 : p = j + 1
          · rw [if_pos e2]; exact h1 j q (by omega) (by omega) hq e1 (by omega)
          · rw [if_neg e2]; exact h1 p q hp hpq hq e1 e2
      · rw [sw_at (by omega) (by omega), sw_at (by omega) (by omega), if_pos rfl, if_neg (by omega)]
        by_cases e1 : q = j + 1
        · rw [if_pos e1]; omega
        · rw [if_neg e1]; exact h2 q (by omega) hqe
    · rename_i h
      intro p q hp hpq hq
      have h3 : a < j + 1 → key (D.getD j 0) ≤ key (D.getD (j + 1) 0) := fun h5 => by
        have : ¬ lt (D.getD (j + 1) 0) (D.getD j 0) = true := fun h6 => h ⟨h5, h6⟩
        rw [hk, decide_eq_true_eq] at this
        omega
      by_cases e1 : q = j + 1
      · subst e1
        by_cases e2 : p = j
        · subst e2; exact h3 (by omega)
        · exact Int.le_trans (h1 p j hp (by omega) (by omega) (by omega) (by omega)) (h3 (by omega))
      · by_cases e2 : p = j + 1
        · subst e2; exact h2 q hpq hq
        · exact h1 p q hp hpq hq e1 e2
theorem insTo_so {a : Nat} (hk : ∀ x y, lt x y = decide (key x < key y)) : ∀ {m : Nat} {D : List Int}, a + m < D.length ∨ m = 0 → SoOn key (insTo lt a m D) a (a + 1 + m)
  | 0, D, _ => fun p q hp hpq hq => by omega
  | m + 1, D, h => by
    have ih := insTo_so (a := a) (m := m) (D := D) hk (by omega)
    have hl := (insTo_perm (lt := lt) (a := a) (m := m) (D := D) (by omega)).length_eq
    exact insIn_so (e := a + 1 + (m + 1)) hk (by omega) (by omega) (by omega) (fun p q hp hpq hq n1 n2 => ih p q hp hpq (by omega)) (fun q hq hqe => by omega)
theorem SoOn.pair {D : List Int} (h : SoOn key D 0 D.length) : D.Pairwise fun x y => key x ≤ key y := by
  rw [List.pairwise_iff_getElem]
  intro i j hi hj hij
  have := h i j (by omega) hij hj
  rwa [getD_at hi, getD_at hj] at this
end Go.Proofs.Ytoeppobpnhlebaa

namespace Go.Proofs.Ytoeppobpnhlebaa
open Go Go.RowKit
set_option linter.unusedVariables false
def c_sn_later : ACode := .seq (.ops [⟨(some 6), .mv (.av (.val (.bool false))), none, true⟩])
 (.seq (.seq (.ops [⟨(some 17), .call (.av (.func 13 [])) [], none, true⟩,
 ⟨(some 18), .un .not (.tmp 17), none, true⟩])
 (.cond (.tmp 18)
 (.seq (.ops [⟨(some 6), .mv (.av (.val (.bool false))), none, true⟩])
 (.ret))
 (.skip)))
 (.seq (.ops [⟨(some 19), .mv (.tmp 0), none, true⟩,
 ⟨(some 20), .mv (.tmp 0), none, true⟩,
 ⟨(some 21), .len (.tmp 20), none, true⟩,
 ⟨(some 22), .minmax false (.tmp 21) [(.av (.val (.int .i64 40)))], none, true⟩,
 ⟨(some 23), .slice 2 (.tmp 19) none (some (.tmp 22)) none, none, true⟩,
 ⟨(some 0), .mv (.tmp 23), none, true⟩])
 (.seq (.ops [⟨(some 24), .mv (.tmp 1), none, true⟩,
 ⟨(some 25), .call (.av (.func 14 [])) [(.tmp 24), (.av (.val (.int .i64 10)))], none, true⟩,
 ⟨(some 7), .mv (.tmp 25), none, true⟩])
 (.seq (.ops [⟨(some 8), .mv (.av (.val (.slice none 0 0))), none, true⟩])
 (.seq (.seq (.ops [⟨(some 26), .mv (.tmp 0), none, true⟩,
 ⟨(some 27), .len (.tmp 26), none, true⟩,
 ⟨(some 28), .mv (.av (.val (.int .i64 0))), none, true⟩])
 (rangeCode 0 1 29 28 27 59
 (.seq (.ops [⟨(some 30), .indexAddr 2 (.tmp 26) (.tmp 28), none, true⟩,
 ⟨(some 31), .load (some 2) (.tmp 30), none, true⟩,
 ⟨(some 10), .zero [(.val (.int .i64 0)), (.val (.int .i64 0))], none, true⟩,
 ⟨none, .store 2 (.tmp 10) (.tmp 31), none, true⟩])
 (.seq (.seq (.ops [⟨(some 32), .fieldAddr 0 (.tmp 10), none, true⟩,
 ⟨(some 33), .load none (.tmp 32), none, true⟩,
 ⟨(some 34), .bin .gtr (.tmp 33) (.av (.val (.int .i64 1099511627776))), none, true⟩,
 ⟨(some 35), .mv (.tmp 34), none, true⟩,
 ⟨(some 36), .fieldAddr 1 (.tmp 10), (some (35, false)), true⟩,
 ⟨(some 37), .load none (.tmp 36), (some (35, false)), true⟩,
 ⟨(some 38), .bin .gtr (.tmp 37) (.av (.val (.int .i64 1099511627776))), (some (35, false)), true⟩,
 ⟨(some 39), .pick (.tmp 35) (.av (.val (.bool true))) (.tmp 38), none, true⟩])
 (.cond (.tmp 39)
 (.seq (.ops [⟨(some 40), .call (.av (.func 13 [])) [], none, true⟩,
 ⟨(some 6), .mv (.tmp 40), none, true⟩])
 (.ret))
 (.skip)))
 (.seq (.seq (.ops [⟨(some 41), .load (some 2) (.tmp 10), none, true⟩,
 ⟨(some 42), .call (.av (.func 17 [])) [(.tmp 41)], none, true⟩])
 (.cond (.tmp 42)
 (.opsD [⟨(some 43), .fieldAddr 0 (.tmp 10), none, true⟩,
 ⟨(some 44), .load none (.tmp 43), none, false⟩,
 ⟨(some 45), .mv (.tmp 2), none, true⟩,
 ⟨(some 46), .call (.av (.func 14 [])) [(.tmp 45), (.av (.val (.int .i64 1000)))], none, false⟩,
 ⟨(some 47), .bin .add (.tmp 44) (.tmp 46), none, true⟩,
 ⟨(some 48), .fieldAddr 1 (.tmp 10), none, true⟩,
 ⟨(some 49), .load none (.tmp 48), none, false⟩,
 ⟨(some 50), .mv (.tmp 2), none, true⟩,
 ⟨(some 51), .call (.av (.func 14 [])) [(.tmp 50), (.av (.val (.int .i64 1000)))], none, false⟩,
 ⟨(some 52), .bin .add (.tmp 49) (.tmp 51), none, true⟩,
 ⟨(some 53), .fieldAddr 0 (.tmp 10), none, true⟩,
 ⟨none, .store 1 (.tmp 53) (.tmp 47), none, true⟩,
 ⟨(some 54), .fieldAddr 1 (.tmp 10), none, true⟩,
 ⟨none, .store 1 (.tmp 54) (.tmp 52), none, true⟩])
 (.skip)))
 (.ops [⟨(some 55), .mv (.tmp 8), none, true⟩,
 ⟨(some 56), .load (some 2) (.tmp 10), none, true⟩,
 ⟨(some 57), .lits 2 1 [(.val (.int .i64 0)), (.val (.int .i64 0))] [(0, 2, (.tmp 56))], none, true⟩,
 ⟨(some 58), .append 2 16 (.tmp 55) (.tmp 57), none, true⟩,
 ⟨(some 8), .mv (.tmp 58), none, true⟩]))))))
 (.seq (.ops [⟨(some 61), .mv (.tmp 0), none, true⟩,
 ⟨(some 62), .mv (.tmp 7), none, true⟩,
 ⟨(some 63), .call (.av (.func 16 [])) [(.tmp 61), (.tmp 62)], none, true⟩,
 ⟨(some 60), .mv (.tmp 63), none, true⟩,
 ⟨(some 64), .extract 0 (.tmp 60), none, true⟩,
 ⟨(some 65), .extract 1 (.tmp 60), none, true⟩,
 ⟨(some 66), .extract 2 (.tmp 60), none, true⟩,
 ⟨(some 11), .mv (.tmp 64), none, true⟩,
 ⟨(some 12), .mv (.tmp 65), none, true⟩,
 ⟨(some 13), .mv (.tmp 66), none, true⟩])
 (.seq (.ops [⟨(some 68), .mv (.tmp 8), none, true⟩,
 ⟨(some 69), .mv (.tmp 7), none, true⟩,
 ⟨(some 70), .call (.av (.func 16 [])) [(.tmp 68), (.tmp 69)], none, true⟩,
 ⟨(some 67), .mv (.tmp 70), none, true⟩,
 ⟨(some 71), .extract 0 (.tmp 67), none, true⟩,
 ⟨(some 72), .extract 1 (.tmp 67), none, true⟩,
 ⟨(some 73), .extract 2 (.tmp 67), none, true⟩,
 ⟨(some 14), .mv (.tmp 71), none, true⟩,
 ⟨(some 15), .mv (.tmp 72), none, true⟩,
 ⟨(some 16), .mv (.tmp 73), none, true⟩])
 (.seq (.ops [⟨(some 74), .call (.av (.func 13 [])) [], none, true⟩,
 ⟨(some 75), .mv (.tmp 74), none, true⟩,
 ⟨(some 76), .mv (.tmp 13), (some (75, true)), true⟩,
 ⟨(some 77), .bin .eql (.tmp 76) (.av (.val (.int .i64 0))), (some (75, true)), true⟩,
 ⟨(some 78), .pick (.tmp 75) (.tmp 77) (.av (.val (.bool false))), none, true⟩,
 ⟨(some 79), .mv (.tmp 78), none, true⟩,
 ⟨(some 80), .mv (.tmp 16), (some (79, true)), true⟩,
 ⟨(some 81), .bin .eql (.tmp 80) (.av (.val (.int .i64 0))), (some (79, true)), true⟩,
 ⟨(some 82), .pick (.tmp 79) (.tmp 81) (.av (.val (.bool false))), none, true⟩,
 ⟨(some 83), .mv (.tmp 82), none, true⟩,
 ⟨(some 84), .mv (.tmp 12), (some (83, true)), true⟩,
 ⟨(some 85), .mv (.tmp 15), (some (83, true)), true⟩,
 ⟨(some 86), .bin .eql (.tmp 84) (.tmp 85), (some (83, true)), true⟩,
 ⟨(some 87), .pick (.tmp 83) (.tmp 86) (.av (.val (.bool false))), none, true⟩,
 ⟨(some 88), .mv (.tmp 87), none, true⟩,
 ⟨(some 89), .mv (.tmp 11), (some (88, true)), true⟩,
 ⟨(some 90), .mv (.tmp 14), (some (88, true)), true⟩,
 ⟨(some 91), .call (.av (.func 18 [])) [(.tmp 89), (.tmp 90)], (some (88, true)), true⟩,
 ⟨(some 92), .pick (.tmp 88) (.tmp 91) (.av (.val (.bool false))), none, true⟩,
 ⟨(some 6), .mv (.tmp 92), none, true⟩])
 (.ret)))))))))
theorem f_sn_later : cFunc Try.prog 6 = some ⟨93, c_sn_later, [.tmp 6]⟩ := by kernel_rfl
def c_sn_assign : ACode := .seq (.ops [⟨(some 2), .box 1 (.tmp 0), none, true⟩,
 ⟨(some 4), .mv (.av (.val (.slice none 0 0))), none, true⟩,
 ⟨(some 5), .mv (.av (.val (.int .i64 0))), none, true⟩,
 ⟨(some 6), .mv (.av (.val (.int .i64 0))), none, true⟩])
 (.seq (.block 0 (.seq (.ops [⟨(some 16), .load none (.tmp 2), none, true⟩,
 ⟨(some 17), .len (.tmp 16), none, true⟩,
 ⟨(some 18), .bin .gtr (.tmp 17) (.av (.val (.int .i64 300))), none, true⟩,
 ⟨(some 15), .mv (.tmp 18), none, true⟩])
 (.cond (.tmp 15)
 (.seq (.ops [⟨(some 4), .mv (.av (.val (.slice none 0 0))), none, true⟩,
 ⟨(some 5), .mv (.av (.val (.int .i64 0))), none, true⟩,
 ⟨(some 6), .mv (.av (.val (.int .i64 2))), none, true⟩])
 (.ret))
 (.seq (.ops [⟨(some 20), .mv (.tmp 1), none, true⟩,
 ⟨(some 21), .bin .lss (.tmp 20) (.av (.val (.int .i64 0))), none, true⟩,
 ⟨(some 22), .mv (.tmp 21), none, true⟩,
 ⟨(some 23), .mv (.tmp 1), (some (22, false)), true⟩,
 ⟨(some 24), .bin .gtr (.tmp 23) (.av (.val (.int .i64 60))), (some (22, false)), true⟩,
 ⟨(some 25), .pick (.tmp 22) (.av (.val (.bool true))) (.tmp 24), none, true⟩,
 ⟨(some 19), .mv (.tmp 25), none, true⟩])
 (.cond (.tmp 19)
 (.seq (.ops [⟨(some 4), .mv (.av (.val (.slice none 0 0))), none, true⟩,
 ⟨(some 5), .mv (.av (.val (.int .i64 0))), none, true⟩,
 ⟨(some 6), .mv (.av (.val (.int .i64 1))), none, true⟩])
 (.ret))
 (.skip))))))
 (.seq (.opsD [⟨(some 26), .load none (.tmp 2), none, false⟩,
 ⟨(some 27), .build [(.val (.int .i64 0)), (.val (.int .i64 0))] [(0, 1, (.av (.val (.int .i64 (-1))))), (1, 1, (.av (.val (.int .i64 (-1)))))], none, true⟩,
 ⟨(some 28), .lits 2 1 [(.val (.int .i64 0)), (.val (.int .i64 0))] [(0, 2, (.tmp 27))], none, true⟩,
 ⟨(some 29), .load none (.tmp 2), none, true⟩,
 ⟨(some 30), .len (.tmp 29), none, true⟩,
 ⟨(some 31), .call (.av (.func 27 [])) [(.tmp 28), (.tmp 30)], none, false⟩,
 ⟨(some 32), .build [(.val (.slice none 0 0)), (.val (.slice none 0 0)), (.val (.slice none 0 0))] [(0, 1, (.tmp 26)), (1, 1, (.tmp 31))], none, true⟩,
 ⟨(some 33), .box 3 (.tmp 32), none, true⟩,
 ⟨(some 7), .mv (.tmp 33), none, true⟩])
 (.seq (.seq (.ops [⟨(some 34), .load none (.tmp 2), none, true⟩,
 ⟨(some 35), .len (.tmp 34), none, true⟩,
 ⟨(some 36), .mv (.av (.val (.int .i64 0))), none, true⟩])
 (rangeCode 1 2 37 36 35 53
 (.seq (.ops [⟨(some 38), .mv (.tmp 36), none, true⟩,
 ⟨(some 39), .indexAddr 2 (.tmp 34) (.tmp 36), none, true⟩,
 ⟨(some 40), .load (some 2) (.tmp 39), none, true⟩,
 ⟨(some 9), .zero [(.val (.int .i64 0)), (.val (.int .i64 0))], none, true⟩,
 ⟨(some 8), .mv (.tmp 38), none, true⟩,
 ⟨none, .store 2 (.tmp 9) (.tmp 40), none, true⟩])
 (.seq (.ops [⟨(some 41), .load (some 2) (.tmp 9), none, true⟩,
 ⟨(some 42), .call (.av (.func 28 [])) [(.tmp 41)], none, true⟩])
 (.cond (.tmp 42)
 (.ops [⟨(some 43), .mv (.tmp 7), none, true⟩,
 ⟨(some 44), .mv (.tmp 7), none, true⟩,
 ⟨(some 45), .nilCheck (.tmp 44), none, true⟩,
 ⟨(some 46), .fieldAddr 2 (.tmp 45), none, true⟩,
 ⟨(some 47), .load none (.tmp 46), none, true⟩,
 ⟨(some 48), .mv (.tmp 8), none, true⟩,
 ⟨(some 49), .lits 1 1 [(.val (.int .i64 0))] [(0, 1, (.tmp 48))], none, true⟩,
 ⟨(some 50), .append 1 8 (.tmp 47) (.tmp 49), none, true⟩,
 ⟨(some 51), .nilCheck (.tmp 43), none, true⟩,
 ⟨(some 52), .fieldAddr 2 (.tmp 51), none, true⟩,
 ⟨none, .store 1 (.tmp 52) (.tmp 50), none, true⟩])
 (.skip))))))
 (.seq (.ops [⟨(some 54), .mv (.tmp 7), none, true⟩,
 ⟨(some 55), .nilCheck (.tmp 54), none, true⟩,
 ⟨(some 56), .fieldAddr 2 (.tmp 55), none, true⟩,
 ⟨(some 57), .load none (.tmp 56), none, true⟩,
 ⟨(some 58), .func 30 [(.tmp 2)], none, true⟩,
 ⟨(some 59), .call (.av (.func 29 [])) [(.tmp 57), (.tmp 58)], none, true⟩])
 (.seq (.seq (.ops [⟨(some 60), .mv (.tmp 7), none, true⟩,
 ⟨(some 61), .nilCheck (.tmp 60), none, true⟩,
 ⟨(some 62), .fieldAddr 2 (.tmp 61), none, true⟩,
 ⟨(some 63), .load none (.tmp 62), none, true⟩,
 ⟨(some 64), .len (.tmp 63), none, true⟩,
 ⟨(some 65), .mv (.av (.val (.int .i64 0))), none, true⟩])
 (rangeCode 3 4 66 65 64 73
 (.seq (.ops [⟨(some 67), .indexAddr 1 (.tmp 63) (.tmp 65), none, true⟩,
 ⟨(some 68), .load none (.tmp 67), none, true⟩,
 ⟨(some 11), .mv (.tmp 68), none, true⟩])
 (.ops [⟨(some 69), .mv (.tmp 7), none, true⟩,
 ⟨(some 70), .mv (.tmp 11), none, true⟩,
 ⟨(some 71), .mv (.tmp 1), none, true⟩,
 ⟨(some 72), .call (.av (.func 32 [])) [(.tmp 69), (.tmp 70), (.tmp 71)], none, true⟩]))))
 (.seq (.ops [⟨(some 12), .mv (.av (.val (.int .i64 0))), none, true⟩])
 (.seq (.seq (.ops [⟨(some 74), .mv (.tmp 7), none, true⟩,
 ⟨(some 75), .nilCheck (.tmp 74), none, true⟩,
 ⟨(some 76), .fieldAddr 2 (.tmp 75), none, true⟩,
 ⟨(some 77), .load none (.tmp 76), none, true⟩,
 ⟨(some 78), .len (.tmp 77), none, true⟩,
 ⟨(some 79), .mv (.av (.val (.int .i64 0))), none, true⟩])
 (rangeCode 5 6 80 79 78 114
 (.seq (.ops [⟨(some 81), .indexAddr 1 (.tmp 77) (.tmp 79), none, true⟩,
 ⟨(some 82), .load none (.tmp 81), none, true⟩,
 ⟨(some 14), .mv (.tmp 82), none, true⟩])
 (.seq (.ops [⟨(some 83), .mv (.tmp 7), none, true⟩,
 ⟨(some 84), .nilCheck (.tmp 83), none, true⟩,
 ⟨(some 85), .fieldAddr 1 (.tmp 84), none, true⟩,
 ⟨(some 86), .load none (.tmp 85), none, true⟩,
 ⟨(some 87), .mv (.tmp 14), none, true⟩,
 ⟨(some 88), .indexAddr 2 (.tmp 86) (.tmp 87), none, true⟩,
 ⟨(some 89), .fieldAddr 0 (.tmp 88), none, true⟩,
 ⟨(some 90), .load none (.tmp 89), none, true⟩,
 ⟨(some 91), .bin .lss (.tmp 90) (.av (.val (.int .i64 0))), none, true⟩])
 (.cond (.tmp 91)
 (.seq (.opsD [⟨(some 92), .mv (.tmp 7), none, true⟩,
 ⟨(some 93), .nilCheck (.tmp 92), none, true⟩,
 ⟨(some 94), .fieldAddr 1 (.tmp 93), none, true⟩,
 ⟨(some 95), .load none (.tmp 94), none, false⟩,
 ⟨(some 96), .mv (.tmp 14), none, true⟩,
 ⟨(some 97), .mv (.tmp 7), none, true⟩,
 ⟨(some 98), .mv (.tmp 14), none, true⟩,
 ⟨(some 99), .call (.av (.func 34 [])) [(.tmp 97), (.tmp 98), (.av (.func 35 []))], none, false⟩,
 ⟨(some 100), .call (.av (.func 33 [])) [(.tmp 99)], none, false⟩,
 ⟨(some 101), .indexAddr 2 (.tmp 95) (.tmp 96), none, true⟩,
 ⟨(some 102), .fieldAddr 1 (.tmp 101), none, true⟩,
 ⟨none, .store 1 (.tmp 102) (.tmp 100), none, true⟩])
 (.ops [⟨(some 103), .mv (.tmp 12), none, true⟩,
 ⟨(some 104), .mv (.tmp 7), none, true⟩,
 ⟨(some 105), .nilCheck (.tmp 104), none, true⟩,
 ⟨(some 106), .fieldAddr 1 (.tmp 105), none, true⟩,
 ⟨(some 107), .load none (.tmp 106), none, true⟩,
 ⟨(some 108), .mv (.tmp 14), none, true⟩,
 ⟨(some 109), .indexAddr 2 (.tmp 107) (.tmp 108), none, true⟩,
 ⟨(some 110), .fieldAddr 1 (.tmp 109), none, true⟩,
 ⟨(some 111), .load none (.tmp 110), none, true⟩,
 ⟨(some 112), .bin .add (.tmp 111) (.av (.val (.int .i64 1))), none, true⟩,
 ⟨(some 113), .minmax true (.tmp 103) [(.tmp 112)], none, true⟩,
 ⟨(some 12), .mv (.tmp 113), none, true⟩]))
 (.skip))))))
 (.seq (.ops [⟨(some 115), .mv (.tmp 7), none, true⟩,
 ⟨(some 116), .nilCheck (.tmp 115), none, true⟩,
 ⟨(some 117), .fieldAddr 1 (.tmp 116), none, true⟩,
 ⟨(some 118), .load none (.tmp 117), none, true⟩,
 ⟨(some 119), .mv (.tmp 12), none, true⟩,
 ⟨(some 4), .mv (.tmp 118), none, true⟩,
 ⟨(some 5), .mv (.tmp 119), none, true⟩,
 ⟨(some 6), .mv (.av (.val (.int .i64 0))), none, true⟩])
 (.ret)))))))))
theorem f_sn_assign : cFunc Try.prog 16 = some ⟨120, c_sn_assign, [.tmp 4, .tmp 5, .tmp 6]⟩ := by kernel_rfl
def c_sn_rcounts : ACode := .seq (.ops [⟨(some 1), .box 2 (.tmp 0), none, true⟩,
 ⟨(some 2), .mv (.av (.val (.bool false))), none, true⟩])
 (.seq (.ops [⟨(some 3), .fieldAddr 0 (.tmp 1), none, true⟩,
 ⟨(some 4), .load none (.tmp 3), none, true⟩,
 ⟨(some 5), .bin .geq (.tmp 4) (.av (.val (.int .i64 0))), none, true⟩,
 ⟨(some 6), .mv (.tmp 5), none, true⟩,
 ⟨(some 7), .fieldAddr 0 (.tmp 1), (some (6, true)), true⟩,
 ⟨(some 8), .load none (.tmp 7), (some (6, true)), true⟩,
 ⟨(some 9), .fieldAddr 1 (.tmp 1), (some (6, true)), true⟩,
 ⟨(some 10), .load none (.tmp 9), (some (6, true)), true⟩,
 ⟨(some 11), .bin .lss (.tmp 8) (.tmp 10), (some (6, true)), true⟩,
 ⟨(some 12), .pick (.tmp 6) (.tmp 11) (.av (.val (.bool false))), none, true⟩,
 ⟨(some 2), .mv (.tmp 12), none, true⟩])
 (.ret))
theorem f_sn_rcounts : cFunc Try.prog 17 = some ⟨13, c_sn_rcounts, [.tmp 2]⟩ := by kernel_rfl
def c_sn_eqplace : ACode := .seq (.ops [⟨(some 4), .mv (.av (.val (.bool false))), none, true⟩])
 (.seq (.seq (.ops [⟨(some 7), .mv (.tmp 0), none, true⟩,
 ⟨(some 8), .len (.tmp 7), none, true⟩,
 ⟨(some 9), .mv (.tmp 1), none, true⟩,
 ⟨(some 10), .len (.tmp 9), none, true⟩,
 ⟨(some 11), .bin .neq (.tmp 8) (.tmp 10), none, true⟩])
 (.cond (.tmp 11)
 (.seq (.ops [⟨(some 4), .mv (.av (.val (.bool false))), none, true⟩])
 (.ret))
 (.skip)))
 (.seq (.seq (.ops [⟨(some 12), .mv (.tmp 0), none, true⟩,
 ⟨(some 13), .len (.tmp 12), none, true⟩,
 ⟨(some 14), .mv (.av (.val (.int .i64 0))), none, true⟩])
 (rangeCode 0 1 15 14 13 25
 (.seq (.ops [⟨(some 16), .mv (.tmp 14), none, true⟩,
 ⟨(some 17), .indexAddr 2 (.tmp 12) (.tmp 14), none, true⟩,
 ⟨(some 18), .load (some 2) (.tmp 17), none, true⟩,
 ⟨(some 6), .zero [(.val (.int .i64 0)), (.val (.int .i64 0))], none, true⟩,
 ⟨(some 5), .mv (.tmp 16), none, true⟩,
 ⟨none, .store 2 (.tmp 6) (.tmp 18), none, true⟩])
 (.seq (.opsD [⟨(some 19), .load (some 2) (.tmp 6), none, true⟩,
 ⟨(some 20), .mv (.tmp 1), none, true⟩,
 ⟨(some 21), .mv (.tmp 5), none, true⟩,
 ⟨(some 22), .indexAddr 2 (.tmp 20) (.tmp 21), none, true⟩,
 ⟨(some 23), .load (some 2) (.tmp 22), none, true⟩,
 ⟨(some 24), .eqAgg true [0, 0] (.tmp 19) (.tmp 23), none, true⟩])
 (.cond (.tmp 24)
 (.seq (.ops [⟨(some 4), .mv (.av (.val (.bool false))), none, true⟩])
 (.ret))
 (.skip))))))
 (.seq (.ops [⟨(some 4), .mv (.av (.val (.bool true))), none, true⟩])
 (.ret))))
theorem f_sn_eqplace : cFunc Try.prog 18 = some ⟨26, c_sn_eqplace, [.tmp 4]⟩ := by kernel_rfl
def c_sn_counts : ACode := .seq (.ops [⟨(some 1), .box 2 (.tmp 0), none, true⟩,
 ⟨(some 2), .mv (.av (.val (.bool false))), none, true⟩])
 (.seq (.ops [⟨(some 3), .fieldAddr 0 (.tmp 1), none, true⟩,
 ⟨(some 4), .load none (.tmp 3), none, true⟩,
 ⟨(some 5), .bin .geq (.tmp 4) (.av (.val (.int .i64 0))), none, true⟩,
 ⟨(some 6), .mv (.tmp 5), none, true⟩,
 ⟨(some 7), .fieldAddr 0 (.tmp 1), (some (6, true)), true⟩,
 ⟨(some 8), .load none (.tmp 7), (some (6, true)), true⟩,
 ⟨(some 9), .fieldAddr 1 (.tmp 1), (some (6, true)), true⟩,
 ⟨(some 10), .load none (.tmp 9), (some (6, true)), true⟩,
 ⟨(some 11), .bin .lss (.tmp 8) (.tmp 10), (some (6, true)), true⟩,
 ⟨(some 12), .pick (.tmp 6) (.tmp 11) (.av (.val (.bool false))), none, true⟩,
 ⟨(some 2), .mv (.tmp 12), none, true⟩])
 (.ret))
theorem f_sn_counts : cFunc Try.prog 28 = some ⟨13, c_sn_counts, [.tmp 2]⟩ := by kernel_rfl
def c_sn_sort : ACode := .ops [⟨(some 4), .mv (.tmp 0), none, true⟩,
 ⟨(some 5), .mv (.tmp 0), none, true⟩,
 ⟨(some 6), .len (.tmp 5), none, true⟩,
 ⟨(some 7), .mv (.tmp 1), none, true⟩,
 ⟨(some 8), .call (.av (.func 45 [])) [(.tmp 4), (.tmp 6), (.tmp 7)], none, true⟩]
theorem f_sn_sort : cFunc Try.prog 29 = some ⟨9, c_sn_sort, []⟩ := by kernel_rfl
def c_sn_assigna : ACode := .seq (.ops [⟨(some 5), .mv (.av (.val (.int .i64 0))), none, true⟩])
 (.seq (.opsD [⟨(some 6), .load none (.tmp 2), none, true⟩,
 ⟨(some 7), .mv (.tmp 0), none, true⟩,
 ⟨(some 8), .indexAddr 2 (.tmp 6) (.tmp 7), none, true⟩,
 ⟨(some 9), .fieldAddr 0 (.tmp 8), none, true⟩,
 ⟨(some 10), .load none (.tmp 9), none, true⟩,
 ⟨(some 11), .load none (.tmp 2), none, true⟩,
 ⟨(some 12), .mv (.tmp 1), none, true⟩,
 ⟨(some 13), .indexAddr 2 (.tmp 11) (.tmp 12), none, true⟩,
 ⟨(some 14), .fieldAddr 0 (.tmp 13), none, true⟩,
 ⟨(some 15), .load none (.tmp 14), none, true⟩,
 ⟨(some 16), .call (.av (.func 31 [])) [(.tmp 10), (.tmp 15)], none, true⟩,
 ⟨(some 5), .mv (.tmp 16), none, true⟩])
 (.ret))
theorem f_sn_assigna : cFunc Try.prog 30 = some ⟨17, c_sn_assigna, [.tmp 5]⟩ := by kernel_rfl
def c_sn_cmp : ACode := .seq (.ops [⟨(some 4), .mv (.av (.val (.int .i64 0))), none, true⟩])
 (.seq (.ops [⟨(some 7), .mv (.tmp 0), none, true⟩,
 ⟨(some 8), .call (.av (.func 46 [])) [(.tmp 7)], none, true⟩,
 ⟨(some 5), .mv (.tmp 8), none, true⟩])
 (.seq (.ops [⟨(some 9), .mv (.tmp 1), none, true⟩,
 ⟨(some 10), .call (.av (.func 46 [])) [(.tmp 9)], none, true⟩,
 ⟨(some 6), .mv (.tmp 10), none, true⟩])
 (.seq (.seq (.ops [⟨(some 11), .mv (.tmp 5), none, true⟩])
 (.cond (.tmp 11)
 (.seq (.seq (.ops [⟨(some 12), .mv (.tmp 6), none, true⟩])
 (.cond (.tmp 12)
 (.seq (.ops [⟨(some 4), .mv (.av (.val (.int .i64 0))), none, true⟩])
 (.ret))
 (.skip)))
 (.seq (.ops [⟨(some 4), .mv (.av (.val (.int .i64 (-1)))), none, true⟩])
 (.ret)))
 (.skip)))
 (.seq (.seq (.ops [⟨(some 13), .mv (.tmp 6), none, true⟩])
 (.cond (.tmp 13)
 (.seq (.ops [⟨(some 4), .mv (.av (.val (.int .i64 1))), none, true⟩])
 (.ret))
 (.skip)))
 (.seq (.seq (.ops [⟨(some 14), .mv (.tmp 0), none, true⟩,
 ⟨(some 15), .mv (.tmp 1), none, true⟩,
 ⟨(some 16), .bin .lss (.tmp 14) (.tmp 15), none, true⟩])
 (.cond (.tmp 16)
 (.seq (.ops [⟨(some 4), .mv (.av (.val (.int .i64 (-1)))), none, true⟩])
 (.ret))
 (.skip)))
 (.seq (.seq (.ops [⟨(some 17), .mv (.tmp 0), none, true⟩,
 ⟨(some 18), .mv (.tmp 1), none, true⟩,
 ⟨(some 19), .bin .gtr (.tmp 17) (.tmp 18), none, true⟩])
 (.cond (.tmp 19)
 (.seq (.ops [⟨(some 4), .mv (.av (.val (.int .i64 1))), none, true⟩])
 (.ret))
 (.skip)))
 (.seq (.ops [⟨(some 4), .mv (.av (.val (.int .i64 0))), none, true⟩])
 (.ret))))))))
theorem f_sn_cmp : cFunc Try.prog 31 = some ⟨20, c_sn_cmp, [.tmp 4]⟩ := by kernel_rfl
def c_sn_take : ACode := .seq (.seq (.ops [⟨(some 8), .mv (.tmp 0), none, true⟩,
 ⟨(some 9), .mv (.tmp 1), none, true⟩,
 ⟨(some 10), .call (.av (.func 34 [])) [(.tmp 8), (.tmp 9), (.av (.func 47 []))], none, true⟩,
 ⟨(some 11), .call (.av (.func 33 [])) [(.tmp 10)], none, true⟩,
 ⟨(some 6), .mv (.tmp 11), none, true⟩])
 (.seq (.ops [⟨(some 12), .mv (.tmp 6), none, true⟩,
 ⟨(some 13), .mv (.tmp 2), none, true⟩,
 ⟨(some 14), .bin .lss (.tmp 12) (.tmp 13), none, true⟩])
 (.cond (.tmp 14)
 (.seq (.ops [⟨(some 15), .mv (.tmp 0), none, true⟩,
 ⟨(some 16), .nilCheck (.tmp 15), none, true⟩,
 ⟨(some 17), .fieldAddr 1 (.tmp 16), none, true⟩,
 ⟨(some 18), .load none (.tmp 17), none, true⟩,
 ⟨(some 19), .mv (.tmp 1), none, true⟩,
 ⟨(some 20), .mv (.tmp 6), none, true⟩,
 ⟨(some 21), .indexAddr 2 (.tmp 18) (.tmp 19), none, true⟩,
 ⟨(some 22), .fieldAddr 0 (.tmp 21), none, true⟩,
 ⟨none, .store 1 (.tmp 22) (.tmp 20), none, true⟩])
 (.ret))
 (.skip))))
 (.seq (.ops [⟨(some 23), .mv (.tmp 0), none, true⟩,
 ⟨(some 24), .mv (.tmp 1), none, true⟩,
 ⟨(some 25), .call (.av (.func 48 [])) [(.tmp 23), (.tmp 24)], none, true⟩,
 ⟨(some 7), .mv (.tmp 25), none, true⟩])
 (.seq (.ops [⟨(some 26), .mv (.tmp 7), none, true⟩,
 ⟨(some 27), .mv (.tmp 1), none, true⟩,
 ⟨(some 28), .bin .neq (.tmp 26) (.tmp 27), none, true⟩])
 (.cond (.tmp 28)
 (.opsD [⟨(some 29), .mv (.tmp 0), none, true⟩,
 ⟨(some 30), .nilCheck (.tmp 29), none, true⟩,
 ⟨(some 31), .fieldAddr 1 (.tmp 30), none, true⟩,
 ⟨(some 32), .load none (.tmp 31), none, true⟩,
 ⟨(some 33), .mv (.tmp 1), none, true⟩,
 ⟨(some 34), .mv (.tmp 0), none, true⟩,
 ⟨(some 35), .nilCheck (.tmp 34), none, true⟩,
 ⟨(some 36), .fieldAddr 1 (.tmp 35), none, true⟩,
 ⟨(some 37), .load none (.tmp 36), none, true⟩,
 ⟨(some 38), .mv (.tmp 7), none, true⟩,
 ⟨(some 39), .mv (.tmp 0), none, true⟩,
 ⟨(some 40), .nilCheck (.tmp 39), none, true⟩,
 ⟨(some 41), .fieldAddr 1 (.tmp 40), none, true⟩,
 ⟨(some 42), .load none (.tmp 41), none, true⟩,
 ⟨(some 43), .mv (.tmp 7), none, true⟩,
 ⟨(some 44), .indexAddr 2 (.tmp 42) (.tmp 43), none, true⟩,
 ⟨(some 45), .fieldAddr 0 (.tmp 44), none, true⟩,
 ⟨(some 46), .load none (.tmp 45), none, true⟩,
 ⟨(some 47), .indexAddr 2 (.tmp 32) (.tmp 33), none, true⟩,
 ⟨(some 48), .fieldAddr 0 (.tmp 47), none, true⟩,
 ⟨none, .store 1 (.tmp 48) (.tmp 46), none, true⟩,
 ⟨(some 49), .indexAddr 2 (.tmp 37) (.tmp 38), none, true⟩,
 ⟨(some 50), .fieldAddr 0 (.tmp 49), none, true⟩,
 ⟨none, .store 1 (.tmp 50) (.av (.val (.int .i64 (-1)))), none, true⟩])
 (.skip))))
theorem f_sn_take : cFunc Try.prog 32 = some ⟨51, c_sn_take, []⟩ := by kernel_rfl
def c_sn_least : ACode := .seq (.ops [⟨(some 2), .mv (.av (.val (.int .i64 0))), none, true⟩])
 (.seq (.ops [⟨(some 3), .mv (.av (.val (.int .i64 0))), none, true⟩])
 (.block 0 (.loop (.seq (.block 1 (.seq (.ops [⟨(some 9), .mv (.tmp 0), none, true⟩,
 ⟨(some 10), .mv (.tmp 3), none, true⟩,
 ⟨(some 11), .mapGet true (.agg []) (.tmp 9) (.tmp 10), none, true⟩,
 ⟨(some 8), .mv (.tmp 11), none, true⟩,
 ⟨(some 12), .extract 0 (.tmp 8), none, true⟩,
 ⟨(some 13), .extract 1 (.tmp 8), none, true⟩,
 ⟨(some 4), .zero [], none, true⟩,
 ⟨none, .store 0 (.tmp 4) (.tmp 12), none, true⟩,
 ⟨(some 5), .mv (.tmp 13), none, true⟩])
 (.seq (.ops [⟨(some 14), .mv (.tmp 5), none, true⟩,
 ⟨(some 15), .un .not (.tmp 14), none, true⟩])
 (.cond (.tmp 15)
 (.seq (.ops [⟨(some 16), .mv (.tmp 3), none, true⟩,
 ⟨(some 2), .mv (.tmp 16), none, true⟩])
 (.ret))
 (.skip)))))
 (.ops [⟨(some 6), .mv (.tmp 3), none, true⟩,
 ⟨(some 7), .bin .add (.tmp 6) (.av (.val (.int .i64 1))), none, true⟩,
 ⟨(some 3), .mv (.tmp 7), none, true⟩])))))
theorem f_sn_least : cFunc Try.prog 33 = some ⟨17, c_sn_least, [.tmp 2]⟩ := by kernel_rfl
def c_sn_busy : ACode := .seq (.ops [⟨(some 6), .mv (.av (.val (.map none))), none, true⟩])
 (.seq (.ops [⟨(some 11), .mkMap, none, true⟩,
 ⟨(some 7), .mv (.tmp 11), none, true⟩])
 (.seq (.seq (.ops [⟨(some 12), .mv (.tmp 0), none, true⟩,
 ⟨(some 13), .nilCheck (.tmp 12), none, true⟩,
 ⟨(some 14), .fieldAddr 2 (.tmp 13), none, true⟩,
 ⟨(some 15), .load none (.tmp 14), none, true⟩,
 ⟨(some 16), .len (.tmp 15), none, true⟩,
 ⟨(some 17), .mv (.av (.val (.int .i64 0))), none, true⟩])
 (rangeCode 0 1 18 17 16 57
 (.seq (.ops [⟨(some 19), .indexAddr 1 (.tmp 15) (.tmp 17), none, true⟩,
 ⟨(some 20), .load none (.tmp 19), none, true⟩,
 ⟨(some 9), .mv (.tmp 20), none, true⟩])
 (.seq (.ops [⟨(some 21), .mv (.tmp 2), none, true⟩,
 ⟨(some 22), .mv (.tmp 0), none, true⟩,
 ⟨(some 23), .nilCheck (.tmp 22), none, true⟩,
 ⟨(some 24), .fieldAddr 1 (.tmp 23), none, true⟩,
 ⟨(some 25), .load none (.tmp 24), none, true⟩,
 ⟨(some 26), .mv (.tmp 9), none, true⟩,
 ⟨(some 27), .indexAddr 2 (.tmp 25) (.tmp 26), none, true⟩,
 ⟨(some 28), .load (some 2) (.tmp 27), none, true⟩,
 ⟨(some 29), .call (.tmp 21) [(.tmp 28)], none, true⟩,
 ⟨(some 10), .mv (.tmp 29), none, true⟩])
 (.seq (.opsD [⟨(some 30), .mv (.tmp 9), none, true⟩,
 ⟨(some 31), .mv (.tmp 1), none, true⟩,
 ⟨(some 32), .bin .neq (.tmp 30) (.tmp 31), none, true⟩,
 ⟨(some 33), .mv (.tmp 32), none, true⟩,
 ⟨(some 34), .mv (.tmp 10), (some (33, true)), true⟩,
 ⟨(some 35), .bin .geq (.tmp 34) (.av (.val (.int .i64 0))), (some (33, true)), true⟩,
 ⟨(some 36), .pick (.tmp 33) (.tmp 35) (.av (.val (.bool false))), none, true⟩,
 ⟨(some 37), .mv (.tmp 36), none, true⟩,
 ⟨(some 38), .mv (.tmp 0), (some (37, true)), true⟩,
 ⟨(some 39), .nilCheck (.tmp 38), (some (37, true)), true⟩,
 ⟨(some 40), .fieldAddr 0 (.tmp 39), (some (37, true)), true⟩,
 ⟨(some 41), .load none (.tmp 40), (some (37, true)), true⟩,
 ⟨(some 42), .mv (.tmp 9), (some (37, true)), true⟩,
 ⟨(some 43), .indexAddr 2 (.tmp 41) (.tmp 42), (some (37, true)), true⟩,
 ⟨(some 44), .load (some 2) (.tmp 43), (some (37, true)), true⟩,
 ⟨(some 45), .mv (.tmp 0), (some (37, true)), true⟩,
 ⟨(some 46), .nilCheck (.tmp 45), (some (37, true)), true⟩,
 ⟨(some 47), .fieldAddr 0 (.tmp 46), (some (37, true)), true⟩,
 ⟨(some 48), .load none (.tmp 47), (some (37, true)), true⟩,
 ⟨(some 49), .mv (.tmp 1), (some (37, true)), true⟩,
 ⟨(some 50), .indexAddr 2 (.tmp 48) (.tmp 49), (some (37, true)), true⟩,
 ⟨(some 51), .load (some 2) (.tmp 50), (some (37, true)), true⟩,
 ⟨(some 52), .call (.av (.func 36 [])) [(.tmp 44), (.tmp 51)], (some (37, true)), true⟩,
 ⟨(some 53), .pick (.tmp 37) (.tmp 52) (.av (.val (.bool false))), none, true⟩])
 (.cond (.tmp 53)
 (.ops [⟨(some 54), .mv (.tmp 7), none, true⟩,
 ⟨(some 55), .mv (.tmp 10), none, true⟩,
 ⟨(some 56), .build [] [], none, true⟩,
 ⟨none, .mapSet (.tmp 54) (.tmp 55) (.tmp 56), none, true⟩])
 (.skip)))))))
 (.seq (.ops [⟨(some 58), .mv (.tmp 7), none, true⟩,
 ⟨(some 6), .mv (.tmp 58), none, true⟩])
 (.ret))))
theorem f_sn_busy : cFunc Try.prog 34 = some ⟨59, c_sn_busy, [.tmp 6]⟩ := by kernel_rfl
def c_sn_slot : ACode := .seq (.ops [⟨(some 1), .box 2 (.tmp 0), none, true⟩,
 ⟨(some 2), .mv (.av (.val (.int .i64 0))), none, true⟩])
 (.seq (.ops [⟨(some 3), .fieldAddr 1 (.tmp 1), none, true⟩,
 ⟨(some 4), .load none (.tmp 3), none, true⟩,
 ⟨(some 2), .mv (.tmp 4), none, true⟩])
 (.ret))
theorem f_sn_slot : cFunc Try.prog 35 = some ⟨5, c_sn_slot, [.tmp 2]⟩ := by kernel_rfl
def c_sn_meet : ACode := .seq (.ops [⟨(some 2), .box 2 (.tmp 0), none, true⟩,
 ⟨(some 3), .box 2 (.tmp 1), none, true⟩,
 ⟨(some 4), .mv (.av (.val (.bool false))), none, true⟩])
 (.seq (.ops [⟨(some 5), .fieldAddr 0 (.tmp 2), none, true⟩,
 ⟨(some 6), .load none (.tmp 5), none, true⟩,
 ⟨(some 7), .fieldAddr 1 (.tmp 3), none, true⟩,
 ⟨(some 8), .load none (.tmp 7), none, true⟩,
 ⟨(some 9), .bin .lss (.tmp 6) (.tmp 8), none, true⟩,
 ⟨(some 10), .mv (.tmp 9), none, true⟩,
 ⟨(some 11), .fieldAddr 0 (.tmp 3), (some (10, true)), true⟩,
 ⟨(some 12), .load none (.tmp 11), (some (10, true)), true⟩,
 ⟨(some 13), .fieldAddr 1 (.tmp 2), (some (10, true)), true⟩,
 ⟨(some 14), .load none (.tmp 13), (some (10, true)), true⟩,
 ⟨(some 15), .bin .lss (.tmp 12) (.tmp 14), (some (10, true)), true⟩,
 ⟨(some 16), .pick (.tmp 10) (.tmp 15) (.av (.val (.bool false))), none, true⟩,
 ⟨(some 4), .mv (.tmp 16), none, true⟩])
 (.ret))
theorem f_sn_meet : cFunc Try.prog 36 = some ⟨17, c_sn_meet, [.tmp 4]⟩ := by kernel_rfl
def c_sn_stable : ACode := .seq (.ops [⟨(some 6), .mv (.av (.val (.int .i64 20))), none, true⟩])
 (.seq (.ops [⟨(some 10), .mv (.tmp 6), none, true⟩,
 ⟨(some 7), .mv (.av (.val (.int .i64 0))), none, true⟩,
 ⟨(some 8), .mv (.tmp 10), none, true⟩])
 (.seq (.block 0 (.loop (.seq (.seq (.ops [⟨(some 11), .mv (.tmp 8), none, true⟩,
 ⟨(some 12), .mv (.tmp 1), none, true⟩,
 ⟨(some 13), .bin .leq (.tmp 11) (.tmp 12), none, true⟩])
 (.cond (.tmp 13)
 (.skip)
 (.exit 0)))
 (.block 1 (.seq (.ops [⟨(some 14), .mv (.tmp 0), none, true⟩,
 ⟨(some 15), .mv (.tmp 7), none, true⟩,
 ⟨(some 16), .mv (.tmp 8), none, true⟩,
 ⟨(some 17), .mv (.tmp 2), none, true⟩,
 ⟨(some 18), .call (.av (.func 58 [])) [(.tmp 14), (.tmp 15), (.tmp 16), (.tmp 17)], none, true⟩])
 (.seq (.ops [⟨(some 19), .mv (.tmp 8), none, true⟩,
 ⟨(some 7), .mv (.tmp 19), none, true⟩])
 (.ops [⟨(some 20), .mv (.tmp 8), none, true⟩,
 ⟨(some 21), .mv (.tmp 6), none, true⟩,
 ⟨(some 22), .bin .add (.tmp 20) (.tmp 21), none, true⟩,
 ⟨(some 8), .mv (.tmp 22), none, true⟩])))))))
 (.seq (.ops [⟨(some 23), .mv (.tmp 0), none, true⟩,
 ⟨(some 24), .mv (.tmp 7), none, true⟩,
 ⟨(some 25), .mv (.tmp 1), none, true⟩,
 ⟨(some 26), .mv (.tmp 2), none, true⟩,
 ⟨(some 27), .call (.av (.func 58 [])) [(.tmp 23), (.tmp 24), (.tmp 25), (.tmp 26)], none, true⟩])
 (.block 2 (.loop (.seq (.seq (.ops [⟨(some 28), .mv (.tmp 6), none, true⟩,
 ⟨(some 29), .mv (.tmp 1), none, true⟩,
 ⟨(some 30), .bin .lss (.tmp 28) (.tmp 29), none, true⟩])
 (.cond (.tmp 30)
 (.skip)
 (.exit 2)))
 (.block 3 (.seq (.ops [⟨(some 31), .mv (.tmp 6), none, true⟩,
 ⟨(some 32), .bin .mul (.av (.val (.int .i64 2))) (.tmp 31), none, true⟩,
 ⟨(some 7), .mv (.av (.val (.int .i64 0))), none, true⟩,
 ⟨(some 8), .mv (.tmp 32), none, true⟩])
 (.seq (.block 4 (.loop (.seq (.seq (.ops [⟨(some 33), .mv (.tmp 8), none, true⟩,
 ⟨(some 34), .mv (.tmp 1), none, true⟩,
 ⟨(some 35), .bin .leq (.tmp 33) (.tmp 34), none, true⟩])
 (.cond (.tmp 35)
 (.skip)
 (.exit 4)))
 (.block 5 (.seq (.ops [⟨(some 36), .mv (.tmp 0), none, true⟩,
 ⟨(some 37), .mv (.tmp 7), none, true⟩,
 ⟨(some 38), .mv (.tmp 7), none, true⟩,
 ⟨(some 39), .mv (.tmp 6), none, true⟩,
 ⟨(some 40), .bin .add (.tmp 38) (.tmp 39), none, true⟩,
 ⟨(some 41), .mv (.tmp 8), none, true⟩,
 ⟨(some 42), .mv (.tmp 2), none, true⟩,
 ⟨(some 43), .call (.av (.func 59 [])) [(.tmp 36), (.tmp 37), (.tmp 40), (.tmp 41), (.tmp 42)], none, true⟩])
 (.seq (.ops [⟨(some 44), .mv (.tmp 8), none, true⟩,
 ⟨(some 7), .mv (.tmp 44), none, true⟩])
 (.ops [⟨(some 45), .mv (.tmp 8), none, true⟩,
 ⟨(some 46), .mv (.tmp 6), none, true⟩,
 ⟨(some 47), .bin .mul (.av (.val (.int .i64 2))) (.tmp 46), none, true⟩,
 ⟨(some 48), .bin .add (.tmp 45) (.tmp 47), none, true⟩,
 ⟨(some 8), .mv (.tmp 48), none, true⟩])))))))
 (.seq (.seq (.ops [⟨(some 49), .mv (.tmp 7), none, true⟩,
 ⟨(some 50), .mv (.tmp 6), none, true⟩,
 ⟨(some 51), .bin .add (.tmp 49) (.tmp 50), none, true⟩,
 ⟨(some 9), .mv (.tmp 51), none, true⟩])
 (.seq (.ops [⟨(some 52), .mv (.tmp 9), none, true⟩,
 ⟨(some 53), .mv (.tmp 1), none, true⟩,
 ⟨(some 54), .bin .lss (.tmp 52) (.tmp 53), none, true⟩])
 (.cond (.tmp 54)
 (.ops [⟨(some 55), .mv (.tmp 0), none, true⟩,
 ⟨(some 56), .mv (.tmp 7), none, true⟩,
 ⟨(some 57), .mv (.tmp 9), none, true⟩,
 ⟨(some 58), .mv (.tmp 1), none, true⟩,
 ⟨(some 59), .mv (.tmp 2), none, true⟩,
 ⟨(some 60), .call (.av (.func 59 [])) [(.tmp 55), (.tmp 56), (.tmp 57), (.tmp 58), (.tmp 59)], none, true⟩])
 (.skip))))
 (.ops [⟨(some 61), .mv (.tmp 6), none, true⟩,
 ⟨(some 62), .bin .mul (.tmp 61) (.av (.val (.int .i64 2))), none, true⟩,
 ⟨(some 6), .mv (.tmp 62), none, true⟩])))))))))))
theorem f_sn_stable : cFunc Try.prog 45 = some ⟨63, c_sn_stable, []⟩ := by kernel_rfl
def c_sn_isnan : ACode := .seq (.ops [⟨(some 2), .mv (.av (.val (.bool false))), none, true⟩])
 (.seq (.ops [⟨(some 3), .mv (.tmp 0), none, true⟩,
 ⟨(some 4), .mv (.tmp 0), none, true⟩,
 ⟨(some 5), .bin .neq (.tmp 3) (.tmp 4), none, true⟩,
 ⟨(some 2), .mv (.tmp 5), none, true⟩])
 (.ret))
theorem f_sn_isnan : cFunc Try.prog 46 = some ⟨6, c_sn_isnan, [.tmp 2]⟩ := by kernel_rfl
def c_sn_reg : ACode := .seq (.ops [⟨(some 1), .box 2 (.tmp 0), none, true⟩,
 ⟨(some 2), .mv (.av (.val (.int .i64 0))), none, true⟩])
 (.seq (.ops [⟨(some 3), .fieldAddr 0 (.tmp 1), none, true⟩,
 ⟨(some 4), .load none (.tmp 3), none, true⟩,
 ⟨(some 2), .mv (.tmp 4), none, true⟩])
 (.ret))
theorem f_sn_reg : cFunc Try.prog 47 = some ⟨5, c_sn_reg, [.tmp 2]⟩ := by kernel_rfl
def c_sn_longest : ACode := .seq (.ops [⟨(some 4), .mv (.av (.val (.int .i64 0))), none, true⟩])
 (.seq (.ops [⟨(some 5), .mv (.av (.val (.int .i64 (-1)))), none, true⟩])
 (.seq (.seq (.ops [⟨(some 8), .mv (.tmp 0), none, true⟩,
 ⟨(some 9), .nilCheck (.tmp 8), none, true⟩,
 ⟨(some 10), .fieldAddr 2 (.tmp 9), none, true⟩,
 ⟨(some 11), .load none (.tmp 10), none, true⟩,
 ⟨(some 12), .len (.tmp 11), none, true⟩,
 ⟨(some 13), .mv (.av (.val (.int .i64 0))), none, true⟩])
 (rangeCode 0 1 14 13 12 71
 (.seq (.ops [⟨(some 15), .indexAddr 1 (.tmp 11) (.tmp 13), none, true⟩,
 ⟨(some 16), .load none (.tmp 15), none, true⟩,
 ⟨(some 7), .mv (.tmp 16), none, true⟩])
 (.seq (.seq (.opsD [⟨(some 17), .mv (.tmp 7), none, true⟩,
 ⟨(some 18), .mv (.tmp 1), none, true⟩,
 ⟨(some 19), .bin .neq (.tmp 17) (.tmp 18), none, true⟩,
 ⟨(some 20), .mv (.tmp 19), none, true⟩,
 ⟨(some 21), .mv (.tmp 0), (some (20, true)), true⟩,
 ⟨(some 22), .nilCheck (.tmp 21), (some (20, true)), true⟩,
 ⟨(some 23), .fieldAddr 1 (.tmp 22), (some (20, true)), true⟩,
 ⟨(some 24), .load none (.tmp 23), (some (20, true)), true⟩,
 ⟨(some 25), .mv (.tmp 7), (some (20, true)), true⟩,
 ⟨(some 26), .indexAddr 2 (.tmp 24) (.tmp 25), (some (20, true)), true⟩,
 ⟨(some 27), .fieldAddr 0 (.tmp 26), (some (20, true)), true⟩,
 ⟨(some 28), .load none (.tmp 27), (some (20, true)), true⟩,
 ⟨(some 29), .bin .lss (.tmp 28) (.av (.val (.int .i64 0))), (some (20, true)), true⟩,
 ⟨(some 30), .mv (.tmp 29), (some (20, true)), true⟩,
 ⟨(some 31), .mv (.tmp 0), (some (30, false)), true⟩,
 ⟨(some 32), .nilCheck (.tmp 31), (some (30, false)), true⟩,
 ⟨(some 33), .fieldAddr 0 (.tmp 32), (some (30, false)), true⟩,
 ⟨(some 34), .load none (.tmp 33), (some (30, false)), true⟩,
 ⟨(some 35), .mv (.tmp 7), (some (30, false)), true⟩,
 ⟨(some 36), .indexAddr 2 (.tmp 34) (.tmp 35), (some (30, false)), true⟩,
 ⟨(some 37), .load (some 2) (.tmp 36), (some (30, false)), true⟩,
 ⟨(some 38), .mv (.tmp 0), (some (30, false)), true⟩,
 ⟨(some 39), .nilCheck (.tmp 38), (some (30, false)), true⟩,
 ⟨(some 40), .fieldAddr 0 (.tmp 39), (some (30, false)), true⟩,
 ⟨(some 41), .load none (.tmp 40), (some (30, false)), true⟩,
 ⟨(some 42), .mv (.tmp 1), (some (30, false)), true⟩,
 ⟨(some 43), .indexAddr 2 (.tmp 41) (.tmp 42), (some (30, false)), true⟩,
 ⟨(some 44), .load (some 2) (.tmp 43), (some (30, false)), true⟩,
 ⟨(some 45), .call (.av (.func 36 [])) [(.tmp 37), (.tmp 44)], (some (30, false)), true⟩,
 ⟨(some 46), .un .not (.tmp 45), (some (30, false)), true⟩,
 ⟨(some 47), .pick (.tmp 30) (.av (.val (.bool true))) (.tmp 46), (some (20, true)), true⟩,
 ⟨(some 48), .pick (.tmp 20) (.tmp 47) (.av (.val (.bool false))), none, true⟩])
 (.cond (.tmp 48)
 (.exit 1)
 (.skip)))
 (.seq (.opsD [⟨(some 49), .mv (.tmp 5), none, true⟩,
 ⟨(some 50), .bin .lss (.tmp 49) (.av (.val (.int .i64 0))), none, true⟩,
 ⟨(some 51), .mv (.tmp 50), none, true⟩,
 ⟨(some 52), .mv (.tmp 0), (some (51, false)), true⟩,
 ⟨(some 53), .nilCheck (.tmp 52), (some (51, false)), true⟩,
 ⟨(some 54), .fieldAddr 0 (.tmp 53), (some (51, false)), true⟩,
 ⟨(some 55), .load none (.tmp 54), (some (51, false)), true⟩,
 ⟨(some 56), .mv (.tmp 7), (some (51, false)), true⟩,
 ⟨(some 57), .indexAddr 2 (.tmp 55) (.tmp 56), (some (51, false)), true⟩,
 ⟨(some 58), .fieldAddr 1 (.tmp 57), (some (51, false)), true⟩,
 ⟨(some 59), .load none (.tmp 58), (some (51, false)), true⟩,
 ⟨(some 60), .mv (.tmp 0), (some (51, false)), true⟩,
 ⟨(some 61), .nilCheck (.tmp 60), (some (51, false)), true⟩,
 ⟨(some 62), .fieldAddr 0 (.tmp 61), (some (51, false)), true⟩,
 ⟨(some 63), .load none (.tmp 62), (some (51, false)), true⟩,
 ⟨(some 64), .mv (.tmp 5), (some (51, false)), true⟩,
 ⟨(some 65), .indexAddr 2 (.tmp 63) (.tmp 64), (some (51, false)), true⟩,
 ⟨(some 66), .fieldAddr 1 (.tmp 65), (some (51, false)), true⟩,
 ⟨(some 67), .load none (.tmp 66), (some (51, false)), true⟩,
 ⟨(some 68), .bin .geq (.tmp 59) (.tmp 67), (some (51, false)), true⟩,
 ⟨(some 69), .pick (.tmp 51) (.av (.val (.bool true))) (.tmp 68), none, true⟩])
 (.cond (.tmp 69)
 (.ops [⟨(some 70), .mv (.tmp 7), none, true⟩,
 ⟨(some 5), .mv (.tmp 70), none, true⟩])
 (.skip)))))))
 (.seq (.ops [⟨(some 72), .mv (.tmp 5), none, true⟩,
 ⟨(some 4), .mv (.tmp 72), none, true⟩])
 (.ret))))
theorem f_sn_longest : cFunc Try.prog 48 = some ⟨73, c_sn_longest, [.tmp 4]⟩ := by kernel_rfl
def c_sn_ins : ACode := .seq (.ops [⟨(some 10), .mv (.tmp 1), none, true⟩,
 ⟨(some 11), .bin .add (.tmp 10) (.av (.val (.int .i64 1))), none, true⟩,
 ⟨(some 8), .mv (.tmp 11), none, true⟩])
 (.block 0 (.loop (.seq (.seq (.ops [⟨(some 12), .mv (.tmp 8), none, true⟩,
 ⟨(some 13), .mv (.tmp 2), none, true⟩,
 ⟨(some 14), .bin .lss (.tmp 12) (.tmp 13), none, true⟩])
 (.cond (.tmp 14)
 (.skip)
 (.exit 0)))
 (.seq (.block 1 (.seq (.ops [⟨(some 17), .mv (.tmp 8), none, true⟩,
 ⟨(some 9), .mv (.tmp 17), none, true⟩])
 (.block 2 (.loop (.seq (.seq (.opsD [⟨(some 18), .mv (.tmp 9), none, true⟩,
 ⟨(some 19), .mv (.tmp 1), none, true⟩,
 ⟨(some 20), .bin .gtr (.tmp 18) (.tmp 19), none, true⟩,
 ⟨(some 21), .mv (.tmp 20), none, true⟩,
 ⟨(some 22), .mv (.tmp 3), (some (21, true)), true⟩,
 ⟨(some 23), .mv (.tmp 0), (some (21, true)), true⟩,
 ⟨(some 24), .mv (.tmp 9), (some (21, true)), true⟩,
 ⟨(some 25), .indexAddr 1 (.tmp 23) (.tmp 24), (some (21, true)), true⟩,
 ⟨(some 26), .load none (.tmp 25), (some (21, true)), true⟩,
 ⟨(some 27), .mv (.tmp 0), (some (21, true)), true⟩,
 ⟨(some 28), .mv (.tmp 9), (some (21, true)), true⟩,
 ⟨(some 29), .bin .sub (.tmp 28) (.av (.val (.int .i64 1))), (some (21, true)), true⟩,
 ⟨(some 30), .indexAddr 1 (.tmp 27) (.tmp 29), (some (21, true)), true⟩,
 ⟨(some 31), .load none (.tmp 30), (some (21, true)), true⟩,
 ⟨(some 32), .call (.tmp 22) [(.tmp 26), (.tmp 31)], (some (21, true)), true⟩,
 ⟨(some 33), .bin .lss (.tmp 32) (.av (.val (.int .i64 0))), (some (21, true)), true⟩,
 ⟨(some 34), .pick (.tmp 21) (.tmp 33) (.av (.val (.bool false))), none, true⟩])
 (.cond (.tmp 34)
 (.skip)
 (.exit 2)))
 (.seq (.block 3 (.opsD [⟨(some 37), .mv (.tmp 0), none, true⟩,
 ⟨(some 38), .mv (.tmp 9), none, true⟩,
 ⟨(some 39), .mv (.tmp 0), none, true⟩,
 ⟨(some 40), .mv (.tmp 9), none, true⟩,
 ⟨(some 41), .bin .sub (.tmp 40) (.av (.val (.int .i64 1))), none, true⟩,
 ⟨(some 42), .mv (.tmp 0), none, true⟩,
 ⟨(some 43), .mv (.tmp 9), none, true⟩,
 ⟨(some 44), .bin .sub (.tmp 43) (.av (.val (.int .i64 1))), none, true⟩,
 ⟨(some 45), .indexAddr 1 (.tmp 42) (.tmp 44), none, true⟩,
 ⟨(some 46), .load none (.tmp 45), none, true⟩,
 ⟨(some 47), .mv (.tmp 0), none, true⟩,
 ⟨(some 48), .mv (.tmp 9), none, true⟩,
 ⟨(some 49), .indexAddr 1 (.tmp 47) (.tmp 48), none, true⟩,
 ⟨(some 50), .load none (.tmp 49), none, true⟩,
 ⟨(some 51), .indexAddr 1 (.tmp 37) (.tmp 38), none, true⟩,
 ⟨none, .store 1 (.tmp 51) (.tmp 46), none, true⟩,
 ⟨(some 52), .indexAddr 1 (.tmp 39) (.tmp 41), none, true⟩,
 ⟨none, .store 1 (.tmp 52) (.tmp 50), none, true⟩]))
 (.ops [⟨(some 35), .mv (.tmp 9), none, true⟩,
 ⟨(some 36), .bin .sub (.tmp 35) (.av (.val (.int .i64 1))), none, true⟩,
 ⟨(some 9), .mv (.tmp 36), none, true⟩])))))))
 (.ops [⟨(some 15), .mv (.tmp 8), none, true⟩,
 ⟨(some 16), .bin .add (.tmp 15) (.av (.val (.int .i64 1))), none, true⟩,
 ⟨(some 8), .mv (.tmp 16), none, true⟩])))))
theorem f_sn_ins : cFunc Try.prog 58 = some ⟨53, c_sn_ins, []⟩ := by kernel_rfl
def c_sn_sym : ACode := .seq (.seq (.ops [⟨(some 25), .mv (.tmp 2), none, true⟩,
 ⟨(some 26), .mv (.tmp 1), none, true⟩,
 ⟨(some 27), .bin .sub (.tmp 25) (.tmp 26), none, true⟩,
 ⟨(some 28), .bin .eql (.tmp 27) (.av (.val (.int .i64 1))), none, true⟩])
 (.cond (.tmp 28)
 (.seq (.ops [⟨(some 29), .mv (.tmp 2), none, true⟩,
 ⟨(some 10), .mv (.tmp 29), none, true⟩])
 (.seq (.ops [⟨(some 30), .mv (.tmp 3), none, true⟩,
 ⟨(some 11), .mv (.tmp 30), none, true⟩])
 (.seq (.block 0 (.loop (.seq (.seq (.ops [⟨(some 31), .mv (.tmp 10), none, true⟩,
 ⟨(some 32), .mv (.tmp 11), none, true⟩,
 ⟨(some 33), .bin .lss (.tmp 31) (.tmp 32), none, true⟩])
 (.cond (.tmp 33)
 (.skip)
 (.exit 0)))
 (.block 1 (.seq (.ops [⟨(some 34), .mv (.tmp 10), none, true⟩,
 ⟨(some 35), .mv (.tmp 11), none, true⟩,
 ⟨(some 36), .bin .add (.tmp 34) (.tmp 35), none, true⟩,
 ⟨(some 37), .conv .u64 (.tmp 36), none, true⟩,
 ⟨(some 38), .bin .shr (.tmp 37) (.av (.val (.int .u64 1))), none, true⟩,
 ⟨(some 39), .conv .i64 (.tmp 38), none, true⟩,
 ⟨(some 12), .mv (.tmp 39), none, true⟩])
 (.seq (.opsD [⟨(some 40), .mv (.tmp 4), none, true⟩,
 ⟨(some 41), .mv (.tmp 0), none, true⟩,
 ⟨(some 42), .mv (.tmp 12), none, true⟩,
 ⟨(some 43), .indexAddr 1 (.tmp 41) (.tmp 42), none, true⟩,
 ⟨(some 44), .load none (.tmp 43), none, true⟩,
 ⟨(some 45), .mv (.tmp 0), none, true⟩,
 ⟨(some 46), .mv (.tmp 1), none, true⟩,
 ⟨(some 47), .indexAddr 1 (.tmp 45) (.tmp 46), none, true⟩,
 ⟨(some 48), .load none (.tmp 47), none, true⟩,
 ⟨(some 49), .call (.tmp 40) [(.tmp 44), (.tmp 48)], none, true⟩,
 ⟨(some 50), .bin .lss (.tmp 49) (.av (.val (.int .i64 0))), none, true⟩])
 (.cond (.tmp 50)
 (.ops [⟨(some 51), .mv (.tmp 12), none, true⟩,
 ⟨(some 52), .bin .add (.tmp 51) (.av (.val (.int .i64 1))), none, true⟩,
 ⟨(some 10), .mv (.tmp 52), none, true⟩])
 (.ops [⟨(some 53), .mv (.tmp 12), none, true⟩,
 ⟨(some 11), .mv (.tmp 53), none, true⟩]))))))))
 (.seq (.seq (.ops [⟨(some 54), .mv (.tmp 1), none, true⟩,
 ⟨(some 13), .mv (.tmp 54), none, true⟩])
 (.block 2 (.loop (.seq (.seq (.ops [⟨(some 55), .mv (.tmp 13), none, true⟩,
 ⟨(some 56), .mv (.tmp 10), none, true⟩,
 ⟨(some 57), .bin .sub (.tmp 56) (.av (.val (.int .i64 1))), none, true⟩,
 ⟨(some 58), .bin .lss (.tmp 55) (.tmp 57), none, true⟩])
 (.cond (.tmp 58)
 (.skip)
 (.exit 2)))
 (.seq (.block 3 (.opsD [⟨(some 61), .mv (.tmp 0), none, true⟩,
 ⟨(some 62), .mv (.tmp 13), none, true⟩,
 ⟨(some 63), .mv (.tmp 0), none, true⟩,
 ⟨(some 64), .mv (.tmp 13), none, true⟩,
 ⟨(some 65), .bin .add (.tmp 64) (.av (.val (.int .i64 1))), none, true⟩,
 ⟨(some 66), .mv (.tmp 0), none, true⟩,
 ⟨(some 67), .mv (.tmp 13), none, true⟩,
 ⟨(some 68), .bin .add (.tmp 67) (.av (.val (.int .i64 1))), none, true⟩,
 ⟨(some 69), .indexAddr 1 (.tmp 66) (.tmp 68), none, true⟩,
 ⟨(some 70), .load none (.tmp 69), none, true⟩,
 ⟨(some 71), .mv (.tmp 0), none, true⟩,
 ⟨(some 72), .mv (.tmp 13), none, true⟩,
 ⟨(some 73), .indexAddr 1 (.tmp 71) (.tmp 72), none, true⟩,
 ⟨(some 74), .load none (.tmp 73), none, true⟩,
 ⟨(some 75), .indexAddr 1 (.tmp 61) (.tmp 62), none, true⟩,
 ⟨none, .store 1 (.tmp 75) (.tmp 70), none, true⟩,
 ⟨(some 76), .indexAddr 1 (.tmp 63) (.tmp 65), none, true⟩,
 ⟨none, .store 1 (.tmp 76) (.tmp 74), none, true⟩]))
 (.ops [⟨(some 59), .mv (.tmp 13), none, true⟩,
 ⟨(some 60), .bin .add (.tmp 59) (.av (.val (.int .i64 1))), none, true⟩,
 ⟨(some 13), .mv (.tmp 60), none, true⟩]))))))
 (.ret)))))
 (.skip)))
 (.seq (.seq (.ops [⟨(some 77), .mv (.tmp 3), none, true⟩,
 ⟨(some 78), .mv (.tmp 2), none, true⟩,
 ⟨(some 79), .bin .sub (.tmp 77) (.tmp 78), none, true⟩,
 ⟨(some 80), .bin .eql (.tmp 79) (.av (.val (.int .i64 1))), none, true⟩])
 (.cond (.tmp 80)
 (.seq (.ops [⟨(some 81), .mv (.tmp 1), none, true⟩,
 ⟨(some 14), .mv (.tmp 81), none, true⟩])
 (.seq (.ops [⟨(some 82), .mv (.tmp 2), none, true⟩,
 ⟨(some 15), .mv (.tmp 82), none, true⟩])
 (.seq (.block 4 (.loop (.seq (.seq (.ops [⟨(some 83), .mv (.tmp 14), none, true⟩,
 ⟨(some 84), .mv (.tmp 15), none, true⟩,
 ⟨(some 85), .bin .lss (.tmp 83) (.tmp 84), none, true⟩])
 (.cond (.tmp 85)
 (.skip)
 (.exit 4)))
 (.block 5 (.seq (.ops [⟨(some 86), .mv (.tmp 14), none, true⟩,
 ⟨(some 87), .mv (.tmp 15), none, true⟩,
 ⟨(some 88), .bin .add (.tmp 86) (.tmp 87), none, true⟩,
 ⟨(some 89), .conv .u64 (.tmp 88), none, true⟩,
 ⟨(some 90), .bin .shr (.tmp 89) (.av (.val (.int .u64 1))), none, true⟩,
 ⟨(some 91), .conv .i64 (.tmp 90), none, true⟩,
 ⟨(some 16), .mv (.tmp 91), none, true⟩])
 (.seq (.opsD [⟨(some 92), .mv (.tmp 4), none, true⟩,
 ⟨(some 93), .mv (.tmp 0), none, true⟩,
 ⟨(some 94), .mv (.tmp 2), none, true⟩,
 ⟨(some 95), .indexAddr 1 (.tmp 93) (.tmp 94), none, true⟩,
 ⟨(some 96), .load none (.tmp 95), none, true⟩,
 ⟨(some 97), .mv (.tmp 0), none, true⟩,
 ⟨(some 98), .mv (.tmp 16), none, true⟩,
 ⟨(some 99), .indexAddr 1 (.tmp 97) (.tmp 98), none, true⟩,
 ⟨(some 100), .load none (.tmp 99), none, true⟩,
 ⟨(some 101), .call (.tmp 92) [(.tmp 96), (.tmp 100)], none, true⟩,
 ⟨(some 102), .bin .lss (.tmp 101) (.av (.val (.int .i64 0))), none, true⟩,
 ⟨(some 103), .un .not (.tmp 102), none, true⟩])
 (.cond (.tmp 103)
 (.ops [⟨(some 104), .mv (.tmp 16), none, true⟩,
 ⟨(some 105), .bin .add (.tmp 104) (.av (.val (.int .i64 1))), none, true⟩,
 ⟨(some 14), .mv (.tmp 105), none, true⟩])
 (.ops [⟨(some 106), .mv (.tmp 16), none, true⟩,
 ⟨(some 15), .mv (.tmp 106), none, true⟩]))))))))
 (.seq (.seq (.ops [⟨(some 107), .mv (.tmp 2), none, true⟩,
 ⟨(some 17), .mv (.tmp 107), none, true⟩])
 (.block 6 (.loop (.seq (.seq (.ops [⟨(some 108), .mv (.tmp 17), none, true⟩,
 ⟨(some 109), .mv (.tmp 14), none, true⟩,
 ⟨(some 110), .bin .gtr (.tmp 108) (.tmp 109), none, true⟩])
 (.cond (.tmp 110)
 (.skip)
 (.exit 6)))
 (.seq (.block 7 (.opsD [⟨(some 113), .mv (.tmp 0), none, true⟩,
 ⟨(some 114), .mv (.tmp 17), none, true⟩,
 ⟨(some 115), .mv (.tmp 0), none, true⟩,
 ⟨(some 116), .mv (.tmp 17), none, true⟩,
 ⟨(some 117), .bin .sub (.tmp 116) (.av (.val (.int .i64 1))), none, true⟩,
 ⟨(some 118), .mv (.tmp 0), none, true⟩,
 ⟨(some 119), .mv (.tmp 17), none, true⟩,
 ⟨(some 120), .bin .sub (.tmp 119) (.av (.val (.int .i64 1))), none, true⟩,
 ⟨(some 121), .indexAddr 1 (.tmp 118) (.tmp 120), none, true⟩,
 ⟨(some 122), .load none (.tmp 121), none, true⟩,
 ⟨(some 123), .mv (.tmp 0), none, true⟩,
 ⟨(some 124), .mv (.tmp 17), none, true⟩,
 ⟨(some 125), .indexAddr 1 (.tmp 123) (.tmp 124), none, true⟩,
 ⟨(some 126), .load none (.tmp 125), none, true⟩,
 ⟨(some 127), .indexAddr 1 (.tmp 113) (.tmp 114), none, true⟩,
 ⟨none, .store 1 (.tmp 127) (.tmp 122), none, true⟩,
 ⟨(some 128), .indexAddr 1 (.tmp 115) (.tmp 117), none, true⟩,
 ⟨none, .store 1 (.tmp 128) (.tmp 126), none, true⟩]))
 (.ops [⟨(some 111), .mv (.tmp 17), none, true⟩,
 ⟨(some 112), .bin .sub (.tmp 111) (.av (.val (.int .i64 1))), none, true⟩,
 ⟨(some 17), .mv (.tmp 112), none, true⟩]))))))
 (.ret)))))
 (.skip)))
 (.seq (.ops [⟨(some 129), .mv (.tmp 1), none, true⟩,
 ⟨(some 130), .mv (.tmp 3), none, true⟩,
 ⟨(some 131), .bin .add (.tmp 129) (.tmp 130), none, true⟩,
 ⟨(some 132), .conv .u64 (.tmp 131), none, true⟩,
 ⟨(some 133), .bin .shr (.tmp 132) (.av (.val (.int .u64 1))), none, true⟩,
 ⟨(some 134), .conv .i64 (.tmp 133), none, true⟩,
 ⟨(some 18), .mv (.tmp 134), none, true⟩])
 (.seq (.ops [⟨(some 135), .mv (.tmp 18), none, true⟩,
 ⟨(some 136), .mv (.tmp 2), none, true⟩,
 ⟨(some 137), .bin .add (.tmp 135) (.tmp 136), none, true⟩,
 ⟨(some 19), .mv (.tmp 137), none, true⟩])
 (.seq (.ops [⟨(some 20), .mv (.av (.val (.int .i64 0))), none, true⟩,
 ⟨(some 21), .mv (.av (.val (.int .i64 0))), none, true⟩])
 (.seq (.seq (.ops [⟨(some 138), .mv (.tmp 2), none, true⟩,
 ⟨(some 139), .mv (.tmp 18), none, true⟩,
 ⟨(some 140), .bin .gtr (.tmp 138) (.tmp 139), none, true⟩])
 (.cond (.tmp 140)
 (.seq (.ops [⟨(some 141), .mv (.tmp 19), none, true⟩,
 ⟨(some 142), .mv (.tmp 3), none, true⟩,
 ⟨(some 143), .bin .sub (.tmp 141) (.tmp 142), none, true⟩,
 ⟨(some 20), .mv (.tmp 143), none, true⟩])
 (.ops [⟨(some 144), .mv (.tmp 18), none, true⟩,
 ⟨(some 21), .mv (.tmp 144), none, true⟩]))
 (.seq (.ops [⟨(some 145), .mv (.tmp 1), none, true⟩,
 ⟨(some 20), .mv (.tmp 145), none, true⟩])
 (.ops [⟨(some 146), .mv (.tmp 2), none, true⟩,
 ⟨(some 21), .mv (.tmp 146), none, true⟩]))))
 (.seq (.ops [⟨(some 147), .mv (.tmp 19), none, true⟩,
 ⟨(some 148), .bin .sub (.tmp 147) (.av (.val (.int .i64 1))), none, true⟩,
 ⟨(some 22), .mv (.tmp 148), none, true⟩])
 (.seq (.block 8 (.loop (.seq (.seq (.ops [⟨(some 149), .mv (.tmp 20), none, true⟩,
 ⟨(some 150), .mv (.tmp 21), none, true⟩,
 ⟨(some 151), .bin .lss (.tmp 149) (.tmp 150), none, true⟩])
 (.cond (.tmp 151)
 (.skip)
 (.exit 8)))
 (.block 9 (.seq (.ops [⟨(some 152), .mv (.tmp 20), none, true⟩,
 ⟨(some 153), .mv (.tmp 21), none, true⟩,
 ⟨(some 154), .bin .add (.tmp 152) (.tmp 153), none, true⟩,
 ⟨(some 155), .conv .u64 (.tmp 154), none, true⟩,
 ⟨(some 156), .bin .shr (.tmp 155) (.av (.val (.int .u64 1))), none, true⟩,
 ⟨(some 157), .conv .i64 (.tmp 156), none, true⟩,
 ⟨(some 23), .mv (.tmp 157), none, true⟩])
 (.seq (.opsD [⟨(some 158), .mv (.tmp 4), none, true⟩,
 ⟨(some 159), .mv (.tmp 0), none, true⟩,
 ⟨(some 160), .mv (.tmp 22), none, true⟩,
 ⟨(some 161), .mv (.tmp 23), none, true⟩,
 ⟨(some 162), .bin .sub (.tmp 160) (.tmp 161), none, true⟩,
 ⟨(some 163), .indexAddr 1 (.tmp 159) (.tmp 162), none, true⟩,
 ⟨(some 164), .load none (.tmp 163), none, true⟩,
 ⟨(some 165), .mv (.tmp 0), none, true⟩,
 ⟨(some 166), .mv (.tmp 23), none, true⟩,
 ⟨(some 167), .indexAddr 1 (.tmp 165) (.tmp 166), none, true⟩,
 ⟨(some 168), .load none (.tmp 167), none, true⟩,
 ⟨(some 169), .call (.tmp 158) [(.tmp 164), (.tmp 168)], none, true⟩,
 ⟨(some 170), .bin .lss (.tmp 169) (.av (.val (.int .i64 0))), none, true⟩,
 ⟨(some 171), .un .not (.tmp 170), none, true⟩])
 (.cond (.tmp 171)
 (.ops [⟨(some 172), .mv (.tmp 23), none, true⟩,
 ⟨(some 173), .bin .add (.tmp 172) (.av (.val (.int .i64 1))), none, true⟩,
 ⟨(some 20), .mv (.tmp 173), none, true⟩])
 (.ops [⟨(some 174), .mv (.tmp 23), none, true⟩,
 ⟨(some 21), .mv (.tmp 174), none, true⟩]))))))))
 (.seq (.ops [⟨(some 175), .mv (.tmp 19), none, true⟩,
 ⟨(some 176), .mv (.tmp 20), none, true⟩,
 ⟨(some 177), .bin .sub (.tmp 175) (.tmp 176), none, true⟩,
 ⟨(some 24), .mv (.tmp 177), none, true⟩])
 (.seq (.seq (.ops [⟨(some 178), .mv (.tmp 20), none, true⟩,
 ⟨(some 179), .mv (.tmp 2), none, true⟩,
 ⟨(some 180), .bin .lss (.tmp 178) (.tmp 179), none, true⟩,
 ⟨(some 181), .mv (.tmp 180), none, true⟩,
 ⟨(some 182), .mv (.tmp 2), (some (181, true)), true⟩,
 ⟨(some 183), .mv (.tmp 24), (some (181, true)), true⟩,
 ⟨(some 184), .bin .lss (.tmp 182) (.tmp 183), (some (181, true)), true⟩,
 ⟨(some 185), .pick (.tmp 181) (.tmp 184) (.av (.val (.bool false))), none, true⟩])
 (.cond (.tmp 185)
 (.ops [⟨(some 186), .mv (.tmp 0), none, true⟩,
 ⟨(some 187), .mv (.tmp 20), none, true⟩,
 ⟨(some 188), .mv (.tmp 2), none, true⟩,
 ⟨(some 189), .mv (.tmp 24), none, true⟩,
 ⟨(some 190), .mv (.tmp 4), none, true⟩,
 ⟨(some 191), .call (.av (.func 62 [])) [(.tmp 186), (.tmp 187), (.tmp 188), (.tmp 189), (.tmp 190)], none, true⟩])
 (.skip)))
 (.seq (.seq (.ops [⟨(some 192), .mv (.tmp 1), none, true⟩,
 ⟨(some 193), .mv (.tmp 20), none, true⟩,
 ⟨(some 194), .bin .lss (.tmp 192) (.tmp 193), none, true⟩,
 ⟨(some 195), .mv (.tmp 194), none, true⟩,
 ⟨(some 196), .mv (.tmp 20), (some (195, true)), true⟩,
 ⟨(some 197), .mv (.tmp 18), (some (195, true)), true⟩,
 ⟨(some 198), .bin .lss (.tmp 196) (.tmp 197), (some (195, true)), true⟩,
 ⟨(some 199), .pick (.tmp 195) (.tmp 198) (.av (.val (.bool false))), none, true⟩])
 (.cond (.tmp 199)
 (.ops [⟨(some 200), .mv (.tmp 0), none, true⟩,
 ⟨(some 201), .mv (.tmp 1), none, true⟩,
 ⟨(some 202), .mv (.tmp 20), none, true⟩,
 ⟨(some 203), .mv (.tmp 18), none, true⟩,
 ⟨(some 204), .mv (.tmp 4), none, true⟩,
 ⟨(some 205), .call (.av (.func 59 [])) [(.tmp 200), (.tmp 201), (.tmp 202), (.tmp 203), (.tmp 204)], none, true⟩])
 (.skip)))
 (.seq (.ops [⟨(some 206), .mv (.tmp 18), none, true⟩,
 ⟨(some 207), .mv (.tmp 24), none, true⟩,
 ⟨(some 208), .bin .lss (.tmp 206) (.tmp 207), none, true⟩,
 ⟨(some 209), .mv (.tmp 208), none, true⟩,
 ⟨(some 210), .mv (.tmp 24), (some (209, true)), true⟩,
 ⟨(some 211), .mv (.tmp 3), (some (209, true)), true⟩,
 ⟨(some 212), .bin .lss (.tmp 210) (.tmp 211), (some (209, true)), true⟩,
 ⟨(some 213), .pick (.tmp 209) (.tmp 212) (.av (.val (.bool false))), none, true⟩])
 (.cond (.tmp 213)
 (.ops [⟨(some 214), .mv (.tmp 0), none, true⟩,
 ⟨(some 215), .mv (.tmp 18), none, true⟩,
 ⟨(some 216), .mv (.tmp 24), none, true⟩,
 ⟨(some 217), .mv (.tmp 3), none, true⟩,
 ⟨(some 218), .mv (.tmp 4), none, true⟩,
 ⟨(some 219), .call (.av (.func 59 [])) [(.tmp 214), (.tmp 215), (.tmp 216), (.tmp 217), (.tmp 218)], none, true⟩])
 (.skip)))))))))))))
theorem f_sn_sym : cFunc Try.prog 59 = some ⟨220, c_sn_sym, []⟩ := by kernel_rfl
def c_sn_rot : ACode := .seq (.ops [⟨(some 12), .mv (.tmp 2), none, true⟩,
 ⟨(some 13), .mv (.tmp 1), none, true⟩,
 ⟨(some 14), .bin .sub (.tmp 12) (.tmp 13), none, true⟩,
 ⟨(some 10), .mv (.tmp 14), none, true⟩])
 (.seq (.ops [⟨(some 15), .mv (.tmp 3), none, true⟩,
 ⟨(some 16), .mv (.tmp 2), none, true⟩,
 ⟨(some 17), .bin .sub (.tmp 15) (.tmp 16), none, true⟩,
 ⟨(some 11), .mv (.tmp 17), none, true⟩])
 (.seq (.block 0 (.loop (.seq (.seq (.ops [⟨(some 18), .mv (.tmp 10), none, true⟩,
 ⟨(some 19), .mv (.tmp 11), none, true⟩,
 ⟨(some 20), .bin .neq (.tmp 18) (.tmp 19), none, true⟩])
 (.cond (.tmp 20)
 (.skip)
 (.exit 0)))
 (.block 1 (.seq (.ops [⟨(some 21), .mv (.tmp 10), none, true⟩,
 ⟨(some 22), .mv (.tmp 11), none, true⟩,
 ⟨(some 23), .bin .gtr (.tmp 21) (.tmp 22), none, true⟩])
 (.cond (.tmp 23)
 (.seq (.ops [⟨(some 24), .mv (.tmp 0), none, true⟩,
 ⟨(some 25), .mv (.tmp 2), none, true⟩,
 ⟨(some 26), .mv (.tmp 10), none, true⟩,
 ⟨(some 27), .bin .sub (.tmp 25) (.tmp 26), none, true⟩,
 ⟨(some 28), .mv (.tmp 2), none, true⟩,
 ⟨(some 29), .mv (.tmp 11), none, true⟩,
 ⟨(some 30), .mv (.tmp 4), none, true⟩,
 ⟨(some 31), .call (.av (.func 63 [])) [(.tmp 24), (.tmp 27), (.tmp 28), (.tmp 29), (.tmp 30)], none, true⟩])
 (.ops [⟨(some 32), .mv (.tmp 10), none, true⟩,
 ⟨(some 33), .mv (.tmp 11), none, true⟩,
 ⟨(some 34), .bin .sub (.tmp 32) (.tmp 33), none, true⟩,
 ⟨(some 10), .mv (.tmp 34), none, true⟩]))
 (.seq (.ops [⟨(some 35), .mv (.tmp 0), none, true⟩,
 ⟨(some 36), .mv (.tmp 2), none, true⟩,
 ⟨(some 37), .mv (.tmp 10), none, true⟩,
 ⟨(some 38), .bin .sub (.tmp 36) (.tmp 37), none, true⟩,
 ⟨(some 39), .mv (.tmp 2), none, true⟩,
 ⟨(some 40), .mv (.tmp 11), none, true⟩,
 ⟨(some 41), .bin .add (.tmp 39) (.tmp 40), none, true⟩,
 ⟨(some 42), .mv (.tmp 10), none, true⟩,
 ⟨(some 43), .bin .sub (.tmp 41) (.tmp 42), none, true⟩,
 ⟨(some 44), .mv (.tmp 10), none, true⟩,
 ⟨(some 45), .mv (.tmp 4), none, true⟩,
 ⟨(some 46), .call (.av (.func 63 [])) [(.tmp 35), (.tmp 38), (.tmp 43), (.tmp 44), (.tmp 45)], none, true⟩])
 (.ops [⟨(some 47), .mv (.tmp 11), none, true⟩,
 ⟨(some 48), .mv (.tmp 10), none, true⟩,
 ⟨(some 49), .bin .sub (.tmp 47) (.tmp 48), none, true⟩,
 ⟨(some 11), .mv (.tmp 49), none, true⟩]))))))))
 (.ops [⟨(some 50), .mv (.tmp 0), none, true⟩,
 ⟨(some 51), .mv (.tmp 2), none, true⟩,
 ⟨(some 52), .mv (.tmp 10), none, true⟩,
 ⟨(some 53), .bin .sub (.tmp 51) (.tmp 52), none, true⟩,
 ⟨(some 54), .mv (.tmp 2), none, true⟩,
 ⟨(some 55), .mv (.tmp 10), none, true⟩,
 ⟨(some 56), .mv (.tmp 4), none, true⟩,
 ⟨(some 57), .call (.av (.func 63 [])) [(.tmp 50), (.tmp 53), (.tmp 54), (.tmp 55), (.tmp 56)], none, true⟩])))
theorem f_sn_rot : cFunc Try.prog 62 = some ⟨58, c_sn_rot, []⟩ := by kernel_rfl
def c_sn_swap : ACode := .seq (.ops [⟨(some 10), .mv (.av (.val (.int .i64 0))), none, true⟩])
 (.block 0 (.loop (.seq (.seq (.ops [⟨(some 11), .mv (.tmp 10), none, true⟩,
 ⟨(some 12), .mv (.tmp 3), none, true⟩,
 ⟨(some 13), .bin .lss (.tmp 11) (.tmp 12), none, true⟩])
 (.cond (.tmp 13)
 (.skip)
 (.exit 0)))
 (.seq (.block 1 (.opsD [⟨(some 16), .mv (.tmp 0), none, true⟩,
 ⟨(some 17), .mv (.tmp 1), none, true⟩,
 ⟨(some 18), .mv (.tmp 10), none, true⟩,
 ⟨(some 19), .bin .add (.tmp 17) (.tmp 18), none, true⟩,
 ⟨(some 20), .mv (.tmp 0), none, true⟩,
 ⟨(some 21), .mv (.tmp 2), none, true⟩,
 ⟨(some 22), .mv (.tmp 10), none, true⟩,
 ⟨(some 23), .bin .add (.tmp 21) (.tmp 22), none, true⟩,
 ⟨(some 24), .mv (.tmp 0), none, true⟩,
 ⟨(some 25), .mv (.tmp 2), none, true⟩,
 ⟨(some 26), .mv (.tmp 10), none, true⟩,
 ⟨(some 27), .bin .add (.tmp 25) (.tmp 26), none, true⟩,
 ⟨(some 28), .indexAddr 1 (.tmp 24) (.tmp 27), none, true⟩,
 ⟨(some 29), .load none (.tmp 28), none, true⟩,
 ⟨(some 30), .mv (.tmp 0), none, true⟩,
 ⟨(some 31), .mv (.tmp 1), none, true⟩,
 ⟨(some 32), .mv (.tmp 10), none, true⟩,
 ⟨(some 33), .bin .add (.tmp 31) (.tmp 32), none, true⟩,
 ⟨(some 34), .indexAddr 1 (.tmp 30) (.tmp 33), none, true⟩,
 ⟨(some 35), .load none (.tmp 34), none, true⟩,
 ⟨(some 36), .indexAddr 1 (.tmp 16) (.tmp 19), none, true⟩,
 ⟨none, .store 1 (.tmp 36) (.tmp 29), none, true⟩,
 ⟨(some 37), .indexAddr 1 (.tmp 20) (.tmp 23), none, true⟩,
 ⟨none, .store 1 (.tmp 37) (.tmp 35), none, true⟩]))
 (.ops [⟨(some 14), .mv (.tmp 10), none, true⟩,
 ⟨(some 15), .bin .add (.tmp 14) (.av (.val (.int .i64 1))), none, true⟩,
 ⟨(some 10), .mv (.tmp 15), none, true⟩])))))
theorem f_sn_swap : cFunc Try.prog 63 = some ⟨38, c_sn_swap, []⟩ := by kernel_rfl
end Go.Proofs.Ytoeppobpnhlebaa
