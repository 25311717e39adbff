/-
  Proved: the law OwnsTree answers true, whatever the input: the doms are a forest of needed things, and sizes are sums.
-/
import Derived.Test.YtfmllmcjinjfaaaMrW14
import Derived.Test.YtfmllmcjinjfaaaMrW15
import Derived.Test.YtfmllmcjinjfaaaMrW5
namespace Go.Proofs.Ytfmllmcjinjfaaa
open Go Go.RowKit
set_option linter.unusedVariables false
set_option linter.unusedSimpArgs false
variable {has : List (List Int)} {roots : List Int} {PL DM : List Int} {FR : List Fr} {X : List Nat} {r : Nat}
variable {PL' DM' : List Int} {FR' : List Fr} {X' : List Nat} {r' : Nat}
theorem DomsR.dom1 (R : DomsR has roots PL DM FR X r) {t : Nat} (ht : t ∈ X) : ∃ v, (ordR X)[v]? = some (t : Int) ∧ v < nR X ∧ ((DM[t]? = some (-1) ∧ dR PL DM X v = some none) ∨
    ∃ a j : Nat, a < v ∧ (ordR X)[a]? = some (j : Int) ∧ j ∈ X ∧ DM[t]? = some (j : Int) ∧ dR PL DM X v = some (some a) ∧ j < DM.length) := by
  obtain ⟨v, h1, h2, h3⟩ := R.plc ht
  obtain ⟨o, h4, _⟩ := R.fx.at_ v h1
  obtain ⟨h5, h6⟩ := R.tu.dm h2 h4
  refine ⟨v, h2, h1, ?_⟩
  cases o with
  | none => exact .inl ⟨h5, h4⟩
  | some a =>
    obtain ⟨j, k1, k2, _, k4, _⟩ := R.tu.at_ (h6 a rfl)
    rw [k2] at h5
    exact .inr ⟨a, j, (R.di.good.lt v a h4).1, k1, mem_ordR.1 (List.mem_of_getElem? k1), h5, h4, k4⟩
theorem DomsR.anti (R : DomsR has roots PL DM FR X r) {a b : Nat} (h1 : Kp PL DM X (a : Int) b) (h2 : Kp PL DM X (b : Int) a) : a = b := by
  obtain ⟨vb, da, k1, k2, k3⟩ := h1
  obtain ⟨va, db, l1, l2, l3⟩ := h2
  have e1 := R.uniq k1 l2
  have e2 := R.uniq k2 l1
  subst e1; subst e2
  have := k3.le R.di.good
  have := l3.le R.di.good
  have e : vb = da := by omega
  subst e
  rw [k1] at k2
  injection k2 with k2
  omega
theorem DomsR.st (R : DomsR has roots PL DM FR X r) {t : Nat} (ht : t ∈ X) : (DM[t]? = some (-1) ∧ ∀ n : Nat, Kp PL DM X (n : Int) t → n = t) ∨
    ∃ j : Nat, DM[t]? = some (j : Int) ∧ j ∈ X ∧ j ≠ t ∧ Kp PL DM X (j : Int) t ∧ ∀ n : Nat, Kp PL DM X (n : Int) t → n = t ∨ Kp PL DM X (n : Int) j := by
  obtain ⟨v, h1, h2, ⟨h3, h4⟩ | ⟨a, j, h3, h4, h5, h6, h7, h8⟩⟩ := R.dom1 ht
  · refine .inl ⟨h3, fun n hn => ?_⟩
    obtain ⟨v', d, k1, k2, k3⟩ := hn
    have := R.uniq k1 h1
    subst this
    cases k3 with
    | self _ => rw [k1] at k2; injection k2 with k2; omega
    | step e _ => rw [h4] at e; cases e
  · refine .inr ⟨j, h6, h5, fun e => ?_, ⟨v, a, h1, h4, .step h7 (.self (R.di.good.lt v a h7).2)⟩, fun n hn => ?_⟩
    · subst e
      have := R.uniq h4 h1
      omega
    · obtain ⟨v', d, k1, k2, k3⟩ := hn
      have := R.uniq k1 h1
      subst this
      cases k3 with
      | self _ => rw [k1] at k2; injection k2 with k2; exact .inl (by omega)
      | @step _ a2 _ e h => 
        rw [h7] at e; injection e with e; injection e with e; subst e
        exact .inr ⟨a, d, h4, k2, h⟩
theorem DomsR.same (R : DomsR has roots PL DM FR X r) (R' : DomsR has roots PL' DM' FR' X' r') (hc : checkE has roots = 0) : DM' = DM := by
  have hX : ∀ j : Nat, j ∈ X ↔ j ∈ X' := fun j => (R.liv hc).symm.trans (R'.liv hc)
  have hK : ∀ n j : Nat, Kp PL DM X (n : Int) j ↔ Kp PL' DM' X' (n : Int) j := fun n j => by
    have h1 := R.wo (n := (n : Int)) hc (j := j)
    have h2 := R'.wo (n := (n : Int)) hc (j := j)
    have h3 : (j ∈ X ∧ ¬ Kp PL DM X (n : Int) j) ↔ (j ∈ X' ∧ ¬ Kp PL' DM' X' (n : Int) j) := h1.symm.trans h2
    by_cases hj : j ∈ X
    · have hj' := (hX j).1 hj
      exact ⟨fun q => Classical.byContradiction fun h => (h3.2 ⟨hj', h⟩).2 q, fun q => Classical.byContradiction fun h => (h3.1 ⟨hj, h⟩).2 q⟩
    · exact ⟨fun q => absurd (R.kpX q) hj, fun q => absurd ((hX j).2 (R'.kpX q)) hj⟩
  refine List.ext_getElem? fun t => ?_
  by_cases ht : t < has.length
  · by_cases h : t ∈ X
    · have h' := (hX t).1 h
      rcases R.st h with ⟨e1, k1⟩ | ⟨j, e1, k1, k2, k3, k4⟩ <;> rcases R'.st h' with ⟨e2, l1⟩ | ⟨j', e2, l1, l2, l3, l4⟩
      · rw [e1, e2]
      · exact absurd (k1 j' ((hK _ _).2 l3)) l2
      · exact absurd (l1 j ((hK _ _).1 k3)) k2
      · have a1 := (k4 j' ((hK _ _).2 l3)).resolve_left l2
        have a2 := (hK _ _).2 ((l4 j ((hK _ _).1 k3)).resolve_left k2)
        have := R.anti a1 a2
        subst this
        rw [e1, e2]
    · rw [R.out ht h, R'.out ht (fun q => h ((hX t).2 q))]
  · rw [List.getElem?_eq_none (by rw [R'.len]; omega), List.getElem?_eq_none (by rw [R.len]; omega)]
def StI (DM : List Int) (X : List Nat) (N : Nat) (k st : Int) (m : Nat) : Prop :=
  (k < 0 ∧ 0 ≤ st ∧ st ≤ (N : Int) ∧ m = 0) ∨ (∃ t v : Nat, k = (t : Int) ∧ t < DM.length ∧ t ∈ X ∧ (ordR X)[v]? = some (t : Int) ∧ m = v + 2 ∧ 0 ≤ st ∧ st + v + 1 ≤ (N : Int)) ∨ (∃ t : Nat, k = (t : Int) ∧ t < DM.length ∧ DM[t]? = some (-2) ∧ m = 1 ∧ st = 0 ∧ 1 ≤ N)
theorem DomsR.nle (R : DomsR has roots PL DM FR X r) : nR X ≤ has.length := by
  show (ordR X).length ≤ _
  unfold ordR
  rw [List.length_reverse, List.length_map]
  exact nodN_le R.fi.nd R.fi.lt
theorem DomsR.st0 (R : DomsR has roots PL DM FR X r) {t : Nat} (ht : t < has.length) : ∃ m, StI DM X has.length (t : Int) 0 m := by
  have hl := R.len
  by_cases h : t ∈ X
  · obtain ⟨v, h1, h2, _⟩ := R.dom1 h
    have := R.nle
    exact ⟨_, .inr (.inl ⟨t, v, rfl, by omega, h, h1, rfl, by omega, by omega⟩)⟩
  · exact ⟨_, .inr (.inr ⟨t, rfl, by omega, R.out ht h, rfl, rfl, by omega⟩)⟩
theorem StI.next (R : DomsR has roots PL DM FR X r) {k st : Int} {m : Nat} (h : StI DM X has.length k st m) : (k < 0 ∧ 0 ≤ st ∧ st ≤ (has.length : Int)) ∨
    ∃ (t : Nat) (y : Int) (m2 : Nat), k = (t : Int) ∧ 0 ≤ st ∧ st < (has.length : Int) ∧ t < DM.length ∧ DM[t]? = some y ∧ m2 < m ∧ StI DM X has.length y (st + 1) m2 := by
  rcases h with ⟨h1, h2, h3, _⟩ | ⟨t, v, rfl, h1, h2, h3, rfl, h4, h5⟩ | ⟨t, rfl, h1, h2, rfl, rfl, h3⟩
  · exact .inl ⟨h1, h2, h3⟩
  · obtain ⟨v', k1, k2, ⟨k3, _⟩ | ⟨a, j, k3, k4, k5, k6, k7, k8⟩⟩ := R.dom1 h2
    · exact .inr ⟨t, -1, 0, rfl, h4, by omega, h1, k3, by omega, .inl ⟨by omega, by omega, by omega, rfl⟩⟩
    · have := R.uniq k1 h3
      subst this
      exact .inr ⟨t, j, a + 2, rfl, h4, by omega, h1, k6, by omega, .inr (.inl ⟨j, a, rfl, k8, k5, k4, rfl, by omega, by omega⟩)⟩
  · exact .inr ⟨t, -2, 0, rfl, by omega, by omega, h1, h2, by omega, .inl ⟨by omega, by omega, by omega, rfl⟩⟩
def smN (DM out : List Int) (t : Nat) : List Nat → Int
  | [] => 0
  | k :: l => (if DM[k]?.getD 0 = (t : Int) then out[k]?.getD 0 else 0) + smN DM out t l
theorem smN_app {DM out : List Int} {t : Nat} {l2 : List Nat} : ∀ {l : List Nat}, smN DM out t (l ++ l2) = smN DM out t l + smN DM out t l2
  | [] => by simp [smN]
  | k :: l => by simp only [List.cons_append, smN]; rw [smN_app]; omega
theorem smN_congr {DM out out2 : List Int} {t : Nat} : ∀ {l : List Nat}, (∀ k ∈ l, out2[k]?.getD 0 = out[k]?.getD 0) → smN DM out2 t l = smN DM out t l
  | [], _ => rfl
  | k :: l, h => by simp only [smN]; rw [h k (by simp), smN_congr fun j hj => h j (List.mem_cons_of_mem _ hj)]
theorem smN_perm {DM out : List Int} {t : Nat} {l l2 : List Nat} (h : l.Perm l2) : smN DM out t l = smN DM out t l2 := by
  induction h with
  | nil => rfl
  | cons x _ ih => simp only [smN]; rw [ih]
  | swap x y l => simp only [smN]; omega
  | trans _ _ a b => rw [a, b]
theorem smN_filter {DM out : List Int} {t : Nat} {p : Nat → Bool} : ∀ {l : List Nat}, (∀ k ∈ l, p k = false → ¬ DM[k]?.getD 0 = (t : Int)) → smN DM out t (l.filter p) = smN DM out t l
  | [], _ => rfl
  | k :: l, h => by
    have ih := smN_filter (out := out) fun j (hj : j ∈ l) => h j (List.mem_cons_of_mem _ hj)
    cases hp : p k with
    | true => rw [List.filter_cons_of_pos (by simpa using hp)]; simp only [smN]; rw [ih]
    | false => rw [List.filter_cons_of_neg (by simpa using hp), ih]; simp only [smN]; rw [if_neg (h k (by simp) hp)]; omega
theorem smN_none {DM out : List Int} {t : Nat} : ∀ {l : List Nat}, (∀ k ∈ l, ¬ DM[k]?.getD 0 = (t : Int)) → smN DM out t l = 0
  | [], _ => rfl
  | k :: l, h => by simp only [smN]; rw [if_neg (h k (by simp)), smN_none fun j hj => h j (List.mem_cons_of_mem _ hj)]; rfl
structure SzInv (DM : List Int) (N : Nat) (out : List Int) (l : List Nat) : Prop where
  len : out.length = N
  at_ : ∀ t : Nat, t < N → out[t]?.getD 0 = wrap64 ((if t ∈ l then 1 else 0) + smN DM out t l)
theorem w_add (a b : Int) : wrap64 (wrap64 a + b) = wrap64 (a + b) := by unfold wrap64; omega
theorem w_add2 (a b : Int) : wrap64 (a + wrap64 b) = wrap64 (a + b) := by unfold wrap64; omega
theorem SzInv.step {DM : List Int} {N : Nat} {out : List Int} {l : List Nat} (I : SzInv DM N out l) {n : Nat} (hn : n < N) (hnl : n ∉ l) (hd : ∀ d : Nat, DM[n]?.getD 0 = (d : Int) → d < N ∧ d ≠ n ∧ d ∉ l) : SzInv DM N (szStep DM out n) (l ++ [n]) := by
  have hlen := I.len
  have hn' : n < out.length := by omega
  refine ⟨by rw [szStep_len]; exact I.len, fun t ht => ?_⟩
  have ht' : t < out.length := by omega
  have hself : ∀ o : List Int, o[n]?.getD 0 = 0 ∨ True := fun _ => .inr trivial
  by_cases hp : 0 ≤ DM[n]?.getD 0
  · obtain ⟨d, hdd⟩ : ∃ d : Nat, DM[n]?.getD 0 = (d : Int) := ⟨(DM[n]?.getD 0).toNat, by omega⟩
    obtain ⟨d1, d2, d3⟩ := hd d hdd
    have e : szStep DM out n = (out.set n (wrap64 (out[n]?.getD 0 + 1))).set d (wrap64 (out[d]?.getD 0 + wrap64 (out[n]?.getD 0 + 1))) := by
      unfold szStep
      rw [if_pos hp, hdd, Int.toNat_natCast]
      congr 2
      rw [List.getElem?_set_ne (by omega)]
      simp [hn']
    have hg : ∀ k, k ≠ n → k ≠ d → (szStep DM out n)[k]?.getD 0 = out[k]?.getD 0 := fun k h1 h2 => by
      rw [e, List.getElem?_set_ne (by omega), List.getElem?_set_ne (by omega)]
    have hgn : (szStep DM out n)[n]?.getD 0 = wrap64 (out[n]?.getD 0 + 1) := by
      rw [e, List.getElem?_set_ne (by omega)]; simp [hn']
    have hgd : (szStep DM out n)[d]?.getD 0 = wrap64 (out[d]?.getD 0 + wrap64 (out[n]?.getD 0 + 1)) := by
      rw [e]; simp [show d < out.length by omega]
    have hsm : smN DM (szStep DM out n) t l = smN DM out t l := smN_congr fun k hk => hg k (fun q => hnl (q ▸ hk)) (fun q => d3 (q ▸ hk))
    rw [smN_app, hsm]
    simp only [smN]
    rw [hdd, hgn]
    by_cases h1 : t = n
    · subst h1
      rw [hgn, if_pos (by simp), if_neg (by omega), I.at_ t ht, if_neg hnl, w_add]
      congr 1; omega
    · by_cases h2 : t = d
      · subst h2
        rw [hgd, if_neg (by simp [d3]; omega), if_pos rfl, I.at_ t ht, if_neg d3, w_add]
        congr 1; omega
      · rw [hg t h1 h2, I.at_ t ht, if_neg (show ¬ (d : Int) = (t : Int) by omega)]
        have : (t ∈ l ++ [n]) ↔ t ∈ l := by simp; intro q; exact absurd q h1
        simp only [this]
        congr 1; omega
  · have e : szStep DM out n = out.set n (wrap64 (out[n]?.getD 0 + 1)) := by unfold szStep; rw [if_neg hp]
    have hg : ∀ k, k ≠ n → (szStep DM out n)[k]?.getD 0 = out[k]?.getD 0 := fun k h1 => by
      rw [e, List.getElem?_set_ne (by omega)]
    have hgn : (szStep DM out n)[n]?.getD 0 = wrap64 (out[n]?.getD 0 + 1) := by
      rw [e]; simp [hn']
    have hsm : smN DM (szStep DM out n) t l = smN DM out t l := smN_congr fun k hk => hg k (fun q => hnl (q ▸ hk))
    rw [smN_app, hsm]
    simp only [smN]
    rw [if_neg (show ¬ DM[n]?.getD 0 = (t : Int) by omega)]
    by_cases h1 : t = n
    · subst h1
      rw [hgn, if_pos (by simp), I.at_ t ht, if_neg hnl, w_add]
      congr 1; omega
    · rw [hg t h1, I.at_ t ht]
      have : (t ∈ l ++ [n]) ↔ t ∈ l := by simp; intro q; exact absurd q h1
      simp only [this]
      congr 1; omega
theorem DomsR.szl (R : DomsR has roots PL DM FR X r) : SzInv DM has.length (szL DM (ordR X)) X := by
  have hrev : (ordR X).reverse = X.map fun v : Nat => (v : Int) := by unfold ordR; rw [List.reverse_reverse]
  have e : szL DM (ordR X) = X.foldl (fun out n => szStep DM out n) (List.replicate has.length 0) := by
    unfold szL
    rw [hrev, List.foldl_map, R.len]
    simp
  rw [e]
  have key : ∀ (b a : List Nat) (out : List Int), X = a ++ b → SzInv DM has.length out a → SzInv DM has.length (b.foldl (fun out n => szStep DM out n) out) X := by
    intro b
    induction b with
    | nil => intro a out hX I; rw [hX]; simpa using I
    | cons n b ih =>
      intro a out hX I
      rw [List.foldl_cons]
      refine ih (a ++ [n]) _ (by rw [hX]; simp) ?_
      have hnX : n ∈ X := by rw [hX]; simp
      have hnd := R.fi.nd
      rw [hX, List.nodup_append] at hnd
      obtain ⟨-, hnd2, hnd3⟩ := hnd
      have hna : n ∉ a := fun q => hnd3 n q n (by simp) rfl
      refine I.step (R.fi.lt n hnX) hna fun d hdd => ?_
      obtain ⟨v, k1, k2, ⟨k3, _⟩ | ⟨p, j, k3, k4, k5, k6, k7, k8⟩⟩ := R.dom1 hnX
      · rw [k3] at hdd; simp at hdd
      · rw [k6] at hdd
        have : j = d := by simp at hdd; omega
        subst this
        refine ⟨R.fi.lt j k5, fun q => ?_, fun q => ?_⟩
        · subst q
          have := R.uniq k1 k4
          omega
        · -- j stands ahead of n in X: its place is behind
          obtain ⟨i, hi⟩ := List.getElem?_of_mem q
          have hil := (List.getElem?_eq_some_iff.1 hi).1
          have hXi : X[i]? = some j := by rw [hX, List.getElem?_append_left hil]; exact hi
          have hXn : X[a.length]? = some n := by rw [hX]; simp
          have hXl : a.length < X.length := (List.getElem?_eq_some_iff.1 hXn).1
          have pl : ∀ (i t : Nat), X[i]? = some t → (ordR X)[X.length - 1 - i]? = some (t : Int) := fun i t h => by
            have := (List.getElem?_eq_some_iff.1 h).1
            unfold ordR
            rw [List.getElem?_reverse (by simp; omega)]
            simp only [List.length_map, List.getElem?_map]
            rw [show X.length - 1 - (X.length - 1 - i) = i by omega, h]
            rfl
          have u1 := R.uniq k1 (pl _ _ hXn)
          have u2 := R.uniq k4 (pl _ _ hXi)
          omega
  exact key X [] _ rfl ⟨by simp, fun t ht => by simp [smN, ht, wrap64]⟩
theorem DomsR.sums (R : DomsR has roots PL DM FR X r) {t : Nat} (ht : t < has.length) : (szL DM (ordR X))[t]?.getD 0 = if DM[t]?.getD 0 = -2 then 0 else wrap64 (1 + wrap64 (smN DM (szL DM (ordR X)) t (List.range has.length))) := by
  have I := R.szl
  have hnotX : ∀ k, k < has.length → k ∉ X → DM[k]?.getD 0 = -2 := fun k hk h => by rw [R.out hk h]; rfl
  have hperm : smN DM (szL DM (ordR X)) t (List.range has.length) = smN DM (szL DM (ordR X)) t X := by
    rw [← smN_filter (p := fun k => decide (k ∈ X)) (l := List.range has.length) (fun k hk hp => by
      rw [hnotX k (List.mem_range.1 hk) (by simpa using hp)]; omega)]
    refine smN_perm ((List.perm_ext_iff_of_nodup (List.nodup_range.sublist (List.filter_sublist)) R.fi.nd).2 fun a => ?_)
    rw [List.mem_filter]
    exact ⟨fun h => by simpa using h.2, fun h => ⟨List.mem_range.2 (R.fi.lt a h), by simpa using h⟩⟩
  rw [I.at_ t ht, hperm]
  by_cases h : t ∈ X
  · obtain ⟨y, h1, h2⟩ := R.inn h
    rw [if_pos h, if_neg (by rw [h1]; exact h2), w_add2]
  · rw [if_neg h, if_pos (hnotX t ht h), smN_none fun k hk => ?_]
    · show wrap64 (0 + 0) = 0
      unfold wrap64; omega
    · obtain ⟨v, k1, k2, ⟨k3, _⟩ | ⟨p, j, k3, k4, k5, k6, k7, k8⟩⟩ := R.dom1 hk
      · rw [k3]; simp
      · rw [k6]; simp; intro q; have : j = t := by omega
        subst this; exact h k5
end Go.Proofs.Ytfmllmcjinjfaaa

namespace Go.Proofs.Ytfmllmcjinjfaaa
open Go Go.RowKit
set_option linter.unusedVariables false
set_option linter.unusedSimpArgs false
abbrev tbT : List (FuncId × Bool) := [(9, true)]
theorem ownedT_z {L : Nat → Bool} {H : ZH} {K : ZV → ZH → Prop} (k : K (ZBo true) H) : ZC (constX tbT) (cFunc Try.prog) 9 [] L H K :=
  ZC.const (fun args fl hp ha => constX_some (l := tbT) (f := 9) (b := true) rfl args fl hp ha) k
def smL (DM SZ : List Int) (N n : Nat) : List Int := (List.range N).map fun t => wrap64 (smN DM SZ t (List.range n))
theorem smL_len {DM SZ : List Int} {N n : Nat} : (smL DM SZ N n).length = N := by simp [smL]
theorem smL_zero {DM SZ : List Int} {N : Nat} : smL DM SZ N 0 = List.replicate N 0 := by
  refine List.ext_getElem (by simp [smL]) fun i h1 h2 => ?_
  simp [smL, smN, wrap64]
theorem smL_at {DM SZ : List Int} {N n t : Nat} (ht : t < N) : (smL DM SZ N n)[t]? = some (wrap64 (smN DM SZ t (List.range n))) := by
  simp [smL, ht]
theorem smL_neg {DM SZ : List Int} {N n : Nat} (h : DM[n]?.getD 0 < 0) : smL DM SZ N (n + 1) = smL DM SZ N n := by
  unfold smL
  refine List.map_congr_left fun t _ => ?_
  rw [List.range_succ, smN_app]
  simp only [smN]
  rw [if_neg (by omega)]
  congr 1; omega
theorem smL_pos {DM SZ : List Int} {N n d : Nat} {s : Int} (h : DM[n]?.getD 0 = (d : Int)) (hd : d < N) (hs : SZ[n]? = some s) : smL DM SZ N (n + 1) = (smL DM SZ N n).set d (wrap64 (wrap64 (smN DM SZ d (List.range n)) + s)) := by
  refine List.ext_getElem (by simp [smL]) fun t h1 h2 => ?_
  have ht : t < N := by simpa [smL] using h1
  rw [List.getElem_set]
  by_cases e : d = t
  · subst e
    rw [if_pos rfl]
    simp only [smL, List.getElem_map, List.getElem_range]
    rw [List.range_succ, smN_app]
    simp only [smN]
    rw [if_pos h, hs, w_add]
    congr 1; simp
  · rw [if_neg e]
    simp only [smL, List.getElem_map, List.getElem_range]
    rw [List.range_succ, smN_app]
    simp only [smN]
    rw [if_neg (by omega)]
    congr 1; omega
variable {has : List (List Int)} {roots l : List Int}
set_option maxHeartbeats 4000000 in
theorem ownstree_z : ZC (constX tbT) (cFunc Try.prog) 4 [.agg [.fz 1 false (has.map eL), .fz 1 false (roots.map eI)]] (fun _ => true) [] fun z _ => z = ZBo true := by
  refine ZC.enter Gh.no (fun args fl hp ha => constX_none (l := tbT) (f := 4) (by decide) args fl hp ha) f_ow_tree (by simp) ?_
  simp only [c_ow_tree]
  have fin : ∀ X, Fin [] (ZBo true) X (fun z _ => z = ZBo true) := fun X => Fin.trunc (Mods.ext [] X) rfl rfl
  have FI := Lib.hid fin
  clear fin
  repeat' (first | (simp only [zmPack, zxPack, ne_eq, zfree, owners, Nat.reduceLT, List.contains_cons, List.contains_nil, Nat.reduceBEq, BEq.rfl, chunk, setAt, List.lookup_cons, List.lookup_nil, reduceCtorEq, Nat.reduceEqDiff, reduceIte, implies_true, forall_const, Nat.reduceMul, Nat.reduceSub, Nat.reduceAdd, Nat.reduceLeDiff, *]) | (simp only [zgoO, zgoG, zO_nil, zthen_normal, zgoC]) | (with_reducible apply And.intro) | (with_reducible intro _))
  refine ownedT_z ?_
  repeat' (first | (simp only [zmPack, zxPack, ne_eq, zfree, owners, Nat.reduceLT, List.contains_cons, List.contains_nil, Nat.reduceBEq, BEq.rfl, chunk, setAt, List.lookup_cons, List.lookup_nil, reduceCtorEq, Nat.reduceEqDiff, reduceIte, implies_true, forall_const, Nat.reduceMul, Nat.reduceSub, Nat.reduceAdd, Nat.reduceLeDiff, *]) | (simp only [zgoO, zgoG, zO_nil, zthen_normal, zgoC]) | (with_reducible apply And.intro) | (with_reducible intro _))
  refine domsf_z (fun hne => ?_) (fun he PL0 DM FR0 X0 r0 R0 => ?_)
  · have HN := Lib.hid hne
    clear hne
    repeat' (first | (simp only [zmPack, zxPack, ne_eq, zfree, owners, Nat.reduceLT, List.contains_cons, List.contains_nil, Nat.reduceBEq, BEq.rfl, chunk, setAt, List.lookup_cons, List.lookup_nil, reduceCtorEq, Nat.reduceEqDiff, reduceIte, implies_true, forall_const, Nat.reduceMul, Nat.reduceSub, Nat.reduceAdd, Nat.reduceLeDiff, *]) | (simp only [zgoO, zgoG, zO_nil, zthen_normal, zgoC]) | (with_reducible apply And.intro) | (with_reducible intro _))
    refine sizesf_z (fun _ => ?_) (fun h => absurd h HN.out)
    have hne := HN.out
    clear HN
    obtain ⟨c, hc⟩ : ∃ c, c = checkE has roots := ⟨_, rfl⟩
    rw [← hc] at hne ⊢
    clear hc
    have m1 : ¬ ¬ (c = c) := fun h => h rfl
    repeat' (first | (simp only [zmPack, zxPack, ne_eq, zfree, owners, Nat.reduceLT, List.contains_cons, List.contains_nil, Nat.reduceBEq, BEq.rfl, chunk, setAt, List.lookup_cons, List.lookup_nil, reduceCtorEq, Nat.reduceEqDiff, reduceIte, implies_true, forall_const, Nat.reduceMul, Nat.reduceSub, Nat.reduceAdd, Nat.reduceLeDiff, hne, *]) | (simp only [zgoO, zgoG, zO_nil, zthen_normal, zgoC]) | (with_reducible apply And.intro) | (with_reducible intro _))
    refine ownedT_z ?_
    have fin := FI.out
    repeat' (first | (simp only [zmPack, zxPack, ne_eq, zfree, owners, Nat.reduceLT, List.contains_cons, List.contains_nil, Nat.reduceBEq, BEq.rfl, chunk, setAt, List.lookup_cons, List.lookup_nil, reduceCtorEq, Nat.reduceEqDiff, reduceIte, implies_true, forall_const, Nat.reduceMul, Nat.reduceSub, Nat.reduceAdd, Nat.reduceLeDiff, *]) | (simp only [zgoO, zgoG, zO_nil, zthen_normal, zgoC]) | (with_reducible apply And.intro) | (with_reducible intro _))
    rw [show decide (IntKind.i64.wrap (((0 : Nat) : Int) + ((0 : Nat) : Int)) = 0) = true by decide]
    exact fin _
  · obtain ⟨H1, hH1⟩ : ∃ H1, H1 = ([.box [.fz 1 false (has.map eL), .fz 1 false (roots.map eI)]] ++ [.grow 0 1 (DM.map eI)] : ZH) := ⟨_, rfl⟩
    have hb : H1[0]? = some (.box [.fz 1 false (has.map eL), .fz 1 false (roots.map eI)]) := by rw [hH1]; rfl
    have e0 : ([.box [.fz 1 false (has.map eL), .fz 1 false (roots.map eI)]] : ZH).length = 1 := rfl
    rw [e0, ← hH1]
    have HE := Lib.hid he
    have HR0 := Lib.hid R0
    have HH1 := Lib.hid hH1
    clear he R0 hH1 e0
    repeat' (first | (simp only [zmPack, zxPack, ne_eq, zfree, owners, Nat.reduceLT, List.contains_cons, List.contains_nil, Nat.reduceBEq, BEq.rfl, chunk, setAt, List.lookup_cons, List.lookup_nil, reduceCtorEq, Nat.reduceEqDiff, reduceIte, implies_true, forall_const, Nat.reduceMul, Nat.reduceSub, Nat.reduceAdd, Nat.reduceLeDiff, hb, *]) | (simp only [zgoO, zgoG, zO_nil, zthen_normal, zgoC]) | (with_reducible apply And.intro) | (with_reducible intro _))
    refine sizesf_z (fun h => absurd HE.out h) (fun _ PL DM2 FR X r R2 => ?_)
    have eDM : DM2 = DM := HR0.out.same R2 HE.out
    subst eDM
    obtain ⟨q1, q2, q3, q4, q5⟩ := checkE_zero HE.out
    have hsum := fun t (ht : t < has.length) => R2.sums ht
    obtain ⟨SZ, hSZ⟩ : ∃ SZ, SZ = szL DM2 (ordR X) := ⟨_, rfl⟩
    have hSl : SZ.length = has.length := by rw [hSZ, szL_len]; exact R2.len
    rw [← hSZ] at hsum ⊢
    obtain ⟨H2, hH2⟩ : ∃ H2, H2 = H1 ++ [.grow 0 1 (SZ.map eI)] := ⟨_, rfl⟩
    have e1 : H1.length = 2 := by rw [HH1.out]; rfl
    have hl2 : H2.length = 3 := by rw [hH2, List.length_append, e1]; rfl
    have hdm : H2[1]? = some (.grow 0 1 (DM2.map eI)) := by rw [hH2, List.getElem?_append_left (by omega), HH1.out]; rfl
    have hsz : H2[2]? = some (.grow 0 1 (SZ.map eI)) := by rw [hH2, ← e1]; simp
    have hre : has.length * 8 ≤ reach := by unfold reach; omega
    rw [e1, ← hH2]
    have HD := Lib.hid (And.intro hdm hsz)
    have HL2 := Lib.hid hl2
    have HS := Lib.hid (And.intro hSl hsum)
    have HR := Lib.hid R2
    have HN := Lib.hid q1
    have hd2 : ∃ x x_1, H2[1]? = some (.grow 0 x x_1) := ⟨_, _, hdm⟩
    have hd3 : ∀ Y, ∃ x x_1, (H2 ++ Y)[1]? = some (.grow 0 x x_1) := fun Y => ⟨1, _, by rw [List.getElem?_append_left (by omega)]; exact hdm⟩
    clear hdm hsz hl2 hSl hsum R2 HR0 hSZ hH2 HH1 hb e1 q1 q2 q3 q4 q5
    repeat' (first | (simp only [zmPack, zxPack, ne_eq, zfree, owners, Nat.reduceLT, List.contains_cons, List.contains_nil, Nat.reduceBEq, BEq.rfl, chunk, setAt, List.lookup_cons, List.lookup_nil, reduceCtorEq, Nat.reduceEqDiff, reduceIte, implies_true, forall_const, Nat.reduceMul, Nat.reduceSub, Nat.reduceAdd, Nat.reduceLeDiff, *]) | (simp only [zgoO, zgoG, zO_nil, zthen_normal, zgoC]) | (with_reducible apply And.intro) | (with_reducible intro _))
    rw [HL2.out]
    clear hd2
    have HD3 := Lib.hid hd3
    clear hd3
    have hN' := HN.out
    refine zW_forK [(3, .own 1 0 0 has.length false), (5, .own 2 0 0 has.length false), (7, .own 3 0 0 has.length true), (49, .own 1 0 0 has.length false)] has.length (fun k s h => h = H2 ++ [.grow 0 1 ((smL DM2 SZ has.length k).map eI)]) (by omega) ⟨rfl, rfl, rfl, rfl, rfl, rfl⟩ rfl rfl (by repeat' (first | exact trivial | (refine ⟨rfl, ?_⟩) | (refine ⟨by simp only [zupd_at, Nat.reduceEqDiff, reduceIte]; assumption, ?_⟩))) rfl rfl (by decide) (by rw [smL_zero, List.map_replicate]) ?_ ?_
    · rintro n s' h' hn hh' hi hl ⟨f3, f5, f7, f49, -⟩
      have hnd : n < DM2.length := by rw [HR.out.len]; exact hn
      have hns : n < SZ.length := by rw [HS.out.1]; exact hn
      obtain ⟨x, hx⟩ : ∃ x, DM2[n]? = some x := ⟨_, List.getElem?_eq_getElem hnd⟩
      obtain ⟨z, hz⟩ : ∃ z, SZ[n]? = some z := ⟨_, List.getElem?_eq_getElem hns⟩
      have b1 : h'[1]? = some (.grow 0 1 (DM2.map eI)) := by rw [hh', List.getElem?_append_left (by rw [HL2.out]; omega)]; exact HD.out.1
      have b2 : h'[2]? = some (.grow 0 1 (SZ.map eI)) := by rw [hh', List.getElem?_append_left (by rw [HL2.out]; omega)]; exact HD.out.2
      have b3 : h'[3]? = some (.grow 0 1 ((smL DM2 SZ has.length n).map eI)) := by rw [hh', ← HL2.out]; simp
      have ed : ∀ j, j < has.length → elemZ h' 1 j (.own 1 0 0 has.length false) = some (.eptr 1 0 j 0) := fun j hj => by rw [elem_own]; exact ⟨_, b1, by simp [HR.out.len], hj, by simp⟩
      have ld : ∀ (j : Nat) x, DM2[j]? = some x → ldZ h' none (.eptr 1 0 j 0) = some (Z64 x) := fun j x hx => by rw [ld_eptr]; exact ⟨_, _, _, b1, by rw [List.getElem?_map, hx]; rfl, rfl⟩
      have hln : ∃ a b, h'[1]? = some (.grow 0 a b) := ⟨_, _, b1⟩
      have hm : ∃ m, StI DM2 X has.length (n : Int) 0 m := HR.out.st0 hn
      have HM := Lib.hid hm
      have HED := Lib.hid (And.intro ed ld)
      clear hm
      have fin0 : x < 0 → h' = H2 ++ [.grow 0 1 ((smL DM2 SZ has.length (n + 1)).map eI)] := fun hx0 => by rw [smL_neg (by rw [hx]; exact hx0)]; exact hh'
      --ROUND
      have e1 := ed n hn
      have l1 := ld n x hx
      by_cases hx0 : 0 ≤ x
      · obtain ⟨d, rfl⟩ := Int.eq_ofNat_of_zero_le hx0
        have hnX : n ∈ X := Classical.byContradiction fun q => by
          have := HR.out.out hn q
          rw [hx] at this; injection this with this; omega
        obtain ⟨d1, d2, y2, hy2, d3⟩ : d < has.length ∧ d ≠ n ∧ ∃ y2, DM2[d]? = some y2 ∧ ¬ y2 = -2 := by
          rcases HR.out.st hnX with ⟨k1, _⟩ | ⟨j, k1, k2, k3, _⟩
          · rw [hx] at k1; injection k1 with k1; omega
          · rw [hx] at k1; injection k1 with k1
            have : d = j := by omega
            subst this
            obtain ⟨y2, k4, k5⟩ := HR.out.inn k2
            exact ⟨HR.out.fi.lt d k2, k3, y2, k4, k5⟩
        have e2 := ed d d1
        have l2 := ld d y2 hy2
        have e3 : elemZ h' 1 d (.own 3 0 0 has.length true) = some (.eptr 3 0 d 0) := by rw [elem_own]; exact ⟨_, b3, by simp [smL_len], d1, by simp⟩
        obtain ⟨u, hu⟩ : ∃ u, u = wrap64 (smN DM2 SZ d (List.range n)) := ⟨_, rfl⟩
        have hud : (smL DM2 SZ has.length n)[d]? = some u := by rw [hu]; exact smL_at d1
        have l3 : ldZ h' none (.eptr 3 0 d 0) = some (Z64 u) := by rw [ld_eptr]; exact ⟨_, _, _, b3, by rw [List.getElem?_map, hud]; rfl, rfl⟩
        have e4 : elemZ h' 1 n (.own 2 0 0 has.length false) = some (.eptr 2 0 n 0) := by rw [elem_own]; exact ⟨_, b2, by simp [HS.out.1], hn, by simp⟩
        have l4 : ldZ h' none (.eptr 2 0 n 0) = some (Z64 z) := by rw [ld_eptr]; exact ⟨_, _, _, b2, by rw [List.getElem?_map, hz]; rfl, rfl⟩
        obtain ⟨h3, hh3⟩ : ∃ h3, h3 = H2 ++ [.grow 0 1 ((smL DM2 SZ has.length (n + 1)).map eI)] := ⟨_, rfl⟩
        have st : stZ (fun _ => true) h' [Z64 (IntKind.i64.wrap (u + z))] (.eptr 3 0 d 0) = some h3 := by
          rw [st_eptr]
          refine ⟨1, _, eI u, b3, by rw [List.getElem?_map, hud]; rfl, rfl, by simp [eI], ?_⟩
          rw [hh3, smL_pos (by rw [hx]; rfl) d1 hz, ← hu, hh', ← HL2.out, List.set_append_right _ _ (Nat.le_refl _), Nat.sub_self, List.map_set]
          rw [show IntKind.i64.wrap (u + z) = wrap64 (u + z) from IntWalk.i64_left _]
          rfl
        have b1' : h3[1]? = some (.grow 0 1 (DM2.map eI)) := by rw [hh3, List.getElem?_append_left (by rw [HL2.out]; omega)]; exact HD.out.1
        have ed' : ∀ j, j < has.length → elemZ h3 1 j (.own 1 0 0 has.length false) = some (.eptr 1 0 j 0) := fun j hj => by rw [elem_own]; exact ⟨_, b1', by simp [HR.out.len], hj, by simp⟩
        have ld' : ∀ (j : Nat) x, DM2[j]? = some x → ldZ h3 none (.eptr 1 0 j 0) = some (Z64 x) := fun j x hx => by rw [ld_eptr]; exact ⟨_, _, _, b1', by rw [List.getElem?_map, hx]; rfl, rfl⟩
        have hln3 : ∃ a b, h3[1]? = some (.grow 0 a b) := ⟨_, _, b1'⟩
        have HED := Lib.hid (And.intro ed' ld')
        have fin := hh3
        have n1 : ¬ (d : Int) = (n : Int) := by omega
        have FF := Lib.hid fin
        clear ed ld ed' ld' b1 b2 b3 b1' hx hz hy2 hud hu hh3 hh' fin0 hnX d1 d2 fin
        repeat' (first | (simp only [zmPack, zxPack, ne_eq, zfree, owners, Nat.reduceLT, List.contains_cons, List.contains_nil, Nat.reduceBEq, BEq.rfl, chunk, setAt, List.lookup_cons, List.lookup_nil, reduceCtorEq, Nat.reduceEqDiff, reduceIte, implies_true, forall_const, Nat.reduceMul, Nat.reduceSub, Nat.reduceAdd, Nat.reduceLeDiff, e1, l1, e2, l2, e3, l3, e4, l4, st, hln, *]) | (simp only [zgoO, zgoG, zO_nil, zthen_normal, zgoC]) | (with_reducible apply And.intro) | (with_reducible intro _))
        have fin := FF.out
        clear e1 l1 e2 l2 e3 l3 e4 l4 st hln hx0 n1 d3 FF
        have hln := hln3
        obtain ⟨m0, hm0⟩ := HM.out
        have HM0 := Lib.hid hm0
        have HHF := Lib.hid fin
        clear hm0 fin
        refine zW_whileK [(3, .own 1 0 0 has.length false)] m0 (fun m s h => h = h3 ∧ ∃ k st, s 11 = Z64 k ∧ s 10 = Z64 st ∧ StI DM2 X has.length k st m) (by repeat' (first | exact trivial | (refine ⟨rfl, ?_⟩) | (refine ⟨by simp only [zupd_at, Nat.reduceEqDiff, reduceIte]; assumption, ?_⟩))) rfl ⟨rfl, _, _, rfl, rfl, HM0.out⟩ ?_
        clear HM0 HM
        rintro m s4 h4 ⟨rfl, k, st, f11, f10, hS⟩ ⟨f3, -⟩
        rcases hS.next HR.out with ⟨hk, hs0, hs1⟩ | ⟨t, y, m2, rfl, hs0, hs1, ht, hy, hm2, hS2⟩
        · have m1 : ¬ 0 ≤ k := by omega
          have m3 : ¬ (has.length : Int) < st := by omega
          clear hS hk hs0 hs1 HE HS HR HN HD HL2 HED HD3
          repeat' (first | (simp only [zmPack, zxPack, ne_eq, zfree, owners, Nat.reduceLT, List.contains_cons, List.contains_nil, Nat.reduceBEq, BEq.rfl, chunk, setAt, List.lookup_cons, List.lookup_nil, reduceCtorEq, Nat.reduceEqDiff, reduceIte, implies_true, forall_const, Nat.reduceMul, Nat.reduceSub, Nat.reduceAdd, Nat.reduceLeDiff, hln, *]) | (simp only [zgoO, zgoG, zO_nil, zthen_normal, zgoC]) | (with_reducible apply And.intro) | (with_reducible intro _))
          all_goals exact HHF.out
        · have m1 : (0 : Int) ≤ (t : Int) := Int.natCast_nonneg t
          have m3 : st ≤ (has.length : Int) := by omega
          have w1 : IntKind.i64.wrap (st + 1) = st + 1 := by rw [IntWalk.i64_in _ (by have := HN.out; omega)]
          have e2 := HED.out.1 t (by rw [← HR.out.len]; exact ht)
          have l2 := HED.out.2 t y hy
          have hw : ∃ n', n' < m ∧ StI DM2 X has.length y (st + 1) n' := ⟨m2, hm2, hS2⟩
          have HW := Lib.hid hw
          clear hS hs0 hs1 HE HS HR HN HD HL2 HED HD3 HHF hw hm2 hS2 hy ht
          repeat' (first | (simp only [zmPack, zxPack, ne_eq, zfree, owners, Nat.reduceLT, List.contains_cons, List.contains_nil, Nat.reduceBEq, BEq.rfl, chunk, setAt, List.lookup_cons, List.lookup_nil, reduceCtorEq, Nat.reduceEqDiff, reduceIte, implies_true, forall_const, Nat.reduceMul, Nat.reduceSub, Nat.reduceAdd, Nat.reduceLeDiff, hln, e2, l2, *]) | (simp only [zgoO, zgoG, zO_nil, zthen_normal, zgoC]) | (with_reducible apply And.intro) | (with_reducible intro _))
          all_goals exact HW.out
      · have fin : h' = H2 ++ [.grow 0 1 ((smL DM2 SZ has.length (n + 1)).map eI)] := fin0 (by omega)
        obtain ⟨h3, hh3⟩ : ∃ h3, h3 = h' := ⟨_, rfl⟩
        subst hh3
        have FF := Lib.hid fin
        clear ed ld b1 b2 b3 hx hz hh' fin0 fin
        repeat' (first | (simp only [zmPack, zxPack, ne_eq, zfree, owners, Nat.reduceLT, List.contains_cons, List.contains_nil, Nat.reduceBEq, BEq.rfl, chunk, setAt, List.lookup_cons, List.lookup_nil, reduceCtorEq, Nat.reduceEqDiff, reduceIte, implies_true, forall_const, Nat.reduceMul, Nat.reduceSub, Nat.reduceAdd, Nat.reduceLeDiff, e1, l1, hln, *]) | (simp only [zgoO, zgoG, zO_nil, zthen_normal, zgoC]) | (with_reducible apply And.intro) | (with_reducible intro _))
        have fin := FF.out
        clear e1 l1 hx0 FF
        obtain ⟨m0, hm0⟩ := HM.out
        have HM0 := Lib.hid hm0
        have HHF := Lib.hid fin
        clear hm0 fin
        refine zW_whileK [(3, .own 1 0 0 has.length false)] m0 (fun m s h => h = h3 ∧ ∃ k st, s 11 = Z64 k ∧ s 10 = Z64 st ∧ StI DM2 X has.length k st m) (by repeat' (first | exact trivial | (refine ⟨rfl, ?_⟩) | (refine ⟨by simp only [zupd_at, Nat.reduceEqDiff, reduceIte]; assumption, ?_⟩))) rfl ⟨rfl, _, _, rfl, rfl, HM0.out⟩ ?_
        clear HM0 HM
        rintro m s4 h4 ⟨rfl, k, st, f11, f10, hS⟩ ⟨f3, -⟩
        rcases hS.next HR.out with ⟨hk, hs0, hs1⟩ | ⟨t, y, m2, rfl, hs0, hs1, ht, hy, hm2, hS2⟩
        · have m1 : ¬ 0 ≤ k := by omega
          have m3 : ¬ (has.length : Int) < st := by omega
          clear hS hk hs0 hs1 HE HS HR HN HD HL2 HED HD3
          repeat' (first | (simp only [zmPack, zxPack, ne_eq, zfree, owners, Nat.reduceLT, List.contains_cons, List.contains_nil, Nat.reduceBEq, BEq.rfl, chunk, setAt, List.lookup_cons, List.lookup_nil, reduceCtorEq, Nat.reduceEqDiff, reduceIte, implies_true, forall_const, Nat.reduceMul, Nat.reduceSub, Nat.reduceAdd, Nat.reduceLeDiff, hln, *]) | (simp only [zgoO, zgoG, zO_nil, zthen_normal, zgoC]) | (with_reducible apply And.intro) | (with_reducible intro _))
          all_goals exact HHF.out
        · have m1 : (0 : Int) ≤ (t : Int) := Int.natCast_nonneg t
          have m3 : st ≤ (has.length : Int) := by omega
          have w1 : IntKind.i64.wrap (st + 1) = st + 1 := by rw [IntWalk.i64_in _ (by have := HN.out; omega)]
          have e2 := HED.out.1 t (by rw [← HR.out.len]; exact ht)
          have l2 := HED.out.2 t y hy
          have hw : ∃ n', n' < m ∧ StI DM2 X has.length y (st + 1) n' := ⟨m2, hm2, hS2⟩
          have HW := Lib.hid hw
          clear hS hs0 hs1 HE HS HR HN HD HL2 HED HD3 HHF hw hm2 hS2 hy ht
          repeat' (first | (simp only [zmPack, zxPack, ne_eq, zfree, owners, Nat.reduceLT, List.contains_cons, List.contains_nil, Nat.reduceBEq, BEq.rfl, chunk, setAt, List.lookup_cons, List.lookup_nil, reduceCtorEq, Nat.reduceEqDiff, reduceIte, implies_true, forall_const, Nat.reduceMul, Nat.reduceSub, Nat.reduceAdd, Nat.reduceLeDiff, hln, e2, l2, *]) | (simp only [zgoO, zgoG, zO_nil, zthen_normal, zgoC]) | (with_reducible apply And.intro) | (with_reducible intro _))
          all_goals exact HW.out
    · rintro s' h' hh' ⟨f3, f5, f7, f49, -⟩
      have b1 : h'[1]? = some (.grow 0 1 (DM2.map eI)) := by rw [hh', List.getElem?_append_left (by rw [HL2.out]; omega)]; exact HD.out.1
      have b2 : h'[2]? = some (.grow 0 1 (SZ.map eI)) := by rw [hh', List.getElem?_append_left (by rw [HL2.out]; omega)]; exact HD.out.2
      have b3 : h'[3]? = some (.grow 0 1 ((smL DM2 SZ has.length has.length).map eI)) := by rw [hh', ← HL2.out]; simp
      have hln : ∃ a b, h'[1]? = some (.grow 0 a b) := ⟨_, _, b1⟩
      have HB := Lib.hid (And.intro b1 (And.intro b2 b3))
      clear b1 b2 b3 hh'
      repeat' (first | (simp only [zmPack, zxPack, ne_eq, zfree, owners, Nat.reduceLT, List.contains_cons, List.contains_nil, Nat.reduceBEq, BEq.rfl, chunk, setAt, List.lookup_cons, List.lookup_nil, reduceCtorEq, Nat.reduceEqDiff, reduceIte, implies_true, forall_const, Nat.reduceMul, Nat.reduceSub, Nat.reduceAdd, Nat.reduceLeDiff, hln, *]) | (simp only [zgoO, zgoG, zO_nil, zthen_normal, zgoC]) | (with_reducible apply And.intro) | (with_reducible intro _))
      refine zW_forK [(3, .own 1 0 0 has.length false), (5, .own 2 0 0 has.length false), (7, .own 3 0 0 has.length true), (98, .own 1 0 0 has.length false)] has.length (fun k s h => h = h') (by omega) ⟨rfl, rfl, rfl, rfl, rfl, rfl⟩ rfl rfl (by repeat' (first | exact trivial | (refine ⟨rfl, ?_⟩) | (refine ⟨by simp only [zupd_at, Nat.reduceEqDiff, reduceIte]; assumption, ?_⟩))) rfl rfl (by decide) rfl ?_ ?_
      · rintro n s2 h2 hn rfl hi2 hl2 ⟨f3, f5, f7, f98, -⟩
        obtain ⟨b1, b2, b3⟩ := HB.out
        obtain ⟨x, hx⟩ : ∃ x, DM2[n]? = some x := ⟨_, List.getElem?_eq_getElem (by rw [HR.out.len]; exact hn)⟩
        obtain ⟨z, hz⟩ : ∃ z, SZ[n]? = some z := ⟨_, List.getElem?_eq_getElem (by rw [HS.out.1]; exact hn)⟩
        obtain ⟨u, hu⟩ : ∃ u, u = wrap64 (smN DM2 SZ n (List.range has.length)) := ⟨_, rfl⟩
        have hun : (smL DM2 SZ has.length has.length)[n]? = some u := by rw [hu]; exact smL_at hn
        have hzz := HS.out.2 n hn
        rw [hz, hx, ← hu] at hzz
        have e1 : elemZ h2 1 n (.own 1 0 0 has.length false) = some (.eptr 1 0 n 0) := by rw [elem_own]; exact ⟨_, b1, by simp [HR.out.len], hn, by simp⟩
        have l1 : ldZ h2 none (.eptr 1 0 n 0) = some (Z64 x) := by rw [ld_eptr]; exact ⟨_, _, _, b1, by rw [List.getElem?_map, hx]; rfl, rfl⟩
        have e2 : elemZ h2 1 n (.own 2 0 0 has.length false) = some (.eptr 2 0 n 0) := by rw [elem_own]; exact ⟨_, b2, by simp [HS.out.1], hn, by simp⟩
        have l2 : ldZ h2 none (.eptr 2 0 n 0) = some (Z64 z) := by rw [ld_eptr]; exact ⟨_, _, _, b2, by rw [List.getElem?_map, hz]; rfl, rfl⟩
        have e3 : elemZ h2 1 n (.own 3 0 0 has.length true) = some (.eptr 3 0 n 0) := by rw [elem_own]; exact ⟨_, b3, by simp [smL_len], hn, by simp⟩
        have l3 : ldZ h2 none (.eptr 3 0 n 0) = some (Z64 u) := by rw [ld_eptr]; exact ⟨_, _, _, b3, by rw [List.getElem?_map, hun]; rfl, rfl⟩
        clear b1 b2 b3 hx hz hu hun
        by_cases hx2 : x = -2
        · subst hx2
          have hz0 : z = 0 := by simpa using hzz
          subst hz0
          clear hzz HB HE HS HR HN HD HL2 HD3
          repeat' (first | (simp only [zmPack, zxPack, ne_eq, zfree, owners, Nat.reduceLT, List.contains_cons, List.contains_nil, Nat.reduceBEq, BEq.rfl, chunk, setAt, List.lookup_cons, List.lookup_nil, reduceCtorEq, Nat.reduceEqDiff, reduceIte, implies_true, forall_const, Nat.reduceMul, Nat.reduceSub, Nat.reduceAdd, Nat.reduceLeDiff, e1, l1, e2, l2, *]) | (simp only [zgoO, zgoG, zO_nil, zthen_normal, zgoC]) | (with_reducible apply And.intro) | (with_reducible intro _))
        · have hz0 : z = wrap64 (1 + u) := by simpa [hx2] using hzz
          have w1 : IntKind.i64.wrap (1 + u) = z := by rw [hz0]; exact IntWalk.i64_left _
          have m1 : ¬ ¬ (z = z) := fun h => h rfl
          clear hzz hz0 HB HE HS HR HN HD HL2 HD3
          repeat' (first | (simp only [zmPack, zxPack, ne_eq, zfree, owners, Nat.reduceLT, List.contains_cons, List.contains_nil, Nat.reduceBEq, BEq.rfl, chunk, setAt, List.lookup_cons, List.lookup_nil, reduceCtorEq, Nat.reduceEqDiff, reduceIte, implies_true, forall_const, Nat.reduceMul, Nat.reduceSub, Nat.reduceAdd, Nat.reduceLeDiff, e1, l1, e2, l2, e3, l3, *]) | (simp only [zgoO, zgoG, zO_nil, zthen_normal, zgoC]) | (with_reducible apply And.intro) | (with_reducible intro _))
      · rintro s2 h2 rfl ⟨f3, f5, f7, f98, -⟩
        repeat' (first | (simp only [zmPack, zxPack, ne_eq, zfree, owners, Nat.reduceLT, List.contains_cons, List.contains_nil, Nat.reduceBEq, BEq.rfl, chunk, setAt, List.lookup_cons, List.lookup_nil, reduceCtorEq, Nat.reduceEqDiff, reduceIte, implies_true, forall_const, Nat.reduceMul, Nat.reduceSub, Nat.reduceAdd, Nat.reduceLeDiff, *]) | (simp only [zgoO, zgoG, zO_nil, zthen_normal, zgoC]) | (with_reducible apply And.intro) | (with_reducible intro _))
        refine ownedT_z ?_
        have fin := FI.out
        repeat' (first | (simp only [zmPack, zxPack, ne_eq, zfree, owners, Nat.reduceLT, List.contains_cons, List.contains_nil, Nat.reduceBEq, BEq.rfl, chunk, setAt, List.lookup_cons, List.lookup_nil, reduceCtorEq, Nat.reduceEqDiff, reduceIte, implies_true, forall_const, Nat.reduceMul, Nat.reduceSub, Nat.reduceAdd, Nat.reduceLeDiff, *]) | (simp only [zgoO, zgoG, zO_nil, zthen_normal, zgoC]) | (with_reducible apply And.intro) | (with_reducible intro _))
end Go.Proofs.Ytfmllmcjinjfaaa

namespace Go.Proofs.Ytfmllmcjinjfaaa
open Go Go.RowKit Go.ChangeShapes Go.WideShapes Go.ChangeAt
set_option linter.unusedVariables false
set_option linter.unusedSimpArgs false
set_option maxRecDepth 100000 in
theorem ownstree_lifted (os : Os) (started : os.Started) (H : Type) (enc : TypeId × Value → H) :
    ReturnsInHanded {} Try.checked os 4 .any (Rows.ownsTreeSpec.pre6 enc Try.prog Try.f4 Rows.ownsTreeRow.domain false) (Rows.ownsTreeSpec.post enc Try.prog Try.f4 false true false false) := by
  refine law_lifted (C := Try.checked) 12 [(true, .prod (.slice 24 (.slice 8 (.int .i64))) (.slice 8 (.int .i64)))] 4 Try.own Try.laidOut started (by kernel_rfl) Try.func4
    (ChangeSpec.witness6 (enc := enc) (C := Try.checked) false ⟨#[], #[.agg #[.slice none 0 0, .slice none 0 0]], []⟩ 8 (by kernel_rfl) (by kernel_rfl) (by kernel_rfl) (by kernel_rfl))
    rfl (by kernel_rfl) Try.underlying4 (fun ds h => ?_) (by kernel_rfl) (by kernel_rfl) (fun W args h => ?_)
  · match ds, h with
    | [d0], _ => rfl
  · refine zm_walk (by kernel_rfl) (constX_ok (n := 1000) (F := cFunc Try.prog) (by kernel_rfl) (fun f af h => h) tbT (by intro p hp; rw [List.mem_singleton.1 hp]; kernel_rfl)) (fun f af h => h) rfl (fun zl hz => ?_) W args h
    obtain ⟨g, _, rfl, hg, sg, rfl⟩ := hz
    exact ownstree_z (has := g.1) (roots := g.2)
theorem ownstree_holds : Rows.OwnsTreeSaid :=
  OpenClaim.holds_of_wide 4 Try.f4 rfl rfl rfl rfl rfl rfl rfl ⟨rfl, rfl, rfl, rfl, rfl⟩ rfl rfl rfl rfl rfl (by kernel_rfl) Try.func4 (by kernel_rfl) (of_decide_eq_true (by kernel_rfl)) (by unfold Func.isWrapper; first | (rw [if_pos (by decide +kernel)]; kernel_rfl) | (rw [if_neg (by decide +kernel)]; exact ⟨rfl, rfl⟩))
    (fun os started H enc _ => ownstree_lifted os started H enc)
end Go.Proofs.Ytfmllmcjinjfaaa
