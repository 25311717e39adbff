/-
  Owns, plain: what the list of those who keep has, thing by thing.
-/
import Derived.Test.YtfmllmcjinjfaaaMrW13
namespace Go.Proofs.Ytfmllmcjinjfaaa
open Go Go.RowKit
set_option linter.unusedVariables false
set_option linter.unusedSimpArgs false
variable {has : List (List Int)} {roots : List Int} {PL DM : List Int} {FR : List Fr} {X : List Nat} {r : Nat}
abbrev nR (X : List Nat) : Nat := (ordR X).length
abbrev eR (PL : List Int) (FR : List Fr) (X : List Nat) : Nat → Nat → Prop := EL (nR X) (lsP (ordR X) PL FR)
abbrev rR (PL : List Int) (FR : List Fr) (X : List Nat) : Nat → Prop := RL (nR X) (lsP (ordR X) PL FR)
abbrev dR (PL DM : List Int) (X : List Nat) : Dm := dmP PL (ordR X) DM
theorem isS {D : Dm} {v : Nat} {o : Option Nat} (h : D v = some o) : (D v).isSome := by rw [h]; rfl
theorem mem_ordR {t : Nat} : (t : Int) ∈ ordR X ↔ t ∈ X := by
  unfold ordR
  rw [List.mem_reverse, List.mem_map]
  constructor
  · rintro ⟨a, h, e⟩
    have : a = t := by omega
    subst this; exact h
  · exact fun h => ⟨t, h, rfl⟩
theorem DomsR.plc (R : DomsR has roots PL DM FR X r) {t : Nat} (h : t ∈ X) : ∃ v, v < nR X ∧ (ordR X)[v]? = some (t : Int) ∧ PL[t]? = some (v : Int) := by
  obtain ⟨v, hv⟩ := List.getElem?_of_mem (mem_ordR.2 h)
  have hl := (List.getElem?_eq_some_iff.1 hv).1
  exact ⟨v, hl, hv, R.pl.at_ v t hl hv⟩
theorem DomsR.frm (R : DomsR has roots PL DM FR X r) {t v : Nat} (ht : t ∈ X) (hv : (ordR X)[v]? = some (t : Int)) : ∃ x, FR[t]? = some x ∧ lsP (ordR X) PL FR v = x.2.map (plO PL) := by
  have htn : t < FR.length := by rw [R.fi.fl]; exact R.fi.lt t ht
  refine ⟨FR[t], List.getElem?_eq_getElem htn, ?_⟩
  unfold lsP
  rw [hv]
  simp only [Int.toNat_natCast]
  rw [List.getD_eq_getElem?_getD, List.getElem?_eq_getElem htn]
  rfl
theorem DomsR.edge (R : DomsR has roots PL DM FR X r) {n k : Nat} (hn : n ∈ X) (he : edg has n k) : ∃ v i, v < nR X ∧ i < nR X ∧ (ordR X)[v]? = some (k : Int) ∧ (ordR X)[i]? = some (n : Int) ∧ eR PL FR X i v := by
  have hk := R.fi.cl n hn k he
  obtain ⟨v, h1, h2, h3⟩ := R.plc hk
  obtain ⟨i, h4, h5, h6⟩ := R.plc hn
  refine ⟨v, i, h1, h4, h2, h5, h1, h4, ?_⟩
  obtain ⟨x, h7, h8⟩ := R.frm hk h2
  rw [h8]
  have hm : (n : Int) ∈ x.2 := (R.fi.fr k x h7 n).2 (.inl ⟨n, hn, rfl, he⟩)
  refine List.mem_map.2 ⟨_, hm, ?_⟩
  unfold plO
  rw [if_neg (by omega)]
  simp only [Int.toNat_natCast]
  rw [List.getD_eq_getElem?_getD, h6]
  rfl
theorem DomsR.isrt (R : DomsR has roots PL DM FR X r) {t : Nat} (ht : (t : Int) ∈ roots) : ∃ v, v < nR X ∧ (ordR X)[v]? = some (t : Int) ∧ rR PL FR X v := by
  have hk := R.fi.rt t ht
  obtain ⟨v, h1, h2, h3⟩ := R.plc hk
  refine ⟨v, h1, h2, h1, ?_⟩
  obtain ⟨x, h7, h8⟩ := R.frm hk h2
  rw [h8]
  exact List.mem_map.2 ⟨-1, (R.fi.fr t x h7 (-1)).2 (.inr ⟨rfl, ht⟩), by unfold plO; rw [if_pos rfl]⟩
theorem DomsR.root (R : DomsR has roots PL DM FR X r) {t : Nat} (ht : (t : Int) ∈ roots) : DM[t]? = some (-1) := by
  obtain ⟨v, h1, h2, h3⟩ := R.isrt ht
  obtain ⟨o, h4, h5⟩ := R.fx.at_ v h1
  have : o = none := by
    cases o with
    | none => rfl
    | some a => exact absurd h3 ((h5.up a).1 (Up.self (h5.lt a rfl).2)).1
  subst this
  exact (R.tu.dm h2 h4).1
theorem DomsR.out (R : DomsR has roots PL DM FR X r) {t : Nat} (ht : t < has.length) (h : t ∉ X) : DM[t]? = some (-2) := by
  rw [R.ot t (fun q => h (mem_ordR.1 q)), List.getElem?_replicate, if_pos ht]
theorem DomsR.inn (R : DomsR has roots PL DM FR X r) {t : Nat} (h : t ∈ X) : ∃ y, DM[t]? = some y ∧ ¬ y = -2 := by
  obtain ⟨v, h1, h2, h3⟩ := R.plc h
  obtain ⟨o, h4, h5⟩ := R.fx.at_ v h1
  refine ⟨_, (R.tu.dm h2 h4).1, idO_ne R.tu (R.tu.dm h2 h4).2⟩
def UpI (PL DM : List Int) (X : List Nat) (y up : Int) (m : Nat) : Prop := ∃ o u, y = idO (ordR X) o ∧ up = idO (ordR X) u ∧ (∀ w, u = some w → (dR PL DM X w).isSome ∧ w < nR X) ∧ (∀ a, o = some a → a < nR X ∧ ∃ w, u = some w ∧ Up (dR PL DM X) w a) ∧ m = szO u
theorem DomsR.to (R : DomsR has roots PL DM FR X r) {n k : Nat} (hn : n ∈ X) (he : edg has n k) : ∃ y, DM[k]? = some y ∧ ¬ y = -2 ∧ ∃ m, UpI PL DM X y (n : Int) m := by
  obtain ⟨v, i, h1, h2, h3, h4, h5⟩ := R.edge hn he
  obtain ⟨o, h6, h7⟩ := R.fx.at_ v h1
  obtain ⟨o2, h8, _⟩ := R.fx.at_ i h2
  have hs : (dR PL DM X i).isSome := (isS h8)
  refine ⟨_, (R.tu.dm h3 h6).1, idO_ne R.tu (R.tu.dm h3 h6).2, _, o, some i, rfl, ?_, fun w e => by injection e with e; subst e; exact ⟨hs, h2⟩, fun a e => ⟨(R.tu.dm h3 h6).2 a e, i, rfl, ?_⟩, rfl⟩
  · show _ = (ordR X).getD i 0
    rw [List.getD_eq_getElem?_getD, h4]; rfl
  · subst e
    exact ((h7.up a).1 (Up.self (h7.lt a rfl).2)).2 i h5 hs
theorem UpI.next (R : DomsR has roots PL DM FR X r) {y up : Int} {m : Nat} (h : UpI PL DM X y up m) : (up = y ∧ (y = -1 ∨ ∃ j : Nat, y = (j : Int))) ∨ (¬ up = y ∧ ∃ j : Nat, up = (j : Int) ∧ j < DM.length ∧ ∃ y2 m2, DM[j]? = some y2 ∧ m2 < m ∧ UpI PL DM X y y2 m2) := by
  obtain ⟨o, u, rfl, rfl, hu, ho, rfl⟩ := h
  by_cases e : u = o
  · subst e
    refine .inl ⟨rfl, ?_⟩
    cases u with
    | none => exact .inl rfl
    | some w =>
      obtain ⟨j, _, h, _⟩ := R.tu.at_ (hu w rfl).2
      exact .inr ⟨j, h⟩
  · refine .inr ⟨fun h => e ((R.tu.ne (fun x hx => (hu x hx).2) (fun x hx => (ho x hx).1)).1 h), ?_⟩
    cases u with
    | none =>
      cases o with
      | none => exact absurd rfl e
      | some a => obtain ⟨w, h, _⟩ := (ho a rfl).2; cases h
    | some w =>
      obtain ⟨j, h1, h2, _, h4, _⟩ := R.tu.at_ (hu w rfl).2
      obtain ⟨o2, h5⟩ := Option.isSome_iff_exists.1 (hu w rfl).1
      refine ⟨j, h2, h4, _, szO o2, (R.tu.dm h1 h5).1, ?_, o, o2, rfl, rfl, fun b hb => ?_, fun a ha => ⟨(ho a ha).1, ?_⟩, rfl⟩
      · cases o2 with
        | none => show 0 < w + 1; omega
        | some b => have := (R.di.good.lt w b h5).1; show b + 1 < w + 1; omega
      · subst hb
        exact ⟨(R.di.good.lt w b h5).2, (R.tu.dm h1 h5).2 b rfl⟩
      · obtain ⟨w2, hw, hup⟩ := (ho a ha).2
        injection hw with hw; subst hw
        rcases UpO.up h5 hup with rfl | h
        · exact absurd ha.symm e
        · cases o2 with
          | none => exact h.elim
          | some b => exact ⟨b, rfl, h⟩
end Go.Proofs.Ytfmllmcjinjfaaa

namespace Go.Proofs.Ytfmllmcjinjfaaa
open Go Go.RowKit
set_option linter.unusedVariables false
set_option linter.unusedSimpArgs false
variable {has : List (List Int)} {roots : List Int} {PL DM : List Int} {FR : List Fr} {X : List Nat} {r : Nat} {n : Int}
open Classical in
open Classical in
open Classical in
def strip (n : Int) (l : List Int) : List Int := l.filter (fun x => decide (x ≠ n))
def woRow (has : List (List Int)) (n : Int) (k : Nat) : List Int := strip n (if (k : Int) = n then [] else has.getD k [])
def woTo (has : List (List Int)) (n : Int) (k : Nat) : List (List Int) := (List.range k).map (woRow has n)
def woH (has : List (List Int)) (n : Int) : List (List Int) := woTo has n has.length
theorem mem_strip {l : List Int} {x : Int} : x ∈ strip n l ↔ x ∈ l ∧ x ≠ n := by unfold strip; rw [List.mem_filter]; simp
theorem woH_at {j : Nat} {x : Int} : x ∈ (woH has n).getD j [] ↔ x ∈ has.getD j [] ∧ x ≠ n ∧ ¬ (j : Int) = n := by
  have e : (woH has n).getD j [] = woRow has n j := by
    unfold woH woTo
    rw [List.getD_eq_getElem?_getD, List.getElem?_map]
    by_cases h : j < has.length
    · rw [List.getElem?_range h]; rfl
    · rw [List.getElem?_eq_none (by simpa using h)]
      unfold woRow
      rw [List.getD_eq_getElem?_getD, List.getElem?_eq_none (by omega)]
      simp [strip]
  rw [e]
  unfold woRow
  by_cases h : (j : Int) = n
  · rw [if_pos h]; simp [strip, h]
  · rw [if_neg h, mem_strip]; exact ⟨fun q => ⟨q.1, q.2, h⟩, fun q => ⟨q.1, q.2.1⟩⟩
theorem edg_at {u t : Nat} : (t : Int) ∈ has.getD u [] ↔ edg has u t := by
  unfold edg
  rw [List.getD_eq_getElem?_getD]
  cases h : has[u]? with
  | none => simp
  | some l => simp
def Kp (PL DM : List Int) (X : List Nat) (n : Int) (j : Nat) : Prop := ∃ v d, (ordR X)[v]? = some (j : Int) ∧ (ordR X)[d]? = some n ∧ Up (dR PL DM X) v d
theorem DomsR.uniq (R : DomsR has roots PL DM FR X r) {a b : Nat} {x : Int} (h1 : (ordR X)[a]? = some x) (h2 : (ordR X)[b]? = some x) : a = b := by
  have := R.tu.inj
  obtain ⟨ha, e1⟩ := List.getElem?_eq_some_iff.1 h1
  obtain ⟨hb, e2⟩ := List.getElem?_eq_some_iff.1 h2
  exact (List.getElem_inj this).1 (e1.trans e2.symm)
theorem DomsR.kpX (R : DomsR has roots PL DM FR X r) {j : Nat} (h : Kp PL DM X n j) : j ∈ X := by
  obtain ⟨v, d, h1, _⟩ := h
  exact mem_ordR.1 (List.mem_of_getElem? h1)
theorem DomsR.self (R : DomsR has roots PL DM FR X r) {j : Nat} (h : j ∈ X) : Kp PL DM X (j : Int) j := by
  obtain ⟨v, h1, h2, _⟩ := R.plc h
  obtain ⟨o, h3, _⟩ := R.fx.at_ v h1
  exact ⟨v, v, h2, h2, .self ((isS h3))⟩
theorem DomsR.liv (R : DomsR has roots PL DM FR X r) (hc : checkE has roots = 0) {j : Nat} : Liv has [] roots j ↔ j ∈ X := by
  obtain ⟨q1, q2, q3, q4, q5⟩ := checkE_zero hc
  constructor
  · intro h
    refine h (· ∈ X) (fun u hu k hk => ?_) (fun p hp => by cases hp) (fun x hx => ?_)
    · obtain ⟨h0, _⟩ := q4.at u k hk
      obtain ⟨t, rfl⟩ := Int.eq_ofNat_of_zero_le h0
      exact R.fi.cl u hu t (edg_at.1 hk)
    · obtain ⟨t, rfl⟩ := Int.eq_ofNat_of_zero_le (q5 x hx).1
      exact R.fi.rt t hx
  · intro h
    obtain ⟨i, hi⟩ := List.getElem?_of_mem h
    have key : ∀ (m i t : Nat), X.length - i ≤ m → X[i]? = some t → Liv has [] roots t := by
      intro m
      induction m with
      | zero => intro i t hm hi; have := (List.getElem?_eq_some_iff.1 hi).1; omega
      | succ m ih =>
        intro i t hm hi
        have hil := (List.getElem?_eq_some_iff.1 hi).1
        rcases R.fi.kin i t hi with h | ⟨i', u, h1, h2, h3⟩
        · exact Liv.base (x := (t : Int)) h
        · exact Liv.cl has [] roots u (ih i' u (by omega) h2) (t : Int) (edg_at.2 h3)
    exact key _ i j (Nat.le_refl _) hi
theorem plO_none {v : Int} (h : plO PL v = none) : v = -1 := by
  unfold plO at h
  split at h
  · assumption
  · cases h
theorem pth_live (R : DomsR has roots PL DM FR X r) {d0 : Nat} (hd : ∀ (v t : Nat), (ordR X)[v]? = some (t : Int) → (v = d0 ↔ (t : Int) = n)) {v k : Nat} {l : List Nat} (h : Pth (eR PL FR X) (rR PL FR X) v k l) (hl : d0 ∉ l) :
    ∀ t : Nat, (ordR X)[v]? = some (t : Int) → Liv (woH has n) [] (strip n roots) t := by
  have edge : ∀ {p v t : Nat}, Liv (woH has n) [] (strip n roots) = Liv (woH has n) [] (strip n roots) → eR PL FR X p v → p ≠ d0 → v ≠ d0 → (ordR X)[v]? = some (t : Int) → (∀ u : Nat, (ordR X)[p]? = some (u : Int) → Liv (woH has n) [] (strip n roots) u) → Liv (woH has n) [] (strip n roots) t := by
    intro p v t _ e hp hv ht ih
    obtain ⟨x, hx, hx2⟩ := R.frm (mem_ordR.1 (List.mem_of_getElem? ht)) ht
    have e3 := e.2.2
    rw [hx2] at e3
    obtain ⟨a, ha, ha2⟩ := List.mem_map.1 e3
    rcases (R.fi.fr t x hx a).1 ha with ⟨j, hj, rfl, he⟩ | ⟨rfl, _⟩
    · obtain ⟨w, hw1, hw2, hw3⟩ := R.plc hj
      have : w = p := by
        unfold plO at ha2
        rw [if_neg (by omega)] at ha2
        simp only [Int.toNat_natCast] at ha2
        rw [List.getD_eq_getElem?_getD, hw3] at ha2
        simpa using ha2
      subst this
      refine Liv.cl (woH has n) [] (strip n roots) j (ih j hw2) (t : Int) (woH_at.2 ⟨edg_at.2 he, fun q => hv ((hd v t ht).2 q), fun q => hp ((hd w j hw2).2 q)⟩)
    · unfold plO at ha2; rw [if_pos rfl] at ha2; cases ha2
  induction h with
  | @root v hr =>
    intro t ht
    obtain ⟨x, hx, hx2⟩ := R.frm (mem_ordR.1 (List.mem_of_getElem? ht)) ht
    have e3 := hr.2
    rw [hx2] at e3
    obtain ⟨a, ha, ha2⟩ := List.mem_map.1 e3
    have := plO_none ha2
    subst this
    rcases (R.fi.fr t x hx (-1)).1 ha with ⟨j, hj, e, _⟩ | ⟨_, h⟩
    · omega
    · refine Liv.base (x := (t : Int)) (mem_strip.2 ⟨h, fun q => ?_⟩)
      have := (hd v t ht).2 q
      subst this
      exact hl (by simp)
  | @fwd p v k l hp e lt ih =>
    intro t ht
    exact edge rfl e (fun q => hl (by subst q; exact List.mem_cons_of_mem _ hp.mem)) (fun q => hl (by subst q; simp)) ht (ih (fun q => hl (List.mem_cons_of_mem _ q)))
  | @ret p v k l hp e lt ih =>
    intro t ht
    exact edge rfl e (fun q => hl (by subst q; exact List.mem_cons_of_mem _ hp.mem)) (fun q => hl (by subst q; simp)) ht (ih (fun q => hl (List.mem_cons_of_mem _ q)))
theorem DomsR.wo (R : DomsR has roots PL DM FR X r) (hc : checkE has roots = 0) {j : Nat} : Liv (woH has n) [] (strip n roots) j ↔ j ∈ X ∧ ¬ Kp PL DM X n j := by
  obtain ⟨q1, q2, q3, q4, q5⟩ := checkE_zero hc
  constructor
  · intro h
    refine h (fun j => j ∈ X ∧ ¬ Kp PL DM X n j) (fun u hu k hk => ?_) (fun p hp => by cases hp) (fun x hx => ?_)
    · obtain ⟨h1, h2, h3⟩ := woH_at.1 hk
      obtain ⟨h0, _⟩ := q4.at u k h1
      obtain ⟨t, rfl⟩ := Int.eq_ofNat_of_zero_le h0
      have he := edg_at.1 h1
      refine ⟨R.fi.cl u hu.1 t he, ?_⟩
      rintro ⟨v, d, k1, k2, k3⟩
      obtain ⟨v', i, e1, e2, e3, e4, e5⟩ := R.edge hu.1 he
      have := R.uniq k1 e3
      subst this
      obtain ⟨o, e6, e7⟩ := R.fx.at_ v e1
      obtain ⟨o2, e8, _⟩ := R.fx.at_ i e2
      rcases UpO.up e6 k3 with rfl | h4
      · rw [k1] at k2; injection k2 with k2; exact h2 k2
      · exact hu.2 ⟨i, d, e4, k2, ((e7.up d).1 h4).2 i e5 ((isS e8))⟩
    · obtain ⟨h1, h2⟩ := mem_strip.1 hx
      obtain ⟨t, rfl⟩ := Int.eq_ofNat_of_zero_le (q5 x h1).1
      refine ⟨R.fi.rt t h1, ?_⟩
      rintro ⟨v, d, k1, k2, k3⟩
      obtain ⟨v', e1, e2, e3⟩ := R.isrt h1
      have := R.uniq k1 e2
      subst this
      obtain ⟨o, e6, e7⟩ := R.fx.at_ v e1
      rcases UpO.up e6 k3 with rfl | h4
      · rw [k1] at k2; injection k2 with k2; exact h2 k2
      · exact ((e7.up d).1 h4).1 e3
  · rintro ⟨hj, hk⟩
    obtain ⟨v, h1, h2, _⟩ := R.plc hj
    obtain ⟨d0, hd, hn⟩ : ∃ d0, (∀ (v t : Nat), (ordR X)[v]? = some (t : Int) → (v = d0 ↔ (t : Int) = n)) ∧ ¬ Up (dR PL DM X) v d0 := by
      by_cases hm : n ∈ ordR X
      · obtain ⟨d, hd⟩ := List.getElem?_of_mem hm
        refine ⟨d, fun v t ht => ⟨fun e => by subst e; rw [hd] at ht; injection ht with ht; exact ht.symm, fun e => by subst e; exact R.uniq ht hd⟩, fun h => hk ⟨v, d, h2, hd, h⟩⟩
      · refine ⟨nR X, fun v t ht => ⟨fun e => ?_, fun e => ?_⟩, fun h => ?_⟩
        · have h9 : v < nR X := (List.getElem?_eq_some_iff.1 ht).1; omega
        · subst e; exact absurd (List.mem_of_getElem? ht) hm
        · have h4 := h.le R.di.good; have h5 : v < nR X := h1; omega
    have hne : ¬ Keep1 (eR PL FR X) (rR PL FR X) v d0 := fun h => hn ((R.fx.iff R.di (fun p v h => ⟨h.2.1, h.1⟩) (fun v h => h.1) h1).2 h)
    obtain ⟨k, l, hp, hnl⟩ : ∃ k l, Pth (eR PL FR X) (rR PL FR X) v k l ∧ d0 ∉ l := Classical.byContradiction fun h => hne fun k l hp => Classical.byContradiction fun hm => h ⟨k, l, hp, hm⟩
    exact pth_live R hd hp hnl j h2
def KW (PL DM : List Int) (X : List Nat) (n : Int) (k : Nat) (l : List Int) (up : Int) (m : Nat) : Prop := ∃ u, up = idO (ordR X) u ∧ (∀ w, u = some w → (dR PL DM X w).isSome ∧ w < nR X) ∧ m = szO u ∧
  ((l = [] ∧ (Kp PL DM X n k ↔ ∃ a d, u = some a ∧ (ordR X)[d]? = some n ∧ Up (dR PL DM X) a d)) ∨ (l = [(k : Int)] ∧ Kp PL DM X n k ∧ ¬ ∃ a d, u = some a ∧ (ordR X)[d]? = some n ∧ Up (dR PL DM X) a d))
open Classical in
theorem KW.next (R : DomsR has roots PL DM FR X r) {k : Nat} {l : List Int} {up : Int} {m : Nat} (h : KW PL DM X n k l up m) : (up = -1 ∧ l = if Kp PL DM X n k then [(k : Int)] else []) ∨
    ∃ j : Nat, up = (j : Int) ∧ j < DM.length ∧ ∃ y m2, DM[j]? = some y ∧ ¬ y = -2 ∧ m2 < m ∧ (((j : Int) = n ∧ l = [] ∧ KW PL DM X n k [(k : Int)] y m2) ∨ (¬ (j : Int) = n ∧ KW PL DM X n k l y m2)) := by
  obtain ⟨u, rfl, hu, rfl, hl⟩ := h
  cases u with
  | none =>
    refine .inl ⟨rfl, ?_⟩
    rcases hl with ⟨rfl, h⟩ | ⟨rfl, h, _⟩
    · rw [if_neg (fun q => by obtain ⟨a, d, e, _⟩ := h.1 q; cases e)]
    · rw [if_pos h]
  | some w =>
    obtain ⟨j, h1, h2, _, h4, _⟩ := R.tu.at_ (hu w rfl).2
    obtain ⟨o2, h5⟩ := Option.isSome_iff_exists.1 (hu w rfl).1
    have hgd := fun b h => R.di.good.lt w b h
    have hu2 : ∀ b, o2 = some b → (dR PL DM X b).isSome ∧ b < nR X := fun b hb => by subst hb; exact ⟨(hgd b h5).2, (R.tu.dm h1 h5).2 b rfl⟩
    have hm2 : szO o2 < szO (some w) := by
      cases o2 with
      | none => show 0 < w + 1; omega
      | some b => have := (hgd b h5).1; show b + 1 < w + 1; omega
    refine .inr ⟨j, h2, h4, _, szO o2, (R.tu.dm h1 h5).1, idO_ne R.tu (R.tu.dm h1 h5).2, hm2, ?_⟩
    by_cases hj : (j : Int) = n
    · have hex : ∃ a d, some w = some a ∧ (ordR X)[d]? = some n ∧ Up (dR PL DM X) a d := ⟨w, w, rfl, by rw [← hj]; exact h1, .self (hu w rfl).1⟩
      rcases hl with ⟨rfl, h⟩ | ⟨_, _, h⟩
      · refine .inl ⟨hj, rfl, o2, rfl, hu2, rfl, .inr ⟨rfl, h.2 hex, ?_⟩⟩
        rintro ⟨a, d, rfl, k2, k3⟩
        have := R.uniq k2 (by rw [← hj]; exact h1)
        subst this
        have h6 := k3.le R.di.good
        have h7 := (hgd a h5).1
        omega
      · exact absurd hex h
    · have hiff : (∃ a d, some w = some a ∧ (ordR X)[d]? = some n ∧ Up (dR PL DM X) a d) ↔ ∃ a d, o2 = some a ∧ (ordR X)[d]? = some n ∧ Up (dR PL DM X) a d := by
        constructor
        · rintro ⟨a, d, e, k2, k3⟩
          injection e with e; subst e
          rcases UpO.up h5 k3 with rfl | h6
          · rw [h1] at k2; injection k2 with k2; exact absurd k2 hj
          · cases o2 with
            | none => exact h6.elim
            | some b => exact ⟨b, d, rfl, k2, h6⟩
        · rintro ⟨a, d, rfl, k2, k3⟩
          exact ⟨w, d, rfl, k2, .step h5 k3⟩
      rw [hiff] at hl
      exact .inr ⟨hj, o2, rfl, hu2, rfl, hl⟩
end Go.Proofs.Ytfmllmcjinjfaaa
