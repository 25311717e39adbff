/-
  Owns, plain: what the list of those who keep has, thing by thing.
-/
import Derived.Test.YtfmllmcjinjfaaaMrO11
namespace Go.Proofs.Ytfmllmcjinjfaaa
open Go Go.RowKit
set_option linter.unusedVariables false
set_option linter.unusedSimpArgs false
variable {has : List (List Int)} {roots : List Int} {PL DM : List Int} {FR : List Fr} {X : List Nat} {r : Nat}
abbrev nR (X : List Nat) : Nat := (ordR X).length
abbrev eR (PL : List Int) (FR : List Fr) (X : List Nat) : Nat → Nat → Prop := EL (nR X) (lsP (ordR X) PL FR)
abbrev rR (PL : List Int) (FR : List Fr) (X : List Nat) : Nat → Prop := RL (nR X) (lsP (ordR X) PL FR)
abbrev dR (PL DM : List Int) (X : List Nat) : Dm := dmP PL (ordR X) DM
theorem isS {D : Dm} {v : Nat} {o : Option Nat} (h : D v = some o) : (D v).isSome := by rw [h]; rfl
theorem mem_ordR {t : Nat} : (t : Int) ∈ ordR X ↔ t ∈ X := by
  unfold ordR
  rw [List.mem_reverse, List.mem_map]
  constructor
  · rintro ⟨a, h, e⟩
    have : a = t := by omega
    subst this; exact h
  · exact fun h => ⟨t, h, rfl⟩
theorem DomsR.plc (R : DomsR has roots PL DM FR X r) {t : Nat} (h : t ∈ X) : ∃ v, v < nR X ∧ (ordR X)[v]? = some (t : Int) ∧ PL[t]? = some (v : Int) := by
  obtain ⟨v, hv⟩ := List.getElem?_of_mem (mem_ordR.2 h)
  have hl := (List.getElem?_eq_some_iff.1 hv).1
  exact ⟨v, hl, hv, R.pl.at_ v t hl hv⟩
theorem DomsR.frm (R : DomsR has roots PL DM FR X r) {t v : Nat} (ht : t ∈ X) (hv : (ordR X)[v]? = some (t : Int)) : ∃ x, FR[t]? = some x ∧ lsP (ordR X) PL FR v = x.2.map (plO PL) := by
  have htn : t < FR.length := by rw [R.fi.fl]; exact R.fi.lt t ht
  refine ⟨FR[t], List.getElem?_eq_getElem htn, ?_⟩
  unfold lsP
  rw [hv]
  simp only [Int.toNat_natCast]
  rw [List.getD_eq_getElem?_getD, List.getElem?_eq_getElem htn]
  rfl
theorem DomsR.edge (R : DomsR has roots PL DM FR X r) {n k : Nat} (hn : n ∈ X) (he : edg has n k) : ∃ v i, v < nR X ∧ i < nR X ∧ (ordR X)[v]? = some (k : Int) ∧ (ordR X)[i]? = some (n : Int) ∧ eR PL FR X i v := by
  have hk := R.fi.cl n hn k he
  obtain ⟨v, h1, h2, h3⟩ := R.plc hk
  obtain ⟨i, h4, h5, h6⟩ := R.plc hn
  refine ⟨v, i, h1, h4, h2, h5, h1, h4, ?_⟩
  obtain ⟨x, h7, h8⟩ := R.frm hk h2
  rw [h8]
  have hm : (n : Int) ∈ x.2 := (R.fi.fr k x h7 n).2 (.inl ⟨n, hn, rfl, he⟩)
  refine List.mem_map.2 ⟨_, hm, ?_⟩
  unfold plO
  rw [if_neg (by omega)]
  simp only [Int.toNat_natCast]
  rw [List.getD_eq_getElem?_getD, h6]
  rfl
theorem DomsR.isrt (R : DomsR has roots PL DM FR X r) {t : Nat} (ht : (t : Int) ∈ roots) : ∃ v, v < nR X ∧ (ordR X)[v]? = some (t : Int) ∧ rR PL FR X v := by
  have hk := R.fi.rt t ht
  obtain ⟨v, h1, h2, h3⟩ := R.plc hk
  refine ⟨v, h1, h2, h1, ?_⟩
  obtain ⟨x, h7, h8⟩ := R.frm hk h2
  rw [h8]
  exact List.mem_map.2 ⟨-1, (R.fi.fr t x h7 (-1)).2 (.inr ⟨rfl, ht⟩), by unfold plO; rw [if_pos rfl]⟩
theorem DomsR.root (R : DomsR has roots PL DM FR X r) {t : Nat} (ht : (t : Int) ∈ roots) : DM[t]? = some (-1) := by
  obtain ⟨v, h1, h2, h3⟩ := R.isrt ht
  obtain ⟨o, h4, h5⟩ := R.fx.at_ v h1
  have : o = none := by
    cases o with
    | none => rfl
    | some a => exact absurd h3 ((h5.up a).1 (Up.self (h5.lt a rfl).2)).1
  subst this
  exact (R.tu.dm h2 h4).1
theorem DomsR.out (R : DomsR has roots PL DM FR X r) {t : Nat} (ht : t < has.length) (h : t ∉ X) : DM[t]? = some (-2) := by
  rw [R.ot t (fun q => h (mem_ordR.1 q)), List.getElem?_replicate, if_pos ht]
def UpI (PL DM : List Int) (X : List Nat) (y up : Int) (m : Nat) : Prop := ∃ o u, y = idO (ordR X) o ∧ up = idO (ordR X) u ∧ (∀ w, u = some w → (dR PL DM X w).isSome ∧ w < nR X) ∧ (∀ a, o = some a → a < nR X ∧ ∃ w, u = some w ∧ Up (dR PL DM X) w a) ∧ m = szO u
theorem DomsR.to (R : DomsR has roots PL DM FR X r) {n k : Nat} (hn : n ∈ X) (he : edg has n k) : ∃ y, DM[k]? = some y ∧ ¬ y = -2 ∧ ∃ m, UpI PL DM X y (n : Int) m := by
  obtain ⟨v, i, h1, h2, h3, h4, h5⟩ := R.edge hn he
  obtain ⟨o, h6, h7⟩ := R.fx.at_ v h1
  obtain ⟨o2, h8, _⟩ := R.fx.at_ i h2
  have hs : (dR PL DM X i).isSome := (isS h8)
  refine ⟨_, (R.tu.dm h3 h6).1, idO_ne R.tu (R.tu.dm h3 h6).2, _, o, some i, rfl, ?_, fun w e => by injection e with e; subst e; exact ⟨hs, h2⟩, fun a e => ⟨(R.tu.dm h3 h6).2 a e, i, rfl, ?_⟩, rfl⟩
  · show _ = (ordR X).getD i 0
    rw [List.getD_eq_getElem?_getD, h4]; rfl
  · subst e
    exact ((h7.up a).1 (Up.self (h7.lt a rfl).2)).2 i h5 hs
theorem UpI.next (R : DomsR has roots PL DM FR X r) {y up : Int} {m : Nat} (h : UpI PL DM X y up m) : (up = y ∧ (y = -1 ∨ ∃ j : Nat, y = (j : Int))) ∨ (¬ up = y ∧ ∃ j : Nat, up = (j : Int) ∧ j < DM.length ∧ ∃ y2 m2, DM[j]? = some y2 ∧ m2 < m ∧ UpI PL DM X y y2 m2) := by
  obtain ⟨o, u, rfl, rfl, hu, ho, rfl⟩ := h
  by_cases e : u = o
  · subst e
    refine .inl ⟨rfl, ?_⟩
    cases u with
    | none => exact .inl rfl
    | some w =>
      obtain ⟨j, _, h, _⟩ := R.tu.at_ (hu w rfl).2
      exact .inr ⟨j, h⟩
  · refine .inr ⟨fun h => e ((R.tu.ne (fun x hx => (hu x hx).2) (fun x hx => (ho x hx).1)).1 h), ?_⟩
    cases u with
    | none =>
      cases o with
      | none => exact absurd rfl e
      | some a => obtain ⟨w, h, _⟩ := (ho a rfl).2; cases h
    | some w =>
      obtain ⟨j, h1, h2, _, h4, _⟩ := R.tu.at_ (hu w rfl).2
      obtain ⟨o2, h5⟩ := Option.isSome_iff_exists.1 (hu w rfl).1
      refine ⟨j, h2, h4, _, szO o2, (R.tu.dm h1 h5).1, ?_, o, o2, rfl, rfl, fun b hb => ?_, fun a ha => ⟨(ho a ha).1, ?_⟩, rfl⟩
      · cases o2 with
        | none => show 0 < w + 1; omega
        | some b => have := (R.di.good.lt w b h5).1; show b + 1 < w + 1; omega
      · subst hb
        exact ⟨(R.di.good.lt w b h5).2, (R.tu.dm h1 h5).2 b rfl⟩
      · obtain ⟨w2, hw, hup⟩ := (ho a ha).2
        injection hw with hw; subst hw
        rcases UpO.up h5 hup with rfl | h
        · exact absurd ha.symm e
        · cases o2 with
          | none => exact h.elim
          | some b => exact ⟨b, rfl, h⟩
end Go.Proofs.Ytfmllmcjinjfaaa

namespace Go.Proofs.Ytfmllmcjinjfaaa
open Go Go.RowKit
set_option linter.unusedVariables false
set_option linter.unusedSimpArgs false
variable {has : List (List Int)} {roots : List Int} {PL DM : List Int} {FR : List Fr} {X : List Nat} {r : Nat} {n : Int}
open Classical in
noncomputable def risP (P : Nat → Prop) (k : Nat) : List Int := ((List.range k).filter (fun i => decide (P i))).map Int.ofNat
theorem mem_risP {P : Nat → Prop} {k : Nat} {x : Int} : x ∈ risP P k ↔ ∃ j : Nat, x = (j : Int) ∧ j < k ∧ P j := by
  unfold risP
  rw [List.mem_map]
  constructor
  · rintro ⟨j, h, rfl⟩
    obtain ⟨h1, h2⟩ := List.mem_filter.1 h
    exact ⟨j, rfl, List.mem_range.1 h1, by simpa using h2⟩
  · rintro ⟨j, rfl, h1, h2⟩
    exact ⟨j, List.mem_filter.2 ⟨List.mem_range.2 h1, by simpa using h2⟩, rfl⟩
open Classical in
theorem risP_succ {P : Nat → Prop} {k : Nat} : risP P (k + 1) = if P k then risP P k ++ [(k : Int)] else risP P k := by
  unfold risP
  rw [List.range_succ, List.filter_append, List.map_append]
  split
  · rename_i h; rw [List.filter_cons_of_pos (by simpa using h)]; rfl
  · rename_i h; rw [List.filter_cons_of_neg (by simpa using h)]; simp
theorem risP_len {P : Nat → Prop} : ∀ (k : Nat), (risP P k).length ≤ k
  | 0 => by simp [risP]
  | k + 1 => by
    have := risP_len (P := P) k
    rw [risP_succ]
    split
    · rw [List.length_append]; simp; omega
    · omega
theorem risP_sum {P Q T : Nat → Prop} : ∀ (k : Nat), (∀ j, j < k → (P j ↔ Q j ∨ T j) ∧ ¬ (Q j ∧ T j)) → (risP Q k).length + (risP T k).length = (risP P k).length
  | 0, _ => by simp [risP]
  | k + 1, h => by
    have := risP_sum k (fun j hj => h j (by omega))
    obtain ⟨h1, h2⟩ := h k (by omega)
    rw [risP_succ, risP_succ, risP_succ]
    by_cases q : Q k
    · rw [if_pos q, if_neg (fun t => h2 ⟨q, t⟩), if_pos (h1.2 (.inl q)), List.length_append, List.length_append]; simp; omega
    · by_cases t : T k
      · rw [if_neg q, if_pos t, if_pos (h1.2 (.inr t)), List.length_append, List.length_append]; simp; omega
      · rw [if_neg q, if_neg t, if_neg (fun p => (h1.1 p).elim q t)]; exact this
open Classical in
theorem rising_risP {ps : List (Int × Int)} {l : List Int} : liveL has ps l = risP (Liv has ps l) has.length := by
  unfold liveL rising riseTo risP
  rw [liveSb_length]
  congr 1
  refine List.filter_congr fun i hi => ?_
  have h : (liveSb has ps l).getD i false = decide (Sn (liveSb has ps l) i) := by unfold Sn; simp
  rw [h]
  have := Sn_liveSb has ps l i
  have hi := List.mem_range.1 hi
  rw [decide_eq_decide, this]
  exact ⟨fun h => h.2, fun h => ⟨hi, h⟩⟩
def strip (n : Int) (l : List Int) : List Int := l.filter (fun x => decide (x ≠ n))
def woRow (has : List (List Int)) (n : Int) (k : Nat) : List Int := strip n (if (k : Int) = n then [] else has.getD k [])
def woTo (has : List (List Int)) (n : Int) (k : Nat) : List (List Int) := (List.range k).map (woRow has n)
def woH (has : List (List Int)) (n : Int) : List (List Int) := woTo has n has.length
theorem woTo_succ {k : Nat} : woTo has n (k + 1) = woTo has n k ++ [woRow has n k] := by unfold woTo; rw [List.range_succ, List.map_append]; rfl
theorem woTo_len {k : Nat} : (woTo has n k).length = k := by simp [woTo]
theorem mem_strip {l : List Int} {x : Int} : x ∈ strip n l ↔ x ∈ l ∧ x ≠ n := by unfold strip; rw [List.mem_filter]; simp
theorem strip_len {l : List Int} : (strip n l).length ≤ l.length := List.length_filter_le _ _
theorem woH_at {j : Nat} {x : Int} : x ∈ (woH has n).getD j [] ↔ x ∈ has.getD j [] ∧ x ≠ n ∧ ¬ (j : Int) = n := by
  have e : (woH has n).getD j [] = woRow has n j := by
    unfold woH woTo
    rw [List.getD_eq_getElem?_getD, List.getElem?_map]
    by_cases h : j < has.length
    · rw [List.getElem?_range h]; rfl
    · rw [List.getElem?_eq_none (by simpa using h)]
      unfold woRow
      rw [List.getD_eq_getElem?_getD, List.getElem?_eq_none (by omega)]
      simp [strip]
  rw [e]
  unfold woRow
  by_cases h : (j : Int) = n
  · rw [if_pos h]; simp [strip, h]
  · rw [if_neg h, mem_strip]; exact ⟨fun q => ⟨q.1, q.2, h⟩, fun q => ⟨q.1, q.2.1⟩⟩
theorem edg_at {u t : Nat} : (t : Int) ∈ has.getD u [] ↔ edg has u t := by
  unfold edg
  rw [List.getD_eq_getElem?_getD]
  cases h : has[u]? with
  | none => simp
  | some l => simp
theorem wo_check (h : checkE has roots = 0) : checkE (woH has n) (strip n roots) = 0 := by
  obtain ⟨q1, q2, q3, q4, q5⟩ := checkE_zero h
  have hl : (woH has n).length = has.length := woTo_len
  have hm : ∀ l ∈ woH has n, l.length ≤ 10 ∧ ∀ x ∈ l, 0 ≤ x ∧ x < (has.length : Int) := fun l hm => by
    obtain ⟨k, hk, rfl⟩ := List.mem_map.1 hm
    have hk := List.mem_range.1 hk
    unfold woRow
    have e : has.getD k [] ∈ has := by rw [List.getD_eq_getElem?_getD, List.getElem?_eq_getElem hk]; exact List.getElem_mem hk
    split
    · simp [strip]
    · exact ⟨Nat.le_trans strip_len (q3 _ e), fun x hx => q4.2 _ e x (mem_strip.1 hx).1⟩
  unfold checkE
  rw [if_neg (by have := strip_len (n := n) (l := roots); omega), if_neg (by rintro ⟨l, h1, h2⟩; have := (hm l h1).1; omega), if_pos]
  rintro l hl2 x hx
  rw [hl]
  rcases List.mem_cons.1 hl2 with h1 | h1
  · rw [h1] at hx; exact q5 x (mem_strip.1 hx).1
  · exact (hm l h1).2 x hx
def Kp (PL DM : List Int) (X : List Nat) (n : Int) (j : Nat) : Prop := ∃ v d, (ordR X)[v]? = some (j : Int) ∧ (ordR X)[d]? = some n ∧ Up (dR PL DM X) v d
theorem DomsR.uniq (R : DomsR has roots PL DM FR X r) {a b : Nat} {x : Int} (h1 : (ordR X)[a]? = some x) (h2 : (ordR X)[b]? = some x) : a = b := by
  have := R.tu.inj
  obtain ⟨ha, e1⟩ := List.getElem?_eq_some_iff.1 h1
  obtain ⟨hb, e2⟩ := List.getElem?_eq_some_iff.1 h2
  exact (List.getElem_inj this).1 (e1.trans e2.symm)
theorem DomsR.kpX (R : DomsR has roots PL DM FR X r) {j : Nat} (h : Kp PL DM X n j) : j ∈ X := by
  obtain ⟨v, d, h1, _⟩ := h
  exact mem_ordR.1 (List.mem_of_getElem? h1)
theorem DomsR.self (R : DomsR has roots PL DM FR X r) {j : Nat} (h : j ∈ X) : Kp PL DM X (j : Int) j := by
  obtain ⟨v, h1, h2, _⟩ := R.plc h
  obtain ⟨o, h3, _⟩ := R.fx.at_ v h1
  exact ⟨v, v, h2, h2, .self ((isS h3))⟩
theorem DomsR.liv (R : DomsR has roots PL DM FR X r) (hc : checkE has roots = 0) {j : Nat} : Liv has [] roots j ↔ j ∈ X := by
  obtain ⟨q1, q2, q3, q4, q5⟩ := checkE_zero hc
  constructor
  · intro h
    refine h (· ∈ X) (fun u hu k hk => ?_) (fun p hp => by cases hp) (fun x hx => ?_)
    · obtain ⟨h0, _⟩ := q4.at u k hk
      obtain ⟨t, rfl⟩ := Int.eq_ofNat_of_zero_le h0
      exact R.fi.cl u hu t (edg_at.1 hk)
    · obtain ⟨t, rfl⟩ := Int.eq_ofNat_of_zero_le (q5 x hx).1
      exact R.fi.rt t hx
  · intro h
    obtain ⟨i, hi⟩ := List.getElem?_of_mem h
    have key : ∀ (m i t : Nat), X.length - i ≤ m → X[i]? = some t → Liv has [] roots t := by
      intro m
      induction m with
      | zero => intro i t hm hi; have := (List.getElem?_eq_some_iff.1 hi).1; omega
      | succ m ih =>
        intro i t hm hi
        have hil := (List.getElem?_eq_some_iff.1 hi).1
        rcases R.fi.kin i t hi with h | ⟨i', u, h1, h2, h3⟩
        · exact Liv.base (x := (t : Int)) h
        · exact Liv.cl has [] roots u (ih i' u (by omega) h2) (t : Int) (edg_at.2 h3)
    exact key _ i j (Nat.le_refl _) hi
theorem plO_none {v : Int} (h : plO PL v = none) : v = -1 := by
  unfold plO at h
  split at h
  · assumption
  · cases h
theorem pth_live (R : DomsR has roots PL DM FR X r) {d0 : Nat} (hd : ∀ (v t : Nat), (ordR X)[v]? = some (t : Int) → (v = d0 ↔ (t : Int) = n)) {v k : Nat} {l : List Nat} (h : Pth (eR PL FR X) (rR PL FR X) v k l) (hl : d0 ∉ l) :
    ∀ t : Nat, (ordR X)[v]? = some (t : Int) → Liv (woH has n) [] (strip n roots) t := by
  have edge : ∀ {p v t : Nat}, Liv (woH has n) [] (strip n roots) = Liv (woH has n) [] (strip n roots) → eR PL FR X p v → p ≠ d0 → v ≠ d0 → (ordR X)[v]? = some (t : Int) → (∀ u : Nat, (ordR X)[p]? = some (u : Int) → Liv (woH has n) [] (strip n roots) u) → Liv (woH has n) [] (strip n roots) t := by
    intro p v t _ e hp hv ht ih
    obtain ⟨x, hx, hx2⟩ := R.frm (mem_ordR.1 (List.mem_of_getElem? ht)) ht
    have e3 := e.2.2
    rw [hx2] at e3
    obtain ⟨a, ha, ha2⟩ := List.mem_map.1 e3
    rcases (R.fi.fr t x hx a).1 ha with ⟨j, hj, rfl, he⟩ | ⟨rfl, _⟩
    · obtain ⟨w, hw1, hw2, hw3⟩ := R.plc hj
      have : w = p := by
        unfold plO at ha2
        rw [if_neg (by omega)] at ha2
        simp only [Int.toNat_natCast] at ha2
        rw [List.getD_eq_getElem?_getD, hw3] at ha2
        simpa using ha2
      subst this
      refine Liv.cl (woH has n) [] (strip n roots) j (ih j hw2) (t : Int) (woH_at.2 ⟨edg_at.2 he, fun q => hv ((hd v t ht).2 q), fun q => hp ((hd w j hw2).2 q)⟩)
    · unfold plO at ha2; rw [if_pos rfl] at ha2; cases ha2
  induction h with
  | @root v hr =>
    intro t ht
    obtain ⟨x, hx, hx2⟩ := R.frm (mem_ordR.1 (List.mem_of_getElem? ht)) ht
    have e3 := hr.2
    rw [hx2] at e3
    obtain ⟨a, ha, ha2⟩ := List.mem_map.1 e3
    have := plO_none ha2
    subst this
    rcases (R.fi.fr t x hx (-1)).1 ha with ⟨j, hj, e, _⟩ | ⟨_, h⟩
    · omega
    · refine Liv.base (x := (t : Int)) (mem_strip.2 ⟨h, fun q => ?_⟩)
      have := (hd v t ht).2 q
      subst this
      exact hl (by simp)
  | @fwd p v k l hp e lt ih =>
    intro t ht
    exact edge rfl e (fun q => hl (by subst q; exact List.mem_cons_of_mem _ hp.mem)) (fun q => hl (by subst q; simp)) ht (ih (fun q => hl (List.mem_cons_of_mem _ q)))
  | @ret p v k l hp e lt ih =>
    intro t ht
    exact edge rfl e (fun q => hl (by subst q; exact List.mem_cons_of_mem _ hp.mem)) (fun q => hl (by subst q; simp)) ht (ih (fun q => hl (List.mem_cons_of_mem _ q)))
theorem DomsR.wo (R : DomsR has roots PL DM FR X r) (hc : checkE has roots = 0) {j : Nat} : Liv (woH has n) [] (strip n roots) j ↔ j ∈ X ∧ ¬ Kp PL DM X n j := by
  obtain ⟨q1, q2, q3, q4, q5⟩ := checkE_zero hc
  constructor
  · intro h
    refine h (fun j => j ∈ X ∧ ¬ Kp PL DM X n j) (fun u hu k hk => ?_) (fun p hp => by cases hp) (fun x hx => ?_)
    · obtain ⟨h1, h2, h3⟩ := woH_at.1 hk
      obtain ⟨h0, _⟩ := q4.at u k h1
      obtain ⟨t, rfl⟩ := Int.eq_ofNat_of_zero_le h0
      have he := edg_at.1 h1
      refine ⟨R.fi.cl u hu.1 t he, ?_⟩
      rintro ⟨v, d, k1, k2, k3⟩
      obtain ⟨v', i, e1, e2, e3, e4, e5⟩ := R.edge hu.1 he
      have := R.uniq k1 e3
      subst this
      obtain ⟨o, e6, e7⟩ := R.fx.at_ v e1
      obtain ⟨o2, e8, _⟩ := R.fx.at_ i e2
      rcases UpO.up e6 k3 with rfl | h4
      · rw [k1] at k2; injection k2 with k2; exact h2 k2
      · exact hu.2 ⟨i, d, e4, k2, ((e7.up d).1 h4).2 i e5 ((isS e8))⟩
    · obtain ⟨h1, h2⟩ := mem_strip.1 hx
      obtain ⟨t, rfl⟩ := Int.eq_ofNat_of_zero_le (q5 x h1).1
      refine ⟨R.fi.rt t h1, ?_⟩
      rintro ⟨v, d, k1, k2, k3⟩
      obtain ⟨v', e1, e2, e3⟩ := R.isrt h1
      have := R.uniq k1 e2
      subst this
      obtain ⟨o, e6, e7⟩ := R.fx.at_ v e1
      rcases UpO.up e6 k3 with rfl | h4
      · rw [k1] at k2; injection k2 with k2; exact h2 k2
      · exact ((e7.up d).1 h4).1 e3
  · rintro ⟨hj, hk⟩
    obtain ⟨v, h1, h2, _⟩ := R.plc hj
    obtain ⟨d0, hd, hn⟩ : ∃ d0, (∀ (v t : Nat), (ordR X)[v]? = some (t : Int) → (v = d0 ↔ (t : Int) = n)) ∧ ¬ Up (dR PL DM X) v d0 := by
      by_cases hm : n ∈ ordR X
      · obtain ⟨d, hd⟩ := List.getElem?_of_mem hm
        refine ⟨d, fun v t ht => ⟨fun e => by subst e; rw [hd] at ht; injection ht with ht; exact ht.symm, fun e => by subst e; exact R.uniq ht hd⟩, fun h => hk ⟨v, d, h2, hd, h⟩⟩
      · refine ⟨nR X, fun v t ht => ⟨fun e => ?_, fun e => ?_⟩, fun h => ?_⟩
        · have h9 : v < nR X := (List.getElem?_eq_some_iff.1 ht).1; omega
        · subst e; exact absurd (List.mem_of_getElem? ht) hm
        · have h4 := h.le R.di.good; have h5 : v < nR X := h1; omega
    have hne : ¬ Keep1 (eR PL FR X) (rR PL FR X) v d0 := fun h => hn ((R.fx.iff R.di (fun p v h => ⟨h.2.1, h.1⟩) (fun v h => h.1) h1).2 h)
    obtain ⟨k, l, hp, hnl⟩ : ∃ k l, Pth (eR PL FR X) (rR PL FR X) v k l ∧ d0 ∉ l := Classical.byContradiction fun h => hne fun k l hp => Classical.byContradiction fun hm => h ⟨k, l, hp, hm⟩
    exact pth_live R hd hp hnl j h2
def KW (PL DM : List Int) (X : List Nat) (n : Int) (k : Nat) (l : List Int) (up : Int) (m : Nat) : Prop := ∃ u, up = idO (ordR X) u ∧ (∀ w, u = some w → (dR PL DM X w).isSome ∧ w < nR X) ∧ m = szO u ∧
  ((l = [] ∧ (Kp PL DM X n k ↔ ∃ a d, u = some a ∧ (ordR X)[d]? = some n ∧ Up (dR PL DM X) a d)) ∨ (l = [(k : Int)] ∧ Kp PL DM X n k ∧ ¬ ∃ a d, u = some a ∧ (ordR X)[d]? = some n ∧ Up (dR PL DM X) a d))
theorem DomsR.kw (R : DomsR has roots PL DM FR X r) {k : Nat} (hk : k ∈ X) : ∃ m, KW PL DM X n k [] (k : Int) m := by
  obtain ⟨v, h1, h2, _⟩ := R.plc hk
  obtain ⟨o, h3, _⟩ := R.fx.at_ v h1
  refine ⟨_, some v, ?_, fun w e => by injection e with e; subst e; exact ⟨(isS h3), h1⟩, rfl, .inl ⟨rfl, ?_⟩⟩
  · show _ = (ordR X).getD v 0
    rw [List.getD_eq_getElem?_getD, h2]; rfl
  · constructor
    · rintro ⟨v', d, k1, k2, k3⟩
      have := R.uniq k1 h2
      subst this
      exact ⟨v', d, rfl, k2, k3⟩
    · rintro ⟨a, d, e, k2, k3⟩
      injection e with e; subst e
      exact ⟨v, d, h2, k2, k3⟩
open Classical in
theorem KW.next (R : DomsR has roots PL DM FR X r) {k : Nat} {l : List Int} {up : Int} {m : Nat} (h : KW PL DM X n k l up m) : (up = -1 ∧ l = if Kp PL DM X n k then [(k : Int)] else []) ∨
    ∃ j : Nat, up = (j : Int) ∧ j < DM.length ∧ ∃ y m2, DM[j]? = some y ∧ ¬ y = -2 ∧ m2 < m ∧ (((j : Int) = n ∧ l = [] ∧ KW PL DM X n k [(k : Int)] y m2) ∨ (¬ (j : Int) = n ∧ KW PL DM X n k l y m2)) := by
  obtain ⟨u, rfl, hu, rfl, hl⟩ := h
  cases u with
  | none =>
    refine .inl ⟨rfl, ?_⟩
    rcases hl with ⟨rfl, h⟩ | ⟨rfl, h, _⟩
    · rw [if_neg (fun q => by obtain ⟨a, d, e, _⟩ := h.1 q; cases e)]
    · rw [if_pos h]
  | some w =>
    obtain ⟨j, h1, h2, _, h4, _⟩ := R.tu.at_ (hu w rfl).2
    obtain ⟨o2, h5⟩ := Option.isSome_iff_exists.1 (hu w rfl).1
    have hgd := fun b h => R.di.good.lt w b h
    have hu2 : ∀ b, o2 = some b → (dR PL DM X b).isSome ∧ b < nR X := fun b hb => by subst hb; exact ⟨(hgd b h5).2, (R.tu.dm h1 h5).2 b rfl⟩
    have hm2 : szO o2 < szO (some w) := by
      cases o2 with
      | none => show 0 < w + 1; omega
      | some b => have := (hgd b h5).1; show b + 1 < w + 1; omega
    refine .inr ⟨j, h2, h4, _, szO o2, (R.tu.dm h1 h5).1, idO_ne R.tu (R.tu.dm h1 h5).2, hm2, ?_⟩
    by_cases hj : (j : Int) = n
    · have hex : ∃ a d, some w = some a ∧ (ordR X)[d]? = some n ∧ Up (dR PL DM X) a d := ⟨w, w, rfl, by rw [← hj]; exact h1, .self (hu w rfl).1⟩
      rcases hl with ⟨rfl, h⟩ | ⟨_, _, h⟩
      · refine .inl ⟨hj, rfl, o2, rfl, hu2, rfl, .inr ⟨rfl, h.2 hex, ?_⟩⟩
        rintro ⟨a, d, rfl, k2, k3⟩
        have := R.uniq k2 (by rw [← hj]; exact h1)
        subst this
        have h6 := k3.le R.di.good
        have h7 := (hgd a h5).1
        omega
      · exact absurd hex h
    · have hiff : (∃ a d, some w = some a ∧ (ordR X)[d]? = some n ∧ Up (dR PL DM X) a d) ↔ ∃ a d, o2 = some a ∧ (ordR X)[d]? = some n ∧ Up (dR PL DM X) a d := by
        constructor
        · rintro ⟨a, d, e, k2, k3⟩
          injection e with e; subst e
          rcases UpO.up h5 k3 with rfl | h6
          · rw [h1] at k2; injection k2 with k2; exact absurd k2 hj
          · cases o2 with
            | none => exact h6.elim
            | some b => exact ⟨b, d, rfl, k2, h6⟩
        · rintro ⟨a, d, rfl, k2, k3⟩
          exact ⟨w, d, rfl, k2, .step h5 k3⟩
      rw [hiff] at hl
      exact .inr ⟨hj, o2, rfl, hu2, rfl, hl⟩
end Go.Proofs.Ytfmllmcjinjfaaa

namespace Go.Proofs.Ytfmllmcjinjfaaa
open Go Go.RowKit
set_option linter.unusedVariables false
set_option linter.unusedSimpArgs false
variable {tb : List (FuncId × Bool)} {L : Nat → Bool} {H : ZH} {K : ZV → ZH → Prop}
variable {ex exr : Bool} {has : List (List Int)} {roots : List Int} {n : Int}
set_option maxHeartbeats 8000000 in
theorem keeps_z (hK0 : checkE has roots ≠ 0 → K (.tuple [.nil, Z64 (checkE has roots)]) H)
    (hK5 : checkE has roots = 0 → ¬ (0 ≤ n ∧ n < (has.length : Int)) → K (.tuple [.nil, Z64 5]) H)
    (hK : checkE has roots = 0 → 0 ≤ n → n < (has.length : Int) → ∀ PL DM FR X r, DomsR has roots PL DM FR X r → K (.tuple [.fz 1 false ((risP (Kp PL DM X n) has.length).map eI), Z64 0]) H) :
    ZC (constX tb) (cFunc Try.prog) 12 [.agg [.fz 1 ex (has.map eL), .fz 1 exr (roots.map eI)], Z64 n] L H K := by
  refine ZC.enterL ⟨[(8, [(0, 1)])], [], []⟩ constX_none f_ow_keeps (by simp) fun hL => ?_
  simp only [c_ow_keeps]
  have H0 := Lib.hid hK0
  have H5 := Lib.hid hK5
  have H1 := Lib.hid hK
  have HL := Lib.hid hL
  clear hK0 hK5 hK hL
  repeat' (first | (simp only [zmPack, zxPack, ne_eq, zfree, owners, Nat.reduceLT, List.contains_cons, List.contains_nil, Nat.reduceBEq, BEq.rfl, chunk, setAt, List.lookup_cons, List.lookup_nil, reduceCtorEq, Nat.reduceEqDiff, reduceIte, implies_true, forall_const, Nat.reduceMul, Nat.reduceSub, Nat.reduceAdd, Nat.reduceLeDiff, *]) | (simp only [zgoO, zgoG, zO_nil, zthen_normal, zgoC]) | (with_reducible apply And.intro) | (with_reducible intro _))
  refine check_z (has := has) (roots := roots) (by simp [rowsZ]) (by simp [rowsZ]) ?_
  by_cases hc : checkE has roots = 0
  · obtain ⟨q1, q2, q3, q4, q5⟩ := checkE_zero hc
    have H1 := Lib.hid (H1.out hc)
    have H5 := Lib.hid (H5.out hc)
    have HC := Lib.hid hc
    rw [hc]
    clear H0 hc
    by_cases hn : 0 ≤ n ∧ n < (has.length : Int)
    · obtain ⟨n0, n1⟩ := hn
      have H1 := Lib.hid (H1.out n0 n1)
      obtain ⟨t, rfl⟩ := Int.eq_ofNat_of_zero_le n0
      have n2 : ¬ (has.length : Int) ≤ (t : Int) := by omega
      have n3 : ¬ has.length ≤ t := by omega
      have n4 : ¬ (t : Int) < 0 := by omega
      have HQ := Lib.hid (And.intro q1 (And.intro q2 (And.intro q3 (And.intro q4 (And.intro q5 n1)))))
      clear H5 n0 n1 q1 q2 q3 q4 q5
      repeat' (first | (simp only [zmPack, zxPack, ne_eq, zfree, owners, Nat.reduceLT, List.contains_cons, List.contains_nil, Nat.reduceBEq, BEq.rfl, chunk, setAt, List.lookup_cons, List.lookup_nil, reduceCtorEq, Nat.reduceEqDiff, reduceIte, implies_true, forall_const, Nat.reduceMul, Nat.reduceSub, Nat.reduceAdd, Nat.reduceLeDiff, n2, n3, n4, *]) | (simp only [zgoO, zgoG, zO_nil, zthen_normal, zgoC]) | (with_reducible apply And.intro) | (with_reducible intro _))
      clear n2 n3 n4
      obtain ⟨q1, q2, q3, q4, q5, n1⟩ := HQ.out
      refine doms_z q4 (fun l hl => by have := q3 l hl; omega) q1 (by omega) q5 (fun i hi => ?_) ?_
      · have := HL.out (i - H.length)
        rw [List.length_append] at hi
        rwa [show H.length + (i - H.length) = i by omega] at this
      · intro h p pb ob go fb db PL DM FR X r F T U FI P FT I FX hl hot hdb
        have R : DomsR has roots PL DM FR X r := ⟨U, FI, P, FT, I, FX, hl, hot⟩
        have hfr : ∀ i, i < H.length → h[i]? = H[i]? := fun i hi => by
          rw [F.2 i (by rw [List.length_append]; omega)]
          unfold domH
          rw [List.getElem?_append_left (by rw [List.length_append]; omega), List.getElem?_append_left hi]
        have hle : H.length ≤ h.length := by
          have := F.1
          unfold domH at this
          simp only [List.length_append] at this
          omega
        have FIN : ∀ g l, l = risP (Kp PL DM X (t : Int)) has.length → Fin H (.tuple [.own h.length g 0 l.length false, Z64 0]) (h ++ [.grow g 1 (l.map eI)]) K := fun g l e => by
          refine Fin.frzT (j := 0) (k := 1) (rows := l.map eI) rfl (mv_at0 _ _) (by simp) (mv_pure (fun r hr => by obtain ⟨x, _, rfl⟩ := List.mem_map.1 hr; rfl)) ?_
          rw [mv_st0, List.drop_zero, List.take_of_length_le (by simp)]
          have hfr2 : ∀ i, i < H.length → (h ++ [ZB.dead])[i]? = H[i]? := fun i hi => by rw [List.getElem?_append_left (by omega), hfr i hi]
          refine Fin.truncT (fun i B hi he => .inl (by rw [← hfr2 i hi]; exact he)) rfl ?_
          rw [take_pre (by rw [List.length_append]; omega) hfr2, e]
          exact H1.out PL DM FR X r R
        have hpl : p < h.length := (List.getElem?_eq_some_iff.1 T.box).1
        have hdl : db < h.length := (List.getElem?_eq_some_iff.1 T.dm).1
        have hbox := T.box
        have hdmm := T.dm
        generalize (ZB.box [.fz 1 ex (has.map eL), .fz 1 exr (roots.map eI), .own pb 0 0 PL.length false, .own ob go 0 (ordR X).length false, .own fb 0 0 FR.length true, .own db 0 0 DM.length false]) = BX at hbox
        have hb : ∀ Y, (h ++ Y)[p]? = some (.box [.fz 1 ex (has.map eL), .fz 1 exr (roots.map eI), .own pb 0 0 PL.length false, .own ob go 0 (ordR X).length false, .own fb 0 0 FR.length true, .own db 0 0 DM.length false]) := fun Y => by rw [List.getElem?_append_left hpl]; exact T.box
        have hdm : ∀ Y, (h ++ Y)[db]? = some (.grow 0 1 (DM.map eI)) := fun Y => by rw [List.getElem?_append_left hdl]; exact T.dm
        have hlz : ∀ Y, lenZ (h ++ Y) (.own db 0 0 DM.length false) = some DM.length := fun Y => by rw [len_own]; exact ⟨_, _, hdm Y, rfl⟩
        have ed : ∀ Y j, j < DM.length → elemZ (h ++ Y) 1 j (.own db 0 0 DM.length false) = some (.eptr db 0 j 0) := fun Y j hj => by rw [elem_own]; exact ⟨_, hdm Y, by simp, hj, by simp⟩
        have ld : ∀ Y (j : Nat) x, DM[j]? = some x → ldZ (h ++ Y) none (.eptr db 0 j 0) = some (Z64 x) := fun Y j x hx => by rw [ld_eptr]; exact ⟨_, _, _, hdm Y, by rw [List.getElem?_map, hx]; rfl, rfl⟩
        have l0 : L h.length = true := by have := HL.out (h.length - H.length); rwa [show H.length + (h.length - H.length) = h.length by omega] at this
        have hap : ∀ g (B : List Int) (k : Nat), B.length ≤ 1000 → appZ L (h ++ [.grow g 1 (B.map eI)]) 1 8 [[Z64 (k : Int)]] (.own h.length g 0 B.length false) = some (.own h.length (g + 1) 0 (B.length + 1) false, h ++ [.grow (g + 1) 1 ((B ++ [(k : Int)]).map eI)]) := fun g B k hB => by
          rw [app_ownN (mv_at0 _ _) (by simp) (by unfold reach; simp; omega) l0, mv_st0, List.map_append]; rfl
        have hb0 := hb []
        rw [List.append_nil] at hb0
        have hlz0 := hlz []
        rw [List.append_nil] at hlz0
        have hdN : DM.length ≤ 100 := by omega
        have HFN := Lib.hid FIN
        have HE := Lib.hid (And.intro ed (And.intro ld hap))
        have HR := Lib.hid R
        have HLN := Lib.hid hl
        clear FIN ed ld hap R F T U FI P FT I FX hl hot hdb hfr hle hpl hdl hbox hdmm hdm H1 HL HQ q1 q2 q3 q4 q5 n1 l0
        repeat' (first | (simp only [zmPack, zxPack, ne_eq, zfree, owners, Nat.reduceLT, List.contains_cons, List.contains_nil, Nat.reduceBEq, BEq.rfl, chunk, setAt, List.lookup_cons, List.lookup_nil, reduceCtorEq, Nat.reduceEqDiff, reduceIte, implies_true, forall_const, Nat.reduceMul, Nat.reduceSub, Nat.reduceAdd, Nat.reduceLeDiff, hb0, hlz0, *]) | (simp only [zgoO, zgoG, zO_nil, zthen_normal, zgoC]) | (with_reducible apply And.intro) | (with_reducible intro _))
        clear hb0 hlz0
        refine zW_forK [(7, .ptr p 0), (1, Z64 (t : Int))] DM.length (fun k s' h' => ∃ g, s' 8 = .own h.length g 0 (risP (Kp PL DM X (t : Int)) k).length false ∧ h' = h ++ [.grow g 1 ((risP (Kp PL DM X (t : Int)) k).map eI)]) (by omega) ⟨rfl, rfl, rfl, rfl, rfl, rfl⟩ rfl rfl (by repeat' (first | exact trivial | (refine ⟨rfl, ?_⟩) | (refine ⟨by simp only [zupd_at, Nat.reduceEqDiff, reduceIte]; assumption, ?_⟩))) rfl rfl (by decide) ⟨0, rfl, rfl⟩ ?_ ?_
        · rintro k s' h' hk ⟨g, f8, rfl⟩ hi hlk ⟨f7, f1, -⟩
          have hrl := risP_len (P := Kp PL DM X (t : Int)) k
          have hsc := risP_succ (P := Kp PL DM X (t : Int)) (k := k)
          obtain ⟨B, hB⟩ : ∃ B, B = risP (Kp PL DM X (t : Int)) k := ⟨_, rfl⟩
          rw [← hB] at f8 hrl hsc ⊢
          have HS := Lib.hid hsc
          have HRL := Lib.hid hrl
          clear hB hsc hrl
          by_cases hkX : k ∈ X
          · obtain ⟨m0, hm0⟩ := HR.out.kw (n := (t : Int)) hkX
            have HM := Lib.hid hm0
            clear hm0
            repeat' (first | (simp only [zmPack, zxPack, ne_eq, zfree, owners, Nat.reduceLT, List.contains_cons, List.contains_nil, Nat.reduceBEq, BEq.rfl, chunk, setAt, List.lookup_cons, List.lookup_nil, reduceCtorEq, Nat.reduceEqDiff, reduceIte, implies_true, forall_const, Nat.reduceMul, Nat.reduceSub, Nat.reduceAdd, Nat.reduceLeDiff, *]) | (simp only [zgoO, zgoG, zO_nil, zthen_normal, zgoC]) | (with_reducible apply And.intro) | (with_reducible intro _))
            refine zW_whileK [(7, .ptr p 0), (1, Z64 (t : Int)), (9, Z64 (k : Int))] m0 (fun m s2 h2 => ∃ up l g2, s2 10 = Z64 up ∧ s2 8 = .own h.length g2 0 (B ++ l).length false ∧ h2 = h ++ [.grow g2 1 ((B ++ l).map eI)] ∧ KW PL DM X (t : Int) k l up m) (by repeat' (first | exact trivial | (refine ⟨rfl, ?_⟩) | (refine ⟨by simp only [zupd_at, Nat.reduceEqDiff, reduceIte]; assumption, ?_⟩))) rfl ⟨_, [], g, rfl, by rw [List.append_nil]; exact f8, by rw [List.append_nil], HM.out⟩ ?_
            clear HM f8 f1 f7
            rintro m s2 h2 ⟨up, l, g2, f10, f8, rfl, hW⟩ ⟨f7, f1, f9, -⟩
            rcases hW.next HR.out with ⟨rfl, hl⟩ | ⟨j, rfl, hj, y, m2, hy, hn, hm, ⟨e, rfl, hW2⟩ | ⟨hne, hW2⟩⟩
            · have fin : ∃ g3, s2 8 = .own h.length g3 0 (risP (Kp PL DM X (t : Int)) (k + 1)).length false ∧ h ++ [.grow g2 1 ((B ++ l).map eI)] = h ++ [.grow g3 1 ((risP (Kp PL DM X (t : Int)) (k + 1)).map eI)] := by
                have e : B ++ l = risP (Kp PL DM X (t : Int)) (k + 1) := by
                  rw [HS.out, hl]
                  split
                  · rfl
                  · simp
                rw [← e]
                exact ⟨g2, f8, rfl⟩
              have HQ2 := Lib.hid (show B ++ l = risP (Kp PL DM X (t : Int)) (k + 1) by
                rw [HS.out, hl]
                split
                · rfl
                · simp)
              have m1 : ¬ (0 : Int) ≤ -1 := by decide
              clear fin hl hW
              repeat' (first | (simp only [zmPack, zxPack, ne_eq, zfree, owners, Nat.reduceLT, List.contains_cons, List.contains_nil, Nat.reduceBEq, BEq.rfl, chunk, setAt, List.lookup_cons, List.lookup_nil, reduceCtorEq, Nat.reduceEqDiff, reduceIte, implies_true, forall_const, Nat.reduceMul, Nat.reduceSub, Nat.reduceAdd, Nat.reduceLeDiff, *]) | (simp only [zgoO, zgoG, zO_nil, zthen_normal, zgoC]) | (with_reducible apply And.intro) | (with_reducible intro _))
              all_goals (rw [← HQ2.out]; first | done | rw [List.length_append])
            · have e : t = j := by omega
              subst e
              have e1 := HE.out.1 [.grow g2 1 ((B ++ []).map eI)] t hj
              have l1 := HE.out.2.1 [.grow g2 1 ((B ++ []).map eI)] t y hy
              have e2 := HE.out.1 [.grow (g2 + 1) 1 ((B ++ [(k : Int)]).map eI)] t hj
              have l2 := HE.out.2.1 [.grow (g2 + 1) 1 ((B ++ [(k : Int)]).map eI)] t y hy
              have ap := HE.out.2.2 g2 B k (by have := HRL.out; omega)
              have HW := Lib.hid (And.intro hm hW2)
              rw [List.append_nil] at f8 e1 l1 ⊢
              clear hW hm hW2 hy hj
              have m1 : (0 : Int) ≤ (t : Int) := Int.natCast_nonneg t
              repeat' (first | (simp only [zmPack, zxPack, ne_eq, zfree, owners, Nat.reduceLT, List.contains_cons, List.contains_nil, Nat.reduceBEq, BEq.rfl, chunk, setAt, List.lookup_cons, List.lookup_nil, reduceCtorEq, Nat.reduceEqDiff, reduceIte, implies_true, forall_const, Nat.reduceMul, Nat.reduceSub, Nat.reduceAdd, Nat.reduceLeDiff, e1, l1, hb, ap, e2, l2, *]) | (simp only [zgoO, zgoG, zO_nil, zthen_normal, zgoC]) | (with_reducible apply And.intro) | (with_reducible intro _))
              all_goals exact ⟨_, HW.out.1, [(k : Int)], rfl, rfl, HW.out.2⟩
            · have e1 := HE.out.1 [.grow g2 1 ((B ++ l).map eI)] j hj
              have l1 := HE.out.2.1 [.grow g2 1 ((B ++ l).map eI)] j y hy
              have HW := Lib.hid (And.intro hm hW2)
              clear hW hm hW2 hy hj
              have m1 : (0 : Int) ≤ (j : Int) := Int.natCast_nonneg j
              repeat' (first | (simp only [zmPack, zxPack, ne_eq, zfree, owners, Nat.reduceLT, List.contains_cons, List.contains_nil, Nat.reduceBEq, BEq.rfl, chunk, setAt, List.lookup_cons, List.lookup_nil, reduceCtorEq, Nat.reduceEqDiff, reduceIte, implies_true, forall_const, Nat.reduceMul, Nat.reduceSub, Nat.reduceAdd, Nat.reduceLeDiff, e1, l1, hb, *]) | (simp only [zgoO, zgoG, zO_nil, zthen_normal, zgoC]) | (with_reducible apply And.intro) | (with_reducible intro _))
              all_goals exact ⟨_, HW.out.1, l, rfl, rfl, HW.out.2⟩
          · have hd := HR.out.out (by have := HLN.out; omega) hkX
            have hkl : k < DM.length := hk
            have e1 := HE.out.1 [.grow g 1 (B.map eI)] k hkl
            have l1 := HE.out.2.1 [.grow g 1 (B.map eI)] k _ hd
            have fin : ∃ g3, s' 8 = .own h.length g3 0 (risP (Kp PL DM X (t : Int)) (k + 1)).length false ∧ h ++ [.grow g 1 (B.map eI)] = h ++ [.grow g3 1 ((risP (Kp PL DM X (t : Int)) (k + 1)).map eI)] := by
              rw [HS.out, if_neg (fun q => hkX (HR.out.kpX q))]
              exact ⟨g, f8, rfl⟩
            have FF := Lib.hid fin
            have HQ2 := Lib.hid (show B = risP (Kp PL DM X (t : Int)) (k + 1) by rw [HS.out, if_neg (fun q => hkX (HR.out.kpX q))])
            clear fin hd hkl hkX
            repeat' (first | (simp only [zmPack, zxPack, ne_eq, zfree, owners, Nat.reduceLT, List.contains_cons, List.contains_nil, Nat.reduceBEq, BEq.rfl, chunk, setAt, List.lookup_cons, List.lookup_nil, reduceCtorEq, Nat.reduceEqDiff, reduceIte, implies_true, forall_const, Nat.reduceMul, Nat.reduceSub, Nat.reduceAdd, Nat.reduceLeDiff, *]) | (simp only [zgoO, zgoG, zO_nil, zthen_normal, zgoC]) | (with_reducible apply And.intro) | (with_reducible intro _))
            refine zW_whileK [(7, .ptr p 0), (1, Z64 (t : Int)), (9, Z64 (k : Int))] 0 (fun m s2 h2 => s2 10 = Z64 (k : Int) ∧ s2 8 = s' 8 ∧ h2 = h ++ [.grow g 1 (B.map eI)]) (by repeat' (first | exact trivial | (refine ⟨rfl, ?_⟩) | (refine ⟨by simp only [zupd_at, Nat.reduceEqDiff, reduceIte]; assumption, ?_⟩))) rfl ⟨rfl, rfl, rfl⟩ ?_
            rintro m s2 h2 ⟨f10, f8', rfl⟩ ⟨f7, f1, f9, -⟩
            have m1 : (0 : Int) ≤ (k : Int) := Int.natCast_nonneg k
            repeat' (first | (simp only [zmPack, zxPack, ne_eq, zfree, owners, Nat.reduceLT, List.contains_cons, List.contains_nil, Nat.reduceBEq, BEq.rfl, chunk, setAt, List.lookup_cons, List.lookup_nil, reduceCtorEq, Nat.reduceEqDiff, reduceIte, implies_true, forall_const, Nat.reduceMul, Nat.reduceSub, Nat.reduceAdd, Nat.reduceLeDiff, e1, l1, hb, *]) | (simp only [zgoO, zgoG, zO_nil, zthen_normal, zgoC]) | (with_reducible apply And.intro) | (with_reducible intro _))
            all_goals first | exact FF.out | (rw [← HQ2.out]; done) | (rw [← HQ2.out])
        · rintro s' h' ⟨g, f8, rfl⟩ ⟨f7, f1, -⟩
          rw [HLN.out] at f8 ⊢
          have fin := HFN.out g _ rfl
          clear HE
          generalize risP (Kp PL DM X (t : Int)) has.length = B at f8 fin ⊢
          repeat' (first | (simp only [zmPack, zxPack, ne_eq, zfree, owners, Nat.reduceLT, List.contains_cons, List.contains_nil, Nat.reduceBEq, BEq.rfl, chunk, setAt, List.lookup_cons, List.lookup_nil, reduceCtorEq, Nat.reduceEqDiff, reduceIte, implies_true, forall_const, Nat.reduceMul, Nat.reduceSub, Nat.reduceAdd, Nat.reduceLeDiff, *]) | (simp only [zgoO, zgoG, zO_nil, zthen_normal, zgoC]) | (with_reducible apply And.intro) | (with_reducible intro _))
    · have fin : Fin H (.tuple [.nil, Z64 5]) (H ++ [.box [.fz 1 ex (has.map eL), .fz 1 exr (roots.map eI)]]) K :=
        Fin.truncT (Mods.ext H _) rfl (by rw [List.take_left]; exact H5.out hn)
      clear H1 H5 HL HC q1 q2 q3 q4 q5
      by_cases h0 : n < 0
      · repeat' (first | (simp only [zmPack, zxPack, ne_eq, zfree, owners, Nat.reduceLT, List.contains_cons, List.contains_nil, Nat.reduceBEq, BEq.rfl, chunk, setAt, List.lookup_cons, List.lookup_nil, reduceCtorEq, Nat.reduceEqDiff, reduceIte, implies_true, forall_const, Nat.reduceMul, Nat.reduceSub, Nat.reduceAdd, Nat.reduceLeDiff, h0, *]) | (simp only [zgoO, zgoG, zO_nil, zthen_normal, zgoC]) | (with_reducible apply And.intro) | (with_reducible intro _))
      · obtain ⟨t, rfl⟩ := Int.eq_ofNat_of_zero_le (show 0 ≤ n by omega)
        have n2 : (has.length : Int) ≤ (t : Int) := by omega
        have n3 : has.length ≤ t := by omega
        clear hn h0
        repeat' (first | (simp only [zmPack, zxPack, ne_eq, zfree, owners, Nat.reduceLT, List.contains_cons, List.contains_nil, Nat.reduceBEq, BEq.rfl, chunk, setAt, List.lookup_cons, List.lookup_nil, reduceCtorEq, Nat.reduceEqDiff, reduceIte, implies_true, forall_const, Nat.reduceMul, Nat.reduceSub, Nat.reduceAdd, Nat.reduceLeDiff, n2, n3, *]) | (simp only [zgoO, zgoG, zO_nil, zthen_normal, zgoC]) | (with_reducible apply And.intro) | (with_reducible intro _))
  · have fin : Fin H (.tuple [.nil, Z64 (checkE has roots)]) (H ++ [.box [.fz 1 ex (has.map eL), .fz 1 exr (roots.map eI)]]) K :=
      Fin.truncT (Mods.ext H _) rfl (by rw [List.take_left]; exact H0.out hc)
    clear H0 H1 H5
    generalize checkE has roots = e at hc fin
    repeat' (first | (simp only [zmPack, zxPack, ne_eq, zfree, owners, Nat.reduceLT, List.contains_cons, List.contains_nil, Nat.reduceBEq, BEq.rfl, chunk, setAt, List.lookup_cons, List.lookup_nil, reduceCtorEq, Nat.reduceEqDiff, reduceIte, implies_true, forall_const, Nat.reduceMul, Nat.reduceSub, Nat.reduceAdd, Nat.reduceLeDiff, *]) | (simp only [zgoO, zgoG, zO_nil, zthen_normal, zgoC]) | (with_reducible apply And.intro) | (with_reducible intro _))
end Go.Proofs.Ytfmllmcjinjfaaa

namespace Go.Proofs.Ytfmllmcjinjfaaa
open Go Go.RowKit
set_option linter.unusedVariables false
set_option linter.unusedSimpArgs false
variable {tb : List (FuncId × Bool)} {L : Nat → Bool} {H : ZH} {K : ZV → ZH → Prop}
variable {ex exr : Bool} {has : List (List Int)} {roots : List Int} {n : Int}
theorem strip_next {l : List Int} {k : Nat} {x : Int} (h : l[k]? = some x) : strip n (l.take (k + 1)) = if x = n then strip n (l.take k) else strip n (l.take k) ++ [x] := by
  unfold strip
  rw [List.take_add_one, h, Option.toList_some, List.filter_append]
  by_cases e : x = n
  · rw [if_pos e, List.filter_cons_of_neg (by simpa using e)]; simp
  · rw [if_neg e, List.filter_cons_of_pos (by simpa using e)]; rfl
set_option maxHeartbeats 4000000 in
theorem withouta_z {z : ZV} {q : Nat} {l : List Int} (hz : ∀ X, rowsZ (H ++ X) 1 z = some (l.map eI)) (hq : H[q]? = some (.box [Z64 n])) (hl : l.length ≤ 1000000) (hK : K (.fz 1 false ((strip n l).map eI)) H) :
    ZC (constX tb) (cFunc Try.prog) 27 [z, .ptr q 0] L H K := by
  refine ZC.enterL ⟨[(4, [(0, 1)])], [], []⟩ constX_none f_ow_withouta (by simp) fun hL => ?_
  simp only [c_ow_withouta]
  have F : ∀ g', Fin H (.own H.length g' 0 (strip n l).length false) (H ++ [.grow g' 1 ((strip n l).map eI)]) K := fun g' => by
    refine Fin.frz (k := 1) (rows := (strip n l).map eI) (mv_at0 _ _) (by simp) (mv_pure (fun r hr => by obtain ⟨x, _, rfl⟩ := List.mem_map.1 hr; rfl)) ?_
    rw [mv_st0, List.drop_zero, List.take_of_length_le (by simp)]
    exact Fin.trunc (Mods.ext H _) rfl (by rw [List.take_left]; exact hK)
  have FF := Lib.hid F
  have HL := Lib.hid hl
  have l0 : L H.length = true := hL 0
  have q1 : ∀ X, lenZ (H ++ X) z = some l.length := fun X => by have := rows_len (hz X); rwa [List.length_map] at this
  have hb : ∀ X, (H ++ X)[q]? = some (.box [Z64 n]) := fun X => by rw [List.getElem?_append_left (List.getElem?_eq_some_iff.1 hq).1]; exact hq
  have HZ := Lib.hid hz
  clear hK F hl hz hq
  repeat' (first | (simp only [zmPack, zxPack, ne_eq, zfree, owners, Nat.reduceLT, List.contains_cons, List.contains_nil, Nat.reduceBEq, BEq.rfl, chunk, setAt, List.lookup_cons, List.lookup_nil, reduceCtorEq, Nat.reduceEqDiff, reduceIte, implies_true, forall_const, Nat.reduceMul, Nat.reduceSub, Nat.reduceAdd, Nat.reduceLeDiff, q1, *]) | (simp only [zgoO, zgoG, zO_nil, zthen_normal, zgoC]) | (with_reducible apply And.intro) | (with_reducible intro _))
  refine zW_forK [(7, z), (1, .ptr q 0)] l.length (fun k s' h' => ∃ g', s' 4 = .own H.length g' 0 (strip n (l.take k)).length false ∧ h' = H ++ [.grow g' 1 ((strip n (l.take k)).map eI)]) (by have := HL.out; omega) ⟨rfl, rfl, rfl, rfl, rfl, rfl⟩ rfl rfl (by repeat' (first | exact trivial | (refine ⟨rfl, ?_⟩) | (refine ⟨by simp only [zupd_at, Nat.reduceEqDiff, reduceIte]; assumption, ?_⟩))) rfl rfl (by decide) ⟨0, rfl, rfl⟩ ?_ ?_
  · rintro k s' h' hk ⟨g', f4, rfl⟩ hi hll ⟨f7, f1, -⟩
    obtain ⟨pp, hp, hld⟩ := rows_at (HZ.out [.grow g' 1 ((strip n (l.take k)).map eI)]) hk
    have hx : l[k]? = some l[k] := List.getElem?_eq_getElem hk
    have hru := strip_next (n := n) hx
    have hrl : (strip n (l.take k)).length ≤ 1000000 := by have := strip_len (n := n) (l := l.take k); rw [List.length_take] at this; have := HL.out; omega
    obtain ⟨c, hc⟩ : ∃ c, c = l[k] := ⟨_, rfl⟩
    rw [← hc] at hld hru
    obtain ⟨B, hB⟩ : ∃ B, B = strip n (l.take k) := ⟨_, rfl⟩
    rw [← hB] at f4 hru hrl hp hld ⊢
    have hap : appZ L (H ++ [.grow g' 1 (B.map eI)]) 1 8 [[Z64 c]] (.own H.length g' 0 B.length false) = some (.own H.length (g' + 1) 0 (B.length + 1) false, H ++ [.grow (g' + 1) 1 ((B ++ [c]).map eI)]) := by
      rw [app_ownN (mv_at0 _ _) (by simp) (by unfold reach; simp; omega) l0, mv_st0, List.map_append]; rfl
    have HRU := Lib.hid hru
    clear hc hru hrl hx hB
    by_cases e : c = n
    · subst e
      have e1 := HRU.out
      rw [if_pos rfl] at e1
      have HE := Lib.hid e1
      clear e1 HRU
      repeat' (first | (simp only [zmPack, zxPack, ne_eq, zfree, owners, Nat.reduceLT, List.contains_cons, List.contains_nil, Nat.reduceBEq, BEq.rfl, chunk, setAt, List.lookup_cons, List.lookup_nil, reduceCtorEq, Nat.reduceEqDiff, reduceIte, implies_true, forall_const, Nat.reduceMul, Nat.reduceSub, Nat.reduceAdd, Nat.reduceLeDiff, hp, hld, hb, *]) | (simp only [zgoO, zgoG, zO_nil, zthen_normal, zgoC]) | (with_reducible apply And.intro) | (with_reducible intro _))
      all_goals first | (rw [HE.out]; done) | (rw [HE.out]; rfl)
    · have e1 := HRU.out
      rw [if_neg e] at e1
      have HE := Lib.hid e1
      clear e1 HRU
      repeat' (first | (simp only [zmPack, zxPack, ne_eq, zfree, owners, Nat.reduceLT, List.contains_cons, List.contains_nil, Nat.reduceBEq, BEq.rfl, chunk, setAt, List.lookup_cons, List.lookup_nil, reduceCtorEq, Nat.reduceEqDiff, reduceIte, implies_true, forall_const, Nat.reduceMul, Nat.reduceSub, Nat.reduceAdd, Nat.reduceLeDiff, hp, hld, hb, hap, *]) | (simp only [zgoO, zgoG, zO_nil, zthen_normal, zgoC]) | (with_reducible apply And.intro) | (with_reducible intro _))
      all_goals first | (rw [HE.out, List.length_append]; done) | (rw [HE.out, List.length_append]; rfl) | (rw [HE.out]; done) | (rw [HE.out]; rfl)
  · rintro s' h' ⟨g', f4, rfl⟩ ⟨f7, f1, -⟩
    rw [List.take_of_length_le (Nat.le_refl _)] at f4 ⊢
    have fin := FF.out g'
    repeat' (first | (simp only [zmPack, zxPack, ne_eq, zfree, owners, Nat.reduceLT, List.contains_cons, List.contains_nil, Nat.reduceBEq, BEq.rfl, chunk, setAt, List.lookup_cons, List.lookup_nil, reduceCtorEq, Nat.reduceEqDiff, reduceIte, implies_true, forall_const, Nat.reduceMul, Nat.reduceSub, Nat.reduceAdd, Nat.reduceLeDiff, *]) | (simp only [zgoO, zgoG, zO_nil, zthen_normal, zgoC]) | (with_reducible apply And.intro) | (with_reducible intro _))
set_option maxHeartbeats 8000000 in
theorem without_z (hN : has.length ≤ 100) (hls : ∀ l ∈ has, l.length ≤ 1000) (hrl : roots.length ≤ 1000) (hK : K (.agg [.fz 1 false ((woH has n).map eL), .fz 1 false ((strip n roots).map eI)]) H) :
    ZC (constX tb) (cFunc Try.prog) 14 [.agg [.fz 1 ex (has.map eL), .fz 1 exr (roots.map eI)], Z64 n] L H K := by
  refine ZC.enterL ⟨[(14, [(0, 1)])], [], []⟩ constX_none f_ow_without (by simp) fun hL => ?_
  simp only [c_ow_without]
  have HK := Lib.hid hK
  have HLS := Lib.hid hls
  have HLL := Lib.hid hL
  clear hK hls hL
  repeat' (first | (simp only [zmPack, zxPack, ne_eq, zfree, owners, Nat.reduceLT, List.contains_cons, List.contains_nil, Nat.reduceBEq, BEq.rfl, chunk, setAt, List.lookup_cons, List.lookup_nil, reduceCtorEq, Nat.reduceEqDiff, reduceIte, implies_true, forall_const, Nat.reduceMul, Nat.reduceSub, Nat.reduceAdd, Nat.reduceLeDiff, *]) | (simp only [zgoO, zgoG, zO_nil, zthen_normal, zgoC]) | (with_reducible apply And.intro) | (with_reducible intro _))
  refine withouta_z (l := roots) (n := n) (fun X => by simp [rowsZ]) (by simp) (by omega) ?_
  have l4 := HLL.out 4
  repeat' (first | (simp only [zmPack, zxPack, ne_eq, zfree, owners, Nat.reduceLT, List.contains_cons, List.contains_nil, Nat.reduceBEq, BEq.rfl, chunk, setAt, List.lookup_cons, List.lookup_nil, reduceCtorEq, Nat.reduceEqDiff, reduceIte, implies_true, forall_const, Nat.reduceMul, Nat.reduceSub, Nat.reduceAdd, Nat.reduceLeDiff, l4, *]) | (simp only [zgoO, zgoG, zO_nil, zthen_normal, zgoC]) | (with_reducible apply And.intro) | (with_reducible intro _))
  obtain ⟨zr, hzr⟩ : ∃ zr, zr = ZV.fz 1 false ((strip n roots).map eI) := ⟨_, rfl⟩
  rw [← hzr] at HK ⊢
  have hrc : zr.isCell = true := by rw [hzr]; rfl
  have hz0 := Lib.hid hzr
  clear hzr
  refine zW_forK [(16, .fz 1 ex (has.map eL)), (2, .ptr H.length 0), (3, .ptr (H.length + 1) 0), (4, .ptr (H.length + 2) 0), (5, .func 27 [.ptr (H.length + 1) 0]), (6, .ptr (H.length + 4) 0)] has.length (fun k s' h' => ∃ g, h' = H ++ [.box [.fz 1 ex (has.map eL), .fz 1 exr (roots.map eI)], .box [Z64 n], .box [.nil, .nil], .grow g 1 ((woTo has n k).map eL), .box [.own (H.length + 3) g 0 k false, zr]]) (by omega) ⟨rfl, rfl, rfl, rfl, rfl, rfl⟩ rfl rfl (by repeat' (first | exact trivial | (refine ⟨rfl, ?_⟩) | (refine ⟨by simp only [zupd_at, Nat.reduceEqDiff, reduceIte]; assumption, ?_⟩))) rfl rfl (by decide) ⟨0, by rw [hz0.out]; rfl⟩ ?_ ?_
  · rintro k s' h' hk ⟨g, rfl⟩ hi hll ⟨f16, f2, f3, f4, f5, f6, -⟩
    obtain ⟨l, hx⟩ : ∃ l, has[k]? = some l := ⟨_, List.getElem?_eq_getElem hk⟩
    have hwo := woTo_succ (has := has) (n := n) (k := k)
    have hrow : woRow has n k = strip n (if (k : Int) = n then [] else l) := by unfold woRow; rw [List.getD_eq_getElem?_getD, hx]; rfl
    have hll2 := HLS.out l (List.mem_of_getElem? hx)
    have HW := Lib.hid hwo
    have HR := Lib.hid hrow
    clear hwo hrow
    have l3 := HLL.out 3
    have a4 : ∀ A B C D E : ZB, (H ++ [A, B, C, D, E])[H.length + 4]? = some E := fun A B C D E => by
      rw [List.getElem?_append_right (by omega), Nat.add_sub_cancel_left]; rfl
    have s4 : ∀ A B C D E E2 : ZB, (H ++ [A, B, C, D, E]).set (H.length + 4) E2 = H ++ [A, B, C, D, E2] := fun A B C D E E2 => by
      rw [List.set_append_right _ _ (by omega), Nat.add_sub_cancel_left]; rfl
    have hb1 : ∀ A B C D E : ZB, (H ++ [A, B, C, D, E])[H.length + 1]? = some B := fun A B C D E => by
      rw [List.getElem?_append_right (by omega), Nat.add_sub_cancel_left]; rfl
    have h1 : k ≤ (woTo has n k).length := by rw [woTo_len]; exact Nat.le_refl _
    have h2 : (k + 1) * 24 ≤ reach := by unfold reach; omega
    have ht : List.take k (List.map eL (woTo has n k)) = List.map eL (woTo has n k) := List.take_of_length_le (by rw [List.length_map, woTo_len]; exact Nat.le_refl _)
    by_cases e : (k : Int) = n
    · subst e
      have hr := HR.out
      rw [if_pos rfl] at hr
      have HR2 := Lib.hid hr
      clear hr
      repeat' (first | (simp only [zmPack, zxPack, ne_eq, zfree, owners, Nat.reduceLT, List.contains_cons, List.contains_nil, Nat.reduceBEq, BEq.rfl, chunk, setAt, List.lookup_cons, List.lookup_nil, reduceCtorEq, Nat.reduceEqDiff, reduceIte, implies_true, forall_const, Nat.reduceMul, Nat.reduceSub, Nat.reduceAdd, Nat.reduceLeDiff, hx, *]) | (simp only [zgoO, zgoG, zO_nil, zthen_normal, zgoC]) | (with_reducible apply And.intro) | (with_reducible intro _))
      refine withouta_z (z := .nil) (l := []) (n := (k : Int)) (fun X => by simp [rowsZ]) (hb1 _ _ _ _ _) (by simp) ?_
      rw [← HR2.out]
      clear HR HR2
      generalize woRow has (k : Int) k = rw at HW ⊢
      repeat' (first | (simp only [zmPack, zxPack, ne_eq, zfree, owners, Nat.reduceLT, List.contains_cons, List.contains_nil, Nat.reduceBEq, BEq.rfl, chunk, setAt, List.lookup_cons, List.lookup_nil, reduceCtorEq, Nat.reduceEqDiff, reduceIte, implies_true, forall_const, Nat.reduceMul, Nat.reduceSub, Nat.reduceAdd, Nat.reduceLeDiff, a4, s4, h1, h2, ht, l3, *]) | (simp only [zgoO, zgoG, zO_nil, zthen_normal, zgoC]) | (with_reducible apply And.intro) | (with_reducible intro _))
      all_goals exact ⟨_, by rw [HW.out, List.map_append]; rfl⟩
    · have hr := HR.out
      rw [if_neg e] at hr
      have HR2 := Lib.hid hr
      clear hr
      repeat' (first | (simp only [zmPack, zxPack, ne_eq, zfree, owners, Nat.reduceLT, List.contains_cons, List.contains_nil, Nat.reduceBEq, BEq.rfl, chunk, setAt, List.lookup_cons, List.lookup_nil, reduceCtorEq, Nat.reduceEqDiff, reduceIte, implies_true, forall_const, Nat.reduceMul, Nat.reduceSub, Nat.reduceAdd, Nat.reduceLeDiff, hx, *]) | (simp only [zgoO, zgoG, zO_nil, zthen_normal, zgoC]) | (with_reducible apply And.intro) | (with_reducible intro _))
      refine withouta_z (z := .fz 1 false (l.map eI)) (l := l) (n := n) (fun X => by simp [rowsZ]) (hb1 _ _ _ _ _) (by omega) ?_
      rw [← HR2.out]
      clear HR HR2
      generalize woRow has n k = rw at HW ⊢
      repeat' (first | (simp only [zmPack, zxPack, ne_eq, zfree, owners, Nat.reduceLT, List.contains_cons, List.contains_nil, Nat.reduceBEq, BEq.rfl, chunk, setAt, List.lookup_cons, List.lookup_nil, reduceCtorEq, Nat.reduceEqDiff, reduceIte, implies_true, forall_const, Nat.reduceMul, Nat.reduceSub, Nat.reduceAdd, Nat.reduceLeDiff, a4, s4, h1, h2, ht, l3, *]) | (simp only [zgoO, zgoG, zO_nil, zthen_normal, zgoC]) | (with_reducible apply And.intro) | (with_reducible intro _))
      all_goals exact ⟨_, by rw [HW.out, List.map_append]; rfl⟩
  · rintro s' h' ⟨g, rfl⟩ ⟨f16, f2, f3, f4, f5, f6, -⟩
    have l2 := HLL.out 2
    have fin : Fin H (.agg [.own (H.length + 3) g 0 has.length false, zr]) (H ++ [.box [.fz 1 ex (has.map eL), .fz 1 exr (roots.map eI)], .box [Z64 n], .box [.own (H.length + 3) g 0 has.length false, zr], .grow g 1 ((woTo has n has.length).map eL), .box [.own (H.length + 3) g 0 has.length false, zr]]) K := by
      refine Fin.frzA (j := 0) (k := 1) (rows := (woTo has n has.length).map eL) rfl (by rw [List.getElem?_append_right (by omega), Nat.add_sub_cancel_left]; rfl) (by simp [woTo_len]) (mv_pure (fun r hr => by obtain ⟨x, _, rfl⟩ := List.mem_map.1 hr; rfl)) ?_
      rw [List.set_append_right _ _ (by omega), Nat.add_sub_cancel_left, List.drop_zero, List.take_of_length_le (by simp [woTo_len])]
      refine Fin.trunc (Mods.ext H _) ?_ (by rw [List.take_left]; exact HK.out)
      rw [hz0.out]; rfl
    repeat' (first | (simp only [zmPack, zxPack, ne_eq, zfree, owners, Nat.reduceLT, List.contains_cons, List.contains_nil, Nat.reduceBEq, BEq.rfl, chunk, setAt, List.lookup_cons, List.lookup_nil, reduceCtorEq, Nat.reduceEqDiff, reduceIte, implies_true, forall_const, Nat.reduceMul, Nat.reduceSub, Nat.reduceAdd, Nat.reduceLeDiff, l2, *]) | (simp only [zgoO, zgoG, zO_nil, zthen_normal, zgoC]) | (with_reducible apply And.intro) | (with_reducible intro _))
end Go.Proofs.Ytfmllmcjinjfaaa
