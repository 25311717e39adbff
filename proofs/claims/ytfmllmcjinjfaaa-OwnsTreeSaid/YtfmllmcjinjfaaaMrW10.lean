/-
  AM's code of functions, written by am/amprint.lean.
-/
import Derived.KernelRfl
import Derived.Test.YtfmllmcjinjfaaaMrW6
import Derived.Test.YtfmllmcjinjfaaaMrW9
namespace Go.Proofs.Ytfmllmcjinjfaaa
open Go Go.RowKit
set_option linter.unusedVariables false
end Go.Proofs.Ytfmllmcjinjfaaa

namespace Go.Proofs.Ytfmllmcjinjfaaa
open Go Go.RowKit
set_option linter.unusedVariables false
set_option linter.unusedSimpArgs false
variable {tb : List (FuncId × Bool)} {L : Nat → Bool} {H : ZH} {K : ZV → ZH → Prop}
def keepP (p : Int → Bool) (l : List Int) : List Int := l.filter fun x => !p x
structure DInv (p : Int → Bool) (l : List Int) (m j i : Nat) (R : List (List ZV)) : Prop where
  hj : j ≤ l.length
  hm : m = l.length - j
  hi : i = (keepP p (l.take j)).length
  hij : i < j
  hR : R.length = l.length
  ht : R.take i = (keepP p (l.take j)).map eI
  hd : ∀ t, i ≤ t → R[t]? = (l.map eI)[t]?
theorem keepP_next {p : Int → Bool} {l : List Int} {j : Nat} (hj : j < l.length) : keepP p (l.take (j + 1)) = keepP p (l.take j) ++ (if p l[j] = true then [] else [l[j]]) := by
  rw [List.take_succ_eq_append_getElem hj]
  unfold keepP
  rw [List.filter_append]
  congr 1
  by_cases h : p l[j] = true <;> simp [h]
theorem DInv.skip {p : Int → Bool} {l : List Int} {m j i : Nat} {R : List (List ZV)} (h : DInv p l m j i R) (hj : j < l.length) (he : p l[j] = true) : DInv p l (m - 1) (j + 1) i R := by
  have hn := keepP_next (p := p) hj
  rw [if_pos he, List.append_nil] at hn
  exact ⟨hj, by have := h.hm; omega, by rw [hn]; exact h.hi, by have := h.hij; omega, h.hR, by rw [hn]; exact h.ht, h.hd⟩
theorem DInv.keep {p : Int → Bool} {l : List Int} {m j i : Nat} {R : List (List ZV)} (h : DInv p l m j i R) (hj : j < l.length) (he : ¬ p l[j] = true) : DInv p l (m - 1) (j + 1) (i + 1) (R.set i (eI l[j])) := by
  have hn := keepP_next (p := p) hj
  rw [if_neg he] at hn
  have hiR : i < R.length := by have := h.hR; have := h.hij; omega
  refine ⟨hj, by have := h.hm; omega, by rw [hn, List.length_append, ← h.hi]; rfl, by have := h.hij; omega, by rw [List.length_set]; exact h.hR, ?_, fun t ht => ?_⟩
  · rw [List.take_succ_eq_append_getElem (by rw [List.length_set]; exact hiR), List.take_set_of_le (Nat.le_refl _), h.ht, hn, List.map_append, List.getElem_set_self]; rfl
  · rw [List.getElem?_set, if_neg (by omega)]; exact h.hd t (by omega)
theorem DInv.start {p : Int → Bool} {l : List Int} {i : Nat} (h : l.findIdx? p = some i) : DInv p l (l.length - (i + 1)) (i + 1) i (l.map eI) := by
  obtain ⟨h1, h2, h3⟩ := List.findIdx?_eq_some_iff_getElem.1 h
  have hn := keepP_next (p := p) h1
  rw [if_pos (by simpa using h2), List.append_nil] at hn
  have ht : keepP p (l.take i) = l.take i := by
    unfold keepP
    rw [List.filter_eq_self]
    intro x hx
    obtain ⟨j, hj, rfl⟩ := List.mem_take_iff_getElem.1 hx
    have := h3 j (by omega)
    simpa using this
  refine ⟨h1, rfl, by rw [hn, ht, List.length_take]; omega, by omega, by simp, ?_, fun _ _ => rfl⟩
  rw [hn, ht, List.map_take]
end Go.Proofs.Ytfmllmcjinjfaaa

namespace Go.Proofs.Ytfmllmcjinjfaaa
open Go Go.RowKit
set_option linter.unusedVariables false
set_option linter.unusedSimpArgs false
variable {tb : List (FuncId × Bool)} {L : Nat → Bool} {H : ZH} {K : ZV → ZH → Prop}
def cptTo (s : List Int) : Nat → List Int
  | 0 => []
  | k + 1 => cptTo s k ++ (if 0 < k ∧ s[k]? = s[k - 1]? then [] else [s.getD k 0])
structure CInv (s : List Int) (R0 : List (List ZV)) (k0 k2 k : Nat) (R : List (List ZV)) : Prop where
  h2 : 1 ≤ k2 ∧ k0 + k2 ≤ s.length
  hk : k + 1 ≤ k0 + k2
  hl : k = (cptTo s (k0 + k2)).length
  hR : R.length = R0.length
  ht : R.take k = (cptTo s (k0 + k2)).map eI
  hd : ∀ t, k0 + k2 ≤ t + 1 → R[t]? = R0[t]?
  hv : ∀ t, t < s.length → ∃ x, R[t]? = some (eI x)
theorem CInv.start {s : List Int} {R0 : List (List ZV)} {k0 : Nat} (hk : 1 ≤ k0) (hs : k0 < s.length) (h0 : cptTo s k0 = s.take k0) (hR : R0.take s.length = s.map eI) (he : s[k0]? = s[k0 - 1]?) : CInv s R0 k0 1 k0 R0 := by
  have e : cptTo s (k0 + 1) = s.take k0 := by
    show cptTo s k0 ++ _ = _
    rw [if_pos ⟨by omega, he⟩, List.append_nil, h0]
  refine ⟨⟨Nat.le_refl _, by omega⟩, Nat.le_refl _, by rw [e, List.length_take]; omega, rfl, ?_, fun _ _ => rfl, fun t ht => ⟨s[t], by
    have : (R0.take s.length)[t]? = some (eI s[t]) := by rw [hR, List.getElem?_map, List.getElem?_eq_getElem ht]; rfl
    rwa [List.getElem?_take, if_pos ht] at this⟩⟩
  rw [e, List.map_take, ← hR, List.take_take, Nat.min_eq_left (by omega)]
theorem CInv.skip {s : List Int} {R0 R : List (List ZV)} {k0 k2 k : Nat} (h : CInv s R0 k0 k2 k R) (hs : k0 + k2 < s.length) (he : s[k0 + k2]? = s[k0 + k2 - 1]?) : CInv s R0 k0 (k2 + 1) k R := by
  have e : cptTo s (k0 + (k2 + 1)) = cptTo s (k0 + k2) := by
    show cptTo s (k0 + k2) ++ _ = _
    have h00 : 0 < k0 + k2 := by have := h.h2; omega
    rw [if_pos ⟨h00, he⟩, List.append_nil]
  have h22 := h.h2
  exact ⟨⟨by omega, by omega⟩, by have := h.hk; omega, by rw [e]; exact h.hl, h.hR, by rw [e]; exact h.ht, fun t ht => h.hd t (by omega), h.hv⟩
theorem CInv.put {s : List Int} {R0 R : List (List ZV)} {k0 k2 k : Nat} (h : CInv s R0 k0 k2 k R) (hs : k0 + k2 < s.length) (hR0 : s.length ≤ R0.length) (he : s[k0 + k2]? ≠ s[k0 + k2 - 1]?) : CInv s R0 k0 (k2 + 1) (k + 1) (R.set k (eI s[k0 + k2])) := by
  have e : cptTo s (k0 + (k2 + 1)) = cptTo s (k0 + k2) ++ [s[k0 + k2]] := by
    show cptTo s (k0 + k2) ++ _ = _
    rw [if_neg (fun q => he q.2)]; simp [List.getD, hs]
  have hkR : k < R.length := by have := h.hR; have := h.hk; have := h.h2; omega
  refine ⟨⟨by omega, by omega⟩, by have := h.hk; omega, by rw [e, List.length_append, ← h.hl]; rfl, by rw [List.length_set]; exact h.hR, ?_, fun t ht => ?_, fun t ht => ?_⟩
  · rw [List.take_succ_eq_append_getElem (by rw [List.length_set]; exact hkR), List.take_set_of_le (Nat.le_refl _), h.ht, e, List.map_append, List.getElem_set_self]; rfl
  · rw [List.getElem?_set, if_neg (by have := h.hk; omega)]; exact h.hd t (by omega)
  · by_cases hkt : k = t
    · subst hkt; exact ⟨_, List.getElem?_set_self hkR⟩
    · rw [List.getElem?_set_ne hkt]; exact h.hv t ht
end Go.Proofs.Ytfmllmcjinjfaaa

namespace Go.Proofs.Ytfmllmcjinjfaaa
open Go Go.RowKit
set_option linter.unusedVariables false
set_option linter.unusedSimpArgs false
section
variable {tb : List (FuncId × Bool)} {fl : Nat → Bool} {h : Heap} {K : AV → Heap → Prop}
end
variable {tb : List (FuncId × Bool)} {L : Nat → Bool} {H : ZH} {K : ZV → ZH → Prop}
abbrev eL (l : List Int) : List ZV := [zI l]
theorem ZR.ownEx {w : Wd} {i g off len id o lb k : Nat} (h : ZR w (.own i g off len false) (.slice id o len lb false k)) : ZR w (.own i g off len false) (.slice id o len lb true k) := by
  cases h with
  | fr hf => cases hf
  | own h1 h2 h3 h4 =>
    refine .own h1 (fun g' k' rows hb => ⟨(h2 g' k' rows hb).1, fun he => ?_⟩) (fun id hid => h3 id hid) rfl
    rcases (h2 g' k' rows hb).2 he with ⟨_, _, _, _, e | ⟨_, _, _, e, _⟩⟩ | ⟨id2, b, lb2, ex2, row, q1, q2, q3, q4, q5, q6, q7⟩
    · cases e
    · cases e
    · injection q2 with t1 t2 t3 t4 t5 t6
      subst t1; subst t2; subst t4; subst t6
      exact .inr ⟨_, b, _, true, row, q1, rfl, q3, q4, q5, q6, fun h => by cases h⟩
theorem check_z {z1 z2 : ZV} {has : List (List Int)} {roots : List Int} (h1 : rowsZ H 1 z1 = some (has.map eL)) (h2 : rowsZ H 1 z2 = some (roots.map eI)) (hK : K (Z64 (checkE has roots)) H) :
    ZC (constX tb) (cFunc Try.prog) 22 [.agg [z1, z2]] L H K := by
  intro fl w args r e ha
  subst e
  obtain ⟨a, ha0, ha1⟩ := ha.get (i := 0) rfl
  obtain ⟨ys, rfl, hys⟩ := ha1.agg_inv
  obtain ⟨v1, hv0, hv1⟩ := hys.get (i := 0) rfl
  obtain ⟨v2, hu0, hu1⟩ := hys.get (i := 1) rfl
  have e1 : ys = [v1, v2] := by
    have := hys.1
    match ys, this, hv0, hu0 with
    | [x, y], _, hv0, hu0 => simp at hv0 hu0; rw [hv0, hu0]
  have e2 : args = [.agg ys] := by
    have := ha.1
    match args, this, ha0 with
    | [x], _, hv0 => simp at hv0; rw [hv0]
  subst e1; subst e2
  refine check_am (ll_of r hv1 h1) (il_of r hu1 h2) fun e => ?_
  obtain ⟨r', e'⟩ := keep_w r (Keep.ext (h := w.h) [] e)
  exact ⟨_, _, rfl, r', e', .fr (.val _), hK⟩
structure FI (has : List (List Int)) (l : List Int) (sb sb' : List Bool) (b : Bool) (P : Prop) : Prop where
  len : sb'.length = has.length
  base : ∀ x ∈ l, Sn sb' x.toNat
  sub : ∀ n, Sn sb' n → Liv has [] l n
  no : b = false → sb' = sb ∧ P
  yes : b = true → unseen sb' < unseen sb
theorem FI.mono {has : List (List Int)} {l : List Int} {sb sb' : List Bool} {b : Bool} {P Q : Prop} (h : FI has l sb sb' b P) (hq : sb' = sb → P → Q) : FI has l sb sb' b Q :=
  ⟨h.len, h.base, h.sub, fun hb => ⟨(h.no hb).1, hq (h.no hb).1 (h.no hb).2⟩, h.yes⟩
theorem FI.start {has : List (List Int)} {l : List Int} {sb : List Bool} {P : Prop} (h1 : sb.length = has.length) (h2 : ∀ x ∈ l, Sn sb x.toNat) (h3 : ∀ n, Sn sb n → Liv has [] l n) (hp : P) : FI has l sb sb false P :=
  ⟨h1, h2, h3, fun _ => ⟨rfl, hp⟩, fun h => by cases h⟩
structure FO (has : List (List Int)) (l : List Int) (sb : List Bool) (b : Bool) : Prop where
  len : sb.length = has.length
  base : ∀ x ∈ l, Sn sb x.toNat
  sub : ∀ n, Sn sb n → Liv has [] l n
  clo : b = false → Cl has (Sn sb)
def ClTo (has : List (List Int)) (sb : List Bool) (k : Nat) : Prop := ∀ n, n < k → Sn sb n → ∀ y ∈ has.getD n [], Sn sb y.toNat
def ClIn (has : List (List Int)) (sb : List Bool) (k : Nat) (own : List Int) (m : Nat) : Prop := ClTo has sb k ∧ (Sn sb k → ∀ y ∈ own.take m, Sn sb y.toNat)
structure FB (has : List (List Int)) (l : List Int) (k : Nat) (sb : List Bool) : Prop where
  len : sb.length = has.length
  base : ∀ x ∈ l.take k, Sn sb x.toNat
  sub : ∀ n, Sn sb n → Liv has [] l n
theorem FB.next {has : List (List Int)} {l : List Int} {k : Nat} {sb : List Bool} (h : FB has l k sb) (hk : k < l.length) {m : Nat} (hm : l[k] = (m : Int)) (hmn : m < has.length) : FB has l (k + 1) (sb.set m true) := by
  have hs : ∀ n, Sn (sb.set m true) n ↔ Sn sb n ∨ n = m := fun n => Sn_set (by rw [h.len]; exact hmn)
  refine ⟨by simp [h.len], fun x hx => ?_, fun n hn => ?_⟩
  · rw [List.take_succ_eq_append_getElem hk] at hx
    rcases List.mem_append.1 hx with hx | hx
    · exact (hs _).2 (.inl (h.base x hx))
    · rw [List.mem_singleton.1 hx, hm]; exact (hs _).2 (.inr (by omega))
  · rcases (hs n).1 hn with hn | rfl
    · exact h.sub n hn
    · have := Liv.base (has := has) (ps := []) (l := l) (x := l[k]) (List.getElem_mem hk)
      rw [hm] at this; simpa using this
theorem ClIn.start {has : List (List Int)} {sb : List Bool} {k : Nat} {own : List Int} (h : ClTo has sb k) : ClIn has sb k own 0 := ⟨h, fun _ y hy => by simp at hy⟩
theorem ClIn.next {has : List (List Int)} {sb : List Bool} {k m : Nat} {own : List Int} (h : ClIn has sb k own m) (hm : m < own.length) (hs : Sn sb k → Sn sb own[m].toNat) : ClIn has sb k own (m + 1) := ⟨h.1, fun hk y hy => by
  rw [List.take_succ_eq_append_getElem hm] at hy
  rcases List.mem_append.1 hy with hy | hy
  · exact h.2 hk y hy
  · rw [List.mem_singleton.1 hy]; exact hs hk⟩
theorem ClIn.done {has : List (List Int)} {sb : List Bool} {k : Nat} {own : List Int} (h : ClIn has sb k own own.length) (ho : has.getD k [] = own) : ClTo has sb (k + 1) := fun n hn hs y hy => by
  rcases Nat.lt_succ_iff_lt_or_eq.1 hn with hn | rfl
  · exact h.1 n hn hs y hy
  · rw [ho] at hy; exact h.2 hs y (by rw [List.take_length]; exact hy)
theorem ClTo.all {has : List (List Int)} {sb : List Bool} (h : ClTo has sb has.length) : Cl has (Sn sb) := fun n hn y hy => by
  by_cases hl : n < has.length
  · exact h n hl hn y hy
  · simp [List.getD, List.getElem?_eq_none (Nat.not_lt.1 hl)] at hy
theorem FI.out {has : List (List Int)} {l : List Int} {sb sb' : List Bool} {b : Bool} (h : FI has l sb sb' b (ClTo has sb has.length)) : FO has l sb' b :=
  ⟨h.len, h.base, h.sub, fun hb => by obtain ⟨e, hc⟩ := h.no hb; subst e; exact hc.all⟩
end Go.Proofs.Ytfmllmcjinjfaaa
