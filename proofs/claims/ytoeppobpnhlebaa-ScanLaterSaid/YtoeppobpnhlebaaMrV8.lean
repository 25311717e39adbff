/-
  Sorting in place, plain: swaps of ranges, rotations, moves, halving, merging.
-/
import Derived.Test.YtoeppobpnhlebaaMrV6
import Derived.Test.YtoeppobpnhlebaaMrV7
namespace Go.Proofs.Ytoeppobpnhlebaa
open Go Go.RowKit
set_option linter.unusedVariables false
set_option linter.unusedSimpArgs false
variable {lt : Int → Int → Bool} {key : Int → Int}
def swR (a b : Nat) : Nat → List Int → List Int
  | 0, D => D
  | m + 1, D => sw (swR a b m D) (a + m) (b + m)
theorem swR_len {a b : Nat} : ∀ {m : Nat} {D : List Int}, (swR a b m D).length = D.length
  | 0, D => rfl
  | m + 1, D => by show (sw _ _ _).length = _; rw [sw_len, swR_len]
theorem swR_perm {a b : Nat} : ∀ {m : Nat} {D : List Int}, a + m ≤ D.length → b + m ≤ D.length → (swR a b m D).Perm D
  | 0, D, _, _ => List.Perm.refl _
  | m + 1, D, h1, h2 => (sw_perm (by rw [swR_len]; omega) (by rw [swR_len]; omega)).trans (swR_perm (by omega) (by omega))
theorem swR_at {a b : Nat} : ∀ {m : Nat} {D : List Int} {p : Nat}, a + m ≤ b → b + m ≤ D.length → (swR a b m D).getD p 0 = if a ≤ p ∧ p < a + m then D.getD (b + (p - a)) 0 else if b ≤ p ∧ p < b + m then D.getD (a + (p - b)) 0 else D.getD p 0
  | 0, D, p, _, _ => by
    rw [if_neg (by omega), if_neg (by omega)]; rfl
  | m + 1, D, p, h1, h2 => by
    show (sw (swR a b m D) (a + m) (b + m)).getD p 0 = _
    rw [sw_at (by rw [swR_len]; omega) (by rw [swR_len]; omega)]
    by_cases e1 : p = b + m
    · rw [if_pos e1, swR_at (by omega) (by omega), if_neg (by omega), if_neg (by omega), if_neg (by omega), if_pos (by omega), show a + (p - b) = a + m by omega]
    · rw [if_neg e1]
      by_cases e2 : p = a + m
      · rw [if_pos e2, swR_at (by omega) (by omega), if_neg (by omega), if_neg (by omega), if_pos (by omega), show b + (p - a) = b + m by omega]
      · rw [if_neg e2, swR_at (by omega) (by omega)]
        by_cases e3 : a ≤ p ∧ p < a + m
        · rw [if_pos e3, if_pos (by omega)]
        · by_cases e4 : b ≤ p ∧ p < b + m
          · rw [if_neg e3, if_pos e4, if_neg (by omega), if_pos (by omega)]
          · rw [if_neg e3, if_neg e4, if_neg (by omega), if_neg (by omega)]
def rotF (m : Nat) : Nat → Nat → Nat → List Int → List Int
  | 0, i, j, D => D
  | f + 1, i, j, D => if i = j then swR (m - i) m i D else if j < i then rotF m f (i - j) j (swR (m - i) m j D) else rotF m f i (j - i) (swR (m - i) (m + j - i) i D)
theorem rotF_perm {m : Nat} : ∀ {f i j : Nat} {D : List Int}, i ≤ m → m + j ≤ D.length → (rotF m f i j D).Perm D
  | 0, i, j, D, _, _ => List.Perm.refl _
  | f + 1, i, j, D, h1, h2 => by
    unfold rotF
    split
    · rename_i e; subst e; exact swR_perm (by omega) (by omega)
    · split
      · exact (rotF_perm (by omega) (by rw [swR_len]; omega)).trans (swR_perm (by omega) (by omega))
      · exact (rotF_perm (by omega) (by rw [swR_len]; omega)).trans (swR_perm (by omega) (by omega))
theorem rotF_at {m : Nat} : ∀ {f i j : Nat} {D : List Int} {p : Nat}, 0 < i → 0 < j → i + j ≤ f → i ≤ m → m + j ≤ D.length →
    (rotF m f i j D).getD p 0 = if m - i ≤ p ∧ p < m - i + j then D.getD (p + i) 0 else if m - i + j ≤ p ∧ p < m + j then D.getD (p - j) 0 else D.getD p 0
  | 0, i, j, D, p, h0, h1, h2, h3, h4 => by omega
  | f + 1, i, j, D, p, h0, h1, h2, h3, h4 => by
    unfold rotF
    by_cases e : i = j
    · subst e
      rw [if_pos rfl, swR_at (by omega) (by omega)]
      by_cases e1 : m - i ≤ p ∧ p < m - i + i
      · rw [if_pos e1, if_pos e1, show m + (p - (m - i)) = p + i by omega]
      · rw [if_neg e1, if_neg e1]
        by_cases e2 : m ≤ p ∧ p < m + i
        · rw [if_pos e2, if_pos (by omega), show m - i + (p - m) = p - i by omega]
        · rw [if_neg e2, if_neg (by omega)]
    · rw [if_neg e]
      by_cases hji : j < i
      · rw [if_pos hji, rotF_at (by omega) h1 (by omega) (by omega) (by rw [swR_len]; omega)]
        by_cases e1 : m - (i - j) ≤ p ∧ p < m - (i - j) + j
        · rw [if_pos e1, swR_at (by omega) (by omega)]
          by_cases e2 : m ≤ p + (i - j)
          · rw [if_neg (by omega), if_pos (by omega), if_neg (by omega), if_pos (by omega), show m - i + (p + (i - j) - m) = p - j by omega]
          · omega
        · rw [if_neg e1]
          by_cases e2 : m - (i - j) + j ≤ p ∧ p < m + j
          · rw [if_pos e2, swR_at (by omega) (by omega), if_neg (by omega), if_neg (by omega), if_neg (by omega), if_pos (by omega)]
          · rw [if_neg e2, swR_at (by omega) (by omega)]
            by_cases e3 : m - i ≤ p ∧ p < m - i + j
            · rw [if_pos e3, if_pos e3, show m + (p - (m - i)) = p + i by omega]
            · rw [if_neg e3, if_neg (by omega), if_neg e3, if_neg (by omega)]
      · rw [if_neg hji, rotF_at h0 (by omega) (by omega) h3 (by rw [swR_len]; omega)]
        by_cases e1 : m - i ≤ p ∧ p < m - i + (j - i)
        · rw [if_pos e1, swR_at (by omega) (by omega)]
          by_cases e2 : p + i < m
          · omega
          · by_cases e3 : m + j - i ≤ p + i
            · omega
            · rw [if_neg (by omega), if_neg (by omega), if_pos (by omega)]
        · rw [if_neg e1]
          by_cases e2 : m - i + (j - i) ≤ p ∧ p < m + (j - i)
          · rw [if_pos e2, swR_at (by omega) (by omega)]
            by_cases e3 : p - (j - i) < m
            · rw [if_pos (by omega)]
              by_cases e4 : p < m - i + j
              · rw [if_pos (by omega), show m + j - i + (p - (j - i) - (m - i)) = p + i by omega]
              · omega
            · omega
          · rw [if_neg e2, swR_at (by omega) (by omega)]
            by_cases e3 : m + j - i ≤ p ∧ p < m + j - i + i
            · rw [if_neg (by omega), if_pos e3, if_neg (by omega), if_pos (by omega), show m - i + (p - (m + j - i)) = p - j by omega]
            · rw [if_neg (by omega), if_neg e3, if_neg (by omega), if_neg (by omega)]
def mvR (a : Nat) : Nat → List Int → List Int
  | 0, D => D
  | c + 1, D => sw (mvR a c D) (a + c) (a + c + 1)
theorem mvR_len {a : Nat} : ∀ {c : Nat} {D : List Int}, (mvR a c D).length = D.length
  | 0, D => rfl
  | c + 1, D => by show (sw _ _ _).length = _; rw [sw_len, mvR_len]
theorem mvR_perm {a : Nat} : ∀ {c : Nat} {D : List Int}, a + c < D.length → (mvR a c D).Perm D
  | 0, D, _ => List.Perm.refl _
  | c + 1, D, h => (sw_perm (by rw [mvR_len]; omega) (by rw [mvR_len]; omega)).trans (mvR_perm (by omega))
theorem mvR_at {a : Nat} : ∀ {c : Nat} {D : List Int} {p : Nat}, a + c < D.length → (mvR a c D).getD p 0 = if a ≤ p ∧ p < a + c then D.getD (p + 1) 0 else if p = a + c then D.getD a 0 else D.getD p 0
  | 0, D, p, _ => by
    rw [if_neg (by omega)]
    split
    · rename_i e; rw [e]; rfl
    · rfl
  | c + 1, D, p, h => by
    show (sw (mvR a c D) (a + c) (a + c + 1)).getD p 0 = _
    rw [sw_at (by rw [mvR_len]; omega) (by rw [mvR_len]; omega)]
    by_cases e1 : p = a + c + 1
    · rw [if_pos e1, mvR_at (by omega), if_neg (by omega), if_pos rfl, if_neg (by omega), if_pos (by omega)]
    · rw [if_neg e1]
      by_cases e2 : p = a + c
      · rw [if_pos e2, mvR_at (by omega), if_neg (by omega), if_neg (by omega), if_pos (by omega), e2]
      · rw [if_neg e2, mvR_at (by omega)]
        by_cases e3 : a ≤ p ∧ p < a + c
        · rw [if_pos e3, if_pos (by omega)]
        · rw [if_neg e3, if_neg e2, if_neg (by omega), if_neg (by omega)]
def mvL (m : Nat) : Nat → List Int → List Int
  | 0, D => D
  | c + 1, D => sw (mvL m c D) (m - c) (m - c - 1)
theorem mvL_len {m : Nat} : ∀ {c : Nat} {D : List Int}, (mvL m c D).length = D.length
  | 0, D => rfl
  | c + 1, D => by show (sw _ _ _).length = _; rw [sw_len, mvL_len]
theorem mvL_perm {m : Nat} : ∀ {c : Nat} {D : List Int}, m < D.length → (mvL m c D).Perm D
  | 0, D, _ => List.Perm.refl _
  | c + 1, D, h => (sw_perm (by rw [mvL_len]; omega) (by rw [mvL_len]; omega)).trans (mvL_perm h)
theorem mvL_at {m : Nat} : ∀ {c : Nat} {D : List Int} {p : Nat}, c ≤ m → m < D.length → (mvL m c D).getD p 0 = if p = m - c then D.getD m 0 else if m - c < p ∧ p ≤ m then D.getD (p - 1) 0 else D.getD p 0
  | 0, D, p, _, _ => by
    by_cases e : p = m - 0
    · rw [if_pos e, e]; rfl
    · rw [if_neg e, if_neg (by omega)]; rfl
  | c + 1, D, p, h1, h2 => by
    show (sw (mvL m c D) (m - c) (m - c - 1)).getD p 0 = _
    rw [sw_at (by rw [mvL_len]; omega) (by rw [mvL_len]; omega)]
    by_cases e1 : p = m - c - 1
    · rw [if_pos e1, mvL_at (by omega) h2, if_pos rfl, if_pos (by omega)]
    · rw [if_neg e1]
      by_cases e2 : p = m - c
      · rw [if_pos e2, mvL_at (by omega) h2, if_neg (by omega), if_neg (by omega), if_neg (by omega), if_pos (by omega), e2]
      · rw [if_neg e2, mvL_at (by omega) h2, if_neg e2]
        by_cases e3 : m - c < p ∧ p ≤ m
        · rw [if_pos e3, if_neg (by omega), if_pos (by omega)]
        · rw [if_neg e3, if_neg (by omega), if_neg (by omega)]
def bsF (P : Nat → Bool) : Nat → Nat → Nat → Nat
  | 0, i, j => i
  | f + 1, i, j => if i < j then (if P ((i + j) / 2) = true then bsF P f ((i + j) / 2 + 1) j else bsF P f i ((i + j) / 2)) else i
theorem bsF_ok {P : Nat → Bool} : ∀ {f i j : Nat}, i ≤ j → j - i ≤ f → i ≤ bsF P f i j ∧ bsF P f i j ≤ j ∧ (bsF P f i j = i ∨ P (bsF P f i j - 1) = true) ∧ (bsF P f i j = j ∨ ¬ P (bsF P f i j) = true)
  | 0, i, j, h1, h2 => by
    have : i = j := by omega
    subst this
    exact ⟨Nat.le_refl _, Nat.le_refl _, .inl rfl, .inl rfl⟩
  | f + 1, i, j, h1, h2 => by
    unfold bsF
    by_cases e : i < j
    · rw [if_pos e]
      by_cases p : P ((i + j) / 2) = true
      · rw [if_pos p]
        obtain ⟨k1, k2, k3, k4⟩ := bsF_ok (P := P) (f := f) (i := (i + j) / 2 + 1) (j := j) (by omega) (by omega)
        refine ⟨by omega, k2, .inr ?_, k4⟩
        rcases k3 with k3 | k3
        · rw [k3]; exact p
        · exact k3
      · rw [if_neg p]
        obtain ⟨k1, k2, k3, k4⟩ := bsF_ok (P := P) (f := f) (i := i) (j := (i + j) / 2) (by omega) (by omega)
        refine ⟨k1, by omega, k3, .inr ?_⟩
        rcases k4 with k4 | k4
        · rw [k4]; exact p
        · exact k4
    · rw [if_neg e]
      have : i = j := by omega
      exact ⟨Nat.le_refl _, by omega, .inl rfl, .inl this⟩
end Go.Proofs.Ytoeppobpnhlebaa

namespace Go.Proofs.Ytoeppobpnhlebaa
open Go Go.RowKit
set_option linter.unusedVariables false
set_option linter.unusedSimpArgs false
variable {lt : Int → Int → Bool} {key : Int → Int}
def symS (lt : Int → Int → Bool) (D : List Int) (a m b : Nat) : Nat :=
  bsF (fun c => !lt (D.getD ((a + b) / 2 + m - 1 - c) 0) (D.getD c 0)) b (if (a + b) / 2 < m then (a + b) / 2 + m - b else a) (if (a + b) / 2 < m then (a + b) / 2 else m)
def symD (D : List Int) (m s e : Nat) : List Int := if s < m ∧ m < e then rotF m (e - s) (m - s) (e - m) D else D
def symF (lt : Int → Int → Bool) : Nat → List Int → Nat → Nat → Nat → List Int
  | 0, D, a, m, b => D
  | f + 1, D, a, m, b =>
    if m - a = 1 then mvR a (bsF (fun h => lt (D.getD h 0) (D.getD a 0)) b m b - 1 - a) D
    else if b - m = 1 then mvL m (m - bsF (fun h => !lt (D.getD m 0) (D.getD h 0)) b a m) D
    else
      if (a + b) / 2 < (a + b) / 2 + m - symS lt D a m b ∧ (a + b) / 2 + m - symS lt D a m b < b then
        symF lt f (if a < symS lt D a m b ∧ symS lt D a m b < (a + b) / 2 then symF lt f (symD D m (symS lt D a m b) ((a + b) / 2 + m - symS lt D a m b)) a (symS lt D a m b) ((a + b) / 2) else symD D m (symS lt D a m b) ((a + b) / 2 + m - symS lt D a m b)) ((a + b) / 2) ((a + b) / 2 + m - symS lt D a m b) b
      else (if a < symS lt D a m b ∧ symS lt D a m b < (a + b) / 2 then symF lt f (symD D m (symS lt D a m b) ((a + b) / 2 + m - symS lt D a m b)) a (symS lt D a m b) ((a + b) / 2) else symD D m (symS lt D a m b) ((a + b) / 2 + m - symS lt D a m b))
structure SymR (key : Int → Int) (a b : Nat) (D R : List Int) : Prop where
  perm : R.Perm D
  out : ∀ p, ¬ (a ≤ p ∧ p < b) → R.getD p 0 = D.getD p 0
  seg : ∀ p, a ≤ p → p < b → ∃ q, a ≤ q ∧ q < b ∧ R.getD p 0 = D.getD q 0
  so : SoOn key R a b
theorem SymR.same {a b : Nat} {D : List Int} (h : SoOn key D a b) : SymR key a b D D := ⟨List.Perm.refl _, fun _ _ => rfl, fun p h1 h2 => ⟨p, h1, h2, rfl⟩, h⟩
theorem symS_ok {D : List Int} {a m b : Nat} (ha : a < m) (hb : m < b) : a ≤ symS lt D a m b ∧ symS lt D a m b ≤ m ∧ m ≤ (a + b) / 2 + m - symS lt D a m b ∧ (a + b) / 2 + m - symS lt D a m b ≤ b ∧ symS lt D a m b ≤ (a + b) / 2 ∧
    (symS lt D a m b = a ∨ (a + b) / 2 + m - symS lt D a m b = b ∨ lt (D.getD ((a + b) / 2 + m - symS lt D a m b) 0) (D.getD (symS lt D a m b - 1) 0) = false) ∧
    (symS lt D a m b = m ∨ (a + b) / 2 + m - symS lt D a m b = m ∨ lt (D.getD ((a + b) / 2 + m - symS lt D a m b - 1) 0) (D.getD (symS lt D a m b) 0) = true) := by
  unfold symS
  have h := bsF_ok (P := fun c => !lt (D.getD ((a + b) / 2 + m - 1 - c) 0) (D.getD c 0)) (f := b) (i := if (a + b) / 2 < m then (a + b) / 2 + m - b else a) (j := if (a + b) / 2 < m then (a + b) / 2 else m) (by split <;> omega) (by split <;> omega)
  revert h
  by_cases hm : (a + b) / 2 < m
  · rw [if_pos hm, if_pos hm]
    generalize bsF _ b ((a + b) / 2 + m - b) ((a + b) / 2) = s
    rintro ⟨h1, h2, h3, h4⟩
    refine ⟨by omega, by omega, by omega, by omega, h2, ?_, ?_⟩
    · rcases h3 with h3 | h3
      · right; left; omega
      · by_cases e : s = (a + b) / 2 + m - b
        · right; left; omega
        · right; right
          rw [show (a + b) / 2 + m - 1 - (s - 1) = (a + b) / 2 + m - s by omega] at h3
          simpa using h3
    · rcases h4 with h4 | h4
      · right; left; omega
      · right; right
        rw [show (a + b) / 2 + m - 1 - s = (a + b) / 2 + m - s - 1 by omega] at h4
        simpa using h4
  · rw [if_neg hm, if_neg hm]
    generalize bsF _ b a m = s
    rintro ⟨h1, h2, h3, h4⟩
    refine ⟨by omega, by omega, by omega, by omega, by omega, ?_, ?_⟩
    · rcases h3 with h3 | h3
      · left; omega
      · by_cases e : s = a
        · left; omega
        · right; right
          rw [show (a + b) / 2 + m - 1 - (s - 1) = (a + b) / 2 + m - s by omega] at h3
          simpa using h3
    · rcases h4 with h4 | h4
      · left; omega
      · right; right
        rw [show (a + b) / 2 + m - 1 - s = (a + b) / 2 + m - s - 1 by omega] at h4
        simpa using h4
theorem symD_perm {D : List Int} {m s e : Nat} (h1 : s ≤ m) (h2 : m ≤ e) (h3 : e ≤ D.length) : (symD D m s e).Perm D := by
  unfold symD
  split
  · exact rotF_perm (by omega) (by omega)
  · exact List.Perm.refl _
theorem symD_at {D : List Int} {m s e p : Nat} (h1 : s ≤ m) (h2 : m ≤ e) (h3 : e ≤ D.length) : (symD D m s e).getD p 0 = if s ≤ p ∧ p < s + (e - m) then D.getD (p + (m - s)) 0 else if s + (e - m) ≤ p ∧ p < e then D.getD (p - (e - m)) 0 else D.getD p 0 := by
  unfold symD
  split
  · rename_i h
    rw [rotF_at (by omega) (by omega) (by omega) (by omega) (by omega)]
    rw [show m - (m - s) = s by omega, show m + (e - m) = e by omega]
  · rename_i h
    by_cases e1 : s ≤ p ∧ p < s + (e - m)
    · rw [if_pos e1, show p + (m - s) = p by omega]
    · rw [if_neg e1]
      by_cases e2 : s + (e - m) ≤ p ∧ p < e
      · rw [if_pos e2, show p - (e - m) = p by omega]
      · rw [if_neg e2]
theorem sym_ok (hk : ∀ x y, lt x y = decide (key x < key y)) : ∀ (f : Nat) (D : List Int) (a m b : Nat), a < m → m < b → b ≤ D.length → b - a ≤ f → SoOn key D a m → SoOn key D m b → SymR key a b D (symF lt f D a m b)
  | 0, D, a, m, b, ha, hb, hl, hf, hA, hB => by omega
  | f + 1, D, a, m, b, ha, hb, hl, hf, hA, hB => by
    have hlt : ∀ x y, lt x y = true ↔ key x < key y := fun x y => by rw [hk, decide_eq_true_eq]
    unfold symF
    by_cases c1 : m - a = 1
    · rw [if_pos c1]
      obtain ⟨i1, i2, i3, i4⟩ := bsF_ok (P := fun h => lt (D.getD h 0) (D.getD a 0)) (f := b) (i := m) (j := b) (by omega) (by omega)
      generalize bsF _ b m b = i at i1 i2 i3 i4
      have hat : ∀ p, (mvR a (i - 1 - a) D).getD p 0 = if a ≤ p ∧ p < i - 1 then D.getD (p + 1) 0 else if p = i - 1 then D.getD a 0 else D.getD p 0 := fun p => by
        rw [mvR_at (by omega), show a + (i - 1 - a) = i - 1 by omega]
      refine ⟨mvR_perm (by omega), fun p hp => ?_, fun p h1 h2 => ?_, fun p q hp hpq hq => ?_⟩
      · rw [hat, if_neg (by omega), if_neg (by omega)]
      · rw [hat]
        by_cases e1 : a ≤ p ∧ p < i - 1
        · rw [if_pos e1]; exact ⟨p + 1, by omega, by omega, rfl⟩
        · rw [if_neg e1]
          by_cases e2 : p = i - 1
          · rw [if_pos e2]; exact ⟨a, by omega, by omega, rfl⟩
          · rw [if_neg e2]; exact ⟨p, h1, h2, rfl⟩
      · rw [hat, hat]
        by_cases q1 : q < i - 1
        · rw [if_pos (by omega), if_pos (by omega)]
          exact hB (p + 1) (q + 1) (by omega) (by omega) (by omega)
        · by_cases q2 : q = i - 1
          · rw [if_pos (by omega), if_neg (by omega), if_pos q2]
            have h5 : key (D.getD (i - 1) 0) < key (D.getD a 0) := by
              rcases i3 with i3 | i3
              · omega
              · exact (hlt _ _).1 i3
            by_cases e : p + 1 = i - 1
            · rw [e]; omega
            · have := hB (p + 1) (i - 1) (by omega) (by omega) (by omega)
              omega
          · rw [if_neg (show ¬ (a ≤ q ∧ q < i - 1) by omega), if_neg q2]
            by_cases p1 : p < i - 1
            · rw [if_pos (by omega)]; exact hB (p + 1) q (by omega) (by omega) hq
            · rw [if_neg (by omega)]
              by_cases p2 : p = i - 1
              · rw [if_pos p2]
                have h5 : key (D.getD a 0) ≤ key (D.getD i 0) := by
                  rcases i4 with i4 | i4
                  · omega
                  · have : ¬ key (D.getD i 0) < key (D.getD a 0) := fun h => i4 ((hlt _ _).2 h)
                    omega
                by_cases e : i = q
                · rw [← e]; exact h5
                · exact Int.le_trans h5 (hB i q (by omega) (by omega) hq)
              · rw [if_neg p2]; exact hB p q (by omega) hpq hq
    · rw [if_neg c1]
      by_cases c2 : b - m = 1
      · rw [if_pos c2]
        obtain ⟨i1, i2, i3, i4⟩ := bsF_ok (P := fun h => !lt (D.getD m 0) (D.getD h 0)) (f := b) (i := a) (j := m) (by omega) (by omega)
        generalize bsF _ b a m = i at i1 i2 i3 i4
        have hat : ∀ p, (mvL m (m - i) D).getD p 0 = if p = i then D.getD m 0 else if i < p ∧ p ≤ m then D.getD (p - 1) 0 else D.getD p 0 := fun p => by
          rw [mvL_at (by omega) (by omega), show m - (m - i) = i by omega]
        refine ⟨mvL_perm (by omega), fun p hp => ?_, fun p h1 h2 => ?_, fun p q hp hpq hq => ?_⟩
        · rw [hat, if_neg (by omega), if_neg (by omega)]
        · rw [hat]
          by_cases e1 : p = i
          · rw [if_pos e1]; exact ⟨m, by omega, by omega, rfl⟩
          · rw [if_neg e1]
            by_cases e2 : i < p ∧ p ≤ m
            · rw [if_pos e2]; exact ⟨p - 1, by omega, by omega, rfl⟩
            · rw [if_neg e2]; exact ⟨p, h1, h2, rfl⟩
        · rw [hat, hat]
          by_cases p1 : p < i
          · rw [if_neg (show ¬ p = i by omega), if_neg (show ¬ (i < p ∧ p ≤ m) by omega)]
            by_cases q1 : q < i
            · rw [if_neg (by omega), if_neg (by omega)]; exact hA p q hp hpq (by omega)
            · by_cases q2 : q = i
              · rw [if_pos q2]
                have h5 : key (D.getD (i - 1) 0) ≤ key (D.getD m 0) := by
                  rcases i3 with i3 | i3
                  · omega
                  · have : ¬ key (D.getD m 0) < key (D.getD (i - 1) 0) := fun h => by rw [(hlt _ _).2 h] at i3; cases i3
                    omega
                by_cases e : p = i - 1
                · rw [e]; exact h5
                · exact Int.le_trans (hA p (i - 1) hp (by omega) (by omega)) h5
              · rw [if_neg q2, if_pos (by omega)]
                exact hA p (q - 1) hp (by omega) (by omega)
          · by_cases p2 : p = i
            · rw [if_pos p2, if_neg (by omega), if_pos (by omega)]
              have h5 : key (D.getD m 0) < key (D.getD i 0) := by
                rcases i4 with i4 | i4
                · omega
                · have h6 : lt (D.getD m 0) (D.getD i 0) = true := by simpa using i4
                  exact (hlt _ _).1 h6
              by_cases e : q - 1 = i
              · rw [e]; omega
              · have := hA i (q - 1) (by omega) (by omega) (by omega)
                omega
            · rw [if_neg p2, if_pos (by omega), if_neg (by omega), if_pos (by omega)]
              exact hA (p - 1) (q - 1) (by omega) (by omega) (by omega)
      · rw [if_neg c2]
        obtain ⟨s1, s2, s3, s4, s5, s6, s7⟩ := symS_ok (lt := lt) (D := D) ha hb
        generalize symS lt D a m b = s at s1 s2 s3 s4 s5 s6 s7
        obtain ⟨mid, hmid⟩ : ∃ mid, mid = (a + b) / 2 := ⟨_, rfl⟩
        rw [← hmid] at s3 s4 s5 s6 s7 ⊢
        obtain ⟨e, he⟩ : ∃ e, e = mid + m - s := ⟨_, rfl⟩
        rw [← he] at s3 s4 s6 s7 ⊢
        have hme : mid = s + (e - m) := by omega
        have hmb : mid < b := by omega
        have hma : a < mid := by omega
        have D1p := symD_perm (D := D) s2 s3 (by omega)
        have D1a : ∀ p, (symD D m s e).getD p 0 = if s ≤ p ∧ p < mid then D.getD (p + (m - s)) 0 else if mid ≤ p ∧ p < e then D.getD (p - (e - m)) 0 else D.getD p 0 := fun p => by
          rw [symD_at s2 s3 (by omega), ← hme]
        generalize symD D m s e = D1 at D1p D1a
        have cross : ∀ p q, a ≤ p → p < mid → mid ≤ q → q < b → key (D1.getD p 0) ≤ key (D1.getD q 0) := fun p q h1 h2 h3 h4 => by
          rw [D1a, D1a]
          rw [if_neg (show ¬ (s ≤ q ∧ q < mid) by omega)]
          by_cases p1 : s ≤ p
          · rw [if_pos ⟨p1, h2⟩]
            by_cases q1 : q < e
            · rw [if_pos ⟨h3, q1⟩]
              have h5 : key (D.getD (e - 1) 0) < key (D.getD s 0) := by
                rcases s7 with s7 | s7 | s7
                · omega
                · omega
                · exact (hlt _ _).1 s7
              have h6 : key (D.getD (p + (m - s)) 0) ≤ key (D.getD (e - 1) 0) := by
                by_cases e1 : p + (m - s) = e - 1
                · rw [e1]; exact Int.le_refl _
                · exact hB _ _ (by omega) (by omega) (by omega)
              have h7 : key (D.getD s 0) ≤ key (D.getD (q - (e - m)) 0) := by
                by_cases e1 : s = q - (e - m)
                · rw [← e1]; exact Int.le_refl _
                · exact hA _ _ (by omega) (by omega) (by omega)
              omega
            · rw [if_neg (by omega)]
              exact hB _ _ (by omega) (by omega) h4
          · rw [if_neg (by omega), if_neg (show ¬ (mid ≤ p ∧ p < e) by omega)]
            by_cases q1 : q < e
            · rw [if_pos ⟨h3, q1⟩]
              exact hA _ _ h1 (by omega) (by omega)
            · rw [if_neg (by omega)]
              have h5 : key (D.getD (s - 1) 0) ≤ key (D.getD e 0) := by
                rcases s6 with s6 | s6 | s6
                · omega
                · omega
                · have : ¬ key (D.getD e 0) < key (D.getD (s - 1) 0) := fun h => by rw [(hlt _ _).2 h] at s6; cases s6
                  omega
              have h6 : key (D.getD p 0) ≤ key (D.getD (s - 1) 0) := by
                by_cases e1 : p = s - 1
                · rw [e1]; exact Int.le_refl _
                · exact hA _ _ h1 (by omega) (by omega)
              have h7 : key (D.getD e 0) ≤ key (D.getD q 0) := by
                by_cases e1 : e = q
                · rw [e1]; exact Int.le_refl _
                · exact hB _ _ (by omega) (by omega) h4
              omega
        have r1 : SoOn key D1 a s := fun p q h1 h2 h3 => by
          rw [D1a, D1a, if_neg (by omega), if_neg (by omega), if_neg (by omega), if_neg (by omega)]
          exact hA p q h1 h2 (by omega)
        have r2 : SoOn key D1 s mid := fun p q h1 h2 h3 => by
          rw [D1a, D1a, if_pos (by omega), if_pos (by omega)]
          exact hB _ _ (by omega) (by omega) (by omega)
        have r3 : SoOn key D1 mid e := fun p q h1 h2 h3 => by
          rw [D1a, D1a, if_neg (by omega), if_pos (by omega), if_neg (by omega), if_pos (by omega)]
          exact hA _ _ (by omega) (by omega) (by omega)
        have r4 : SoOn key D1 e b := fun p q h1 h2 h3 => by
          rw [D1a, D1a, if_neg (by omega), if_neg (by omega), if_neg (by omega), if_neg (by omega)]
          exact hB p q (by omega) h2 h3
        have hl1 : D1.length = D.length := D1p.length_eq
        have S2 : SymR key a mid D1 (if a < s ∧ s < mid then symF lt f D1 a s mid else D1) := by
          by_cases c : a < s ∧ s < mid
          · rw [if_pos c]; exact sym_ok hk f D1 a s mid c.1 c.2 (by omega) (by omega) r1 r2
          · rw [if_neg c]
            refine SymR.same ?_
            by_cases e1 : s = a
            · rw [← e1]; exact r2
            · have : s = mid := by omega
              rw [← this]; exact r1
        generalize (if a < s ∧ s < mid then symF lt f D1 a s mid else D1) = D2 at S2
        have hl2 : D2.length = D.length := by rw [S2.perm.length_eq, hl1]
        have S3 : SymR key mid b D2 (if mid < e ∧ e < b then symF lt f D2 mid e b else D2) := by
          have t3 : SoOn key D2 mid e := fun p q h1 h2 h3 => by
            rw [S2.out p (by omega), S2.out q (by omega)]; exact r3 p q h1 h2 h3
          have t4 : SoOn key D2 e b := fun p q h1 h2 h3 => by
            rw [S2.out p (by omega), S2.out q (by omega)]; exact r4 p q h1 h2 h3
          by_cases c : mid < e ∧ e < b
          · rw [if_pos c]; exact sym_ok hk f D2 mid e b c.1 c.2 (by omega) (by omega) t3 t4
          · rw [if_neg c]
            refine SymR.same ?_
            by_cases e1 : e = mid
            · rw [← e1]; exact t4
            · have : e = b := by omega
              rw [← this]; exact t3
        generalize (if mid < e ∧ e < b then symF lt f D2 mid e b else D2) = D3 at S3
        refine ⟨S3.perm.trans (S2.perm.trans D1p), fun p hp => ?_, fun p h1 h2 => ?_, fun p q hp hpq hq => ?_⟩
        · rw [S3.out p (by omega), S2.out p (by omega), D1a, if_neg (by omega), if_neg (by omega)]
        · have g1 : ∀ x, a ≤ x → x < b → ∃ y, a ≤ y ∧ y < b ∧ D1.getD x 0 = D.getD y 0 := fun x h3 h4 => by
            rw [D1a]
            split
            · exact ⟨_, by omega, by omega, rfl⟩
            · split
              · exact ⟨_, by omega, by omega, rfl⟩
              · exact ⟨_, h3, h4, rfl⟩
          have g2 : ∀ x, a ≤ x → x < b → ∃ y, a ≤ y ∧ y < b ∧ D2.getD x 0 = D1.getD y 0 := fun x h3 h4 => by
            by_cases c : x < mid
            · obtain ⟨y, k1, k2, k3⟩ := S2.seg x h3 c
              exact ⟨y, k1, by omega, k3⟩
            · exact ⟨x, h3, h4, S2.out x (by omega)⟩
          have g3 : ∃ y, a ≤ y ∧ y < b ∧ D3.getD p 0 = D2.getD y 0 := by
            by_cases c : mid ≤ p
            · obtain ⟨y, k1, k2, k3⟩ := S3.seg p c h2
              exact ⟨y, by omega, k2, k3⟩
            · exact ⟨p, h1, h2, S3.out p (by omega)⟩
          obtain ⟨y3, k1, k2, k3⟩ := g3
          obtain ⟨y2, k4, k5, k6⟩ := g2 y3 k1 k2
          obtain ⟨y1, k7, k8, k9⟩ := g1 y2 k4 k5
          exact ⟨y1, k7, k8, by rw [k3, k6, k9]⟩
        · by_cases c1 : q < mid
          · rw [S3.out p (by omega), S3.out q (by omega)]
            exact S2.so p q hp hpq c1
          · by_cases c2 : mid ≤ p
            · exact S3.so p q c2 hpq hq
            · rw [S3.out p (by omega)]
              obtain ⟨y, k1, k2, k3⟩ := S3.seg q (by omega) hq
              obtain ⟨x, k4, k5, k6⟩ := S2.seg p hp (by omega)
              rw [k3, k6, S2.out y (by omega)]
              exact cross x y k4 k5 k1 k2
end Go.Proofs.Ytoeppobpnhlebaa

namespace Go.Proofs.Ytoeppobpnhlebaa
open Go Go.RowKit
set_option linter.unusedVariables false
set_option linter.unusedSimpArgs false
variable {tb : List (FuncId × Bool)} {L : Nat → Bool} {H : ZH} {K : ZV → ZH → Prop}
variable {o g a b n : Nat} {ex : Bool} {D : List Int} {f : FuncId} {caps : List ZV} {cf : Int → Int → Int}
abbrev bk (H : ZH) (o g : Nat) (D : List Int) : ZH := H.set o (.grow g 1 (D.map eI))
def CmpZ (tb : List (FuncId × Bool)) (L : Nat → Bool) (H : ZH) (o g : Nat) (f : FuncId) (caps : List ZV) (D : List Int) (cf : Int → Int → Int) : Prop :=
  ∀ x, x ∈ D → ∀ y, y ∈ D → ∀ (R : List (List ZV)) (K : ZV → ZH → Prop), K (Z64 (cf x y)) (H.set o (.grow g 1 R)) → ZC (constX tb) (cFunc Try.prog) f (Z64 x :: Z64 y :: caps) L (H.set o (.grow g 1 R)) K
abbrev ltC (cf : Int → Int → Int) : Int → Int → Bool := fun x y => decide (cf x y < 0)
theorem bk_at (ho : o < H.length) : (bk H o g D)[o]? = some (.grow g 1 (D.map eI)) := List.getElem?_set_self ho
theorem bk_el (ho : o < H.length) {j : Nat} (hn : D.length = n) (hj : j < n) : elemZ (bk H o g D) 1 j (.own o g 0 n ex) = some (.eptr o g j 0) := by
  rw [elem_own]; exact ⟨_, bk_at ho, by simp [hn], hj, by simp⟩
theorem bk_ld (ho : o < H.length) {j : Nat} {x : Int} (hx : D[j]? = some x) : ldZ (bk H o g D) none (.eptr o g j 0) = some (Z64 x) := by
  rw [ld_eptr]; exact ⟨_, _, _, bk_at ho, by rw [List.getElem?_map, hx]; rfl, rfl⟩
theorem bk_st (ho : o < H.length) (hL : L o = true) {j : Nat} {x : Int} (hj : j < D.length) : stZ L (bk H o g D) [Z64 x] (.eptr o g j 0) = some (bk H o g (D.set j x)) := by
  rw [st_eptr]; exact ⟨1, _, eI D[j], bk_at ho, by rw [List.getElem?_map, List.getElem?_eq_getElem hj]; rfl, hL, by simp [eI], by unfold bk; rw [List.set_set, List.map_set]; rfl⟩
set_option maxHeartbeats 4000000 in
theorem ins_z (ho : o < H.length) (hL : L o = true) (hf : CmpZ tb L H o g f caps D cf) (hb : b ≤ D.length) (hn : D.length ≤ 1000) (hab : a ≤ b)
    (hK : K .no (bk H o g (insTo (ltC cf) a (b - (a + 1)) D))) :
    ZC (constX tb) (cFunc Try.prog) 58 [.own o g 0 D.length ex, Z64 (a : Int), Z64 (b : Int), .func f caps] L (bk H o g D) K := by
  refine ZC.enter Gh.no constX_none f_sn_ins (by simp) ?_
  simp only [c_sn_ins]
  have FIN := Lib.hid (Fin.keep (H0 := bk H o g D) hK)
  have HF := Lib.hid hf
  have HO := Lib.hid (And.intro ho hL)
  have w1 : IntKind.i64.wrap ((a : Int) + 1) = ((a + 1 + 0 : Nat) : Int) := by rw [IntWalk.i64_in _ (by omega)]; omega
  clear hK hf ho hL
  repeat' (first | (simp only [zmPack, zxPack, ne_eq, zfree, owners, Nat.reduceLT, List.contains_cons, List.contains_nil, Nat.reduceBEq, BEq.rfl, chunk, setAt, List.lookup_cons, List.lookup_nil, reduceCtorEq, Nat.reduceEqDiff, reduceIte, implies_true, forall_const, Nat.reduceMul, Nat.reduceSub, Nat.reduceAdd, Nat.reduceLeDiff, w1, *]) | (simp only [zgoO, zgoG, zO_nil, zthen_normal, zgoC]) | (with_reducible apply And.intro) | (with_reducible intro _))
  clear w1
  refine zW_whileK [(0, .own o g 0 D.length ex), (1, Z64 (a : Int)), (2, Z64 (b : Int)), (3, .func f caps)] (b - (a + 1)) (fun r s h => ∃ m : Nat, s 8 = Z64 ((a + 1 + m : Nat) : Int) ∧ h = bk H o g (insTo (ltC cf) a m D) ∧ (a + 1 + m ≤ b ∨ m = 0) ∧ r = b - (a + 1 + m)) (by repeat' (first | exact trivial | (refine ⟨rfl, ?_⟩) | (refine ⟨by simp only [zupd_at, Nat.reduceEqDiff, reduceIte]; assumption, ?_⟩))) rfl ⟨0, rfl, rfl, .inr rfl, rfl⟩ ?_
  rintro r s h ⟨m, f8, rfl, hm, rfl⟩ ⟨f0, f1, f2, f3, -⟩
  by_cases hi : a + 1 + m < b
  · have c1 : ((a + 1 + m : Nat) : Int) < (b : Int) := by omega
    have hp0 := insTo_perm (lt := ltC cf) (a := a) (m := m) (D := D) (by omega)
    obtain ⟨E, hE⟩ : ∃ E, E = insTo (ltC cf) a m D := ⟨_, rfl⟩
    have hE2 : insIn (ltC cf) a (a + 1 + m) E = insTo (ltC cf) a (m + 1) D := by rw [hE]; rfl
    rw [← hE] at hp0 ⊢
    obtain ⟨i, hii⟩ : ∃ i, i = a + 1 + m := ⟨_, rfl⟩
    have HE := Lib.hid hE2
    have HI := Lib.hid hii
    rw [← hii] at f8 c1
    clear hE hE2 hii
    repeat' (first | (simp only [zmPack, zxPack, ne_eq, zfree, owners, Nat.reduceLT, List.contains_cons, List.contains_nil, Nat.reduceBEq, BEq.rfl, chunk, setAt, List.lookup_cons, List.lookup_nil, reduceCtorEq, Nat.reduceEqDiff, reduceIte, implies_true, forall_const, Nat.reduceMul, Nat.reduceSub, Nat.reduceAdd, Nat.reduceLeDiff, c1, *]) | (simp only [zgoO, zgoG, zO_nil, zthen_normal, zgoC]) | (with_reducible apply And.intro) | (with_reducible intro _))
    refine zW_whileK [(0, .own o g 0 D.length ex), (1, Z64 (a : Int)), (2, Z64 (b : Int)), (3, .func f caps), (8, Z64 (i : Int))] i (fun r s h => ∃ (j : Nat) (D2 : List Int), s 9 = Z64 (j : Int) ∧ h = bk H o g D2 ∧ j ≤ i ∧ a ≤ j ∧ D2.Perm D ∧ insIn (ltC cf) a j D2 = insIn (ltC cf) a i E ∧ r = j) (by repeat' (first | exact trivial | (refine ⟨rfl, ?_⟩) | (refine ⟨by simp only [zupd_at, Nat.reduceEqDiff, reduceIte]; assumption, ?_⟩))) rfl ⟨i, E, rfl, rfl, Nat.le_refl _, by have := HI.out; omega, hp0, rfl, rfl⟩ ?_
    clear f8 f0 f1 f2 f3 c1
    rintro j s h ⟨j0, D2, f9, rfl, hji, haj, hp, hin, rfl⟩ ⟨f0, f1, f2, f3, f8, -⟩
    have hlen := hp.length_eq
    have HIN := Lib.hid hin
    have HP := Lib.hid hp
    clear hin hp
    have w2 : IntKind.i64.wrap ((i : Int) + 1) = ((a + 1 + (m + 1) : Nat) : Int) := by have := HI.out; rw [IntWalk.i64_in _ (by omega)]; omega
    by_cases hj : a < j
    · obtain ⟨j, rfl⟩ : ∃ j', j = j' + 1 := ⟨j - 1, by omega⟩
      have hin := HIN.out
      have hjb : j + 1 < D.length := by have := HI.out; omega
      have w3 : IntKind.i64.wrap (((j + 1 : Nat) : Int) - 1) = (j : Int) := by rw [IntWalk.i64_in _ (by omega)]; omega
      have c2 : (a : Int) < ((j + 1 : Nat) : Int) := by omega
      obtain ⟨x, hx⟩ : ∃ x, D2[j + 1]? = some x := ⟨_, List.getElem?_eq_getElem (by omega)⟩
      obtain ⟨y, hy⟩ : ∃ y, D2[j]? = some y := ⟨_, List.getElem?_eq_getElem (by omega)⟩
      have gx : D2.getD (j + 1) 0 = x := by rw [List.getD_eq_getElem?_getD, hx]; rfl
      have gy : D2.getD j 0 = y := by rw [List.getD_eq_getElem?_getD, hy]; rfl
      have ho := HO.out.1
      have e1 := bk_el (H := H) (o := o) (g := g) (ex := ex) (D := D2) ho hlen hjb
      have e2 := bk_el (H := H) (o := o) (g := g) (ex := ex) (D := D2) (j := j) ho hlen (by omega)
      have l1 := bk_ld (H := H) (o := o) (g := g) ho hx
      have l2 := bk_ld (H := H) (o := o) (g := g) ho hy
      have hc : ∀ K : ZV → ZH → Prop, K (Z64 (cf x y)) (bk H o g D2) → ZC (constX tb) (cFunc Try.prog) f (Z64 x :: Z64 y :: caps) L (bk H o g D2) K := HF.out x (HP.out.mem_iff.1 (List.mem_of_getElem? hx)) y (HP.out.mem_iff.1 (List.mem_of_getElem? hy)) (D2.map eI)
      have s1 := bk_st (H := H) (o := o) (g := g) (L := L) (D := D2) (x := y) ho HO.out.2 (show j + 1 < D2.length by omega)
      have e3 := bk_el (H := H) (o := o) (g := g) (ex := ex) (n := D.length) (D := D2.set (j + 1) y) (j := j) ho (by rw [List.length_set]; exact hlen) (by omega)
      have s2 := bk_st (H := H) (o := o) (g := g) (L := L) (D := D2.set (j + 1) y) (j := j) (x := x) ho HO.out.2 (by rw [List.length_set]; omega)
      have hsw : (D2.set (j + 1) y).set j x = sw D2 (j + 1) j := by unfold sw; rw [gx, gy]
      have hpw : (sw D2 (j + 1) j).Perm D := (sw_perm (by omega) (by omega)).trans HP.out
      rw [hsw] at s2
      have HPW := Lib.hid hpw
      rw [insIn_succ, gx, gy] at hin
      obtain ⟨H2, hH2⟩ : ∃ H2, H2 = bk H o g D2 := ⟨_, rfl⟩
      have HH2 := Lib.hid hH2
      rw [← hH2] at e1 e2 l1 l2 hc s1 ⊢
      clear hH2
      by_cases hlt : cf x y < 0
      · rw [if_pos ⟨hj, by simpa using hlt⟩] at hin
        have HIN2 := Lib.hid hin
        clear hx hy gx gy ho hsw hpw hin HIN
        repeat' (first | (simp only [zmPack, zxPack, ne_eq, zfree, owners, Nat.reduceLT, List.contains_cons, List.contains_nil, Nat.reduceBEq, BEq.rfl, chunk, setAt, List.lookup_cons, List.lookup_nil, reduceCtorEq, Nat.reduceEqDiff, reduceIte, implies_true, forall_const, Nat.reduceMul, Nat.reduceSub, Nat.reduceAdd, Nat.reduceLeDiff, c2, w3, e1, l1, e2, l2, *]) | (simp only [zgoO, zgoG, zO_nil, zthen_normal, zgoC]) | (with_reducible apply And.intro) | (with_reducible intro _))
        refine hc _ ?_
        repeat' (first | (simp only [zmPack, zxPack, ne_eq, zfree, owners, Nat.reduceLT, List.contains_cons, List.contains_nil, Nat.reduceBEq, BEq.rfl, chunk, setAt, List.lookup_cons, List.lookup_nil, reduceCtorEq, Nat.reduceEqDiff, reduceIte, implies_true, forall_const, Nat.reduceMul, Nat.reduceSub, Nat.reduceAdd, Nat.reduceLeDiff, hlt, c2, w3, e1, l1, e2, l2, s1, e3, s2, *]) | (simp only [zgoO, zgoG, zO_nil, zthen_normal, zgoC]) | (with_reducible apply And.intro) | (with_reducible intro _))
        all_goals first | exact ⟨j, by omega, j, rfl, _, rfl, by omega, by omega, HPW.out, HIN2.out, rfl⟩ | exact ⟨j, by omega, _, rfl, by omega, by omega, HPW.out, HIN2.out, rfl⟩ | exact ⟨j, by omega, _, by omega, by omega, HPW.out, HIN2.out, rfl⟩ | (have zz : 0 = 1 := by refine ⟨j, by omega, ?_⟩)
      · rw [if_neg (fun q => hlt (by simpa using q.2))] at hin
        have HIN2 := Lib.hid hin
        clear hx hy gx gy ho hsw hpw hin HIN
        repeat' (first | (simp only [zmPack, zxPack, ne_eq, zfree, owners, Nat.reduceLT, List.contains_cons, List.contains_nil, Nat.reduceBEq, BEq.rfl, chunk, setAt, List.lookup_cons, List.lookup_nil, reduceCtorEq, Nat.reduceEqDiff, reduceIte, implies_true, forall_const, Nat.reduceMul, Nat.reduceSub, Nat.reduceAdd, Nat.reduceLeDiff, c2, w3, e1, l1, e2, l2, *]) | (simp only [zgoO, zgoG, zO_nil, zthen_normal, zgoC]) | (with_reducible apply And.intro) | (with_reducible intro _))
        refine hc _ ?_
        have hd : D2 = insTo (ltC cf) a (m + 1) D := by rw [← HE.out, ← HI.out, ← HIN2.out]
        have HD := Lib.hid hd
        clear hd
        repeat' (first | (simp only [zmPack, zxPack, ne_eq, zfree, owners, Nat.reduceLT, List.contains_cons, List.contains_nil, Nat.reduceBEq, BEq.rfl, chunk, setAt, List.lookup_cons, List.lookup_nil, reduceCtorEq, Nat.reduceEqDiff, reduceIte, implies_true, forall_const, Nat.reduceMul, Nat.reduceSub, Nat.reduceAdd, Nat.reduceLeDiff, hlt, w2, *]) | (simp only [zgoO, zgoG, zO_nil, zthen_normal, zgoC]) | (with_reducible apply And.intro) | (with_reducible intro _))
        all_goals exact ⟨b - (a + 1 + (m + 1)), by omega, m + 1, rfl, by rw [← HD.out]; exact HH2.out, .inl (by omega), rfl⟩
    · have c2 : ¬ (a : Int) < (j : Int) := by omega
      have hin := HIN.out
      have : j = a := by omega
      subst this
      rw [insIn_stop (by omega)] at hin
      have hd : D2 = insTo (ltC cf) j (m + 1) D := by rw [← HE.out, ← HI.out, ← hin]
      have HD := Lib.hid hd
      clear hd hin
      repeat' (first | (simp only [zmPack, zxPack, ne_eq, zfree, owners, Nat.reduceLT, List.contains_cons, List.contains_nil, Nat.reduceBEq, BEq.rfl, chunk, setAt, List.lookup_cons, List.lookup_nil, reduceCtorEq, Nat.reduceEqDiff, reduceIte, implies_true, forall_const, Nat.reduceMul, Nat.reduceSub, Nat.reduceAdd, Nat.reduceLeDiff, c2, w2, *]) | (simp only [zgoO, zgoG, zO_nil, zthen_normal, zgoC]) | (with_reducible apply And.intro) | (with_reducible intro _))
      all_goals exact ⟨b - (j + 1 + (m + 1)), by omega, m + 1, rfl, by rw [← HD.out], .inl (by omega), rfl⟩
  · have c1 : ¬ ((a + 1 + m : Nat) : Int) < (b : Int) := by omega
    have e : b - (a + 1) = m := by omega
    have fin := FIN.out
    rw [e] at fin
    repeat' (first | (simp only [zmPack, zxPack, ne_eq, zfree, owners, Nat.reduceLT, List.contains_cons, List.contains_nil, Nat.reduceBEq, BEq.rfl, chunk, setAt, List.lookup_cons, List.lookup_nil, reduceCtorEq, Nat.reduceEqDiff, reduceIte, implies_true, forall_const, Nat.reduceMul, Nat.reduceSub, Nat.reduceAdd, Nat.reduceLeDiff, c1, *]) | (simp only [zgoO, zgoG, zO_nil, zthen_normal, zgoC]) | (with_reducible apply And.intro) | (with_reducible intro _))
    all_goals exact ⟨_, rfl, fin⟩
end Go.Proofs.Ytoeppobpnhlebaa

namespace Go.Proofs.Ytoeppobpnhlebaa
open Go Go.RowKit
set_option linter.unusedVariables false
set_option linter.unusedSimpArgs false
variable {tb : List (FuncId × Bool)} {L : Nat → Bool} {H : ZH} {K : ZV → ZH → Prop}
variable {o g a b m n : Nat} {ex : Bool} {D : List Int} {f : FuncId} {caps : List ZV} {cf : Int → Int → Int} {z : ZV}
structure SwF (L : Nat → Bool) (H : ZH) (o g n : Nat) (ex : Bool) (D : List Int) (i j : Nat) (x y : Int) (H1 : ZH) : Prop where
  ei : elemZ (bk H o g D) 1 i (.own o g 0 n ex) = some (.eptr o g i 0)
  ej : elemZ (bk H o g D) 1 j (.own o g 0 n ex) = some (.eptr o g j 0)
  li : ldZ (bk H o g D) none (.eptr o g i 0) = some (Z64 x)
  lj : ldZ (bk H o g D) none (.eptr o g j 0) = some (Z64 y)
  s1 : stZ L (bk H o g D) [Z64 y] (.eptr o g i 0) = some H1
  e2 : elemZ H1 1 j (.own o g 0 n ex) = some (.eptr o g j 0)
  s2 : stZ L H1 [Z64 x] (.eptr o g j 0) = some (bk H o g (sw D i j))
theorem bk_swap (ho : o < H.length) (hL : L o = true) (hn : D.length = n) {i j : Nat} (hi : i < n) (hj : j < n) : ∃ x y H1, SwF L H o g n ex D i j x y H1 := by
  have hx : D[i]? = some (D.getD i 0) := by rw [List.getD_eq_getElem?_getD, List.getElem?_eq_getElem (by omega)]; rfl
  have hy : D[j]? = some (D.getD j 0) := by rw [List.getD_eq_getElem?_getD, List.getElem?_eq_getElem (by omega)]; rfl
  exact ⟨D.getD i 0, D.getD j 0, bk H o g (D.set i (D.getD j 0)), bk_el ho hn hi, bk_el ho hn hj, bk_ld ho hx, bk_ld ho hy, bk_st ho hL (by omega), bk_el ho (by rw [List.length_set]; exact hn) hj, bk_st ho hL (by rw [List.length_set]; omega)⟩
set_option maxHeartbeats 4000000 in
theorem swap_z (ho : o < H.length) (hL : L o = true) (hn : D.length = n) (hn2 : n ≤ 1000) (ha : a + m ≤ n) (hb : b + m ≤ n) (hK : K .no (bk H o g (swR a b m D))) :
    ZC (constX tb) (cFunc Try.prog) 63 [.own o g 0 n ex, Z64 (a : Int), Z64 (b : Int), Z64 (m : Int), z] L (bk H o g D) K := by
  refine ZC.enter Gh.no constX_none f_sn_swap (by simp) ?_
  simp only [c_sn_swap]
  have FIN := Lib.hid (Fin.keep (H0 := bk H o g D) hK)
  clear hK
  repeat' (first | (simp only [zmPack, zxPack, ne_eq, zfree, owners, Nat.reduceLT, List.contains_cons, List.contains_nil, Nat.reduceBEq, BEq.rfl, chunk, setAt, List.lookup_cons, List.lookup_nil, reduceCtorEq, Nat.reduceEqDiff, reduceIte, implies_true, forall_const, Nat.reduceMul, Nat.reduceSub, Nat.reduceAdd, Nat.reduceLeDiff, *]) | (simp only [zgoO, zgoG, zO_nil, zthen_normal, zgoC]) | (with_reducible apply And.intro) | (with_reducible intro _))
  refine zW_whileK [(0, .own o g 0 n ex), (1, Z64 (a : Int)), (2, Z64 (b : Int)), (3, Z64 (m : Int))] m (fun r s h => ∃ k : Nat, s 10 = Z64 (k : Int) ∧ h = bk H o g (swR a b k D) ∧ k ≤ m ∧ r = m - k) (by repeat' (first | exact trivial | (refine ⟨rfl, ?_⟩) | (refine ⟨by simp only [zupd_at, Nat.reduceEqDiff, reduceIte]; assumption, ?_⟩))) rfl ⟨0, rfl, rfl, Nat.zero_le _, rfl⟩ ?_
  rintro r s h ⟨k, f10, rfl, hk, rfl⟩ ⟨f0, f1, f2, f3, -⟩
  by_cases hc : k < m
  · have c1 : (k : Int) < (m : Int) := by omega
    obtain ⟨x, y, H1, F⟩ := bk_swap (H := H) (o := o) (g := g) (L := L) (ex := ex) (n := n) (D := swR a b k D) (i := a + k) (j := b + k) ho hL (by rw [swR_len]; exact hn) (by omega) (by omega)
    have F2 : bk H o g (sw (swR a b k D) (a + k) (b + k)) = bk H o g (swR a b (k + 1) D) := rfl
    have w1 : IntKind.i64.wrap ((a : Int) + (k : Int)) = ((a + k : Nat) : Int) := by rw [IntWalk.i64_in _ (by omega)]; omega
    have w2 : IntKind.i64.wrap ((b : Int) + (k : Int)) = ((b + k : Nat) : Int) := by rw [IntWalk.i64_in _ (by omega)]; omega
    have w3 : IntKind.i64.wrap ((k : Int) + 1) = ((k + 1 : Nat) : Int) := by rw [IntWalk.i64_in _ (by omega)]; omega
    obtain ⟨g1, g2, g3, g4, g5, g6, g7⟩ := F
    rw [F2] at g7
    clear F2
    generalize bk H o g (swR a b k D) = H2 at g1 g2 g3 g4 g5 ⊢
    repeat' (first | (simp only [zmPack, zxPack, ne_eq, zfree, owners, Nat.reduceLT, List.contains_cons, List.contains_nil, Nat.reduceBEq, BEq.rfl, chunk, setAt, List.lookup_cons, List.lookup_nil, reduceCtorEq, Nat.reduceEqDiff, reduceIte, implies_true, forall_const, Nat.reduceMul, Nat.reduceSub, Nat.reduceAdd, Nat.reduceLeDiff, c1, w1, w2, w3, g1, g2, g3, g4, g5, g6, g7, *]) | (simp only [zgoO, zgoG, zO_nil, zthen_normal, zgoC]) | (with_reducible apply And.intro) | (with_reducible intro _))
    all_goals exact ⟨m - (k + 1), by omega, k + 1, rfl, rfl, by omega, rfl⟩
  · have c1 : ¬ (k : Int) < (m : Int) := by omega
    have : k = m := by omega
    subst this
    have fin := FIN.out
    repeat' (first | (simp only [zmPack, zxPack, ne_eq, zfree, owners, Nat.reduceLT, List.contains_cons, List.contains_nil, Nat.reduceBEq, BEq.rfl, chunk, setAt, List.lookup_cons, List.lookup_nil, reduceCtorEq, Nat.reduceEqDiff, reduceIte, implies_true, forall_const, Nat.reduceMul, Nat.reduceSub, Nat.reduceAdd, Nat.reduceLeDiff, c1, *]) | (simp only [zgoO, zgoG, zO_nil, zthen_normal, zgoC]) | (with_reducible apply And.intro) | (with_reducible intro _))
    all_goals exact ⟨_, rfl, fin⟩
set_option maxHeartbeats 4000000 in
theorem rot_z {e : Nat} (ho : o < H.length) (hL : L o = true) (hn : D.length = n) (hn2 : n ≤ 1000) (ha : a < m) (hm : m < e) (hb : e ≤ n) (hK : K .no (bk H o g (rotF m (e - a) (m - a) (e - m) D))) :
    ZC (constX tb) (cFunc Try.prog) 62 [.own o g 0 n ex, Z64 (a : Int), Z64 (m : Int), Z64 (e : Int), z] L (bk H o g D) K := by
  refine ZC.enter Gh.no constX_none f_sn_rot (by simp) ?_
  simp only [c_sn_rot]
  have FIN := Lib.hid (Fin.keep (H0 := bk H o g D) hK)
  have w1 : IntKind.i64.wrap ((m : Int) - (a : Int)) = ((m - a : Nat) : Int) := by rw [IntWalk.i64_in _ (by omega)]; omega
  have w2 : IntKind.i64.wrap ((e : Int) - (m : Int)) = ((e - m : Nat) : Int) := by rw [IntWalk.i64_in _ (by omega)]; omega
  obtain ⟨E, hE⟩ : ∃ E, E = rotF m (e - a) (m - a) (e - m) D := ⟨_, rfl⟩
  rw [← hE] at FIN
  have HE := Lib.hid hE
  have HO := Lib.hid (And.intro ho (And.intro hL (And.intro hn hn2)))
  have hbm : e ≤ 1000 := by omega
  clear hK hE ho hL hn hn2
  repeat' (first | (simp only [zmPack, zxPack, ne_eq, zfree, owners, Nat.reduceLT, List.contains_cons, List.contains_nil, Nat.reduceBEq, BEq.rfl, chunk, setAt, List.lookup_cons, List.lookup_nil, reduceCtorEq, Nat.reduceEqDiff, reduceIte, implies_true, forall_const, Nat.reduceMul, Nat.reduceSub, Nat.reduceAdd, Nat.reduceLeDiff, w1, w2, *]) | (simp only [zgoO, zgoG, zO_nil, zthen_normal, zgoC]) | (with_reducible apply And.intro) | (with_reducible intro _))
  clear w1 w2
  refine zW_whileK [(0, .own o g 0 n ex), (2, Z64 (m : Int)), (4, z)] (e - a) (fun r s h => ∃ (i j : Nat) (D2 : List Int), s 10 = Z64 (i : Int) ∧ s 11 = Z64 (j : Int) ∧ h = bk H o g D2 ∧ D2.length = n ∧ 0 < i ∧ 0 < j ∧ i ≤ m ∧ m + j ≤ n ∧ rotF m r i j D2 = E ∧ i + j ≤ r) (by repeat' (first | exact trivial | (refine ⟨rfl, ?_⟩) | (refine ⟨by simp only [zupd_at, Nat.reduceEqDiff, reduceIte]; assumption, ?_⟩))) rfl ⟨m - a, e - m, D, rfl, rfl, rfl, HO.out.2.2.1, by omega, by omega, by omega, by omega, HE.out.symm, by omega⟩ ?_
  clear HE
  rintro r s h ⟨i, j, D2, f10, f11, rfl, hl, hi, hj, him, hjn, hr, hij⟩ ⟨f0, f2, f4, -⟩
  obtain ⟨r, rfl⟩ : ∃ r', r = r' + 1 := ⟨r - 1, by omega⟩
  unfold rotF at hr
  have hnb := HO.out.2.2.2
  have w3 : IntKind.i64.wrap ((m : Int) - (i : Int)) = ((m - i : Nat) : Int) := by rw [IntWalk.i64_in _ (by omega)]; omega
  by_cases c : i = j
  · rw [if_pos c] at hr
    subst c
    have n1 : ¬ ¬ ((i : Int) = (i : Int)) := fun h => h rfl
    have HR := Lib.hid hr
    have fin := FIN.out
    clear hr
    repeat' (first | (simp only [zmPack, zxPack, ne_eq, zfree, owners, Nat.reduceLT, List.contains_cons, List.contains_nil, Nat.reduceBEq, BEq.rfl, chunk, setAt, List.lookup_cons, List.lookup_nil, reduceCtorEq, Nat.reduceEqDiff, reduceIte, implies_true, forall_const, Nat.reduceMul, Nat.reduceSub, Nat.reduceAdd, Nat.reduceLeDiff, n1, w3, *]) | (simp only [zgoO, zgoG, zO_nil, zthen_normal, zgoC]) | (with_reducible apply And.intro) | (with_reducible intro _))
    refine swap_z (a := m - i) (b := m) (m := i) HO.out.1 HO.out.2.1 hl hnb (by omega) (by omega) ?_
    rw [HR.out]
    clear w3
    repeat' (first | (simp only [zmPack, zxPack, ne_eq, zfree, owners, Nat.reduceLT, List.contains_cons, List.contains_nil, Nat.reduceBEq, BEq.rfl, chunk, setAt, List.lookup_cons, List.lookup_nil, reduceCtorEq, Nat.reduceEqDiff, reduceIte, implies_true, forall_const, Nat.reduceMul, Nat.reduceSub, Nat.reduceAdd, Nat.reduceLeDiff, *]) | (simp only [zgoO, zgoG, zO_nil, zthen_normal, zgoC]) | (with_reducible apply And.intro) | (with_reducible intro _))
    all_goals exact ⟨_, rfl, fin⟩
  · have n1 : ¬ (i : Int) = (j : Int) := by omega
    rw [if_neg c] at hr
    by_cases c2 : j < i
    · rw [if_pos c2] at hr
      have n2 : (j : Int) < (i : Int) := by omega
      have w4 : IntKind.i64.wrap ((i : Int) - (j : Int)) = ((i - j : Nat) : Int) := by rw [IntWalk.i64_in _ (by omega)]; omega
      have HR := Lib.hid hr
      clear hr c
      repeat' (first | (simp only [zmPack, zxPack, ne_eq, zfree, owners, Nat.reduceLT, List.contains_cons, List.contains_nil, Nat.reduceBEq, BEq.rfl, chunk, setAt, List.lookup_cons, List.lookup_nil, reduceCtorEq, Nat.reduceEqDiff, reduceIte, implies_true, forall_const, Nat.reduceMul, Nat.reduceSub, Nat.reduceAdd, Nat.reduceLeDiff, n1, n2, w3, *]) | (simp only [zgoO, zgoG, zO_nil, zthen_normal, zgoC]) | (with_reducible apply And.intro) | (with_reducible intro _))
      refine swap_z (a := m - i) (b := m) (m := j) HO.out.1 HO.out.2.1 hl hnb (by omega) (by omega) ?_
      clear w3
      repeat' (first | (simp only [zmPack, zxPack, ne_eq, zfree, owners, Nat.reduceLT, List.contains_cons, List.contains_nil, Nat.reduceBEq, BEq.rfl, chunk, setAt, List.lookup_cons, List.lookup_nil, reduceCtorEq, Nat.reduceEqDiff, reduceIte, implies_true, forall_const, Nat.reduceMul, Nat.reduceSub, Nat.reduceAdd, Nat.reduceLeDiff, w4, *]) | (simp only [zgoO, zgoG, zO_nil, zthen_normal, zgoC]) | (with_reducible apply And.intro) | (with_reducible intro _))
      all_goals exact ⟨r, by omega, i - j, rfl, j, rfl, _, rfl, by rw [swR_len]; exact hl, by omega, by omega, by omega, by omega, HR.out, by omega⟩
    · rw [if_neg c2] at hr
      have n2 : ¬ (j : Int) < (i : Int) := by omega
      have w4 : IntKind.i64.wrap ((j : Int) - (i : Int)) = ((j - i : Nat) : Int) := by rw [IntWalk.i64_in _ (by omega)]; omega
      have w5 : IntKind.i64.wrap ((m : Int) + (j : Int)) = ((m + j : Nat) : Int) := by rw [IntWalk.i64_in _ (by omega)]; omega
      have w6 : IntKind.i64.wrap (((m + j : Nat) : Int) - (i : Int)) = ((m + j - i : Nat) : Int) := by rw [IntWalk.i64_in _ (by omega)]; omega
      have HR := Lib.hid hr
      clear hr c
      repeat' (first | (simp only [zmPack, zxPack, ne_eq, zfree, owners, Nat.reduceLT, List.contains_cons, List.contains_nil, Nat.reduceBEq, BEq.rfl, chunk, setAt, List.lookup_cons, List.lookup_nil, reduceCtorEq, Nat.reduceEqDiff, reduceIte, implies_true, forall_const, Nat.reduceMul, Nat.reduceSub, Nat.reduceAdd, Nat.reduceLeDiff, n1, n2, w3, w5, w6, *]) | (simp only [zgoO, zgoG, zO_nil, zthen_normal, zgoC]) | (with_reducible apply And.intro) | (with_reducible intro _))
      refine swap_z (a := m - i) (b := m + j - i) (m := i) HO.out.1 HO.out.2.1 hl hnb (by omega) (by omega) ?_
      clear w3 w5 w6
      repeat' (first | (simp only [zmPack, zxPack, ne_eq, zfree, owners, Nat.reduceLT, List.contains_cons, List.contains_nil, Nat.reduceBEq, BEq.rfl, chunk, setAt, List.lookup_cons, List.lookup_nil, reduceCtorEq, Nat.reduceEqDiff, reduceIte, implies_true, forall_const, Nat.reduceMul, Nat.reduceSub, Nat.reduceAdd, Nat.reduceLeDiff, w4, *]) | (simp only [zgoO, zgoG, zO_nil, zthen_normal, zgoC]) | (with_reducible apply And.intro) | (with_reducible intro _))
      all_goals exact ⟨r, by omega, i, rfl, j - i, rfl, _, rfl, by rw [swR_len]; exact hl, by omega, by omega, by omega, by omega, HR.out, by omega⟩
end Go.Proofs.Ytoeppobpnhlebaa
