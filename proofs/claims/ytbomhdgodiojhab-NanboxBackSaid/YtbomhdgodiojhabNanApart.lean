/-
  NanboxApart holds: two values that are not the same have not the same word, unless both are no numbers. No condition.
-/
import Derived.Test.YtbomhdgodiojhabNanInts
import Derived.Test.YtbomhdgodiojhabOdd
import Derived.Lib.QuietBelow
namespace Go.Proofs.Ytbomhdgodiojhab
open Go.RowKit
set_option linter.unusedVariables false
set_option linter.unusedSimpArgs false

theorem odd_spoilt (u : Int) (h0 : 0 ≤ u) (h1 : u < 18446744073709551616) : spoiltB u = oddB u := by
  rw [Bool.eq_iff_iff]; simp [spoiltB, oddB]; omega

theorem boxE_3 (n : Int) : boxE 3 n = 0 := by simp [boxE]
theorem boxE_0 {k n : Int} (h : boxE k n = 0) : 0 ≤ k ∧ k ≤ 6 ∧ (k = 3 ∨ (loI k ≤ n ∧ n ≤ hiI k)) := by
  unfold boxE at h
  split at h
  · omega
  · split at h
    · omega
    · split at h <;> omega
theorem boxW_tag {k n : Int} (h : boxE k n = 0) (h3 : k ≠ 3) : boxW k n = tagI k + n % 4294967296 := by
  obtain ⟨h1, h2, h4⟩ := boxE_0 h
  unfold boxW
  rw [if_neg (by omega), if_neg h3, if_neg (by omega)]
theorem boxW_float (n : Int) : boxW 3 n = if spoiltB (IntKind.u64.wrap n) then 9221120237041090561 else IntKind.u64.wrap n := by simp [boxW]
theorem float_lt (n : Int) : boxW 3 n < 65529 * 281474976710656 + 0 ∨ 65529 * 281474976710656 + 1970324836974592 ≤ boxW 3 n := by
  rw [boxW_float]
  have := u64r n
  split
  · omega
  · rename_i h
    simp only [spoiltB, decide_eq_true_eq] at h
    omega
theorem tag_range {k n : Int} (h : boxE k n = 0) (h3 : k ≠ 3) : 65529 * 281474976710656 ≤ boxW k n ∧ boxW k n < 65529 * 281474976710656 + 1970324836974592 := by
  obtain ⟨h1, h2, _⟩ := boxE_0 h
  rw [boxW_tag h h3]
  unfold tagI
  split <;> omega
theorem apart_law {k n k' n' : Int} (hn : -9223372036854775808 ≤ n ∧ n ≤ 9223372036854775807) (hn' : -9223372036854775808 ≤ n' ∧ n' ≤ 9223372036854775807)
    (he : boxE k n = 0) (he' : boxE k' n' = 0) (hne : ¬ (k = k' ∧ n = n')) (hw : boxW k n = boxW k' n') : k = 3 ∧ k' = 3 ∧ oddB (IntKind.u64.wrap n) = true ∧ oddB (IntKind.u64.wrap n') = true := by
  by_cases h3 : k = 3
  · subst h3
    by_cases h3' : k' = 3
    · subst h3'
      refine ⟨rfl, rfl, ?_⟩
      rw [← odd_spoilt _ (u64r n).1 (u64r n).2, ← odd_spoilt _ (u64r n').1 (u64r n').2]
      rw [boxW_float, boxW_float] at hw
      have hu : spoiltB 9221120237041090561 = true := by decide +kernel
      split at hw
      · split at hw
        · constructor <;> assumption
        · rename_i h1 h2; rw [← hw] at h2; exact absurd hu h2
      · split at hw
        · rename_i h1 h2; rw [hw] at h1; exact absurd hu h1
        · exfalso
          simp only [IntKind.wrap_u64] at hw
          omega
    · have := float_lt n
      have := tag_range he' h3'
      omega
  · by_cases h3' : k' = 3
    · subst h3'
      have := float_lt n'
      have := tag_range he h3
      omega
    · exfalso
      obtain ⟨h1, h2, h4⟩ := boxE_0 he
      obtain ⟨h1', h2', h4'⟩ := boxE_0 he'
      rw [boxW_tag he h3, boxW_tag he' h3'] at hw
      have hm : 0 ≤ n % 4294967296 ∧ n % 4294967296 < 4294967296 := by omega
      have hm' : 0 ≤ n' % 4294967296 ∧ n' % 4294967296 < 4294967296 := by omega
      have hk : k = k' := by
        unfold tagI at hw
        split at hw <;> split at hw <;> omega
      subst hk
      have h5 : loI k ≤ n ∧ n ≤ hiI k := by omega
      have h5' : loI k ≤ n' ∧ n' ≤ hiI k := by omega
      have hmm : n % 4294967296 = n' % 4294967296 := by omega
      unfold loI hiI at h5 h5'
      repeat' (split at h5)
      all_goals (simp_all; try omega)

set_option maxHeartbeats 4000000 in
theorem apart_any (k n k' n' : Int) (w : World) (hn : -9223372036854775808 ≤ n ∧ n ≤ 9223372036854775807) (hn' : -9223372036854775808 ≤ n' ∧ n' ≤ 9223372036854775807) :
    Calls Try.prog 4 #[.agg #[.int .i64 k, .int .i64 n], .agg #[.int .i64 k', .int .i64 n']] w fun e w' => e = .returned (.bool true) ∧ Below w.heap.size w w' := by
  have hu := u64r n
  have hu' := u64r n'
  by_cases hab : k = k' ∧ n = n'
  · obtain ⟨rfl, rfl⟩ := hab
    by_cases he : boxE k n = 0
    · have HE : (boxE k n != 0) = false := by simp [he]
      clear he
      (go_enter Try.func4, Try.ntmps4; go_wp2_with (first | (go_at_call 7; refine (boxed_any _).mono ?_; rintro e w' ⟨rfl, hbw⟩; obtain ⟨hc, hf, hz⟩ := bcell hbw; have hB := below_call (B := w.heap.size) (w := w) hbw (by repeat' (first | (with_reducible exact Below.refl _ _) | (with_reducible assumption) | (with_reducible refine below_drewN ?_ _) | (with_reducible refine Below.drew ?_) | (with_reducible refine Below.alloc ?_ ?_ _) | (with_reducible refine Below.setCell ?_ ?_ _) | go_size)) (by go_size); have hsz := hB.size; have hz0 : w.heap.size < w'.heap.size := (by first | omega | (simp at hz; omega)); have hz1 : w.heap.size + 1 < w'.heap.size := (by first | omega | (simp at hz; omega)); clear hz hbw) | (go_at_call 8; refine (box_any _ _ _).mono ?_; rintro e w' ⟨rfl, hbw⟩; obtain ⟨hc, hf, hz⟩ := bcell hbw; have hB := below_call (B := w.heap.size) (w := w) hbw (by repeat' (first | (with_reducible exact Below.refl _ _) | (with_reducible assumption) | (with_reducible refine below_drewN ?_ _) | (with_reducible refine Below.drew ?_) | (with_reducible refine Below.alloc ?_ ?_ _) | (with_reducible refine Below.setCell ?_ ?_ _) | go_size)) (by go_size); have hsz := hB.size; have hz0 : w.heap.size < w'.heap.size := (by first | omega | (simp at hz; omega)); have hz1 : w.heap.size + 1 < w'.heap.size := (by first | omega | (simp at hz; omega)); clear hz hbw) | (go_at_call 10; refine (odd_any _ _ (u64r _).1 (u64r _).2).mono ?_; rintro e w' ⟨rfl, rfl⟩)); all_goals (go_ret; exact ⟨rfl, (by repeat' (first | (with_reducible exact Below.refl _ _) | (with_reducible assumption) | (with_reducible refine below_drewN ?_ _) | (with_reducible refine Below.drew ?_) | (with_reducible refine Below.alloc ?_ ?_ _) | (with_reducible refine Below.setCell ?_ ?_ _) | go_size))⟩))
    · have HE : (boxE k n != 0) = true := by simp [he]
      clear he
      (go_enter Try.func4, Try.ntmps4; go_wp2_with (first | (go_at_call 7; refine (boxed_any _).mono ?_; rintro e w' ⟨rfl, hbw⟩; obtain ⟨hc, hf, hz⟩ := bcell hbw; have hB := below_call (B := w.heap.size) (w := w) hbw (by repeat' (first | (with_reducible exact Below.refl _ _) | (with_reducible assumption) | (with_reducible refine below_drewN ?_ _) | (with_reducible refine Below.drew ?_) | (with_reducible refine Below.alloc ?_ ?_ _) | (with_reducible refine Below.setCell ?_ ?_ _) | go_size)) (by go_size); have hsz := hB.size; have hz0 : w.heap.size < w'.heap.size := (by first | omega | (simp at hz; omega)); have hz1 : w.heap.size + 1 < w'.heap.size := (by first | omega | (simp at hz; omega)); clear hz hbw) | (go_at_call 8; refine (box_any _ _ _).mono ?_; rintro e w' ⟨rfl, hbw⟩; obtain ⟨hc, hf, hz⟩ := bcell hbw; have hB := below_call (B := w.heap.size) (w := w) hbw (by repeat' (first | (with_reducible exact Below.refl _ _) | (with_reducible assumption) | (with_reducible refine below_drewN ?_ _) | (with_reducible refine Below.drew ?_) | (with_reducible refine Below.alloc ?_ ?_ _) | (with_reducible refine Below.setCell ?_ ?_ _) | go_size)) (by go_size); have hsz := hB.size; have hz0 : w.heap.size < w'.heap.size := (by first | omega | (simp at hz; omega)); have hz1 : w.heap.size + 1 < w'.heap.size := (by first | omega | (simp at hz; omega)); clear hz hbw) | (go_at_call 10; refine (odd_any _ _ (u64r _).1 (u64r _).2).mono ?_; rintro e w' ⟨rfl, rfl⟩)); all_goals (go_ret; exact ⟨rfl, (by repeat' (first | (with_reducible exact Below.refl _ _) | (with_reducible assumption) | (with_reducible refine below_drewN ?_ _) | (with_reducible refine Below.drew ?_) | (with_reducible refine Below.alloc ?_ ?_ _) | (with_reducible refine Below.setCell ?_ ?_ _) | go_size))⟩))
  · by_cases hk : k = k'
    · subst hk
      have hnn : ¬ n = n' := fun h => hab ⟨rfl, h⟩
      have HN : (n == n') = false := by simpa using hnn
      by_cases he : boxE k n = 0
      · by_cases he' : boxE k n' = 0
        · by_cases hw : boxW k n = boxW k n'
          · obtain ⟨h3, _, ho, ho'⟩ := apart_law hn hn' he he' hab hw
            subst h3
            have HE : (boxE 3 n != 0) = false := by simp [he]
            have HE' : (boxE 3 n' != 0) = false := by simp [he']
            clear he he' hw hnn hab
            (go_enter Try.func4, Try.ntmps4; go_wp2_with (first | (go_at_call 7; refine (boxed_any _).mono ?_; rintro e w' ⟨rfl, hbw⟩; obtain ⟨hc, hf, hz⟩ := bcell hbw; have hB := below_call (B := w.heap.size) (w := w) hbw (by repeat' (first | (with_reducible exact Below.refl _ _) | (with_reducible assumption) | (with_reducible refine below_drewN ?_ _) | (with_reducible refine Below.drew ?_) | (with_reducible refine Below.alloc ?_ ?_ _) | (with_reducible refine Below.setCell ?_ ?_ _) | go_size)) (by go_size); have hsz := hB.size; have hz0 : w.heap.size < w'.heap.size := (by first | omega | (simp at hz; omega)); have hz1 : w.heap.size + 1 < w'.heap.size := (by first | omega | (simp at hz; omega)); clear hz hbw) | (go_at_call 8; refine (box_any _ _ _).mono ?_; rintro e w' ⟨rfl, hbw⟩; obtain ⟨hc, hf, hz⟩ := bcell hbw; have hB := below_call (B := w.heap.size) (w := w) hbw (by repeat' (first | (with_reducible exact Below.refl _ _) | (with_reducible assumption) | (with_reducible refine below_drewN ?_ _) | (with_reducible refine Below.drew ?_) | (with_reducible refine Below.alloc ?_ ?_ _) | (with_reducible refine Below.setCell ?_ ?_ _) | go_size)) (by go_size); have hsz := hB.size; have hz0 : w.heap.size < w'.heap.size := (by first | omega | (simp at hz; omega)); have hz1 : w.heap.size + 1 < w'.heap.size := (by first | omega | (simp at hz; omega)); clear hz hbw) | (go_at_call 10; refine (odd_any _ _ (u64r _).1 (u64r _).2).mono ?_; rintro e w' ⟨rfl, rfl⟩)); all_goals (go_ret; exact ⟨rfl, (by repeat' (first | (with_reducible exact Below.refl _ _) | (with_reducible assumption) | (with_reducible refine below_drewN ?_ _) | (with_reducible refine Below.drew ?_) | (with_reducible refine Below.alloc ?_ ?_ _) | (with_reducible refine Below.setCell ?_ ?_ _) | go_size))⟩))
          · have HE : (boxE k n != 0) = false := by simp [he]
            have HE' : (boxE k n' != 0) = false := by simp [he']
            have HW : (boxW k n != boxW k n') = true := by simp [hw]
            clear he he' hw hnn hab
            by_cases h3 : k = 3
            · subst h3
              (go_enter Try.func4, Try.ntmps4; go_wp2_with (first | (go_at_call 7; refine (boxed_any _).mono ?_; rintro e w' ⟨rfl, hbw⟩; obtain ⟨hc, hf, hz⟩ := bcell hbw; have hB := below_call (B := w.heap.size) (w := w) hbw (by repeat' (first | (with_reducible exact Below.refl _ _) | (with_reducible assumption) | (with_reducible refine below_drewN ?_ _) | (with_reducible refine Below.drew ?_) | (with_reducible refine Below.alloc ?_ ?_ _) | (with_reducible refine Below.setCell ?_ ?_ _) | go_size)) (by go_size); have hsz := hB.size; have hz0 : w.heap.size < w'.heap.size := (by first | omega | (simp at hz; omega)); have hz1 : w.heap.size + 1 < w'.heap.size := (by first | omega | (simp at hz; omega)); clear hz hbw) | (go_at_call 8; refine (box_any _ _ _).mono ?_; rintro e w' ⟨rfl, hbw⟩; obtain ⟨hc, hf, hz⟩ := bcell hbw; have hB := below_call (B := w.heap.size) (w := w) hbw (by repeat' (first | (with_reducible exact Below.refl _ _) | (with_reducible assumption) | (with_reducible refine below_drewN ?_ _) | (with_reducible refine Below.drew ?_) | (with_reducible refine Below.alloc ?_ ?_ _) | (with_reducible refine Below.setCell ?_ ?_ _) | go_size)) (by go_size); have hsz := hB.size; have hz0 : w.heap.size < w'.heap.size := (by first | omega | (simp at hz; omega)); have hz1 : w.heap.size + 1 < w'.heap.size := (by first | omega | (simp at hz; omega)); clear hz hbw) | (go_at_call 10; refine (odd_any _ _ (u64r _).1 (u64r _).2).mono ?_; rintro e w' ⟨rfl, rfl⟩)); all_goals (go_ret; exact ⟨rfl, (by repeat' (first | (with_reducible exact Below.refl _ _) | (with_reducible assumption) | (with_reducible refine below_drewN ?_ _) | (with_reducible refine Below.drew ?_) | (with_reducible refine Below.alloc ?_ ?_ _) | (with_reducible refine Below.setCell ?_ ?_ _) | go_size))⟩))
            · (go_enter Try.func4, Try.ntmps4; go_wp2_with (first | (go_at_call 7; refine (boxed_any _).mono ?_; rintro e w' ⟨rfl, hbw⟩; obtain ⟨hc, hf, hz⟩ := bcell hbw; have hB := below_call (B := w.heap.size) (w := w) hbw (by repeat' (first | (with_reducible exact Below.refl _ _) | (with_reducible assumption) | (with_reducible refine below_drewN ?_ _) | (with_reducible refine Below.drew ?_) | (with_reducible refine Below.alloc ?_ ?_ _) | (with_reducible refine Below.setCell ?_ ?_ _) | go_size)) (by go_size); have hsz := hB.size; have hz0 : w.heap.size < w'.heap.size := (by first | omega | (simp at hz; omega)); have hz1 : w.heap.size + 1 < w'.heap.size := (by first | omega | (simp at hz; omega)); clear hz hbw) | (go_at_call 8; refine (box_any _ _ _).mono ?_; rintro e w' ⟨rfl, hbw⟩; obtain ⟨hc, hf, hz⟩ := bcell hbw; have hB := below_call (B := w.heap.size) (w := w) hbw (by repeat' (first | (with_reducible exact Below.refl _ _) | (with_reducible assumption) | (with_reducible refine below_drewN ?_ _) | (with_reducible refine Below.drew ?_) | (with_reducible refine Below.alloc ?_ ?_ _) | (with_reducible refine Below.setCell ?_ ?_ _) | go_size)) (by go_size); have hsz := hB.size; have hz0 : w.heap.size < w'.heap.size := (by first | omega | (simp at hz; omega)); have hz1 : w.heap.size + 1 < w'.heap.size := (by first | omega | (simp at hz; omega)); clear hz hbw) | (go_at_call 10; refine (odd_any _ _ (u64r _).1 (u64r _).2).mono ?_; rintro e w' ⟨rfl, rfl⟩)); all_goals (go_ret; exact ⟨rfl, (by repeat' (first | (with_reducible exact Below.refl _ _) | (with_reducible assumption) | (with_reducible refine below_drewN ?_ _) | (with_reducible refine Below.drew ?_) | (with_reducible refine Below.alloc ?_ ?_ _) | (with_reducible refine Below.setCell ?_ ?_ _) | go_size))⟩))
        · have HE : (boxE k n != 0) = false := by simp [he]
          have HE' : (boxE k n' != 0) = true := by simp [he']
          clear he he' hnn hab
          (go_enter Try.func4, Try.ntmps4; go_wp2_with (first | (go_at_call 7; refine (boxed_any _).mono ?_; rintro e w' ⟨rfl, hbw⟩; obtain ⟨hc, hf, hz⟩ := bcell hbw; have hB := below_call (B := w.heap.size) (w := w) hbw (by repeat' (first | (with_reducible exact Below.refl _ _) | (with_reducible assumption) | (with_reducible refine below_drewN ?_ _) | (with_reducible refine Below.drew ?_) | (with_reducible refine Below.alloc ?_ ?_ _) | (with_reducible refine Below.setCell ?_ ?_ _) | go_size)) (by go_size); have hsz := hB.size; have hz0 : w.heap.size < w'.heap.size := (by first | omega | (simp at hz; omega)); have hz1 : w.heap.size + 1 < w'.heap.size := (by first | omega | (simp at hz; omega)); clear hz hbw) | (go_at_call 8; refine (box_any _ _ _).mono ?_; rintro e w' ⟨rfl, hbw⟩; obtain ⟨hc, hf, hz⟩ := bcell hbw; have hB := below_call (B := w.heap.size) (w := w) hbw (by repeat' (first | (with_reducible exact Below.refl _ _) | (with_reducible assumption) | (with_reducible refine below_drewN ?_ _) | (with_reducible refine Below.drew ?_) | (with_reducible refine Below.alloc ?_ ?_ _) | (with_reducible refine Below.setCell ?_ ?_ _) | go_size)) (by go_size); have hsz := hB.size; have hz0 : w.heap.size < w'.heap.size := (by first | omega | (simp at hz; omega)); have hz1 : w.heap.size + 1 < w'.heap.size := (by first | omega | (simp at hz; omega)); clear hz hbw) | (go_at_call 10; refine (odd_any _ _ (u64r _).1 (u64r _).2).mono ?_; rintro e w' ⟨rfl, rfl⟩)); all_goals (go_ret; exact ⟨rfl, (by repeat' (first | (with_reducible exact Below.refl _ _) | (with_reducible assumption) | (with_reducible refine below_drewN ?_ _) | (with_reducible refine Below.drew ?_) | (with_reducible refine Below.alloc ?_ ?_ _) | (with_reducible refine Below.setCell ?_ ?_ _) | go_size))⟩))
      · have HE : (boxE k n != 0) = true := by simp [he]
        clear he hnn hab
        (go_enter Try.func4, Try.ntmps4; go_wp2_with (first | (go_at_call 7; refine (boxed_any _).mono ?_; rintro e w' ⟨rfl, hbw⟩; obtain ⟨hc, hf, hz⟩ := bcell hbw; have hB := below_call (B := w.heap.size) (w := w) hbw (by repeat' (first | (with_reducible exact Below.refl _ _) | (with_reducible assumption) | (with_reducible refine below_drewN ?_ _) | (with_reducible refine Below.drew ?_) | (with_reducible refine Below.alloc ?_ ?_ _) | (with_reducible refine Below.setCell ?_ ?_ _) | go_size)) (by go_size); have hsz := hB.size; have hz0 : w.heap.size < w'.heap.size := (by first | omega | (simp at hz; omega)); have hz1 : w.heap.size + 1 < w'.heap.size := (by first | omega | (simp at hz; omega)); clear hz hbw) | (go_at_call 8; refine (box_any _ _ _).mono ?_; rintro e w' ⟨rfl, hbw⟩; obtain ⟨hc, hf, hz⟩ := bcell hbw; have hB := below_call (B := w.heap.size) (w := w) hbw (by repeat' (first | (with_reducible exact Below.refl _ _) | (with_reducible assumption) | (with_reducible refine below_drewN ?_ _) | (with_reducible refine Below.drew ?_) | (with_reducible refine Below.alloc ?_ ?_ _) | (with_reducible refine Below.setCell ?_ ?_ _) | go_size)) (by go_size); have hsz := hB.size; have hz0 : w.heap.size < w'.heap.size := (by first | omega | (simp at hz; omega)); have hz1 : w.heap.size + 1 < w'.heap.size := (by first | omega | (simp at hz; omega)); clear hz hbw) | (go_at_call 10; refine (odd_any _ _ (u64r _).1 (u64r _).2).mono ?_; rintro e w' ⟨rfl, rfl⟩)); all_goals (go_ret; exact ⟨rfl, (by repeat' (first | (with_reducible exact Below.refl _ _) | (with_reducible assumption) | (with_reducible refine below_drewN ?_ _) | (with_reducible refine Below.drew ?_) | (with_reducible refine Below.alloc ?_ ?_ _) | (with_reducible refine Below.setCell ?_ ?_ _) | go_size))⟩))
    · have HN : (k == k') = false := by simpa using hk
      by_cases he : boxE k n = 0
      · by_cases he' : boxE k' n' = 0
        · by_cases hw : boxW k n = boxW k' n'
          · obtain ⟨h3, h3', _⟩ := apart_law hn hn' he he' hab hw
            exact absurd (h3.trans h3'.symm) hk
          · have HE : (boxE k n != 0) = false := by simp [he]
            have HE' : (boxE k' n' != 0) = false := by simp [he']
            have HW : (boxW k n != boxW k' n') = true := by simp [hw]
            clear he he' hw hab
            by_cases h3 : k = 3
            · subst h3
              (go_enter Try.func4, Try.ntmps4; go_wp2_with (first | (go_at_call 7; refine (boxed_any _).mono ?_; rintro e w' ⟨rfl, hbw⟩; obtain ⟨hc, hf, hz⟩ := bcell hbw; have hB := below_call (B := w.heap.size) (w := w) hbw (by repeat' (first | (with_reducible exact Below.refl _ _) | (with_reducible assumption) | (with_reducible refine below_drewN ?_ _) | (with_reducible refine Below.drew ?_) | (with_reducible refine Below.alloc ?_ ?_ _) | (with_reducible refine Below.setCell ?_ ?_ _) | go_size)) (by go_size); have hsz := hB.size; have hz0 : w.heap.size < w'.heap.size := (by first | omega | (simp at hz; omega)); have hz1 : w.heap.size + 1 < w'.heap.size := (by first | omega | (simp at hz; omega)); clear hz hbw) | (go_at_call 8; refine (box_any _ _ _).mono ?_; rintro e w' ⟨rfl, hbw⟩; obtain ⟨hc, hf, hz⟩ := bcell hbw; have hB := below_call (B := w.heap.size) (w := w) hbw (by repeat' (first | (with_reducible exact Below.refl _ _) | (with_reducible assumption) | (with_reducible refine below_drewN ?_ _) | (with_reducible refine Below.drew ?_) | (with_reducible refine Below.alloc ?_ ?_ _) | (with_reducible refine Below.setCell ?_ ?_ _) | go_size)) (by go_size); have hsz := hB.size; have hz0 : w.heap.size < w'.heap.size := (by first | omega | (simp at hz; omega)); have hz1 : w.heap.size + 1 < w'.heap.size := (by first | omega | (simp at hz; omega)); clear hz hbw) | (go_at_call 10; refine (odd_any _ _ (u64r _).1 (u64r _).2).mono ?_; rintro e w' ⟨rfl, rfl⟩)); all_goals (go_ret; exact ⟨rfl, (by repeat' (first | (with_reducible exact Below.refl _ _) | (with_reducible assumption) | (with_reducible refine below_drewN ?_ _) | (with_reducible refine Below.drew ?_) | (with_reducible refine Below.alloc ?_ ?_ _) | (with_reducible refine Below.setCell ?_ ?_ _) | go_size))⟩))
            · (go_enter Try.func4, Try.ntmps4; go_wp2_with (first | (go_at_call 7; refine (boxed_any _).mono ?_; rintro e w' ⟨rfl, hbw⟩; obtain ⟨hc, hf, hz⟩ := bcell hbw; have hB := below_call (B := w.heap.size) (w := w) hbw (by repeat' (first | (with_reducible exact Below.refl _ _) | (with_reducible assumption) | (with_reducible refine below_drewN ?_ _) | (with_reducible refine Below.drew ?_) | (with_reducible refine Below.alloc ?_ ?_ _) | (with_reducible refine Below.setCell ?_ ?_ _) | go_size)) (by go_size); have hsz := hB.size; have hz0 : w.heap.size < w'.heap.size := (by first | omega | (simp at hz; omega)); have hz1 : w.heap.size + 1 < w'.heap.size := (by first | omega | (simp at hz; omega)); clear hz hbw) | (go_at_call 8; refine (box_any _ _ _).mono ?_; rintro e w' ⟨rfl, hbw⟩; obtain ⟨hc, hf, hz⟩ := bcell hbw; have hB := below_call (B := w.heap.size) (w := w) hbw (by repeat' (first | (with_reducible exact Below.refl _ _) | (with_reducible assumption) | (with_reducible refine below_drewN ?_ _) | (with_reducible refine Below.drew ?_) | (with_reducible refine Below.alloc ?_ ?_ _) | (with_reducible refine Below.setCell ?_ ?_ _) | go_size)) (by go_size); have hsz := hB.size; have hz0 : w.heap.size < w'.heap.size := (by first | omega | (simp at hz; omega)); have hz1 : w.heap.size + 1 < w'.heap.size := (by first | omega | (simp at hz; omega)); clear hz hbw) | (go_at_call 10; refine (odd_any _ _ (u64r _).1 (u64r _).2).mono ?_; rintro e w' ⟨rfl, rfl⟩)); all_goals (go_ret; exact ⟨rfl, (by repeat' (first | (with_reducible exact Below.refl _ _) | (with_reducible assumption) | (with_reducible refine below_drewN ?_ _) | (with_reducible refine Below.drew ?_) | (with_reducible refine Below.alloc ?_ ?_ _) | (with_reducible refine Below.setCell ?_ ?_ _) | go_size))⟩))
        · have HE : (boxE k n != 0) = false := by simp [he]
          have HE' : (boxE k' n' != 0) = true := by simp [he']
          clear he he' hab
          (go_enter Try.func4, Try.ntmps4; go_wp2_with (first | (go_at_call 7; refine (boxed_any _).mono ?_; rintro e w' ⟨rfl, hbw⟩; obtain ⟨hc, hf, hz⟩ := bcell hbw; have hB := below_call (B := w.heap.size) (w := w) hbw (by repeat' (first | (with_reducible exact Below.refl _ _) | (with_reducible assumption) | (with_reducible refine below_drewN ?_ _) | (with_reducible refine Below.drew ?_) | (with_reducible refine Below.alloc ?_ ?_ _) | (with_reducible refine Below.setCell ?_ ?_ _) | go_size)) (by go_size); have hsz := hB.size; have hz0 : w.heap.size < w'.heap.size := (by first | omega | (simp at hz; omega)); have hz1 : w.heap.size + 1 < w'.heap.size := (by first | omega | (simp at hz; omega)); clear hz hbw) | (go_at_call 8; refine (box_any _ _ _).mono ?_; rintro e w' ⟨rfl, hbw⟩; obtain ⟨hc, hf, hz⟩ := bcell hbw; have hB := below_call (B := w.heap.size) (w := w) hbw (by repeat' (first | (with_reducible exact Below.refl _ _) | (with_reducible assumption) | (with_reducible refine below_drewN ?_ _) | (with_reducible refine Below.drew ?_) | (with_reducible refine Below.alloc ?_ ?_ _) | (with_reducible refine Below.setCell ?_ ?_ _) | go_size)) (by go_size); have hsz := hB.size; have hz0 : w.heap.size < w'.heap.size := (by first | omega | (simp at hz; omega)); have hz1 : w.heap.size + 1 < w'.heap.size := (by first | omega | (simp at hz; omega)); clear hz hbw) | (go_at_call 10; refine (odd_any _ _ (u64r _).1 (u64r _).2).mono ?_; rintro e w' ⟨rfl, rfl⟩)); all_goals (go_ret; exact ⟨rfl, (by repeat' (first | (with_reducible exact Below.refl _ _) | (with_reducible assumption) | (with_reducible refine below_drewN ?_ _) | (with_reducible refine Below.drew ?_) | (with_reducible refine Below.alloc ?_ ?_ _) | (with_reducible refine Below.setCell ?_ ?_ _) | go_size))⟩))
      · have HE : (boxE k n != 0) = true := by simp [he]
        clear he hab
        (go_enter Try.func4, Try.ntmps4; go_wp2_with (first | (go_at_call 7; refine (boxed_any _).mono ?_; rintro e w' ⟨rfl, hbw⟩; obtain ⟨hc, hf, hz⟩ := bcell hbw; have hB := below_call (B := w.heap.size) (w := w) hbw (by repeat' (first | (with_reducible exact Below.refl _ _) | (with_reducible assumption) | (with_reducible refine below_drewN ?_ _) | (with_reducible refine Below.drew ?_) | (with_reducible refine Below.alloc ?_ ?_ _) | (with_reducible refine Below.setCell ?_ ?_ _) | go_size)) (by go_size); have hsz := hB.size; have hz0 : w.heap.size < w'.heap.size := (by first | omega | (simp at hz; omega)); have hz1 : w.heap.size + 1 < w'.heap.size := (by first | omega | (simp at hz; omega)); clear hz hbw) | (go_at_call 8; refine (box_any _ _ _).mono ?_; rintro e w' ⟨rfl, hbw⟩; obtain ⟨hc, hf, hz⟩ := bcell hbw; have hB := below_call (B := w.heap.size) (w := w) hbw (by repeat' (first | (with_reducible exact Below.refl _ _) | (with_reducible assumption) | (with_reducible refine below_drewN ?_ _) | (with_reducible refine Below.drew ?_) | (with_reducible refine Below.alloc ?_ ?_ _) | (with_reducible refine Below.setCell ?_ ?_ _) | go_size)) (by go_size); have hsz := hB.size; have hz0 : w.heap.size < w'.heap.size := (by first | omega | (simp at hz; omega)); have hz1 : w.heap.size + 1 < w'.heap.size := (by first | omega | (simp at hz; omega)); clear hz hbw) | (go_at_call 10; refine (odd_any _ _ (u64r _).1 (u64r _).2).mono ?_; rintro e w' ⟨rfl, rfl⟩)); all_goals (go_ret; exact ⟨rfl, (by repeat' (first | (with_reducible exact Below.refl _ _) | (with_reducible assumption) | (with_reducible refine below_drewN ?_ _) | (with_reducible refine Below.drew ?_) | (with_reducible refine Below.alloc ?_ ?_ _) | (with_reducible refine Below.setCell ?_ ?_ _) | go_size))⟩))

theorem i64_bounds {n : Int} (h : (Lit.int .i64 n).wf = true) : -9223372036854775808 ≤ n ∧ n ≤ 9223372036854775807 := by
  simpa [Lit.wf, IntKind.min, IntKind.max, IntKind.signed, IntKind.bits] using h
theorem u64_bounds {n : Int} (h : (Lit.int .u64 n).wf = true) : 0 ≤ n ∧ n < 18446744073709551616 := by
  have : 0 ≤ n ∧ n ≤ 18446744073709551615 := by simpa [Lit.wf, IntKind.min, IntKind.max, IntKind.signed, IntKind.bits] using h
  omega

set_option maxRecDepth 100000 in
theorem apart_lifted (os : Os) (started : os.Started) (H : Type) (enc : TypeId × Value → H) :
    ReturnsInHanded {} Try.checked os 4 .any (Rows.nanboxApartSpec.pre6 enc Try.prog Try.f4 Rows.nanboxApartRow.domain false) (Rows.nanboxApartSpec.post enc Try.prog Try.f4 false true false false) := by
  refine law_lifted (C := Try.checked) 12 [(true, .prod (.int .i64) (.int .i64)), (true, .prod (.int .i64) (.int .i64))] 4 Try.own Try.laidOut started (by kernel_rfl) Try.func4
    (ChangeSpec.witness6 (enc := enc) (C := Try.checked) false ⟨#[], #[.agg #[.int .i64 0, .int .i64 0], .agg #[.int .i64 0, .int .i64 0]], []⟩ 8 (by kernel_rfl) (by kernel_rfl) (by kernel_rfl) (by kernel_rfl))
    rfl (by kernel_rfl) Try.underlying4 (fun ds h => ?_) (by kernel_rfl) (by kernel_rfl) (fun W args h => ?_)
  · match ds, h with
    | [d0, d1], _ => rfl
  · obtain ⟨cs0, x0, vs0, h0, ⟨_, _, rfl, ⟨rfl, _⟩, rfl, hn⟩, _, cs1, x1, vs1, rfl, ⟨_, _, rfl, ⟨rfl, _⟩, rfl, hn'⟩, _, rfl⟩ := h
    obtain rfl : args = #[.agg #[.int .i64 x0.1, .int .i64 x0.2], .agg #[.int .i64 x1.1, .int .i64 x1.2]] := by cases args; simpa [argVal] using h0
    exact apart_any _ _ _ _ W (i64_bounds hn) (i64_bounds hn')
theorem apart_holds : Rows.NanboxApartSaid :=
  OpenClaim.holds_of_wide 4 Try.f4 rfl rfl rfl rfl rfl rfl rfl ⟨rfl, rfl, rfl, rfl, rfl⟩ rfl rfl rfl rfl rfl (by kernel_rfl) Try.func4 (by kernel_rfl) (of_decide_eq_true (by kernel_rfl)) (by unfold Func.isWrapper; first | (rw [if_pos (by decide +kernel)]; kernel_rfl) | (rw [if_neg (by decide +kernel)]; exact ⟨rfl, rfl⟩))
    (fun os started H enc _ => apart_lifted os started H enc)
end Go.Proofs.Ytbomhdgodiojhab
