/-
  What package nanbox computes: Box, Unbox, Kind (and the reference's Odd).
-/
import Derived.Test.YtpmmiaadfnildaaBase
namespace Go.Proofs.Ytpmmiaadfnildaa
open Go.RowKit
set_option linter.unusedVariables false
set_option linter.unusedSimpArgs false

theorem and_mask63 (n : Int) (h0 : 0 ≤ n) (h1 : n < 18446744073709551616) : bits .and .u64 n 9223372036854775807 = n % 9223372036854775808 := by
  rw [u64_and n _ h0 h1 (by omega) (by omega)]
  have : (9223372036854775807 : Int).toNat = 2^63 - 1 := rfl
  rw [this, Nat.and_two_pow_sub_one_eq_mod]
  omega

def spoiltB (n : Int) : Bool := decide (9218868437227405312 < n % 9223372036854775808)
def tagI (k : Int) : Int := (65529 + (if 3 < k then k - 1 else k)) * 281474976710656
def loI (k : Int) : Int := if k = 2 then -2147483648 else 0
def hiI (k : Int) : Int := if k = 0 then 0 else if k = 1 then 1 else if k = 2 then 2147483647 else 4294967295


set_option maxHeartbeats 400000 in
theorem spoilt_any (n : Int) (w : World) (h0 : 0 ≤ n) (h1 : n < 18446744073709551616) :
    Calls Try.prog 45 #[.int .u64 n] w fun e w' => e = .returned (.bool (spoiltB n)) ∧ w = w' := by
  have e := Lib.hid (and_mask63 n h0 h1)
  go_enter Try.func45, Try.ntmps45
  go_wp2
  go_ret
  exact ⟨ret_bool (by unfold spoiltB; rw [e.out]), rfl⟩

set_option maxHeartbeats 400000 in
theorem tag_any (n : Int) (w : World) (h : 0 ≤ n) (h1 : n ≤ 6):
    Calls Try.prog 47 #[.int .i64 n] w fun e w' => e = .returned (.int .u64 (tagI n)) ∧ w = w' := by
  go_enter Try.func47, Try.ntmps47
  go_wp2
  all_goals go_ret
  · exact ⟨ret_int (by unfold tagI; rw [if_pos (by assumption)]), rfl⟩
  · exact ⟨ret_int (by unfold tagI; rw [if_neg (by omega)]), rfl⟩

set_option maxHeartbeats 400000 in
theorem bounds_any (n : Int) (w : World) :
    Calls Try.prog 46 #[.int .i64 n] w fun e w' => e = .returned (.tuple #[.int .i64 (loI n), .int .i64 (hiI n)]) ∧ w = w' := by
  go_enter Try.func46, Try.ntmps46
  go_wp2
  all_goals go_ret2
  all_goals exact ⟨ret_ints (by unfold loI; simp_all) (by unfold hiI; simp_all), rfl⟩

def boxE (k n : Int) : Int := if k < 0 ∨ 6 < k then 7 else if k = 3 then 0 else if n < loI k ∨ hiI k < n then 1 else 0
def boxW (k n : Int) : Int :=
  if k < 0 ∨ 6 < k then 0 else if k = 3 then (if spoiltB (IntKind.u64.wrap n) then 9221120237041090561 else IntKind.u64.wrap n)
  else if n < loI k ∨ hiI k < n then 0 else tagI k + n % 4294967296


theorem or_tag (k n : Int) (h : 0 ≤ k) (h1 : k ≤ 6) : bits .or .u64 (tagI k) (n % 4294967296) = tagI k + n % 4294967296 := by
  have hn : 0 ≤ n % 4294967296 := by omega
  have hn1 : n % 4294967296 < 4294967296 := by omega
  generalize n % 4294967296 = m at *
  have ht : tagI k = ((tagI k).toNat : Int) := by unfold tagI; split <;> omega
  rw [u64_or _ _ (by unfold tagI; split <;> omega) (by unfold tagI; split <;> omega) (by omega) (by omega)]
  rw [nat_join 48 _ _ (by unfold tagI; split <;> omega) (by omega)]
  omega

theorem u64r (n : Int) : 0 ≤ IntKind.u64.wrap n ∧ IntKind.u64.wrap n < 18446744073709551616 := by simp only [IntKind.wrap_u64]; omega

set_option maxHeartbeats 400000 in
theorem box_any (k n : Int) (w : World)  :
    Calls Try.prog 31 #[.agg #[.int .i64 k, .int .i64 n]] w fun e w' => e = .returned (.tuple #[.int .u64 (boxW k n), .int .i64 (boxE k n)]) ∧ Below w.heap.size w w' := by
  by_cases h1 : k < 0
  · go_enter Try.func31, Try.ntmps31
    go_wp2
    go_ret2
    exact ⟨ret_ints (by unfold boxW; rw [if_pos (.inl h1)]) (by unfold boxE; rw [if_pos (.inl h1)]), (by repeat' (first | (with_reducible exact Below.refl _ _) | (with_reducible assumption) | (with_reducible refine below_drewN ?_ _) | (with_reducible refine Below.drew ?_) | (with_reducible refine Below.alloc ?_ ?_ _) | (with_reducible refine Below.setCell ?_ ?_ _) | go_size))⟩
  by_cases h2 : 6 < k
  · go_enter Try.func31, Try.ntmps31
    go_wp2
    go_ret2
    exact ⟨ret_ints (by unfold boxW; rw [if_pos (.inr h2)]) (by unfold boxE; rw [if_pos (.inr h2)]), (by repeat' (first | (with_reducible exact Below.refl _ _) | (with_reducible assumption) | (with_reducible refine below_drewN ?_ _) | (with_reducible refine Below.drew ?_) | (with_reducible refine Below.alloc ?_ ?_ _) | (with_reducible refine Below.setCell ?_ ?_ _) | go_size))⟩
  have h1' : 0 ≤ k := by omega
  have h2' : k ≤ 6 := by omega
  by_cases h3 : k = 3
  · subst h3
    by_cases hs : spoiltB (IntKind.u64.wrap n) = true
    · go_enter Try.func31, Try.ntmps31
      go_wp2_with (go_at_call 45; refine (spoilt_any _ _ (u64r n).1 (u64r n).2).mono ?_; rintro e w' ⟨rfl, rfl⟩)
      go_ret2
      exact ⟨ret_ints (by unfold boxW; rw [if_neg (by omega), if_pos rfl, if_pos hs]) (by unfold boxE; rw [if_neg (by omega), if_pos rfl]), (by repeat' (first | (with_reducible exact Below.refl _ _) | (with_reducible assumption) | (with_reducible refine below_drewN ?_ _) | (with_reducible refine Below.drew ?_) | (with_reducible refine Below.alloc ?_ ?_ _) | (with_reducible refine Below.setCell ?_ ?_ _) | go_size))⟩
    · have hs' : spoiltB (IntKind.u64.wrap n) = false := by simpa using hs
      go_enter Try.func31, Try.ntmps31
      go_wp2_with (go_at_call 45; refine (spoilt_any _ _ (u64r n).1 (u64r n).2).mono ?_; rintro e w' ⟨rfl, rfl⟩)
      go_ret2
      exact ⟨ret_ints (by unfold boxW; rw [if_neg (by omega), if_pos rfl, if_neg hs]) (by unfold boxE; rw [if_neg (by omega), if_pos rfl]), (by repeat' (first | (with_reducible exact Below.refl _ _) | (with_reducible assumption) | (with_reducible refine below_drewN ?_ _) | (with_reducible refine Below.drew ?_) | (with_reducible refine Below.alloc ?_ ?_ _) | (with_reducible refine Below.setCell ?_ ?_ _) | go_size))⟩
  by_cases h4 : n < loI k
  · go_enter Try.func31, Try.ntmps31
    go_wp2_with (go_at_call 46; refine (bounds_any _ _).mono ?_; rintro e w' ⟨rfl, rfl⟩)
    go_ret2
    exact ⟨ret_ints (by unfold boxW; rw [if_neg (by omega), if_neg h3, if_pos (by omega)]) (by unfold boxE; rw [if_neg (by omega), if_neg h3, if_pos (by omega)]), (by repeat' (first | (with_reducible exact Below.refl _ _) | (with_reducible assumption) | (with_reducible refine below_drewN ?_ _) | (with_reducible refine Below.drew ?_) | (with_reducible refine Below.alloc ?_ ?_ _) | (with_reducible refine Below.setCell ?_ ?_ _) | go_size))⟩
  by_cases h5 : hiI k < n
  · go_enter Try.func31, Try.ntmps31
    go_wp2_with (go_at_call 46; refine (bounds_any _ _).mono ?_; rintro e w' ⟨rfl, rfl⟩)
    go_ret2
    exact ⟨ret_ints (by unfold boxW; rw [if_neg (by omega), if_neg h3, if_pos (by omega)]) (by unfold boxE; rw [if_neg (by omega), if_neg h3, if_pos (by omega)]), (by repeat' (first | (with_reducible exact Below.refl _ _) | (with_reducible assumption) | (with_reducible refine below_drewN ?_ _) | (with_reducible refine Below.drew ?_) | (with_reducible refine Below.alloc ?_ ?_ _) | (with_reducible refine Below.setCell ?_ ?_ _) | go_size))⟩
  have ho := Lib.hid (or_tag k n h1' h2')
  go_enter Try.func31, Try.ntmps31
  go_wp2_with (go_at_call 46; refine (bounds_any _ _).mono ?_; rintro e w' ⟨rfl, rfl⟩)
  go_quiet ((go_at_call 47; exact Calls.quiet_of_same ((tag_any _ _ h1' h2').mono fun _ _ h => ⟨h.1, h.2.symm⟩)))
  go_wp2
  go_ret2
  exact ⟨ret_ints (by unfold boxW; rw [if_neg (by omega), if_neg h3, if_neg (by omega)]; exact ho.out) (by unfold boxE; rw [if_neg (by omega), if_neg h3, if_neg (by omega)]), (by repeat' (first | (with_reducible exact Below.refl _ _) | (with_reducible assumption) | (with_reducible refine below_drewN ?_ _) | (with_reducible refine Below.drew ?_) | (with_reducible refine Below.alloc ?_ ?_ _) | (with_reducible refine Below.setCell ?_ ?_ _) | go_size))⟩

def unK0 (w : Int) : Int := w / 281474976710656 - 65529
def unK (w : Int) : Int := if 3 ≤ unK0 w then unK0 w + 1 else unK0 w
def unN (w : Int) : Int := if unK w = 2 then wrap64 (wrap32 (w % 4294967296)) else w % 4294967296
def isTag (w : Int) : Bool := decide (65529 ≤ w / 281474976710656 ∧ w / 281474976710656 ≤ 65534)
def unE (w : Int) : Int :=
  if isTag w then (if boxE (unK w) (unN w) = 0 ∧ boxW (unK w) (unN w) = w then 0 else 3)
  else if spoiltB w ∧ w ≠ 9221120237041090561 then 3 else 0
def unKind (w : Int) : Int := if unE w = 0 then (if isTag w then unK w else 3) else 0
def unNum (w : Int) : Int := if unE w = 0 then (if isTag w then unN w else wrap64 w) else 0
theorem ret_val {k n e k' n' e' : Int} (h1 : k = k') (h2 : n = n') (h3 : e = e') :
    Ending.returned (.tuple #[.agg #[.int .i64 k, .int .i64 n], .int .i64 e]) = .returned (.tuple #[.agg #[.int .i64 k', .int .i64 n'], .int .i64 e']) := by rw [h1, h2, h3]


set_option maxHeartbeats 400000 in
theorem unbox_plain (u : Int) (w : World) (h0 : 0 ≤ u) (h1 : u < 18446744073709551616) (ht : isTag u = false) (hs : spoiltB u = false) :
    Calls Try.prog 62 #[.int .u64 u] w fun e w' => e = .returned (.tuple #[.agg #[.int .i64 (unKind u), .int .i64 (unNum u)], .int .i64 (unE u)]) ∧ Below w.heap.size w w' := by
  have hb : u / 281474976710656 < 65529 ∨ 65534 < u / 281474976710656 := by simp [isTag] at ht; omega
  have hE : Hid (unE u = 0) := by show unE u = 0; simp [unE, ht, hs]
  have hK : Hid (unKind u = 3) := by show unKind u = 3; simp [unKind, hE.out, ht]
  have hN : Hid (unNum u = wrap64 u) := by show unNum u = _; simp [unNum, hE.out, ht]
  clear ht
  rcases hb with hb | hb
  all_goals
    go_enter Try.func62, Try.ntmps62
    go_wp2_with (go_at_call 45; refine (spoilt_any _ _ h0 h1).mono ?_; rintro e w' ⟨rfl, rfl⟩)
    exact bodyPost_ret (v := .tuple #[.agg #[.int .i64 3, .int .i64 (wrap64 u)], .int .i64 0]) (by simp [results, Try.results62, go_sem]) rfl ⟨ret_val hK.out.symm hN.out.symm hE.out.symm, (by repeat' (first | (with_reducible exact Below.refl _ _) | (with_reducible assumption) | (with_reducible refine below_drewN ?_ _) | (with_reducible refine Below.drew ?_) | (with_reducible refine Below.alloc ?_ ?_ _) | (with_reducible refine Below.setCell ?_ ?_ _) | go_size))⟩

set_option maxHeartbeats 400000 in
theorem unbox_odd (w : World) :
    Calls Try.prog 62 #[.int .u64 9221120237041090561] w fun e w' => e = .returned (.tuple #[.agg #[.int .i64 (unKind 9221120237041090561), .int .i64 (unNum 9221120237041090561)], .int .i64 (unE 9221120237041090561)]) ∧ Below w.heap.size w w' := by
  have hs : spoiltB 9221120237041090561 = true := by decide +kernel
  have hE : Hid (unE 9221120237041090561 = 0) := by show unE _ = _; decide +kernel
  have hK : Hid (unKind 9221120237041090561 = 3) := by show unKind _ = _; decide +kernel
  have hN : Hid (unNum 9221120237041090561 = 9221120237041090561) := by show unNum _ = _; decide +kernel
  go_enter Try.func62, Try.ntmps62
  go_wp2_with (go_at_call 45; refine (spoilt_any _ _ (by omega) (by omega)).mono ?_; rintro e w' ⟨rfl, rfl⟩)
  exact bodyPost_ret (v := .tuple #[.agg #[.int .i64 3, .int .i64 9221120237041090561], .int .i64 0]) (by simp [results, Try.results62, go_sem]) rfl ⟨ret_val hK.out.symm hN.out.symm hE.out.symm, (by repeat' (first | (with_reducible exact Below.refl _ _) | (with_reducible assumption) | (with_reducible refine below_drewN ?_ _) | (with_reducible refine Below.drew ?_) | (with_reducible refine Below.alloc ?_ ?_ _) | (with_reducible refine Below.setCell ?_ ?_ _) | go_size))⟩

set_option maxHeartbeats 400000 in
theorem unbox_spoilt (u : Int) (w : World) (h0 : 0 ≤ u) (h1 : u < 18446744073709551616) (ht : isTag u = false) (hs : spoiltB u = true) (ho : (u != 9221120237041090561) = true) :
    Calls Try.prog 62 #[.int .u64 u] w fun e w' => e = .returned (.tuple #[.agg #[.int .i64 (unKind u), .int .i64 (unNum u)], .int .i64 (unE u)]) ∧ Below w.heap.size w w' := by
  have hb : u / 281474976710656 < 65529 ∨ 65534 < u / 281474976710656 := by simp [isTag] at ht; omega
  have hE : Hid (unE u = 3) := by show unE u = 3; simp only [bne_iff_ne] at ho; simp [unE, ht, hs, ho]
  have hK : Hid (unKind u = 0) := by show unKind u = 0; simp [unKind, hE.out]
  have hN : Hid (unNum u = 0) := by show unNum u = _; simp [unNum, hE.out]
  clear ht
  rcases hb with hb | hb
  all_goals
    go_enter Try.func62, Try.ntmps62
    go_wp2_with (go_at_call 45; refine (spoilt_any _ _ h0 h1).mono ?_; rintro e w' ⟨rfl, rfl⟩)
    exact bodyPost_ret (v := .tuple #[.agg #[.int .i64 0, .int .i64 0], .int .i64 3]) (by simp [results, Try.results62, go_sem]) rfl ⟨ret_val hK.out.symm hN.out.symm hE.out.symm, (by repeat' (first | (with_reducible exact Below.refl _ _) | (with_reducible assumption) | (with_reducible refine below_drewN ?_ _) | (with_reducible refine Below.drew ?_) | (with_reducible refine Below.alloc ?_ ?_ _) | (with_reducible refine Below.setCell ?_ ?_ _) | go_size))⟩


set_option maxHeartbeats 1000000 in
theorem unbox_tag1 (u : Int) (w : World) (h0 : 0 ≤ u) (h1 : u < 18446744073709551616) (ht : isTag u = true) (hk : u / 281474976710656 < 65531) :
    Calls Try.prog 62 #[.int .u64 u] w fun e w' => e = .returned (.tuple #[.agg #[.int .i64 (unKind u), .int .i64 (unNum u)], .int .i64 (unE u)]) ∧ Below w.heap.size w w' := by
  have hb : 65529 ≤ u / 281474976710656 ∧ u / 281474976710656 ≤ 65534 := by simpa [isTag] using ht
  obtain ⟨hb1, hb2⟩ := hb
  have hK : Hid (unK u = u / 281474976710656 - 65529) := by show unK u = _; unfold unK unK0; split <;> omega
  have hN : Hid (unN u = u % 4294967296) := by show unN u = _; unfold unN; rw [hK.out]; rw [if_neg (by omega)]
  have hT := Lib.hid ht; clear ht
  by_cases hE : boxE (u / 281474976710656 - 65529) (u % 4294967296) = 0
  · by_cases hW : boxW (u / 281474976710656 - 65529) (u % 4294967296) = u
    · have h3 : Hid (unE u = 0) := by show unE u = 0; simp [unE, hT.out, hK.out, hN.out, hE, hW]
      have h4 : Hid (unKind u = u / 281474976710656 - 65529) := by show unKind u = _; simp [unKind, h3.out, hT.out, hK.out]
      have h5 : Hid (unNum u = u % 4294967296) := by show unNum u = _; simp [unNum, h3.out, hT.out, hN.out]
      have HE : (boxE (u / 281474976710656 - 65529) (u % 4294967296) != 0) = false := by simp [hE]
      have HW : (boxW (u / 281474976710656 - 65529) (u % 4294967296) != u) = false := by simp [hW]
      clear hE hW
      go_enter Try.func62, Try.ntmps62
      go_wp2_with (go_at_call 31; refine (box_any _ _ _).mono ?_; rintro e w' ⟨rfl, hbw⟩; obtain ⟨hc, hf, hz⟩ := bcell hbw; have hB := below_call (B := w.heap.size) (w := w) hbw (by repeat' (first | (with_reducible exact Below.refl _ _) | (with_reducible assumption) | (with_reducible refine below_drewN ?_ _) | (with_reducible refine Below.drew ?_) | (with_reducible refine Below.alloc ?_ ?_ _) | (with_reducible refine Below.setCell ?_ ?_ _) | go_size)) (by simp; try omega); have hs0 : (w'.cell? ⟨w.heap.size, 0, none⟩).isSome = true := (by rw [hc _ _ (by simp; omega)]; simp [go_sem]); have hs1 : (w'.cell? ⟨w.heap.size, 1, none⟩).isSome = true := (by rw [hc _ _ (by simp; omega)]; simp [go_sem]); simp at hz)
      exact bodyPost_ret (v := .tuple #[.agg #[.int .i64 (u / 281474976710656 - 65529), .int .i64 (u % 4294967296)], .int .i64 0]) (by simp [results, Try.results62, go_sem, *]) rfl ⟨ret_val h4.out.symm h5.out.symm h3.out.symm, (by repeat' (first | (with_reducible exact Below.refl _ _) | (with_reducible assumption) | (with_reducible refine below_drewN ?_ _) | (with_reducible refine Below.drew ?_) | (with_reducible refine Below.alloc ?_ ?_ _) | (with_reducible refine Below.setCell ?_ ?_ _) | go_size))⟩
    · have h3 : Hid (unE u = 3) := by show unE u = 3; simp [unE, hT.out, hK.out, hN.out, hW]
      have h4 : Hid (unKind u = 0) := by show unKind u = _; simp [unKind, h3.out]
      have h5 : Hid (unNum u = 0) := by show unNum u = _; simp [unNum, h3.out]
      have HE : (boxE (u / 281474976710656 - 65529) (u % 4294967296) != 0) = false := by simp [hE]
      have HW : (boxW (u / 281474976710656 - 65529) (u % 4294967296) != u) = true := by simp [hW]
      clear hE hW
      go_enter Try.func62, Try.ntmps62
      go_wp2_with (go_at_call 31; refine (box_any _ _ _).mono ?_; rintro e w' ⟨rfl, hbw⟩; obtain ⟨hc, hf, hz⟩ := bcell hbw; have hB := below_call (B := w.heap.size) (w := w) hbw (by repeat' (first | (with_reducible exact Below.refl _ _) | (with_reducible assumption) | (with_reducible refine below_drewN ?_ _) | (with_reducible refine Below.drew ?_) | (with_reducible refine Below.alloc ?_ ?_ _) | (with_reducible refine Below.setCell ?_ ?_ _) | go_size)) (by simp; try omega); have hs0 : (w'.cell? ⟨w.heap.size, 0, none⟩).isSome = true := (by rw [hc _ _ (by simp; omega)]; simp [go_sem]); have hs1 : (w'.cell? ⟨w.heap.size, 1, none⟩).isSome = true := (by rw [hc _ _ (by simp; omega)]; simp [go_sem]); simp at hz)
      exact bodyPost_ret (v := .tuple #[.agg #[.int .i64 (0), .int .i64 (0)], .int .i64 3]) (by simp [results, Try.results62, go_sem, *]) rfl ⟨ret_val h4.out.symm h5.out.symm h3.out.symm, (by repeat' (first | (with_reducible exact Below.refl _ _) | (with_reducible assumption) | (with_reducible refine below_drewN ?_ _) | (with_reducible refine Below.drew ?_) | (with_reducible refine Below.alloc ?_ ?_ _) | (with_reducible refine Below.setCell ?_ ?_ _) | go_size))⟩
  · have h3 : Hid (unE u = 3) := by show unE u = 3; simp [unE, hT.out, hK.out, hN.out, hE]
    have h4 : Hid (unKind u = 0) := by show unKind u = _; simp [unKind, h3.out]
    have h5 : Hid (unNum u = 0) := by show unNum u = _; simp [unNum, h3.out]
    have HE : (boxE (u / 281474976710656 - 65529) (u % 4294967296) != 0) = true := by simp [hE]
    clear hE
    go_enter Try.func62, Try.ntmps62
    go_wp2_with (go_at_call 31; refine (box_any _ _ _).mono ?_; rintro e w' ⟨rfl, hbw⟩; obtain ⟨hc, hf, hz⟩ := bcell hbw; have hB := below_call (B := w.heap.size) (w := w) hbw (by repeat' (first | (with_reducible exact Below.refl _ _) | (with_reducible assumption) | (with_reducible refine below_drewN ?_ _) | (with_reducible refine Below.drew ?_) | (with_reducible refine Below.alloc ?_ ?_ _) | (with_reducible refine Below.setCell ?_ ?_ _) | go_size)) (by simp; try omega); have hs0 : (w'.cell? ⟨w.heap.size, 0, none⟩).isSome = true := (by rw [hc _ _ (by simp; omega)]; simp [go_sem]); have hs1 : (w'.cell? ⟨w.heap.size, 1, none⟩).isSome = true := (by rw [hc _ _ (by simp; omega)]; simp [go_sem]); simp at hz)
    exact bodyPost_ret (v := .tuple #[.agg #[.int .i64 (0), .int .i64 (0)], .int .i64 3]) (by simp [results, Try.results62, go_sem, *]) rfl ⟨ret_val h4.out.symm h5.out.symm h3.out.symm, (by repeat' (first | (with_reducible exact Below.refl _ _) | (with_reducible assumption) | (with_reducible refine below_drewN ?_ _) | (with_reducible refine Below.drew ?_) | (with_reducible refine Below.alloc ?_ ?_ _) | (with_reducible refine Below.setCell ?_ ?_ _) | go_size))⟩

set_option maxHeartbeats 1000000 in
theorem unbox_tag2 (u : Int) (w : World) (h0 : 0 ≤ u) (h1 : u < 18446744073709551616) (ht : isTag u = true) (hk : u / 281474976710656 = 65531) :
    Calls Try.prog 62 #[.int .u64 u] w fun e w' => e = .returned (.tuple #[.agg #[.int .i64 (unKind u), .int .i64 (unNum u)], .int .i64 (unE u)]) ∧ Below w.heap.size w w' := by
  have hb : 65529 ≤ u / 281474976710656 ∧ u / 281474976710656 ≤ 65534 := by simpa [isTag] using ht
  obtain ⟨hb1, hb2⟩ := hb
  have hK : Hid (unK u = 2) := by show unK u = _; unfold unK unK0; rw [hk]; rfl
  have hN : Hid (unN u = wrap64 (wrap32 (u % 4294967296))) := by show unN u = _; unfold unN; rw [hK.out]; rw [if_pos rfl]
  have hT := Lib.hid ht; clear ht
  by_cases hE : boxE (2) (wrap64 (wrap32 (u % 4294967296))) = 0
  · by_cases hW : boxW (2) (wrap64 (wrap32 (u % 4294967296))) = u
    · have h3 : Hid (unE u = 0) := by show unE u = 0; simp [unE, hT.out, hK.out, hN.out, hE, hW]
      have h4 : Hid (unKind u = 2) := by show unKind u = _; simp [unKind, h3.out, hT.out, hK.out]
      have h5 : Hid (unNum u = wrap64 (wrap32 (u % 4294967296))) := by show unNum u = _; simp [unNum, h3.out, hT.out, hN.out]
      have HE : (boxE (2) (wrap64 (wrap32 (u % 4294967296))) != 0) = false := by simp [hE]
      have HW : (boxW (2) (wrap64 (wrap32 (u % 4294967296))) != u) = false := by simp [hW]
      clear hE hW
      go_enter Try.func62, Try.ntmps62
      go_wp2_with (go_at_call 31; refine (box_any _ _ _).mono ?_; rintro e w' ⟨rfl, hbw⟩; obtain ⟨hc, hf, hz⟩ := bcell hbw; have hB := below_call (B := w.heap.size) (w := w) hbw (by repeat' (first | (with_reducible exact Below.refl _ _) | (with_reducible assumption) | (with_reducible refine below_drewN ?_ _) | (with_reducible refine Below.drew ?_) | (with_reducible refine Below.alloc ?_ ?_ _) | (with_reducible refine Below.setCell ?_ ?_ _) | go_size)) (by simp; try omega); have hs0 : (w'.cell? ⟨w.heap.size, 0, none⟩).isSome = true := (by rw [hc _ _ (by simp; omega)]; simp [go_sem]); have hs1 : (w'.cell? ⟨w.heap.size, 1, none⟩).isSome = true := (by rw [hc _ _ (by simp; omega)]; simp [go_sem]); simp at hz)
      exact bodyPost_ret (v := .tuple #[.agg #[.int .i64 (2), .int .i64 (wrap64 (wrap32 (u % 4294967296)))], .int .i64 0]) (by simp [results, Try.results62, go_sem, *]) rfl ⟨ret_val h4.out.symm h5.out.symm h3.out.symm, (by repeat' (first | (with_reducible exact Below.refl _ _) | (with_reducible assumption) | (with_reducible refine below_drewN ?_ _) | (with_reducible refine Below.drew ?_) | (with_reducible refine Below.alloc ?_ ?_ _) | (with_reducible refine Below.setCell ?_ ?_ _) | go_size))⟩
    · have h3 : Hid (unE u = 3) := by show unE u = 3; simp [unE, hT.out, hK.out, hN.out, hW]
      have h4 : Hid (unKind u = 0) := by show unKind u = _; simp [unKind, h3.out]
      have h5 : Hid (unNum u = 0) := by show unNum u = _; simp [unNum, h3.out]
      have HE : (boxE (2) (wrap64 (wrap32 (u % 4294967296))) != 0) = false := by simp [hE]
      have HW : (boxW (2) (wrap64 (wrap32 (u % 4294967296))) != u) = true := by simp [hW]
      clear hE hW
      go_enter Try.func62, Try.ntmps62
      go_wp2_with (go_at_call 31; refine (box_any _ _ _).mono ?_; rintro e w' ⟨rfl, hbw⟩; obtain ⟨hc, hf, hz⟩ := bcell hbw; have hB := below_call (B := w.heap.size) (w := w) hbw (by repeat' (first | (with_reducible exact Below.refl _ _) | (with_reducible assumption) | (with_reducible refine below_drewN ?_ _) | (with_reducible refine Below.drew ?_) | (with_reducible refine Below.alloc ?_ ?_ _) | (with_reducible refine Below.setCell ?_ ?_ _) | go_size)) (by simp; try omega); have hs0 : (w'.cell? ⟨w.heap.size, 0, none⟩).isSome = true := (by rw [hc _ _ (by simp; omega)]; simp [go_sem]); have hs1 : (w'.cell? ⟨w.heap.size, 1, none⟩).isSome = true := (by rw [hc _ _ (by simp; omega)]; simp [go_sem]); simp at hz)
      exact bodyPost_ret (v := .tuple #[.agg #[.int .i64 (0), .int .i64 (0)], .int .i64 3]) (by simp [results, Try.results62, go_sem, *]) rfl ⟨ret_val h4.out.symm h5.out.symm h3.out.symm, (by repeat' (first | (with_reducible exact Below.refl _ _) | (with_reducible assumption) | (with_reducible refine below_drewN ?_ _) | (with_reducible refine Below.drew ?_) | (with_reducible refine Below.alloc ?_ ?_ _) | (with_reducible refine Below.setCell ?_ ?_ _) | go_size))⟩
  · have h3 : Hid (unE u = 3) := by show unE u = 3; simp [unE, hT.out, hK.out, hN.out, hE]
    have h4 : Hid (unKind u = 0) := by show unKind u = _; simp [unKind, h3.out]
    have h5 : Hid (unNum u = 0) := by show unNum u = _; simp [unNum, h3.out]
    have HE : (boxE (2) (wrap64 (wrap32 (u % 4294967296))) != 0) = true := by simp [hE]
    clear hE
    go_enter Try.func62, Try.ntmps62
    go_wp2_with (go_at_call 31; refine (box_any _ _ _).mono ?_; rintro e w' ⟨rfl, hbw⟩; obtain ⟨hc, hf, hz⟩ := bcell hbw; have hB := below_call (B := w.heap.size) (w := w) hbw (by repeat' (first | (with_reducible exact Below.refl _ _) | (with_reducible assumption) | (with_reducible refine below_drewN ?_ _) | (with_reducible refine Below.drew ?_) | (with_reducible refine Below.alloc ?_ ?_ _) | (with_reducible refine Below.setCell ?_ ?_ _) | go_size)) (by simp; try omega); have hs0 : (w'.cell? ⟨w.heap.size, 0, none⟩).isSome = true := (by rw [hc _ _ (by simp; omega)]; simp [go_sem]); have hs1 : (w'.cell? ⟨w.heap.size, 1, none⟩).isSome = true := (by rw [hc _ _ (by simp; omega)]; simp [go_sem]); simp at hz)
    exact bodyPost_ret (v := .tuple #[.agg #[.int .i64 (0), .int .i64 (0)], .int .i64 3]) (by simp [results, Try.results62, go_sem, *]) rfl ⟨ret_val h4.out.symm h5.out.symm h3.out.symm, (by repeat' (first | (with_reducible exact Below.refl _ _) | (with_reducible assumption) | (with_reducible refine below_drewN ?_ _) | (with_reducible refine Below.drew ?_) | (with_reducible refine Below.alloc ?_ ?_ _) | (with_reducible refine Below.setCell ?_ ?_ _) | go_size))⟩

set_option maxHeartbeats 1000000 in
theorem unbox_tag3 (u : Int) (w : World) (h0 : 0 ≤ u) (h1 : u < 18446744073709551616) (ht : isTag u = true) (hk : 65531 < u / 281474976710656) :
    Calls Try.prog 62 #[.int .u64 u] w fun e w' => e = .returned (.tuple #[.agg #[.int .i64 (unKind u), .int .i64 (unNum u)], .int .i64 (unE u)]) ∧ Below w.heap.size w w' := by
  have hb : 65529 ≤ u / 281474976710656 ∧ u / 281474976710656 ≤ 65534 := by simpa [isTag] using ht
  obtain ⟨hb1, hb2⟩ := hb
  have hK : Hid (unK u = u / 281474976710656 - 65529 + 1) := by show unK u = _; unfold unK unK0; rw [if_pos (by omega)]
  have hN : Hid (unN u = u % 4294967296) := by show unN u = _; unfold unN; rw [hK.out]; rw [if_neg (by omega)]
  have hT := Lib.hid ht; clear ht
  by_cases hE : boxE (u / 281474976710656 - 65529 + 1) (u % 4294967296) = 0
  · by_cases hW : boxW (u / 281474976710656 - 65529 + 1) (u % 4294967296) = u
    · have h3 : Hid (unE u = 0) := by show unE u = 0; simp [unE, hT.out, hK.out, hN.out, hE, hW]
      have h4 : Hid (unKind u = u / 281474976710656 - 65529 + 1) := by show unKind u = _; simp [unKind, h3.out, hT.out, hK.out]
      have h5 : Hid (unNum u = u % 4294967296) := by show unNum u = _; simp [unNum, h3.out, hT.out, hN.out]
      have HE : (boxE (u / 281474976710656 - 65529 + 1) (u % 4294967296) != 0) = false := by simp [hE]
      have HW : (boxW (u / 281474976710656 - 65529 + 1) (u % 4294967296) != u) = false := by simp [hW]
      clear hE hW
      go_enter Try.func62, Try.ntmps62
      go_wp2_with (go_at_call 31; refine (box_any _ _ _).mono ?_; rintro e w' ⟨rfl, hbw⟩; obtain ⟨hc, hf, hz⟩ := bcell hbw; have hB := below_call (B := w.heap.size) (w := w) hbw (by repeat' (first | (with_reducible exact Below.refl _ _) | (with_reducible assumption) | (with_reducible refine below_drewN ?_ _) | (with_reducible refine Below.drew ?_) | (with_reducible refine Below.alloc ?_ ?_ _) | (with_reducible refine Below.setCell ?_ ?_ _) | go_size)) (by simp; try omega); have hs0 : (w'.cell? ⟨w.heap.size, 0, none⟩).isSome = true := (by rw [hc _ _ (by simp; omega)]; simp [go_sem]); have hs1 : (w'.cell? ⟨w.heap.size, 1, none⟩).isSome = true := (by rw [hc _ _ (by simp; omega)]; simp [go_sem]); simp at hz)
      exact bodyPost_ret (v := .tuple #[.agg #[.int .i64 (u / 281474976710656 - 65529 + 1), .int .i64 (u % 4294967296)], .int .i64 0]) (by simp [results, Try.results62, go_sem, *]) rfl ⟨ret_val h4.out.symm h5.out.symm h3.out.symm, (by repeat' (first | (with_reducible exact Below.refl _ _) | (with_reducible assumption) | (with_reducible refine below_drewN ?_ _) | (with_reducible refine Below.drew ?_) | (with_reducible refine Below.alloc ?_ ?_ _) | (with_reducible refine Below.setCell ?_ ?_ _) | go_size))⟩
    · have h3 : Hid (unE u = 3) := by show unE u = 3; simp [unE, hT.out, hK.out, hN.out, hW]
      have h4 : Hid (unKind u = 0) := by show unKind u = _; simp [unKind, h3.out]
      have h5 : Hid (unNum u = 0) := by show unNum u = _; simp [unNum, h3.out]
      have HE : (boxE (u / 281474976710656 - 65529 + 1) (u % 4294967296) != 0) = false := by simp [hE]
      have HW : (boxW (u / 281474976710656 - 65529 + 1) (u % 4294967296) != u) = true := by simp [hW]
      clear hE hW
      go_enter Try.func62, Try.ntmps62
      go_wp2_with (go_at_call 31; refine (box_any _ _ _).mono ?_; rintro e w' ⟨rfl, hbw⟩; obtain ⟨hc, hf, hz⟩ := bcell hbw; have hB := below_call (B := w.heap.size) (w := w) hbw (by repeat' (first | (with_reducible exact Below.refl _ _) | (with_reducible assumption) | (with_reducible refine below_drewN ?_ _) | (with_reducible refine Below.drew ?_) | (with_reducible refine Below.alloc ?_ ?_ _) | (with_reducible refine Below.setCell ?_ ?_ _) | go_size)) (by simp; try omega); have hs0 : (w'.cell? ⟨w.heap.size, 0, none⟩).isSome = true := (by rw [hc _ _ (by simp; omega)]; simp [go_sem]); have hs1 : (w'.cell? ⟨w.heap.size, 1, none⟩).isSome = true := (by rw [hc _ _ (by simp; omega)]; simp [go_sem]); simp at hz)
      exact bodyPost_ret (v := .tuple #[.agg #[.int .i64 (0), .int .i64 (0)], .int .i64 3]) (by simp [results, Try.results62, go_sem, *]) rfl ⟨ret_val h4.out.symm h5.out.symm h3.out.symm, (by repeat' (first | (with_reducible exact Below.refl _ _) | (with_reducible assumption) | (with_reducible refine below_drewN ?_ _) | (with_reducible refine Below.drew ?_) | (with_reducible refine Below.alloc ?_ ?_ _) | (with_reducible refine Below.setCell ?_ ?_ _) | go_size))⟩
  · have h3 : Hid (unE u = 3) := by show unE u = 3; simp [unE, hT.out, hK.out, hN.out, hE]
    have h4 : Hid (unKind u = 0) := by show unKind u = _; simp [unKind, h3.out]
    have h5 : Hid (unNum u = 0) := by show unNum u = _; simp [unNum, h3.out]
    have HE : (boxE (u / 281474976710656 - 65529 + 1) (u % 4294967296) != 0) = true := by simp [hE]
    clear hE
    go_enter Try.func62, Try.ntmps62
    go_wp2_with (go_at_call 31; refine (box_any _ _ _).mono ?_; rintro e w' ⟨rfl, hbw⟩; obtain ⟨hc, hf, hz⟩ := bcell hbw; have hB := below_call (B := w.heap.size) (w := w) hbw (by repeat' (first | (with_reducible exact Below.refl _ _) | (with_reducible assumption) | (with_reducible refine below_drewN ?_ _) | (with_reducible refine Below.drew ?_) | (with_reducible refine Below.alloc ?_ ?_ _) | (with_reducible refine Below.setCell ?_ ?_ _) | go_size)) (by simp; try omega); have hs0 : (w'.cell? ⟨w.heap.size, 0, none⟩).isSome = true := (by rw [hc _ _ (by simp; omega)]; simp [go_sem]); have hs1 : (w'.cell? ⟨w.heap.size, 1, none⟩).isSome = true := (by rw [hc _ _ (by simp; omega)]; simp [go_sem]); simp at hz)
    exact bodyPost_ret (v := .tuple #[.agg #[.int .i64 (0), .int .i64 (0)], .int .i64 3]) (by simp [results, Try.results62, go_sem, *]) rfl ⟨ret_val h4.out.symm h5.out.symm h3.out.symm, (by repeat' (first | (with_reducible exact Below.refl _ _) | (with_reducible assumption) | (with_reducible refine below_drewN ?_ _) | (with_reducible refine Below.drew ?_) | (with_reducible refine Below.alloc ?_ ?_ _) | (with_reducible refine Below.setCell ?_ ?_ _) | go_size))⟩

theorem unbox_any (u : Int) (w : World) (h0 : 0 ≤ u) (h1 : u < 18446744073709551616) :
    Calls Try.prog 62 #[.int .u64 u] w fun e w' => e = .returned (.tuple #[.agg #[.int .i64 (unKind u), .int .i64 (unNum u)], .int .i64 (unE u)]) ∧ Below w.heap.size w w' := by
  cases ht : isTag u with
  | true =>
    by_cases hk : u / 281474976710656 = 65531
    · exact unbox_tag2 u w h0 h1 ht hk
    · by_cases hk2 : u / 281474976710656 < 65531
      · exact unbox_tag1 u w h0 h1 ht hk2
      · exact unbox_tag3 u w h0 h1 ht (by omega)
  | false =>
    cases hs : spoiltB u with
    | false => exact unbox_plain u w h0 h1 ht hs
    | true =>
      by_cases ho : u = 9221120237041090561
      · subst ho; exact unbox_odd w
      · exact unbox_spoilt u w h0 h1 ht hs (by simpa using ho)

def kindI (u : Int) : Int := if unE u = 0 then unKind u else -1
set_option maxHeartbeats 400000 in
theorem kind_any (u : Int) (w : World) (h0 : 0 ≤ u) (h1 : u < 18446744073709551616) :
    Calls Try.prog 59 #[.int .u64 u] w fun e w' => e = .returned (.int .i64 (kindI u)) ∧ Below w.heap.size w w' := by
  by_cases he : unE u = 0
  · have HK : Hid (kindI u = unKind u) := by show kindI u = _; simp [kindI, he]
    have HE : (unE u != 0) = false := by simp [he]
    clear he
    go_enter Try.func59, Try.ntmps59
    go_wp2_with (go_at_call 62; refine (unbox_any _ _ h0 h1).mono ?_; rintro e w' ⟨rfl, hbw⟩; have hB := below_call (B := w.heap.size) (w := w) hbw (by repeat' (first | (with_reducible exact Below.refl _ _) | (with_reducible assumption) | (with_reducible refine below_drewN ?_ _) | (with_reducible refine Below.drew ?_) | (with_reducible refine Below.alloc ?_ ?_ _) | (with_reducible refine Below.setCell ?_ ?_ _) | go_size)) (by simp); have hsz := hB.size)
    go_ret
    exact ⟨ret_int HK.out.symm, (by repeat' (first | (with_reducible exact Below.refl _ _) | (with_reducible assumption) | (with_reducible refine below_drewN ?_ _) | (with_reducible refine Below.drew ?_) | (with_reducible refine Below.alloc ?_ ?_ _) | (with_reducible refine Below.setCell ?_ ?_ _) | go_size))⟩
  · have HK : Hid (kindI u = -1) := by show kindI u = _; simp [kindI, he]
    have HE : (unE u != 0) = true := by simp [he]
    clear he
    go_enter Try.func59, Try.ntmps59
    go_wp2_with (go_at_call 62; refine (unbox_any _ _ h0 h1).mono ?_; rintro e w' ⟨rfl, hbw⟩; have hB := below_call (B := w.heap.size) (w := w) hbw (by repeat' (first | (with_reducible exact Below.refl _ _) | (with_reducible assumption) | (with_reducible refine below_drewN ?_ _) | (with_reducible refine Below.drew ?_) | (with_reducible refine Below.alloc ?_ ?_ _) | (with_reducible refine Below.setCell ?_ ?_ _) | go_size)) (by simp); have hsz := hB.size)
    go_ret
    exact ⟨ret_int HK.out.symm, (by repeat' (first | (with_reducible exact Below.refl _ _) | (with_reducible assumption) | (with_reducible refine below_drewN ?_ _) | (with_reducible refine Below.drew ?_) | (with_reducible refine Below.alloc ?_ ?_ _) | (with_reducible refine Below.setCell ?_ ?_ _) | go_size))⟩
end Go.Proofs.Ytpmmiaadfnildaa
