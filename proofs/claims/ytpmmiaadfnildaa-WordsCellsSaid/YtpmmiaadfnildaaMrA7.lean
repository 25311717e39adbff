/-
  What package nanbox computes: Box, Unbox, Kind (and the reference's Odd).
-/
import Derived.KernelRfl
import Derived.Test.YtpmmiaadfnildaaMrA1
import Derived.Test.YtpmmiaadfnildaaMrA4
import Derived.Test.YtpmmiaadfnildaaMrA6
namespace Go.Proofs.Ytpmmiaadfnildaa
open Go.RowKit
set_option linter.unusedVariables false
set_option linter.unusedSimpArgs false

theorem and_mask63 (n : Int) (h0 : 0 ≤ n) (h1 : n < 18446744073709551616) : bits .and .u64 n 9223372036854775807 = n % 9223372036854775808 := by
  rw [u64_and n _ h0 h1 (by omega) (by omega)]
  have : (9223372036854775807 : Int).toNat = 2^63 - 1 := rfl
  rw [this, Nat.and_two_pow_sub_one_eq_mod]
  omega

def spoiltB (n : Int) : Bool := decide (9218868437227405312 < n % 9223372036854775808)
def tagI (k : Int) : Int := (65529 + (if 3 < k then k - 1 else k)) * 281474976710656
def loI (k : Int) : Int := if k = 2 then -2147483648 else 0
def hiI (k : Int) : Int := if k = 0 then 0 else if k = 1 then 1 else if k = 2 then 2147483647 else 4294967295


set_option maxHeartbeats 400000 in
theorem spoilt_any (n : Int) (w : World) (h0 : 0 ≤ n) (h1 : n < 18446744073709551616) :
    Calls Try.prog 45 #[.int .u64 n] w fun e w' => e = .returned (.bool (spoiltB n)) ∧ w = w' := by
  have e := Lib.hid (and_mask63 n h0 h1)
  go_enter Try.func45, Try.ntmps45
  go_wp2
  go_ret
  exact ⟨ret_bool (by unfold spoiltB; rw [e.out]), rfl⟩

set_option maxHeartbeats 400000 in
theorem tag_any (n : Int) (w : World) (h : 0 ≤ n) (h1 : n ≤ 6):
    Calls Try.prog 47 #[.int .i64 n] w fun e w' => e = .returned (.int .u64 (tagI n)) ∧ w = w' := by
  go_enter Try.func47, Try.ntmps47
  go_wp2
  all_goals go_ret
  · exact ⟨ret_int (by unfold tagI; rw [if_pos (by assumption)]), rfl⟩
  · exact ⟨ret_int (by unfold tagI; rw [if_neg (by omega)]), rfl⟩

set_option maxHeartbeats 400000 in
theorem bounds_any (n : Int) (w : World) :
    Calls Try.prog 46 #[.int .i64 n] w fun e w' => e = .returned (.tuple #[.int .i64 (loI n), .int .i64 (hiI n)]) ∧ w = w' := by
  go_enter Try.func46, Try.ntmps46
  go_wp2
  all_goals go_ret2
  all_goals exact ⟨ret_ints (by unfold loI; simp_all) (by unfold hiI; simp_all), rfl⟩

def boxE (k n : Int) : Int := if k < 0 ∨ 6 < k then 7 else if k = 3 then 0 else if n < loI k ∨ hiI k < n then 1 else 0
def boxW (k n : Int) : Int :=
  if k < 0 ∨ 6 < k then 0 else if k = 3 then (if spoiltB (IntKind.u64.wrap n) then 9221120237041090561 else IntKind.u64.wrap n)
  else if n < loI k ∨ hiI k < n then 0 else tagI k + n % 4294967296


theorem or_tag (k n : Int) (h : 0 ≤ k) (h1 : k ≤ 6) : bits .or .u64 (tagI k) (n % 4294967296) = tagI k + n % 4294967296 := by
  have hn : 0 ≤ n % 4294967296 := by omega
  have hn1 : n % 4294967296 < 4294967296 := by omega
  generalize n % 4294967296 = m at *
  have ht : tagI k = ((tagI k).toNat : Int) := by unfold tagI; split <;> omega
  rw [u64_or _ _ (by unfold tagI; split <;> omega) (by unfold tagI; split <;> omega) (by omega) (by omega)]
  rw [nat_join 48 _ _ (by unfold tagI; split <;> omega) (by omega)]
  omega

theorem u64r (n : Int) : 0 ≤ IntKind.u64.wrap n ∧ IntKind.u64.wrap n < 18446744073709551616 := by simp only [IntKind.wrap_u64]; omega

set_option maxHeartbeats 400000 in
theorem box_any (k n : Int) (w : World)  :
    Calls Try.prog 31 #[.agg #[.int .i64 k, .int .i64 n]] w fun e w' => e = .returned (.tuple #[.int .u64 (boxW k n), .int .i64 (boxE k n)]) ∧ Below w.heap.size w w' := by
  by_cases h1 : k < 0
  · go_enter Try.func31, Try.ntmps31
    go_wp2
    go_ret2
    exact ⟨ret_ints (by unfold boxW; rw [if_pos (.inl h1)]) (by unfold boxE; rw [if_pos (.inl h1)]), (by repeat' (first | (with_reducible exact Below.refl _ _) | (with_reducible assumption) | (with_reducible refine below_drewN ?_ _) | (with_reducible refine Below.drew ?_) | (with_reducible refine Below.alloc ?_ ?_ _) | (with_reducible refine Below.setCell ?_ ?_ _) | go_size))⟩
  by_cases h2 : 6 < k
  · go_enter Try.func31, Try.ntmps31
    go_wp2
    go_ret2
    exact ⟨ret_ints (by unfold boxW; rw [if_pos (.inr h2)]) (by unfold boxE; rw [if_pos (.inr h2)]), (by repeat' (first | (with_reducible exact Below.refl _ _) | (with_reducible assumption) | (with_reducible refine below_drewN ?_ _) | (with_reducible refine Below.drew ?_) | (with_reducible refine Below.alloc ?_ ?_ _) | (with_reducible refine Below.setCell ?_ ?_ _) | go_size))⟩
  have h1' : 0 ≤ k := by omega
  have h2' : k ≤ 6 := by omega
  by_cases h3 : k = 3
  · subst h3
    by_cases hs : spoiltB (IntKind.u64.wrap n) = true
    · go_enter Try.func31, Try.ntmps31
      go_wp2_with (go_at_call 45; refine (spoilt_any _ _ (u64r n).1 (u64r n).2).mono ?_; rintro e w' ⟨rfl, rfl⟩)
      go_ret2
      exact ⟨ret_ints (by unfold boxW; rw [if_neg (by omega), if_pos rfl, if_pos hs]) (by unfold boxE; rw [if_neg (by omega), if_pos rfl]), (by repeat' (first | (with_reducible exact Below.refl _ _) | (with_reducible assumption) | (with_reducible refine below_drewN ?_ _) | (with_reducible refine Below.drew ?_) | (with_reducible refine Below.alloc ?_ ?_ _) | (with_reducible refine Below.setCell ?_ ?_ _) | go_size))⟩
    · have hs' : spoiltB (IntKind.u64.wrap n) = false := by simpa using hs
      go_enter Try.func31, Try.ntmps31
      go_wp2_with (go_at_call 45; refine (spoilt_any _ _ (u64r n).1 (u64r n).2).mono ?_; rintro e w' ⟨rfl, rfl⟩)
      go_ret2
      exact ⟨ret_ints (by unfold boxW; rw [if_neg (by omega), if_pos rfl, if_neg hs]) (by unfold boxE; rw [if_neg (by omega), if_pos rfl]), (by repeat' (first | (with_reducible exact Below.refl _ _) | (with_reducible assumption) | (with_reducible refine below_drewN ?_ _) | (with_reducible refine Below.drew ?_) | (with_reducible refine Below.alloc ?_ ?_ _) | (with_reducible refine Below.setCell ?_ ?_ _) | go_size))⟩
  by_cases h4 : n < loI k
  · go_enter Try.func31, Try.ntmps31
    go_wp2_with (go_at_call 46; refine (bounds_any _ _).mono ?_; rintro e w' ⟨rfl, rfl⟩)
    go_ret2
    exact ⟨ret_ints (by unfold boxW; rw [if_neg (by omega), if_neg h3, if_pos (by omega)]) (by unfold boxE; rw [if_neg (by omega), if_neg h3, if_pos (by omega)]), (by repeat' (first | (with_reducible exact Below.refl _ _) | (with_reducible assumption) | (with_reducible refine below_drewN ?_ _) | (with_reducible refine Below.drew ?_) | (with_reducible refine Below.alloc ?_ ?_ _) | (with_reducible refine Below.setCell ?_ ?_ _) | go_size))⟩
  by_cases h5 : hiI k < n
  · go_enter Try.func31, Try.ntmps31
    go_wp2_with (go_at_call 46; refine (bounds_any _ _).mono ?_; rintro e w' ⟨rfl, rfl⟩)
    go_ret2
    exact ⟨ret_ints (by unfold boxW; rw [if_neg (by omega), if_neg h3, if_pos (by omega)]) (by unfold boxE; rw [if_neg (by omega), if_neg h3, if_pos (by omega)]), (by repeat' (first | (with_reducible exact Below.refl _ _) | (with_reducible assumption) | (with_reducible refine below_drewN ?_ _) | (with_reducible refine Below.drew ?_) | (with_reducible refine Below.alloc ?_ ?_ _) | (with_reducible refine Below.setCell ?_ ?_ _) | go_size))⟩
  have ho := Lib.hid (or_tag k n h1' h2')
  go_enter Try.func31, Try.ntmps31
  go_wp2_with (go_at_call 46; refine (bounds_any _ _).mono ?_; rintro e w' ⟨rfl, rfl⟩)
  go_quiet ((go_at_call 47; exact Calls.quiet_of_same ((tag_any _ _ h1' h2').mono fun _ _ h => ⟨h.1, h.2.symm⟩)))
  go_wp2
  go_ret2
  exact ⟨ret_ints (by unfold boxW; rw [if_neg (by omega), if_neg h3, if_neg (by omega)]; exact ho.out) (by unfold boxE; rw [if_neg (by omega), if_neg h3, if_neg (by omega)]), (by repeat' (first | (with_reducible exact Below.refl _ _) | (with_reducible assumption) | (with_reducible refine below_drewN ?_ _) | (with_reducible refine Below.drew ?_) | (with_reducible refine Below.alloc ?_ ?_ _) | (with_reducible refine Below.setCell ?_ ?_ _) | go_size))⟩

def unK0 (w : Int) : Int := w / 281474976710656 - 65529
def unK (w : Int) : Int := if 3 ≤ unK0 w then unK0 w + 1 else unK0 w
def unN (w : Int) : Int := if unK w = 2 then wrap64 (wrap32 (w % 4294967296)) else w % 4294967296
def isTag (w : Int) : Bool := decide (65529 ≤ w / 281474976710656 ∧ w / 281474976710656 ≤ 65534)
def unE (w : Int) : Int :=
  if isTag w then (if boxE (unK w) (unN w) = 0 ∧ boxW (unK w) (unN w) = w then 0 else 3)
  else if spoiltB w ∧ w ≠ 9221120237041090561 then 3 else 0
def unKind (w : Int) : Int := if unE w = 0 then (if isTag w then unK w else 3) else 0
def unNum (w : Int) : Int := if unE w = 0 then (if isTag w then unN w else wrap64 w) else 0
theorem ret_val {k n e k' n' e' : Int} (h1 : k = k') (h2 : n = n') (h3 : e = e') :
    Ending.returned (.tuple #[.agg #[.int .i64 k, .int .i64 n], .int .i64 e]) = .returned (.tuple #[.agg #[.int .i64 k', .int .i64 n'], .int .i64 e']) := by rw [h1, h2, h3]


set_option maxHeartbeats 400000 in
theorem unbox_plain (u : Int) (w : World) (h0 : 0 ≤ u) (h1 : u < 18446744073709551616) (ht : isTag u = false) (hs : spoiltB u = false) :
    Calls Try.prog 62 #[.int .u64 u] w fun e w' => e = .returned (.tuple #[.agg #[.int .i64 (unKind u), .int .i64 (unNum u)], .int .i64 (unE u)]) ∧ Below w.heap.size w w' := by
  have hb : u / 281474976710656 < 65529 ∨ 65534 < u / 281474976710656 := by simp [isTag] at ht; omega
  have hE : Hid (unE u = 0) := by show unE u = 0; simp [unE, ht, hs]
  have hK : Hid (unKind u = 3) := by show unKind u = 3; simp [unKind, hE.out, ht]
  have hN : Hid (unNum u = wrap64 u) := by show unNum u = _; simp [unNum, hE.out, ht]
  clear ht
  rcases hb with hb | hb
  all_goals
    go_enter Try.func62, Try.ntmps62
    go_wp2_with (go_at_call 45; refine (spoilt_any _ _ h0 h1).mono ?_; rintro e w' ⟨rfl, rfl⟩)
    exact bodyPost_ret (v := .tuple #[.agg #[.int .i64 3, .int .i64 (wrap64 u)], .int .i64 0]) (by simp [results, Try.results62, go_sem]) rfl ⟨ret_val hK.out.symm hN.out.symm hE.out.symm, (by repeat' (first | (with_reducible exact Below.refl _ _) | (with_reducible assumption) | (with_reducible refine below_drewN ?_ _) | (with_reducible refine Below.drew ?_) | (with_reducible refine Below.alloc ?_ ?_ _) | (with_reducible refine Below.setCell ?_ ?_ _) | go_size))⟩

set_option maxHeartbeats 400000 in
theorem unbox_odd (w : World) :
    Calls Try.prog 62 #[.int .u64 9221120237041090561] w fun e w' => e = .returned (.tuple #[.agg #[.int .i64 (unKind 9221120237041090561), .int .i64 (unNum 9221120237041090561)], .int .i64 (unE 9221120237041090561)]) ∧ Below w.heap.size w w' := by
  have hs : spoiltB 9221120237041090561 = true := by decide +kernel
  have hE : Hid (unE 9221120237041090561 = 0) := by show unE _ = _; decide +kernel
  have hK : Hid (unKind 9221120237041090561 = 3) := by show unKind _ = _; decide +kernel
  have hN : Hid (unNum 9221120237041090561 = 9221120237041090561) := by show unNum _ = _; decide +kernel
  go_enter Try.func62, Try.ntmps62
  go_wp2_with (go_at_call 45; refine (spoilt_any _ _ (by omega) (by omega)).mono ?_; rintro e w' ⟨rfl, rfl⟩)
  exact bodyPost_ret (v := .tuple #[.agg #[.int .i64 3, .int .i64 9221120237041090561], .int .i64 0]) (by simp [results, Try.results62, go_sem]) rfl ⟨ret_val hK.out.symm hN.out.symm hE.out.symm, (by repeat' (first | (with_reducible exact Below.refl _ _) | (with_reducible assumption) | (with_reducible refine below_drewN ?_ _) | (with_reducible refine Below.drew ?_) | (with_reducible refine Below.alloc ?_ ?_ _) | (with_reducible refine Below.setCell ?_ ?_ _) | go_size))⟩

set_option maxHeartbeats 400000 in
theorem unbox_spoilt (u : Int) (w : World) (h0 : 0 ≤ u) (h1 : u < 18446744073709551616) (ht : isTag u = false) (hs : spoiltB u = true) (ho : (u != 9221120237041090561) = true) :
    Calls Try.prog 62 #[.int .u64 u] w fun e w' => e = .returned (.tuple #[.agg #[.int .i64 (unKind u), .int .i64 (unNum u)], .int .i64 (unE u)]) ∧ Below w.heap.size w w' := by
  have hb : u / 281474976710656 < 65529 ∨ 65534 < u / 281474976710656 := by simp [isTag] at ht; omega
  have hE : Hid (unE u = 3) := by show unE u = 3; simp only [bne_iff_ne] at ho; simp [unE, ht, hs, ho]
  have hK : Hid (unKind u = 0) := by show unKind u = 0; simp [unKind, hE.out]
  have hN : Hid (unNum u = 0) := by show unNum u = _; simp [unNum, hE.out]
  clear ht
  rcases hb with hb | hb
  all_goals
    go_enter Try.func62, Try.ntmps62
    go_wp2_with (go_at_call 45; refine (spoilt_any _ _ h0 h1).mono ?_; rintro e w' ⟨rfl, rfl⟩)
    exact bodyPost_ret (v := .tuple #[.agg #[.int .i64 0, .int .i64 0], .int .i64 3]) (by simp [results, Try.results62, go_sem]) rfl ⟨ret_val hK.out.symm hN.out.symm hE.out.symm, (by repeat' (first | (with_reducible exact Below.refl _ _) | (with_reducible assumption) | (with_reducible refine below_drewN ?_ _) | (with_reducible refine Below.drew ?_) | (with_reducible refine Below.alloc ?_ ?_ _) | (with_reducible refine Below.setCell ?_ ?_ _) | go_size))⟩


set_option maxHeartbeats 1000000 in
theorem unbox_tag1 (u : Int) (w : World) (h0 : 0 ≤ u) (h1 : u < 18446744073709551616) (ht : isTag u = true) (hk : u / 281474976710656 < 65531) :
    Calls Try.prog 62 #[.int .u64 u] w fun e w' => e = .returned (.tuple #[.agg #[.int .i64 (unKind u), .int .i64 (unNum u)], .int .i64 (unE u)]) ∧ Below w.heap.size w w' := by
  have hb : 65529 ≤ u / 281474976710656 ∧ u / 281474976710656 ≤ 65534 := by simpa [isTag] using ht
  obtain ⟨hb1, hb2⟩ := hb
  have hK : Hid (unK u = u / 281474976710656 - 65529) := by show unK u = _; unfold unK unK0; split <;> omega
  have hN : Hid (unN u = u % 4294967296) := by show unN u = _; unfold unN; rw [hK.out]; rw [if_neg (by omega)]
  have hT := Lib.hid ht; clear ht
  by_cases hE : boxE (u / 281474976710656 - 65529) (u % 4294967296) = 0
  · by_cases hW : boxW (u / 281474976710656 - 65529) (u % 4294967296) = u
    · have h3 : Hid (unE u = 0) := by show unE u = 0; simp [unE, hT.out, hK.out, hN.out, hE, hW]
      have h4 : Hid (unKind u = u / 281474976710656 - 65529) := by show unKind u = _; simp [unKind, h3.out, hT.out, hK.out]
      have h5 : Hid (unNum u = u % 4294967296) := by show unNum u = _; simp [unNum, h3.out, hT.out, hN.out]
      have HE : (boxE (u / 281474976710656 - 65529) (u % 4294967296) != 0) = false := by simp [hE]
      have HW : (boxW (u / 281474976710656 - 65529) (u % 4294967296) != u) = false := by simp [hW]
      clear hE hW
      go_enter Try.func62, Try.ntmps62
      go_wp2_with (go_at_call 31; refine (box_any _ _ _).mono ?_; rintro e w' ⟨rfl, hbw⟩; obtain ⟨hc, hf, hz⟩ := bcell hbw; have hB := below_call (B := w.heap.size) (w := w) hbw (by repeat' (first | (with_reducible exact Below.refl _ _) | (with_reducible assumption) | (with_reducible refine below_drewN ?_ _) | (with_reducible refine Below.drew ?_) | (with_reducible refine Below.alloc ?_ ?_ _) | (with_reducible refine Below.setCell ?_ ?_ _) | go_size)) (by simp; try omega); have hs0 : (w'.cell? ⟨w.heap.size, 0, none⟩).isSome = true := (by rw [hc _ _ (by simp; omega)]; simp [go_sem]); have hs1 : (w'.cell? ⟨w.heap.size, 1, none⟩).isSome = true := (by rw [hc _ _ (by simp; omega)]; simp [go_sem]); simp at hz)
      exact bodyPost_ret (v := .tuple #[.agg #[.int .i64 (u / 281474976710656 - 65529), .int .i64 (u % 4294967296)], .int .i64 0]) (by simp [results, Try.results62, go_sem, *]) rfl ⟨ret_val h4.out.symm h5.out.symm h3.out.symm, (by repeat' (first | (with_reducible exact Below.refl _ _) | (with_reducible assumption) | (with_reducible refine below_drewN ?_ _) | (with_reducible refine Below.drew ?_) | (with_reducible refine Below.alloc ?_ ?_ _) | (with_reducible refine Below.setCell ?_ ?_ _) | go_size))⟩
    · have h3 : Hid (unE u = 3) := by show unE u = 3; simp [unE, hT.out, hK.out, hN.out, hW]
      have h4 : Hid (unKind u = 0) := by show unKind u = _; simp [unKind, h3.out]
      have h5 : Hid (unNum u = 0) := by show unNum u = _; simp [unNum, h3.out]
      have HE : (boxE (u / 281474976710656 - 65529) (u % 4294967296) != 0) = false := by simp [hE]
      have HW : (boxW (u / 281474976710656 - 65529) (u % 4294967296) != u) = true := by simp [hW]
      clear hE hW
      go_enter Try.func62, Try.ntmps62
      go_wp2_with (go_at_call 31; refine (box_any _ _ _).mono ?_; rintro e w' ⟨rfl, hbw⟩; obtain ⟨hc, hf, hz⟩ := bcell hbw; have hB := below_call (B := w.heap.size) (w := w) hbw (by repeat' (first | (with_reducible exact Below.refl _ _) | (with_reducible assumption) | (with_reducible refine below_drewN ?_ _) | (with_reducible refine Below.drew ?_) | (with_reducible refine Below.alloc ?_ ?_ _) | (with_reducible refine Below.setCell ?_ ?_ _) | go_size)) (by simp; try omega); have hs0 : (w'.cell? ⟨w.heap.size, 0, none⟩).isSome = true := (by rw [hc _ _ (by simp; omega)]; simp [go_sem]); have hs1 : (w'.cell? ⟨w.heap.size, 1, none⟩).isSome = true := (by rw [hc _ _ (by simp; omega)]; simp [go_sem]); simp at hz)
      exact bodyPost_ret (v := .tuple #[.agg #[.int .i64 (0), .int .i64 (0)], .int .i64 3]) (by simp [results, Try.results62, go_sem, *]) rfl ⟨ret_val h4.out.symm h5.out.symm h3.out.symm, (by repeat' (first | (with_reducible exact Below.refl _ _) | (with_reducible assumption) | (with_reducible refine below_drewN ?_ _) | (with_reducible refine Below.drew ?_) | (with_reducible refine Below.alloc ?_ ?_ _) | (with_reducible refine Below.setCell ?_ ?_ _) | go_size))⟩
  · have h3 : Hid (unE u = 3) := by show unE u = 3; simp [unE, hT.out, hK.out, hN.out, hE]
    have h4 : Hid (unKind u = 0) := by show unKind u = _; simp [unKind, h3.out]
    have h5 : Hid (unNum u = 0) := by show unNum u = _; simp [unNum, h3.out]
    have HE : (boxE (u / 281474976710656 - 65529) (u % 4294967296) != 0) = true := by simp [hE]
    clear hE
    go_enter Try.func62, Try.ntmps62
    go_wp2_with (go_at_call 31; refine (box_any _ _ _).mono ?_; rintro e w' ⟨rfl, hbw⟩; obtain ⟨hc, hf, hz⟩ := bcell hbw; have hB := below_call (B := w.heap.size) (w := w) hbw (by repeat' (first | (with_reducible exact Below.refl _ _) | (with_reducible assumption) | (with_reducible refine below_drewN ?_ _) | (with_reducible refine Below.drew ?_) | (with_reducible refine Below.alloc ?_ ?_ _) | (with_reducible refine Below.setCell ?_ ?_ _) | go_size)) (by simp; try omega); have hs0 : (w'.cell? ⟨w.heap.size, 0, none⟩).isSome = true := (by rw [hc _ _ (by simp; omega)]; simp [go_sem]); have hs1 : (w'.cell? ⟨w.heap.size, 1, none⟩).isSome = true := (by rw [hc _ _ (by simp; omega)]; simp [go_sem]); simp at hz)
    exact bodyPost_ret (v := .tuple #[.agg #[.int .i64 (0), .int .i64 (0)], .int .i64 3]) (by simp [results, Try.results62, go_sem, *]) rfl ⟨ret_val h4.out.symm h5.out.symm h3.out.symm, (by repeat' (first | (with_reducible exact Below.refl _ _) | (with_reducible assumption) | (with_reducible refine below_drewN ?_ _) | (with_reducible refine Below.drew ?_) | (with_reducible refine Below.alloc ?_ ?_ _) | (with_reducible refine Below.setCell ?_ ?_ _) | go_size))⟩

set_option maxHeartbeats 1000000 in
theorem unbox_tag2 (u : Int) (w : World) (h0 : 0 ≤ u) (h1 : u < 18446744073709551616) (ht : isTag u = true) (hk : u / 281474976710656 = 65531) :
    Calls Try.prog 62 #[.int .u64 u] w fun e w' => e = .returned (.tuple #[.agg #[.int .i64 (unKind u), .int .i64 (unNum u)], .int .i64 (unE u)]) ∧ Below w.heap.size w w' := by
  have hb : 65529 ≤ u / 281474976710656 ∧ u / 281474976710656 ≤ 65534 := by simpa [isTag] using ht
  obtain ⟨hb1, hb2⟩ := hb
  have hK : Hid (unK u = 2) := by show unK u = _; unfold unK unK0; rw [hk]; rfl
  have hN : Hid (unN u = wrap64 (wrap32 (u % 4294967296))) := by show unN u = _; unfold unN; rw [hK.out]; rw [if_pos rfl]
  have hT := Lib.hid ht; clear ht
  by_cases hE : boxE (2) (wrap64 (wrap32 (u % 4294967296))) = 0
  · by_cases hW : boxW (2) (wrap64 (wrap32 (u % 4294967296))) = u
    · have h3 : Hid (unE u = 0) := by show unE u = 0; simp [unE, hT.out, hK.out, hN.out, hE, hW]
      have h4 : Hid (unKind u = 2) := by show unKind u = _; simp [unKind, h3.out, hT.out, hK.out]
      have h5 : Hid (unNum u = wrap64 (wrap32 (u % 4294967296))) := by show unNum u = _; simp [unNum, h3.out, hT.out, hN.out]
      have HE : (boxE (2) (wrap64 (wrap32 (u % 4294967296))) != 0) = false := by simp [hE]
      have HW : (boxW (2) (wrap64 (wrap32 (u % 4294967296))) != u) = false := by simp [hW]
      clear hE hW
      go_enter Try.func62, Try.ntmps62
      go_wp2_with (go_at_call 31; refine (box_any _ _ _).mono ?_; rintro e w' ⟨rfl, hbw⟩; obtain ⟨hc, hf, hz⟩ := bcell hbw; have hB := below_call (B := w.heap.size) (w := w) hbw (by repeat' (first | (with_reducible exact Below.refl _ _) | (with_reducible assumption) | (with_reducible refine below_drewN ?_ _) | (with_reducible refine Below.drew ?_) | (with_reducible refine Below.alloc ?_ ?_ _) | (with_reducible refine Below.setCell ?_ ?_ _) | go_size)) (by simp; try omega); have hs0 : (w'.cell? ⟨w.heap.size, 0, none⟩).isSome = true := (by rw [hc _ _ (by simp; omega)]; simp [go_sem]); have hs1 : (w'.cell? ⟨w.heap.size, 1, none⟩).isSome = true := (by rw [hc _ _ (by simp; omega)]; simp [go_sem]); simp at hz)
      exact bodyPost_ret (v := .tuple #[.agg #[.int .i64 (2), .int .i64 (wrap64 (wrap32 (u % 4294967296)))], .int .i64 0]) (by simp [results, Try.results62, go_sem, *]) rfl ⟨ret_val h4.out.symm h5.out.symm h3.out.symm, (by repeat' (first | (with_reducible exact Below.refl _ _) | (with_reducible assumption) | (with_reducible refine below_drewN ?_ _) | (with_reducible refine Below.drew ?_) | (with_reducible refine Below.alloc ?_ ?_ _) | (with_reducible refine Below.setCell ?_ ?_ _) | go_size))⟩
    · have h3 : Hid (unE u = 3) := by show unE u = 3; simp [unE, hT.out, hK.out, hN.out, hW]
      have h4 : Hid (unKind u = 0) := by show unKind u = _; simp [unKind, h3.out]
      have h5 : Hid (unNum u = 0) := by show unNum u = _; simp [unNum, h3.out]
      have HE : (boxE (2) (wrap64 (wrap32 (u % 4294967296))) != 0) = false := by simp [hE]
      have HW : (boxW (2) (wrap64 (wrap32 (u % 4294967296))) != u) = true := by simp [hW]
      clear hE hW
      go_enter Try.func62, Try.ntmps62
      go_wp2_with (go_at_call 31; refine (box_any _ _ _).mono ?_; rintro e w' ⟨rfl, hbw⟩; obtain ⟨hc, hf, hz⟩ := bcell hbw; have hB := below_call (B := w.heap.size) (w := w) hbw (by repeat' (first | (with_reducible exact Below.refl _ _) | (with_reducible assumption) | (with_reducible refine below_drewN ?_ _) | (with_reducible refine Below.drew ?_) | (with_reducible refine Below.alloc ?_ ?_ _) | (with_reducible refine Below.setCell ?_ ?_ _) | go_size)) (by simp; try omega); have hs0 : (w'.cell? ⟨w.heap.size, 0, none⟩).isSome = true := (by rw [hc _ _ (by simp; omega)]; simp [go_sem]); have hs1 : (w'.cell? ⟨w.heap.size, 1, none⟩).isSome = true := (by rw [hc _ _ (by simp; omega)]; simp [go_sem]); simp at hz)
      exact bodyPost_ret (v := .tuple #[.agg #[.int .i64 (0), .int .i64 (0)], .int .i64 3]) (by simp [results, Try.results62, go_sem, *]) rfl ⟨ret_val h4.out.symm h5.out.symm h3.out.symm, (by repeat' (first | (with_reducible exact Below.refl _ _) | (with_reducible assumption) | (with_reducible refine below_drewN ?_ _) | (with_reducible refine Below.drew ?_) | (with_reducible refine Below.alloc ?_ ?_ _) | (with_reducible refine Below.setCell ?_ ?_ _) | go_size))⟩
  · have h3 : Hid (unE u = 3) := by show unE u = 3; simp [unE, hT.out, hK.out, hN.out, hE]
    have h4 : Hid (unKind u = 0) := by show unKind u = _; simp [unKind, h3.out]
    have h5 : Hid (unNum u = 0) := by show unNum u = _; simp [unNum, h3.out]
    have HE : (boxE (2) (wrap64 (wrap32 (u % 4294967296))) != 0) = true := by simp [hE]
    clear hE
    go_enter Try.func62, Try.ntmps62
    go_wp2_with (go_at_call 31; refine (box_any _ _ _).mono ?_; rintro e w' ⟨rfl, hbw⟩; obtain ⟨hc, hf, hz⟩ := bcell hbw; have hB := below_call (B := w.heap.size) (w := w) hbw (by repeat' (first | (with_reducible exact Below.refl _ _) | (with_reducible assumption) | (with_reducible refine below_drewN ?_ _) | (with_reducible refine Below.drew ?_) | (with_reducible refine Below.alloc ?_ ?_ _) | (with_reducible refine Below.setCell ?_ ?_ _) | go_size)) (by simp; try omega); have hs0 : (w'.cell? ⟨w.heap.size, 0, none⟩).isSome = true := (by rw [hc _ _ (by simp; omega)]; simp [go_sem]); have hs1 : (w'.cell? ⟨w.heap.size, 1, none⟩).isSome = true := (by rw [hc _ _ (by simp; omega)]; simp [go_sem]); simp at hz)
    exact bodyPost_ret (v := .tuple #[.agg #[.int .i64 (0), .int .i64 (0)], .int .i64 3]) (by simp [results, Try.results62, go_sem, *]) rfl ⟨ret_val h4.out.symm h5.out.symm h3.out.symm, (by repeat' (first | (with_reducible exact Below.refl _ _) | (with_reducible assumption) | (with_reducible refine below_drewN ?_ _) | (with_reducible refine Below.drew ?_) | (with_reducible refine Below.alloc ?_ ?_ _) | (with_reducible refine Below.setCell ?_ ?_ _) | go_size))⟩

set_option maxHeartbeats 1000000 in
theorem unbox_tag3 (u : Int) (w : World) (h0 : 0 ≤ u) (h1 : u < 18446744073709551616) (ht : isTag u = true) (hk : 65531 < u / 281474976710656) :
    Calls Try.prog 62 #[.int .u64 u] w fun e w' => e = .returned (.tuple #[.agg #[.int .i64 (unKind u), .int .i64 (unNum u)], .int .i64 (unE u)]) ∧ Below w.heap.size w w' := by
  have hb : 65529 ≤ u / 281474976710656 ∧ u / 281474976710656 ≤ 65534 := by simpa [isTag] using ht
  obtain ⟨hb1, hb2⟩ := hb
  have hK : Hid (unK u = u / 281474976710656 - 65529 + 1) := by show unK u = _; unfold unK unK0; rw [if_pos (by omega)]
  have hN : Hid (unN u = u % 4294967296) := by show unN u = _; unfold unN; rw [hK.out]; rw [if_neg (by omega)]
  have hT := Lib.hid ht; clear ht
  by_cases hE : boxE (u / 281474976710656 - 65529 + 1) (u % 4294967296) = 0
  · by_cases hW : boxW (u / 281474976710656 - 65529 + 1) (u % 4294967296) = u
    · have h3 : Hid (unE u = 0) := by show unE u = 0; simp [unE, hT.out, hK.out, hN.out, hE, hW]
      have h4 : Hid (unKind u = u / 281474976710656 - 65529 + 1) := by show unKind u = _; simp [unKind, h3.out, hT.out, hK.out]
      have h5 : Hid (unNum u = u % 4294967296) := by show unNum u = _; simp [unNum, h3.out, hT.out, hN.out]
      have HE : (boxE (u / 281474976710656 - 65529 + 1) (u % 4294967296) != 0) = false := by simp [hE]
      have HW : (boxW (u / 281474976710656 - 65529 + 1) (u % 4294967296) != u) = false := by simp [hW]
      clear hE hW
      go_enter Try.func62, Try.ntmps62
      go_wp2_with (go_at_call 31; refine (box_any _ _ _).mono ?_; rintro e w' ⟨rfl, hbw⟩; obtain ⟨hc, hf, hz⟩ := bcell hbw; have hB := below_call (B := w.heap.size) (w := w) hbw (by repeat' (first | (with_reducible exact Below.refl _ _) | (with_reducible assumption) | (with_reducible refine below_drewN ?_ _) | (with_reducible refine Below.drew ?_) | (with_reducible refine Below.alloc ?_ ?_ _) | (with_reducible refine Below.setCell ?_ ?_ _) | go_size)) (by simp; try omega); have hs0 : (w'.cell? ⟨w.heap.size, 0, none⟩).isSome = true := (by rw [hc _ _ (by simp; omega)]; simp [go_sem]); have hs1 : (w'.cell? ⟨w.heap.size, 1, none⟩).isSome = true := (by rw [hc _ _ (by simp; omega)]; simp [go_sem]); simp at hz)
      exact bodyPost_ret (v := .tuple #[.agg #[.int .i64 (u / 281474976710656 - 65529 + 1), .int .i64 (u % 4294967296)], .int .i64 0]) (by simp [results, Try.results62, go_sem, *]) rfl ⟨ret_val h4.out.symm h5.out.symm h3.out.symm, (by repeat' (first | (with_reducible exact Below.refl _ _) | (with_reducible assumption) | (with_reducible refine below_drewN ?_ _) | (with_reducible refine Below.drew ?_) | (with_reducible refine Below.alloc ?_ ?_ _) | (with_reducible refine Below.setCell ?_ ?_ _) | go_size))⟩
    · have h3 : Hid (unE u = 3) := by show unE u = 3; simp [unE, hT.out, hK.out, hN.out, hW]
      have h4 : Hid (unKind u = 0) := by show unKind u = _; simp [unKind, h3.out]
      have h5 : Hid (unNum u = 0) := by show unNum u = _; simp [unNum, h3.out]
      have HE : (boxE (u / 281474976710656 - 65529 + 1) (u % 4294967296) != 0) = false := by simp [hE]
      have HW : (boxW (u / 281474976710656 - 65529 + 1) (u % 4294967296) != u) = true := by simp [hW]
      clear hE hW
      go_enter Try.func62, Try.ntmps62
      go_wp2_with (go_at_call 31; refine (box_any _ _ _).mono ?_; rintro e w' ⟨rfl, hbw⟩; obtain ⟨hc, hf, hz⟩ := bcell hbw; have hB := below_call (B := w.heap.size) (w := w) hbw (by repeat' (first | (with_reducible exact Below.refl _ _) | (with_reducible assumption) | (with_reducible refine below_drewN ?_ _) | (with_reducible refine Below.drew ?_) | (with_reducible refine Below.alloc ?_ ?_ _) | (with_reducible refine Below.setCell ?_ ?_ _) | go_size)) (by simp; try omega); have hs0 : (w'.cell? ⟨w.heap.size, 0, none⟩).isSome = true := (by rw [hc _ _ (by simp; omega)]; simp [go_sem]); have hs1 : (w'.cell? ⟨w.heap.size, 1, none⟩).isSome = true := (by rw [hc _ _ (by simp; omega)]; simp [go_sem]); simp at hz)
      exact bodyPost_ret (v := .tuple #[.agg #[.int .i64 (0), .int .i64 (0)], .int .i64 3]) (by simp [results, Try.results62, go_sem, *]) rfl ⟨ret_val h4.out.symm h5.out.symm h3.out.symm, (by repeat' (first | (with_reducible exact Below.refl _ _) | (with_reducible assumption) | (with_reducible refine below_drewN ?_ _) | (with_reducible refine Below.drew ?_) | (with_reducible refine Below.alloc ?_ ?_ _) | (with_reducible refine Below.setCell ?_ ?_ _) | go_size))⟩
  · have h3 : Hid (unE u = 3) := by show unE u = 3; simp [unE, hT.out, hK.out, hN.out, hE]
    have h4 : Hid (unKind u = 0) := by show unKind u = _; simp [unKind, h3.out]
    have h5 : Hid (unNum u = 0) := by show unNum u = _; simp [unNum, h3.out]
    have HE : (boxE (u / 281474976710656 - 65529 + 1) (u % 4294967296) != 0) = true := by simp [hE]
    clear hE
    go_enter Try.func62, Try.ntmps62
    go_wp2_with (go_at_call 31; refine (box_any _ _ _).mono ?_; rintro e w' ⟨rfl, hbw⟩; obtain ⟨hc, hf, hz⟩ := bcell hbw; have hB := below_call (B := w.heap.size) (w := w) hbw (by repeat' (first | (with_reducible exact Below.refl _ _) | (with_reducible assumption) | (with_reducible refine below_drewN ?_ _) | (with_reducible refine Below.drew ?_) | (with_reducible refine Below.alloc ?_ ?_ _) | (with_reducible refine Below.setCell ?_ ?_ _) | go_size)) (by simp; try omega); have hs0 : (w'.cell? ⟨w.heap.size, 0, none⟩).isSome = true := (by rw [hc _ _ (by simp; omega)]; simp [go_sem]); have hs1 : (w'.cell? ⟨w.heap.size, 1, none⟩).isSome = true := (by rw [hc _ _ (by simp; omega)]; simp [go_sem]); simp at hz)
    exact bodyPost_ret (v := .tuple #[.agg #[.int .i64 (0), .int .i64 (0)], .int .i64 3]) (by simp [results, Try.results62, go_sem, *]) rfl ⟨ret_val h4.out.symm h5.out.symm h3.out.symm, (by repeat' (first | (with_reducible exact Below.refl _ _) | (with_reducible assumption) | (with_reducible refine below_drewN ?_ _) | (with_reducible refine Below.drew ?_) | (with_reducible refine Below.alloc ?_ ?_ _) | (with_reducible refine Below.setCell ?_ ?_ _) | go_size))⟩

theorem unbox_any (u : Int) (w : World) (h0 : 0 ≤ u) (h1 : u < 18446744073709551616) :
    Calls Try.prog 62 #[.int .u64 u] w fun e w' => e = .returned (.tuple #[.agg #[.int .i64 (unKind u), .int .i64 (unNum u)], .int .i64 (unE u)]) ∧ Below w.heap.size w w' := by
  cases ht : isTag u with
  | true =>
    by_cases hk : u / 281474976710656 = 65531
    · exact unbox_tag2 u w h0 h1 ht hk
    · by_cases hk2 : u / 281474976710656 < 65531
      · exact unbox_tag1 u w h0 h1 ht hk2
      · exact unbox_tag3 u w h0 h1 ht (by omega)
  | false =>
    cases hs : spoiltB u with
    | false => exact unbox_plain u w h0 h1 ht hs
    | true =>
      by_cases ho : u = 9221120237041090561
      · subst ho; exact unbox_odd w
      · exact unbox_spoilt u w h0 h1 ht hs (by simpa using ho)

def kindI (u : Int) : Int := if unE u = 0 then unKind u else -1
set_option maxHeartbeats 400000 in
theorem kind_any (u : Int) (w : World) (h0 : 0 ≤ u) (h1 : u < 18446744073709551616) :
    Calls Try.prog 59 #[.int .u64 u] w fun e w' => e = .returned (.int .i64 (kindI u)) ∧ Below w.heap.size w w' := by
  by_cases he : unE u = 0
  · have HK : Hid (kindI u = unKind u) := by show kindI u = _; simp [kindI, he]
    have HE : (unE u != 0) = false := by simp [he]
    clear he
    go_enter Try.func59, Try.ntmps59
    go_wp2_with (go_at_call 62; refine (unbox_any _ _ h0 h1).mono ?_; rintro e w' ⟨rfl, hbw⟩; have hB := below_call (B := w.heap.size) (w := w) hbw (by repeat' (first | (with_reducible exact Below.refl _ _) | (with_reducible assumption) | (with_reducible refine below_drewN ?_ _) | (with_reducible refine Below.drew ?_) | (with_reducible refine Below.alloc ?_ ?_ _) | (with_reducible refine Below.setCell ?_ ?_ _) | go_size)) (by simp); have hsz := hB.size)
    go_ret
    exact ⟨ret_int HK.out.symm, (by repeat' (first | (with_reducible exact Below.refl _ _) | (with_reducible assumption) | (with_reducible refine below_drewN ?_ _) | (with_reducible refine Below.drew ?_) | (with_reducible refine Below.alloc ?_ ?_ _) | (with_reducible refine Below.setCell ?_ ?_ _) | go_size))⟩
  · have HK : Hid (kindI u = -1) := by show kindI u = _; simp [kindI, he]
    have HE : (unE u != 0) = true := by simp [he]
    clear he
    go_enter Try.func59, Try.ntmps59
    go_wp2_with (go_at_call 62; refine (unbox_any _ _ h0 h1).mono ?_; rintro e w' ⟨rfl, hbw⟩; have hB := below_call (B := w.heap.size) (w := w) hbw (by repeat' (first | (with_reducible exact Below.refl _ _) | (with_reducible assumption) | (with_reducible refine below_drewN ?_ _) | (with_reducible refine Below.drew ?_) | (with_reducible refine Below.alloc ?_ ?_ _) | (with_reducible refine Below.setCell ?_ ?_ _) | go_size)) (by simp); have hsz := hB.size)
    go_ret
    exact ⟨ret_int HK.out.symm, (by repeat' (first | (with_reducible exact Below.refl _ _) | (with_reducible assumption) | (with_reducible refine below_drewN ?_ _) | (with_reducible refine Below.drew ?_) | (with_reducible refine Below.alloc ?_ ?_ _) | (with_reducible refine Below.setCell ?_ ?_ _) | go_size))⟩
end Go.Proofs.Ytpmmiaadfnildaa

namespace Go.Proofs.Ytpmmiaadfnildaa
open Go Go.RowKit
set_option linter.unusedVariables false
set_option linter.unusedSimpArgs false

def boxX (l : List (FuncId × Bool)) : CallT := fun f args fl h => match args with
  | [.agg [.val (.int .i64 k), .val (.int .i64 n)]] => if f = 31 then some (.tuple [.val (.int .u64 (boxW k n)), I64 (boxE k n)], h) else none
  | [.val (.int .u64 u)] => if f = 62 ∧ 0 ≤ u ∧ u < 18446744073709551616 then some (.tuple [.agg [I64 (unKind u), I64 (unNum u)], I64 (unE u)], h) else none
  | [] => constX l f [] fl h
  | _ => none
theorem ints_vr {m : Map} {k : IntKind} {n : Int} {v : Value} (h : VR m (.val (.int k n)) v) : v = .int k n := h.lit
theorem boxX_ok {l : List (FuncId × Bool)} (hc : CallOk Try.prog (constX l)) : CallOk Try.prog (boxX l) := by
  intro f args fl h v h' he
  unfold boxX at he
  split at he
  · rename_i k n
    split at he
    · rename_i hf
      subst hf
      injection he with he; injection he with e1 e2; subst e1; subst e2
      have hb : (Try.f31.body).isSome = true := by kernel_rfl
      obtain ⟨c, hc'⟩ := Option.isSome_iff_exists.1 hb
      refine ⟨⟨Try.f31, c, Try.func31, by kernel_rfl, hc'⟩, fun n0 B0 m w vals r hfl hv => ?_⟩
      have hvals : vals = #[.agg #[.int .i64 k, .int .i64 n]] := by
        obtain ⟨hl, hg⟩ := hv
        match hvl : vals.toList, hl, hg with
        | [x], _, hg =>
          have := hg 0 _ x rfl rfl
          obtain ⟨vs, rfl, h2⟩ := VRs.of_agg this
          match hvs : vs.toList, h2 with
          | [a, b], h2 =>
            have ha := ints_vr (h2.2 0 _ a rfl rfl)
            have hb := ints_vr (h2.2 1 _ b rfl rfl)
            subst ha; subst hb
            have e1 : vs = #[.int .i64 k, .int .i64 n] := by apply Array.ext'; simpa using hvs
            subst e1
            apply Array.ext'; simpa using hvl
          | [], h2 => have := h2.1; simp at this
          | [_], h2 => have := h2.1; simp at this
          | _ :: _ :: _ :: _, h2 => have := h2.1; simp at this
      subst hvals
      refine (box_any k n w).mono fun e W' hp => ?_
      obtain ⟨rfl, hbl⟩ := hp
      refine ⟨_, m, rfl, Post.below r hbl, ?_⟩
      exact VRs.tuple (vs := #[.int .u64 (boxW k n), .int .i64 (boxE k n)]) (.cons (.val rfl) (.cons (.val rfl) .nil))
    · cases he
  · rename_i u
    split at he
    · rename_i hf
      obtain ⟨hf, h0, h1⟩ := hf
      subst hf
      injection he with he; injection he with e1 e2; subst e1; subst e2
      have hb : (Try.f62.body).isSome = true := by kernel_rfl
      obtain ⟨c, hc'⟩ := Option.isSome_iff_exists.1 hb
      refine ⟨⟨Try.f62, c, Try.func62, by kernel_rfl, hc'⟩, fun n0 B0 m w vals r hfl hv => ?_⟩
      have hvals : vals = #[.int .u64 u] := by
        obtain ⟨hl, hg⟩ := hv
        match hvl : vals.toList, hl, hg with
        | [x], _, hg =>
          have hx := ints_vr (hg 0 _ x rfl rfl)
          subst hx
          apply Array.ext'; simpa using hvl
      subst hvals
      refine (unbox_any u w h0 h1).mono fun e W' hp => ?_
      obtain ⟨rfl, hbl⟩ := hp
      refine ⟨_, m, rfl, Post.below r hbl, ?_⟩
      refine VRs.tuple (vs := #[.agg #[.int .i64 (unKind u), .int .i64 (unNum u)], .int .i64 (unE u)]) (.cons ?_ (.cons (.val rfl) .nil))
      exact VRs.agg (vs := #[.int .i64 (unKind u), .int .i64 (unNum u)]) (.cons (.val rfl) (.cons (.val rfl) .nil))
    · cases he
  · exact hc _ _ _ _ _ _ he
  · cases he
variable {tb : List (FuncId × Bool)} {L : Nat → Bool} {H : ZH} {K : ZV → ZH → Prop}
theorem boxX_none {f : FuncId} {z : ZV} {zs : List ZV} (hf : f ≠ 31 ∧ f ≠ 62) : ∀ (args : List AV) (fl : Nat → Bool) (hp : Heap), args.length = (z :: zs).length → boxX tb f args fl hp = none := fun args fl hp ha => by
  unfold boxX
  split
  · rw [if_neg hf.1]
  · rw [if_neg (fun h => hf.2 h.1)]
  · simp at ha
  · rfl
theorem boxX_some {f : FuncId} {b : Bool} (h : tb.lookup f = some b) : ∀ (args : List AV) (fl : Nat → Bool) (hp : Heap), args.length = ([] : List ZV).length → boxX tb f args fl hp = some (.val (.bool b), hp) := fun args fl hp ha => by
  have : args = [] := List.eq_nil_of_length_eq_zero ha
  subst this
  simp [boxX, constX, h]
theorem box_z {k n : Int} (hK : K (.tuple [.val (.int .u64 (boxW k n)), Z64 (boxE k n)]) H) : ZC (boxX tb) (cFunc Try.prog) 31 [.agg [Z64 k, Z64 n]] L H K := by
  intro fl w args r e ha
  subst e
  obtain ⟨a, ha0, ha1⟩ := ha.get (i := 0) rfl
  obtain ⟨ys, rfl, hys⟩ := ha1.agg_inv
  have e1 : ys = [I64 k, I64 n] := by
    have h1 := hys.1
    match ys, h1, hys with
    | [x, y], _, hys => rw [(hys.2 0 _ x rfl rfl).val_inv, (hys.2 1 _ y rfl rfl).val_inv]
  have e2 : args = [.agg ys] := by
    have := ha.1
    match args, this, ha0 with
    | [x], _, hv0 => simp at hv0; rw [hv0]
  subst e1; subst e2
  refine AC.const (v := .tuple [.val (.int .u64 (boxW k n)), I64 (boxE k n)]) (h' := w.h) (by simp [boxX]) ⟨_, w, rfl, r, Ext.refl w, ?_, hK⟩
  exact ZRs.toTuple (.cons (.fr (.val _)) (.cons (.fr (.val _)) .nil))
theorem unbox_z {u : Int} (h0 : 0 ≤ u ∧ u < 18446744073709551616) (hK : K (.tuple [.agg [Z64 (unKind u), Z64 (unNum u)], Z64 (unE u)]) H) : ZC (boxX tb) (cFunc Try.prog) 62 [.val (.int .u64 u)] L H K := by
  intro fl w args r e ha
  subst e
  obtain ⟨a, ha0, ha1⟩ := ha.get (i := 0) rfl
  have ea := ha1.val_inv
  subst ea
  have e2 : args = [.val (.int .u64 u)] := by
    have := ha.1
    match args, this, ha0 with
    | [x], _, hv0 => simp at hv0; rw [hv0]
  subst e2
  refine AC.const (v := .tuple [.agg [I64 (unKind u), I64 (unNum u)], I64 (unE u)]) (h' := w.h) (by simp [boxX, h0]) ⟨_, w, rfl, r, Ext.refl w, ?_, hK⟩
  exact ZRs.toTuple (.cons (ZRs.toAgg (.cons (.fr (.val _)) (.cons (.fr (.val _)) .nil))) (.cons (.fr (.val _)) .nil))
end Go.Proofs.Ytpmmiaadfnildaa

namespace Go.Proofs.Ytpmmiaadfnildaa
open Go Go.RowKit
set_option linter.unusedVariables false
/-- backstitch/backstitchkeep3.WordsMore: its code in AM. -/
def c_l_wordsmore : ACode := .seq (.ops [⟨(some 3), .box 4 (.tmp 0), none, true⟩,
      ⟨(some 4), .box 2 (.tmp 1), none, true⟩,
      ⟨(some 5), .box 8 (.tmp 2), none, true⟩,
      ⟨(some 6), .mv (.av (.val (.bool false))), none, true⟩])
  (.seq (.seq (.ops [⟨(some 15), .call (.av (.func 13 [])) [], none, true⟩,
      ⟨(some 16), .un .not (.tmp 15), none, true⟩])
  (.cond (.tmp 16)
    (.seq (.ops [⟨(some 6), .mv (.av (.val (.bool false))), none, true⟩])
    (.ret))
    (.skip)))
  (.seq (.ops [⟨(some 18), .load (some 4) (.tmp 3), none, true⟩,
      ⟨(some 19), .call (.av (.func 14 [])) [(.tmp 18)], none, true⟩,
      ⟨(some 17), .mv (.tmp 19), none, true⟩,
      ⟨(some 20), .extract 0 (.tmp 17), none, true⟩,
      ⟨(some 21), .extract 1 (.tmp 17), none, true⟩,
      ⟨(some 7), .mv (.tmp 20), none, true⟩,
      ⟨(some 8), .mv (.tmp 21), none, true⟩])
  (.seq (.ops [⟨(some 22), .load (some 4) (.tmp 3), none, true⟩,
      ⟨(some 9), .zero [(.val (.int .i64 0)), (.val (.int .i64 0)), (.val (.slice none 0 0)), (.val (.slice none 0 0))], none, true⟩,
      ⟨none, .store 4 (.tmp 9) (.tmp 22), none, true⟩])
  (.seq (.ops [⟨(some 23), .fieldAddr 2 (.tmp 3), none, true⟩,
      ⟨(some 24), .load none (.tmp 23), none, true⟩,
      ⟨(some 25), .call (.av (.func 15 [])) [(.tmp 24)], none, false⟩,
      ⟨(some 26), .load (some 2) (.tmp 4), none, false⟩,
      ⟨(some 27), .lits 2 1 [(.val (.int .i64 0)), (.val (.int .i64 0))] [(0, 2, (.tmp 26))], none, true⟩,
      ⟨(some 28), .append 2 16 (.tmp 25) (.tmp 27), none, true⟩,
      ⟨(some 29), .fieldAddr 2 (.tmp 9), none, true⟩,
      ⟨none, .store 1 (.tmp 29) (.tmp 28), none, true⟩])
  (.seq (.ops [⟨(some 31), .load (some 4) (.tmp 9), none, true⟩,
      ⟨(some 32), .call (.av (.func 14 [])) [(.tmp 31)], none, true⟩,
      ⟨(some 30), .mv (.tmp 32), none, true⟩,
      ⟨(some 33), .extract 0 (.tmp 30), none, true⟩,
      ⟨(some 34), .extract 1 (.tmp 30), none, true⟩,
      ⟨(some 10), .mv (.tmp 33), none, true⟩,
      ⟨(some 11), .mv (.tmp 34), none, true⟩])
  (.seq (.ops [⟨(some 35), .load (some 4) (.tmp 3), none, true⟩,
      ⟨(some 12), .zero [(.val (.int .i64 0)), (.val (.int .i64 0)), (.val (.slice none 0 0)), (.val (.slice none 0 0))], none, true⟩,
      ⟨none, .store 4 (.tmp 12) (.tmp 35), none, true⟩])
  (.seq (.ops [⟨(some 36), .lits 8 0 [] [], none, true⟩,
      ⟨(some 37), .fieldAddr 3 (.tmp 3), none, true⟩,
      ⟨(some 38), .load none (.tmp 37), none, true⟩,
      ⟨(some 39), .append 8 96 (.tmp 36) (.tmp 38), none, false⟩,
      ⟨(some 40), .load (some 8) (.tmp 5), none, false⟩,
      ⟨(some 41), .lits 8 1 [(.val (.int .i64 0)), (.val (.int .i64 0)), (.val (.int .i64 0)), (.val (.int .i64 0)), (.val (.int .i64 0)), (.val (.int .i64 0)), (.val (.slice none 0 0)), (.val (.slice none 0 0))] [(0, 8, (.tmp 40))], none, true⟩,
      ⟨(some 42), .append 8 96 (.tmp 39) (.tmp 41), none, true⟩,
      ⟨(some 43), .fieldAddr 3 (.tmp 12), none, true⟩,
      ⟨none, .store 1 (.tmp 43) (.tmp 42), none, true⟩])
  (.seq (.ops [⟨(some 45), .load (some 4) (.tmp 12), none, true⟩,
      ⟨(some 46), .call (.av (.func 14 [])) [(.tmp 45)], none, true⟩,
      ⟨(some 44), .mv (.tmp 46), none, true⟩,
      ⟨(some 47), .extract 0 (.tmp 44), none, true⟩,
      ⟨(some 48), .extract 1 (.tmp 44), none, true⟩,
      ⟨(some 13), .mv (.tmp 47), none, true⟩,
      ⟨(some 14), .mv (.tmp 48), none, true⟩])
  (.seq (.seq (.ops [⟨(some 49), .mv (.tmp 8), none, true⟩,
      ⟨(some 50), .bin .neq (.tmp 49) (.av (.val (.int .i64 0))), none, true⟩])
  (.cond (.tmp 50)
    (.seq (.ops [⟨(some 51), .call (.av (.func 13 [])) [], none, true⟩,
        ⟨(some 6), .mv (.tmp 51), none, true⟩])
    (.ret))
    (.skip)))
  (.seq (.ops [⟨(some 52), .call (.av (.func 13 [])) [], none, true⟩,
      ⟨(some 53), .mv (.tmp 52), none, true⟩,
      ⟨(some 54), .mv (.tmp 11), (some (53, true)), true⟩,
      ⟨(some 55), .bin .neq (.tmp 54) (.av (.val (.int .i64 0))), (some (53, true)), true⟩,
      ⟨(some 56), .mv (.tmp 55), (some (53, true)), true⟩,
      ⟨(some 57), .mv (.tmp 10), (some (56, false)), true⟩,
      ⟨(some 58), .len (.tmp 57), (some (56, false)), true⟩,
      ⟨(some 59), .mv (.tmp 7), (some (56, false)), true⟩,
      ⟨(some 60), .len (.tmp 59), (some (56, false)), true⟩,
      ⟨(some 61), .bin .add (.tmp 60) (.av (.val (.int .i64 1))), (some (56, false)), true⟩,
      ⟨(some 62), .bin .eql (.tmp 58) (.tmp 61), (some (56, false)), true⟩,
      ⟨(some 63), .pick (.tmp 56) (.av (.val (.bool true))) (.tmp 62), (some (53, true)), true⟩,
      ⟨(some 64), .pick (.tmp 53) (.tmp 63) (.av (.val (.bool false))), none, true⟩,
      ⟨(some 65), .mv (.tmp 64), none, true⟩,
      ⟨(some 66), .mv (.tmp 14), (some (65, true)), true⟩,
      ⟨(some 67), .bin .neq (.tmp 66) (.av (.val (.int .i64 0))), (some (65, true)), true⟩,
      ⟨(some 68), .mv (.tmp 67), (some (65, true)), true⟩,
      ⟨(some 69), .mv (.tmp 13), (some (68, false)), true⟩,
      ⟨(some 70), .len (.tmp 69), (some (68, false)), true⟩,
      ⟨(some 71), .mv (.tmp 7), (some (68, false)), true⟩,
      ⟨(some 72), .len (.tmp 71), (some (68, false)), true⟩,
      ⟨(some 73), .bin .add (.tmp 72) (.av (.val (.int .i64 7))), (some (68, false)), true⟩,
      ⟨(some 74), .fieldAddr 6 (.tmp 5), (some (68, false)), true⟩,
      ⟨(some 75), .load none (.tmp 74), (some (68, false)), true⟩,
      ⟨(some 76), .len (.tmp 75), (some (68, false)), true⟩,
      ⟨(some 77), .bin .add (.tmp 73) (.tmp 76), (some (68, false)), true⟩,
      ⟨(some 78), .fieldAddr 7 (.tmp 5), (some (68, false)), true⟩,
      ⟨(some 79), .load none (.tmp 78), (some (68, false)), true⟩,
      ⟨(some 80), .len (.tmp 79), (some (68, false)), true⟩,
      ⟨(some 81), .bin .mul (.av (.val (.int .i64 2))) (.tmp 80), (some (68, false)), true⟩,
      ⟨(some 82), .bin .add (.tmp 77) (.tmp 81), (some (68, false)), true⟩,
      ⟨(some 83), .bin .eql (.tmp 70) (.tmp 82), (some (68, false)), true⟩,
      ⟨(some 84), .pick (.tmp 68) (.av (.val (.bool true))) (.tmp 83), (some (65, true)), true⟩,
      ⟨(some 85), .pick (.tmp 65) (.tmp 84) (.av (.val (.bool false))), none, true⟩,
      ⟨(some 6), .mv (.tmp 85), none, true⟩])
  (.ret)))))))))))
theorem f_l_wordsmore : cFunc Try.prog 3 = some ⟨86, c_l_wordsmore, [.tmp 6]⟩ := by kernel_rfl
/-- backstitch/words.Of: its code in AM. -/
def c_wo_of : ACode := .seq (.ops [⟨(some 1), .box 4 (.tmp 0), none, true⟩,
      ⟨(some 2), .mv (.av (.val (.slice none 0 0))), none, true⟩,
      ⟨(some 3), .mv (.av (.val (.int .i64 0))), none, true⟩])
  (.seq (.seq (.ops [⟨(some 5), .load (some 4) (.tmp 1), none, true⟩,
      ⟨(some 6), .call (.av (.func 32 [])) [(.tmp 5)], none, true⟩])
  (.cond (.tmp 6)
    (.seq (.ops [⟨(some 2), .mv (.av (.val (.slice none 0 0))), none, true⟩,
        ⟨(some 3), .mv (.av (.val (.int .i64 2))), none, true⟩])
    (.ret))
    (.skip)))
  (.seq (.ops [⟨(some 7), .build [(.val (.slice none 0 0)), (.val (.int .i64 0))] [], none, true⟩,
      ⟨(some 8), .box 2 (.tmp 7), none, true⟩,
      ⟨(some 4), .mv (.tmp 8), none, true⟩])
  (.seq (.seq (.ops [⟨(some 9), .mv (.tmp 4), none, true⟩,
      ⟨(some 10), .load (some 4) (.tmp 1), none, true⟩,
      ⟨(some 11), .call (.av (.func 33 [])) [(.tmp 9), (.tmp 10)], none, true⟩])
  (.seq (.ops [⟨(some 12), .mv (.tmp 4), none, true⟩,
      ⟨(some 13), .nilCheck (.tmp 12), none, true⟩,
      ⟨(some 14), .fieldAddr 1 (.tmp 13), none, true⟩,
      ⟨(some 15), .load none (.tmp 14), none, true⟩,
      ⟨(some 16), .bin .neq (.tmp 15) (.av (.val (.int .i64 0))), none, true⟩])
  (.cond (.tmp 16)
    (.seq (.ops [⟨(some 17), .mv (.tmp 4), none, true⟩,
        ⟨(some 18), .nilCheck (.tmp 17), none, true⟩,
        ⟨(some 19), .fieldAddr 1 (.tmp 18), none, true⟩,
        ⟨(some 20), .load none (.tmp 19), none, true⟩,
        ⟨(some 2), .mv (.av (.val (.slice none 0 0))), none, true⟩,
        ⟨(some 3), .mv (.tmp 20), none, true⟩])
    (.ret))
    (.skip))))
  (.seq (.ops [⟨(some 21), .mv (.tmp 4), none, true⟩,
      ⟨(some 22), .nilCheck (.tmp 21), none, true⟩,
      ⟨(some 23), .fieldAddr 0 (.tmp 22), none, true⟩,
      ⟨(some 24), .load none (.tmp 23), none, true⟩,
      ⟨(some 2), .mv (.tmp 24), none, true⟩,
      ⟨(some 3), .mv (.av (.val (.int .i64 0))), none, true⟩])
  (.ret)))))
theorem f_wo_of : cFunc Try.prog 14 = some ⟨25, c_wo_of, [.tmp 2, .tmp 3]⟩ := by kernel_rfl
/-- backstitch/backstitchref3.Copy[backstitch/api.Val]: its code in AM. -/
def c_r_copyval : ACode := .seq (.ops [⟨(some 2), .mv (.av (.val (.slice none 0 0))), none, true⟩])
  (.seq (.ops [⟨(some 3), .mv (.tmp 0), none, true⟩,
      ⟨(some 4), .append 2 16 (.av (.val (.slice none 0 0))) (.tmp 3), none, true⟩,
      ⟨(some 2), .mv (.tmp 4), none, true⟩])
  (.ret))
theorem f_r_copyval : cFunc Try.prog 15 = some ⟨5, c_r_copyval, [.tmp 2]⟩ := by kernel_rfl
/-- backstitch/words.Back: its code in AM. -/
def c_wo_back : ACode := .seq (.ops [⟨(some 2), .zero [(.val (.int .i64 0)), (.val (.int .i64 0)), (.val (.slice none 0 0)), (.val (.slice none 0 0))], none, true⟩,
      ⟨(some 3), .mv (.av (.val (.int .i64 0))), none, true⟩,
      ⟨(some 4), .mv (.av (.val (.int .i64 0))), none, true⟩])
  (.seq (.ops [⟨(some 7), .mv (.tmp 0), none, true⟩,
      ⟨(some 8), .build [(.val (.slice none 0 0)), (.val (.int .i64 0)), (.val (.bool false))] [(0, 1, (.tmp 7))], none, true⟩,
      ⟨(some 9), .box 3 (.tmp 8), none, true⟩,
      ⟨(some 5), .mv (.tmp 9), none, true⟩])
  (.seq (.ops [⟨(some 10), .mv (.tmp 5), none, true⟩,
      ⟨(some 11), .call (.av (.func 35 [])) [(.tmp 10)], none, true⟩,
      ⟨(some 6), .zero [(.val (.int .i64 0)), (.val (.int .i64 0)), (.val (.slice none 0 0)), (.val (.slice none 0 0))], none, true⟩,
      ⟨none, .store 4 (.tmp 6) (.tmp 11), none, true⟩])
  (.seq (.seq (.ops [⟨(some 12), .mv (.tmp 5), none, true⟩,
      ⟨(some 13), .nilCheck (.tmp 12), none, true⟩,
      ⟨(some 14), .fieldAddr 2 (.tmp 13), none, true⟩,
      ⟨(some 15), .load none (.tmp 14), none, true⟩])
  (.cond (.tmp 15)
    (.seq (.ops [⟨(some 16), .build [(.val (.int .i64 0)), (.val (.int .i64 0)), (.val (.slice none 0 0)), (.val (.slice none 0 0))] [], none, true⟩,
        ⟨none, .store 4 (.tmp 2) (.tmp 16), none, true⟩,
        ⟨(some 3), .mv (.av (.val (.int .i64 0))), none, true⟩,
        ⟨(some 4), .mv (.av (.val (.int .i64 3))), none, true⟩])
    (.ret))
    (.skip)))
  (.seq (.ops [⟨(some 17), .load (some 4) (.tmp 6), none, true⟩,
      ⟨(some 18), .mv (.tmp 5), none, true⟩,
      ⟨(some 19), .nilCheck (.tmp 18), none, true⟩,
      ⟨(some 20), .fieldAddr 1 (.tmp 19), none, true⟩,
      ⟨(some 21), .load none (.tmp 20), none, false⟩,
      ⟨none, .store 4 (.tmp 2) (.tmp 17), none, false⟩,
      ⟨(some 3), .mv (.tmp 21), none, true⟩,
      ⟨(some 4), .mv (.av (.val (.int .i64 0))), none, true⟩])
  (.ret)))))
theorem f_wo_back : cFunc Try.prog 18 = some ⟨22, c_wo_back, [.cell 2 (some 4), .tmp 3, .tmp 4]⟩ := by kernel_rfl
/-- backstitch/words.large: its code in AM. -/
def c_wo_large : ACode := .seq (.ops [⟨(some 1), .box 4 (.tmp 0), none, true⟩,
      ⟨(some 2), .mv (.av (.val (.bool false))), none, true⟩])
  (.seq (.seq (.ops [⟨(some 5), .fieldAddr 3 (.tmp 1), none, true⟩,
      ⟨(some 6), .load none (.tmp 5), none, true⟩,
      ⟨(some 7), .len (.tmp 6), none, true⟩,
      ⟨(some 8), .mv (.av (.val (.int .i64 0))), none, true⟩])
  (rangeCode 0 1 9 8 7 22
    (.seq (.ops [⟨(some 10), .indexAddr 8 (.tmp 6) (.tmp 8), none, true⟩,
        ⟨(some 11), .load (some 8) (.tmp 10), none, true⟩,
        ⟨(some 4), .zero [(.val (.int .i64 0)), (.val (.int .i64 0)), (.val (.int .i64 0)), (.val (.int .i64 0)), (.val (.int .i64 0)), (.val (.int .i64 0)), (.val (.slice none 0 0)), (.val (.slice none 0 0))], none, true⟩,
        ⟨none, .store 8 (.tmp 4) (.tmp 11), none, true⟩])
    (.seq (.ops [⟨(some 12), .fieldAddr 6 (.tmp 4), none, true⟩,
        ⟨(some 13), .load none (.tmp 12), none, true⟩,
        ⟨(some 14), .len (.tmp 13), none, true⟩,
        ⟨(some 15), .bin .gtr (.tmp 14) (.av (.val (.int .i64 60))), none, true⟩,
        ⟨(some 16), .mv (.tmp 15), none, true⟩,
        ⟨(some 17), .fieldAddr 7 (.tmp 4), (some (16, false)), true⟩,
        ⟨(some 18), .load none (.tmp 17), (some (16, false)), true⟩,
        ⟨(some 19), .len (.tmp 18), (some (16, false)), true⟩,
        ⟨(some 20), .bin .gtr (.tmp 19) (.av (.val (.int .i64 20))), (some (16, false)), true⟩,
        ⟨(some 21), .pick (.tmp 16) (.av (.val (.bool true))) (.tmp 20), none, true⟩])
    (.cond (.tmp 21)
      (.seq (.ops [⟨(some 2), .mv (.av (.val (.bool true))), none, true⟩])
      (.ret))
      (.skip))))))
  (.seq (.ops [⟨(some 23), .fieldAddr 2 (.tmp 1), none, true⟩,
      ⟨(some 24), .load none (.tmp 23), none, false⟩,
      ⟨(some 25), .len (.tmp 24), none, true⟩,
      ⟨(some 26), .fieldAddr 0 (.tmp 1), none, true⟩,
      ⟨(some 27), .load none (.tmp 26), none, true⟩,
      ⟨(some 28), .call (.av (.func 48 [])) [(.tmp 27)], none, false⟩,
      ⟨(some 29), .bin .gtr (.tmp 25) (.tmp 28), none, true⟩,
      ⟨(some 30), .mv (.tmp 29), none, true⟩,
      ⟨(some 31), .fieldAddr 3 (.tmp 1), (some (30, false)), true⟩,
      ⟨(some 32), .load none (.tmp 31), (some (30, false)), true⟩,
      ⟨(some 33), .len (.tmp 32), (some (30, false)), true⟩,
      ⟨(some 34), .bin .gtr (.tmp 33) (.av (.val (.int .i64 30))), (some (30, false)), true⟩,
      ⟨(some 35), .pick (.tmp 30) (.av (.val (.bool true))) (.tmp 34), none, true⟩,
      ⟨(some 2), .mv (.tmp 35), none, true⟩])
  (.ret)))
theorem f_wo_large : cFunc Try.prog 32 = some ⟨36, c_wo_large, [.tmp 2]⟩ := by kernel_rfl
/-- (*backstitch/words.writer).cell: its code in AM. -/
def c_wo_cell : ACode := .seq (.ops [⟨(some 3), .box 4 (.tmp 1), none, true⟩])
  (.seq (.ops [⟨(some 8), .mv (.tmp 0), none, true⟩,
      ⟨(some 9), .fieldAddr 0 (.tmp 3), none, true⟩,
      ⟨(some 10), .load none (.tmp 9), none, true⟩,
      ⟨(some 11), .fieldAddr 1 (.tmp 3), none, true⟩,
      ⟨(some 12), .load none (.tmp 11), none, true⟩,
      ⟨(some 13), .lits 1 2 [(.val (.int .i64 0)), (.val (.int .i64 0))] [(0, 1, (.tmp 10)), (1, 1, (.tmp 12))], none, true⟩,
      ⟨(some 14), .call (.av (.func 49 [])) [(.tmp 8), (.tmp 13)], none, true⟩])
  (.seq (.ops [⟨(some 15), .mv (.tmp 0), none, true⟩,
      ⟨(some 16), .fieldAddr 2 (.tmp 3), none, true⟩,
      ⟨(some 17), .load none (.tmp 16), none, true⟩,
      ⟨(some 18), .call (.av (.func 50 [])) [(.tmp 15), (.tmp 17)], none, true⟩])
  (.seq (.ops [⟨(some 19), .mv (.tmp 0), none, true⟩,
      ⟨(some 20), .fieldAddr 3 (.tmp 3), none, true⟩,
      ⟨(some 21), .load none (.tmp 20), none, true⟩,
      ⟨(some 22), .len (.tmp 21), none, true⟩,
      ⟨(some 23), .lits 1 1 [(.val (.int .i64 0))] [(0, 1, (.tmp 22))], none, true⟩,
      ⟨(some 24), .call (.av (.func 49 [])) [(.tmp 19), (.tmp 23)], none, true⟩])
  (.seq (.ops [⟨(some 25), .fieldAddr 3 (.tmp 3), none, true⟩,
      ⟨(some 26), .load none (.tmp 25), none, true⟩,
      ⟨(some 27), .len (.tmp 26), none, true⟩,
      ⟨(some 28), .mv (.av (.val (.int .i64 0))), none, true⟩])
  (rangeCode 0 1 29 28 27 72
    (.seq (.ops [⟨(some 30), .indexAddr 8 (.tmp 26) (.tmp 28), none, true⟩,
        ⟨(some 31), .load (some 8) (.tmp 30), none, true⟩,
        ⟨(some 5), .zero [(.val (.int .i64 0)), (.val (.int .i64 0)), (.val (.int .i64 0)), (.val (.int .i64 0)), (.val (.int .i64 0)), (.val (.int .i64 0)), (.val (.slice none 0 0)), (.val (.slice none 0 0))], none, true⟩,
        ⟨none, .store 8 (.tmp 5) (.tmp 31), none, true⟩])
    (.seq (.ops [⟨(some 32), .mv (.tmp 0), none, true⟩,
        ⟨(some 33), .fieldAddr 0 (.tmp 5), none, true⟩,
        ⟨(some 34), .load none (.tmp 33), none, true⟩,
        ⟨(some 35), .fieldAddr 1 (.tmp 5), none, true⟩,
        ⟨(some 36), .load none (.tmp 35), none, true⟩,
        ⟨(some 37), .fieldAddr 2 (.tmp 5), none, true⟩,
        ⟨(some 38), .load none (.tmp 37), none, true⟩,
        ⟨(some 39), .fieldAddr 3 (.tmp 5), none, true⟩,
        ⟨(some 40), .load none (.tmp 39), none, true⟩,
        ⟨(some 41), .lits 1 4 [(.val (.int .i64 0)), (.val (.int .i64 0)), (.val (.int .i64 0)), (.val (.int .i64 0))] [(0, 1, (.tmp 34)), (1, 1, (.tmp 36)), (2, 1, (.tmp 38)), (3, 1, (.tmp 40))], none, true⟩,
        ⟨(some 42), .call (.av (.func 49 [])) [(.tmp 32), (.tmp 41)], none, true⟩])
    (.seq (.ops [⟨(some 43), .mv (.tmp 0), none, true⟩,
        ⟨(some 44), .fieldAddr 4 (.tmp 5), none, true⟩,
        ⟨(some 45), .load (some 2) (.tmp 44), none, true⟩,
        ⟨(some 46), .call (.av (.func 51 [])) [(.tmp 43), (.tmp 45)], none, true⟩])
    (.seq (.ops [⟨(some 47), .mv (.tmp 0), none, true⟩,
        ⟨(some 48), .fieldAddr 6 (.tmp 5), none, true⟩,
        ⟨(some 49), .load none (.tmp 48), none, true⟩,
        ⟨(some 50), .call (.av (.func 50 [])) [(.tmp 47), (.tmp 49)], none, true⟩])
    (.seq (.ops [⟨(some 51), .mv (.tmp 0), none, true⟩,
        ⟨(some 52), .fieldAddr 7 (.tmp 5), none, true⟩,
        ⟨(some 53), .load none (.tmp 52), none, true⟩,
        ⟨(some 54), .len (.tmp 53), none, true⟩,
        ⟨(some 55), .lits 1 1 [(.val (.int .i64 0))] [(0, 1, (.tmp 54))], none, true⟩,
        ⟨(some 56), .call (.av (.func 49 [])) [(.tmp 51), (.tmp 55)], none, true⟩])
    (.seq (.ops [⟨(some 57), .fieldAddr 7 (.tmp 5), none, true⟩,
        ⟨(some 58), .load none (.tmp 57), none, true⟩,
        ⟨(some 59), .len (.tmp 58), none, true⟩,
        ⟨(some 60), .mv (.av (.val (.int .i64 0))), none, true⟩])
    (rangeCode 2 3 61 60 59 71
      (.seq (.ops [⟨(some 62), .indexAddr 2 (.tmp 58) (.tmp 60), none, true⟩,
          ⟨(some 63), .load (some 2) (.tmp 62), none, true⟩,
          ⟨(some 7), .zero [(.val (.int .i64 0)), (.val (.int .i64 0))], none, true⟩,
          ⟨none, .store 2 (.tmp 7) (.tmp 63), none, true⟩])
      (.ops [⟨(some 64), .mv (.tmp 0), none, true⟩,
          ⟨(some 65), .fieldAddr 0 (.tmp 7), none, true⟩,
          ⟨(some 66), .load none (.tmp 65), none, true⟩,
          ⟨(some 67), .fieldAddr 1 (.tmp 7), none, true⟩,
          ⟨(some 68), .load none (.tmp 67), none, true⟩,
          ⟨(some 69), .lits 1 2 [(.val (.int .i64 0)), (.val (.int .i64 0))] [(0, 1, (.tmp 66)), (1, 1, (.tmp 68))], none, true⟩,
          ⟨(some 70), .call (.av (.func 49 [])) [(.tmp 64), (.tmp 69)], none, true⟩]))))))))))))))
theorem f_wo_cell : cFunc Try.prog 33 = some ⟨73, c_wo_cell, []⟩ := by kernel_rfl
/-- (*backstitch/words.reader).cell: its code in AM. -/
def c_wo_rcell : ACode := .seq (.ops [⟨(some 2), .zero [(.val (.int .i64 0)), (.val (.int .i64 0)), (.val (.slice none 0 0)), (.val (.slice none 0 0))], none, true⟩])
  (.seq (.ops [⟨(some 5), .mv (.tmp 0), none, true⟩,
      ⟨(some 6), .call (.av (.func 52 [])) [(.tmp 5)], none, true⟩,
      ⟨(some 7), .mv (.tmp 0), none, true⟩,
      ⟨(some 8), .call (.av (.func 52 [])) [(.tmp 7)], none, true⟩,
      ⟨(some 9), .build [(.val (.int .i64 0)), (.val (.int .i64 0)), (.val (.slice none 0 0)), (.val (.slice none 0 0))] [(0, 1, (.tmp 6)), (1, 1, (.tmp 8))], none, true⟩,
      ⟨(some 3), .zero [(.val (.int .i64 0)), (.val (.int .i64 0)), (.val (.slice none 0 0)), (.val (.slice none 0 0))], none, true⟩,
      ⟨none, .store 4 (.tmp 3) (.tmp 9), none, true⟩])
  (.seq (.ops [⟨(some 10), .mv (.tmp 0), none, true⟩,
      ⟨(some 11), .fieldAddr 0 (.tmp 3), none, true⟩,
      ⟨(some 12), .load none (.tmp 11), none, true⟩,
      ⟨(some 13), .call (.av (.func 48 [])) [(.tmp 12)], none, true⟩,
      ⟨(some 14), .call (.av (.func 53 [])) [(.tmp 10), (.tmp 13)], none, true⟩,
      ⟨(some 15), .fieldAddr 2 (.tmp 3), none, true⟩,
      ⟨none, .store 1 (.tmp 15) (.tmp 14), none, true⟩])
  (.seq (.seq (.ops [⟨(some 16), .mv (.tmp 0), none, true⟩,
      ⟨(some 17), .call (.av (.func 38 [])) [(.tmp 16), (.av (.val (.int .i64 30)))], none, true⟩,
      ⟨(some 4), .mv (.tmp 17), none, true⟩])
  (.block 0 (.loop (.seq (.seq (.ops [⟨(some 18), .mv (.tmp 4), none, true⟩,
        ⟨(some 19), .bin .gtr (.tmp 18) (.av (.val (.int .i64 0))), none, true⟩,
        ⟨(some 20), .mv (.tmp 19), none, true⟩,
        ⟨(some 21), .mv (.tmp 0), (some (20, true)), true⟩,
        ⟨(some 22), .nilCheck (.tmp 21), (some (20, true)), true⟩,
        ⟨(some 23), .fieldAddr 2 (.tmp 22), (some (20, true)), true⟩,
        ⟨(some 24), .load none (.tmp 23), (some (20, true)), true⟩,
        ⟨(some 25), .un .not (.tmp 24), (some (20, true)), true⟩,
        ⟨(some 26), .pick (.tmp 20) (.tmp 25) (.av (.val (.bool false))), none, true⟩])
    (.cond (.tmp 26)
      (.skip)
      (.exit 0)))
    (.seq (.block 1 (.ops [⟨(some 29), .fieldAddr 3 (.tmp 3), none, true⟩,
         ⟨(some 30), .load none (.tmp 29), none, false⟩,
         ⟨(some 31), .mv (.tmp 0), none, true⟩,
         ⟨(some 32), .call (.av (.func 54 [])) [(.tmp 31)], none, false⟩,
         ⟨(some 33), .lits 8 1 [(.val (.int .i64 0)), (.val (.int .i64 0)), (.val (.int .i64 0)), (.val (.int .i64 0)), (.val (.int .i64 0)), (.val (.int .i64 0)), (.val (.slice none 0 0)), (.val (.slice none 0 0))] [(0, 8, (.tmp 32))], none, true⟩,
         ⟨(some 34), .append 8 96 (.tmp 30) (.tmp 33), none, true⟩,
         ⟨(some 35), .fieldAddr 3 (.tmp 3), none, true⟩,
         ⟨none, .store 1 (.tmp 35) (.tmp 34), none, true⟩]))
    (.ops [⟨(some 27), .mv (.tmp 4), none, true⟩,
        ⟨(some 28), .bin .sub (.tmp 27) (.av (.val (.int .i64 1))), none, true⟩,
        ⟨(some 4), .mv (.tmp 28), none, true⟩]))))))
  (.seq (.ops [⟨(some 36), .load (some 4) (.tmp 3), none, true⟩,
      ⟨none, .store 4 (.tmp 2) (.tmp 36), none, true⟩])
  (.ret)))))
theorem f_wo_rcell : cFunc Try.prog 35 = some ⟨37, c_wo_rcell, [.cell 2 (some 4)]⟩ := by kernel_rfl
/-- (*backstitch/words.reader).many: its code in AM. -/
def c_wo_many : ACode := .seq (.ops [⟨(some 4), .mv (.av (.val (.int .i64 0))), none, true⟩])
  (.seq (.ops [⟨(some 6), .mv (.tmp 0), none, true⟩,
      ⟨(some 7), .call (.av (.func 52 [])) [(.tmp 6)], none, true⟩,
      ⟨(some 5), .mv (.tmp 7), none, true⟩])
  (.seq (.seq (.ops [⟨(some 8), .mv (.tmp 5), none, true⟩,
      ⟨(some 9), .bin .lss (.tmp 8) (.av (.val (.int .i64 0))), none, true⟩,
      ⟨(some 10), .mv (.tmp 9), none, true⟩,
      ⟨(some 11), .mv (.tmp 5), (some (10, false)), true⟩,
      ⟨(some 12), .mv (.tmp 1), (some (10, false)), true⟩,
      ⟨(some 13), .bin .gtr (.tmp 11) (.tmp 12), (some (10, false)), true⟩,
      ⟨(some 14), .pick (.tmp 10) (.av (.val (.bool true))) (.tmp 13), none, true⟩])
  (.cond (.tmp 14)
    (.seq (.ops [⟨(some 15), .mv (.tmp 0), none, true⟩,
        ⟨(some 16), .nilCheck (.tmp 15), none, true⟩,
        ⟨(some 17), .fieldAddr 2 (.tmp 16), none, true⟩,
        ⟨none, .store 1 (.tmp 17) (.av (.val (.bool true))), none, true⟩])
    (.seq (.ops [⟨(some 4), .mv (.av (.val (.int .i64 0))), none, true⟩])
    (.ret)))
    (.skip)))
  (.seq (.ops [⟨(some 18), .mv (.tmp 5), none, true⟩,
      ⟨(some 4), .mv (.tmp 18), none, true⟩])
  (.ret))))
theorem f_wo_many : cFunc Try.prog 38 = some ⟨19, c_wo_many, [.tmp 4]⟩ := by kernel_rfl
/-- backstitch/words.most: its code in AM. -/
def c_wo_most : ACode := .seq (.ops [⟨(some 2), .mv (.av (.val (.int .i64 0))), none, true⟩])
  (.seq (.seq (.ops [⟨(some 3), .mv (.tmp 0), none, true⟩,
      ⟨(some 4), .bin .eql (.tmp 3) (.av (.val (.int .i64 7))), none, true⟩])
  (.cond (.tmp 4)
    (.seq (.ops [⟨(some 2), .mv (.av (.val (.int .i64 600))), none, true⟩])
    (.ret))
    (.skip)))
  (.seq (.ops [⟨(some 2), .mv (.av (.val (.int .i64 100))), none, true⟩])
  (.ret)))
theorem f_wo_most : cFunc Try.prog 48 = some ⟨5, c_wo_most, [.tmp 2]⟩ := by kernel_rfl
/-- (*backstitch/words.writer).numbers: its code in AM. -/
def c_wo_numbers : ACode := .seq (.ops [⟨(some 6), .mv (.tmp 1), none, true⟩,
      ⟨(some 7), .len (.tmp 6), none, true⟩,
      ⟨(some 8), .mv (.av (.val (.int .i64 0))), none, true⟩])
  (rangeCode 0 1 9 8 7 23
    (.seq (.ops [⟨(some 10), .indexAddr 1 (.tmp 6) (.tmp 8), none, true⟩,
        ⟨(some 11), .load none (.tmp 10), none, true⟩,
        ⟨(some 5), .mv (.tmp 11), none, true⟩])
    (.ops [⟨(some 12), .mv (.tmp 0), none, true⟩,
        ⟨(some 13), .mv (.tmp 0), none, true⟩,
        ⟨(some 14), .nilCheck (.tmp 13), none, true⟩,
        ⟨(some 15), .fieldAddr 0 (.tmp 14), none, true⟩,
        ⟨(some 16), .load none (.tmp 15), none, true⟩,
        ⟨(some 17), .mv (.tmp 5), none, true⟩,
        ⟨(some 18), .conv .u64 (.tmp 17), none, true⟩,
        ⟨(some 19), .lits 1 1 [(.val (.int .u64 0))] [(0, 1, (.tmp 18))], none, true⟩,
        ⟨(some 20), .append 1 8 (.tmp 16) (.tmp 19), none, true⟩,
        ⟨(some 21), .nilCheck (.tmp 12), none, true⟩,
        ⟨(some 22), .fieldAddr 0 (.tmp 21), none, true⟩,
        ⟨none, .store 1 (.tmp 22) (.tmp 20), none, true⟩])))
theorem f_wo_numbers : cFunc Try.prog 49 = some ⟨24, c_wo_numbers, []⟩ := by kernel_rfl
/-- (*backstitch/words.writer).values: its code in AM. -/
def c_wo_values : ACode := .seq (.ops [⟨(some 6), .mv (.tmp 0), none, true⟩,
      ⟨(some 7), .mv (.tmp 1), none, true⟩,
      ⟨(some 8), .len (.tmp 7), none, true⟩,
      ⟨(some 9), .lits 1 1 [(.val (.int .i64 0))] [(0, 1, (.tmp 8))], none, true⟩,
      ⟨(some 10), .call (.av (.func 49 [])) [(.tmp 6), (.tmp 9)], none, true⟩])
  (.seq (.ops [⟨(some 11), .mv (.tmp 1), none, true⟩,
      ⟨(some 12), .len (.tmp 11), none, true⟩,
      ⟨(some 13), .mv (.av (.val (.int .i64 0))), none, true⟩])
  (rangeCode 0 1 14 13 12 20
    (.seq (.ops [⟨(some 15), .indexAddr 2 (.tmp 11) (.tmp 13), none, true⟩,
        ⟨(some 16), .load (some 2) (.tmp 15), none, true⟩,
        ⟨(some 5), .zero [(.val (.int .i64 0)), (.val (.int .i64 0))], none, true⟩,
        ⟨none, .store 2 (.tmp 5) (.tmp 16), none, true⟩])
    (.ops [⟨(some 17), .mv (.tmp 0), none, true⟩,
        ⟨(some 18), .load (some 2) (.tmp 5), none, true⟩,
        ⟨(some 19), .call (.av (.func 51 [])) [(.tmp 17), (.tmp 18)], none, true⟩]))))
theorem f_wo_values : cFunc Try.prog 50 = some ⟨21, c_wo_values, []⟩ := by kernel_rfl
/-- (*backstitch/words.writer).value: its code in AM. -/
def c_wo_value : ACode := .seq (.ops [⟨(some 3), .box 2 (.tmp 1), none, true⟩])
  (.seq (.ops [⟨(some 7), .load (some 2) (.tmp 3), none, true⟩,
      ⟨(some 8), .call (.av (.func 31 [])) [(.tmp 7)], none, true⟩,
      ⟨(some 6), .mv (.tmp 8), none, true⟩,
      ⟨(some 9), .extract 0 (.tmp 6), none, true⟩,
      ⟨(some 10), .extract 1 (.tmp 6), none, true⟩,
      ⟨(some 4), .mv (.tmp 9), none, true⟩,
      ⟨(some 5), .mv (.tmp 10), none, true⟩])
  (.seq (.seq (.ops [⟨(some 11), .mv (.tmp 0), none, true⟩,
      ⟨(some 12), .nilCheck (.tmp 11), none, true⟩,
      ⟨(some 13), .fieldAddr 1 (.tmp 12), none, true⟩,
      ⟨(some 14), .load none (.tmp 13), none, true⟩,
      ⟨(some 15), .bin .eql (.tmp 14) (.av (.val (.int .i64 0))), none, true⟩])
  (.cond (.tmp 15)
    (.ops [⟨(some 16), .mv (.tmp 0), none, true⟩,
        ⟨(some 17), .mv (.tmp 5), none, true⟩,
        ⟨(some 18), .nilCheck (.tmp 16), none, true⟩,
        ⟨(some 19), .fieldAddr 1 (.tmp 18), none, true⟩,
        ⟨none, .store 1 (.tmp 19) (.tmp 17), none, true⟩])
    (.skip)))
  (.ops [⟨(some 20), .mv (.tmp 0), none, true⟩,
      ⟨(some 21), .mv (.tmp 0), none, true⟩,
      ⟨(some 22), .nilCheck (.tmp 21), none, true⟩,
      ⟨(some 23), .fieldAddr 0 (.tmp 22), none, true⟩,
      ⟨(some 24), .load none (.tmp 23), none, true⟩,
      ⟨(some 25), .mv (.tmp 4), none, true⟩,
      ⟨(some 26), .lits 1 1 [(.val (.int .u64 0))] [(0, 1, (.tmp 25))], none, true⟩,
      ⟨(some 27), .append 1 8 (.tmp 24) (.tmp 26), none, true⟩,
      ⟨(some 28), .nilCheck (.tmp 20), none, true⟩,
      ⟨(some 29), .fieldAddr 0 (.tmp 28), none, true⟩,
      ⟨none, .store 1 (.tmp 29) (.tmp 27), none, true⟩])))
theorem f_wo_value : cFunc Try.prog 51 = some ⟨30, c_wo_value, []⟩ := by kernel_rfl
/-- (*backstitch/words.reader).number: its code in AM. -/
def c_wo_number : ACode := .seq (.ops [⟨(some 2), .mv (.av (.val (.int .i64 0))), none, true⟩])
  (.seq (.ops [⟨(some 3), .mv (.tmp 0), none, true⟩,
      ⟨(some 4), .call (.av (.func 60 [])) [(.tmp 3)], none, true⟩,
      ⟨(some 5), .conv .i64 (.tmp 4), none, true⟩,
      ⟨(some 2), .mv (.tmp 5), none, true⟩])
  (.ret))
theorem f_wo_number : cFunc Try.prog 52 = some ⟨6, c_wo_number, [.tmp 2]⟩ := by kernel_rfl
/-- (*backstitch/words.reader).values: its code in AM. -/
def c_wo_rvalues : ACode := .seq (.ops [⟨(some 4), .mv (.av (.val (.slice none 0 0))), none, true⟩])
  (.seq (.ops [⟨(some 5), .mv (.av (.val (.slice none 0 0))), none, true⟩])
  (.seq (.seq (.ops [⟨(some 7), .mv (.tmp 0), none, true⟩,
      ⟨(some 8), .mv (.tmp 1), none, true⟩,
      ⟨(some 9), .call (.av (.func 38 [])) [(.tmp 7), (.tmp 8)], none, true⟩,
      ⟨(some 6), .mv (.tmp 9), none, true⟩])
  (.block 0 (.loop (.seq (.seq (.ops [⟨(some 10), .mv (.tmp 6), none, true⟩,
        ⟨(some 11), .bin .gtr (.tmp 10) (.av (.val (.int .i64 0))), none, true⟩,
        ⟨(some 12), .mv (.tmp 11), none, true⟩,
        ⟨(some 13), .mv (.tmp 0), (some (12, true)), true⟩,
        ⟨(some 14), .nilCheck (.tmp 13), (some (12, true)), true⟩,
        ⟨(some 15), .fieldAddr 2 (.tmp 14), (some (12, true)), true⟩,
        ⟨(some 16), .load none (.tmp 15), (some (12, true)), true⟩,
        ⟨(some 17), .un .not (.tmp 16), (some (12, true)), true⟩,
        ⟨(some 18), .pick (.tmp 12) (.tmp 17) (.av (.val (.bool false))), none, true⟩])
    (.cond (.tmp 18)
      (.skip)
      (.exit 0)))
    (.seq (.block 1 (.ops [⟨(some 21), .mv (.tmp 5), none, true⟩,
         ⟨(some 22), .mv (.tmp 0), none, true⟩,
         ⟨(some 23), .call (.av (.func 61 [])) [(.tmp 22)], none, true⟩,
         ⟨(some 24), .lits 2 1 [(.val (.int .i64 0)), (.val (.int .i64 0))] [(0, 2, (.tmp 23))], none, true⟩,
         ⟨(some 25), .append 2 16 (.tmp 21) (.tmp 24), none, true⟩,
         ⟨(some 5), .mv (.tmp 25), none, true⟩]))
    (.ops [⟨(some 19), .mv (.tmp 6), none, true⟩,
        ⟨(some 20), .bin .sub (.tmp 19) (.av (.val (.int .i64 1))), none, true⟩,
        ⟨(some 6), .mv (.tmp 20), none, true⟩]))))))
  (.seq (.ops [⟨(some 26), .mv (.tmp 5), none, true⟩,
      ⟨(some 4), .mv (.tmp 26), none, true⟩])
  (.ret))))
theorem f_wo_rvalues : cFunc Try.prog 53 = some ⟨27, c_wo_rvalues, [.tmp 4]⟩ := by kernel_rfl
/-- (*backstitch/words.reader).frame: its code in AM. -/
def c_wo_rframe : ACode := .seq (.ops [⟨(some 2), .zero [(.val (.int .i64 0)), (.val (.int .i64 0)), (.val (.int .i64 0)), (.val (.int .i64 0)), (.val (.int .i64 0)), (.val (.int .i64 0)), (.val (.slice none 0 0)), (.val (.slice none 0 0))], none, true⟩])
  (.seq (.ops [⟨(some 5), .mv (.tmp 0), none, true⟩,
      ⟨(some 6), .call (.av (.func 52 [])) [(.tmp 5)], none, true⟩,
      ⟨(some 7), .mv (.tmp 0), none, true⟩,
      ⟨(some 8), .call (.av (.func 52 [])) [(.tmp 7)], none, true⟩,
      ⟨(some 9), .mv (.tmp 0), none, true⟩,
      ⟨(some 10), .call (.av (.func 52 [])) [(.tmp 9)], none, true⟩,
      ⟨(some 11), .mv (.tmp 0), none, true⟩,
      ⟨(some 12), .call (.av (.func 52 [])) [(.tmp 11)], none, true⟩,
      ⟨(some 13), .build [(.val (.int .i64 0)), (.val (.int .i64 0)), (.val (.int .i64 0)), (.val (.int .i64 0)), (.val (.int .i64 0)), (.val (.int .i64 0)), (.val (.slice none 0 0)), (.val (.slice none 0 0))] [(0, 1, (.tmp 6)), (1, 1, (.tmp 8)), (2, 1, (.tmp 10)), (3, 1, (.tmp 12))], none, true⟩,
      ⟨(some 3), .zero [(.val (.int .i64 0)), (.val (.int .i64 0)), (.val (.int .i64 0)), (.val (.int .i64 0)), (.val (.int .i64 0)), (.val (.int .i64 0)), (.val (.slice none 0 0)), (.val (.slice none 0 0))], none, true⟩,
      ⟨none, .store 8 (.tmp 3) (.tmp 13), none, true⟩])
  (.seq (.ops [⟨(some 14), .mv (.tmp 0), none, true⟩,
      ⟨(some 15), .call (.av (.func 61 [])) [(.tmp 14)], none, true⟩,
      ⟨(some 16), .fieldAddr 4 (.tmp 3), none, true⟩,
      ⟨none, .store 2 (.tmp 16) (.tmp 15), none, true⟩])
  (.seq (.ops [⟨(some 17), .mv (.tmp 0), none, true⟩,
      ⟨(some 18), .call (.av (.func 53 [])) [(.tmp 17), (.av (.val (.int .i64 60)))], none, true⟩,
      ⟨(some 19), .fieldAddr 6 (.tmp 3), none, true⟩,
      ⟨none, .store 1 (.tmp 19) (.tmp 18), none, true⟩])
  (.seq (.seq (.ops [⟨(some 20), .mv (.tmp 0), none, true⟩,
      ⟨(some 21), .call (.av (.func 38 [])) [(.tmp 20), (.av (.val (.int .i64 20)))], none, true⟩,
      ⟨(some 4), .mv (.tmp 21), none, true⟩])
  (.block 0 (.loop (.seq (.seq (.ops [⟨(some 22), .mv (.tmp 4), none, true⟩,
        ⟨(some 23), .bin .gtr (.tmp 22) (.av (.val (.int .i64 0))), none, true⟩,
        ⟨(some 24), .mv (.tmp 23), none, true⟩,
        ⟨(some 25), .mv (.tmp 0), (some (24, true)), true⟩,
        ⟨(some 26), .nilCheck (.tmp 25), (some (24, true)), true⟩,
        ⟨(some 27), .fieldAddr 2 (.tmp 26), (some (24, true)), true⟩,
        ⟨(some 28), .load none (.tmp 27), (some (24, true)), true⟩,
        ⟨(some 29), .un .not (.tmp 28), (some (24, true)), true⟩,
        ⟨(some 30), .pick (.tmp 24) (.tmp 29) (.av (.val (.bool false))), none, true⟩])
    (.cond (.tmp 30)
      (.skip)
      (.exit 0)))
    (.seq (.block 1 (.ops [⟨(some 33), .fieldAddr 7 (.tmp 3), none, true⟩,
         ⟨(some 34), .load none (.tmp 33), none, false⟩,
         ⟨(some 35), .mv (.tmp 0), none, true⟩,
         ⟨(some 36), .call (.av (.func 52 [])) [(.tmp 35)], none, false⟩,
         ⟨(some 37), .mv (.tmp 0), none, true⟩,
         ⟨(some 38), .call (.av (.func 52 [])) [(.tmp 37)], none, false⟩,
         ⟨(some 39), .build [(.val (.int .i64 0)), (.val (.int .i64 0))] [(0, 1, (.tmp 36)), (1, 1, (.tmp 38))], none, true⟩,
         ⟨(some 40), .lits 2 1 [(.val (.int .i64 0)), (.val (.int .i64 0))] [(0, 2, (.tmp 39))], none, true⟩,
         ⟨(some 41), .append 2 16 (.tmp 34) (.tmp 40), none, true⟩,
         ⟨(some 42), .fieldAddr 7 (.tmp 3), none, true⟩,
         ⟨none, .store 1 (.tmp 42) (.tmp 41), none, true⟩]))
    (.ops [⟨(some 31), .mv (.tmp 4), none, true⟩,
        ⟨(some 32), .bin .sub (.tmp 31) (.av (.val (.int .i64 1))), none, true⟩,
        ⟨(some 4), .mv (.tmp 32), none, true⟩]))))))
  (.seq (.ops [⟨(some 43), .load (some 8) (.tmp 3), none, true⟩,
      ⟨none, .store 8 (.tmp 2) (.tmp 43), none, true⟩])
  (.ret))))))
theorem f_wo_rframe : cFunc Try.prog 54 = some ⟨44, c_wo_rframe, [.cell 2 (some 8)]⟩ := by kernel_rfl
/-- (*backstitch/words.reader).word: its code in AM. -/
def c_wo_word : ACode := .seq (.ops [⟨(some 2), .mv (.av (.val (.int .u64 0))), none, true⟩])
  (.seq (.seq (.ops [⟨(some 3), .mv (.tmp 0), none, true⟩,
      ⟨(some 4), .nilCheck (.tmp 3), none, true⟩,
      ⟨(some 5), .fieldAddr 1 (.tmp 4), none, true⟩,
      ⟨(some 6), .load none (.tmp 5), none, true⟩,
      ⟨(some 7), .mv (.tmp 0), none, true⟩,
      ⟨(some 8), .nilCheck (.tmp 7), none, true⟩,
      ⟨(some 9), .fieldAddr 0 (.tmp 8), none, true⟩,
      ⟨(some 10), .load none (.tmp 9), none, true⟩,
      ⟨(some 11), .len (.tmp 10), none, true⟩,
      ⟨(some 12), .bin .geq (.tmp 6) (.tmp 11), none, true⟩])
  (.cond (.tmp 12)
    (.seq (.ops [⟨(some 13), .mv (.tmp 0), none, true⟩,
        ⟨(some 14), .nilCheck (.tmp 13), none, true⟩,
        ⟨(some 15), .fieldAddr 2 (.tmp 14), none, true⟩,
        ⟨none, .store 1 (.tmp 15) (.av (.val (.bool true))), none, true⟩])
    (.seq (.ops [⟨(some 2), .mv (.av (.val (.int .u64 0))), none, true⟩])
    (.ret)))
    (.skip)))
  (.seq (.ops [⟨(some 16), .mv (.tmp 0), none, true⟩,
      ⟨(some 17), .nilCheck (.tmp 16), none, true⟩,
      ⟨(some 18), .fieldAddr 1 (.tmp 17), none, true⟩,
      ⟨(some 19), .load none (.tmp 18), none, true⟩,
      ⟨(some 20), .bin .add (.tmp 19) (.av (.val (.int .i64 1))), none, true⟩,
      ⟨(some 21), .nilCheck (.tmp 16), none, true⟩,
      ⟨(some 22), .fieldAddr 1 (.tmp 21), none, true⟩,
      ⟨none, .store 1 (.tmp 22) (.tmp 20), none, true⟩])
  (.seq (.ops [⟨(some 23), .mv (.tmp 0), none, true⟩,
      ⟨(some 24), .nilCheck (.tmp 23), none, true⟩,
      ⟨(some 25), .fieldAddr 0 (.tmp 24), none, true⟩,
      ⟨(some 26), .load none (.tmp 25), none, true⟩,
      ⟨(some 27), .mv (.tmp 0), none, true⟩,
      ⟨(some 28), .nilCheck (.tmp 27), none, true⟩,
      ⟨(some 29), .fieldAddr 1 (.tmp 28), none, true⟩,
      ⟨(some 30), .load none (.tmp 29), none, true⟩,
      ⟨(some 31), .bin .sub (.tmp 30) (.av (.val (.int .i64 1))), none, true⟩,
      ⟨(some 32), .indexAddr 1 (.tmp 26) (.tmp 31), none, true⟩,
      ⟨(some 33), .load none (.tmp 32), none, true⟩,
      ⟨(some 2), .mv (.tmp 33), none, true⟩])
  (.ret))))
theorem f_wo_word : cFunc Try.prog 60 = some ⟨34, c_wo_word, [.tmp 2]⟩ := by kernel_rfl
/-- (*backstitch/words.reader).value: its code in AM. -/
def c_wo_rvalue : ACode := .seq (.ops [⟨(some 2), .zero [(.val (.int .i64 0)), (.val (.int .i64 0))], none, true⟩])
  (.seq (.ops [⟨(some 6), .mv (.tmp 0), none, true⟩,
      ⟨(some 7), .call (.av (.func 60 [])) [(.tmp 6)], none, true⟩,
      ⟨(some 8), .call (.av (.func 62 [])) [(.tmp 7)], none, true⟩,
      ⟨(some 5), .mv (.tmp 8), none, true⟩,
      ⟨(some 9), .extract 0 (.tmp 5), none, true⟩,
      ⟨(some 10), .extract 1 (.tmp 5), none, true⟩,
      ⟨(some 3), .zero [(.val (.int .i64 0)), (.val (.int .i64 0))], none, true⟩,
      ⟨none, .store 2 (.tmp 3) (.tmp 9), none, true⟩,
      ⟨(some 4), .mv (.tmp 10), none, true⟩])
  (.seq (.ops [⟨(some 11), .mv (.tmp 0), none, true⟩,
      ⟨(some 12), .mv (.tmp 0), none, true⟩,
      ⟨(some 13), .nilCheck (.tmp 12), none, true⟩,
      ⟨(some 14), .fieldAddr 2 (.tmp 13), none, true⟩,
      ⟨(some 15), .load none (.tmp 14), none, true⟩,
      ⟨(some 16), .mv (.tmp 15), none, true⟩,
      ⟨(some 17), .mv (.tmp 4), (some (16, false)), true⟩,
      ⟨(some 18), .bin .neq (.tmp 17) (.av (.val (.int .i64 0))), (some (16, false)), true⟩,
      ⟨(some 19), .pick (.tmp 16) (.av (.val (.bool true))) (.tmp 18), none, true⟩,
      ⟨(some 20), .nilCheck (.tmp 11), none, true⟩,
      ⟨(some 21), .fieldAddr 2 (.tmp 20), none, true⟩,
      ⟨none, .store 1 (.tmp 21) (.tmp 19), none, true⟩])
  (.seq (.ops [⟨(some 22), .load (some 2) (.tmp 3), none, true⟩,
      ⟨none, .store 2 (.tmp 2) (.tmp 22), none, true⟩])
  (.ret))))
theorem f_wo_rvalue : cFunc Try.prog 61 = some ⟨23, c_wo_rvalue, [.cell 2 (some 2)]⟩ := by kernel_rfl
end Go.Proofs.Ytpmmiaadfnildaa

namespace Go.Proofs.Ytpmmiaadfnildaa
open Go Go.RowKit
set_option linter.unusedVariables false
set_option linter.unusedSimpArgs false
abbrev eU (n : Int) : List ZV := [.val (.int .u64 n)]
abbrev eP (p : Int × Int) : List ZV := [Z64 p.1, Z64 p.2]
def u64 (n : Int) : Int := IntKind.u64.wrap n
/-- The writer in block i, its words in block j. -/
def wrH (H : ZH) (i j g : Nat) (out : List Int) (e : Int) : ZH := (H.set i (.box [.own j g 0 out.length false, Z64 e])).set j (.grow g 1 (out.map eU))
structure WOk (H : ZH) (L : Nat → Bool) (i j : Nat) : Prop where
  hi : i < H.length
  hj : j < H.length
  ne : i ≠ j
  li : L i = true
  lj : L j = true
section
variable {H : ZH} {L : Nat → Bool} {i j g : Nat} {out : List Int} {e : Int}
theorem wr_len : (wrH H i j g out e).length = H.length := by simp [wrH]
theorem wr_i (w : WOk H L i j) : (wrH H i j g out e)[i]? = some (.box [.own j g 0 out.length false, Z64 e]) := by
  unfold wrH; rw [List.getElem?_set, if_neg (Ne.symm w.ne), List.getElem?_set]; simp [w.hi]
theorem wr_j (w : WOk H L i j) : (wrH H i j g out e)[j]? = some (.grow g 1 (out.map eU)) := by
  unfold wrH; rw [List.getElem?_set]; simp [w.hj]
theorem wr_push {g' : Nat} {out' : List Int} {e' : Int} (w : WOk H L i j) : ((wrH H i j g out e).set j (.grow g' 1 (out'.map eU))).set i (.box [.own j g' 0 out'.length false, Z64 e']) = wrH H i j g' out' e' := by
  unfold wrH
  rw [List.set_set, List.set_comm _ _ w.ne, List.set_set, List.set_comm _ _ (Ne.symm w.ne)]
theorem wr_e {e' : Int} (w : WOk H L i j) : (wrH H i j g out e).set i (.box [.own j g 0 out.length false, Z64 e']) = wrH H i j g out e' := by
  unfold wrH
  rw [List.set_comm _ _ w.ne, List.set_set, List.set_comm _ _ (Ne.symm w.ne)]
end
variable {tb : List (FuncId × Bool)} {L : Nat → Bool} {H : ZH} {K : ZV → ZH → Prop}
theorem numbers_z {i j g : Nat} {out : List Int} {e : Int} {z : ZV} {l : List Int} (w : WOk H L i j) (hz : rowsZ (wrH H i j g out e) 1 z = some (l.map eI)) (hzi : ∀ g' out', rowsZ (wrH H i j g' out' e) 1 z = some (l.map eI)) (hlen : out.length + l.length ≤ 1000000) (hK : K (.tuple []) (wrH H i j (g + l.length) (out ++ l.map u64) e)) :
    ZC (boxX tb) (cFunc Try.prog) 49 [.ptr i 0, z] L (wrH H i j g out e) K := by
  refine ZC.enter Gh.no (boxX_none (by decide)) f_wo_numbers (by simp) ?_
  simp only [c_wo_numbers]
  have hln := rows_len hz
  rw [List.length_map] at hln
  repeat' (first | (simp only [zmPack, zfree, owners, Nat.reduceLT, List.filter_cons, List.filter_nil, List.contains_cons, List.contains_nil, Nat.reduceBEq, Bool.or_false, Bool.or_true, Bool.false_or, Bool.true_or, BEq.rfl, chunk, setAt, List.lookup_cons, List.lookup_nil, ZV.val.injEq, ZV.ptr.injEq, ZV.own.injEq, ZV.fz.injEq, ZV.func.injEq, ZV.tuple.injEq, ZV.agg.injEq, ZB.box.injEq, ZB.grow.injEq, Bool.not_eq_false', Prod.mk.injEq, and_assoc, decide_false, decide_true, Bool.not_false, Bool.not_true, Bool.true_eq_false, Bool.false_eq_true, exists_false, Bool.not_eq_false, Bool.not_not, Value.bool.injEq, Value.int.injEq, Option.some.injEq, exists_eq_left', exists_eq_left, exists_and_left, exists_and_right, and_true, true_and, decide_eq_true_eq, decide_eq_false_iff_not, if_true, if_false, Bool.not_eq_true', beq_true, beq_false, ne_eq, not_true_eq_false, not_false_eq_true, reduceCtorEq, List.getD_cons_zero, List.getD_cons_succ, List.getD_nil, List.map_cons, List.map_nil, List.append_nil, Nat.reduceEqDiff, reduceIte, ite_true, ite_false, or_true, true_or, or_false, false_or, true_imp_iff, false_imp_iff, implies_true, imp_false, and_self, imp_self, and_false, false_and, forall_const, take_map_all, Nat.le_refl, Nat.reduceMul, Nat.reduceSub, List.length_cons, List.length_nil, List.length_map, List.length_set, List.all_cons, List.all_nil, Bool.and_self, Option.map_none, Option.map_some, List.set_cons_zero, List.set_cons_succ, Nat.lt_add_one, List.append_assoc, List.cons_append, List.nil_append, List.append_nil, List.length_append, List.take_zero, List.take_succ_cons, List.take_nil, List.drop_zero, List.drop_succ_cons, List.drop_nil, List.getElem?_cons_zero, List.getElem?_cons_succ, List.getElem?_map, Nat.reduceAdd, Nat.reduceLeDiff, Nat.add_eq_zero_iff, and_self, Nat.zero_add, Nat.add_zero, Nat.mul_one, Nat.one_mul, List.flatten_cons, List.flatten_nil, hln, *]) | (simp only [zgoO, zgoG, zO_nil, zthen_normal, zgoC]) | (with_reducible apply And.intro) | (with_reducible intro _))
  refine zW_forK [(0, .ptr i 0), (6, z)] l.length (fun k s' h' => h' = wrH H i j (g + k) (out ++ (l.take k).map u64) e) (by omega) ⟨rfl, rfl, rfl, rfl, rfl, rfl⟩ rfl rfl (by repeat' (first | exact trivial | (refine ⟨rfl, ?_⟩) | (refine ⟨by simp only [zupd_at, Nat.reduceEqDiff, reduceIte]; assumption, ?_⟩))) rfl rfl (by decide) (by simp) ?_ ?_
  · rintro k s' h' hk rfl hi hl ⟨f0, f6, -⟩
    obtain ⟨p, hp, hld⟩ := rows_at (hzi (g + k) (out ++ (l.take k).map u64)) hk
    have h1 := wr_i (g := g + k) (out := out ++ (l.take k).map u64) (e := e) w
    have h2 := wr_j (g := g + k) (out := out ++ (l.take k).map u64) (e := e) w
    obtain ⟨x, hx⟩ : ∃ x, x = l[k] := ⟨_, rfl⟩
    have ht : (out ++ (l.take (k + 1)).map u64) = (out ++ (l.take k).map u64) ++ [u64 x] := by rw [List.take_succ_eq_append_getElem hk, hx, List.map_append, List.append_assoc]; rfl
    have hol : (out ++ (l.take k).map u64).length = out.length + k := by simp; omega
    rw [← hx] at hld
    rw [ht]
    obtain ⟨o, ho⟩ : ∃ o, o = out ++ (l.take k).map u64 := ⟨_, rfl⟩
    rw [← ho] at hp hld h1 h2 hol ⊢
    have hr : (o.length + 1) * 8 ≤ reach := by unfold reach; omega
    have li := w.li
    have lj := w.lj
    have hpush := wr_push (g := g + k) (g' := g + k + 1) (out := o) (out' := o ++ [u64 x]) (e := e) (e' := e) w
    have hu : IntKind.u64.wrap x = u64 x := rfl
    have hg : g + (k + 1) = g + k + 1 := by omega
    have fin : ((wrH H i j (g + k) o e).set j (.grow (g + k + 1) 1 (o.map eU ++ [[.val (.int .u64 (u64 x))]]))).set i (.box [.own j (g + k + 1) 0 (o.length + 1) false, Z64 e]) = wrH H i j (g + k + 1) (o ++ [u64 x]) e := by rw [← hpush]; simp
    have hne := w.ne
    have h1' : ∀ B, ((wrH H i j (g + k) o e).set j B)[i]? = some (.box [.own j (g + k) 0 o.length false, Z64 e]) := fun B => by rw [List.getElem?_set, if_neg (Ne.symm hne)]; exact h1
    clear hx ht ho hol hpush w hzi hz hK hln hlen
    repeat' (first | (simp only [zmPack, zfree, owners, Nat.reduceLT, List.filter_cons, List.filter_nil, List.contains_cons, List.contains_nil, Nat.reduceBEq, Bool.or_false, Bool.or_true, Bool.false_or, Bool.true_or, BEq.rfl, chunk, setAt, List.lookup_cons, List.lookup_nil, ZV.val.injEq, ZV.ptr.injEq, ZV.own.injEq, ZV.fz.injEq, ZV.func.injEq, ZV.tuple.injEq, ZV.agg.injEq, ZB.box.injEq, ZB.grow.injEq, Bool.not_eq_false', Prod.mk.injEq, and_assoc, decide_false, decide_true, Bool.not_false, Bool.not_true, Bool.true_eq_false, Bool.false_eq_true, exists_false, Bool.not_eq_false, Bool.not_not, Value.bool.injEq, Value.int.injEq, Option.some.injEq, exists_eq_left', exists_eq_left, exists_and_left, exists_and_right, and_true, true_and, decide_eq_true_eq, decide_eq_false_iff_not, if_true, if_false, Bool.not_eq_true', beq_true, beq_false, ne_eq, not_true_eq_false, not_false_eq_true, reduceCtorEq, List.getD_cons_zero, List.getD_cons_succ, List.getD_nil, List.map_cons, List.map_nil, List.append_nil, Nat.reduceEqDiff, reduceIte, ite_true, ite_false, or_true, true_or, or_false, false_or, true_imp_iff, false_imp_iff, implies_true, imp_false, and_self, imp_self, and_false, false_and, forall_const, take_map_all, Nat.le_refl, Nat.reduceMul, Nat.reduceSub, List.length_cons, List.length_nil, List.length_map, List.length_set, List.all_cons, List.all_nil, Bool.and_self, Option.map_none, Option.map_some, List.set_cons_zero, List.set_cons_succ, Nat.lt_add_one, List.append_assoc, List.cons_append, List.nil_append, List.append_nil, List.length_append, List.take_zero, List.take_succ_cons, List.take_nil, List.drop_zero, List.drop_succ_cons, List.drop_nil, List.getElem?_cons_zero, List.getElem?_cons_succ, List.getElem?_map, Nat.reduceAdd, Nat.reduceLeDiff, Nat.add_eq_zero_iff, and_self, Nat.zero_add, Nat.add_zero, Nat.mul_one, Nat.one_mul, List.flatten_cons, List.flatten_nil, hp, hld, h1, h2, hr, li, lj, hu, hg, h1', fin, *]) | (simp only [zgoO, zgoG, zO_nil, zthen_normal, zgoC]) | (with_reducible apply And.intro) | (with_reducible intro _))
  · rintro s' h' rfl ⟨f0, f6, -⟩
    rw [List.take_of_length_le (Nat.le_refl _)]
    have fin := Fin.keep (H0 := wrH H i j g out e) hK
    clear hK hz hzi hln
    repeat' (first | (simp only [zmPack, zfree, owners, Nat.reduceLT, List.filter_cons, List.filter_nil, List.contains_cons, List.contains_nil, Nat.reduceBEq, Bool.or_false, Bool.or_true, Bool.false_or, Bool.true_or, BEq.rfl, chunk, setAt, List.lookup_cons, List.lookup_nil, ZV.val.injEq, ZV.ptr.injEq, ZV.own.injEq, ZV.fz.injEq, ZV.func.injEq, ZV.tuple.injEq, ZV.agg.injEq, ZB.box.injEq, ZB.grow.injEq, Bool.not_eq_false', Prod.mk.injEq, and_assoc, decide_false, decide_true, Bool.not_false, Bool.not_true, Bool.true_eq_false, Bool.false_eq_true, exists_false, Bool.not_eq_false, Bool.not_not, Value.bool.injEq, Value.int.injEq, Option.some.injEq, exists_eq_left', exists_eq_left, exists_and_left, exists_and_right, and_true, true_and, decide_eq_true_eq, decide_eq_false_iff_not, if_true, if_false, Bool.not_eq_true', beq_true, beq_false, ne_eq, not_true_eq_false, not_false_eq_true, reduceCtorEq, List.getD_cons_zero, List.getD_cons_succ, List.getD_nil, List.map_cons, List.map_nil, List.append_nil, Nat.reduceEqDiff, reduceIte, ite_true, ite_false, or_true, true_or, or_false, false_or, true_imp_iff, false_imp_iff, implies_true, imp_false, and_self, imp_self, and_false, false_and, forall_const, take_map_all, Nat.le_refl, Nat.reduceMul, Nat.reduceSub, List.length_cons, List.length_nil, List.length_map, List.length_set, List.all_cons, List.all_nil, Bool.and_self, Option.map_none, Option.map_some, List.set_cons_zero, List.set_cons_succ, Nat.lt_add_one, List.append_assoc, List.cons_append, List.nil_append, List.append_nil, List.length_append, List.take_zero, List.take_succ_cons, List.take_nil, List.drop_zero, List.drop_succ_cons, List.drop_nil, List.getElem?_cons_zero, List.getElem?_cons_succ, List.getElem?_map, Nat.reduceAdd, Nat.reduceLeDiff, Nat.add_eq_zero_iff, and_self, Nat.zero_add, Nat.add_zero, Nat.mul_one, Nat.one_mul, List.flatten_cons, List.flatten_nil, zresults, zress, *]) | (simp only [zgoO, zgoG, zO_nil, zthen_normal, zgoC]) | (with_reducible apply And.intro) | (with_reducible intro _))
end Go.Proofs.Ytpmmiaadfnildaa

namespace Go.Proofs.Ytpmmiaadfnildaa
open Go Go.RowKit
set_option linter.unusedVariables false
set_option linter.unusedSimpArgs false
variable {tb : List (FuncId × Bool)} {L : Nat → Bool} {H : ZH} {K : ZV → ZH → Prop}
theorem u_refs {n : Nat} {l : List Int} : (l.map eU).flatten.all (refs1 n) = true := by
  induction l with
  | nil => rfl
  | cons a l ih => rw [List.map_cons, List.flatten_cons, List.all_append, ih]; rfl
theorem fin_wr {i j g g' : Nat} {out out' : List Int} {e e' : Int} {X : ZH} (w : WOk H L i j) (hK : K (.tuple []) (wrH H i j g' out' e')) : Fin (wrH H i j g out e) (.tuple []) (wrH H i j g' out' e' ++ X) K := by
  have hi : i < (wrH H i j g out e).length := by rw [wr_len]; exact w.hi
  have hj : j < (wrH H i j g out e).length := by rw [wr_len]; exact w.hj
  have eq : wrH H i j g' out' e' ++ X = (((wrH H i j g out e) ++ X).set j (.grow g' 1 (out'.map eU))).set i (.box [.own j g' 0 out'.length false, Z64 e']) := by
    rw [List.set_append_left _ _ hj, List.set_append_left _ _ (by rw [List.length_set]; exact hi), wr_push w]
  refine Fin.trunc ?_ rfl ?_
  · rw [eq]
    refine Mods.set (Mods.set (Mods.ext _ X) ?_) ?_
    · exact u_refs
    · simp only [refsB, List.all_cons, List.all_nil, refs1, Bool.and_true, decide_eq_true_eq]
      exact hj
  · rw [List.take_append_of_le_length (by rw [wr_len, wr_len]; exact Nat.le_refl _), List.take_of_length_le (by rw [wr_len, wr_len]; exact Nat.le_refl _)]
    exact hK
/-- The writer's state behind a value. -/
def eNext (e k n : Int) : Int := if e = 0 then boxE k n else e
theorem value_z {i j g : Nat} {out : List Int} {e k n : Int} (w : WOk H L i j) (hlen : out.length + 1 ≤ 1000000) (hK : K (.tuple []) (wrH H i j (g + 1) (out ++ [boxW k n]) (eNext e k n))) :
    ZC (boxX tb) (cFunc Try.prog) 51 [.ptr i 0, .agg [Z64 k, Z64 n]] L (wrH H i j g out e) K := by
  refine ZC.enter Gh.no (boxX_none (by decide)) f_wo_value (by simp) ?_
  simp only [c_wo_value]
  obtain ⟨W, hW⟩ : ∃ W, W = wrH H i j g out e := ⟨_, rfl⟩
  have HKK := Lib.hid hK
  rw [← hW]
  have HW := Lib.hid hW
  clear hW hK
  repeat' (first | (simp only [zmPack, zfree, owners, Nat.reduceLT, List.filter_cons, List.filter_nil, List.contains_cons, List.contains_nil, Nat.reduceBEq, Bool.or_false, Bool.or_true, Bool.false_or, Bool.true_or, BEq.rfl, chunk, setAt, List.lookup_cons, List.lookup_nil, ZV.val.injEq, ZV.ptr.injEq, ZV.own.injEq, ZV.fz.injEq, ZV.func.injEq, ZV.tuple.injEq, ZV.agg.injEq, ZB.box.injEq, ZB.grow.injEq, Bool.not_eq_false', Prod.mk.injEq, and_assoc, decide_false, decide_true, Bool.not_false, Bool.not_true, Bool.true_eq_false, Bool.false_eq_true, exists_false, Bool.not_eq_false, Bool.not_not, Value.bool.injEq, Value.int.injEq, Option.some.injEq, exists_eq_left', exists_eq_left, exists_and_left, exists_and_right, and_true, true_and, decide_eq_true_eq, decide_eq_false_iff_not, if_true, if_false, Bool.not_eq_true', beq_true, beq_false, ne_eq, not_true_eq_false, not_false_eq_true, reduceCtorEq, List.getD_cons_zero, List.getD_cons_succ, List.getD_nil, List.map_cons, List.map_nil, List.append_nil, Nat.reduceEqDiff, reduceIte, ite_true, ite_false, or_true, true_or, or_false, false_or, true_imp_iff, false_imp_iff, implies_true, imp_false, and_self, imp_self, and_false, false_and, forall_const, take_map_all, Nat.le_refl, Nat.reduceMul, Nat.reduceSub, List.length_cons, List.length_nil, List.length_map, List.length_set, List.all_cons, List.all_nil, Bool.and_self, Option.map_none, Option.map_some, List.set_cons_zero, List.set_cons_succ, Nat.lt_add_one, List.append_assoc, List.cons_append, List.nil_append, List.append_nil, List.length_append, List.take_zero, List.take_succ_cons, List.take_nil, List.drop_zero, List.drop_succ_cons, List.drop_nil, List.getElem?_cons_zero, List.getElem?_cons_succ, List.getElem?_map, Nat.reduceAdd, Nat.reduceLeDiff, Nat.add_eq_zero_iff, and_self, Nat.zero_add, Nat.add_zero, Nat.mul_one, Nat.one_mul, List.flatten_cons, List.flatten_nil, *]) | (simp only [zgoO, zgoG, zO_nil, zthen_normal, zgoC]) | (with_reducible apply And.intro) | (with_reducible intro _))
  refine box_z ?_
  have hK := HKK.out
  have hW := HW.out
  have fin := fun (X : ZH) => fin_wr (K := K) (X := X) (g := g) (out := out) (e := e) w hK
  have h1 : ∀ X, (W ++ X)[i]? = some (.box [.own j g 0 out.length false, Z64 e]) := fun X => by rw [hW]; exact H_app (wr_i w) X
  have h2 : ∀ X, (W ++ X)[j]? = some (.grow g 1 (out.map eU)) := fun X => by rw [hW]; exact H_app (wr_j w) X
  have li := w.li
  have lj := w.lj
  have hr : (out.length + 1) * 8 ≤ reach := by unfold reach; omega
  have hi : i < W.length := by rw [hW, wr_len]; exact w.hi
  have hj : j < W.length := by rw [hW, wr_len]; exact w.hj
  have s1 : ∀ X B, (W ++ X).set i B = W.set i B ++ X := fun X B => List.set_append_left _ _ hi
  have s2 : ∀ X B, (W ++ X).set j B = W.set j B ++ X := fun X B => List.set_append_left _ _ hj
  by_cases he : e = 0
  · have hE : eNext e k n = boxE k n := by unfold eNext; rw [if_pos he]
    rw [hE] at fin
    have c1 : ∀ X B, (W.set j B ++ X)[i]? = some (.box [.own j g 0 out.length false, Z64 e]) := fun X B => H_app (by rw [List.getElem?_set, if_neg (Ne.symm w.ne), hW]; exact wr_i w) X
    have c0 : ∀ X B, (W.set i B ++ X)[i]? = some B := fun X B => H_app (by rw [List.getElem?_set]; simp [hi]) X
    have c2 : ∀ X B, (W.set i B ++ X)[j]? = some (.grow g 1 (out.map eU)) := fun X B => H_app (by rw [List.getElem?_set, if_neg w.ne, hW]; exact wr_j w) X
    have s3 : ∀ X B C, (W.set i B ++ X).set j C = (W.set i B).set j C ++ X := fun X B C => List.set_append_left _ _ (by simpa using hj)
    have c3 : ∀ X B C, ((W.set i B).set j C ++ X)[i]? = some B := fun X B C => H_app (by rw [List.getElem?_set, if_neg (Ne.symm w.ne), List.getElem?_set]; simp [hi]) X
    have s4 : ∀ X B C D, ((W.set i B).set j C ++ X).set i D = ((W.set i B).set j C).set i D ++ X := fun X B C D => List.set_append_left _ _ (by simpa using hi)
    have s5 : ((W.set i (.box [.own j g 0 out.length false, Z64 (boxE k n)])).set j (.grow (g + 1) 1 (out.map eU ++ [[.val (.int .u64 (boxW k n))]]))).set i (.box [.own j (g + 1) 0 (out.length + 1) false, Z64 (boxE k n)]) = wrH H i j (g + 1) (out ++ [boxW k n]) (boxE k n) := by
      have q := wr_push (g := g) (g' := g + 1) (out := out) (out' := out ++ [boxW k n]) (e := boxE k n) (e' := boxE k n) w
      rw [List.map_append, List.length_append] at q
      rw [hW, wr_e w]; exact q
    have fin2 : Fin W (.tuple []) (wrH H i j (g + 1) (out ++ [boxW k n]) (boxE k n) ++ [.box [Z64 k, Z64 n]]) K := by rw [hW]; exact fin _
    clear hE hW fin w hK
    subst he
    repeat' (first | (simp only [zmPack, zfree, owners, Nat.reduceLT, List.filter_cons, List.filter_nil, List.contains_cons, List.contains_nil, Nat.reduceBEq, Bool.or_false, Bool.or_true, Bool.false_or, Bool.true_or, BEq.rfl, chunk, setAt, List.lookup_cons, List.lookup_nil, ZV.val.injEq, ZV.ptr.injEq, ZV.own.injEq, ZV.fz.injEq, ZV.func.injEq, ZV.tuple.injEq, ZV.agg.injEq, ZB.box.injEq, ZB.grow.injEq, Bool.not_eq_false', Prod.mk.injEq, and_assoc, decide_false, decide_true, Bool.not_false, Bool.not_true, Bool.true_eq_false, Bool.false_eq_true, exists_false, Bool.not_eq_false, Bool.not_not, Value.bool.injEq, Value.int.injEq, Option.some.injEq, exists_eq_left', exists_eq_left, exists_and_left, exists_and_right, and_true, true_and, decide_eq_true_eq, decide_eq_false_iff_not, if_true, if_false, Bool.not_eq_true', beq_true, beq_false, ne_eq, not_true_eq_false, not_false_eq_true, reduceCtorEq, List.getD_cons_zero, List.getD_cons_succ, List.getD_nil, List.map_cons, List.map_nil, List.append_nil, Nat.reduceEqDiff, reduceIte, ite_true, ite_false, or_true, true_or, or_false, false_or, true_imp_iff, false_imp_iff, implies_true, imp_false, and_self, imp_self, and_false, false_and, forall_const, take_map_all, Nat.le_refl, Nat.reduceMul, Nat.reduceSub, List.length_cons, List.length_nil, List.length_map, List.length_set, List.all_cons, List.all_nil, Bool.and_self, Option.map_none, Option.map_some, List.set_cons_zero, List.set_cons_succ, Nat.lt_add_one, List.append_assoc, List.cons_append, List.nil_append, List.append_nil, List.length_append, List.take_zero, List.take_succ_cons, List.take_nil, List.drop_zero, List.drop_succ_cons, List.drop_nil, List.getElem?_cons_zero, List.getElem?_cons_succ, List.getElem?_map, Nat.reduceAdd, Nat.reduceLeDiff, Nat.add_eq_zero_iff, and_self, Nat.zero_add, Nat.add_zero, Nat.mul_one, Nat.one_mul, List.flatten_cons, List.flatten_nil, zresults, zress, h1, h2, li, lj, hr, s1, s2, s3, s4, c1, c0, c2, c3, s5, *]) | (simp only [zgoO, zgoG, zO_nil, zthen_normal, zgoC]) | (with_reducible apply And.intro) | (with_reducible intro _))
    trace_state
  · have hE : eNext e k n = e := by unfold eNext; rw [if_neg he]
    rw [hE] at fin
    have c1 : ∀ X B, (W.set j B ++ X)[i]? = some (.box [.own j g 0 out.length false, Z64 e]) := fun X B => H_app (by rw [List.getElem?_set, if_neg (Ne.symm w.ne), hW]; exact wr_i w) X
    have s3 : ∀ X B C, (W.set j B ++ X).set i C = (W.set j B).set i C ++ X := fun X B C => List.set_append_left _ _ (by simpa using hi)
    have s5 : (W.set j (.grow (g + 1) 1 (out.map eU ++ [[.val (.int .u64 (boxW k n))]]))).set i (.box [.own j (g + 1) 0 (out.length + 1) false, Z64 e]) = wrH H i j (g + 1) (out ++ [boxW k n]) e := by
      have q := wr_push (g := g) (g' := g + 1) (out := out) (out' := out ++ [boxW k n]) (e := e) (e' := e) w
      rw [List.map_append, List.length_append] at q
      rw [hW]; exact q
    have fin2 : Fin W (.tuple []) (wrH H i j (g + 1) (out ++ [boxW k n]) e ++ [.box [Z64 k, Z64 n]]) K := by rw [hW]; exact fin _
    clear hE hW fin w hK
    repeat' (first | (simp only [zmPack, zfree, owners, Nat.reduceLT, List.filter_cons, List.filter_nil, List.contains_cons, List.contains_nil, Nat.reduceBEq, Bool.or_false, Bool.or_true, Bool.false_or, Bool.true_or, BEq.rfl, chunk, setAt, List.lookup_cons, List.lookup_nil, ZV.val.injEq, ZV.ptr.injEq, ZV.own.injEq, ZV.fz.injEq, ZV.func.injEq, ZV.tuple.injEq, ZV.agg.injEq, ZB.box.injEq, ZB.grow.injEq, Bool.not_eq_false', Prod.mk.injEq, and_assoc, decide_false, decide_true, Bool.not_false, Bool.not_true, Bool.true_eq_false, Bool.false_eq_true, exists_false, Bool.not_eq_false, Bool.not_not, Value.bool.injEq, Value.int.injEq, Option.some.injEq, exists_eq_left', exists_eq_left, exists_and_left, exists_and_right, and_true, true_and, decide_eq_true_eq, decide_eq_false_iff_not, if_true, if_false, Bool.not_eq_true', beq_true, beq_false, ne_eq, not_true_eq_false, not_false_eq_true, reduceCtorEq, List.getD_cons_zero, List.getD_cons_succ, List.getD_nil, List.map_cons, List.map_nil, List.append_nil, Nat.reduceEqDiff, reduceIte, ite_true, ite_false, or_true, true_or, or_false, false_or, true_imp_iff, false_imp_iff, implies_true, imp_false, and_self, imp_self, and_false, false_and, forall_const, take_map_all, Nat.le_refl, Nat.reduceMul, Nat.reduceSub, List.length_cons, List.length_nil, List.length_map, List.length_set, List.all_cons, List.all_nil, Bool.and_self, Option.map_none, Option.map_some, List.set_cons_zero, List.set_cons_succ, Nat.lt_add_one, List.append_assoc, List.cons_append, List.nil_append, List.append_nil, List.length_append, List.take_zero, List.take_succ_cons, List.take_nil, List.drop_zero, List.drop_succ_cons, List.drop_nil, List.getElem?_cons_zero, List.getElem?_cons_succ, List.getElem?_map, Nat.reduceAdd, Nat.reduceLeDiff, Nat.add_eq_zero_iff, and_self, Nat.zero_add, Nat.add_zero, Nat.mul_one, Nat.one_mul, List.flatten_cons, List.flatten_nil, zresults, zress, h1, h2, li, lj, hr, s1, s2, s3, c1, s5, *]) | (simp only [zgoO, zgoG, zO_nil, zthen_normal, zgoC]) | (with_reducible apply And.intro) | (with_reducible intro _))
    trace_state
end Go.Proofs.Ytpmmiaadfnildaa

namespace Go.Proofs.Ytpmmiaadfnildaa
open Go Go.RowKit
set_option linter.unusedVariables false
set_option linter.unusedSimpArgs false
variable {tb : List (FuncId × Bool)} {L : Nat → Bool} {H : ZH} {K : ZV → ZH → Prop}
theorem WOk.app {i j : Nat} (w : WOk H L i j) (X : ZH) : WOk (H ++ X) L i j := ⟨by have := w.hi; simp; omega, by have := w.hj; simp; omega, w.ne, w.li, w.lj⟩
theorem wr_app {i j g : Nat} {out : List Int} {e : Int} (w : WOk H L i j) (X : ZH) : wrH (H ++ X) i j g out e = wrH H i j g out e ++ X := by
  unfold wrH
  rw [List.set_append_left _ _ w.hi, List.set_append_left _ _ (by rw [List.length_set]; exact w.hj)]
def bw (p : Int × Int) : Int := boxW p.1 p.2
def eAll (e : Int) (l : List (Int × Int)) : Int := l.foldl (fun e p => eNext e p.1 p.2) e
theorem eAll_take {e : Int} {l : List (Int × Int)} {k : Nat} (hk : k < l.length) : eAll e (l.take (k + 1)) = eNext (eAll e (l.take k)) l[k].1 l[k].2 := by
  unfold eAll; rw [List.take_succ_eq_append_getElem hk, List.foldl_append]; rfl
theorem map_take_succ {α β : Type} {f : α → β} {l : List α} {k : Nat} (hk : k < l.length) : (l.take (k + 1)).map f = (l.take k).map f ++ [f l[k]] := by
  rw [List.take_succ_eq_append_getElem hk, List.map_append]; rfl
theorem values_z {i j g : Nat} {out : List Int} {e : Int} {ex : Bool} {l : List (Int × Int)} (w : WOk H L i j) (hL : ∀ k, L (H.length + k) = true) (hlen : out.length + l.length + 1 ≤ 1000000)
    (hK : K (.tuple []) (wrH H i j (g + 1 + l.length) ((out ++ [u64 l.length]) ++ l.map bw) (eAll e l))) :
    ZC (boxX tb) (cFunc Try.prog) 50 [.ptr i 0, .fz 2 ex (l.map eP)] L (wrH H i j g out e) K := by
  refine ZC.enter Gh.no (boxX_none (by decide)) f_wo_values (by simp) ?_
  simp only [c_wo_values]
  repeat' (first | (simp only [zmPack, zfree, owners, Nat.reduceLT, List.filter_cons, List.filter_nil, List.contains_cons, List.contains_nil, Nat.reduceBEq, Bool.or_false, Bool.or_true, Bool.false_or, Bool.true_or, BEq.rfl, chunk, setAt, List.lookup_cons, List.lookup_nil, ZV.val.injEq, ZV.ptr.injEq, ZV.own.injEq, ZV.fz.injEq, ZV.func.injEq, ZV.tuple.injEq, ZV.agg.injEq, ZB.box.injEq, ZB.grow.injEq, Bool.not_eq_false', Prod.mk.injEq, and_assoc, decide_false, decide_true, Bool.not_false, Bool.not_true, Bool.true_eq_false, Bool.false_eq_true, exists_false, Bool.not_eq_false, Bool.not_not, Value.bool.injEq, Value.int.injEq, Option.some.injEq, exists_eq_left', exists_eq_left, exists_and_left, exists_and_right, and_true, true_and, decide_eq_true_eq, decide_eq_false_iff_not, if_true, if_false, Bool.not_eq_true', beq_true, beq_false, ne_eq, not_true_eq_false, not_false_eq_true, reduceCtorEq, List.getD_cons_zero, List.getD_cons_succ, List.getD_nil, List.map_cons, List.map_nil, List.append_nil, Nat.reduceEqDiff, reduceIte, ite_true, ite_false, or_true, true_or, or_false, false_or, true_imp_iff, false_imp_iff, implies_true, imp_false, and_self, imp_self, and_false, false_and, forall_const, take_map_all, Nat.le_refl, Nat.reduceMul, Nat.reduceSub, List.length_cons, List.length_nil, List.length_map, List.length_set, List.all_cons, List.all_nil, Bool.and_self, Option.map_none, Option.map_some, List.set_cons_zero, List.set_cons_succ, Nat.lt_add_one, List.append_assoc, List.cons_append, List.nil_append, List.append_nil, List.length_append, List.take_zero, List.take_succ_cons, List.take_nil, List.drop_zero, List.drop_succ_cons, List.drop_nil, List.getElem?_cons_zero, List.getElem?_cons_succ, List.getElem?_map, Nat.reduceAdd, Nat.reduceLeDiff, Nat.add_eq_zero_iff, and_self, Nat.zero_add, Nat.add_zero, Nat.mul_one, Nat.one_mul, List.flatten_cons, List.flatten_nil, *]) | (simp only [zgoO, zgoG, zO_nil, zthen_normal, zgoC]) | (with_reducible apply And.intro) | (with_reducible intro _))
  refine numbers_z (l := [(l.length : Int)]) w rows_fz (fun _ _ => rows_fz) (by simp; omega) ?_
  rw [show ([(l.length : Int)]).map u64 = [u64 l.length] from rfl, show g + [(l.length : Int)].length = g + 1 from rfl]
  obtain ⟨o1, ho1⟩ : ∃ o1, o1 = out ++ [u64 l.length] := ⟨_, rfl⟩
  rw [← ho1] at hK ⊢
  have hl1 : o1.length = out.length + 1 := by rw [ho1]; simp
  have fin := fun (X : ZH) => fin_wr (K := K) (X := X) (g := g) (out := out) (e := e) w hK
  have FF := Lib.hid fin
  clear ho1 hK fin
  repeat' (first | (simp only [zmPack, zfree, owners, Nat.reduceLT, List.filter_cons, List.filter_nil, List.contains_cons, List.contains_nil, Nat.reduceBEq, Bool.or_false, Bool.or_true, Bool.false_or, Bool.true_or, BEq.rfl, chunk, setAt, List.lookup_cons, List.lookup_nil, ZV.val.injEq, ZV.ptr.injEq, ZV.own.injEq, ZV.fz.injEq, ZV.func.injEq, ZV.tuple.injEq, ZV.agg.injEq, ZB.box.injEq, ZB.grow.injEq, Bool.not_eq_false', Prod.mk.injEq, and_assoc, decide_false, decide_true, Bool.not_false, Bool.not_true, Bool.true_eq_false, Bool.false_eq_true, exists_false, Bool.not_eq_false, Bool.not_not, Value.bool.injEq, Value.int.injEq, Option.some.injEq, exists_eq_left', exists_eq_left, exists_and_left, exists_and_right, and_true, true_and, decide_eq_true_eq, decide_eq_false_iff_not, if_true, if_false, Bool.not_eq_true', beq_true, beq_false, ne_eq, not_true_eq_false, not_false_eq_true, reduceCtorEq, List.getD_cons_zero, List.getD_cons_succ, List.getD_nil, List.map_cons, List.map_nil, List.append_nil, Nat.reduceEqDiff, reduceIte, ite_true, ite_false, or_true, true_or, or_false, false_or, true_imp_iff, false_imp_iff, implies_true, imp_false, and_self, imp_self, and_false, false_and, forall_const, take_map_all, Nat.le_refl, Nat.reduceMul, Nat.reduceSub, List.length_cons, List.length_nil, List.length_map, List.length_set, List.all_cons, List.all_nil, Bool.and_self, Option.map_none, Option.map_some, List.set_cons_zero, List.set_cons_succ, Nat.lt_add_one, List.append_assoc, List.cons_append, List.nil_append, List.append_nil, List.length_append, List.take_zero, List.take_succ_cons, List.take_nil, List.drop_zero, List.drop_succ_cons, List.drop_nil, List.getElem?_cons_zero, List.getElem?_cons_succ, List.getElem?_map, Nat.reduceAdd, Nat.reduceLeDiff, Nat.add_eq_zero_iff, and_self, Nat.zero_add, Nat.add_zero, Nat.mul_one, Nat.one_mul, List.flatten_cons, List.flatten_nil, *]) | (simp only [zgoO, zgoG, zO_nil, zthen_normal, zgoC]) | (with_reducible apply And.intro) | (with_reducible intro _))
  refine zW_forK [(0, .ptr i 0), (11, .fz 2 ex (l.map eP))] l.length (fun k s' h' => ∃ X, h' = wrH H i j (g + 1 + k) (o1 ++ (l.take k).map bw) (eAll e (l.take k)) ++ X) (by omega) ⟨rfl, rfl, rfl, rfl, rfl, rfl⟩ rfl rfl (by repeat' (first | exact trivial | (refine ⟨rfl, ?_⟩) | (refine ⟨by simp only [zupd_at, Nat.reduceEqDiff, reduceIte]; assumption, ?_⟩))) rfl rfl (by decide) ⟨[], by simp [eAll]⟩ ?_ ?_
  · rintro k s' h' hk ⟨X, rfl⟩ hi hl ⟨f0, f11, -⟩
    have hx : l[k]? = some l[k] := List.getElem?_eq_getElem hk
    rw [eAll_take hk, map_take_succ hk, ← List.append_assoc]
    have hol : (o1 ++ (l.take k).map bw).length = o1.length + k := by simp; omega
    obtain ⟨p, hp⟩ : ∃ p, p = l[k] := ⟨_, rfl⟩
    obtain ⟨o, ho⟩ : ∃ o, o = o1 ++ (l.take k).map bw := ⟨_, rfl⟩
    obtain ⟨E, hE⟩ : ∃ E, E = eAll e (l.take k) := ⟨_, rfl⟩
    rw [← hp] at hx ⊢
    rw [← ho] at hol ⊢
    rw [← hE]
    obtain ⟨W, hW⟩ : ∃ W, W = wrH H i j (g + 1 + k) o E := ⟨_, rfl⟩
    have hWl : W.length = H.length := by rw [hW, wr_len]
    have hat : ∀ B : ZB, (W ++ (X ++ [B]))[H.length + X.length]? = some B := fun B => by rw [← hWl, H_atK, List.getElem?_append_right (Nat.le_refl _), Nat.sub_self]; rfl
    have hst : ∀ B C : ZB, (W ++ (X ++ [B])).set (H.length + X.length) C = W ++ (X ++ [C]) := fun B C => by rw [← hWl, H_setK, List.set_append_right _ _ (Nat.le_refl _), Nat.sub_self]; rfl
    rw [← hW]
    have HW := Lib.hid hW
    have HO := Lib.hid hol
    clear hp ho hE hW hol
    repeat' (first | (simp only [zmPack, zfree, owners, Nat.reduceLT, List.filter_cons, List.filter_nil, List.contains_cons, List.contains_nil, Nat.reduceBEq, Bool.or_false, Bool.or_true, Bool.false_or, Bool.true_or, BEq.rfl, chunk, setAt, List.lookup_cons, List.lookup_nil, ZV.val.injEq, ZV.ptr.injEq, ZV.own.injEq, ZV.fz.injEq, ZV.func.injEq, ZV.tuple.injEq, ZV.agg.injEq, ZB.box.injEq, ZB.grow.injEq, Bool.not_eq_false', Prod.mk.injEq, and_assoc, decide_false, decide_true, Bool.not_false, Bool.not_true, Bool.true_eq_false, Bool.false_eq_true, exists_false, Bool.not_eq_false, Bool.not_not, Value.bool.injEq, Value.int.injEq, Option.some.injEq, exists_eq_left', exists_eq_left, exists_and_left, exists_and_right, and_true, true_and, decide_eq_true_eq, decide_eq_false_iff_not, if_true, if_false, Bool.not_eq_true', beq_true, beq_false, ne_eq, not_true_eq_false, not_false_eq_true, reduceCtorEq, List.getD_cons_zero, List.getD_cons_succ, List.getD_nil, List.map_cons, List.map_nil, List.append_nil, Nat.reduceEqDiff, reduceIte, ite_true, ite_false, or_true, true_or, or_false, false_or, true_imp_iff, false_imp_iff, implies_true, imp_false, and_self, imp_self, and_false, false_and, forall_const, take_map_all, Nat.le_refl, Nat.reduceMul, Nat.reduceSub, List.length_cons, List.length_nil, List.length_map, List.length_set, List.all_cons, List.all_nil, Bool.and_self, Option.map_none, Option.map_some, List.set_cons_zero, List.set_cons_succ, Nat.lt_add_one, List.append_assoc, List.cons_append, List.nil_append, List.append_nil, List.length_append, List.take_zero, List.take_succ_cons, List.take_nil, List.drop_zero, List.drop_succ_cons, List.drop_nil, List.getElem?_cons_zero, List.getElem?_cons_succ, List.getElem?_map, Nat.reduceAdd, Nat.reduceLeDiff, Nat.add_eq_zero_iff, and_self, Nat.zero_add, Nat.add_zero, Nat.mul_one, Nat.one_mul, List.flatten_cons, List.flatten_nil, hx, hat, hst, hWl, hL, *]) | (simp only [zgoO, zgoG, zO_nil, zthen_normal, zgoC]) | (with_reducible apply And.intro) | (with_reducible intro _))
    rw [HW.out, ← wr_app w]
    refine value_z (w.app _) (by rw [HO.out]; omega) ?_
    rw [wr_app w]
    have fin : ∃ Y, wrH H i j (g + 1 + k + 1) (o ++ [boxW p.1 p.2]) (eNext E p.1 p.2) ++ (X ++ [ZB.box [Z64 p.1, Z64 p.2]]) = wrH H i j (g + 1 + (k + 1)) (o ++ [bw p]) (eNext E p.1 p.2) ++ Y := ⟨_, rfl⟩
    repeat' (first | (simp only [zmPack, zfree, owners, Nat.reduceLT, List.filter_cons, List.filter_nil, List.contains_cons, List.contains_nil, Nat.reduceBEq, Bool.or_false, Bool.or_true, Bool.false_or, Bool.true_or, BEq.rfl, chunk, setAt, List.lookup_cons, List.lookup_nil, ZV.val.injEq, ZV.ptr.injEq, ZV.own.injEq, ZV.fz.injEq, ZV.func.injEq, ZV.tuple.injEq, ZV.agg.injEq, ZB.box.injEq, ZB.grow.injEq, Bool.not_eq_false', Prod.mk.injEq, and_assoc, decide_false, decide_true, Bool.not_false, Bool.not_true, Bool.true_eq_false, Bool.false_eq_true, exists_false, Bool.not_eq_false, Bool.not_not, Value.bool.injEq, Value.int.injEq, Option.some.injEq, exists_eq_left', exists_eq_left, exists_and_left, exists_and_right, and_true, true_and, decide_eq_true_eq, decide_eq_false_iff_not, if_true, if_false, Bool.not_eq_true', beq_true, beq_false, ne_eq, not_true_eq_false, not_false_eq_true, reduceCtorEq, List.getD_cons_zero, List.getD_cons_succ, List.getD_nil, List.map_cons, List.map_nil, List.append_nil, Nat.reduceEqDiff, reduceIte, ite_true, ite_false, or_true, true_or, or_false, false_or, true_imp_iff, false_imp_iff, implies_true, imp_false, and_self, imp_self, and_false, false_and, forall_const, take_map_all, Nat.le_refl, Nat.reduceMul, Nat.reduceSub, List.length_cons, List.length_nil, List.length_map, List.length_set, List.all_cons, List.all_nil, Bool.and_self, Option.map_none, Option.map_some, List.set_cons_zero, List.set_cons_succ, Nat.lt_add_one, List.append_assoc, List.cons_append, List.nil_append, List.append_nil, List.length_append, List.take_zero, List.take_succ_cons, List.take_nil, List.drop_zero, List.drop_succ_cons, List.drop_nil, List.getElem?_cons_zero, List.getElem?_cons_succ, List.getElem?_map, Nat.reduceAdd, Nat.reduceLeDiff, Nat.add_eq_zero_iff, and_self, Nat.zero_add, Nat.add_zero, Nat.mul_one, Nat.one_mul, List.flatten_cons, List.flatten_nil, *]) | (simp only [zgoO, zgoG, zO_nil, zthen_normal, zgoC]) | (with_reducible apply And.intro) | (with_reducible intro _))
    trace_state
  · rintro s' h' ⟨X, rfl⟩ ⟨f0, f11, -⟩
    rw [List.take_of_length_le (Nat.le_refl _)]
    have fin2 := FF.out X
    repeat' (first | (simp only [zmPack, zfree, owners, Nat.reduceLT, List.filter_cons, List.filter_nil, List.contains_cons, List.contains_nil, Nat.reduceBEq, Bool.or_false, Bool.or_true, Bool.false_or, Bool.true_or, BEq.rfl, chunk, setAt, List.lookup_cons, List.lookup_nil, ZV.val.injEq, ZV.ptr.injEq, ZV.own.injEq, ZV.fz.injEq, ZV.func.injEq, ZV.tuple.injEq, ZV.agg.injEq, ZB.box.injEq, ZB.grow.injEq, Bool.not_eq_false', Prod.mk.injEq, and_assoc, decide_false, decide_true, Bool.not_false, Bool.not_true, Bool.true_eq_false, Bool.false_eq_true, exists_false, Bool.not_eq_false, Bool.not_not, Value.bool.injEq, Value.int.injEq, Option.some.injEq, exists_eq_left', exists_eq_left, exists_and_left, exists_and_right, and_true, true_and, decide_eq_true_eq, decide_eq_false_iff_not, if_true, if_false, Bool.not_eq_true', beq_true, beq_false, ne_eq, not_true_eq_false, not_false_eq_true, reduceCtorEq, List.getD_cons_zero, List.getD_cons_succ, List.getD_nil, List.map_cons, List.map_nil, List.append_nil, Nat.reduceEqDiff, reduceIte, ite_true, ite_false, or_true, true_or, or_false, false_or, true_imp_iff, false_imp_iff, implies_true, imp_false, and_self, imp_self, and_false, false_and, forall_const, take_map_all, Nat.le_refl, Nat.reduceMul, Nat.reduceSub, List.length_cons, List.length_nil, List.length_map, List.length_set, List.all_cons, List.all_nil, Bool.and_self, Option.map_none, Option.map_some, List.set_cons_zero, List.set_cons_succ, Nat.lt_add_one, List.append_assoc, List.cons_append, List.nil_append, List.append_nil, List.length_append, List.take_zero, List.take_succ_cons, List.take_nil, List.drop_zero, List.drop_succ_cons, List.drop_nil, List.getElem?_cons_zero, List.getElem?_cons_succ, List.getElem?_map, Nat.reduceAdd, Nat.reduceLeDiff, Nat.add_eq_zero_iff, and_self, Nat.zero_add, Nat.add_zero, Nat.mul_one, Nat.one_mul, List.flatten_cons, List.flatten_nil, zresults, zress, *]) | (simp only [zgoO, zgoG, zO_nil, zthen_normal, zgoC]) | (with_reducible apply And.intro) | (with_reducible intro _))
    trace_state
end Go.Proofs.Ytpmmiaadfnildaa

namespace Go.Proofs.Ytpmmiaadfnildaa
open Go Go.RowKit
set_option linter.unusedVariables false
set_option linter.unusedSimpArgs false
variable {tb : List (FuncId × Bool)} {L : Nat → Bool} {H : ZH} {K : ZV → ZH → Prop}
abbrev Fr := Int × Int × Int × Int × (Int × Int) × List (Int × Int) × List (Int × Int)
abbrev eF (f : Fr) : List ZV := [Z64 f.1, Z64 f.2.1, Z64 f.2.2.1, Z64 f.2.2.2.1, Z64 f.2.2.2.2.1.1, Z64 f.2.2.2.2.1.2, .fz 2 false (f.2.2.2.2.2.1.map eP), .fz 2 false (f.2.2.2.2.2.2.map eP)]
def tryO (l : List (Int × Int)) : List Int := l.flatMap fun t => [u64 t.1, u64 t.2]
def frO (f : Fr) : List Int := [u64 f.1, u64 f.2.1, u64 f.2.2.1, u64 f.2.2.2.1] ++ ([bw f.2.2.2.2.1] ++ (([u64 f.2.2.2.2.2.1.length] ++ f.2.2.2.2.2.1.map bw) ++ ([u64 f.2.2.2.2.2.2.length] ++ tryO f.2.2.2.2.2.2)))
def frE (e : Int) (f : Fr) : Int := eAll (eNext e f.2.2.2.2.1.1 f.2.2.2.2.1.2) f.2.2.2.2.2.1
theorem tryO_len (l : List (Int × Int)) : (tryO l).length = 2 * l.length := by
  induction l with
  | nil => rfl
  | cons a l ih => simp only [tryO, List.flatMap_cons, List.length_append, List.length_cons, List.length_nil] at ih ⊢; omega
theorem frO_len (f : Fr) : (frO f).length = 7 + f.2.2.2.2.2.1.length + 2 * f.2.2.2.2.2.2.length := by
  simp only [frO, List.length_append, List.length_cons, List.length_nil, List.length_map, tryO_len]; omega
section
variable {i j g : Nat} {o : List Int} {e : Int}
theorem wr_getY (w : WOk H L i j) (Y : ZH) (k : Nat) : (wrH (H ++ Y) i j g o e)[H.length + k]? = Y[k]? := by
  have := w.hi; have := w.hj
  unfold wrH
  rw [List.getElem?_set, if_neg (by omega), List.getElem?_set, if_neg (by omega), H_atK]
theorem wr_setY (w : WOk H L i j) (Y : ZH) (k : Nat) (B : ZB) : (wrH (H ++ Y) i j g o e).set (H.length + k) B = wrH (H ++ Y.set k B) i j g o e := by
  have := w.hi; have := w.hj
  unfold wrH
  rw [List.set_comm _ B (show j ≠ H.length + k by omega), List.set_comm _ B (show i ≠ H.length + k by omega), H_setK]
theorem wr_appY (w : WOk H L i j) (Y Z : ZH) : wrH (H ++ Y) i j g o e ++ Z = wrH (H ++ (Y ++ Z)) i j g o e := by rw [← wr_app (w.app Y), List.append_assoc]
end
/-- What a cell's frames tell. -/
def frsO (l : List Fr) : List Int := l.flatMap frO
def frsE (e : Int) (l : List Fr) : Int := l.foldl frE e
theorem frsO_take {l : List Fr} {k : Nat} (hk : k < l.length) : frsO (l.take (k + 1)) = frsO (l.take k) ++ frO l[k] := by
  unfold frsO; rw [List.take_succ_eq_append_getElem hk, List.flatMap_append]; simp
theorem frsE_take {e : Int} {l : List Fr} {k : Nat} (hk : k < l.length) : frsE e (l.take (k + 1)) = frE (frsE e (l.take k)) l[k] := by
  unfold frsE; rw [List.take_succ_eq_append_getElem hk, List.foldl_append]; rfl
theorem tryO_take {l : List (Int × Int)} {k : Nat} (hk : k < l.length) : tryO (l.take (k + 1)) = tryO (l.take k) ++ [u64 l[k].1, u64 l[k].2] := by
  unfold tryO; rw [List.take_succ_eq_append_getElem hk, List.flatMap_append]; simp
abbrev Cl := Int × Int × List (Int × Int) × List Fr
abbrev eC (c : Cl) : List ZV := [Z64 c.1, Z64 c.2.1, .fz 2 false (c.2.2.1.map eP), .fz 8 false (c.2.2.2.map eF)]
def cellO (c : Cl) : List Int := [u64 c.1, u64 c.2.1] ++ (([u64 c.2.2.1.length] ++ c.2.2.1.map bw) ++ ([u64 c.2.2.2.length] ++ frsO c.2.2.2))
def cellE (c : Cl) : Int := frsE (eAll 0 c.2.2.1) c.2.2.2

set_option maxHeartbeats 4000000 in
theorem cell_z {i j g : Nat} {out : List Int} {e : Int} {zf : ZV} {kd nm : Int} {exv : Bool} {vals : List (Int × Int)} {fs : List Fr} (w : WOk H L i j) (hL : ∀ k, L (H.length + k) = true) (hv : out.length + vals.length ≤ 10000) (hf : fs.length ≤ 30) (hfr : ∀ f ∈ fs, f.2.2.2.2.2.1.length ≤ 60 ∧ f.2.2.2.2.2.2.length ≤ 20)
    (hzf : zf = .fz 8 exv (fs.map eF))
    (hK : ∀ g', K (.tuple []) (wrH H i j g' (out ++ ([u64 kd, u64 nm] ++ (([u64 vals.length] ++ vals.map bw) ++ ([u64 fs.length] ++ frsO fs)))) (frsE (eAll e vals) fs))) {ex : Bool} :
    ZC (boxX tb) (cFunc Try.prog) 33 [.ptr i 0, .agg [Z64 kd, Z64 nm, .fz 2 ex (vals.map eP), zf]] L (wrH H i j g out e) K := by
  subst hzf
  refine ZC.enter Gh.no (boxX_none (by decide)) f_wo_cell (by simp) ?_
  simp only [c_wo_cell]
  have hA : ∀ X g o e, wrH H i j g o e ++ X = wrH (H ++ X) i j g o e := fun X g o e => (wr_app w X).symm
  have hA1 : ∀ Y Z g o e, wrH (H ++ Y) i j g o e ++ Z = wrH (H ++ (Y ++ Z)) i j g o e := fun Y Z g o e => wr_appY w Y Z
  have hG : ∀ Y k g o e, (wrH (H ++ Y) i j g o e)[H.length + k]? = Y[k]? := fun Y k g o e => wr_getY w Y k
  have hG0 : ∀ Y g o e, (wrH (H ++ Y) i j g o e)[H.length]? = Y[0]? := fun Y g o e => wr_getY w Y 0
  have hS : ∀ Y k B g o e, (wrH (H ++ Y) i j g o e).set (H.length + k) B = wrH (H ++ Y.set k B) i j g o e := fun Y k B g o e => wr_setY w Y k B
  have hlenW : ∀ Y g o e, (wrH (H ++ Y) i j g o e).length = H.length + Y.length := fun Y g o e => by rw [wr_len, List.length_append]
  have hlen0 : ∀ g o e, (wrH H i j g o e).length = H.length := fun g o e => wr_len
  have hLY : ∀ Y k, L ((H ++ Y).length + k) = true := fun Y k => by rw [List.length_append, Nat.add_assoc]; exact hL _
  have WW := Lib.hid w
  have FF := Lib.hid fun g' X => fin_wr (K := K) (X := X) (g := g) (out := out) (e := e) w (hK g')
  have HFR := Lib.hid hfr
  have HLY := Lib.hid hLY
  clear hK w hfr hLY
  repeat' (first | (simp only [zmPack, zfree, owners, Nat.reduceLT, List.filter_cons, List.filter_nil, List.contains_cons, List.contains_nil, Nat.reduceBEq, Bool.or_false, Bool.or_true, Bool.false_or, Bool.true_or, BEq.rfl, chunk, setAt, List.lookup_cons, List.lookup_nil, ZV.val.injEq, ZV.ptr.injEq, ZV.own.injEq, ZV.fz.injEq, ZV.func.injEq, ZV.tuple.injEq, ZV.agg.injEq, ZB.box.injEq, ZB.grow.injEq, Bool.not_eq_false', Prod.mk.injEq, and_assoc, decide_false, decide_true, Bool.not_false, Bool.not_true, Bool.true_eq_false, Bool.false_eq_true, exists_false, Bool.not_eq_false, Bool.not_not, Value.bool.injEq, Value.int.injEq, Option.some.injEq, exists_eq_left', exists_eq_left, exists_and_left, exists_and_right, and_true, true_and, decide_eq_true_eq, decide_eq_false_iff_not, if_true, if_false, Bool.not_eq_true', beq_true, beq_false, ne_eq, not_true_eq_false, not_false_eq_true, reduceCtorEq, List.getD_cons_zero, List.getD_cons_succ, List.getD_nil, List.map_cons, List.map_nil, List.append_nil, Nat.reduceEqDiff, reduceIte, ite_true, ite_false, or_true, true_or, or_false, false_or, true_imp_iff, false_imp_iff, implies_true, imp_false, and_self, imp_self, and_false, false_and, forall_const, take_map_all, Nat.le_refl, Nat.reduceMul, Nat.reduceSub, List.length_cons, List.length_nil, List.length_map, List.length_set, List.all_cons, List.all_nil, Bool.and_self, Option.map_none, Option.map_some, List.set_cons_zero, List.set_cons_succ, Nat.lt_add_one, List.append_assoc, List.cons_append, List.nil_append, List.append_nil, List.length_append, List.take_zero, List.take_succ_cons, List.take_nil, List.drop_zero, List.drop_succ_cons, List.drop_nil, List.getElem?_cons_zero, List.getElem?_cons_succ, List.getElem?_map, Nat.reduceAdd, Nat.reduceLeDiff, Nat.add_eq_zero_iff, and_self, Nat.zero_add, Nat.add_zero, Nat.mul_one, Nat.one_mul, List.flatten_cons, List.flatten_nil, hA, hA1, hG, hG0, hS, hlenW, hlen0, *]) | (simp only [zgoO, zgoG, zO_nil, zthen_normal, zgoC]) | (with_reducible apply And.intro) | (with_reducible intro _))
  refine numbers_z (l := [kd, nm]) (WW.out.app _) rows_fz (fun _ _ => rows_fz) (by simp; omega) ?_
  repeat' (first | (simp only [zmPack, zfree, owners, Nat.reduceLT, List.filter_cons, List.filter_nil, List.contains_cons, List.contains_nil, Nat.reduceBEq, Bool.or_false, Bool.or_true, Bool.false_or, Bool.true_or, BEq.rfl, chunk, setAt, List.lookup_cons, List.lookup_nil, ZV.val.injEq, ZV.ptr.injEq, ZV.own.injEq, ZV.fz.injEq, ZV.func.injEq, ZV.tuple.injEq, ZV.agg.injEq, ZB.box.injEq, ZB.grow.injEq, Bool.not_eq_false', Prod.mk.injEq, and_assoc, decide_false, decide_true, Bool.not_false, Bool.not_true, Bool.true_eq_false, Bool.false_eq_true, exists_false, Bool.not_eq_false, Bool.not_not, Value.bool.injEq, Value.int.injEq, Option.some.injEq, exists_eq_left', exists_eq_left, exists_and_left, exists_and_right, and_true, true_and, decide_eq_true_eq, decide_eq_false_iff_not, if_true, if_false, Bool.not_eq_true', beq_true, beq_false, ne_eq, not_true_eq_false, not_false_eq_true, reduceCtorEq, List.getD_cons_zero, List.getD_cons_succ, List.getD_nil, List.map_cons, List.map_nil, List.append_nil, Nat.reduceEqDiff, reduceIte, ite_true, ite_false, or_true, true_or, or_false, false_or, true_imp_iff, false_imp_iff, implies_true, imp_false, and_self, imp_self, and_false, false_and, forall_const, take_map_all, Nat.le_refl, Nat.reduceMul, Nat.reduceSub, List.length_cons, List.length_nil, List.length_map, List.length_set, List.all_cons, List.all_nil, Bool.and_self, Option.map_none, Option.map_some, List.set_cons_zero, List.set_cons_succ, Nat.lt_add_one, List.append_assoc, List.cons_append, List.nil_append, List.append_nil, List.length_append, List.take_zero, List.take_succ_cons, List.take_nil, List.drop_zero, List.drop_succ_cons, List.drop_nil, List.getElem?_cons_zero, List.getElem?_cons_succ, List.getElem?_map, Nat.reduceAdd, Nat.reduceLeDiff, Nat.add_eq_zero_iff, and_self, Nat.zero_add, Nat.add_zero, Nat.mul_one, Nat.one_mul, List.flatten_cons, List.flatten_nil, hA, hA1, hG, hG0, hS, hlenW, hlen0, *]) | (simp only [zgoO, zgoG, zO_nil, zthen_normal, zgoC]) | (with_reducible apply And.intro) | (with_reducible intro _))
  refine values_z (WW.out.app _) (HLY.out _) (by simp; omega) ?_
  repeat' (first | (simp only [zmPack, zfree, owners, Nat.reduceLT, List.filter_cons, List.filter_nil, List.contains_cons, List.contains_nil, Nat.reduceBEq, Bool.or_false, Bool.or_true, Bool.false_or, Bool.true_or, BEq.rfl, chunk, setAt, List.lookup_cons, List.lookup_nil, ZV.val.injEq, ZV.ptr.injEq, ZV.own.injEq, ZV.fz.injEq, ZV.func.injEq, ZV.tuple.injEq, ZV.agg.injEq, ZB.box.injEq, ZB.grow.injEq, Bool.not_eq_false', Prod.mk.injEq, and_assoc, decide_false, decide_true, Bool.not_false, Bool.not_true, Bool.true_eq_false, Bool.false_eq_true, exists_false, Bool.not_eq_false, Bool.not_not, Value.bool.injEq, Value.int.injEq, Option.some.injEq, exists_eq_left', exists_eq_left, exists_and_left, exists_and_right, and_true, true_and, decide_eq_true_eq, decide_eq_false_iff_not, if_true, if_false, Bool.not_eq_true', beq_true, beq_false, ne_eq, not_true_eq_false, not_false_eq_true, reduceCtorEq, List.getD_cons_zero, List.getD_cons_succ, List.getD_nil, List.map_cons, List.map_nil, List.append_nil, Nat.reduceEqDiff, reduceIte, ite_true, ite_false, or_true, true_or, or_false, false_or, true_imp_iff, false_imp_iff, implies_true, imp_false, and_self, imp_self, and_false, false_and, forall_const, take_map_all, Nat.le_refl, Nat.reduceMul, Nat.reduceSub, List.length_cons, List.length_nil, List.length_map, List.length_set, List.all_cons, List.all_nil, Bool.and_self, Option.map_none, Option.map_some, List.set_cons_zero, List.set_cons_succ, Nat.lt_add_one, List.append_assoc, List.cons_append, List.nil_append, List.append_nil, List.length_append, List.take_zero, List.take_succ_cons, List.take_nil, List.drop_zero, List.drop_succ_cons, List.drop_nil, List.getElem?_cons_zero, List.getElem?_cons_succ, List.getElem?_map, Nat.reduceAdd, Nat.reduceLeDiff, Nat.add_eq_zero_iff, and_self, Nat.zero_add, Nat.add_zero, Nat.mul_one, Nat.one_mul, List.flatten_cons, List.flatten_nil, hA, hA1, hG, hG0, hS, hlenW, hlen0, *]) | (simp only [zgoO, zgoG, zO_nil, zthen_normal, zgoC]) | (with_reducible apply And.intro) | (with_reducible intro _))
  refine numbers_z (l := [(fs.length : Int)]) (WW.out.app _) rows_fz (fun _ _ => rows_fz) (by simp; omega) ?_
  repeat' (first | (simp only [zmPack, zfree, owners, Nat.reduceLT, List.filter_cons, List.filter_nil, List.contains_cons, List.contains_nil, Nat.reduceBEq, Bool.or_false, Bool.or_true, Bool.false_or, Bool.true_or, BEq.rfl, chunk, setAt, List.lookup_cons, List.lookup_nil, ZV.val.injEq, ZV.ptr.injEq, ZV.own.injEq, ZV.fz.injEq, ZV.func.injEq, ZV.tuple.injEq, ZV.agg.injEq, ZB.box.injEq, ZB.grow.injEq, Bool.not_eq_false', Prod.mk.injEq, and_assoc, decide_false, decide_true, Bool.not_false, Bool.not_true, Bool.true_eq_false, Bool.false_eq_true, exists_false, Bool.not_eq_false, Bool.not_not, Value.bool.injEq, Value.int.injEq, Option.some.injEq, exists_eq_left', exists_eq_left, exists_and_left, exists_and_right, and_true, true_and, decide_eq_true_eq, decide_eq_false_iff_not, if_true, if_false, Bool.not_eq_true', beq_true, beq_false, ne_eq, not_true_eq_false, not_false_eq_true, reduceCtorEq, List.getD_cons_zero, List.getD_cons_succ, List.getD_nil, List.map_cons, List.map_nil, List.append_nil, Nat.reduceEqDiff, reduceIte, ite_true, ite_false, or_true, true_or, or_false, false_or, true_imp_iff, false_imp_iff, implies_true, imp_false, and_self, imp_self, and_false, false_and, forall_const, take_map_all, Nat.le_refl, Nat.reduceMul, Nat.reduceSub, List.length_cons, List.length_nil, List.length_map, List.length_set, List.all_cons, List.all_nil, Bool.and_self, Option.map_none, Option.map_some, List.set_cons_zero, List.set_cons_succ, Nat.lt_add_one, List.append_assoc, List.cons_append, List.nil_append, List.append_nil, List.length_append, List.take_zero, List.take_succ_cons, List.take_nil, List.drop_zero, List.drop_succ_cons, List.drop_nil, List.getElem?_cons_zero, List.getElem?_cons_succ, List.getElem?_map, Nat.reduceAdd, Nat.reduceLeDiff, Nat.add_eq_zero_iff, and_self, Nat.zero_add, Nat.add_zero, Nat.mul_one, Nat.one_mul, List.flatten_cons, List.flatten_nil, hA, hA1, hG, hG0, hS, hlenW, hlen0, *]) | (simp only [zgoO, zgoG, zO_nil, zthen_normal, zgoC]) | (with_reducible apply And.intro) | (with_reducible intro _))
  obtain ⟨o1, ho1⟩ : ∃ o1, o1 = (((out ++ [kd, nm].map u64) ++ [u64 vals.length]) ++ vals.map bw) ++ [(fs.length : Int)].map u64 := ⟨_, rfl⟩
  have hl1 : o1.length ≤ 20100 := by rw [ho1]; simp; omega
  have ho2 : ∀ r : List Int, out ++ ([u64 kd, u64 nm] ++ (([u64 vals.length] ++ vals.map bw) ++ ([u64 fs.length] ++ r))) = o1 ++ r := fun r => by rw [ho1]; simp [List.append_assoc]
  obtain ⟨e1, he1⟩ : ∃ e1, e1 = eAll e vals := ⟨_, rfl⟩
  have FF2 : Hid (∀ g' X, Fin (wrH H i j g out e) (.tuple []) (wrH H i j g' (o1 ++ frsO fs) (frsE e1 fs) ++ X) K) := fun g' X => by rw [← ho2, he1]; exact FF.out g' X
  refine zW_forK [(0, .ptr i 0), (26, .fz 8 exv (fs.map eF))] fs.length (fun k s' h' => ∃ g X, h' = wrH (H ++ (.box [Z64 kd, Z64 nm, .fz 2 ex (vals.map eP), .fz 8 exv (fs.map eF)] :: X)) i j g (o1 ++ frsO (fs.take k)) (frsE e1 (fs.take k))) (by omega) ⟨rfl, rfl, rfl, rfl, rfl, rfl⟩ rfl rfl (by repeat' (first | exact trivial | (refine ⟨rfl, ?_⟩) | (refine ⟨by simp only [zupd_at, Nat.reduceEqDiff, reduceIte]; assumption, ?_⟩))) rfl rfl (by decide) ⟨_, [], by rw [ho1, he1]; simp [frsO, frsE, List.append_assoc]; rfl⟩ ?_ ?_
  · clear FF ho2 hlen0 ho1 he1
    rintro k s' h' hk ⟨g1, X, rfl⟩ hi hl ⟨f0, f26, -⟩
    have hx : fs[k]? = some fs[k] := List.getElem?_eq_getElem hk
    have hfk := HFR.out _ (List.getElem_mem hk)
    have hlen : (frsO (fs.take k)).length ≤ 107 * k := by
      have key : ∀ l : List Fr, (∀ f ∈ l, f.2.2.2.2.2.1.length ≤ 60 ∧ f.2.2.2.2.2.2.length ≤ 20) → (frsO l).length ≤ 107 * l.length := fun l h => by
        induction l with
        | nil => simp [frsO]
        | cons f l ih =>
          have h1 := h f (by simp)
          have h2 := ih (fun x hx => h x (by simp [hx]))
          have h3 := frO_len f
          simp only [frsO, List.flatMap_cons, List.length_append, List.length_cons] at h2 ⊢
          omega
      have := key (fs.take k) (fun f h => HFR.out f (List.mem_of_mem_take h))
      rw [List.length_take, Nat.min_eq_left (by omega)] at this
      exact this
    rw [frsO_take hk, frsE_take hk]
    obtain ⟨f, hfe⟩ : ∃ f, f = fs[k] := ⟨_, rfl⟩
    obtain ⟨o, ho⟩ : ∃ o, o = o1 ++ frsO (fs.take k) := ⟨_, rfl⟩
    obtain ⟨E, hE⟩ : ∃ E, E = frsE e1 (fs.take k) := ⟨_, rfl⟩
    have hol : o.length ≤ 24000 := by rw [ho, List.length_append]; omega
    rw [← List.append_assoc, ← ho, ← hE, ← hfe]
    rw [← hfe] at hx hfk
    obtain ⟨a1, a2, a3, a4, ⟨a5, a6⟩, rg, tr⟩ := f
    obtain ⟨c1, c2⟩ := hfk
    dsimp only at c1 c2
    clear ho hE hfe hlen
    repeat' (first | (simp only [zmPack, zfree, owners, Nat.reduceLT, List.filter_cons, List.filter_nil, List.contains_cons, List.contains_nil, Nat.reduceBEq, Bool.or_false, Bool.or_true, Bool.false_or, Bool.true_or, BEq.rfl, chunk, setAt, List.lookup_cons, List.lookup_nil, ZV.val.injEq, ZV.ptr.injEq, ZV.own.injEq, ZV.fz.injEq, ZV.func.injEq, ZV.tuple.injEq, ZV.agg.injEq, ZB.box.injEq, ZB.grow.injEq, Bool.not_eq_false', Prod.mk.injEq, and_assoc, decide_false, decide_true, Bool.not_false, Bool.not_true, Bool.true_eq_false, Bool.false_eq_true, exists_false, Bool.not_eq_false, Bool.not_not, Value.bool.injEq, Value.int.injEq, Option.some.injEq, exists_eq_left', exists_eq_left, exists_and_left, exists_and_right, and_true, true_and, decide_eq_true_eq, decide_eq_false_iff_not, if_true, if_false, Bool.not_eq_true', beq_true, beq_false, ne_eq, not_true_eq_false, not_false_eq_true, reduceCtorEq, List.getD_cons_zero, List.getD_cons_succ, List.getD_nil, List.map_cons, List.map_nil, List.append_nil, Nat.reduceEqDiff, reduceIte, ite_true, ite_false, or_true, true_or, or_false, false_or, true_imp_iff, false_imp_iff, implies_true, imp_false, and_self, imp_self, and_false, false_and, forall_const, take_map_all, Nat.le_refl, Nat.reduceMul, Nat.reduceSub, List.length_cons, List.length_nil, List.length_map, List.length_set, List.all_cons, List.all_nil, Bool.and_self, Option.map_none, Option.map_some, List.set_cons_zero, List.set_cons_succ, Nat.lt_add_one, List.append_assoc, List.cons_append, List.nil_append, List.append_nil, List.length_append, List.take_zero, List.take_succ_cons, List.take_nil, List.drop_zero, List.drop_succ_cons, List.drop_nil, List.getElem?_cons_zero, List.getElem?_cons_succ, List.getElem?_map, Nat.reduceAdd, Nat.reduceLeDiff, Nat.add_eq_zero_iff, and_self, Nat.zero_add, Nat.add_zero, Nat.mul_one, Nat.one_mul, List.flatten_cons, List.flatten_nil, hx, hA, hA1, hG, hG0, hS, hlenW, hL, *]) | (simp only [zgoO, zgoG, zO_nil, zthen_normal, zgoC]) | (with_reducible apply And.intro) | (with_reducible intro _))
    refine numbers_z (l := [a1, a2, a3, a4]) (WW.out.app _) rows_fz (fun _ _ => rows_fz) (by simp; omega) ?_
    repeat' (first | (simp only [zmPack, zfree, owners, Nat.reduceLT, List.filter_cons, List.filter_nil, List.contains_cons, List.contains_nil, Nat.reduceBEq, Bool.or_false, Bool.or_true, Bool.false_or, Bool.true_or, BEq.rfl, chunk, setAt, List.lookup_cons, List.lookup_nil, ZV.val.injEq, ZV.ptr.injEq, ZV.own.injEq, ZV.fz.injEq, ZV.func.injEq, ZV.tuple.injEq, ZV.agg.injEq, ZB.box.injEq, ZB.grow.injEq, Bool.not_eq_false', Prod.mk.injEq, and_assoc, decide_false, decide_true, Bool.not_false, Bool.not_true, Bool.true_eq_false, Bool.false_eq_true, exists_false, Bool.not_eq_false, Bool.not_not, Value.bool.injEq, Value.int.injEq, Option.some.injEq, exists_eq_left', exists_eq_left, exists_and_left, exists_and_right, and_true, true_and, decide_eq_true_eq, decide_eq_false_iff_not, if_true, if_false, Bool.not_eq_true', beq_true, beq_false, ne_eq, not_true_eq_false, not_false_eq_true, reduceCtorEq, List.getD_cons_zero, List.getD_cons_succ, List.getD_nil, List.map_cons, List.map_nil, List.append_nil, Nat.reduceEqDiff, reduceIte, ite_true, ite_false, or_true, true_or, or_false, false_or, true_imp_iff, false_imp_iff, implies_true, imp_false, and_self, imp_self, and_false, false_and, forall_const, take_map_all, Nat.le_refl, Nat.reduceMul, Nat.reduceSub, List.length_cons, List.length_nil, List.length_map, List.length_set, List.all_cons, List.all_nil, Bool.and_self, Option.map_none, Option.map_some, List.set_cons_zero, List.set_cons_succ, Nat.lt_add_one, List.append_assoc, List.cons_append, List.nil_append, List.append_nil, List.length_append, List.take_zero, List.take_succ_cons, List.take_nil, List.drop_zero, List.drop_succ_cons, List.drop_nil, List.getElem?_cons_zero, List.getElem?_cons_succ, List.getElem?_map, Nat.reduceAdd, Nat.reduceLeDiff, Nat.add_eq_zero_iff, and_self, Nat.zero_add, Nat.add_zero, Nat.mul_one, Nat.one_mul, List.flatten_cons, List.flatten_nil, hA, hA1, hG, hG0, hS, hlenW, *]) | (simp only [zgoO, zgoG, zO_nil, zthen_normal, zgoC]) | (with_reducible apply And.intro) | (with_reducible intro _))
    refine value_z (WW.out.app _) (by simp; omega) ?_
    repeat' (first | (simp only [zmPack, zfree, owners, Nat.reduceLT, List.filter_cons, List.filter_nil, List.contains_cons, List.contains_nil, Nat.reduceBEq, Bool.or_false, Bool.or_true, Bool.false_or, Bool.true_or, BEq.rfl, chunk, setAt, List.lookup_cons, List.lookup_nil, ZV.val.injEq, ZV.ptr.injEq, ZV.own.injEq, ZV.fz.injEq, ZV.func.injEq, ZV.tuple.injEq, ZV.agg.injEq, ZB.box.injEq, ZB.grow.injEq, Bool.not_eq_false', Prod.mk.injEq, and_assoc, decide_false, decide_true, Bool.not_false, Bool.not_true, Bool.true_eq_false, Bool.false_eq_true, exists_false, Bool.not_eq_false, Bool.not_not, Value.bool.injEq, Value.int.injEq, Option.some.injEq, exists_eq_left', exists_eq_left, exists_and_left, exists_and_right, and_true, true_and, decide_eq_true_eq, decide_eq_false_iff_not, if_true, if_false, Bool.not_eq_true', beq_true, beq_false, ne_eq, not_true_eq_false, not_false_eq_true, reduceCtorEq, List.getD_cons_zero, List.getD_cons_succ, List.getD_nil, List.map_cons, List.map_nil, List.append_nil, Nat.reduceEqDiff, reduceIte, ite_true, ite_false, or_true, true_or, or_false, false_or, true_imp_iff, false_imp_iff, implies_true, imp_false, and_self, imp_self, and_false, false_and, forall_const, take_map_all, Nat.le_refl, Nat.reduceMul, Nat.reduceSub, List.length_cons, List.length_nil, List.length_map, List.length_set, List.all_cons, List.all_nil, Bool.and_self, Option.map_none, Option.map_some, List.set_cons_zero, List.set_cons_succ, Nat.lt_add_one, List.append_assoc, List.cons_append, List.nil_append, List.append_nil, List.length_append, List.take_zero, List.take_succ_cons, List.take_nil, List.drop_zero, List.drop_succ_cons, List.drop_nil, List.getElem?_cons_zero, List.getElem?_cons_succ, List.getElem?_map, Nat.reduceAdd, Nat.reduceLeDiff, Nat.add_eq_zero_iff, and_self, Nat.zero_add, Nat.add_zero, Nat.mul_one, Nat.one_mul, List.flatten_cons, List.flatten_nil, hA, hA1, hG, hG0, hS, hlenW, *]) | (simp only [zgoO, zgoG, zO_nil, zthen_normal, zgoC]) | (with_reducible apply And.intro) | (with_reducible intro _))
    refine values_z (WW.out.app _) (HLY.out _) (by simp; omega) ?_
    repeat' (first | (simp only [zmPack, zfree, owners, Nat.reduceLT, List.filter_cons, List.filter_nil, List.contains_cons, List.contains_nil, Nat.reduceBEq, Bool.or_false, Bool.or_true, Bool.false_or, Bool.true_or, BEq.rfl, chunk, setAt, List.lookup_cons, List.lookup_nil, ZV.val.injEq, ZV.ptr.injEq, ZV.own.injEq, ZV.fz.injEq, ZV.func.injEq, ZV.tuple.injEq, ZV.agg.injEq, ZB.box.injEq, ZB.grow.injEq, Bool.not_eq_false', Prod.mk.injEq, and_assoc, decide_false, decide_true, Bool.not_false, Bool.not_true, Bool.true_eq_false, Bool.false_eq_true, exists_false, Bool.not_eq_false, Bool.not_not, Value.bool.injEq, Value.int.injEq, Option.some.injEq, exists_eq_left', exists_eq_left, exists_and_left, exists_and_right, and_true, true_and, decide_eq_true_eq, decide_eq_false_iff_not, if_true, if_false, Bool.not_eq_true', beq_true, beq_false, ne_eq, not_true_eq_false, not_false_eq_true, reduceCtorEq, List.getD_cons_zero, List.getD_cons_succ, List.getD_nil, List.map_cons, List.map_nil, List.append_nil, Nat.reduceEqDiff, reduceIte, ite_true, ite_false, or_true, true_or, or_false, false_or, true_imp_iff, false_imp_iff, implies_true, imp_false, and_self, imp_self, and_false, false_and, forall_const, take_map_all, Nat.le_refl, Nat.reduceMul, Nat.reduceSub, List.length_cons, List.length_nil, List.length_map, List.length_set, List.all_cons, List.all_nil, Bool.and_self, Option.map_none, Option.map_some, List.set_cons_zero, List.set_cons_succ, Nat.lt_add_one, List.append_assoc, List.cons_append, List.nil_append, List.append_nil, List.length_append, List.take_zero, List.take_succ_cons, List.take_nil, List.drop_zero, List.drop_succ_cons, List.drop_nil, List.getElem?_cons_zero, List.getElem?_cons_succ, List.getElem?_map, Nat.reduceAdd, Nat.reduceLeDiff, Nat.add_eq_zero_iff, and_self, Nat.zero_add, Nat.add_zero, Nat.mul_one, Nat.one_mul, List.flatten_cons, List.flatten_nil, hA, hA1, hG, hG0, hS, hlenW, *]) | (simp only [zgoO, zgoG, zO_nil, zthen_normal, zgoC]) | (with_reducible apply And.intro) | (with_reducible intro _))
    refine numbers_z (l := [(tr.length : Int)]) (WW.out.app _) rows_fz (fun _ _ => rows_fz) (by simp; omega) ?_
    repeat' (first | (simp only [zmPack, zfree, owners, Nat.reduceLT, List.filter_cons, List.filter_nil, List.contains_cons, List.contains_nil, Nat.reduceBEq, Bool.or_false, Bool.or_true, Bool.false_or, Bool.true_or, BEq.rfl, chunk, setAt, List.lookup_cons, List.lookup_nil, ZV.val.injEq, ZV.ptr.injEq, ZV.own.injEq, ZV.fz.injEq, ZV.func.injEq, ZV.tuple.injEq, ZV.agg.injEq, ZB.box.injEq, ZB.grow.injEq, Bool.not_eq_false', Prod.mk.injEq, and_assoc, decide_false, decide_true, Bool.not_false, Bool.not_true, Bool.true_eq_false, Bool.false_eq_true, exists_false, Bool.not_eq_false, Bool.not_not, Value.bool.injEq, Value.int.injEq, Option.some.injEq, exists_eq_left', exists_eq_left, exists_and_left, exists_and_right, and_true, true_and, decide_eq_true_eq, decide_eq_false_iff_not, if_true, if_false, Bool.not_eq_true', beq_true, beq_false, ne_eq, not_true_eq_false, not_false_eq_true, reduceCtorEq, List.getD_cons_zero, List.getD_cons_succ, List.getD_nil, List.map_cons, List.map_nil, List.append_nil, Nat.reduceEqDiff, reduceIte, ite_true, ite_false, or_true, true_or, or_false, false_or, true_imp_iff, false_imp_iff, implies_true, imp_false, and_self, imp_self, and_false, false_and, forall_const, take_map_all, Nat.le_refl, Nat.reduceMul, Nat.reduceSub, List.length_cons, List.length_nil, List.length_map, List.length_set, List.all_cons, List.all_nil, Bool.and_self, Option.map_none, Option.map_some, List.set_cons_zero, List.set_cons_succ, Nat.lt_add_one, List.append_assoc, List.cons_append, List.nil_append, List.append_nil, List.length_append, List.take_zero, List.take_succ_cons, List.take_nil, List.drop_zero, List.drop_succ_cons, List.drop_nil, List.getElem?_cons_zero, List.getElem?_cons_succ, List.getElem?_map, Nat.reduceAdd, Nat.reduceLeDiff, Nat.add_eq_zero_iff, and_self, Nat.zero_add, Nat.add_zero, Nat.mul_one, Nat.one_mul, List.flatten_cons, List.flatten_nil, hA, hA1, hG, hG0, hS, hlenW, *]) | (simp only [zgoO, zgoG, zO_nil, zthen_normal, zgoC]) | (with_reducible apply And.intro) | (with_reducible intro _))
    obtain ⟨o2, ho2⟩ : ∃ o2, o2 = ((((o ++ [a1, a2, a3, a4].map u64) ++ [boxW a5 a6]) ++ [u64 rg.length]) ++ rg.map bw) ++ [(tr.length : Int)].map u64 := ⟨_, rfl⟩
    have hl2 : o2.length ≤ 25000 := by rw [ho2]; simp; omega
    have hO2 : o2 ++ tryO tr = o ++ frO (a1, a2, a3, a4, (a5, a6), rg, tr) := by rw [ho2]; simp [frO, bw, List.append_assoc]
    have HO2 := Lib.hid hO2
    obtain ⟨E2, hE2⟩ : ∃ E2, E2 = eAll (eNext E a5 a6) rg := ⟨_, rfl⟩
    have HE2 := Lib.hid hE2
    refine zW_forK [(0, .ptr i 0), (58, .fz 2 false (tr.map eP))] tr.length (fun m s' h' => ∃ g Z, h' = wrH (H ++ (.box [Z64 kd, Z64 nm, .fz 2 ex (vals.map eP), .fz 8 exv (fs.map eF)] :: (X ++ (.box [Z64 a1, Z64 a2, Z64 a3, Z64 a4, Z64 a5, Z64 a6, .fz 2 false (rg.map eP), .fz 2 false (tr.map eP)] :: Z)))) i j g (o2 ++ tryO (tr.take m)) E2) (by omega) ⟨rfl, rfl, rfl, rfl, rfl, rfl⟩ rfl rfl (by repeat' (first | exact trivial | (refine ⟨rfl, ?_⟩) | (refine ⟨by simp only [zupd_at, Nat.reduceEqDiff, reduceIte]; assumption, ?_⟩))) rfl rfl (by decide) ⟨_, [], by rw [ho2, hE2]; simp [tryO, List.append_assoc]; rfl⟩ ?_ ?_
    · clear ho2 hO2 hE2 hx
      rintro m s3 h3 hm ⟨g3, Z, rfl⟩ hi3 hl3 ⟨g0, g58, -⟩
      have hy : tr[m]? = some tr[m] := List.getElem?_eq_getElem hm
      rw [tryO_take hm]
      obtain ⟨t, ht⟩ : ∃ t, t = tr[m] := ⟨_, rfl⟩
      have hq : (o2 ++ tryO (tr.take m)).length ≤ 26000 := by rw [List.length_append, tryO_len, List.length_take]; omega
      obtain ⟨q, hqe⟩ : ∃ q, q = o2 ++ tryO (tr.take m) := ⟨_, rfl⟩
      rw [← List.append_assoc, ← hqe, ← ht]
      rw [← ht] at hy
      rw [← hqe] at hq
      obtain ⟨t1, t2⟩ := t
      clear ht hqe
      repeat' (first | (simp only [zmPack, zfree, owners, Nat.reduceLT, List.filter_cons, List.filter_nil, List.contains_cons, List.contains_nil, Nat.reduceBEq, Bool.or_false, Bool.or_true, Bool.false_or, Bool.true_or, BEq.rfl, chunk, setAt, List.lookup_cons, List.lookup_nil, ZV.val.injEq, ZV.ptr.injEq, ZV.own.injEq, ZV.fz.injEq, ZV.func.injEq, ZV.tuple.injEq, ZV.agg.injEq, ZB.box.injEq, ZB.grow.injEq, Bool.not_eq_false', Prod.mk.injEq, and_assoc, decide_false, decide_true, Bool.not_false, Bool.not_true, Bool.true_eq_false, Bool.false_eq_true, exists_false, Bool.not_eq_false, Bool.not_not, Value.bool.injEq, Value.int.injEq, Option.some.injEq, exists_eq_left', exists_eq_left, exists_and_left, exists_and_right, and_true, true_and, decide_eq_true_eq, decide_eq_false_iff_not, if_true, if_false, Bool.not_eq_true', beq_true, beq_false, ne_eq, not_true_eq_false, not_false_eq_true, reduceCtorEq, List.getD_cons_zero, List.getD_cons_succ, List.getD_nil, List.map_cons, List.map_nil, List.append_nil, Nat.reduceEqDiff, reduceIte, ite_true, ite_false, or_true, true_or, or_false, false_or, true_imp_iff, false_imp_iff, implies_true, imp_false, and_self, imp_self, and_false, false_and, forall_const, take_map_all, Nat.le_refl, Nat.reduceMul, Nat.reduceSub, List.length_cons, List.length_nil, List.length_map, List.length_set, List.all_cons, List.all_nil, Bool.and_self, Option.map_none, Option.map_some, List.set_cons_zero, List.set_cons_succ, Nat.lt_add_one, List.append_assoc, List.cons_append, List.nil_append, List.append_nil, List.length_append, List.take_zero, List.take_succ_cons, List.take_nil, List.drop_zero, List.drop_succ_cons, List.drop_nil, List.getElem?_cons_zero, List.getElem?_cons_succ, List.getElem?_map, Nat.reduceAdd, Nat.reduceLeDiff, Nat.add_eq_zero_iff, and_self, Nat.zero_add, Nat.add_zero, Nat.mul_one, Nat.one_mul, List.flatten_cons, List.flatten_nil, hy, hA, hA1, hG, hG0, hS, hlenW, hL, *]) | (simp only [zgoO, zgoG, zO_nil, zthen_normal, zgoC]) | (with_reducible apply And.intro) | (with_reducible intro _))
      refine numbers_z (l := [t1, t2]) (WW.out.app _) rows_fz (fun _ _ => rows_fz) (by simp; omega) ?_
      repeat' (first | (simp only [zmPack, zfree, owners, Nat.reduceLT, List.filter_cons, List.filter_nil, List.contains_cons, List.contains_nil, Nat.reduceBEq, Bool.or_false, Bool.or_true, Bool.false_or, Bool.true_or, BEq.rfl, chunk, setAt, List.lookup_cons, List.lookup_nil, ZV.val.injEq, ZV.ptr.injEq, ZV.own.injEq, ZV.fz.injEq, ZV.func.injEq, ZV.tuple.injEq, ZV.agg.injEq, ZB.box.injEq, ZB.grow.injEq, Bool.not_eq_false', Prod.mk.injEq, and_assoc, decide_false, decide_true, Bool.not_false, Bool.not_true, Bool.true_eq_false, Bool.false_eq_true, exists_false, Bool.not_eq_false, Bool.not_not, Value.bool.injEq, Value.int.injEq, Option.some.injEq, exists_eq_left', exists_eq_left, exists_and_left, exists_and_right, and_true, true_and, decide_eq_true_eq, decide_eq_false_iff_not, if_true, if_false, Bool.not_eq_true', beq_true, beq_false, ne_eq, not_true_eq_false, not_false_eq_true, reduceCtorEq, List.getD_cons_zero, List.getD_cons_succ, List.getD_nil, List.map_cons, List.map_nil, List.append_nil, Nat.reduceEqDiff, reduceIte, ite_true, ite_false, or_true, true_or, or_false, false_or, true_imp_iff, false_imp_iff, implies_true, imp_false, and_self, imp_self, and_false, false_and, forall_const, take_map_all, Nat.le_refl, Nat.reduceMul, Nat.reduceSub, List.length_cons, List.length_nil, List.length_map, List.length_set, List.all_cons, List.all_nil, Bool.and_self, Option.map_none, Option.map_some, List.set_cons_zero, List.set_cons_succ, Nat.lt_add_one, List.append_assoc, List.cons_append, List.nil_append, List.append_nil, List.length_append, List.take_zero, List.take_succ_cons, List.take_nil, List.drop_zero, List.drop_succ_cons, List.drop_nil, List.getElem?_cons_zero, List.getElem?_cons_succ, List.getElem?_map, Nat.reduceAdd, Nat.reduceLeDiff, Nat.add_eq_zero_iff, and_self, Nat.zero_add, Nat.add_zero, Nat.mul_one, Nat.one_mul, List.flatten_cons, List.flatten_nil, hA, hA1, hG, hG0, hS, hlenW, *]) | (simp only [zgoO, zgoG, zO_nil, zthen_normal, zgoC]) | (with_reducible apply And.intro) | (with_reducible intro _))
      exact ⟨_, _, rfl⟩
    · clear ho2 hO2 hE2 hx
      rintro s3 h3 ⟨g3, Z, rfl⟩ ⟨g0, g58, -⟩
      rw [List.take_of_length_le (Nat.le_refl _), HO2.out, HE2.out]
      repeat' (first | (simp only [zmPack, zfree, owners, Nat.reduceLT, List.filter_cons, List.filter_nil, List.contains_cons, List.contains_nil, Nat.reduceBEq, Bool.or_false, Bool.or_true, Bool.false_or, Bool.true_or, BEq.rfl, chunk, setAt, List.lookup_cons, List.lookup_nil, ZV.val.injEq, ZV.ptr.injEq, ZV.own.injEq, ZV.fz.injEq, ZV.func.injEq, ZV.tuple.injEq, ZV.agg.injEq, ZB.box.injEq, ZB.grow.injEq, Bool.not_eq_false', Prod.mk.injEq, and_assoc, decide_false, decide_true, Bool.not_false, Bool.not_true, Bool.true_eq_false, Bool.false_eq_true, exists_false, Bool.not_eq_false, Bool.not_not, Value.bool.injEq, Value.int.injEq, Option.some.injEq, exists_eq_left', exists_eq_left, exists_and_left, exists_and_right, and_true, true_and, decide_eq_true_eq, decide_eq_false_iff_not, if_true, if_false, Bool.not_eq_true', beq_true, beq_false, ne_eq, not_true_eq_false, not_false_eq_true, reduceCtorEq, List.getD_cons_zero, List.getD_cons_succ, List.getD_nil, List.map_cons, List.map_nil, List.append_nil, Nat.reduceEqDiff, reduceIte, ite_true, ite_false, or_true, true_or, or_false, false_or, true_imp_iff, false_imp_iff, implies_true, imp_false, and_self, imp_self, and_false, false_and, forall_const, take_map_all, Nat.le_refl, Nat.reduceMul, Nat.reduceSub, List.length_cons, List.length_nil, List.length_map, List.length_set, List.all_cons, List.all_nil, Bool.and_self, Option.map_none, Option.map_some, List.set_cons_zero, List.set_cons_succ, Nat.lt_add_one, List.append_assoc, List.cons_append, List.nil_append, List.append_nil, List.length_append, List.take_zero, List.take_succ_cons, List.take_nil, List.drop_zero, List.drop_succ_cons, List.drop_nil, List.getElem?_cons_zero, List.getElem?_cons_succ, List.getElem?_map, Nat.reduceAdd, Nat.reduceLeDiff, Nat.add_eq_zero_iff, and_self, Nat.zero_add, Nat.add_zero, Nat.mul_one, Nat.one_mul, List.flatten_cons, List.flatten_nil, *]) | (simp only [zgoO, zgoG, zO_nil, zthen_normal, zgoC]) | (with_reducible apply And.intro) | (with_reducible intro _))
      exact ⟨g3, _, rfl⟩
  · clear FF ho2 hlen0 ho1 he1
    rintro s' h' ⟨g1, X, rfl⟩ ⟨f0, f26, -⟩
    rw [List.take_of_length_le (Nat.le_refl _), wr_app WW.out]
    have fin := FF2.out g1 (.box [Z64 kd, Z64 nm, .fz 2 ex (vals.map eP), .fz 8 exv (fs.map eF)] :: X)
    clear hA hA1 hG hG0 hS hlenW
    repeat' (first | (simp only [zmPack, zfree, owners, Nat.reduceLT, List.filter_cons, List.filter_nil, List.contains_cons, List.contains_nil, Nat.reduceBEq, Bool.or_false, Bool.or_true, Bool.false_or, Bool.true_or, BEq.rfl, chunk, setAt, List.lookup_cons, List.lookup_nil, ZV.val.injEq, ZV.ptr.injEq, ZV.own.injEq, ZV.fz.injEq, ZV.func.injEq, ZV.tuple.injEq, ZV.agg.injEq, ZB.box.injEq, ZB.grow.injEq, Bool.not_eq_false', Prod.mk.injEq, and_assoc, decide_false, decide_true, Bool.not_false, Bool.not_true, Bool.true_eq_false, Bool.false_eq_true, exists_false, Bool.not_eq_false, Bool.not_not, Value.bool.injEq, Value.int.injEq, Option.some.injEq, exists_eq_left', exists_eq_left, exists_and_left, exists_and_right, and_true, true_and, decide_eq_true_eq, decide_eq_false_iff_not, if_true, if_false, Bool.not_eq_true', beq_true, beq_false, ne_eq, not_true_eq_false, not_false_eq_true, reduceCtorEq, List.getD_cons_zero, List.getD_cons_succ, List.getD_nil, List.map_cons, List.map_nil, List.append_nil, Nat.reduceEqDiff, reduceIte, ite_true, ite_false, or_true, true_or, or_false, false_or, true_imp_iff, false_imp_iff, implies_true, imp_false, and_self, imp_self, and_false, false_and, forall_const, take_map_all, Nat.le_refl, Nat.reduceMul, Nat.reduceSub, List.length_cons, List.length_nil, List.length_map, List.length_set, List.all_cons, List.all_nil, Bool.and_self, Option.map_none, Option.map_some, List.set_cons_zero, List.set_cons_succ, Nat.lt_add_one, List.append_assoc, List.cons_append, List.nil_append, List.append_nil, List.length_append, List.take_zero, List.take_succ_cons, List.take_nil, List.drop_zero, List.drop_succ_cons, List.drop_nil, List.getElem?_cons_zero, List.getElem?_cons_succ, List.getElem?_map, Nat.reduceAdd, Nat.reduceLeDiff, Nat.add_eq_zero_iff, and_self, Nat.zero_add, Nat.add_zero, Nat.mul_one, Nat.one_mul, List.flatten_cons, List.flatten_nil, zresults, zress, *]) | (simp only [zgoO, zgoG, zO_nil, zthen_normal, zgoC]) | (with_reducible apply And.intro) | (with_reducible intro _))
end Go.Proofs.Ytpmmiaadfnildaa

namespace Go.Proofs.Ytpmmiaadfnildaa
open Go Go.RowKit
set_option linter.unusedVariables false
set_option linter.unusedSimpArgs false
variable {tb : List (FuncId × Bool)} {L : Nat → Bool} {H : ZH} {K : ZV → ZH → Prop}
def mostI (k : Int) : Int := if k = 7 then 600 else 100
def bigF (f : Fr) : Bool := decide ((60 : Int) < f.2.2.2.2.2.1.length) || decide ((20 : Int) < f.2.2.2.2.2.2.length)
def largeB (kd : Int) (vals : List (Int × Int)) (fs : List Fr) : Bool := fs.any bigF || (decide (mostI kd < vals.length) || decide ((30 : Int) < fs.length))
theorem most_z {k : Int} (hK : K (Z64 (mostI k)) H) : ZC (boxX tb) (cFunc Try.prog) 48 [Z64 k] L H K := by
  refine ZC.enter Gh.no (boxX_none (by decide)) f_wo_most (by simp) ?_
  simp only [c_wo_most]
  by_cases h : k = 7
  · have fin := Fin.keep (H0 := H) (show K (Z64 600) H by unfold mostI at hK; rwa [if_pos h] at hK)
    clear hK
    repeat' (first | (simp only [zmPack, zfree, owners, Nat.reduceLT, List.filter_cons, List.filter_nil, List.contains_cons, List.contains_nil, Nat.reduceBEq, Bool.or_false, Bool.or_true, Bool.false_or, Bool.true_or, BEq.rfl, chunk, setAt, List.lookup_cons, List.lookup_nil, ZV.val.injEq, ZV.ptr.injEq, ZV.own.injEq, ZV.fz.injEq, ZV.func.injEq, ZV.tuple.injEq, ZV.agg.injEq, ZB.box.injEq, ZB.grow.injEq, Bool.not_eq_false', Prod.mk.injEq, and_assoc, decide_false, decide_true, Bool.not_false, Bool.not_true, Bool.true_eq_false, Bool.false_eq_true, exists_false, Bool.not_eq_false, Bool.not_not, Value.bool.injEq, Value.int.injEq, Option.some.injEq, exists_eq_left', exists_eq_left, exists_and_left, exists_and_right, and_true, true_and, decide_eq_true_eq, decide_eq_false_iff_not, if_true, if_false, Bool.not_eq_true', beq_true, beq_false, ne_eq, not_true_eq_false, not_false_eq_true, reduceCtorEq, List.getD_cons_zero, List.getD_cons_succ, List.getD_nil, List.map_cons, List.map_nil, List.append_nil, Nat.reduceEqDiff, reduceIte, ite_true, ite_false, or_true, true_or, or_false, false_or, true_imp_iff, false_imp_iff, implies_true, imp_false, and_self, imp_self, and_false, false_and, forall_const, take_map_all, Nat.le_refl, Nat.reduceMul, Nat.reduceSub, List.length_cons, List.length_nil, List.length_map, List.length_set, List.all_cons, List.all_nil, Bool.and_self, Option.map_none, Option.map_some, List.set_cons_zero, List.set_cons_succ, Nat.lt_add_one, List.append_assoc, List.cons_append, List.nil_append, List.append_nil, List.length_append, List.take_zero, List.take_succ_cons, List.take_nil, List.drop_zero, List.drop_succ_cons, List.drop_nil, List.getElem?_cons_zero, List.getElem?_cons_succ, List.getElem?_map, Nat.reduceAdd, Nat.reduceLeDiff, Nat.add_eq_zero_iff, and_self, Nat.zero_add, Nat.add_zero, Nat.mul_one, Nat.one_mul, List.flatten_cons, List.flatten_nil, *]) | (simp only [zgoO, zgoG, zO_nil, zthen_normal, zgoC]) | (with_reducible apply And.intro) | (with_reducible intro _))
  · have fin := Fin.keep (H0 := H) (show K (Z64 100) H by unfold mostI at hK; rwa [if_neg h] at hK)
    clear hK
    repeat' (first | (simp only [zmPack, zfree, owners, Nat.reduceLT, List.filter_cons, List.filter_nil, List.contains_cons, List.contains_nil, Nat.reduceBEq, Bool.or_false, Bool.or_true, Bool.false_or, Bool.true_or, BEq.rfl, chunk, setAt, List.lookup_cons, List.lookup_nil, ZV.val.injEq, ZV.ptr.injEq, ZV.own.injEq, ZV.fz.injEq, ZV.func.injEq, ZV.tuple.injEq, ZV.agg.injEq, ZB.box.injEq, ZB.grow.injEq, Bool.not_eq_false', Prod.mk.injEq, and_assoc, decide_false, decide_true, Bool.not_false, Bool.not_true, Bool.true_eq_false, Bool.false_eq_true, exists_false, Bool.not_eq_false, Bool.not_not, Value.bool.injEq, Value.int.injEq, Option.some.injEq, exists_eq_left', exists_eq_left, exists_and_left, exists_and_right, and_true, true_and, decide_eq_true_eq, decide_eq_false_iff_not, if_true, if_false, Bool.not_eq_true', beq_true, beq_false, ne_eq, not_true_eq_false, not_false_eq_true, reduceCtorEq, List.getD_cons_zero, List.getD_cons_succ, List.getD_nil, List.map_cons, List.map_nil, List.append_nil, Nat.reduceEqDiff, reduceIte, ite_true, ite_false, or_true, true_or, or_false, false_or, true_imp_iff, false_imp_iff, implies_true, imp_false, and_self, imp_self, and_false, false_and, forall_const, take_map_all, Nat.le_refl, Nat.reduceMul, Nat.reduceSub, List.length_cons, List.length_nil, List.length_map, List.length_set, List.all_cons, List.all_nil, Bool.and_self, Option.map_none, Option.map_some, List.set_cons_zero, List.set_cons_succ, Nat.lt_add_one, List.append_assoc, List.cons_append, List.nil_append, List.append_nil, List.length_append, List.take_zero, List.take_succ_cons, List.take_nil, List.drop_zero, List.drop_succ_cons, List.drop_nil, List.getElem?_cons_zero, List.getElem?_cons_succ, List.getElem?_map, Nat.reduceAdd, Nat.reduceLeDiff, Nat.add_eq_zero_iff, and_self, Nat.zero_add, Nat.add_zero, Nat.mul_one, Nat.one_mul, List.flatten_cons, List.flatten_nil, *]) | (simp only [zgoO, zgoG, zO_nil, zthen_normal, zgoC]) | (with_reducible apply And.intro) | (with_reducible intro _))
set_option maxHeartbeats 2000000 in
theorem large_z {kd nm : Int} {exv exf : Bool} {vals : List (Int × Int)} {fs : List Fr} (hfl : fs.length ≤ 100000000000000) (hK : K (ZBo (largeB kd vals fs)) H) :
    ZC (boxX tb) (cFunc Try.prog) 32 [.agg [Z64 kd, Z64 nm, .fz 2 exv (vals.map eP), .fz 8 exf (fs.map eF)]] L H K := by
  refine ZC.enterL Gh.no (boxX_none (by decide)) f_wo_large (by simp) fun hL => ?_
  simp only [c_wo_large]
  have hF : ∀ X b, largeB kd vals fs = b → Fin H (ZBo b) (H ++ X) K := fun X b hb => Fin.trunc (Mods.ext H X) rfl (by rw [List.take_left, ← hb]; exact hK)
  have HF := Lib.hid hF
  clear hF hK
  repeat' (first | (simp only [zmPack, zfree, owners, Nat.reduceLT, List.filter_cons, List.filter_nil, List.contains_cons, List.contains_nil, Nat.reduceBEq, Bool.or_false, Bool.or_true, Bool.false_or, Bool.true_or, BEq.rfl, chunk, setAt, List.lookup_cons, List.lookup_nil, ZV.val.injEq, ZV.ptr.injEq, ZV.own.injEq, ZV.fz.injEq, ZV.func.injEq, ZV.tuple.injEq, ZV.agg.injEq, ZB.box.injEq, ZB.grow.injEq, Bool.not_eq_false', Prod.mk.injEq, and_assoc, decide_false, decide_true, Bool.not_false, Bool.not_true, Bool.true_eq_false, Bool.false_eq_true, exists_false, Bool.not_eq_false, Bool.not_not, Value.bool.injEq, Value.int.injEq, Option.some.injEq, exists_eq_left', exists_eq_left, exists_and_left, exists_and_right, and_true, true_and, decide_eq_true_eq, decide_eq_false_iff_not, if_true, if_false, Bool.not_eq_true', beq_true, beq_false, ne_eq, not_true_eq_false, not_false_eq_true, reduceCtorEq, List.getD_cons_zero, List.getD_cons_succ, List.getD_nil, List.map_cons, List.map_nil, List.append_nil, Nat.reduceEqDiff, reduceIte, ite_true, ite_false, or_true, true_or, or_false, false_or, true_imp_iff, false_imp_iff, implies_true, imp_false, and_self, imp_self, and_false, false_and, forall_const, take_map_all, Nat.le_refl, Nat.reduceMul, Nat.reduceSub, List.length_cons, List.length_nil, List.length_map, List.length_set, List.all_cons, List.all_nil, Bool.and_self, Option.map_none, Option.map_some, List.set_cons_zero, List.set_cons_succ, Nat.lt_add_one, List.append_assoc, List.cons_append, List.nil_append, List.append_nil, List.length_append, List.take_zero, List.take_succ_cons, List.take_nil, List.drop_zero, List.drop_succ_cons, List.drop_nil, List.getElem?_cons_zero, List.getElem?_cons_succ, List.getElem?_map, Nat.reduceAdd, Nat.reduceLeDiff, Nat.add_eq_zero_iff, and_self, Nat.zero_add, Nat.add_zero, Nat.mul_one, Nat.one_mul, List.flatten_cons, List.flatten_nil, *]) | (simp only [zgoO, zgoG, zO_nil, zthen_normal, zgoC]) | (with_reducible apply And.intro) | (with_reducible intro _))
  refine zW_forK [(1, .ptr H.length 0), (6, .fz 8 exf (fs.map eF))] fs.length (fun k s' h' => ∃ X, h' = H ++ (.box [Z64 kd, Z64 nm, .fz 2 exv (vals.map eP), .fz 8 exf (fs.map eF)] :: X) ∧ (fs.take k).any bigF = false) (by omega) ⟨rfl, rfl, rfl, rfl, rfl, rfl⟩ rfl rfl (by repeat' (first | exact trivial | (refine ⟨rfl, ?_⟩) | (refine ⟨by simp only [zupd_at, Nat.reduceEqDiff, reduceIte]; assumption, ?_⟩))) rfl rfl (by decide) ⟨[], rfl, rfl⟩ ?_ ?_
  · rintro k s' h' hk ⟨X, rfl, hno⟩ hi hl ⟨f1, f6, -⟩
    have hx : fs[k]? = some fs[k] := List.getElem?_eq_getElem hk
    have ok : bigF fs[k] = false → (fs.take (k + 1)).any bigF = false := fun h => by rw [List.take_succ_eq_append_getElem hk, List.any_append, hno, List.any_cons, h]; rfl
    have ng : bigF fs[k] = true → largeB kd vals fs = true := fun h => by unfold largeB; rw [List.any_eq_true.2 ⟨_, List.getElem_mem hk, h⟩]; rfl
    obtain ⟨f, hfe⟩ : ∃ f, f = fs[k] := ⟨_, rfl⟩
    rw [← hfe] at hx ok ng
    obtain ⟨a1, a2, a3, a4, ⟨a5, a6⟩, rg, tr⟩ := f
    clear hfe hno
    have OK := Lib.hid ok
    have NG := Lib.hid ng
    clear ok ng
    by_cases c1 : (60 : Int) < rg.length
    · have fin := fun X => HF.out X true (NG.out (by simp [bigF, c1]))
      repeat' (first | (simp only [zmPack, zfree, owners, Nat.reduceLT, List.filter_cons, List.filter_nil, List.contains_cons, List.contains_nil, Nat.reduceBEq, Bool.or_false, Bool.or_true, Bool.false_or, Bool.true_or, BEq.rfl, chunk, setAt, List.lookup_cons, List.lookup_nil, ZV.val.injEq, ZV.ptr.injEq, ZV.own.injEq, ZV.fz.injEq, ZV.func.injEq, ZV.tuple.injEq, ZV.agg.injEq, ZB.box.injEq, ZB.grow.injEq, Bool.not_eq_false', Prod.mk.injEq, and_assoc, decide_false, decide_true, Bool.not_false, Bool.not_true, Bool.true_eq_false, Bool.false_eq_true, exists_false, Bool.not_eq_false, Bool.not_not, Value.bool.injEq, Value.int.injEq, Option.some.injEq, exists_eq_left', exists_eq_left, exists_and_left, exists_and_right, and_true, true_and, decide_eq_true_eq, decide_eq_false_iff_not, if_true, if_false, Bool.not_eq_true', beq_true, beq_false, ne_eq, not_true_eq_false, not_false_eq_true, reduceCtorEq, List.getD_cons_zero, List.getD_cons_succ, List.getD_nil, List.map_cons, List.map_nil, List.append_nil, Nat.reduceEqDiff, reduceIte, ite_true, ite_false, or_true, true_or, or_false, false_or, true_imp_iff, false_imp_iff, implies_true, imp_false, and_self, imp_self, and_false, false_and, forall_const, take_map_all, Nat.le_refl, Nat.reduceMul, Nat.reduceSub, List.length_cons, List.length_nil, List.length_map, List.length_set, List.all_cons, List.all_nil, Bool.and_self, Option.map_none, Option.map_some, List.set_cons_zero, List.set_cons_succ, Nat.lt_add_one, List.append_assoc, List.cons_append, List.nil_append, List.append_nil, List.length_append, List.take_zero, List.take_succ_cons, List.take_nil, List.drop_zero, List.drop_succ_cons, List.drop_nil, List.getElem?_cons_zero, List.getElem?_cons_succ, List.getElem?_map, Nat.reduceAdd, Nat.reduceLeDiff, Nat.add_eq_zero_iff, and_self, Nat.zero_add, Nat.add_zero, Nat.mul_one, Nat.one_mul, List.flatten_cons, List.flatten_nil, hx, hL, *]) | (simp only [zgoO, zgoG, zO_nil, zthen_normal, zgoC]) | (with_reducible apply And.intro) | (with_reducible intro _))
    · by_cases c2 : (20 : Int) < tr.length
      · have fin := fun X => HF.out X true (NG.out (by simp [bigF, c2]))
        repeat' (first | (simp only [zmPack, zfree, owners, Nat.reduceLT, List.filter_cons, List.filter_nil, List.contains_cons, List.contains_nil, Nat.reduceBEq, Bool.or_false, Bool.or_true, Bool.false_or, Bool.true_or, BEq.rfl, chunk, setAt, List.lookup_cons, List.lookup_nil, ZV.val.injEq, ZV.ptr.injEq, ZV.own.injEq, ZV.fz.injEq, ZV.func.injEq, ZV.tuple.injEq, ZV.agg.injEq, ZB.box.injEq, ZB.grow.injEq, Bool.not_eq_false', Prod.mk.injEq, and_assoc, decide_false, decide_true, Bool.not_false, Bool.not_true, Bool.true_eq_false, Bool.false_eq_true, exists_false, Bool.not_eq_false, Bool.not_not, Value.bool.injEq, Value.int.injEq, Option.some.injEq, exists_eq_left', exists_eq_left, exists_and_left, exists_and_right, and_true, true_and, decide_eq_true_eq, decide_eq_false_iff_not, if_true, if_false, Bool.not_eq_true', beq_true, beq_false, ne_eq, not_true_eq_false, not_false_eq_true, reduceCtorEq, List.getD_cons_zero, List.getD_cons_succ, List.getD_nil, List.map_cons, List.map_nil, List.append_nil, Nat.reduceEqDiff, reduceIte, ite_true, ite_false, or_true, true_or, or_false, false_or, true_imp_iff, false_imp_iff, implies_true, imp_false, and_self, imp_self, and_false, false_and, forall_const, take_map_all, Nat.le_refl, Nat.reduceMul, Nat.reduceSub, List.length_cons, List.length_nil, List.length_map, List.length_set, List.all_cons, List.all_nil, Bool.and_self, Option.map_none, Option.map_some, List.set_cons_zero, List.set_cons_succ, Nat.lt_add_one, List.append_assoc, List.cons_append, List.nil_append, List.append_nil, List.length_append, List.take_zero, List.take_succ_cons, List.take_nil, List.drop_zero, List.drop_succ_cons, List.drop_nil, List.getElem?_cons_zero, List.getElem?_cons_succ, List.getElem?_map, Nat.reduceAdd, Nat.reduceLeDiff, Nat.add_eq_zero_iff, and_self, Nat.zero_add, Nat.add_zero, Nat.mul_one, Nat.one_mul, List.flatten_cons, List.flatten_nil, hx, hL, *]) | (simp only [zgoO, zgoG, zO_nil, zthen_normal, zgoC]) | (with_reducible apply And.intro) | (with_reducible intro _))
      · have fin := OK.out (by simp [bigF, c1, c2])
        have FI := Lib.hid fin
        clear fin
        repeat' (first | (simp only [zmPack, zfree, owners, Nat.reduceLT, List.filter_cons, List.filter_nil, List.contains_cons, List.contains_nil, Nat.reduceBEq, Bool.or_false, Bool.or_true, Bool.false_or, Bool.true_or, BEq.rfl, chunk, setAt, List.lookup_cons, List.lookup_nil, ZV.val.injEq, ZV.ptr.injEq, ZV.own.injEq, ZV.fz.injEq, ZV.func.injEq, ZV.tuple.injEq, ZV.agg.injEq, ZB.box.injEq, ZB.grow.injEq, Bool.not_eq_false', Prod.mk.injEq, and_assoc, decide_false, decide_true, Bool.not_false, Bool.not_true, Bool.true_eq_false, Bool.false_eq_true, exists_false, Bool.not_eq_false, Bool.not_not, Value.bool.injEq, Value.int.injEq, Option.some.injEq, exists_eq_left', exists_eq_left, exists_and_left, exists_and_right, and_true, true_and, decide_eq_true_eq, decide_eq_false_iff_not, if_true, if_false, Bool.not_eq_true', beq_true, beq_false, ne_eq, not_true_eq_false, not_false_eq_true, reduceCtorEq, List.getD_cons_zero, List.getD_cons_succ, List.getD_nil, List.map_cons, List.map_nil, List.append_nil, Nat.reduceEqDiff, reduceIte, ite_true, ite_false, or_true, true_or, or_false, false_or, true_imp_iff, false_imp_iff, implies_true, imp_false, and_self, imp_self, and_false, false_and, forall_const, take_map_all, Nat.le_refl, Nat.reduceMul, Nat.reduceSub, List.length_cons, List.length_nil, List.length_map, List.length_set, List.all_cons, List.all_nil, Bool.and_self, Option.map_none, Option.map_some, List.set_cons_zero, List.set_cons_succ, Nat.lt_add_one, List.append_assoc, List.cons_append, List.nil_append, List.append_nil, List.length_append, List.take_zero, List.take_succ_cons, List.take_nil, List.drop_zero, List.drop_succ_cons, List.drop_nil, List.getElem?_cons_zero, List.getElem?_cons_succ, List.getElem?_map, Nat.reduceAdd, Nat.reduceLeDiff, Nat.add_eq_zero_iff, and_self, Nat.zero_add, Nat.add_zero, Nat.mul_one, Nat.one_mul, List.flatten_cons, List.flatten_nil, hx, hL, *]) | (simp only [zgoO, zgoG, zO_nil, zthen_normal, zgoC]) | (with_reducible apply And.intro) | (with_reducible intro _))
        · exact ⟨_, rfl⟩
        · exact FI.out
  · rintro s' h' ⟨X, rfl, hno⟩ ⟨f1, f6, -⟩
    rw [List.take_of_length_le (Nat.le_refl _)] at hno
    have hv : largeB kd vals fs = (decide (mostI kd < vals.length) || decide ((30 : Int) < fs.length)) := by unfold largeB; rw [hno]; rfl
    have HV := Lib.hid hv
    clear hno hv
    have hb0 : ∀ n, H.length < H.length + (n + 1) := fun n => by omega
    repeat' (first | (simp only [zmPack, zfree, owners, Nat.reduceLT, List.filter_cons, List.filter_nil, List.contains_cons, List.contains_nil, Nat.reduceBEq, Bool.or_false, Bool.or_true, Bool.false_or, Bool.true_or, BEq.rfl, chunk, setAt, List.lookup_cons, List.lookup_nil, ZV.val.injEq, ZV.ptr.injEq, ZV.own.injEq, ZV.fz.injEq, ZV.func.injEq, ZV.tuple.injEq, ZV.agg.injEq, ZB.box.injEq, ZB.grow.injEq, Bool.not_eq_false', Prod.mk.injEq, and_assoc, decide_false, decide_true, Bool.not_false, Bool.not_true, Bool.true_eq_false, Bool.false_eq_true, exists_false, Bool.not_eq_false, Bool.not_not, Value.bool.injEq, Value.int.injEq, Option.some.injEq, exists_eq_left', exists_eq_left, exists_and_left, exists_and_right, and_true, true_and, decide_eq_true_eq, decide_eq_false_iff_not, if_true, if_false, Bool.not_eq_true', beq_true, beq_false, ne_eq, not_true_eq_false, not_false_eq_true, reduceCtorEq, List.getD_cons_zero, List.getD_cons_succ, List.getD_nil, List.map_cons, List.map_nil, List.append_nil, Nat.reduceEqDiff, reduceIte, ite_true, ite_false, or_true, true_or, or_false, false_or, true_imp_iff, false_imp_iff, implies_true, imp_false, and_self, imp_self, and_false, false_and, forall_const, take_map_all, Nat.le_refl, Nat.reduceMul, Nat.reduceSub, List.length_cons, List.length_nil, List.length_map, List.length_set, List.all_cons, List.all_nil, Bool.and_self, Option.map_none, Option.map_some, List.set_cons_zero, List.set_cons_succ, Nat.lt_add_one, List.append_assoc, List.cons_append, List.nil_append, List.append_nil, List.length_append, List.take_zero, List.take_succ_cons, List.take_nil, List.drop_zero, List.drop_succ_cons, List.drop_nil, List.getElem?_cons_zero, List.getElem?_cons_succ, List.getElem?_map, Nat.reduceAdd, Nat.reduceLeDiff, Nat.add_eq_zero_iff, and_self, Nat.zero_add, Nat.add_zero, Nat.mul_one, Nat.one_mul, List.flatten_cons, List.flatten_nil, hb0, *]) | (simp only [zgoO, zgoG, zO_nil, zthen_normal, zgoC]) | (with_reducible apply And.intro) | (with_reducible intro _))
    refine most_z ?_
    by_cases c3 : mostI kd < vals.length
    · have fin := HF.out (.box [Z64 kd, Z64 nm, .fz 2 exv (vals.map eP), .fz 8 exf (fs.map eF)] :: X) true (by rw [HV.out]; simp [c3])
      repeat' (first | (simp only [zmPack, zfree, owners, Nat.reduceLT, List.filter_cons, List.filter_nil, List.contains_cons, List.contains_nil, Nat.reduceBEq, Bool.or_false, Bool.or_true, Bool.false_or, Bool.true_or, BEq.rfl, chunk, setAt, List.lookup_cons, List.lookup_nil, ZV.val.injEq, ZV.ptr.injEq, ZV.own.injEq, ZV.fz.injEq, ZV.func.injEq, ZV.tuple.injEq, ZV.agg.injEq, ZB.box.injEq, ZB.grow.injEq, Bool.not_eq_false', Prod.mk.injEq, and_assoc, decide_false, decide_true, Bool.not_false, Bool.not_true, Bool.true_eq_false, Bool.false_eq_true, exists_false, Bool.not_eq_false, Bool.not_not, Value.bool.injEq, Value.int.injEq, Option.some.injEq, exists_eq_left', exists_eq_left, exists_and_left, exists_and_right, and_true, true_and, decide_eq_true_eq, decide_eq_false_iff_not, if_true, if_false, Bool.not_eq_true', beq_true, beq_false, ne_eq, not_true_eq_false, not_false_eq_true, reduceCtorEq, List.getD_cons_zero, List.getD_cons_succ, List.getD_nil, List.map_cons, List.map_nil, List.append_nil, Nat.reduceEqDiff, reduceIte, ite_true, ite_false, or_true, true_or, or_false, false_or, true_imp_iff, false_imp_iff, implies_true, imp_false, and_self, imp_self, and_false, false_and, forall_const, take_map_all, Nat.le_refl, Nat.reduceMul, Nat.reduceSub, List.length_cons, List.length_nil, List.length_map, List.length_set, List.all_cons, List.all_nil, Bool.and_self, Option.map_none, Option.map_some, List.set_cons_zero, List.set_cons_succ, Nat.lt_add_one, List.append_assoc, List.cons_append, List.nil_append, List.append_nil, List.length_append, List.take_zero, List.take_succ_cons, List.take_nil, List.drop_zero, List.drop_succ_cons, List.drop_nil, List.getElem?_cons_zero, List.getElem?_cons_succ, List.getElem?_map, Nat.reduceAdd, Nat.reduceLeDiff, Nat.add_eq_zero_iff, and_self, Nat.zero_add, Nat.add_zero, Nat.mul_one, Nat.one_mul, List.flatten_cons, List.flatten_nil, *]) | (simp only [zgoO, zgoG, zO_nil, zthen_normal, zgoC]) | (with_reducible apply And.intro) | (with_reducible intro _))
    · by_cases c4 : (30 : Int) < fs.length
      · have fin := HF.out (.box [Z64 kd, Z64 nm, .fz 2 exv (vals.map eP), .fz 8 exf (fs.map eF)] :: X) true (by rw [HV.out]; simp [c4])
        repeat' (first | (simp only [zmPack, zfree, owners, Nat.reduceLT, List.filter_cons, List.filter_nil, List.contains_cons, List.contains_nil, Nat.reduceBEq, Bool.or_false, Bool.or_true, Bool.false_or, Bool.true_or, BEq.rfl, chunk, setAt, List.lookup_cons, List.lookup_nil, ZV.val.injEq, ZV.ptr.injEq, ZV.own.injEq, ZV.fz.injEq, ZV.func.injEq, ZV.tuple.injEq, ZV.agg.injEq, ZB.box.injEq, ZB.grow.injEq, Bool.not_eq_false', Prod.mk.injEq, and_assoc, decide_false, decide_true, Bool.not_false, Bool.not_true, Bool.true_eq_false, Bool.false_eq_true, exists_false, Bool.not_eq_false, Bool.not_not, Value.bool.injEq, Value.int.injEq, Option.some.injEq, exists_eq_left', exists_eq_left, exists_and_left, exists_and_right, and_true, true_and, decide_eq_true_eq, decide_eq_false_iff_not, if_true, if_false, Bool.not_eq_true', beq_true, beq_false, ne_eq, not_true_eq_false, not_false_eq_true, reduceCtorEq, List.getD_cons_zero, List.getD_cons_succ, List.getD_nil, List.map_cons, List.map_nil, List.append_nil, Nat.reduceEqDiff, reduceIte, ite_true, ite_false, or_true, true_or, or_false, false_or, true_imp_iff, false_imp_iff, implies_true, imp_false, and_self, imp_self, and_false, false_and, forall_const, take_map_all, Nat.le_refl, Nat.reduceMul, Nat.reduceSub, List.length_cons, List.length_nil, List.length_map, List.length_set, List.all_cons, List.all_nil, Bool.and_self, Option.map_none, Option.map_some, List.set_cons_zero, List.set_cons_succ, Nat.lt_add_one, List.append_assoc, List.cons_append, List.nil_append, List.append_nil, List.length_append, List.take_zero, List.take_succ_cons, List.take_nil, List.drop_zero, List.drop_succ_cons, List.drop_nil, List.getElem?_cons_zero, List.getElem?_cons_succ, List.getElem?_map, Nat.reduceAdd, Nat.reduceLeDiff, Nat.add_eq_zero_iff, and_self, Nat.zero_add, Nat.add_zero, Nat.mul_one, Nat.one_mul, List.flatten_cons, List.flatten_nil, *]) | (simp only [zgoO, zgoG, zO_nil, zthen_normal, zgoC]) | (with_reducible apply And.intro) | (with_reducible intro _))
      · have fin := HF.out (.box [Z64 kd, Z64 nm, .fz 2 exv (vals.map eP), .fz 8 exf (fs.map eF)] :: X) false (by rw [HV.out]; simp [c3, c4])
        repeat' (first | (simp only [zmPack, zfree, owners, Nat.reduceLT, List.filter_cons, List.filter_nil, List.contains_cons, List.contains_nil, Nat.reduceBEq, Bool.or_false, Bool.or_true, Bool.false_or, Bool.true_or, BEq.rfl, chunk, setAt, List.lookup_cons, List.lookup_nil, ZV.val.injEq, ZV.ptr.injEq, ZV.own.injEq, ZV.fz.injEq, ZV.func.injEq, ZV.tuple.injEq, ZV.agg.injEq, ZB.box.injEq, ZB.grow.injEq, Bool.not_eq_false', Prod.mk.injEq, and_assoc, decide_false, decide_true, Bool.not_false, Bool.not_true, Bool.true_eq_false, Bool.false_eq_true, exists_false, Bool.not_eq_false, Bool.not_not, Value.bool.injEq, Value.int.injEq, Option.some.injEq, exists_eq_left', exists_eq_left, exists_and_left, exists_and_right, and_true, true_and, decide_eq_true_eq, decide_eq_false_iff_not, if_true, if_false, Bool.not_eq_true', beq_true, beq_false, ne_eq, not_true_eq_false, not_false_eq_true, reduceCtorEq, List.getD_cons_zero, List.getD_cons_succ, List.getD_nil, List.map_cons, List.map_nil, List.append_nil, Nat.reduceEqDiff, reduceIte, ite_true, ite_false, or_true, true_or, or_false, false_or, true_imp_iff, false_imp_iff, implies_true, imp_false, and_self, imp_self, and_false, false_and, forall_const, take_map_all, Nat.le_refl, Nat.reduceMul, Nat.reduceSub, List.length_cons, List.length_nil, List.length_map, List.length_set, List.all_cons, List.all_nil, Bool.and_self, Option.map_none, Option.map_some, List.set_cons_zero, List.set_cons_succ, Nat.lt_add_one, List.append_assoc, List.cons_append, List.nil_append, List.append_nil, List.length_append, List.take_zero, List.take_succ_cons, List.take_nil, List.drop_zero, List.drop_succ_cons, List.drop_nil, List.getElem?_cons_zero, List.getElem?_cons_succ, List.getElem?_map, Nat.reduceAdd, Nat.reduceLeDiff, Nat.add_eq_zero_iff, and_self, Nat.zero_add, Nat.add_zero, Nat.mul_one, Nat.one_mul, List.flatten_cons, List.flatten_nil, *]) | (simp only [zgoO, zgoG, zO_nil, zthen_normal, zgoC]) | (with_reducible apply And.intro) | (with_reducible intro _))
end Go.Proofs.Ytpmmiaadfnildaa

namespace Go.Proofs.Ytpmmiaadfnildaa
open Go Go.RowKit
set_option linter.unusedVariables false
set_option linter.unusedSimpArgs false
variable {tb : List (FuncId × Bool)} {L : Nat → Bool} {H : ZH} {K : ZV → ZH → Prop}
theorem large_no {kd : Int} {vals : List (Int × Int)} {fs : List Fr} (h : largeB kd vals fs = false) : vals.length ≤ 600 ∧ fs.length ≤ 30 ∧ ∀ f ∈ fs, f.2.2.2.2.2.1.length ≤ 60 ∧ f.2.2.2.2.2.2.length ≤ 20 := by
  unfold largeB at h
  simp only [Bool.or_eq_false_iff, decide_eq_false_iff_not] at h
  obtain ⟨h1, h2, h3⟩ := h
  refine ⟨?_, by omega, fun f hf => ?_⟩
  · unfold mostI at h2; split at h2 <;> omega
  · have := List.any_eq_false.1 h1 f hf
    simp only [bigF, Bool.not_eq_true, Bool.or_eq_false_iff, decide_eq_false_iff_not] at this
    omega
def ofO (kd nm : Int) (vals : List (Int × Int)) (fs : List Fr) : List Int := [u64 kd, u64 nm] ++ (([u64 vals.length] ++ vals.map bw) ++ ([u64 fs.length] ++ frsO fs))
def ofE (kd : Int) (vals : List (Int × Int)) (fs : List Fr) : Int := if largeB kd vals fs = true then 2 else frsE (eAll 0 vals) fs
set_option maxHeartbeats 2000000 in
theorem of_z {kd nm : Int} {exv exf : Bool} {vals : List (Int × Int)} {fs : List Fr} (hfl : fs.length ≤ 100000000000000)
    (hK0 : ofE kd vals fs ≠ 0 → K (.tuple [.nil, Z64 (ofE kd vals fs)]) H) (hK1 : ofE kd vals fs = 0 → largeB kd vals fs = false → K (.tuple [.own H.length 0 0 (ofO kd nm vals fs).length false, Z64 0]) (H ++ [.grow 0 1 ((ofO kd nm vals fs).map eU)])) :
    ZC (boxX tb) (cFunc Try.prog) 14 [.agg [Z64 kd, Z64 nm, .fz 2 exv (vals.map eP), .fz 8 exf (fs.map eF)]] L H K := by
  refine ZC.enterL ⟨[(7, [(0, 1)])], [], []⟩ (boxX_none (by decide)) f_wo_of (by simp) fun hL => ?_
  simp only [c_wo_of]
  have HK0 := Lib.hid hK0
  have HK1 := Lib.hid hK1
  clear hK0 hK1
  repeat' (first | (simp only [zmPack, zfree, owners, Nat.reduceLT, List.filter_cons, List.filter_nil, List.contains_cons, List.contains_nil, Nat.reduceBEq, Bool.or_false, Bool.or_true, Bool.false_or, Bool.true_or, BEq.rfl, chunk, setAt, List.lookup_cons, List.lookup_nil, ZV.val.injEq, ZV.ptr.injEq, ZV.own.injEq, ZV.fz.injEq, ZV.func.injEq, ZV.tuple.injEq, ZV.agg.injEq, ZB.box.injEq, ZB.grow.injEq, Bool.not_eq_false', Prod.mk.injEq, and_assoc, decide_false, decide_true, Bool.not_false, Bool.not_true, Bool.true_eq_false, Bool.false_eq_true, exists_false, Bool.not_eq_false, Bool.not_not, Value.bool.injEq, Value.int.injEq, Option.some.injEq, exists_eq_left', exists_eq_left, exists_and_left, exists_and_right, and_true, true_and, decide_eq_true_eq, decide_eq_false_iff_not, if_true, if_false, Bool.not_eq_true', beq_true, beq_false, ne_eq, not_true_eq_false, not_false_eq_true, reduceCtorEq, List.getD_cons_zero, List.getD_cons_succ, List.getD_nil, List.map_cons, List.map_nil, List.append_nil, Nat.reduceEqDiff, reduceIte, ite_true, ite_false, or_true, true_or, or_false, false_or, true_imp_iff, false_imp_iff, implies_true, imp_false, and_self, imp_self, and_false, false_and, forall_const, take_map_all, Nat.le_refl, Nat.reduceMul, Nat.reduceSub, List.length_cons, List.length_nil, List.length_map, List.length_set, List.all_cons, List.all_nil, Bool.and_self, Option.map_none, Option.map_some, List.set_cons_zero, List.set_cons_succ, Nat.lt_add_one, List.append_assoc, List.cons_append, List.nil_append, List.append_nil, List.length_append, List.take_zero, List.take_succ_cons, List.take_nil, List.drop_zero, List.drop_succ_cons, List.drop_nil, List.getElem?_cons_zero, List.getElem?_cons_succ, List.getElem?_map, Nat.reduceAdd, Nat.reduceLeDiff, Nat.add_eq_zero_iff, and_self, Nat.zero_add, Nat.add_zero, Nat.mul_one, Nat.one_mul, List.flatten_cons, List.flatten_nil, *]) | (simp only [zgoO, zgoG, zO_nil, zthen_normal, zgoC]) | (with_reducible apply And.intro) | (with_reducible intro _))
  refine large_z hfl ?_
  cases hb : largeB kd vals fs with
  | true =>
    have hE : ofE kd vals fs = 2 := by unfold ofE; rw [if_pos hb]
    have hk : K (.tuple [.nil, Z64 2]) H := by have := HK0.out (by rw [hE]; simp); rwa [hE] at this
    have fin := fun X => Fin.trunc (K := K) (z := .tuple [.nil, Z64 2]) (Mods.ext H X) rfl (by rw [List.take_left]; exact hk)
    clear hb hE hk
    repeat' (first | (simp only [zmPack, zfree, owners, Nat.reduceLT, List.filter_cons, List.filter_nil, List.contains_cons, List.contains_nil, Nat.reduceBEq, Bool.or_false, Bool.or_true, Bool.false_or, Bool.true_or, BEq.rfl, chunk, setAt, List.lookup_cons, List.lookup_nil, ZV.val.injEq, ZV.ptr.injEq, ZV.own.injEq, ZV.fz.injEq, ZV.func.injEq, ZV.tuple.injEq, ZV.agg.injEq, ZB.box.injEq, ZB.grow.injEq, Bool.not_eq_false', Prod.mk.injEq, and_assoc, decide_false, decide_true, Bool.not_false, Bool.not_true, Bool.true_eq_false, Bool.false_eq_true, exists_false, Bool.not_eq_false, Bool.not_not, Value.bool.injEq, Value.int.injEq, Option.some.injEq, exists_eq_left', exists_eq_left, exists_and_left, exists_and_right, and_true, true_and, decide_eq_true_eq, decide_eq_false_iff_not, if_true, if_false, Bool.not_eq_true', beq_true, beq_false, ne_eq, not_true_eq_false, not_false_eq_true, reduceCtorEq, List.getD_cons_zero, List.getD_cons_succ, List.getD_nil, List.map_cons, List.map_nil, List.append_nil, Nat.reduceEqDiff, reduceIte, ite_true, ite_false, or_true, true_or, or_false, false_or, true_imp_iff, false_imp_iff, implies_true, imp_false, and_self, imp_self, and_false, false_and, forall_const, take_map_all, Nat.le_refl, Nat.reduceMul, Nat.reduceSub, List.length_cons, List.length_nil, List.length_map, List.length_set, List.all_cons, List.all_nil, Bool.and_self, Option.map_none, Option.map_some, List.set_cons_zero, List.set_cons_succ, Nat.lt_add_one, List.append_assoc, List.cons_append, List.nil_append, List.append_nil, List.length_append, List.take_zero, List.take_succ_cons, List.take_nil, List.drop_zero, List.drop_succ_cons, List.drop_nil, List.getElem?_cons_zero, List.getElem?_cons_succ, List.getElem?_map, Nat.reduceAdd, Nat.reduceLeDiff, Nat.add_eq_zero_iff, and_self, Nat.zero_add, Nat.add_zero, Nat.mul_one, Nat.one_mul, List.flatten_cons, List.flatten_nil, *]) | (simp only [zgoO, zgoG, zO_nil, zthen_normal, zgoC]) | (with_reducible apply And.intro) | (with_reducible intro _))
  | false =>
    obtain ⟨hv, hf, hfr⟩ := large_no hb
    have hE : ofE kd vals fs = frsE (eAll 0 vals) fs := by unfold ofE; rw [if_neg (by rw [hb]; simp)]
    have HE := Lib.hid hE
    have HB := Lib.hid hb
    have HFR := Lib.hid hfr
    clear hE hb hfr
    repeat' (first | (simp only [zmPack, zfree, owners, Nat.reduceLT, List.filter_cons, List.filter_nil, List.contains_cons, List.contains_nil, Nat.reduceBEq, Bool.or_false, Bool.or_true, Bool.false_or, Bool.true_or, BEq.rfl, chunk, setAt, List.lookup_cons, List.lookup_nil, ZV.val.injEq, ZV.ptr.injEq, ZV.own.injEq, ZV.fz.injEq, ZV.func.injEq, ZV.tuple.injEq, ZV.agg.injEq, ZB.box.injEq, ZB.grow.injEq, Bool.not_eq_false', Prod.mk.injEq, and_assoc, decide_false, decide_true, Bool.not_false, Bool.not_true, Bool.true_eq_false, Bool.false_eq_true, exists_false, Bool.not_eq_false, Bool.not_not, Value.bool.injEq, Value.int.injEq, Option.some.injEq, exists_eq_left', exists_eq_left, exists_and_left, exists_and_right, and_true, true_and, decide_eq_true_eq, decide_eq_false_iff_not, if_true, if_false, Bool.not_eq_true', beq_true, beq_false, ne_eq, not_true_eq_false, not_false_eq_true, reduceCtorEq, List.getD_cons_zero, List.getD_cons_succ, List.getD_nil, List.map_cons, List.map_nil, List.append_nil, Nat.reduceEqDiff, reduceIte, ite_true, ite_false, or_true, true_or, or_false, false_or, true_imp_iff, false_imp_iff, implies_true, imp_false, and_self, imp_self, and_false, false_and, forall_const, take_map_all, Nat.le_refl, Nat.reduceMul, Nat.reduceSub, List.length_cons, List.length_nil, List.length_map, List.length_set, List.all_cons, List.all_nil, Bool.and_self, Option.map_none, Option.map_some, List.set_cons_zero, List.set_cons_succ, Nat.lt_add_one, List.append_assoc, List.cons_append, List.nil_append, List.append_nil, List.length_append, List.take_zero, List.take_succ_cons, List.take_nil, List.drop_zero, List.drop_succ_cons, List.drop_nil, List.getElem?_cons_zero, List.getElem?_cons_succ, List.getElem?_map, Nat.reduceAdd, Nat.reduceLeDiff, Nat.add_eq_zero_iff, and_self, Nat.zero_add, Nat.add_zero, Nat.mul_one, Nat.one_mul, List.flatten_cons, List.flatten_nil, *]) | (simp only [zgoO, zgoG, zO_nil, zthen_normal, zgoC]) | (with_reducible apply And.intro) | (with_reducible intro _))
    obtain ⟨A, hA⟩ : ∃ A, A = ZB.box [Z64 kd, Z64 nm, .fz 2 exv (vals.map eP), .fz 8 exf (fs.map eF)] := ⟨_, rfl⟩
    have hWr : ∀ b c g o e, wrH (H ++ [A, b, c]) (H.length + 2) (H.length + 1) g o e = H ++ [A, .grow g 1 (o.map eU), .box [.own (H.length + 1) g 0 o.length false, Z64 e]] := fun b c g o e => by unfold wrH; rw [H_setK, H_setK]; rfl
    rw [← hA]
    show ZC _ _ _ _ L (H ++ [A, .grow 0 1 (([] : List Int).map eU), .box [.own (H.length + 1) 0 0 ([] : List Int).length false, Z64 0]]) _
    rw [← hWr (.grow 0 1 []) (.box [.own (H.length + 1) 0 0 0 false, Z64 0]) 0 [] 0]
    have w : WOk (H ++ [A, .grow 0 1 [], .box [.own (H.length + 1) 0 0 0 false, Z64 0]]) L (H.length + 2) (H.length + 1) := ⟨by simp, by simp, by omega, hL 2, hL 1⟩
    refine cell_z w (fun k => by rw [List.length_append, Nat.add_assoc]; exact hL _) (by simp; omega) hf HFR.out rfl fun g' => ?_
    rw [hWr, List.nil_append, ← HE.out]
    show ZgoG _ _ _ _ (H ++ [A, .grow g' 1 ((ofO kd nm vals fs).map eU), .box [.own (H.length + 1) g' 0 (ofO kd nm vals fs).length false, Z64 (ofE kd vals fs)]])
    clear hWr w
    obtain ⟨o, ho⟩ : ∃ o, o = ofO kd nm vals fs := ⟨_, rfl⟩
    obtain ⟨E, hE⟩ : ∃ E, E = ofE kd vals fs := ⟨_, rfl⟩
    have k0 : Hid (E ≠ 0 → K (.tuple [.nil, Z64 E]) H) := by rw [hE]; exact HK0
    have k1 : Hid (E = 0 → K (.tuple [.own H.length 0 0 o.length false, Z64 0]) (H ++ [.grow 0 1 (o.map eU)])) := fun h => by rw [ho]; exact HK1.out (hE ▸ h) HB.out
    rw [← ho, ← hE]
    clear HK0 HK1 HE HB HFR hA ho hE
    by_cases hz : E = 0
    · have hk := k1.out hz
      have fin : Fin H (.tuple [.own (H.length + 1) g' 0 o.length false, Z64 0]) (H ++ [A, .grow g' 1 (o.map eU), .box [.own (H.length + 1) g' 0 o.length false, Z64 0]]) K := by
        refine Fin.ownT (j := 0) (vs := [.own (H.length + 1) g' 0 o.length false, Z64 0]) (k := 1) (rows := o.map eU) rfl rfl (Mods.ext H _) (by omega) (by rw [H_atK]; rfl) (by simp) u_refs ?_
        rw [List.take_left, List.drop_zero, take_map_all]
        exact hk
      clear hk k0 k1
      subst hz
      repeat' (first | (simp only [zmPack, zfree, owners, Nat.reduceLT, List.filter_cons, List.filter_nil, List.contains_cons, List.contains_nil, Nat.reduceBEq, Bool.or_false, Bool.or_true, Bool.false_or, Bool.true_or, BEq.rfl, chunk, setAt, List.lookup_cons, List.lookup_nil, ZV.val.injEq, ZV.ptr.injEq, ZV.own.injEq, ZV.fz.injEq, ZV.func.injEq, ZV.tuple.injEq, ZV.agg.injEq, ZB.box.injEq, ZB.grow.injEq, Bool.not_eq_false', Prod.mk.injEq, and_assoc, decide_false, decide_true, Bool.not_false, Bool.not_true, Bool.true_eq_false, Bool.false_eq_true, exists_false, Bool.not_eq_false, Bool.not_not, Value.bool.injEq, Value.int.injEq, Option.some.injEq, exists_eq_left', exists_eq_left, exists_and_left, exists_and_right, and_true, true_and, decide_eq_true_eq, decide_eq_false_iff_not, if_true, if_false, Bool.not_eq_true', beq_true, beq_false, ne_eq, not_true_eq_false, not_false_eq_true, reduceCtorEq, List.getD_cons_zero, List.getD_cons_succ, List.getD_nil, List.map_cons, List.map_nil, List.append_nil, Nat.reduceEqDiff, reduceIte, ite_true, ite_false, or_true, true_or, or_false, false_or, true_imp_iff, false_imp_iff, implies_true, imp_false, and_self, imp_self, and_false, false_and, forall_const, take_map_all, Nat.le_refl, Nat.reduceMul, Nat.reduceSub, List.length_cons, List.length_nil, List.length_map, List.length_set, List.all_cons, List.all_nil, Bool.and_self, Option.map_none, Option.map_some, List.set_cons_zero, List.set_cons_succ, Nat.lt_add_one, List.append_assoc, List.cons_append, List.nil_append, List.append_nil, List.length_append, List.take_zero, List.take_succ_cons, List.take_nil, List.drop_zero, List.drop_succ_cons, List.drop_nil, List.getElem?_cons_zero, List.getElem?_cons_succ, List.getElem?_map, Nat.reduceAdd, Nat.reduceLeDiff, Nat.add_eq_zero_iff, and_self, Nat.zero_add, Nat.add_zero, Nat.mul_one, Nat.one_mul, List.flatten_cons, List.flatten_nil, *]) | (simp only [zgoO, zgoG, zO_nil, zthen_normal, zgoC]) | (with_reducible apply And.intro) | (with_reducible intro _))
    · have hk := k0.out hz
      have fin : ∀ X, Fin H (.tuple [.nil, Z64 E]) (H ++ X) K := fun X => Fin.trunc (Mods.ext H X) rfl (by rw [List.take_left]; exact hk)
      clear hk k0 k1
      repeat' (first | (simp only [zmPack, zfree, owners, Nat.reduceLT, List.filter_cons, List.filter_nil, List.contains_cons, List.contains_nil, Nat.reduceBEq, Bool.or_false, Bool.or_true, Bool.false_or, Bool.true_or, BEq.rfl, chunk, setAt, List.lookup_cons, List.lookup_nil, ZV.val.injEq, ZV.ptr.injEq, ZV.own.injEq, ZV.fz.injEq, ZV.func.injEq, ZV.tuple.injEq, ZV.agg.injEq, ZB.box.injEq, ZB.grow.injEq, Bool.not_eq_false', Prod.mk.injEq, and_assoc, decide_false, decide_true, Bool.not_false, Bool.not_true, Bool.true_eq_false, Bool.false_eq_true, exists_false, Bool.not_eq_false, Bool.not_not, Value.bool.injEq, Value.int.injEq, Option.some.injEq, exists_eq_left', exists_eq_left, exists_and_left, exists_and_right, and_true, true_and, decide_eq_true_eq, decide_eq_false_iff_not, if_true, if_false, Bool.not_eq_true', beq_true, beq_false, ne_eq, not_true_eq_false, not_false_eq_true, reduceCtorEq, List.getD_cons_zero, List.getD_cons_succ, List.getD_nil, List.map_cons, List.map_nil, List.append_nil, Nat.reduceEqDiff, reduceIte, ite_true, ite_false, or_true, true_or, or_false, false_or, true_imp_iff, false_imp_iff, implies_true, imp_false, and_self, imp_self, and_false, false_and, forall_const, take_map_all, Nat.le_refl, Nat.reduceMul, Nat.reduceSub, List.length_cons, List.length_nil, List.length_map, List.length_set, List.all_cons, List.all_nil, Bool.and_self, Option.map_none, Option.map_some, List.set_cons_zero, List.set_cons_succ, Nat.lt_add_one, List.append_assoc, List.cons_append, List.nil_append, List.append_nil, List.length_append, List.take_zero, List.take_succ_cons, List.take_nil, List.drop_zero, List.drop_succ_cons, List.drop_nil, List.getElem?_cons_zero, List.getElem?_cons_succ, List.getElem?_map, Nat.reduceAdd, Nat.reduceLeDiff, Nat.add_eq_zero_iff, and_self, Nat.zero_add, Nat.add_zero, Nat.mul_one, Nat.one_mul, List.flatten_cons, List.flatten_nil, *]) | (simp only [zgoO, zgoG, zO_nil, zthen_normal, zgoC]) | (with_reducible apply And.intro) | (with_reducible intro _))
end Go.Proofs.Ytpmmiaadfnildaa

namespace Go.Proofs.Ytpmmiaadfnildaa
open Go Go.RowKit
set_option linter.unusedVariables false
set_option linter.unusedSimpArgs false
abbrev tbO : List (FuncId × Bool) := [(13, true)]
section
variable {L : Nat → Bool} {H : ZH} {K : ZV → ZH → Prop}
theorem worded_z (k : K (ZBo true) H) : ZC (boxX tbO) (cFunc Try.prog) 13 [] L H K := ZC.const (boxX_some rfl) k
/-- Of, whatever comes of it. -/
theorem of_u {tb : List (FuncId × Bool)} {kd nm : Int} {exv exf : Bool} {vals : List (Int × Int)} {fs : List Fr} (hfl : fs.length ≤ 100000000000000)
    (hK : ∀ z X, (ofE kd vals fs = 0 → ∀ Y, lenZ (H ++ (X ++ Y)) z = some (ofO kd nm vals fs).length) → K (.tuple [z, Z64 (ofE kd vals fs)]) (H ++ X)) :
    ZC (boxX tb) (cFunc Try.prog) 14 [.agg [Z64 kd, Z64 nm, .fz 2 exv (vals.map eP), .fz 8 exf (fs.map eF)]] L H K := by
  refine of_z hfl (fun h => ?_) (fun h _ => ?_)
  · have := hK .nil [] (fun q => absurd q h)
    rwa [List.append_nil] at this
  · have := hK (.own H.length 0 0 (ofO kd nm vals fs).length false) [.grow 0 1 ((ofO kd nm vals fs).map eU)] (fun _ Y => len_own.2 ⟨1, (ofO kd nm vals fs).map eU, by rw [H_at0]; rfl, rfl⟩)
    rwa [h] at this
theorem copyval_z {tb : List (FuncId × Bool)} {z : ZV} {l : List (Int × Int)} (hz : rowsZ H 2 z = some (l.map eP)) (hb : l.length ≤ 100000000) (hK : K (.own H.length 0 0 l.length false) (H ++ [.grow 0 2 (l.map eP)])) : ZC (boxX tb) (cFunc Try.prog) 15 [z] L H K := by
  refine ZC.enter Gh.no (boxX_none (by decide)) f_r_copyval (by simp) ?_
  simp only [c_r_copyval]
  have hreach : l.length * 16 ≤ reach := by unfold reach; omega
  repeat' (first | (simp only [zmPack, zfree, owners, Nat.reduceLT, List.filter_cons, List.filter_nil, List.contains_cons, List.contains_nil, Nat.reduceBEq, Bool.or_false, Bool.or_true, Bool.false_or, Bool.true_or, BEq.rfl, chunk, setAt, List.lookup_cons, List.lookup_nil, ZV.val.injEq, ZV.ptr.injEq, ZV.own.injEq, ZV.fz.injEq, ZV.func.injEq, ZV.tuple.injEq, ZV.agg.injEq, ZB.box.injEq, ZB.grow.injEq, Bool.not_eq_false', Prod.mk.injEq, and_assoc, decide_false, decide_true, Bool.not_false, Bool.not_true, Bool.true_eq_false, Bool.false_eq_true, exists_false, Bool.not_eq_false, Bool.not_not, Value.bool.injEq, Value.int.injEq, Option.some.injEq, exists_eq_left', exists_eq_left, exists_and_left, exists_and_right, and_true, true_and, decide_eq_true_eq, decide_eq_false_iff_not, if_true, if_false, Bool.not_eq_true', beq_true, beq_false, ne_eq, not_true_eq_false, not_false_eq_true, reduceCtorEq, List.getD_cons_zero, List.getD_cons_succ, List.getD_nil, List.map_cons, List.map_nil, List.append_nil, Nat.reduceEqDiff, reduceIte, ite_true, ite_false, or_true, true_or, or_false, false_or, true_imp_iff, false_imp_iff, implies_true, imp_false, and_self, imp_self, and_false, false_and, forall_const, take_map_all, Nat.le_refl, Nat.reduceMul, Nat.reduceSub, List.length_cons, List.length_nil, List.length_map, List.length_set, List.all_cons, List.all_nil, Bool.and_self, Option.map_none, Option.map_some, List.set_cons_zero, List.set_cons_succ, Nat.lt_add_one, List.append_assoc, List.cons_append, List.nil_append, List.append_nil, List.length_append, List.take_zero, List.take_succ_cons, List.take_nil, List.drop_zero, List.drop_succ_cons, List.drop_nil, List.getElem?_cons_zero, List.getElem?_cons_succ, List.getElem?_map, Nat.reduceAdd, Nat.reduceLeDiff, Nat.add_eq_zero_iff, and_self, Nat.zero_add, Nat.add_zero, Nat.mul_one, Nat.one_mul, List.flatten_cons, List.flatten_nil, hz, hreach, *]) | (simp only [zgoO, zgoG, zO_nil, zthen_normal, zgoC]) | (with_reducible apply And.intro) | (with_reducible intro _))
  exact Fin.keep hK
end
theorem ofO_val {kd nm : Int} {vals : List (Int × Int)} {fs : List Fr} {v : Int × Int} : (ofO kd nm (vals ++ [v]) fs).length = (ofO kd nm vals fs).length + 1 := by
  simp only [ofO, List.length_append, List.length_cons, List.length_nil, List.length_map]; omega
theorem ofO_fr {kd nm : Int} {vals : List (Int × Int)} {fs : List Fr} {f : Fr} : (ofO kd nm vals (fs ++ [f])).length = (ofO kd nm vals fs).length + 7 + f.2.2.2.2.2.1.length + 2 * f.2.2.2.2.2.2.length := by
  have : (frsO (fs ++ [f])).length = (frsO fs).length + (frO f).length := by unfold frsO; simp
  simp only [ofO, List.length_append, List.length_cons, List.length_nil, List.length_map, this, frO_len]; omega
theorem ofO_le {kd nm : Int} {vals : List (Int × Int)} {fs : List Fr} (h : 0 = ofE kd vals fs) : (ofO kd nm vals fs).length ≤ 4000 ∧ ∀ f ∈ fs, f.2.2.2.2.2.1.length ≤ 60 ∧ f.2.2.2.2.2.2.length ≤ 20 := by
  cases hb : largeB kd vals fs with
  | true => unfold ofE at h; rw [if_pos hb] at h; omega
  | false =>
    obtain ⟨hv, hf, hfr⟩ := large_no hb
    have key : ∀ l : List Fr, (∀ f ∈ l, f.2.2.2.2.2.1.length ≤ 60 ∧ f.2.2.2.2.2.2.length ≤ 20) → (frsO l).length ≤ 107 * l.length := fun l h => by
      induction l with
      | nil => simp [frsO]
      | cons x r ih =>
        have h1 := ih fun f hf => h f (List.mem_cons_of_mem _ hf)
        have h2 := h x (List.mem_cons_self ..)
        have : (frsO (x :: r)).length = (frO x).length + (frsO r).length := by unfold frsO; simp
        rw [this, frO_len, List.length_cons]; omega
    have := key fs hfr
    refine ⟨?_, hfr⟩
    simp only [ofO, List.length_append, List.length_cons, List.length_nil, List.length_map]; omega
theorem wr64 {n : Int} (h0 : 0 ≤ n) (h1 : n < 9223372036854775808) : IntKind.i64.wrap n = n := by
  exact IntWalk.i64_in _ (by omega)
theorem pureP {l : List (Int × Int)} : (l.map eP).flatten.all pureZ = true := pure_mapI fun _ => rfl
theorem pureF {l : List Fr} : (l.map eF).flatten.all pureZ = true := pure_mapI fun _ => rfl

theorem app_fz0 {L : Nat → Bool} {H : ZH} {k bytes : Nat} {ex : Bool} {rows : List (List ZV)} {v : ZV} {H' : ZH} : appZ L H k bytes [] (.fz k ex rows) = some (v, H') ↔ rows.length * bytes ≤ reach ∧ .fz k ex rows = v ∧ H = H' := by
  simp only [appZ]
  constructor
  · intro h
    split at h
    · rename_i hc
      simp at h
      exact ⟨by simpa using hc.2, h.1, h.2⟩
    · cases h
  · rintro ⟨h1, rfl, rfl⟩; rw [if_pos ⟨trivial, by simpa using h1⟩]; simp
theorem app_fzN {L : Nat → Bool} {H : ZH} {k bytes : Nat} {new : List (List ZV)} {v : ZV} {H' : ZH} (hn : new ≠ []) (hr : new.length * bytes ≤ reach) : appZ L H k bytes new (.fz k true []) = some (v, H') ↔ .own H.length 0 0 new.length false = v ∧ H ++ [.grow 0 k new] = H' := by
  simp only [appZ]
  rw [if_pos ⟨trivial, by simpa using hr⟩, if_neg hn]
  simp

end Go.Proofs.Ytpmmiaadfnildaa
