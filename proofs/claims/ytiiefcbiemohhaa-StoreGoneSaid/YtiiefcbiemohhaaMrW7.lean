/-
  What package nanbox computes: Box, Unbox, Kind (and the reference's Odd).
-/
import Derived.KernelRfl
import Derived.Test.YtiiefcbiemohhaaMrW1
import Derived.Test.YtiiefcbiemohhaaMrW4
import Derived.Test.YtiiefcbiemohhaaMrW6
namespace Go.Proofs.Ytiiefcbiemohhaa
open Go.RowKit
set_option linter.unusedVariables false
set_option linter.unusedSimpArgs false

theorem and_mask63 (n : Int) (h0 : 0 ≤ n) (h1 : n < 18446744073709551616) : bits .and .u64 n 9223372036854775807 = n % 9223372036854775808 := by
 rw [u64_and n _ h0 h1 (by omega) (by omega)]
 have : (9223372036854775807 : Int).toNat = 2^63 - 1 := rfl
 rw [this, Nat.and_two_pow_sub_one_eq_mod]
 omega

def spoiltB (n : Int) : Bool := decide (9218868437227405312 < n % 9223372036854775808)
def tagI (k : Int) : Int := (65529 + (if 3 < k then k - 1 else k)) * 281474976710656
def loI (k : Int) : Int := if k = 2 then -2147483648 else 0
def hiI (k : Int) : Int := if k = 0 then 0 else if k = 1 then 1 else if k = 2 then 2147483647 else 4294967295

set_option maxHeartbeats 400000 in
theorem spoilt_any (n : Int) (w : World) (h0 : 0 ≤ n) (h1 : n < 18446744073709551616) :
  Calls Try.prog 39 #[.int .u64 n] w fun e w' => e = .returned (.bool (spoiltB n)) ∧ w = w' := by
 have e := Lib.hid (and_mask63 n h0 h1)
 go_enter Try.func39, Try.ntmps39
 go_wp2
 go_ret
 exact ⟨ret_bool (by unfold spoiltB; rw [e.out]), rfl⟩

set_option maxHeartbeats 400000 in
theorem tag_any (n : Int) (w : World) (h : 0 ≤ n) (h1 : n ≤ 6):
  Calls Try.prog 42 #[.int .i64 n] w fun e w' => e = .returned (.int .u64 (tagI n)) ∧ w = w' := by
 go_enter Try.func42, Try.ntmps42
 go_wp2
 all_goals go_ret
 ·exact ⟨ret_int (by unfold tagI; rw [if_pos (by assumption)]), rfl⟩
 ·exact ⟨ret_int (by unfold tagI; rw [if_neg (by omega)]), rfl⟩

set_option maxHeartbeats 400000 in
theorem bounds_any (n : Int) (w : World) :
  Calls Try.prog 41 #[.int .i64 n] w fun e w' => e = .returned (.tuple #[.int .i64 (loI n), .int .i64 (hiI n)]) ∧ w = w' := by
 go_enter Try.func41, Try.ntmps41
 go_wp2
 all_goals go_ret2
 all_goals exact ⟨ret_ints (by unfold loI; simp_all) (by unfold hiI; simp_all), rfl⟩

def boxE (k n : Int) : Int := if k < 0 ∨ 6 < k then 7 else if k = 3 then 0 else if n < loI k ∨ hiI k < n then 1 else 0
def boxW (k n : Int) : Int :=
  if k < 0 ∨ 6 < k then 0 else if k = 3 then (if spoiltB (IntKind.u64.wrap n) then 9221120237041090561 else IntKind.u64.wrap n)
  else if n < loI k ∨ hiI k < n then 0 else tagI k + n % 4294967296

theorem or_tag (k n : Int) (h : 0 ≤ k) (h1 : k ≤ 6) : bits .or .u64 (tagI k) (n % 4294967296) = tagI k + n % 4294967296 := by
 have hn : 0 ≤ n % 4294967296 := by omega
 have hn1 : n % 4294967296 < 4294967296 := by omega
 generalize n % 4294967296 = m at *
 have ht : tagI k = ((tagI k).toNat : Int) := by unfold tagI; split <;> omega
 rw [u64_or _ _ (by unfold tagI; split <;> omega) (by unfold tagI; split <;> omega) (by omega) (by omega)]
 rw [nat_join 48 _ _ (by unfold tagI; split <;> omega) (by omega)]
 omega

theorem u64r (n : Int) : 0 ≤ IntKind.u64.wrap n ∧ IntKind.u64.wrap n < 18446744073709551616 := by simp only [IntKind.wrap_u64]; omega

set_option maxHeartbeats 400000 in
theorem box_any (k n : Int) (w : World)  :
  Calls Try.prog 33 #[.agg #[.int .i64 k, .int .i64 n]] w fun e w' => e = .returned (.tuple #[.int .u64 (boxW k n), .int .i64 (boxE k n)]) ∧ Below w.heap.size w w' := by
 by_cases h1 : k < 0
 ·go_enter Try.func33, Try.ntmps33
  go_wp2
  go_ret2
  exact ⟨ret_ints (by unfold boxW; rw [if_pos (.inl h1)]) (by unfold boxE; rw [if_pos (.inl h1)]), (by repeat' (first | (with_reducible exact Below.refl _ _) | (with_reducible assumption) | (with_reducible refine below_drewN ?_ _) | (with_reducible refine Below.drew ?_) | (with_reducible refine Below.alloc ?_ ?_ _) | (with_reducible refine Below.setCell ?_ ?_ _) | go_size))⟩
 by_cases h2 : 6 < k
 ·go_enter Try.func33, Try.ntmps33
  go_wp2
  go_ret2
  exact ⟨ret_ints (by unfold boxW; rw [if_pos (.inr h2)]) (by unfold boxE; rw [if_pos (.inr h2)]), (by repeat' (first | (with_reducible exact Below.refl _ _) | (with_reducible assumption) | (with_reducible refine below_drewN ?_ _) | (with_reducible refine Below.drew ?_) | (with_reducible refine Below.alloc ?_ ?_ _) | (with_reducible refine Below.setCell ?_ ?_ _) | go_size))⟩
 have h1' : 0 ≤ k := by omega
 have h2' : k ≤ 6 := by omega
 by_cases h3 : k = 3
 ·subst h3
  by_cases hs : spoiltB (IntKind.u64.wrap n) = true
  ·go_enter Try.func33, Try.ntmps33
   go_wp2_with (go_at_call 39; refine (spoilt_any _ _ (u64r n).1 (u64r n).2).mono ?_; rintro e w' ⟨rfl, rfl⟩)
   go_ret2
   exact ⟨ret_ints (by unfold boxW; rw [if_neg (by omega), if_pos rfl, if_pos hs]) (by unfold boxE; rw [if_neg (by omega), if_pos rfl]), (by repeat' (first | (with_reducible exact Below.refl _ _) | (with_reducible assumption) | (with_reducible refine below_drewN ?_ _) | (with_reducible refine Below.drew ?_) | (with_reducible refine Below.alloc ?_ ?_ _) | (with_reducible refine Below.setCell ?_ ?_ _) | go_size))⟩
  ·have hs' : spoiltB (IntKind.u64.wrap n) = false := by simpa using hs
   go_enter Try.func33, Try.ntmps33
   go_wp2_with (go_at_call 39; refine (spoilt_any _ _ (u64r n).1 (u64r n).2).mono ?_; rintro e w' ⟨rfl, rfl⟩)
   go_ret2
   exact ⟨ret_ints (by unfold boxW; rw [if_neg (by omega), if_pos rfl, if_neg hs]) (by unfold boxE; rw [if_neg (by omega), if_pos rfl]), (by repeat' (first | (with_reducible exact Below.refl _ _) | (with_reducible assumption) | (with_reducible refine below_drewN ?_ _) | (with_reducible refine Below.drew ?_) | (with_reducible refine Below.alloc ?_ ?_ _) | (with_reducible refine Below.setCell ?_ ?_ _) | go_size))⟩
 by_cases h4 : n < loI k
 ·go_enter Try.func33, Try.ntmps33
  go_wp2_with (go_at_call 41; refine (bounds_any _ _).mono ?_; rintro e w' ⟨rfl, rfl⟩)
  go_ret2
  exact ⟨ret_ints (by unfold boxW; rw [if_neg (by omega), if_neg h3, if_pos (by omega)]) (by unfold boxE; rw [if_neg (by omega), if_neg h3, if_pos (by omega)]), (by repeat' (first | (with_reducible exact Below.refl _ _) | (with_reducible assumption) | (with_reducible refine below_drewN ?_ _) | (with_reducible refine Below.drew ?_) | (with_reducible refine Below.alloc ?_ ?_ _) | (with_reducible refine Below.setCell ?_ ?_ _) | go_size))⟩
 by_cases h5 : hiI k < n
 ·go_enter Try.func33, Try.ntmps33
  go_wp2_with (go_at_call 41; refine (bounds_any _ _).mono ?_; rintro e w' ⟨rfl, rfl⟩)
  go_ret2
  exact ⟨ret_ints (by unfold boxW; rw [if_neg (by omega), if_neg h3, if_pos (by omega)]) (by unfold boxE; rw [if_neg (by omega), if_neg h3, if_pos (by omega)]), (by repeat' (first | (with_reducible exact Below.refl _ _) | (with_reducible assumption) | (with_reducible refine below_drewN ?_ _) | (with_reducible refine Below.drew ?_) | (with_reducible refine Below.alloc ?_ ?_ _) | (with_reducible refine Below.setCell ?_ ?_ _) | go_size))⟩
 have ho := Lib.hid (or_tag k n h1' h2')
 go_enter Try.func33, Try.ntmps33
 go_wp2_with (go_at_call 41; refine (bounds_any _ _).mono ?_; rintro e w' ⟨rfl, rfl⟩)
 go_quiet ((go_at_call 42; exact Calls.quiet_of_same ((tag_any _ _ h1' h2').mono fun _ _ h => ⟨h.1, h.2.symm⟩)))
 go_wp2
 go_ret2
 exact ⟨ret_ints (by unfold boxW; rw [if_neg (by omega), if_neg h3, if_neg (by omega)]; exact ho.out) (by unfold boxE; rw [if_neg (by omega), if_neg h3, if_neg (by omega)]), (by repeat' (first | (with_reducible exact Below.refl _ _) | (with_reducible assumption) | (with_reducible refine below_drewN ?_ _) | (with_reducible refine Below.drew ?_) | (with_reducible refine Below.alloc ?_ ?_ _) | (with_reducible refine Below.setCell ?_ ?_ _) | go_size))⟩

def unK0 (w : Int) : Int := w / 281474976710656 - 65529
def unK (w : Int) : Int := if 3 ≤ unK0 w then unK0 w + 1 else unK0 w
def unN (w : Int) : Int := if unK w = 2 then wrap64 (wrap32 (w % 4294967296)) else w % 4294967296
def isTag (w : Int) : Bool := decide (65529 ≤ w / 281474976710656 ∧ w / 281474976710656 ≤ 65534)
def unE (w : Int) : Int :=
  if isTag w then (if boxE (unK w) (unN w) = 0 ∧ boxW (unK w) (unN w) = w then 0 else 3)
  else if spoiltB w ∧ w ≠ 9221120237041090561 then 3 else 0
def unKind (w : Int) : Int := if unE w = 0 then (if isTag w then unK w else 3) else 0
def unNum (w : Int) : Int := if unE w = 0 then (if isTag w then unN w else wrap64 w) else 0
theorem ret_val {k n e k' n' e' : Int} (h1 : k = k') (h2 : n = n') (h3 : e = e') :
  Ending.returned (.tuple #[.agg #[.int .i64 k, .int .i64 n], .int .i64 e]) = .returned (.tuple #[.agg #[.int .i64 k', .int .i64 n'], .int .i64 e']) := by rw [h1, h2, h3]

set_option maxHeartbeats 400000 in
theorem unbox_plain (u : Int) (w : World) (h0 : 0 ≤ u) (h1 : u < 18446744073709551616) (ht : isTag u = false) (hs : spoiltB u = false) :
  Calls Try.prog 30 #[.int .u64 u] w fun e w' => e = .returned (.tuple #[.agg #[.int .i64 (unKind u), .int .i64 (unNum u)], .int .i64 (unE u)]) ∧ Below w.heap.size w w' := by
 have hb : u / 281474976710656 < 65529 ∨ 65534 < u / 281474976710656 := by simp [isTag] at ht; omega
 have hE : Hid (unE u = 0) := by show unE u = 0; simp [unE, ht, hs]
 have hK : Hid (unKind u = 3) := by show unKind u = 3; simp [unKind, hE.out, ht]
 have hN : Hid (unNum u = wrap64 u) := by show unNum u = _; simp [unNum, hE.out, ht]
 clear ht
 rcases hb with hb | hb
 all_goals
  go_enter Try.func30, Try.ntmps30
  go_wp2_with (go_at_call 39; refine (spoilt_any _ _ h0 h1).mono ?_; rintro e w' ⟨rfl, rfl⟩)
  exact bodyPost_ret (v := .tuple #[.agg #[.int .i64 3, .int .i64 (wrap64 u)], .int .i64 0]) (by simp [results, Try.results30, go_sem]) rfl ⟨ret_val hK.out.symm hN.out.symm hE.out.symm, (by repeat' (first | (with_reducible exact Below.refl _ _) | (with_reducible assumption) | (with_reducible refine below_drewN ?_ _) | (with_reducible refine Below.drew ?_) | (with_reducible refine Below.alloc ?_ ?_ _) | (with_reducible refine Below.setCell ?_ ?_ _) | go_size))⟩

set_option maxHeartbeats 400000 in
theorem unbox_odd (w : World) :
  Calls Try.prog 30 #[.int .u64 9221120237041090561] w fun e w' => e = .returned (.tuple #[.agg #[.int .i64 (unKind 9221120237041090561), .int .i64 (unNum 9221120237041090561)], .int .i64 (unE 9221120237041090561)]) ∧ Below w.heap.size w w' := by
 have hs : spoiltB 9221120237041090561 = true := by decide +kernel
 have hE : Hid (unE 9221120237041090561 = 0) := by show unE _ = _; decide +kernel
 have hK : Hid (unKind 9221120237041090561 = 3) := by show unKind _ = _; decide +kernel
 have hN : Hid (unNum 9221120237041090561 = 9221120237041090561) := by show unNum _ = _; decide +kernel
 go_enter Try.func30, Try.ntmps30
 go_wp2_with (go_at_call 39; refine (spoilt_any _ _ (by omega) (by omega)).mono ?_; rintro e w' ⟨rfl, rfl⟩)
 exact bodyPost_ret (v := .tuple #[.agg #[.int .i64 3, .int .i64 9221120237041090561], .int .i64 0]) (by simp [results, Try.results30, go_sem]) rfl ⟨ret_val hK.out.symm hN.out.symm hE.out.symm, (by repeat' (first | (with_reducible exact Below.refl _ _) | (with_reducible assumption) | (with_reducible refine below_drewN ?_ _) | (with_reducible refine Below.drew ?_) | (with_reducible refine Below.alloc ?_ ?_ _) | (with_reducible refine Below.setCell ?_ ?_ _) | go_size))⟩

set_option maxHeartbeats 400000 in
theorem unbox_spoilt (u : Int) (w : World) (h0 : 0 ≤ u) (h1 : u < 18446744073709551616) (ht : isTag u = false) (hs : spoiltB u = true) (ho : (u != 9221120237041090561) = true) :
  Calls Try.prog 30 #[.int .u64 u] w fun e w' => e = .returned (.tuple #[.agg #[.int .i64 (unKind u), .int .i64 (unNum u)], .int .i64 (unE u)]) ∧ Below w.heap.size w w' := by
 have hb : u / 281474976710656 < 65529 ∨ 65534 < u / 281474976710656 := by simp [isTag] at ht; omega
 have hE : Hid (unE u = 3) := by show unE u = 3; simp only [bne_iff_ne] at ho; simp [unE, ht, hs, ho]
 have hK : Hid (unKind u = 0) := by show unKind u = 0; simp [unKind, hE.out]
 have hN : Hid (unNum u = 0) := by show unNum u = _; simp [unNum, hE.out]
 clear ht
 rcases hb with hb | hb
 all_goals
  go_enter Try.func30, Try.ntmps30
  go_wp2_with (go_at_call 39; refine (spoilt_any _ _ h0 h1).mono ?_; rintro e w' ⟨rfl, rfl⟩)
  exact bodyPost_ret (v := .tuple #[.agg #[.int .i64 0, .int .i64 0], .int .i64 3]) (by simp [results, Try.results30, go_sem]) rfl ⟨ret_val hK.out.symm hN.out.symm hE.out.symm, (by repeat' (first | (with_reducible exact Below.refl _ _) | (with_reducible assumption) | (with_reducible refine below_drewN ?_ _) | (with_reducible refine Below.drew ?_) | (with_reducible refine Below.alloc ?_ ?_ _) | (with_reducible refine Below.setCell ?_ ?_ _) | go_size))⟩

set_option maxHeartbeats 1000000 in
theorem unbox_tag1 (u : Int) (w : World) (h0 : 0 ≤ u) (h1 : u < 18446744073709551616) (ht : isTag u = true) (hk : u / 281474976710656 < 65531) :
  Calls Try.prog 30 #[.int .u64 u] w fun e w' => e = .returned (.tuple #[.agg #[.int .i64 (unKind u), .int .i64 (unNum u)], .int .i64 (unE u)]) ∧ Below w.heap.size w w' := by
 have hb : 65529 ≤ u / 281474976710656 ∧ u / 281474976710656 ≤ 65534 := by simpa [isTag] using ht
 obtain ⟨hb1, hb2⟩ := hb
 have hK : Hid (unK u = u / 281474976710656 - 65529) := by show unK u = _; unfold unK unK0; split <;> omega
 have hN : Hid (unN u = u % 4294967296) := by show unN u = _; unfold unN; rw [hK.out]; rw [if_neg (by omega)]
 have hT := Lib.hid ht; clear ht
 by_cases hE : boxE (u / 281474976710656 - 65529) (u % 4294967296) = 0
 ·by_cases hW : boxW (u / 281474976710656 - 65529) (u % 4294967296) = u
  ·have h3 : Hid (unE u = 0) := by show unE u = 0; simp [unE, hT.out, hK.out, hN.out, hE, hW]
   have h4 : Hid (unKind u = u / 281474976710656 - 65529) := by show unKind u = _; simp [unKind, h3.out, hT.out, hK.out]
   have h5 : Hid (unNum u = u % 4294967296) := by show unNum u = _; simp [unNum, h3.out, hT.out, hN.out]
   have HE : (boxE (u / 281474976710656 - 65529) (u % 4294967296) != 0) = false := by simp [hE]
   have HW : (boxW (u / 281474976710656 - 65529) (u % 4294967296) != u) = false := by simp [hW]
   clear hE hW
   go_enter Try.func30, Try.ntmps30
   go_wp2_with (go_at_call 33; refine (box_any _ _ _).mono ?_; rintro e w' ⟨rfl, hbw⟩; obtain ⟨hc, hf, hz⟩ := bcell hbw; have hB := below_call (B := w.heap.size) (w := w) hbw (by repeat' (first | (with_reducible exact Below.refl _ _) | (with_reducible assumption) | (with_reducible refine below_drewN ?_ _) | (with_reducible refine Below.drew ?_) | (with_reducible refine Below.alloc ?_ ?_ _) | (with_reducible refine Below.setCell ?_ ?_ _) | go_size)) (by simp; try omega); have hs0 : (w'.cell? ⟨w.heap.size, 0, none⟩).isSome = true := (by rw [hc _ _ (by simp; omega)]; simp [go_sem]); have hs1 : (w'.cell? ⟨w.heap.size, 1, none⟩).isSome = true := (by rw [hc _ _ (by simp; omega)]; simp [go_sem]); simp at hz)
   exact bodyPost_ret (v := .tuple #[.agg #[.int .i64 (u / 281474976710656 - 65529), .int .i64 (u % 4294967296)], .int .i64 0]) (by simp [results, Try.results30, go_sem, *]) rfl ⟨ret_val h4.out.symm h5.out.symm h3.out.symm, (by repeat' (first | (with_reducible exact Below.refl _ _) | (with_reducible assumption) | (with_reducible refine below_drewN ?_ _) | (with_reducible refine Below.drew ?_) | (with_reducible refine Below.alloc ?_ ?_ _) | (with_reducible refine Below.setCell ?_ ?_ _) | go_size))⟩
  ·have h3 : Hid (unE u = 3) := by show unE u = 3; simp [unE, hT.out, hK.out, hN.out, hW]
   have h4 : Hid (unKind u = 0) := by show unKind u = _; simp [unKind, h3.out]
   have h5 : Hid (unNum u = 0) := by show unNum u = _; simp [unNum, h3.out]
   have HE : (boxE (u / 281474976710656 - 65529) (u % 4294967296) != 0) = false := by simp [hE]
   have HW : (boxW (u / 281474976710656 - 65529) (u % 4294967296) != u) = true := by simp [hW]
   clear hE hW
   go_enter Try.func30, Try.ntmps30
   go_wp2_with (go_at_call 33; refine (box_any _ _ _).mono ?_; rintro e w' ⟨rfl, hbw⟩; obtain ⟨hc, hf, hz⟩ := bcell hbw; have hB := below_call (B := w.heap.size) (w := w) hbw (by repeat' (first | (with_reducible exact Below.refl _ _) | (with_reducible assumption) | (with_reducible refine below_drewN ?_ _) | (with_reducible refine Below.drew ?_) | (with_reducible refine Below.alloc ?_ ?_ _) | (with_reducible refine Below.setCell ?_ ?_ _) | go_size)) (by simp; try omega); have hs0 : (w'.cell? ⟨w.heap.size, 0, none⟩).isSome = true := (by rw [hc _ _ (by simp; omega)]; simp [go_sem]); have hs1 : (w'.cell? ⟨w.heap.size, 1, none⟩).isSome = true := (by rw [hc _ _ (by simp; omega)]; simp [go_sem]); simp at hz)
   exact bodyPost_ret (v := .tuple #[.agg #[.int .i64 (0), .int .i64 (0)], .int .i64 3]) (by simp [results, Try.results30, go_sem, *]) rfl ⟨ret_val h4.out.symm h5.out.symm h3.out.symm, (by repeat' (first | (with_reducible exact Below.refl _ _) | (with_reducible assumption) | (with_reducible refine below_drewN ?_ _) | (with_reducible refine Below.drew ?_) | (with_reducible refine Below.alloc ?_ ?_ _) | (with_reducible refine Below.setCell ?_ ?_ _) | go_size))⟩
 ·have h3 : Hid (unE u = 3) := by show unE u = 3; simp [unE, hT.out, hK.out, hN.out, hE]
  have h4 : Hid (unKind u = 0) := by show unKind u = _; simp [unKind, h3.out]
  have h5 : Hid (unNum u = 0) := by show unNum u = _; simp [unNum, h3.out]
  have HE : (boxE (u / 281474976710656 - 65529) (u % 4294967296) != 0) = true := by simp [hE]
  clear hE
  go_enter Try.func30, Try.ntmps30
  go_wp2_with (go_at_call 33; refine (box_any _ _ _).mono ?_; rintro e w' ⟨rfl, hbw⟩; obtain ⟨hc, hf, hz⟩ := bcell hbw; have hB := below_call (B := w.heap.size) (w := w) hbw (by repeat' (first | (with_reducible exact Below.refl _ _) | (with_reducible assumption) | (with_reducible refine below_drewN ?_ _) | (with_reducible refine Below.drew ?_) | (with_reducible refine Below.alloc ?_ ?_ _) | (with_reducible refine Below.setCell ?_ ?_ _) | go_size)) (by simp; try omega); have hs0 : (w'.cell? ⟨w.heap.size, 0, none⟩).isSome = true := (by rw [hc _ _ (by simp; omega)]; simp [go_sem]); have hs1 : (w'.cell? ⟨w.heap.size, 1, none⟩).isSome = true := (by rw [hc _ _ (by simp; omega)]; simp [go_sem]); simp at hz)
  exact bodyPost_ret (v := .tuple #[.agg #[.int .i64 (0), .int .i64 (0)], .int .i64 3]) (by simp [results, Try.results30, go_sem, *]) rfl ⟨ret_val h4.out.symm h5.out.symm h3.out.symm, (by repeat' (first | (with_reducible exact Below.refl _ _) | (with_reducible assumption) | (with_reducible refine below_drewN ?_ _) | (with_reducible refine Below.drew ?_) | (with_reducible refine Below.alloc ?_ ?_ _) | (with_reducible refine Below.setCell ?_ ?_ _) | go_size))⟩

set_option maxHeartbeats 1000000 in
theorem unbox_tag2 (u : Int) (w : World) (h0 : 0 ≤ u) (h1 : u < 18446744073709551616) (ht : isTag u = true) (hk : u / 281474976710656 = 65531) :
  Calls Try.prog 30 #[.int .u64 u] w fun e w' => e = .returned (.tuple #[.agg #[.int .i64 (unKind u), .int .i64 (unNum u)], .int .i64 (unE u)]) ∧ Below w.heap.size w w' := by
 have hb : 65529 ≤ u / 281474976710656 ∧ u / 281474976710656 ≤ 65534 := by simpa [isTag] using ht
 obtain ⟨hb1, hb2⟩ := hb
 have hK : Hid (unK u = 2) := by show unK u = _; unfold unK unK0; rw [hk]; rfl
 have hN : Hid (unN u = wrap64 (wrap32 (u % 4294967296))) := by show unN u = _; unfold unN; rw [hK.out]; rw [if_pos rfl]
 have hT := Lib.hid ht; clear ht
 by_cases hE : boxE (2) (wrap64 (wrap32 (u % 4294967296))) = 0
 ·by_cases hW : boxW (2) (wrap64 (wrap32 (u % 4294967296))) = u
  ·have h3 : Hid (unE u = 0) := by show unE u = 0; simp [unE, hT.out, hK.out, hN.out, hE, hW]
   have h4 : Hid (unKind u = 2) := by show unKind u = _; simp [unKind, h3.out, hT.out, hK.out]
   have h5 : Hid (unNum u = wrap64 (wrap32 (u % 4294967296))) := by show unNum u = _; simp [unNum, h3.out, hT.out, hN.out]
   have HE : (boxE (2) (wrap64 (wrap32 (u % 4294967296))) != 0) = false := by simp [hE]
   have HW : (boxW (2) (wrap64 (wrap32 (u % 4294967296))) != u) = false := by simp [hW]
   clear hE hW
   go_enter Try.func30, Try.ntmps30
   go_wp2_with (go_at_call 33; refine (box_any _ _ _).mono ?_; rintro e w' ⟨rfl, hbw⟩; obtain ⟨hc, hf, hz⟩ := bcell hbw; have hB := below_call (B := w.heap.size) (w := w) hbw (by repeat' (first | (with_reducible exact Below.refl _ _) | (with_reducible assumption) | (with_reducible refine below_drewN ?_ _) | (with_reducible refine Below.drew ?_) | (with_reducible refine Below.alloc ?_ ?_ _) | (with_reducible refine Below.setCell ?_ ?_ _) | go_size)) (by simp; try omega); have hs0 : (w'.cell? ⟨w.heap.size, 0, none⟩).isSome = true := (by rw [hc _ _ (by simp; omega)]; simp [go_sem]); have hs1 : (w'.cell? ⟨w.heap.size, 1, none⟩).isSome = true := (by rw [hc _ _ (by simp; omega)]; simp [go_sem]); simp at hz)
   exact bodyPost_ret (v := .tuple #[.agg #[.int .i64 (2), .int .i64 (wrap64 (wrap32 (u % 4294967296)))], .int .i64 0]) (by simp [results, Try.results30, go_sem, *]) rfl ⟨ret_val h4.out.symm h5.out.symm h3.out.symm, (by repeat' (first | (with_reducible exact Below.refl _ _) | (with_reducible assumption) | (with_reducible refine below_drewN ?_ _) | (with_reducible refine Below.drew ?_) | (with_reducible refine Below.alloc ?_ ?_ _) | (with_reducible refine Below.setCell ?_ ?_ _) | go_size))⟩
  ·have h3 : Hid (unE u = 3) := by show unE u = 3; simp [unE, hT.out, hK.out, hN.out, hW]
   have h4 : Hid (unKind u = 0) := by show unKind u = _; simp [unKind, h3.out]
   have h5 : Hid (unNum u = 0) := by show unNum u = _; simp [unNum, h3.out]
   have HE : (boxE (2) (wrap64 (wrap32 (u % 4294967296))) != 0) = false := by simp [hE]
   have HW : (boxW (2) (wrap64 (wrap32 (u % 4294967296))) != u) = true := by simp [hW]
   clear hE hW
   go_enter Try.func30, Try.ntmps30
   go_wp2_with (go_at_call 33; refine (box_any _ _ _).mono ?_; rintro e w' ⟨rfl, hbw⟩; obtain ⟨hc, hf, hz⟩ := bcell hbw; have hB := below_call (B := w.heap.size) (w := w) hbw (by repeat' (first | (with_reducible exact Below.refl _ _) | (with_reducible assumption) | (with_reducible refine below_drewN ?_ _) | (with_reducible refine Below.drew ?_) | (with_reducible refine Below.alloc ?_ ?_ _) | (with_reducible refine Below.setCell ?_ ?_ _) | go_size)) (by simp; try omega); have hs0 : (w'.cell? ⟨w.heap.size, 0, none⟩).isSome = true := (by rw [hc _ _ (by simp; omega)]; simp [go_sem]); have hs1 : (w'.cell? ⟨w.heap.size, 1, none⟩).isSome = true := (by rw [hc _ _ (by simp; omega)]; simp [go_sem]); simp at hz)
   exact bodyPost_ret (v := .tuple #[.agg #[.int .i64 (0), .int .i64 (0)], .int .i64 3]) (by simp [results, Try.results30, go_sem, *]) rfl ⟨ret_val h4.out.symm h5.out.symm h3.out.symm, (by repeat' (first | (with_reducible exact Below.refl _ _) | (with_reducible assumption) | (with_reducible refine below_drewN ?_ _) | (with_reducible refine Below.drew ?_) | (with_reducible refine Below.alloc ?_ ?_ _) | (with_reducible refine Below.setCell ?_ ?_ _) | go_size))⟩
 ·have h3 : Hid (unE u = 3) := by show unE u = 3; simp [unE, hT.out, hK.out, hN.out, hE]
  have h4 : Hid (unKind u = 0) := by show unKind u = _; simp [unKind, h3.out]
  have h5 : Hid (unNum u = 0) := by show unNum u = _; simp [unNum, h3.out]
  have HE : (boxE (2) (wrap64 (wrap32 (u % 4294967296))) != 0) = true := by simp [hE]
  clear hE
  go_enter Try.func30, Try.ntmps30
  go_wp2_with (go_at_call 33; refine (box_any _ _ _).mono ?_; rintro e w' ⟨rfl, hbw⟩; obtain ⟨hc, hf, hz⟩ := bcell hbw; have hB := below_call (B := w.heap.size) (w := w) hbw (by repeat' (first | (with_reducible exact Below.refl _ _) | (with_reducible assumption) | (with_reducible refine below_drewN ?_ _) | (with_reducible refine Below.drew ?_) | (with_reducible refine Below.alloc ?_ ?_ _) | (with_reducible refine Below.setCell ?_ ?_ _) | go_size)) (by simp; try omega); have hs0 : (w'.cell? ⟨w.heap.size, 0, none⟩).isSome = true := (by rw [hc _ _ (by simp; omega)]; simp [go_sem]); have hs1 : (w'.cell? ⟨w.heap.size, 1, none⟩).isSome = true := (by rw [hc _ _ (by simp; omega)]; simp [go_sem]); simp at hz)
  exact bodyPost_ret (v := .tuple #[.agg #[.int .i64 (0), .int .i64 (0)], .int .i64 3]) (by simp [results, Try.results30, go_sem, *]) rfl ⟨ret_val h4.out.symm h5.out.symm h3.out.symm, (by repeat' (first | (with_reducible exact Below.refl _ _) | (with_reducible assumption) | (with_reducible refine below_drewN ?_ _) | (with_reducible refine Below.drew ?_) | (with_reducible refine Below.alloc ?_ ?_ _) | (with_reducible refine Below.setCell ?_ ?_ _) | go_size))⟩

set_option maxHeartbeats 1000000 in
theorem unbox_tag3 (u : Int) (w : World) (h0 : 0 ≤ u) (h1 : u < 18446744073709551616) (ht : isTag u = true) (hk : 65531 < u / 281474976710656) :
  Calls Try.prog 30 #[.int .u64 u] w fun e w' => e = .returned (.tuple #[.agg #[.int .i64 (unKind u), .int .i64 (unNum u)], .int .i64 (unE u)]) ∧ Below w.heap.size w w' := by
 have hb : 65529 ≤ u / 281474976710656 ∧ u / 281474976710656 ≤ 65534 := by simpa [isTag] using ht
 obtain ⟨hb1, hb2⟩ := hb
 have hK : Hid (unK u = u / 281474976710656 - 65529 + 1) := by show unK u = _; unfold unK unK0; rw [if_pos (by omega)]
 have hN : Hid (unN u = u % 4294967296) := by show unN u = _; unfold unN; rw [hK.out]; rw [if_neg (by omega)]
 have hT := Lib.hid ht; clear ht
 by_cases hE : boxE (u / 281474976710656 - 65529 + 1) (u % 4294967296) = 0
 ·by_cases hW : boxW (u / 281474976710656 - 65529 + 1) (u % 4294967296) = u
  ·have h3 : Hid (unE u = 0) := by show unE u = 0; simp [unE, hT.out, hK.out, hN.out, hE, hW]
   have h4 : Hid (unKind u = u / 281474976710656 - 65529 + 1) := by show unKind u = _; simp [unKind, h3.out, hT.out, hK.out]
   have h5 : Hid (unNum u = u % 4294967296) := by show unNum u = _; simp [unNum, h3.out, hT.out, hN.out]
   have HE : (boxE (u / 281474976710656 - 65529 + 1) (u % 4294967296) != 0) = false := by simp [hE]
   have HW : (boxW (u / 281474976710656 - 65529 + 1) (u % 4294967296) != u) = false := by simp [hW]
   clear hE hW
   go_enter Try.func30, Try.ntmps30
   go_wp2_with (go_at_call 33; refine (box_any _ _ _).mono ?_; rintro e w' ⟨rfl, hbw⟩; obtain ⟨hc, hf, hz⟩ := bcell hbw; have hB := below_call (B := w.heap.size) (w := w) hbw (by repeat' (first | (with_reducible exact Below.refl _ _) | (with_reducible assumption) | (with_reducible refine below_drewN ?_ _) | (with_reducible refine Below.drew ?_) | (with_reducible refine Below.alloc ?_ ?_ _) | (with_reducible refine Below.setCell ?_ ?_ _) | go_size)) (by simp; try omega); have hs0 : (w'.cell? ⟨w.heap.size, 0, none⟩).isSome = true := (by rw [hc _ _ (by simp; omega)]; simp [go_sem]); have hs1 : (w'.cell? ⟨w.heap.size, 1, none⟩).isSome = true := (by rw [hc _ _ (by simp; omega)]; simp [go_sem]); simp at hz)
   exact bodyPost_ret (v := .tuple #[.agg #[.int .i64 (u / 281474976710656 - 65529 + 1), .int .i64 (u % 4294967296)], .int .i64 0]) (by simp [results, Try.results30, go_sem, *]) rfl ⟨ret_val h4.out.symm h5.out.symm h3.out.symm, (by repeat' (first | (with_reducible exact Below.refl _ _) | (with_reducible assumption) | (with_reducible refine below_drewN ?_ _) | (with_reducible refine Below.drew ?_) | (with_reducible refine Below.alloc ?_ ?_ _) | (with_reducible refine Below.setCell ?_ ?_ _) | go_size))⟩
  ·have h3 : Hid (unE u = 3) := by show unE u = 3; simp [unE, hT.out, hK.out, hN.out, hW]
   have h4 : Hid (unKind u = 0) := by show unKind u = _; simp [unKind, h3.out]
   have h5 : Hid (unNum u = 0) := by show unNum u = _; simp [unNum, h3.out]
   have HE : (boxE (u / 281474976710656 - 65529 + 1) (u % 4294967296) != 0) = false := by simp [hE]
   have HW : (boxW (u / 281474976710656 - 65529 + 1) (u % 4294967296) != u) = true := by simp [hW]
   clear hE hW
   go_enter Try.func30, Try.ntmps30
   go_wp2_with (go_at_call 33; refine (box_any _ _ _).mono ?_; rintro e w' ⟨rfl, hbw⟩; obtain ⟨hc, hf, hz⟩ := bcell hbw; have hB := below_call (B := w.heap.size) (w := w) hbw (by repeat' (first | (with_reducible exact Below.refl _ _) | (with_reducible assumption) | (with_reducible refine below_drewN ?_ _) | (with_reducible refine Below.drew ?_) | (with_reducible refine Below.alloc ?_ ?_ _) | (with_reducible refine Below.setCell ?_ ?_ _) | go_size)) (by simp; try omega); have hs0 : (w'.cell? ⟨w.heap.size, 0, none⟩).isSome = true := (by rw [hc _ _ (by simp; omega)]; simp [go_sem]); have hs1 : (w'.cell? ⟨w.heap.size, 1, none⟩).isSome = true := (by rw [hc _ _ (by simp; omega)]; simp [go_sem]); simp at hz)
   exact bodyPost_ret (v := .tuple #[.agg #[.int .i64 (0), .int .i64 (0)], .int .i64 3]) (by simp [results, Try.results30, go_sem, *]) rfl ⟨ret_val h4.out.symm h5.out.symm h3.out.symm, (by repeat' (first | (with_reducible exact Below.refl _ _) | (with_reducible assumption) | (with_reducible refine below_drewN ?_ _) | (with_reducible refine Below.drew ?_) | (with_reducible refine Below.alloc ?_ ?_ _) | (with_reducible refine Below.setCell ?_ ?_ _) | go_size))⟩
 ·have h3 : Hid (unE u = 3) := by show unE u = 3; simp [unE, hT.out, hK.out, hN.out, hE]
  have h4 : Hid (unKind u = 0) := by show unKind u = _; simp [unKind, h3.out]
  have h5 : Hid (unNum u = 0) := by show unNum u = _; simp [unNum, h3.out]
  have HE : (boxE (u / 281474976710656 - 65529 + 1) (u % 4294967296) != 0) = true := by simp [hE]
  clear hE
  go_enter Try.func30, Try.ntmps30
  go_wp2_with (go_at_call 33; refine (box_any _ _ _).mono ?_; rintro e w' ⟨rfl, hbw⟩; obtain ⟨hc, hf, hz⟩ := bcell hbw; have hB := below_call (B := w.heap.size) (w := w) hbw (by repeat' (first | (with_reducible exact Below.refl _ _) | (with_reducible assumption) | (with_reducible refine below_drewN ?_ _) | (with_reducible refine Below.drew ?_) | (with_reducible refine Below.alloc ?_ ?_ _) | (with_reducible refine Below.setCell ?_ ?_ _) | go_size)) (by simp; try omega); have hs0 : (w'.cell? ⟨w.heap.size, 0, none⟩).isSome = true := (by rw [hc _ _ (by simp; omega)]; simp [go_sem]); have hs1 : (w'.cell? ⟨w.heap.size, 1, none⟩).isSome = true := (by rw [hc _ _ (by simp; omega)]; simp [go_sem]); simp at hz)
  exact bodyPost_ret (v := .tuple #[.agg #[.int .i64 (0), .int .i64 (0)], .int .i64 3]) (by simp [results, Try.results30, go_sem, *]) rfl ⟨ret_val h4.out.symm h5.out.symm h3.out.symm, (by repeat' (first | (with_reducible exact Below.refl _ _) | (with_reducible assumption) | (with_reducible refine below_drewN ?_ _) | (with_reducible refine Below.drew ?_) | (with_reducible refine Below.alloc ?_ ?_ _) | (with_reducible refine Below.setCell ?_ ?_ _) | go_size))⟩

theorem unbox_any (u : Int) (w : World) (h0 : 0 ≤ u) (h1 : u < 18446744073709551616) :
  Calls Try.prog 30 #[.int .u64 u] w fun e w' => e = .returned (.tuple #[.agg #[.int .i64 (unKind u), .int .i64 (unNum u)], .int .i64 (unE u)]) ∧ Below w.heap.size w w' := by
 cases ht : isTag u with
 | true =>
  by_cases hk : u / 281474976710656 = 65531
  ·exact unbox_tag2 u w h0 h1 ht hk
  ·by_cases hk2 : u / 281474976710656 < 65531
   ·exact unbox_tag1 u w h0 h1 ht hk2
   ·exact unbox_tag3 u w h0 h1 ht (by omega)
 | false =>
  cases hs : spoiltB u with
  | false => exact unbox_plain u w h0 h1 ht hs
  | true =>
   by_cases ho : u = 9221120237041090561
   ·subst ho; exact unbox_odd w
   ·exact unbox_spoilt u w h0 h1 ht hs (by simpa using ho)

def kindI (u : Int) : Int := if unE u = 0 then unKind u else -1
end Go.Proofs.Ytiiefcbiemohhaa

namespace Go.Proofs.Ytiiefcbiemohhaa
open Go Go.RowKit
set_option linter.unusedVariables false
set_option linter.unusedSimpArgs false

def boxX (l : List (FuncId × Bool)) : CallT := fun f args fl h => match args with
  | [.agg [.val (.int .i64 k), .val (.int .i64 n)]] => if f = 33 then some (.tuple [.val (.int .u64 (boxW k n)), I64 (boxE k n)], h) else none
  | [.val (.int .u64 u)] => if f = 30 ∧ 0 ≤ u ∧ u < 18446744073709551616 then some (.tuple [.agg [I64 (unKind u), I64 (unNum u)], I64 (unE u)], h) else none
  | [] => constX l f [] fl h
  | _ => none
theorem ints_vr {m : Map} {k : IntKind} {n : Int} {v : Value} (h : VR m (.val (.int k n)) v) : v = .int k n := h.lit
theorem boxX_ok {l : List (FuncId × Bool)} (hc : CallOk Try.prog (constX l)) : CallOk Try.prog (boxX l) := by
 intro f args fl h v h' he
 unfold boxX at he
 split at he
 ·rename_i k n
  split at he
  ·rename_i hf
   subst hf
   injection he with he; injection he with e1 e2; subst e1; subst e2
   have hb : (Try.f33.body).isSome = true := by kernel_rfl
   obtain ⟨c, hc'⟩ := Option.isSome_iff_exists.1 hb
   refine ⟨⟨Try.f33, c, Try.func33, by kernel_rfl, hc'⟩, fun n0 B0 m w vals r hfl hv => ?_⟩
   have hvals : vals = #[.agg #[.int .i64 k, .int .i64 n]] := by
    obtain ⟨hl, hg⟩ := hv
    match hvl : vals.toList, hl, hg with
    | [x], _, hg =>
     have := hg 0 _ x rfl rfl
     obtain ⟨vs, rfl, h2⟩ := VRs.of_agg this
     match hvs : vs.toList, h2 with
     | [a, b], h2 =>
      have ha := ints_vr (h2.2 0 _ a rfl rfl)
      have hb := ints_vr (h2.2 1 _ b rfl rfl)
      subst ha; subst hb
      have e1 : vs = #[.int .i64 k, .int .i64 n] := by apply Array.ext'; simpa using hvs
      subst e1
      apply Array.ext'; simpa using hvl
     | [], h2 => have := h2.1; simp at this
     | [_], h2 => have := h2.1; simp at this
     | _ :: _ :: _ :: _, h2 => have := h2.1; simp at this
   subst hvals
   refine (box_any k n w).mono fun e W' hp => ?_
   obtain ⟨rfl, hbl⟩ := hp
   refine ⟨_, m, rfl, Post.below r hbl, ?_⟩
   exact VRs.tuple (vs := #[.int .u64 (boxW k n), .int .i64 (boxE k n)]) (.cons (.val rfl) (.cons (.val rfl) .nil))
  ·cases he
 ·rename_i u
  split at he
  ·rename_i hf
   obtain ⟨hf, h0, h1⟩ := hf
   subst hf
   injection he with he; injection he with e1 e2; subst e1; subst e2
   have hb : (Try.f30.body).isSome = true := by kernel_rfl
   obtain ⟨c, hc'⟩ := Option.isSome_iff_exists.1 hb
   refine ⟨⟨Try.f30, c, Try.func30, by kernel_rfl, hc'⟩, fun n0 B0 m w vals r hfl hv => ?_⟩
   have hvals : vals = #[.int .u64 u] := by
    obtain ⟨hl, hg⟩ := hv
    match hvl : vals.toList, hl, hg with
    | [x], _, hg =>
     have hx := ints_vr (hg 0 _ x rfl rfl)
     subst hx
     apply Array.ext'; simpa using hvl
   subst hvals
   refine (unbox_any u w h0 h1).mono fun e W' hp => ?_
   obtain ⟨rfl, hbl⟩ := hp
   refine ⟨_, m, rfl, Post.below r hbl, ?_⟩
   refine VRs.tuple (vs := #[.agg #[.int .i64 (unKind u), .int .i64 (unNum u)], .int .i64 (unE u)]) (.cons ?_ (.cons (.val rfl) .nil))
   exact VRs.agg (vs := #[.int .i64 (unKind u), .int .i64 (unNum u)]) (.cons (.val rfl) (.cons (.val rfl) .nil))
  ·cases he
 ·exact hc _ _ _ _ _ _ he
 ·cases he
variable {tb : List (FuncId × Bool)} {L : Nat → Bool} {H : ZH} {K : ZV → ZH → Prop}
theorem boxX_none {f : FuncId} {z : ZV} {zs : List ZV} (hf : f ≠ 33 ∧ f ≠ 30) : ∀ (args : List AV) (fl : Nat → Bool) (hp : Heap), args.length = (z :: zs).length → boxX tb f args fl hp = none := fun args fl hp ha => by
 unfold boxX
 split
 ·rw [if_neg hf.1]
 ·rw [if_neg (fun h => hf.2 h.1)]
 ·simp at ha
 ·rfl
theorem box_z {k n : Int} (hK : K (.tuple [.val (.int .u64 (boxW k n)), Z64 (boxE k n)]) H) : ZC (boxX tb) (cFunc Try.prog) 33 [.agg [Z64 k, Z64 n]] L H K := by
 intro fl w args r e ha
 subst e
 obtain ⟨a, ha0, ha1⟩ := ha.get (i := 0) rfl
 obtain ⟨ys, rfl, hys⟩ := ha1.agg_inv
 have e1 : ys = [I64 k, I64 n] := by
  have h1 := hys.1
  match ys, h1, hys with
  | [x, y], _, hys => rw [(hys.2 0 _ x rfl rfl).val_inv, (hys.2 1 _ y rfl rfl).val_inv]
 have e2 : args = [.agg ys] := by
  have := ha.1
  match args, this, ha0 with
  | [x], _, hv0 => simp at hv0; rw [hv0]
 subst e1; subst e2
 refine AC.const (v := .tuple [.val (.int .u64 (boxW k n)), I64 (boxE k n)]) (h' := w.h) (by simp [boxX]) ⟨_, w, rfl, r, Ext.refl w, ?_, hK⟩
 exact ZRs.toTuple (.cons (.fr (.val _)) (.cons (.fr (.val _)) .nil))
theorem unbox_z {u : Int} (h0 : 0 ≤ u ∧ u < 18446744073709551616) (hK : K (.tuple [.agg [Z64 (unKind u), Z64 (unNum u)], Z64 (unE u)]) H) : ZC (boxX tb) (cFunc Try.prog) 30 [.val (.int .u64 u)] L H K := by
 intro fl w args r e ha
 subst e
 obtain ⟨a, ha0, ha1⟩ := ha.get (i := 0) rfl
 have ea := ha1.val_inv
 subst ea
 have e2 : args = [.val (.int .u64 u)] := by
  have := ha.1
  match args, this, ha0 with
  | [x], _, hv0 => simp at hv0; rw [hv0]
 subst e2
 refine AC.const (v := .tuple [.agg [I64 (unKind u), I64 (unNum u)], I64 (unE u)]) (h' := w.h) (by simp [boxX, h0]) ⟨_, w, rfl, r, Ext.refl w, ?_, hK⟩
 exact ZRs.toTuple (.cons (ZRs.toAgg (.cons (.fr (.val _)) (.cons (.fr (.val _)) .nil))) (.cons (.fr (.val _)) .nil))
end Go.Proofs.Ytiiefcbiemohhaa

namespace Go.Proofs.Ytiiefcbiemohhaa
open Go Go.RowKit
set_option linter.unusedVariables false
def c_hl_collect : ACode := .seq (.ops [⟨(some 1), .box 2 (.tmp 0), none, true⟩,
 ⟨(some 2), .zero [(.val (.slice none 0 0)), (.val (.slice none 0 0))], none, true⟩,
 ⟨(some 3), .mv (.av (.val (.slice none 0 0))), none, true⟩,
 ⟨(some 4), .mv (.av (.val (.int .i64 0))), none, true⟩])
 (.seq (.seq (.ops [⟨(some 14), .load (some 2) (.tmp 1), none, true⟩,
 ⟨(some 15), .call (.av (.func 36 [])) [(.tmp 14)], none, true⟩,
 ⟨(some 5), .mv (.tmp 15), none, true⟩])
 (.seq (.ops [⟨(some 16), .mv (.tmp 5), none, true⟩,
 ⟨(some 17), .bin .neq (.tmp 16) (.av (.val (.int .i64 0))), none, true⟩])
 (.cond (.tmp 17)
 (.seq (.ops [⟨(some 18), .build [(.val (.slice none 0 0)), (.val (.slice none 0 0))] [], none, true⟩,
 ⟨(some 19), .mv (.tmp 5), none, true⟩,
 ⟨none, .store 2 (.tmp 2) (.tmp 18), none, true⟩,
 ⟨(some 3), .mv (.av (.val (.slice none 0 0))), none, true⟩,
 ⟨(some 4), .mv (.tmp 19), none, true⟩])
 (.ret))
 (.skip))))
 (.seq (.ops [⟨(some 20), .fieldAddr 0 (.tmp 1), none, true⟩,
 ⟨(some 21), .load none (.tmp 20), none, true⟩,
 ⟨(some 22), .mkMap, none, true⟩,
 ⟨(some 23), .build [(.val (.slice none 0 0)), (.val (.slice none 0 0)), (.val (.map none)), (.val (.slice none 0 0))] [(0, 1, (.tmp 21)), (2, 1, (.tmp 22))], none, true⟩,
 ⟨(some 24), .box 4 (.tmp 23), none, true⟩,
 ⟨(some 6), .mv (.tmp 24), none, true⟩])
 (.seq (.ops [⟨(some 7), .mv (.av (.val (.slice none 0 0))), none, true⟩])
 (.seq (.seq (.ops [⟨(some 25), .fieldAddr 1 (.tmp 1), none, true⟩,
 ⟨(some 26), .load none (.tmp 25), none, true⟩,
 ⟨(some 27), .len (.tmp 26), none, true⟩,
 ⟨(some 28), .mv (.av (.val (.int .i64 0))), none, true⟩])
 (rangeCode 0 1 29 28 27 38
 (.seq (.ops [⟨(some 30), .indexAddr 1 (.tmp 26) (.tmp 28), none, true⟩,
 ⟨(some 31), .load none (.tmp 30), none, true⟩,
 ⟨(some 9), .mv (.tmp 31), none, true⟩])
 (.ops [⟨(some 32), .mv (.tmp 7), none, true⟩,
 ⟨(some 33), .mv (.tmp 6), none, true⟩,
 ⟨(some 34), .mv (.tmp 9), none, true⟩,
 ⟨(some 35), .call (.av (.func 37 [])) [(.tmp 33), (.tmp 34)], none, true⟩,
 ⟨(some 36), .lits 1 1 [(.val (.int .u64 0))] [(0, 1, (.tmp 35))], none, true⟩,
 ⟨(some 37), .append 1 8 (.tmp 32) (.tmp 36), none, true⟩,
 ⟨(some 7), .mv (.tmp 37), none, true⟩]))))
 (.seq (.seq (.ops [⟨(some 10), .mv (.av (.val (.int .i64 0))), none, true⟩])
 (.block 2 (.loop (.seq (.seq (.ops [⟨(some 39), .mv (.tmp 10), none, true⟩,
 ⟨(some 40), .mv (.tmp 6), none, true⟩,
 ⟨(some 41), .nilCheck (.tmp 40), none, true⟩,
 ⟨(some 42), .fieldAddr 1 (.tmp 41), none, true⟩,
 ⟨(some 43), .load none (.tmp 42), none, true⟩,
 ⟨(some 44), .len (.tmp 43), none, true⟩,
 ⟨(some 45), .bin .lss (.tmp 39) (.tmp 44), none, true⟩])
 (.cond (.tmp 45)
 (.skip)
 (.exit 2)))
 (.block 3 (.seq (.ops [⟨(some 46), .mv (.tmp 6), none, true⟩,
 ⟨(some 47), .nilCheck (.tmp 46), none, true⟩,
 ⟨(some 48), .fieldAddr 1 (.tmp 47), none, true⟩,
 ⟨(some 49), .load none (.tmp 48), none, true⟩,
 ⟨(some 50), .mv (.tmp 10), none, true⟩,
 ⟨(some 51), .indexAddr 1 (.tmp 49) (.tmp 50), none, true⟩,
 ⟨(some 52), .load none (.tmp 51), none, true⟩,
 ⟨(some 53), .call (.av (.func 38 [])) [(.tmp 52)], none, true⟩,
 ⟨(some 11), .mv (.tmp 53), none, true⟩])
 (.seq (.seq (.ops [⟨(some 54), .mv (.tmp 10), none, true⟩,
 ⟨(some 55), .bin .add (.tmp 54) (.av (.val (.int .i64 1))), none, true⟩,
 ⟨(some 12), .mv (.tmp 55), none, true⟩])
 (.block 4 (.loop (.seq (.seq (.ops [⟨(some 56), .mv (.tmp 12), none, true⟩,
 ⟨(some 57), .mv (.tmp 10), none, true⟩,
 ⟨(some 58), .mv (.tmp 11), none, true⟩,
 ⟨(some 59), .bin .add (.tmp 57) (.tmp 58), none, true⟩,
 ⟨(some 60), .bin .leq (.tmp 56) (.tmp 59), none, true⟩])
 (.cond (.tmp 60)
 (.skip)
 (.exit 4)))
 (.seq (.block 5 (.seq (.ops [⟨(some 63), .mv (.tmp 6), none, true⟩,
 ⟨(some 64), .mv (.tmp 6), none, true⟩,
 ⟨(some 65), .nilCheck (.tmp 64), none, true⟩,
 ⟨(some 66), .fieldAddr 1 (.tmp 65), none, true⟩,
 ⟨(some 67), .load none (.tmp 66), none, true⟩,
 ⟨(some 68), .mv (.tmp 12), none, true⟩,
 ⟨(some 69), .indexAddr 1 (.tmp 67) (.tmp 68), none, true⟩,
 ⟨(some 70), .load none (.tmp 69), none, true⟩,
 ⟨(some 71), .call (.av (.func 37 [])) [(.tmp 63), (.tmp 70)], none, true⟩,
 ⟨(some 13), .mv (.tmp 71), none, true⟩])
 (.ops [⟨(some 72), .mv (.tmp 6), none, true⟩,
 ⟨(some 73), .nilCheck (.tmp 72), none, true⟩,
 ⟨(some 74), .fieldAddr 1 (.tmp 73), none, true⟩,
 ⟨(some 75), .load none (.tmp 74), none, true⟩,
 ⟨(some 76), .mv (.tmp 12), none, true⟩,
 ⟨(some 77), .mv (.tmp 13), none, true⟩,
 ⟨(some 78), .indexAddr 1 (.tmp 75) (.tmp 76), none, true⟩,
 ⟨none, .store 1 (.tmp 78) (.tmp 77), none, true⟩])))
 (.ops [⟨(some 61), .mv (.tmp 12), none, true⟩,
 ⟨(some 62), .bin .add (.tmp 61) (.av (.val (.int .i64 1))), none, true⟩,
 ⟨(some 12), .mv (.tmp 62), none, true⟩]))))))
 (.ops [⟨(some 79), .mv (.tmp 10), none, true⟩,
 ⟨(some 80), .mv (.tmp 11), none, true⟩,
 ⟨(some 81), .bin .add (.av (.val (.int .i64 1))) (.tmp 80), none, true⟩,
 ⟨(some 82), .bin .add (.tmp 79) (.tmp 81), none, true⟩,
 ⟨(some 10), .mv (.tmp 82), none, true⟩]))))))))
 (.seq (.opsD [⟨(some 83), .mv (.tmp 6), none, true⟩,
 ⟨(some 84), .nilCheck (.tmp 83), none, true⟩,
 ⟨(some 85), .fieldAddr 1 (.tmp 84), none, true⟩,
 ⟨(some 86), .load none (.tmp 85), none, true⟩,
 ⟨(some 87), .mv (.tmp 7), none, true⟩,
 ⟨(some 88), .build [(.val (.slice none 0 0)), (.val (.slice none 0 0))] [(0, 1, (.tmp 86)), (1, 1, (.tmp 87))], none, true⟩,
 ⟨(some 89), .mv (.tmp 6), none, true⟩,
 ⟨(some 90), .nilCheck (.tmp 89), none, true⟩,
 ⟨(some 91), .fieldAddr 3 (.tmp 90), none, true⟩,
 ⟨(some 92), .load none (.tmp 91), none, false⟩,
 ⟨none, .store 2 (.tmp 2) (.tmp 88), none, false⟩,
 ⟨(some 3), .mv (.tmp 92), none, true⟩,
 ⟨(some 4), .mv (.av (.val (.int .i64 0))), none, true⟩])
 (.ret)))))))
theorem f_hl_collect : cFunc Try.prog 28 = some ⟨93, c_hl_collect, [.cell 2 (some 2), .tmp 3, .tmp 4]⟩ := by kernel_rfl
def c_hl_check : ACode := .seq (.ops [⟨(some 1), .box 2 (.tmp 0), none, true⟩,
 ⟨(some 2), .mv (.av (.val (.int .i64 0))), none, true⟩])
 (.seq (.seq (.ops [⟨(some 14), .fieldAddr 0 (.tmp 1), none, true⟩,
 ⟨(some 15), .load none (.tmp 14), none, true⟩,
 ⟨(some 16), .len (.tmp 15), none, true⟩,
 ⟨(some 17), .bin .gtr (.tmp 16) (.av (.val (.int .i64 2000))), none, true⟩,
 ⟨(some 18), .mv (.tmp 17), none, true⟩,
 ⟨(some 19), .fieldAddr 1 (.tmp 1), (some (18, false)), true⟩,
 ⟨(some 20), .load none (.tmp 19), (some (18, false)), true⟩,
 ⟨(some 21), .len (.tmp 20), (some (18, false)), true⟩,
 ⟨(some 22), .bin .gtr (.tmp 21) (.av (.val (.int .i64 100))), (some (18, false)), true⟩,
 ⟨(some 23), .pick (.tmp 18) (.av (.val (.bool true))) (.tmp 22), none, true⟩])
 (.cond (.tmp 23)
 (.seq (.ops [⟨(some 2), .mv (.av (.val (.int .i64 2))), none, true⟩])
 (.ret))
 (.skip)))
 (.seq (.ops [⟨(some 25), .fieldAddr 0 (.tmp 1), none, true⟩,
 ⟨(some 26), .load none (.tmp 25), none, true⟩,
 ⟨(some 27), .call (.av (.func 48 [])) [(.tmp 26)], none, true⟩,
 ⟨(some 24), .mv (.tmp 27), none, true⟩,
 ⟨(some 28), .extract 0 (.tmp 24), none, true⟩,
 ⟨(some 29), .extract 1 (.tmp 24), none, true⟩,
 ⟨(some 3), .mv (.tmp 28), none, true⟩,
 ⟨(some 4), .mv (.tmp 29), none, true⟩])
 (.seq (.seq (.ops [⟨(some 30), .mv (.tmp 4), none, true⟩,
 ⟨(some 31), .un .not (.tmp 30), none, true⟩])
 (.cond (.tmp 31)
 (.seq (.ops [⟨(some 2), .mv (.av (.val (.int .i64 3))), none, true⟩])
 (.ret))
 (.skip)))
 (.seq (.ops [⟨(some 32), .mkMap, none, true⟩,
 ⟨(some 5), .mv (.tmp 32), none, true⟩])
 (.seq (.seq (.ops [⟨(some 33), .mv (.tmp 3), none, true⟩,
 ⟨(some 34), .len (.tmp 33), none, true⟩,
 ⟨(some 35), .mv (.av (.val (.int .i64 0))), none, true⟩])
 (rangeCode 0 1 36 35 34 42
 (.seq (.ops [⟨(some 37), .indexAddr 1 (.tmp 33) (.tmp 35), none, true⟩,
 ⟨(some 38), .load none (.tmp 37), none, true⟩,
 ⟨(some 7), .mv (.tmp 38), none, true⟩])
 (.ops [⟨(some 39), .mv (.tmp 5), none, true⟩,
 ⟨(some 40), .mv (.tmp 7), none, true⟩,
 ⟨(some 41), .build [] [], none, true⟩,
 ⟨none, .mapSet (.tmp 39) (.tmp 40) (.tmp 41), none, true⟩]))))
 (.seq (.seq (.ops [⟨(some 43), .fieldAddr 0 (.tmp 1), none, true⟩,
 ⟨(some 44), .load none (.tmp 43), none, true⟩,
 ⟨(some 45), .len (.tmp 44), none, true⟩,
 ⟨(some 46), .mv (.av (.val (.int .i64 0))), none, true⟩])
 (rangeCode 2 3 47 46 45 65
 (.seq (.ops [⟨(some 48), .mv (.tmp 46), none, true⟩,
 ⟨(some 49), .indexAddr 1 (.tmp 44) (.tmp 46), none, true⟩,
 ⟨(some 50), .load none (.tmp 49), none, true⟩,
 ⟨(some 8), .mv (.tmp 48), none, true⟩,
 ⟨(some 9), .mv (.tmp 50), none, true⟩])
 (.seq (.ops [⟨(some 52), .mv (.tmp 5), none, true⟩,
 ⟨(some 53), .mv (.tmp 8), none, true⟩,
 ⟨(some 54), .mapGet true (.agg []) (.tmp 52) (.tmp 53), none, true⟩,
 ⟨(some 51), .mv (.tmp 54), none, true⟩,
 ⟨(some 55), .extract 0 (.tmp 51), none, true⟩,
 ⟨(some 56), .extract 1 (.tmp 51), none, true⟩,
 ⟨(some 10), .zero [], none, true⟩,
 ⟨none, .store 0 (.tmp 10) (.tmp 55), none, true⟩,
 ⟨(some 11), .mv (.tmp 56), none, true⟩])
 (.seq (.ops [⟨(some 57), .mv (.tmp 11), none, true⟩,
 ⟨(some 58), .un .not (.tmp 57), none, true⟩,
 ⟨(some 59), .mv (.tmp 58), none, true⟩,
 ⟨(some 60), .mv (.tmp 9), (some (59, true)), true⟩,
 ⟨(some 61), .mv (.tmp 5), (some (59, true)), true⟩,
 ⟨(some 62), .call (.av (.func 49 [])) [(.tmp 60), (.tmp 61)], (some (59, true)), true⟩,
 ⟨(some 63), .un .not (.tmp 62), (some (59, true)), true⟩,
 ⟨(some 64), .pick (.tmp 59) (.tmp 63) (.av (.val (.bool false))), none, true⟩])
 (.cond (.tmp 64)
 (.seq (.ops [⟨(some 2), .mv (.av (.val (.int .i64 3))), none, true⟩])
 (.ret))
 (.skip)))))))
 (.seq (.seq (.ops [⟨(some 66), .fieldAddr 1 (.tmp 1), none, true⟩,
 ⟨(some 67), .load none (.tmp 66), none, true⟩,
 ⟨(some 68), .len (.tmp 67), none, true⟩,
 ⟨(some 69), .mv (.av (.val (.int .i64 0))), none, true⟩])
 (rangeCode 4 5 70 69 68 77
 (.seq (.ops [⟨(some 71), .indexAddr 1 (.tmp 67) (.tmp 69), none, true⟩,
 ⟨(some 72), .load none (.tmp 71), none, true⟩,
 ⟨(some 13), .mv (.tmp 72), none, true⟩])
 (.seq (.ops [⟨(some 73), .mv (.tmp 13), none, true⟩,
 ⟨(some 74), .mv (.tmp 5), none, true⟩,
 ⟨(some 75), .call (.av (.func 49 [])) [(.tmp 73), (.tmp 74)], none, true⟩,
 ⟨(some 76), .un .not (.tmp 75), none, true⟩])
 (.cond (.tmp 76)
 (.seq (.ops [⟨(some 2), .mv (.av (.val (.int .i64 3))), none, true⟩])
 (.ret))
 (.skip))))))
 (.seq (.ops [⟨(some 2), .mv (.av (.val (.int .i64 0))), none, true⟩])
 (.ret)))))))))
theorem f_hl_check : cFunc Try.prog 36 = some ⟨78, c_hl_check, [.tmp 2]⟩ := by kernel_rfl
def c_hl_moved : ACode := .seq (.ops [⟨(some 4), .mv (.av (.val (.int .u64 0))), none, true⟩])
 (.seq (.ops [⟨(some 12), .mv (.tmp 1), none, true⟩,
 ⟨(some 13), .call (.av (.func 50 [])) [(.tmp 12)], none, true⟩,
 ⟨(some 11), .mv (.tmp 13), none, true⟩,
 ⟨(some 14), .extract 0 (.tmp 11), none, true⟩,
 ⟨(some 15), .extract 1 (.tmp 11), none, true⟩,
 ⟨(some 5), .mv (.tmp 14), none, true⟩,
 ⟨(some 6), .mv (.tmp 15), none, true⟩])
 (.seq (.seq (.ops [⟨(some 16), .mv (.tmp 6), none, true⟩,
 ⟨(some 17), .un .not (.tmp 16), none, true⟩])
 (.cond (.tmp 17)
 (.seq (.ops [⟨(some 18), .mv (.tmp 1), none, true⟩,
 ⟨(some 4), .mv (.tmp 18), none, true⟩])
 (.ret))
 (.skip)))
 (.seq (.ops [⟨(some 20), .mv (.tmp 0), none, true⟩,
 ⟨(some 21), .nilCheck (.tmp 20), none, true⟩,
 ⟨(some 22), .fieldAddr 2 (.tmp 21), none, true⟩,
 ⟨(some 23), .load none (.tmp 22), none, true⟩,
 ⟨(some 24), .mv (.tmp 5), none, true⟩,
 ⟨(some 25), .mapGet true (.val (.int .i64 0)) (.tmp 23) (.tmp 24), none, true⟩,
 ⟨(some 19), .mv (.tmp 25), none, true⟩,
 ⟨(some 26), .extract 0 (.tmp 19), none, true⟩,
 ⟨(some 27), .extract 1 (.tmp 19), none, true⟩,
 ⟨(some 7), .mv (.tmp 26), none, true⟩,
 ⟨(some 8), .mv (.tmp 27), none, true⟩])
 (.seq (.seq (.ops [⟨(some 28), .mv (.tmp 8), none, true⟩,
 ⟨(some 29), .un .not (.tmp 28), none, true⟩])
 (.cond (.tmp 29)
 (.seq (.ops [⟨(some 30), .mv (.tmp 0), none, true⟩,
 ⟨(some 31), .nilCheck (.tmp 30), none, true⟩,
 ⟨(some 32), .fieldAddr 1 (.tmp 31), none, true⟩,
 ⟨(some 33), .load none (.tmp 32), none, true⟩,
 ⟨(some 34), .len (.tmp 33), none, true⟩,
 ⟨(some 7), .mv (.tmp 34), none, true⟩])
 (.seq (.ops [⟨(some 35), .mv (.tmp 0), none, true⟩,
 ⟨(some 36), .nilCheck (.tmp 35), none, true⟩,
 ⟨(some 37), .fieldAddr 2 (.tmp 36), none, true⟩,
 ⟨(some 38), .load none (.tmp 37), none, true⟩,
 ⟨(some 39), .mv (.tmp 5), none, true⟩,
 ⟨(some 40), .mv (.tmp 7), none, true⟩,
 ⟨none, .mapSet (.tmp 38) (.tmp 39) (.tmp 40), none, true⟩])
 (.seq (.ops [⟨(some 41), .mv (.tmp 0), none, true⟩,
 ⟨(some 42), .mv (.tmp 0), none, true⟩,
 ⟨(some 43), .nilCheck (.tmp 42), none, true⟩,
 ⟨(some 44), .fieldAddr 3 (.tmp 43), none, true⟩,
 ⟨(some 45), .load none (.tmp 44), none, true⟩,
 ⟨(some 46), .mv (.tmp 7), none, true⟩,
 ⟨(some 47), .mv (.tmp 5), none, true⟩,
 ⟨(some 48), .build [(.val (.int .i64 0)), (.val (.int .i64 0))] [(0, 1, (.tmp 46)), (1, 1, (.tmp 47))], none, true⟩,
 ⟨(some 49), .lits 2 1 [(.val (.int .i64 0)), (.val (.int .i64 0))] [(0, 2, (.tmp 48))], none, true⟩,
 ⟨(some 50), .append 2 16 (.tmp 45) (.tmp 49), none, true⟩,
 ⟨(some 51), .nilCheck (.tmp 41), none, true⟩,
 ⟨(some 52), .fieldAddr 3 (.tmp 51), none, true⟩,
 ⟨none, .store 1 (.tmp 52) (.tmp 50), none, true⟩])
 (.opsD [⟨(some 53), .mv (.tmp 0), none, true⟩,
 ⟨(some 54), .mv (.tmp 0), none, true⟩,
 ⟨(some 55), .nilCheck (.tmp 54), none, true⟩,
 ⟨(some 56), .fieldAddr 1 (.tmp 55), none, true⟩,
 ⟨(some 57), .load none (.tmp 56), none, false⟩,
 ⟨(some 58), .mv (.tmp 0), none, true⟩,
 ⟨(some 59), .nilCheck (.tmp 58), none, true⟩,
 ⟨(some 60), .fieldAddr 0 (.tmp 59), none, true⟩,
 ⟨(some 61), .load none (.tmp 60), none, false⟩,
 ⟨(some 62), .mv (.tmp 5), none, true⟩,
 ⟨(some 63), .mv (.tmp 5), none, true⟩,
 ⟨(some 64), .bin .add (.tmp 63) (.av (.val (.int .i64 1))), none, true⟩,
 ⟨(some 65), .mv (.tmp 0), none, true⟩,
 ⟨(some 66), .nilCheck (.tmp 65), none, true⟩,
 ⟨(some 67), .fieldAddr 0 (.tmp 66), none, true⟩,
 ⟨(some 68), .load none (.tmp 67), none, true⟩,
 ⟨(some 69), .mv (.tmp 5), none, true⟩,
 ⟨(some 70), .indexAddr 1 (.tmp 68) (.tmp 69), none, true⟩,
 ⟨(some 71), .load none (.tmp 70), none, true⟩,
 ⟨(some 72), .call (.av (.func 38 [])) [(.tmp 71)], none, false⟩,
 ⟨(some 73), .bin .add (.tmp 64) (.tmp 72), none, true⟩,
 ⟨(some 74), .slice 1 (.tmp 61) (some (.tmp 62)) (some (.tmp 73)) none, none, true⟩,
 ⟨(some 75), .append 1 8 (.tmp 57) (.tmp 74), none, true⟩,
 ⟨(some 76), .nilCheck (.tmp 53), none, true⟩,
 ⟨(some 77), .fieldAddr 1 (.tmp 76), none, true⟩,
 ⟨none, .store 1 (.tmp 77) (.tmp 75), none, true⟩]))))
 (.skip)))
 (.seq (.ops [⟨(some 79), .mv (.tmp 7), none, true⟩,
 ⟨(some 80), .build [(.val (.int .i64 0)), (.val (.int .i64 0))] [(0, 1, (.av (.val (.int .i64 5)))), (1, 1, (.tmp 79))], none, true⟩,
 ⟨(some 81), .call (.av (.func 33 [])) [(.tmp 80)], none, true⟩,
 ⟨(some 78), .mv (.tmp 81), none, true⟩,
 ⟨(some 82), .extract 0 (.tmp 78), none, true⟩,
 ⟨(some 83), .extract 1 (.tmp 78), none, true⟩,
 ⟨(some 9), .mv (.tmp 82), none, true⟩,
 ⟨(some 10), .mv (.tmp 83), none, true⟩])
 (.seq (.ops [⟨(some 84), .mv (.tmp 9), none, true⟩,
 ⟨(some 4), .mv (.tmp 84), none, true⟩])
 (.ret)))))))
theorem f_hl_moved : cFunc Try.prog 37 = some ⟨85, c_hl_moved, [.tmp 4]⟩ := by kernel_rfl
def c_hl_long : ACode := .seq (.ops [⟨(some 2), .mv (.av (.val (.int .i64 0))), none, true⟩])
 (.seq (.ops [⟨(some 3), .mv (.tmp 0), none, true⟩,
 ⟨(some 4), .conv .u32 (.tmp 3), none, true⟩,
 ⟨(some 5), .conv .i64 (.tmp 4), none, true⟩,
 ⟨(some 2), .mv (.tmp 5), none, true⟩])
 (.ret))
theorem f_hl_long : cFunc Try.prog 38 = some ⟨6, c_hl_long, [.tmp 2]⟩ := by kernel_rfl
def c_hl_objects : ACode := .seq (.ops [⟨(some 2), .mv (.av (.val (.slice none 0 0))), none, true⟩,
 ⟨(some 3), .mv (.av (.val (.bool false))), none, true⟩])
 (.seq (.ops [⟨(some 4), .mv (.av (.val (.slice none 0 0))), none, true⟩])
 (.seq (.ops [⟨(some 5), .mv (.av (.val (.int .i64 0))), none, true⟩])
 (.seq (.block 0 (.loop (.seq (.seq (.ops [⟨(some 6), .mv (.tmp 5), none, true⟩,
 ⟨(some 7), .mv (.tmp 0), none, true⟩,
 ⟨(some 8), .len (.tmp 7), none, true⟩,
 ⟨(some 9), .bin .lss (.tmp 6) (.tmp 8), none, true⟩])
 (.cond (.tmp 9)
 (.skip)
 (.exit 0)))
 (.block 1 (.seq (.ops [⟨(some 10), .mv (.tmp 4), none, true⟩,
 ⟨(some 11), .mv (.tmp 5), none, true⟩,
 ⟨(some 12), .lits 1 1 [(.val (.int .i64 0))] [(0, 1, (.tmp 11))], none, true⟩,
 ⟨(some 13), .append 1 8 (.tmp 10) (.tmp 12), none, true⟩,
 ⟨(some 4), .mv (.tmp 13), none, true⟩])
 (.ops [⟨(some 14), .mv (.tmp 5), none, true⟩,
 ⟨(some 15), .mv (.tmp 0), none, true⟩,
 ⟨(some 16), .mv (.tmp 5), none, true⟩,
 ⟨(some 17), .indexAddr 1 (.tmp 15) (.tmp 16), none, true⟩,
 ⟨(some 18), .load none (.tmp 17), none, true⟩,
 ⟨(some 19), .call (.av (.func 38 [])) [(.tmp 18)], none, true⟩,
 ⟨(some 20), .bin .add (.av (.val (.int .i64 1))) (.tmp 19), none, true⟩,
 ⟨(some 21), .bin .add (.tmp 14) (.tmp 20), none, true⟩,
 ⟨(some 5), .mv (.tmp 21), none, true⟩]))))))
 (.seq (.ops [⟨(some 22), .mv (.tmp 4), none, true⟩,
 ⟨(some 23), .mv (.tmp 5), none, true⟩,
 ⟨(some 24), .mv (.tmp 0), none, true⟩,
 ⟨(some 25), .len (.tmp 24), none, true⟩,
 ⟨(some 26), .bin .eql (.tmp 23) (.tmp 25), none, true⟩,
 ⟨(some 2), .mv (.tmp 22), none, true⟩,
 ⟨(some 3), .mv (.tmp 26), none, true⟩])
 (.ret)))))
theorem f_hl_objects : cFunc Try.prog 48 = some ⟨27, c_hl_objects, [.tmp 2, .tmp 3]⟩ := by kernel_rfl
def c_hl_right : ACode := .seq (.ops [⟨(some 4), .mv (.av (.val (.bool false))), none, true⟩])
 (.seq (.seq (.ops [⟨(some 9), .mv (.tmp 0), none, true⟩,
 ⟨(some 10), .call (.av (.func 51 [])) [(.tmp 9)], none, true⟩,
 ⟨(some 11), .bin .lss (.tmp 10) (.av (.val (.int .i64 0))), none, true⟩])
 (.cond (.tmp 11)
 (.seq (.ops [⟨(some 4), .mv (.av (.val (.bool false))), none, true⟩])
 (.ret))
 (.skip)))
 (.seq (.ops [⟨(some 13), .mv (.tmp 0), none, true⟩,
 ⟨(some 14), .call (.av (.func 50 [])) [(.tmp 13)], none, true⟩,
 ⟨(some 12), .mv (.tmp 14), none, true⟩,
 ⟨(some 15), .extract 0 (.tmp 12), none, true⟩,
 ⟨(some 16), .extract 1 (.tmp 12), none, true⟩,
 ⟨(some 5), .mv (.tmp 15), none, true⟩,
 ⟨(some 6), .mv (.tmp 16), none, true⟩])
 (.seq (.seq (.ops [⟨(some 17), .mv (.tmp 6), none, true⟩,
 ⟨(some 18), .un .not (.tmp 17), none, true⟩])
 (.cond (.tmp 18)
 (.seq (.ops [⟨(some 4), .mv (.av (.val (.bool true))), none, true⟩])
 (.ret))
 (.skip)))
 (.seq (.ops [⟨(some 20), .mv (.tmp 1), none, true⟩,
 ⟨(some 21), .mv (.tmp 5), none, true⟩,
 ⟨(some 22), .mapGet true (.agg []) (.tmp 20) (.tmp 21), none, true⟩,
 ⟨(some 19), .mv (.tmp 22), none, true⟩,
 ⟨(some 23), .extract 0 (.tmp 19), none, true⟩,
 ⟨(some 24), .extract 1 (.tmp 19), none, true⟩,
 ⟨(some 7), .zero [], none, true⟩,
 ⟨none, .store 0 (.tmp 7) (.tmp 23), none, true⟩,
 ⟨(some 8), .mv (.tmp 24), none, true⟩])
 (.seq (.ops [⟨(some 25), .mv (.tmp 8), none, true⟩,
 ⟨(some 4), .mv (.tmp 25), none, true⟩])
 (.ret))))))
theorem f_hl_right : cFunc Try.prog 49 = some ⟨26, c_hl_right, [.tmp 4]⟩ := by kernel_rfl
def c_hl_place : ACode := .seq (.ops [⟨(some 2), .mv (.av (.val (.int .i64 0))), none, true⟩,
 ⟨(some 3), .mv (.av (.val (.bool false))), none, true⟩])
 (.seq (.ops [⟨(some 7), .mv (.tmp 0), none, true⟩,
 ⟨(some 8), .call (.av (.func 30 [])) [(.tmp 7)], none, true⟩,
 ⟨(some 6), .mv (.tmp 8), none, true⟩,
 ⟨(some 9), .extract 0 (.tmp 6), none, true⟩,
 ⟨(some 10), .extract 1 (.tmp 6), none, true⟩,
 ⟨(some 4), .zero [(.val (.int .i64 0)), (.val (.int .i64 0))], none, true⟩,
 ⟨none, .store 2 (.tmp 4) (.tmp 9), none, true⟩,
 ⟨(some 5), .mv (.tmp 10), none, true⟩])
 (.seq (.opsD [⟨(some 11), .fieldAddr 1 (.tmp 4), none, true⟩,
 ⟨(some 12), .load none (.tmp 11), none, true⟩,
 ⟨(some 13), .mv (.tmp 5), none, true⟩,
 ⟨(some 14), .bin .eql (.tmp 13) (.av (.val (.int .i64 0))), none, true⟩,
 ⟨(some 15), .mv (.tmp 14), none, true⟩,
 ⟨(some 16), .fieldAddr 0 (.tmp 4), (some (15, true)), true⟩,
 ⟨(some 17), .load none (.tmp 16), (some (15, true)), true⟩,
 ⟨(some 18), .bin .eql (.tmp 17) (.av (.val (.int .i64 5))), (some (15, true)), true⟩,
 ⟨(some 19), .pick (.tmp 15) (.tmp 18) (.av (.val (.bool false))), none, true⟩,
 ⟨(some 2), .mv (.tmp 12), none, true⟩,
 ⟨(some 3), .mv (.tmp 19), none, true⟩])
 (.ret)))
theorem f_hl_place : cFunc Try.prog 50 = some ⟨20, c_hl_place, [.tmp 2, .tmp 3]⟩ := by kernel_rfl
def c_hl_kind : ACode := .seq (.ops [⟨(some 2), .mv (.av (.val (.int .i64 0))), none, true⟩])
 (.seq (.ops [⟨(some 6), .mv (.tmp 0), none, true⟩,
 ⟨(some 7), .call (.av (.func 30 [])) [(.tmp 6)], none, true⟩,
 ⟨(some 5), .mv (.tmp 7), none, true⟩,
 ⟨(some 8), .extract 0 (.tmp 5), none, true⟩,
 ⟨(some 9), .extract 1 (.tmp 5), none, true⟩,
 ⟨(some 3), .zero [(.val (.int .i64 0)), (.val (.int .i64 0))], none, true⟩,
 ⟨none, .store 2 (.tmp 3) (.tmp 8), none, true⟩,
 ⟨(some 4), .mv (.tmp 9), none, true⟩])
 (.seq (.seq (.ops [⟨(some 10), .mv (.tmp 4), none, true⟩,
 ⟨(some 11), .bin .neq (.tmp 10) (.av (.val (.int .i64 0))), none, true⟩])
 (.cond (.tmp 11)
 (.seq (.ops [⟨(some 2), .mv (.av (.val (.int .i64 (-1)))), none, true⟩])
 (.ret))
 (.skip)))
 (.seq (.ops [⟨(some 12), .fieldAddr 0 (.tmp 3), none, true⟩,
 ⟨(some 13), .load none (.tmp 12), none, true⟩,
 ⟨(some 2), .mv (.tmp 13), none, true⟩])
 (.ret))))
theorem f_hl_kind : cFunc Try.prog 51 = some ⟨14, c_hl_kind, [.tmp 2]⟩ := by kernel_rfl
end Go.Proofs.Ytiiefcbiemohhaa
