/-
  NanboxInts holds: of two whole numbers from 0 on the greater one has the greater word, below 0 likewise; of one that has not 32 bits there is none. No condition.
-/
import Derived.Test.YtbomhdgodiojhabNan
namespace Go.Proofs.Ytbomhdgodiojhab
open Go.RowKit
set_option linter.unusedVariables false
set_option linter.unusedSimpArgs false

theorem boxed_e : boxE 2 (-1) = 0 := by decide +kernel
theorem boxed_w : boxW 2 (-1) = 18445336703120965631 := by decide +kernel
set_option maxHeartbeats 400000 in
theorem boxed_any (w : World) : Calls Try.prog 7 #[] w fun e w' => e = .returned (.bool true) ∧ Below w.heap.size w w' := by
  have h1 : (boxE 2 (-1) == 0) = true := by rw [boxed_e]; rfl
  have h2 : (boxW 2 (-1) == 18445336703120965631) = true := by rw [boxed_w]; rfl
  go_enter Try.func7, Try.ntmps7
  go_wp2_with (go_at_call 8; refine (box_any _ _ _).mono ?_; rintro e w' ⟨rfl, hbw⟩; have hB := below_call (B := w.heap.size) (w := w) hbw (by repeat' (first | (with_reducible exact Below.refl _ _) | (with_reducible assumption) | (with_reducible refine below_drewN ?_ _) | (with_reducible refine Below.drew ?_) | (with_reducible refine Below.alloc ?_ ?_ _) | (with_reducible refine Below.setCell ?_ ?_ _) | go_size)) (by simp))
  go_ret
  exact ⟨rfl, (by repeat' (first | (with_reducible exact Below.refl _ _) | (with_reducible assumption) | (with_reducible refine below_drewN ?_ _) | (with_reducible refine Below.drew ?_) | (with_reducible refine Below.alloc ?_ ?_ _) | (with_reducible refine Below.setCell ?_ ?_ _) | go_size))⟩

def inB (n : Int) : Bool := decide (-2147483648 ≤ n ∧ n ≤ 2147483647)
set_option maxHeartbeats 400000 in
theorem in_any (n : Int) (w : World) : Calls Try.prog 9 #[.int .i64 n] w fun e w' => e = .returned (.bool (inB n)) ∧ w = w' := by
  by_cases h1 : -2147483648 ≤ n
  · by_cases h2 : n ≤ 2147483647
    · go_enter Try.func9, Try.ntmps9
      go_wp2
      go_ret
      exact ⟨ret_bool (by simp [inB, h1, h2]), rfl⟩
    · go_enter Try.func9, Try.ntmps9
      go_wp2
      go_ret
      exact ⟨ret_bool (by simp [inB]; omega), rfl⟩
  · go_enter Try.func9, Try.ntmps9
    go_wp2
    go_ret
    exact ⟨ret_bool (by simp [inB]; omega), rfl⟩

theorem boxE_in (a : Int) (h : inB a = true) : (boxE 2 a == 0) = true := by
  simp only [inB, decide_eq_true_eq] at h
  have : boxE 2 a = 0 := by unfold boxE loI hiI; rw [if_neg (by omega), if_neg (by omega)]; simp; omega
  rw [this]; rfl
theorem boxE_out (a : Int) (h : inB a = false) : (boxE 2 a == 0) = false := by
  simp only [inB, decide_eq_false_iff_not] at h
  have : boxE 2 a = 1 := by unfold boxE loI hiI; rw [if_neg (by omega), if_neg (by omega), if_pos (by simp; omega)]
  rw [this]; rfl
theorem boxW_in (a : Int) (h : inB a = true) : boxW 2 a = 65531 * 281474976710656 + a % 4294967296 := by
  simp only [inB, decide_eq_true_eq] at h
  unfold boxW loI hiI tagI; rw [if_neg (by omega), if_neg (by omega), if_neg (by simp; omega), if_neg (by omega)]
  rfl

set_option maxHeartbeats 4000000 in
theorem ints_any (a b : Int) (w : World) : Calls Try.prog 3 #[.int .i64 a, .int .i64 b] w fun e w' => e = .returned (.bool true) ∧ Below w.heap.size w w' := by
  cases ha : inB a with
  | false =>
    have hea := boxE_out a ha
    cases hb : inB b with
    | false =>
      have heb := boxE_out b hb
      (go_enter Try.func3, Try.ntmps3; go_wp2_with (first | (go_at_call 7; refine (boxed_any _).mono ?_; rintro e w' ⟨rfl, hbw⟩; have hB := below_call (B := w.heap.size) (w := w) hbw (by repeat' (first | (with_reducible exact Below.refl _ _) | (with_reducible assumption) | (with_reducible refine below_drewN ?_ _) | (with_reducible refine Below.drew ?_) | (with_reducible refine Below.alloc ?_ ?_ _) | (with_reducible refine Below.setCell ?_ ?_ _) | go_size)) (by go_size); have hsz := hB.size; clear hbw) | (go_at_call 8; refine (box_any _ _ _).mono ?_; rintro e w' ⟨rfl, hbw⟩; have hB := below_call (B := w.heap.size) (w := w) hbw (by repeat' (first | (with_reducible exact Below.refl _ _) | (with_reducible assumption) | (with_reducible refine below_drewN ?_ _) | (with_reducible refine Below.drew ?_) | (with_reducible refine Below.alloc ?_ ?_ _) | (with_reducible refine Below.setCell ?_ ?_ _) | go_size)) (by go_size); have hsz := hB.size; clear hbw) | (go_at_call 9; refine (in_any _ _).mono ?_; rintro e w' ⟨rfl, rfl⟩)); go_ret; exact ⟨rfl, (by repeat' (first | (with_reducible exact Below.refl _ _) | (with_reducible assumption) | (with_reducible refine below_drewN ?_ _) | (with_reducible refine Below.drew ?_) | (with_reducible refine Below.alloc ?_ ?_ _) | (with_reducible refine Below.setCell ?_ ?_ _) | go_size))⟩)
    | true =>
      have heb := boxE_in b hb
      (go_enter Try.func3, Try.ntmps3; go_wp2_with (first | (go_at_call 7; refine (boxed_any _).mono ?_; rintro e w' ⟨rfl, hbw⟩; have hB := below_call (B := w.heap.size) (w := w) hbw (by repeat' (first | (with_reducible exact Below.refl _ _) | (with_reducible assumption) | (with_reducible refine below_drewN ?_ _) | (with_reducible refine Below.drew ?_) | (with_reducible refine Below.alloc ?_ ?_ _) | (with_reducible refine Below.setCell ?_ ?_ _) | go_size)) (by go_size); have hsz := hB.size; clear hbw) | (go_at_call 8; refine (box_any _ _ _).mono ?_; rintro e w' ⟨rfl, hbw⟩; have hB := below_call (B := w.heap.size) (w := w) hbw (by repeat' (first | (with_reducible exact Below.refl _ _) | (with_reducible assumption) | (with_reducible refine below_drewN ?_ _) | (with_reducible refine Below.drew ?_) | (with_reducible refine Below.alloc ?_ ?_ _) | (with_reducible refine Below.setCell ?_ ?_ _) | go_size)) (by go_size); have hsz := hB.size; clear hbw) | (go_at_call 9; refine (in_any _ _).mono ?_; rintro e w' ⟨rfl, rfl⟩)); go_ret; exact ⟨rfl, (by repeat' (first | (with_reducible exact Below.refl _ _) | (with_reducible assumption) | (with_reducible refine below_drewN ?_ _) | (with_reducible refine Below.drew ?_) | (with_reducible refine Below.alloc ?_ ?_ _) | (with_reducible refine Below.setCell ?_ ?_ _) | go_size))⟩)
  | true =>
    have hea := boxE_in a ha
    cases hb : inB b with
    | false =>
      have heb := boxE_out b hb
      (go_enter Try.func3, Try.ntmps3; go_wp2_with (first | (go_at_call 7; refine (boxed_any _).mono ?_; rintro e w' ⟨rfl, hbw⟩; have hB := below_call (B := w.heap.size) (w := w) hbw (by repeat' (first | (with_reducible exact Below.refl _ _) | (with_reducible assumption) | (with_reducible refine below_drewN ?_ _) | (with_reducible refine Below.drew ?_) | (with_reducible refine Below.alloc ?_ ?_ _) | (with_reducible refine Below.setCell ?_ ?_ _) | go_size)) (by go_size); have hsz := hB.size; clear hbw) | (go_at_call 8; refine (box_any _ _ _).mono ?_; rintro e w' ⟨rfl, hbw⟩; have hB := below_call (B := w.heap.size) (w := w) hbw (by repeat' (first | (with_reducible exact Below.refl _ _) | (with_reducible assumption) | (with_reducible refine below_drewN ?_ _) | (with_reducible refine Below.drew ?_) | (with_reducible refine Below.alloc ?_ ?_ _) | (with_reducible refine Below.setCell ?_ ?_ _) | go_size)) (by go_size); have hsz := hB.size; clear hbw) | (go_at_call 9; refine (in_any _ _).mono ?_; rintro e w' ⟨rfl, rfl⟩)); go_ret; exact ⟨rfl, (by repeat' (first | (with_reducible exact Below.refl _ _) | (with_reducible assumption) | (with_reducible refine below_drewN ?_ _) | (with_reducible refine Below.drew ?_) | (with_reducible refine Below.alloc ?_ ?_ _) | (with_reducible refine Below.setCell ?_ ?_ _) | go_size))⟩)
    | true =>
      have heb := boxE_in b hb
      have hwa := Lib.hid (boxW_in a ha)
      have hwb := Lib.hid (boxW_in b hb)
      have hra : -2147483648 ≤ a ∧ a ≤ 2147483647 := by simpa [inB] using ha
      have hrb : -2147483648 ≤ b ∧ b ≤ 2147483647 := by simpa [inB] using hb
      by_cases hsa : a < 0
      · by_cases hsb : b < 0
        · by_cases hlt : a < b
          · have hlw : boxW 2 a < boxW 2 b := by rw [hwa.out, hwb.out]; omega
            (go_enter Try.func3, Try.ntmps3; go_wp2_with (first | (go_at_call 7; refine (boxed_any _).mono ?_; rintro e w' ⟨rfl, hbw⟩; have hB := below_call (B := w.heap.size) (w := w) hbw (by repeat' (first | (with_reducible exact Below.refl _ _) | (with_reducible assumption) | (with_reducible refine below_drewN ?_ _) | (with_reducible refine Below.drew ?_) | (with_reducible refine Below.alloc ?_ ?_ _) | (with_reducible refine Below.setCell ?_ ?_ _) | go_size)) (by go_size); have hsz := hB.size; clear hbw) | (go_at_call 8; refine (box_any _ _ _).mono ?_; rintro e w' ⟨rfl, hbw⟩; have hB := below_call (B := w.heap.size) (w := w) hbw (by repeat' (first | (with_reducible exact Below.refl _ _) | (with_reducible assumption) | (with_reducible refine below_drewN ?_ _) | (with_reducible refine Below.drew ?_) | (with_reducible refine Below.alloc ?_ ?_ _) | (with_reducible refine Below.setCell ?_ ?_ _) | go_size)) (by go_size); have hsz := hB.size; clear hbw) | (go_at_call 9; refine (in_any _ _).mono ?_; rintro e w' ⟨rfl, rfl⟩)); go_ret; exact ⟨rfl, (by repeat' (first | (with_reducible exact Below.refl _ _) | (with_reducible assumption) | (with_reducible refine below_drewN ?_ _) | (with_reducible refine Below.drew ?_) | (with_reducible refine Below.alloc ?_ ?_ _) | (with_reducible refine Below.setCell ?_ ?_ _) | go_size))⟩)
          · have hlw : decide (boxW 2 a < boxW 2 b) = false := by rw [hwa.out, hwb.out]; exact decide_eq_false (by omega)
            have hla : decide (a < b) = false := decide_eq_false hlt
            clear hlt
            (go_enter Try.func3, Try.ntmps3; go_wp2_with (first | (go_at_call 7; refine (boxed_any _).mono ?_; rintro e w' ⟨rfl, hbw⟩; have hB := below_call (B := w.heap.size) (w := w) hbw (by repeat' (first | (with_reducible exact Below.refl _ _) | (with_reducible assumption) | (with_reducible refine below_drewN ?_ _) | (with_reducible refine Below.drew ?_) | (with_reducible refine Below.alloc ?_ ?_ _) | (with_reducible refine Below.setCell ?_ ?_ _) | go_size)) (by go_size); have hsz := hB.size; clear hbw) | (go_at_call 8; refine (box_any _ _ _).mono ?_; rintro e w' ⟨rfl, hbw⟩; have hB := below_call (B := w.heap.size) (w := w) hbw (by repeat' (first | (with_reducible exact Below.refl _ _) | (with_reducible assumption) | (with_reducible refine below_drewN ?_ _) | (with_reducible refine Below.drew ?_) | (with_reducible refine Below.alloc ?_ ?_ _) | (with_reducible refine Below.setCell ?_ ?_ _) | go_size)) (by go_size); have hsz := hB.size; clear hbw) | (go_at_call 9; refine (in_any _ _).mono ?_; rintro e w' ⟨rfl, rfl⟩)); go_ret; exact ⟨rfl, (by repeat' (first | (with_reducible exact Below.refl _ _) | (with_reducible assumption) | (with_reducible refine below_drewN ?_ _) | (with_reducible refine Below.drew ?_) | (with_reducible refine Below.alloc ?_ ?_ _) | (with_reducible refine Below.setCell ?_ ?_ _) | go_size))⟩)
        · (go_enter Try.func3, Try.ntmps3; go_wp2_with (first | (go_at_call 7; refine (boxed_any _).mono ?_; rintro e w' ⟨rfl, hbw⟩; have hB := below_call (B := w.heap.size) (w := w) hbw (by repeat' (first | (with_reducible exact Below.refl _ _) | (with_reducible assumption) | (with_reducible refine below_drewN ?_ _) | (with_reducible refine Below.drew ?_) | (with_reducible refine Below.alloc ?_ ?_ _) | (with_reducible refine Below.setCell ?_ ?_ _) | go_size)) (by go_size); have hsz := hB.size; clear hbw) | (go_at_call 8; refine (box_any _ _ _).mono ?_; rintro e w' ⟨rfl, hbw⟩; have hB := below_call (B := w.heap.size) (w := w) hbw (by repeat' (first | (with_reducible exact Below.refl _ _) | (with_reducible assumption) | (with_reducible refine below_drewN ?_ _) | (with_reducible refine Below.drew ?_) | (with_reducible refine Below.alloc ?_ ?_ _) | (with_reducible refine Below.setCell ?_ ?_ _) | go_size)) (by go_size); have hsz := hB.size; clear hbw) | (go_at_call 9; refine (in_any _ _).mono ?_; rintro e w' ⟨rfl, rfl⟩)); go_ret; exact ⟨rfl, (by repeat' (first | (with_reducible exact Below.refl _ _) | (with_reducible assumption) | (with_reducible refine below_drewN ?_ _) | (with_reducible refine Below.drew ?_) | (with_reducible refine Below.alloc ?_ ?_ _) | (with_reducible refine Below.setCell ?_ ?_ _) | go_size))⟩)
      · by_cases hsb : b < 0
        · (go_enter Try.func3, Try.ntmps3; go_wp2_with (first | (go_at_call 7; refine (boxed_any _).mono ?_; rintro e w' ⟨rfl, hbw⟩; have hB := below_call (B := w.heap.size) (w := w) hbw (by repeat' (first | (with_reducible exact Below.refl _ _) | (with_reducible assumption) | (with_reducible refine below_drewN ?_ _) | (with_reducible refine Below.drew ?_) | (with_reducible refine Below.alloc ?_ ?_ _) | (with_reducible refine Below.setCell ?_ ?_ _) | go_size)) (by go_size); have hsz := hB.size; clear hbw) | (go_at_call 8; refine (box_any _ _ _).mono ?_; rintro e w' ⟨rfl, hbw⟩; have hB := below_call (B := w.heap.size) (w := w) hbw (by repeat' (first | (with_reducible exact Below.refl _ _) | (with_reducible assumption) | (with_reducible refine below_drewN ?_ _) | (with_reducible refine Below.drew ?_) | (with_reducible refine Below.alloc ?_ ?_ _) | (with_reducible refine Below.setCell ?_ ?_ _) | go_size)) (by go_size); have hsz := hB.size; clear hbw) | (go_at_call 9; refine (in_any _ _).mono ?_; rintro e w' ⟨rfl, rfl⟩)); go_ret; exact ⟨rfl, (by repeat' (first | (with_reducible exact Below.refl _ _) | (with_reducible assumption) | (with_reducible refine below_drewN ?_ _) | (with_reducible refine Below.drew ?_) | (with_reducible refine Below.alloc ?_ ?_ _) | (with_reducible refine Below.setCell ?_ ?_ _) | go_size))⟩)
        · by_cases hlt : a < b
          · have hlw : boxW 2 a < boxW 2 b := by rw [hwa.out, hwb.out]; omega
            (go_enter Try.func3, Try.ntmps3; go_wp2_with (first | (go_at_call 7; refine (boxed_any _).mono ?_; rintro e w' ⟨rfl, hbw⟩; have hB := below_call (B := w.heap.size) (w := w) hbw (by repeat' (first | (with_reducible exact Below.refl _ _) | (with_reducible assumption) | (with_reducible refine below_drewN ?_ _) | (with_reducible refine Below.drew ?_) | (with_reducible refine Below.alloc ?_ ?_ _) | (with_reducible refine Below.setCell ?_ ?_ _) | go_size)) (by go_size); have hsz := hB.size; clear hbw) | (go_at_call 8; refine (box_any _ _ _).mono ?_; rintro e w' ⟨rfl, hbw⟩; have hB := below_call (B := w.heap.size) (w := w) hbw (by repeat' (first | (with_reducible exact Below.refl _ _) | (with_reducible assumption) | (with_reducible refine below_drewN ?_ _) | (with_reducible refine Below.drew ?_) | (with_reducible refine Below.alloc ?_ ?_ _) | (with_reducible refine Below.setCell ?_ ?_ _) | go_size)) (by go_size); have hsz := hB.size; clear hbw) | (go_at_call 9; refine (in_any _ _).mono ?_; rintro e w' ⟨rfl, rfl⟩)); go_ret; exact ⟨rfl, (by repeat' (first | (with_reducible exact Below.refl _ _) | (with_reducible assumption) | (with_reducible refine below_drewN ?_ _) | (with_reducible refine Below.drew ?_) | (with_reducible refine Below.alloc ?_ ?_ _) | (with_reducible refine Below.setCell ?_ ?_ _) | go_size))⟩)
          · have hlw : decide (boxW 2 a < boxW 2 b) = false := by rw [hwa.out, hwb.out]; exact decide_eq_false (by omega)
            have hla : decide (a < b) = false := decide_eq_false hlt
            clear hlt
            (go_enter Try.func3, Try.ntmps3; go_wp2_with (first | (go_at_call 7; refine (boxed_any _).mono ?_; rintro e w' ⟨rfl, hbw⟩; have hB := below_call (B := w.heap.size) (w := w) hbw (by repeat' (first | (with_reducible exact Below.refl _ _) | (with_reducible assumption) | (with_reducible refine below_drewN ?_ _) | (with_reducible refine Below.drew ?_) | (with_reducible refine Below.alloc ?_ ?_ _) | (with_reducible refine Below.setCell ?_ ?_ _) | go_size)) (by go_size); have hsz := hB.size; clear hbw) | (go_at_call 8; refine (box_any _ _ _).mono ?_; rintro e w' ⟨rfl, hbw⟩; have hB := below_call (B := w.heap.size) (w := w) hbw (by repeat' (first | (with_reducible exact Below.refl _ _) | (with_reducible assumption) | (with_reducible refine below_drewN ?_ _) | (with_reducible refine Below.drew ?_) | (with_reducible refine Below.alloc ?_ ?_ _) | (with_reducible refine Below.setCell ?_ ?_ _) | go_size)) (by go_size); have hsz := hB.size; clear hbw) | (go_at_call 9; refine (in_any _ _).mono ?_; rintro e w' ⟨rfl, rfl⟩)); go_ret; exact ⟨rfl, (by repeat' (first | (with_reducible exact Below.refl _ _) | (with_reducible assumption) | (with_reducible refine below_drewN ?_ _) | (with_reducible refine Below.drew ?_) | (with_reducible refine Below.alloc ?_ ?_ _) | (with_reducible refine Below.setCell ?_ ?_ _) | go_size))⟩)

set_option maxRecDepth 100000 in
theorem ints_lifted (os : Os) (started : os.Started) (H : Type) (enc : TypeId × Value → H) :
    ReturnsInHanded {} Try.checked os 3 .any (Rows.nanboxIntsSpec.pre6 enc Try.prog Try.f3 Rows.nanboxIntsRow.domain false) (Rows.nanboxIntsSpec.post enc Try.prog Try.f3 false true false false) := by
  refine law_lifted (C := Try.checked) 12 [(false, .int .i64), (false, .int .i64)] 4 Try.own Try.laidOut started (by kernel_rfl) Try.func3
    (ChangeSpec.witness6 (enc := enc) (C := Try.checked) false ⟨#[], #[.int .i64 0, .int .i64 0], []⟩ 8 (by kernel_rfl) (by kernel_rfl) (by kernel_rfl) (by kernel_rfl))
    rfl (by kernel_rfl) Try.underlying4 (fun ds h => ?_) (by kernel_rfl) (by kernel_rfl) (fun W args h => ?_)
  · match ds, h with
    | [d0, d1], _ => rfl
  · obtain ⟨cs0, x0, vs0, h0, ⟨rfl, _⟩, _, cs1, x1, vs1, rfl, ⟨rfl, _⟩, _, rfl⟩ := h
    obtain rfl : args = #[.int .i64 x0, .int .i64 x1] := by cases args; simpa [argVal] using h0
    exact ints_any x0 x1 W
theorem ints_holds : Rows.NanboxIntsSaid :=
  OpenClaim.holds_of_wide 3 Try.f3 rfl rfl rfl rfl rfl rfl rfl ⟨rfl, rfl, rfl, rfl, rfl⟩ rfl rfl rfl rfl rfl (by kernel_rfl) Try.func3 (by kernel_rfl) (of_decide_eq_true (by kernel_rfl)) (by unfold Func.isWrapper; first | (rw [if_pos (by decide +kernel)]; kernel_rfl) | (rw [if_neg (by decide +kernel)]; exact ⟨rfl, rfl⟩))
    (fun os started H enc _ => ints_lifted os started H enc)
end Go.Proofs.Ytbomhdgodiojhab
