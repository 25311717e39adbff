/-
  NanboxFloats holds: a float that is a number is boxed as it is; no other value has the word of one. No condition.
-/
import Derived.Test.YtbomhdgodiojhabNanApart
import Derived.Lib.QuietBelow
namespace Go.Proofs.Ytbomhdgodiojhab
open Go.RowKit Go.Sort
set_option linter.unusedVariables false
set_option linter.unusedSimpArgs false

theorem boxW_range {k n : Int} : 0 ≤ boxW k n ∧ boxW k n < 18446744073709551616 := by
  have := u64r n
  unfold boxW tagI
  repeat' split
  all_goals omega
/-- A value that is no float: its word is one with a tag, and tells its kind. -/
theorem tag_word {k n : Int} (h : boxE k n = 0) (h3 : k ≠ 3) (hn : -9223372036854775808 ≤ n ∧ n ≤ 9223372036854775807) :
    unE (boxW k n) = 0 ∧ unKind (boxW k n) = k ∧ unNum (boxW k n) = n ∧ oddB (boxW k n) = true := by
  obtain ⟨h1, h2, h4⟩ := boxE_0 h
  have hb : loI k ≤ n ∧ n ≤ hiI k := by omega
  have hw := boxW_tag h h3
  have hm : 0 ≤ n % 4294967296 ∧ n % 4294967296 < 4294967296 := by omega
  have ht : isTag (boxW k n) = true := by
    rw [hw]; unfold isTag tagI; simp only [decide_eq_true_eq]; split <;> omega
  have hk : unK (boxW k n) = k := by
    rw [hw]; unfold unK unK0 tagI; split <;> split <;> omega
  have hnn : unN (boxW k n) = n := by
    unfold unN
    rw [hk, hw]
    have e : (tagI k + n % 4294967296) % 4294967296 = n % 4294967296 := by unfold tagI; split <;> omega
    rw [e]
    unfold loI hiI at hb
    split
    · rename_i h2'; subst h2'
      simp at hb
      have e2 : wrap32 (n % 4294967296) = n := by unfold wrap32; omega
      rw [e2]
      exact IntWalk.wrap64_in n hn
    · repeat' (split at hb)
      all_goals (simp_all; try omega)
  have he : unE (boxW k n) = 0 := by simp [unE, ht, hk, hnn, h]
  refine ⟨he, by simp [unKind, he, ht, hk], by simp [unNum, he, ht, hnn], ?_⟩
  rw [hw]; unfold oddB tagI; simp only [decide_eq_true_eq]; split <;> omega

set_option maxHeartbeats 1000000 in
theorem floats_t3 (m k n : Int) (w : World) (HE : (boxE 3 m != 0) = false) (ho : oddB (IntKind.u64.wrap m) = true) (hk : (k == 3) = true) (HF : (boxE k n != 0) = false) :
    Calls Try.prog 5 #[.int .i64 m, .agg #[.int .i64 k, .int .i64 n]] w fun e w' => e = .returned (.bool true) ∧ Below w.heap.size w w' := by
  go_enter Try.func5, Try.ntmps5
  go_wp2_with (first | (go_at_call 7; refine (boxed_any _).mono ?_; rintro e w' ⟨rfl, hbw⟩; have hB := below_call (B := w.heap.size) (w := w) hbw (by repeat' (first | (with_reducible exact Below.refl _ _) | (with_reducible assumption) | (with_reducible refine below_drewN ?_ _) | (with_reducible refine Below.drew ?_) | (with_reducible refine Below.alloc ?_ ?_ _) | (with_reducible refine Below.setCell ?_ ?_ _) | go_size)) (by go_size); have hsz := hB.size; have hz0 : w.heap.size < w'.heap.size := (by have hz := hbw.size; first | omega | (simp at hz; omega)); have c0 := (hbw.cell (p := ⟨w.heap.size, 0, none⟩) (by go_size)).trans (show _ = some (Value.int .i64 k) from by first | assumption | (simp [go_sem]; done) | (simp [go_sem, *]; done)); have c1 := (hbw.cell (p := ⟨w.heap.size, 1, none⟩) (by go_size)).trans (show _ = some (Value.int .i64 n) from by first | assumption | (simp [go_sem]; done) | (simp [go_sem, *]; done)); clear hbw) | (go_at_call 8; refine (box_any _ _ _).mono ?_; rintro e w' ⟨rfl, hbw⟩; have hB := below_call (B := w.heap.size) (w := w) hbw (by repeat' (first | (with_reducible exact Below.refl _ _) | (with_reducible assumption) | (with_reducible refine below_drewN ?_ _) | (with_reducible refine Below.drew ?_) | (with_reducible refine Below.alloc ?_ ?_ _) | (with_reducible refine Below.setCell ?_ ?_ _) | go_size)) (by go_size); have hsz := hB.size; have hz0 : w.heap.size < w'.heap.size := (by have hz := hbw.size; first | omega | (simp at hz; omega)); have c0 := (hbw.cell (p := ⟨w.heap.size, 0, none⟩) (by go_size)).trans (show _ = some (Value.int .i64 k) from by first | assumption | (simp [go_sem]; done) | (simp [go_sem, *]; done)); have c1 := (hbw.cell (p := ⟨w.heap.size, 1, none⟩) (by go_size)).trans (show _ = some (Value.int .i64 n) from by first | assumption | (simp [go_sem]; done) | (simp [go_sem, *]; done)); clear hbw) | (go_at_call 10; refine (odd_any _ _ (u64r _).1 (u64r _).2).mono ?_; rintro e w' ⟨rfl, rfl⟩))
  have q0 := cell_regrown c0
  clear c0 c1
  (refine wp_region_quiet_below (by kernel_rfl) (by kernel_rfl) ?_)
  repeat (any_goals (first | go_big_quiet_step (first | (go_at_call 7; exact Calls.regrown_of (boxed_any _)) | (go_at_call 10; exact Calls.regrown_of ((odd_any _ _ boxW_range.1 boxW_range.2).mono fun _ _ h => ⟨h.1, h.2 ▸ Below.refl _ _⟩)) | (go_at_call 11; exact Calls.regrown_of (kind_any _ _ boxW_range.1 boxW_range.2))) | quiet_step (first | (go_at_call 7; exact Calls.regrown_of (boxed_any _)) | (go_at_call 10; exact Calls.regrown_of ((odd_any _ _ boxW_range.1 boxW_range.2).mono fun _ _ h => ⟨h.1, h.2 ▸ Below.refl _ _⟩)) | (go_at_call 11; exact Calls.regrown_of (kind_any _ _ boxW_range.1 boxW_range.2)))))
  (refine wpQuiet_nil ?_; intro _ hw'; obtain ⟨⟨dq, osq⟩, hw''⟩ := hw'; subst hw'')
  go_wp2
  go_ret
  exact ⟨rfl, hB.trans ((below_regrown _ dq osq).mono hsz)⟩

set_option maxHeartbeats 1000000 in
theorem floats_tk (m k n : Int) (w : World) (HE : (boxE 3 m != 0) = false) (ho : oddB (IntKind.u64.wrap m) = true) (HF : (boxE k n != 0) = false) (HK3 : (k == 3) = false) (HK : (kindI (boxW k n) == k) = true) (t4 : oddB (boxW k n) = true) :
    Calls Try.prog 5 #[.int .i64 m, .agg #[.int .i64 k, .int .i64 n]] w fun e w' => e = .returned (.bool true) ∧ Below w.heap.size w w' := by
  go_enter Try.func5, Try.ntmps5
  go_wp2_with (first | (go_at_call 7; refine (boxed_any _).mono ?_; rintro e w' ⟨rfl, hbw⟩; have hB := below_call (B := w.heap.size) (w := w) hbw (by repeat' (first | (with_reducible exact Below.refl _ _) | (with_reducible assumption) | (with_reducible refine below_drewN ?_ _) | (with_reducible refine Below.drew ?_) | (with_reducible refine Below.alloc ?_ ?_ _) | (with_reducible refine Below.setCell ?_ ?_ _) | go_size)) (by go_size); have hsz := hB.size; have hz0 : w.heap.size < w'.heap.size := (by have hz := hbw.size; first | omega | (simp at hz; omega)); have c0 := (hbw.cell (p := ⟨w.heap.size, 0, none⟩) (by go_size)).trans (show _ = some (Value.int .i64 k) from by first | assumption | (simp [go_sem]; done) | (simp [go_sem, *]; done)); have c1 := (hbw.cell (p := ⟨w.heap.size, 1, none⟩) (by go_size)).trans (show _ = some (Value.int .i64 n) from by first | assumption | (simp [go_sem]; done) | (simp [go_sem, *]; done)); clear hbw) | (go_at_call 8; refine (box_any _ _ _).mono ?_; rintro e w' ⟨rfl, hbw⟩; have hB := below_call (B := w.heap.size) (w := w) hbw (by repeat' (first | (with_reducible exact Below.refl _ _) | (with_reducible assumption) | (with_reducible refine below_drewN ?_ _) | (with_reducible refine Below.drew ?_) | (with_reducible refine Below.alloc ?_ ?_ _) | (with_reducible refine Below.setCell ?_ ?_ _) | go_size)) (by go_size); have hsz := hB.size; have hz0 : w.heap.size < w'.heap.size := (by have hz := hbw.size; first | omega | (simp at hz; omega)); have c0 := (hbw.cell (p := ⟨w.heap.size, 0, none⟩) (by go_size)).trans (show _ = some (Value.int .i64 k) from by first | assumption | (simp [go_sem]; done) | (simp [go_sem, *]; done)); have c1 := (hbw.cell (p := ⟨w.heap.size, 1, none⟩) (by go_size)).trans (show _ = some (Value.int .i64 n) from by first | assumption | (simp [go_sem]; done) | (simp [go_sem, *]; done)); clear hbw) | (go_at_call 10; refine (odd_any _ _ (u64r _).1 (u64r _).2).mono ?_; rintro e w' ⟨rfl, rfl⟩))
  have q0 := cell_regrown c0
  clear c0 c1
  (refine wp_region_quiet_below (by kernel_rfl) (by kernel_rfl) ?_)
  repeat (any_goals (first | go_big_quiet_step (first | (go_at_call 7; exact Calls.regrown_of (boxed_any _)) | (go_at_call 10; exact Calls.regrown_of ((odd_any _ _ boxW_range.1 boxW_range.2).mono fun _ _ h => ⟨h.1, h.2 ▸ Below.refl _ _⟩)) | (go_at_call 11; exact Calls.regrown_of (kind_any _ _ boxW_range.1 boxW_range.2))) | quiet_step (first | (go_at_call 7; exact Calls.regrown_of (boxed_any _)) | (go_at_call 10; exact Calls.regrown_of ((odd_any _ _ boxW_range.1 boxW_range.2).mono fun _ _ h => ⟨h.1, h.2 ▸ Below.refl _ _⟩)) | (go_at_call 11; exact Calls.regrown_of (kind_any _ _ boxW_range.1 boxW_range.2)))))
  (refine wpQuiet_nil ?_; intro _ hw'; obtain ⟨⟨dq, osq⟩, hw''⟩ := hw'; subst hw'')
  go_wp2
  go_ret
  exact ⟨rfl, hB.trans ((below_regrown _ dq osq).mono hsz)⟩

set_option maxHeartbeats 1000000 in
theorem floats_te (m k n : Int) (w : World) (HE : (boxE 3 m != 0) = false) (ho : oddB (IntKind.u64.wrap m) = true) (HF : (boxE k n != 0) = true) :
    Calls Try.prog 5 #[.int .i64 m, .agg #[.int .i64 k, .int .i64 n]] w fun e w' => e = .returned (.bool true) ∧ Below w.heap.size w w' := by
  go_enter Try.func5, Try.ntmps5
  go_wp2_with (first | (go_at_call 7; refine (boxed_any _).mono ?_; rintro e w' ⟨rfl, hbw⟩; have hB := below_call (B := w.heap.size) (w := w) hbw (by repeat' (first | (with_reducible exact Below.refl _ _) | (with_reducible assumption) | (with_reducible refine below_drewN ?_ _) | (with_reducible refine Below.drew ?_) | (with_reducible refine Below.alloc ?_ ?_ _) | (with_reducible refine Below.setCell ?_ ?_ _) | go_size)) (by go_size); have hsz := hB.size; have hz0 : w.heap.size < w'.heap.size := (by have hz := hbw.size; first | omega | (simp at hz; omega)); have c0 := (hbw.cell (p := ⟨w.heap.size, 0, none⟩) (by go_size)).trans (show _ = some (Value.int .i64 k) from by first | assumption | (simp [go_sem]; done) | (simp [go_sem, *]; done)); have c1 := (hbw.cell (p := ⟨w.heap.size, 1, none⟩) (by go_size)).trans (show _ = some (Value.int .i64 n) from by first | assumption | (simp [go_sem]; done) | (simp [go_sem, *]; done)); clear hbw) | (go_at_call 8; refine (box_any _ _ _).mono ?_; rintro e w' ⟨rfl, hbw⟩; have hB := below_call (B := w.heap.size) (w := w) hbw (by repeat' (first | (with_reducible exact Below.refl _ _) | (with_reducible assumption) | (with_reducible refine below_drewN ?_ _) | (with_reducible refine Below.drew ?_) | (with_reducible refine Below.alloc ?_ ?_ _) | (with_reducible refine Below.setCell ?_ ?_ _) | go_size)) (by go_size); have hsz := hB.size; have hz0 : w.heap.size < w'.heap.size := (by have hz := hbw.size; first | omega | (simp at hz; omega)); have c0 := (hbw.cell (p := ⟨w.heap.size, 0, none⟩) (by go_size)).trans (show _ = some (Value.int .i64 k) from by first | assumption | (simp [go_sem]; done) | (simp [go_sem, *]; done)); have c1 := (hbw.cell (p := ⟨w.heap.size, 1, none⟩) (by go_size)).trans (show _ = some (Value.int .i64 n) from by first | assumption | (simp [go_sem]; done) | (simp [go_sem, *]; done)); clear hbw) | (go_at_call 10; refine (odd_any _ _ (u64r _).1 (u64r _).2).mono ?_; rintro e w' ⟨rfl, rfl⟩))
  have q0 := cell_regrown c0
  clear c0 c1
  (refine wp_region_quiet_below (by kernel_rfl) (by kernel_rfl) ?_)
  repeat (any_goals (first | go_big_quiet_step (first | (go_at_call 7; exact Calls.regrown_of (boxed_any _)) | (go_at_call 10; exact Calls.regrown_of ((odd_any _ _ boxW_range.1 boxW_range.2).mono fun _ _ h => ⟨h.1, h.2 ▸ Below.refl _ _⟩)) | (go_at_call 11; exact Calls.regrown_of (kind_any _ _ boxW_range.1 boxW_range.2))) | quiet_step (first | (go_at_call 7; exact Calls.regrown_of (boxed_any _)) | (go_at_call 10; exact Calls.regrown_of ((odd_any _ _ boxW_range.1 boxW_range.2).mono fun _ _ h => ⟨h.1, h.2 ▸ Below.refl _ _⟩)) | (go_at_call 11; exact Calls.regrown_of (kind_any _ _ boxW_range.1 boxW_range.2)))))
  (refine wpQuiet_nil ?_; intro _ hw'; obtain ⟨⟨dq, osq⟩, hw''⟩ := hw'; subst hw'')
  go_wp2
  go_ret
  exact ⟨rfl, hB.trans ((below_regrown _ dq osq).mono hsz)⟩

set_option maxHeartbeats 1000000 in
theorem floats_f3 (m k n : Int) (w : World) (HE : (boxE 3 m != 0) = false) (ho : oddB (IntKind.u64.wrap m) = false) (HW : (boxW 3 m != IntKind.u64.wrap m) = false) (hk : (k == 3) = true) (HF : (boxE k n != 0) = false) :
    Calls Try.prog 5 #[.int .i64 m, .agg #[.int .i64 k, .int .i64 n]] w fun e w' => e = .returned (.bool true) ∧ Below w.heap.size w w' := by
  go_enter Try.func5, Try.ntmps5
  go_wp2_with (first | (go_at_call 7; refine (boxed_any _).mono ?_; rintro e w' ⟨rfl, hbw⟩; have hB := below_call (B := w.heap.size) (w := w) hbw (by repeat' (first | (with_reducible exact Below.refl _ _) | (with_reducible assumption) | (with_reducible refine below_drewN ?_ _) | (with_reducible refine Below.drew ?_) | (with_reducible refine Below.alloc ?_ ?_ _) | (with_reducible refine Below.setCell ?_ ?_ _) | go_size)) (by go_size); have hsz := hB.size; have hz0 : w.heap.size < w'.heap.size := (by have hz := hbw.size; first | omega | (simp at hz; omega)); have c0 := (hbw.cell (p := ⟨w.heap.size, 0, none⟩) (by go_size)).trans (show _ = some (Value.int .i64 k) from by first | assumption | (simp [go_sem]; done) | (simp [go_sem, *]; done)); have c1 := (hbw.cell (p := ⟨w.heap.size, 1, none⟩) (by go_size)).trans (show _ = some (Value.int .i64 n) from by first | assumption | (simp [go_sem]; done) | (simp [go_sem, *]; done)); clear hbw) | (go_at_call 8; refine (box_any _ _ _).mono ?_; rintro e w' ⟨rfl, hbw⟩; have hB := below_call (B := w.heap.size) (w := w) hbw (by repeat' (first | (with_reducible exact Below.refl _ _) | (with_reducible assumption) | (with_reducible refine below_drewN ?_ _) | (with_reducible refine Below.drew ?_) | (with_reducible refine Below.alloc ?_ ?_ _) | (with_reducible refine Below.setCell ?_ ?_ _) | go_size)) (by go_size); have hsz := hB.size; have hz0 : w.heap.size < w'.heap.size := (by have hz := hbw.size; first | omega | (simp at hz; omega)); have c0 := (hbw.cell (p := ⟨w.heap.size, 0, none⟩) (by go_size)).trans (show _ = some (Value.int .i64 k) from by first | assumption | (simp [go_sem]; done) | (simp [go_sem, *]; done)); have c1 := (hbw.cell (p := ⟨w.heap.size, 1, none⟩) (by go_size)).trans (show _ = some (Value.int .i64 n) from by first | assumption | (simp [go_sem]; done) | (simp [go_sem, *]; done)); clear hbw) | (go_at_call 10; refine (odd_any _ _ (u64r _).1 (u64r _).2).mono ?_; rintro e w' ⟨rfl, rfl⟩))
  have q0 := cell_regrown c0
  clear c0 c1
  (refine wp_region_quiet_below (by kernel_rfl) (by kernel_rfl) ?_)
  repeat (any_goals (first | go_big_quiet_step (first | (go_at_call 7; exact Calls.regrown_of (boxed_any _)) | (go_at_call 10; exact Calls.regrown_of ((odd_any _ _ boxW_range.1 boxW_range.2).mono fun _ _ h => ⟨h.1, h.2 ▸ Below.refl _ _⟩)) | (go_at_call 11; exact Calls.regrown_of (kind_any _ _ boxW_range.1 boxW_range.2))) | quiet_step (first | (go_at_call 7; exact Calls.regrown_of (boxed_any _)) | (go_at_call 10; exact Calls.regrown_of ((odd_any _ _ boxW_range.1 boxW_range.2).mono fun _ _ h => ⟨h.1, h.2 ▸ Below.refl _ _⟩)) | (go_at_call 11; exact Calls.regrown_of (kind_any _ _ boxW_range.1 boxW_range.2)))))
  (refine wpQuiet_nil ?_; intro _ hw'; obtain ⟨⟨dq, osq⟩, hw''⟩ := hw'; subst hw'')
  go_wp2
  go_ret
  exact ⟨rfl, hB.trans ((below_regrown _ dq osq).mono hsz)⟩

set_option maxHeartbeats 1000000 in
theorem floats_fk (m k n : Int) (w : World) (HE : (boxE 3 m != 0) = false) (ho : oddB (IntKind.u64.wrap m) = false) (HW : (boxW 3 m != IntKind.u64.wrap m) = false) (HF : (boxE k n != 0) = false) (HK3 : (k == 3) = false) (HK : (kindI (boxW k n) == k) = true) (t4 : oddB (boxW k n) = true) :
    Calls Try.prog 5 #[.int .i64 m, .agg #[.int .i64 k, .int .i64 n]] w fun e w' => e = .returned (.bool true) ∧ Below w.heap.size w w' := by
  go_enter Try.func5, Try.ntmps5
  go_wp2_with (first | (go_at_call 7; refine (boxed_any _).mono ?_; rintro e w' ⟨rfl, hbw⟩; have hB := below_call (B := w.heap.size) (w := w) hbw (by repeat' (first | (with_reducible exact Below.refl _ _) | (with_reducible assumption) | (with_reducible refine below_drewN ?_ _) | (with_reducible refine Below.drew ?_) | (with_reducible refine Below.alloc ?_ ?_ _) | (with_reducible refine Below.setCell ?_ ?_ _) | go_size)) (by go_size); have hsz := hB.size; have hz0 : w.heap.size < w'.heap.size := (by have hz := hbw.size; first | omega | (simp at hz; omega)); have c0 := (hbw.cell (p := ⟨w.heap.size, 0, none⟩) (by go_size)).trans (show _ = some (Value.int .i64 k) from by first | assumption | (simp [go_sem]; done) | (simp [go_sem, *]; done)); have c1 := (hbw.cell (p := ⟨w.heap.size, 1, none⟩) (by go_size)).trans (show _ = some (Value.int .i64 n) from by first | assumption | (simp [go_sem]; done) | (simp [go_sem, *]; done)); clear hbw) | (go_at_call 8; refine (box_any _ _ _).mono ?_; rintro e w' ⟨rfl, hbw⟩; have hB := below_call (B := w.heap.size) (w := w) hbw (by repeat' (first | (with_reducible exact Below.refl _ _) | (with_reducible assumption) | (with_reducible refine below_drewN ?_ _) | (with_reducible refine Below.drew ?_) | (with_reducible refine Below.alloc ?_ ?_ _) | (with_reducible refine Below.setCell ?_ ?_ _) | go_size)) (by go_size); have hsz := hB.size; have hz0 : w.heap.size < w'.heap.size := (by have hz := hbw.size; first | omega | (simp at hz; omega)); have c0 := (hbw.cell (p := ⟨w.heap.size, 0, none⟩) (by go_size)).trans (show _ = some (Value.int .i64 k) from by first | assumption | (simp [go_sem]; done) | (simp [go_sem, *]; done)); have c1 := (hbw.cell (p := ⟨w.heap.size, 1, none⟩) (by go_size)).trans (show _ = some (Value.int .i64 n) from by first | assumption | (simp [go_sem]; done) | (simp [go_sem, *]; done)); clear hbw) | (go_at_call 10; refine (odd_any _ _ (u64r _).1 (u64r _).2).mono ?_; rintro e w' ⟨rfl, rfl⟩))
  have q0 := cell_regrown c0
  clear c0 c1
  (refine wp_region_quiet_below (by kernel_rfl) (by kernel_rfl) ?_)
  repeat (any_goals (first | go_big_quiet_step (first | (go_at_call 7; exact Calls.regrown_of (boxed_any _)) | (go_at_call 10; exact Calls.regrown_of ((odd_any _ _ boxW_range.1 boxW_range.2).mono fun _ _ h => ⟨h.1, h.2 ▸ Below.refl _ _⟩)) | (go_at_call 11; exact Calls.regrown_of (kind_any _ _ boxW_range.1 boxW_range.2))) | quiet_step (first | (go_at_call 7; exact Calls.regrown_of (boxed_any _)) | (go_at_call 10; exact Calls.regrown_of ((odd_any _ _ boxW_range.1 boxW_range.2).mono fun _ _ h => ⟨h.1, h.2 ▸ Below.refl _ _⟩)) | (go_at_call 11; exact Calls.regrown_of (kind_any _ _ boxW_range.1 boxW_range.2)))))
  (refine wpQuiet_nil ?_; intro _ hw'; obtain ⟨⟨dq, osq⟩, hw''⟩ := hw'; subst hw'')
  go_wp2
  go_ret
  exact ⟨rfl, hB.trans ((below_regrown _ dq osq).mono hsz)⟩

set_option maxHeartbeats 1000000 in
theorem floats_fe (m k n : Int) (w : World) (HE : (boxE 3 m != 0) = false) (ho : oddB (IntKind.u64.wrap m) = false) (HW : (boxW 3 m != IntKind.u64.wrap m) = false) (HF : (boxE k n != 0) = true) :
    Calls Try.prog 5 #[.int .i64 m, .agg #[.int .i64 k, .int .i64 n]] w fun e w' => e = .returned (.bool true) ∧ Below w.heap.size w w' := by
  go_enter Try.func5, Try.ntmps5
  go_wp2_with (first | (go_at_call 7; refine (boxed_any _).mono ?_; rintro e w' ⟨rfl, hbw⟩; have hB := below_call (B := w.heap.size) (w := w) hbw (by repeat' (first | (with_reducible exact Below.refl _ _) | (with_reducible assumption) | (with_reducible refine below_drewN ?_ _) | (with_reducible refine Below.drew ?_) | (with_reducible refine Below.alloc ?_ ?_ _) | (with_reducible refine Below.setCell ?_ ?_ _) | go_size)) (by go_size); have hsz := hB.size; have hz0 : w.heap.size < w'.heap.size := (by have hz := hbw.size; first | omega | (simp at hz; omega)); have c0 := (hbw.cell (p := ⟨w.heap.size, 0, none⟩) (by go_size)).trans (show _ = some (Value.int .i64 k) from by first | assumption | (simp [go_sem]; done) | (simp [go_sem, *]; done)); have c1 := (hbw.cell (p := ⟨w.heap.size, 1, none⟩) (by go_size)).trans (show _ = some (Value.int .i64 n) from by first | assumption | (simp [go_sem]; done) | (simp [go_sem, *]; done)); clear hbw) | (go_at_call 8; refine (box_any _ _ _).mono ?_; rintro e w' ⟨rfl, hbw⟩; have hB := below_call (B := w.heap.size) (w := w) hbw (by repeat' (first | (with_reducible exact Below.refl _ _) | (with_reducible assumption) | (with_reducible refine below_drewN ?_ _) | (with_reducible refine Below.drew ?_) | (with_reducible refine Below.alloc ?_ ?_ _) | (with_reducible refine Below.setCell ?_ ?_ _) | go_size)) (by go_size); have hsz := hB.size; have hz0 : w.heap.size < w'.heap.size := (by have hz := hbw.size; first | omega | (simp at hz; omega)); have c0 := (hbw.cell (p := ⟨w.heap.size, 0, none⟩) (by go_size)).trans (show _ = some (Value.int .i64 k) from by first | assumption | (simp [go_sem]; done) | (simp [go_sem, *]; done)); have c1 := (hbw.cell (p := ⟨w.heap.size, 1, none⟩) (by go_size)).trans (show _ = some (Value.int .i64 n) from by first | assumption | (simp [go_sem]; done) | (simp [go_sem, *]; done)); clear hbw) | (go_at_call 10; refine (odd_any _ _ (u64r _).1 (u64r _).2).mono ?_; rintro e w' ⟨rfl, rfl⟩))
  have q0 := cell_regrown c0
  clear c0 c1
  (refine wp_region_quiet_below (by kernel_rfl) (by kernel_rfl) ?_)
  repeat (any_goals (first | go_big_quiet_step (first | (go_at_call 7; exact Calls.regrown_of (boxed_any _)) | (go_at_call 10; exact Calls.regrown_of ((odd_any _ _ boxW_range.1 boxW_range.2).mono fun _ _ h => ⟨h.1, h.2 ▸ Below.refl _ _⟩)) | (go_at_call 11; exact Calls.regrown_of (kind_any _ _ boxW_range.1 boxW_range.2))) | quiet_step (first | (go_at_call 7; exact Calls.regrown_of (boxed_any _)) | (go_at_call 10; exact Calls.regrown_of ((odd_any _ _ boxW_range.1 boxW_range.2).mono fun _ _ h => ⟨h.1, h.2 ▸ Below.refl _ _⟩)) | (go_at_call 11; exact Calls.regrown_of (kind_any _ _ boxW_range.1 boxW_range.2)))))
  (refine wpQuiet_nil ?_; intro _ hw'; obtain ⟨⟨dq, osq⟩, hw''⟩ := hw'; subst hw'')
  go_wp2
  go_ret
  exact ⟨rfl, hB.trans ((below_regrown _ dq osq).mono hsz)⟩

theorem floats_any (m k n : Int) (w : World) (hm : -9223372036854775808 ≤ m ∧ m ≤ 9223372036854775807) (hn : -9223372036854775808 ≤ n ∧ n ≤ 9223372036854775807) :
    Calls Try.prog 5 #[.int .i64 m, .agg #[.int .i64 k, .int .i64 n]] w fun e w' => e = .returned (.bool true) ∧ Below w.heap.size w w' := by
  have hw0 : boxW 3 m = if oddB (IntKind.u64.wrap m) then 9221120237041090561 else IntKind.u64.wrap m := by
    rw [boxW_float, odd_spoilt _ (u64r m).1 (u64r m).2]
  have HE : (boxE 3 m != 0) = false := by rw [boxE_3]; rfl
  cases ho : oddB (IntKind.u64.wrap m) with
  | true =>
    by_cases he : boxE k n = 0
    · have HF : (boxE k n != 0) = false := by simp [he]
      by_cases h3 : k = 3
      · exact floats_t3 m k n w HE ho (by simpa using h3) HF
      · obtain ⟨t1, t2, t3, t4⟩ := tag_word he h3 hn
        exact floats_tk m k n w HE ho HF (by simpa using h3) (by simp [kindI, t1, t2]) t4
    · exact floats_te m k n w HE ho (by simpa using he)
  | false =>
    have HW : (boxW 3 m != IntKind.u64.wrap m) = false := by rw [hw0, ho]; simp
    by_cases he : boxE k n = 0
    · have HF : (boxE k n != 0) = false := by simp [he]
      by_cases h3 : k = 3
      · exact floats_f3 m k n w HE ho HW (by simpa using h3) HF
      · obtain ⟨t1, t2, t3, t4⟩ := tag_word he h3 hn
        exact floats_fk m k n w HE ho HW HF (by simpa using h3) (by simp [kindI, t1, t2]) t4
    · exact floats_fe m k n w HE ho HW (by simpa using he)

set_option maxRecDepth 100000 in
theorem floats_lifted (os : Os) (started : os.Started) (H : Type) (enc : TypeId × Value → H) :
    ReturnsInHanded {} Try.checked os 5 .any (Rows.nanboxFloatsSpec.pre6 enc Try.prog Try.f5 Rows.nanboxFloatsRow.domain false) (Rows.nanboxFloatsSpec.post enc Try.prog Try.f5 false true false false) := by
  refine law_lifted (C := Try.checked) 12 [(false, .int .i64), (true, .prod (.int .i64) (.int .i64))] 4 Try.own Try.laidOut started (by kernel_rfl) Try.func5
    (ChangeSpec.witness6 (enc := enc) (C := Try.checked) false ⟨#[], #[.int .i64 0, .agg #[.int .i64 0, .int .i64 0]], []⟩ 8 (by kernel_rfl) (by kernel_rfl) (by kernel_rfl) (by kernel_rfl))
    rfl (by kernel_rfl) Try.underlying4 (fun ds h => ?_) (by kernel_rfl) (by kernel_rfl) (fun W args h => ?_)
  · match ds, h with
    | [d0, d1], _ => rfl
  · obtain ⟨cs0, x0, vs0, h0, ⟨rfl, hn⟩, _, cs1, x1, vs1, rfl, ⟨_, _, rfl, ⟨rfl, _⟩, rfl, hn'⟩, _, rfl⟩ := h
    obtain rfl : args = #[.int .i64 x0, .agg #[.int .i64 x1.1, .int .i64 x1.2]] := by cases args; simpa [argVal] using h0
    exact floats_any _ _ _ W (i64_bounds hn) (i64_bounds hn')
theorem floats_holds : Rows.NanboxFloatsSaid :=
  OpenClaim.holds_of_wide 5 Try.f5 rfl rfl rfl rfl rfl rfl rfl ⟨rfl, rfl, rfl, rfl, rfl⟩ rfl rfl rfl rfl rfl (by kernel_rfl) Try.func5 (by kernel_rfl) (of_decide_eq_true (by kernel_rfl)) (by unfold Func.isWrapper; first | (rw [if_pos (by decide +kernel)]; kernel_rfl) | (rw [if_neg (by decide +kernel)]; exact ⟨rfl, rfl⟩))
    (fun os started H enc _ => floats_lifted os started H enc)
end Go.Proofs.Ytbomhdgodiojhab
