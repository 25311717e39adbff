/-
  slices.Clone at the types of states.
-/
import Derived.Test.YtbomhdgodiojhaaRaw
namespace Go.Proofs.Ytbomhdgodiojhaa
open Go.RowKit Go.Sort
set_option linter.unusedVariables false
set_option linter.unusedSimpArgs false
theorem cVal_info : (Try.prog.info? 23).map (fun i => (i.zero, i.size, i.bytes)) = some (some (.agg #[.int .i64 0, .int .i64 0]), 2, 16) := by kernel_rfl
set_option maxHeartbeats 1000000 in
/-- slices.Clone: a row of its own with the same cells. -/
theorem cVal_clone (A : Option Addr) (n c B : Nat) (xs : List Value) (w : World) (hB : B ≤ w.heap.size) (hr : Raw w B 2 A n xs) (hA : A = none → c = 0) (hn : n ≤ c) (hreach : n * 16 ≤ 140737488351232) :
    Calls Try.prog 18 #[.slice A n c] w fun e w' => ∃ A' c', e = .returned (.slice A' n c') ∧ w'.ownsRow w.heap.size 23 2 (.slice A' n c') n xs ∧ Below w.heap.size w w' := by
  obtain ⟨i0, hi, hz0, hz1, hz2⟩ := info_parts cVal_info
  by_cases h0 : A = none
  · subst h0
    obtain rfl : c = 0 := hA rfl
    obtain rfl : n = 0 := by omega
    have hx : xs = [] := List.eq_nil_of_length_eq_zero (by simpa using hr.1)
    subst hx
    have hns := fun w : World => Lib.run_eql_slice_nil (P := Try.prog) w 24 23 none 0 0 0 0 Try.underlying24
    go_enter Try.func18, Try.ntmps18
    go_wp2
    go_ret
    exact ⟨_, _, rfl, World.ownsRow_nil _ _ _ _, Below.refl _ _⟩
  · obtain ⟨ad, rfl⟩ := Option.ne_none_iff_exists'.1 h0
    have hcap : n ≤ 9223372036854775807 := by omega
    have hns := fun w : World => Lib.run_eql_slice_nil (P := Try.prog) w 24 23 (some ad) n c 0 0 Try.underlying24
    go_enter Try.func18, Try.ntmps18
    go_wp2_with (at_builtin; refine wpList_append_raw _ rfl (.tmp 5) (.tmp 6) _ rfl w.heap.size 23 i0 _ 2 16 Try.underlying24 hi hz0 hz1 hz2 rfl (by omega) (.slice (some ⟨w.heap.size, 0, none⟩) 0 0) 0 [] rfl (World.ownsRow_made _ #[] 0 (Nat.le_refl _) (by simp [maxLen]) (by simp)) B (some ad) n c xs rfl (hr.keep (fun p hp => World.cell?_alloc_lt w _ p (by omega)) (Nat.le_refl _)) (by simp only [maxLen]; omega) (by omega) (by simp) ?_; intro v1 w1 hown1 hg1 hat1)
    go_ret
    have ho : w1.ownsRow w.heap.size 23 2 v1 n xs := by simpa using hown1
    obtain ⟨A', c', rfl, _⟩ := own_shape ho
    refine ⟨A', c', rfl, ho, ((Below.refl _ _).alloc (Nat.le_refl _) _).grown hg1 (by simp) (fun k hk => ?_)⟩
    simp [Value.ownBlock] at hk
    omega
theorem cTry_info : (Try.prog.info? 76).map (fun i => (i.zero, i.size, i.bytes)) = some (some (.agg #[.int .i64 0, .int .i64 0]), 2, 16) := by kernel_rfl
set_option maxHeartbeats 1000000 in
/-- slices.Clone: a row of its own with the same cells. -/
theorem cTry_clone (A : Option Addr) (n c B : Nat) (xs : List Value) (w : World) (hB : B ≤ w.heap.size) (hr : Raw w B 2 A n xs) (hA : A = none → c = 0) (hn : n ≤ c) (hreach : n * 16 ≤ 140737488351232) :
    Calls Try.prog 19 #[.slice A n c] w fun e w' => ∃ A' c', e = .returned (.slice A' n c') ∧ w'.ownsRow w.heap.size 76 2 (.slice A' n c') n xs ∧ Below w.heap.size w w' := by
  obtain ⟨i0, hi, hz0, hz1, hz2⟩ := info_parts cTry_info
  by_cases h0 : A = none
  · subst h0
    obtain rfl : c = 0 := hA rfl
    obtain rfl : n = 0 := by omega
    have hx : xs = [] := List.eq_nil_of_length_eq_zero (by simpa using hr.1)
    subst hx
    have hns := fun w : World => Lib.run_eql_slice_nil (P := Try.prog) w 25 76 none 0 0 0 0 Try.underlying25
    go_enter Try.func19, Try.ntmps19
    go_wp2
    go_ret
    exact ⟨_, _, rfl, World.ownsRow_nil _ _ _ _, Below.refl _ _⟩
  · obtain ⟨ad, rfl⟩ := Option.ne_none_iff_exists'.1 h0
    have hcap : n ≤ 9223372036854775807 := by omega
    have hns := fun w : World => Lib.run_eql_slice_nil (P := Try.prog) w 25 76 (some ad) n c 0 0 Try.underlying25
    go_enter Try.func19, Try.ntmps19
    go_wp2_with (at_builtin; refine wpList_append_raw _ rfl (.tmp 5) (.tmp 6) _ rfl w.heap.size 76 i0 _ 2 16 Try.underlying25 hi hz0 hz1 hz2 rfl (by omega) (.slice (some ⟨w.heap.size, 0, none⟩) 0 0) 0 [] rfl (World.ownsRow_made _ #[] 0 (Nat.le_refl _) (by simp [maxLen]) (by simp)) B (some ad) n c xs rfl (hr.keep (fun p hp => World.cell?_alloc_lt w _ p (by omega)) (Nat.le_refl _)) (by simp only [maxLen]; omega) (by omega) (by simp) ?_; intro v1 w1 hown1 hg1 hat1)
    go_ret
    have ho : w1.ownsRow w.heap.size 76 2 v1 n xs := by simpa using hown1
    obtain ⟨A', c', rfl, _⟩ := own_shape ho
    refine ⟨A', c', rfl, ho, ((Below.refl _ _).alloc (Nat.le_refl _) _).grown hg1 (by simp) (fun k hk => ?_)⟩
    simp [Value.ownBlock] at hk
    omega
theorem cShape_info : (Try.prog.info? 68).map (fun i => (i.zero, i.size, i.bytes)) = some (some (.agg #[.int .i64 0, .int .i64 0]), 2, 16) := by kernel_rfl
set_option maxHeartbeats 1000000 in
/-- slices.Clone: a row of its own with the same cells. -/
theorem cShape_clone (A : Option Addr) (n c B : Nat) (xs : List Value) (w : World) (hB : B ≤ w.heap.size) (hr : Raw w B 2 A n xs) (hA : A = none → c = 0) (hn : n ≤ c) (hreach : n * 16 ≤ 140737488351232) :
    Calls Try.prog 25 #[.slice A n c] w fun e w' => ∃ A' c', e = .returned (.slice A' n c') ∧ w'.ownsRow w.heap.size 68 2 (.slice A' n c') n xs ∧ Below w.heap.size w w' := by
  obtain ⟨i0, hi, hz0, hz1, hz2⟩ := info_parts cShape_info
  by_cases h0 : A = none
  · subst h0
    obtain rfl : c = 0 := hA rfl
    obtain rfl : n = 0 := by omega
    have hx : xs = [] := List.eq_nil_of_length_eq_zero (by simpa using hr.1)
    subst hx
    have hns := fun w : World => Lib.run_eql_slice_nil (P := Try.prog) w 52 68 none 0 0 0 0 Try.underlying52
    go_enter Try.func25, Try.ntmps25
    go_wp2
    go_ret
    exact ⟨_, _, rfl, World.ownsRow_nil _ _ _ _, Below.refl _ _⟩
  · obtain ⟨ad, rfl⟩ := Option.ne_none_iff_exists'.1 h0
    have hcap : n ≤ 9223372036854775807 := by omega
    have hns := fun w : World => Lib.run_eql_slice_nil (P := Try.prog) w 52 68 (some ad) n c 0 0 Try.underlying52
    go_enter Try.func25, Try.ntmps25
    go_wp2_with (at_builtin; refine wpList_append_raw _ rfl (.tmp 5) (.tmp 6) _ rfl w.heap.size 68 i0 _ 2 16 Try.underlying52 hi hz0 hz1 hz2 rfl (by omega) (.slice (some ⟨w.heap.size, 0, none⟩) 0 0) 0 [] rfl (World.ownsRow_made _ #[] 0 (Nat.le_refl _) (by simp [maxLen]) (by simp)) B (some ad) n c xs rfl (hr.keep (fun p hp => World.cell?_alloc_lt w _ p (by omega)) (Nat.le_refl _)) (by simp only [maxLen]; omega) (by omega) (by simp) ?_; intro v1 w1 hown1 hg1 hat1)
    go_ret
    have ho : w1.ownsRow w.heap.size 68 2 v1 n xs := by simpa using hown1
    obtain ⟨A', c', rfl, _⟩ := own_shape ho
    refine ⟨A', c', rfl, ho, ((Below.refl _ _).alloc (Nat.le_refl _) _).grown hg1 (by simp) (fun k hk => ?_)⟩
    simp [Value.ownBlock] at hk
    omega
theorem cEnd_info : (Try.prog.info? 71).map (fun i => (i.zero, i.size, i.bytes)) = some (some (.agg #[.int .i64 0, .int .i64 0, .int .i64 0]), 3, 24) := by kernel_rfl
set_option maxHeartbeats 1000000 in
/-- slices.Clone: a row of its own with the same cells. -/
theorem cEnd_clone (A : Option Addr) (n c B : Nat) (xs : List Value) (w : World) (hB : B ≤ w.heap.size) (hr : Raw w B 3 A n xs) (hA : A = none → c = 0) (hn : n ≤ c) (hreach : n * 24 ≤ 140737488351232) :
    Calls Try.prog 27 #[.slice A n c] w fun e w' => ∃ A' c', e = .returned (.slice A' n c') ∧ w'.ownsRow w.heap.size 71 3 (.slice A' n c') n xs ∧ Below w.heap.size w w' := by
  obtain ⟨i0, hi, hz0, hz1, hz2⟩ := info_parts cEnd_info
  by_cases h0 : A = none
  · subst h0
    obtain rfl : c = 0 := hA rfl
    obtain rfl : n = 0 := by omega
    have hx : xs = [] := List.eq_nil_of_length_eq_zero (by simpa using hr.1)
    subst hx
    have hns := fun w : World => Lib.run_eql_slice_nil (P := Try.prog) w 55 71 none 0 0 0 0 Try.underlying55
    go_enter Try.func27, Try.ntmps27
    go_wp2
    go_ret
    exact ⟨_, _, rfl, World.ownsRow_nil _ _ _ _, Below.refl _ _⟩
  · obtain ⟨ad, rfl⟩ := Option.ne_none_iff_exists'.1 h0
    have hcap : n ≤ 9223372036854775807 := by omega
    have hns := fun w : World => Lib.run_eql_slice_nil (P := Try.prog) w 55 71 (some ad) n c 0 0 Try.underlying55
    go_enter Try.func27, Try.ntmps27
    go_wp2_with (at_builtin; refine wpList_append_raw _ rfl (.tmp 5) (.tmp 6) _ rfl w.heap.size 71 i0 _ 3 24 Try.underlying55 hi hz0 hz1 hz2 rfl (by omega) (.slice (some ⟨w.heap.size, 0, none⟩) 0 0) 0 [] rfl (World.ownsRow_made _ #[] 0 (Nat.le_refl _) (by simp [maxLen]) (by simp)) B (some ad) n c xs rfl (hr.keep (fun p hp => World.cell?_alloc_lt w _ p (by omega)) (Nat.le_refl _)) (by simp only [maxLen]; omega) (by omega) (by simp) ?_; intro v1 w1 hown1 hg1 hat1)
    go_ret
    have ho : w1.ownsRow w.heap.size 71 3 v1 n xs := by simpa using hown1
    obtain ⟨A', c', rfl, _⟩ := own_shape ho
    refine ⟨A', c', rfl, ho, ((Below.refl _ _).alloc (Nat.le_refl _) _).grown hg1 (by simp) (fun k hk => ?_)⟩
    simp [Value.ownBlock] at hk
    omega
theorem cStr_info : (Try.prog.info? 9).map (fun i => (i.zero, i.size, i.bytes)) = some (some (.string .empty), 1, 16) := by kernel_rfl
set_option maxHeartbeats 1000000 in
/-- slices.Clone: a row of its own with the same cells. -/
theorem cStr_clone (A : Option Addr) (n c B : Nat) (xs : List Value) (w : World) (hB : B ≤ w.heap.size) (hr : Raw w B 1 A n xs) (hA : A = none → c = 0) (hn : n ≤ c) (hreach : n * 16 ≤ 140737488351232) :
    Calls Try.prog 26 #[.slice A n c] w fun e w' => ∃ A' c', e = .returned (.slice A' n c') ∧ w'.ownsRow w.heap.size 9 1 (.slice A' n c') n xs ∧ Below w.heap.size w w' := by
  obtain ⟨i0, hi, hz0, hz1, hz2⟩ := info_parts cStr_info
  by_cases h0 : A = none
  · subst h0
    obtain rfl : c = 0 := hA rfl
    obtain rfl : n = 0 := by omega
    have hx : xs = [] := List.eq_nil_of_length_eq_zero (by simpa using hr.1)
    subst hx
    have hns := fun w : World => Lib.run_eql_slice_nil (P := Try.prog) w 53 9 none 0 0 0 0 Try.underlying53
    go_enter Try.func26, Try.ntmps26
    go_wp2
    go_ret
    exact ⟨_, _, rfl, World.ownsRow_nil _ _ _ _, Below.refl _ _⟩
  · obtain ⟨ad, rfl⟩ := Option.ne_none_iff_exists'.1 h0
    have hcap : n ≤ 9223372036854775807 := by omega
    have hns := fun w : World => Lib.run_eql_slice_nil (P := Try.prog) w 53 9 (some ad) n c 0 0 Try.underlying53
    go_enter Try.func26, Try.ntmps26
    go_wp2_with (at_builtin; refine wpList_append_raw _ rfl (.tmp 5) (.tmp 6) _ rfl w.heap.size 9 i0 _ 1 16 Try.underlying53 hi hz0 hz1 hz2 rfl (by omega) (.slice (some ⟨w.heap.size, 0, none⟩) 0 0) 0 [] rfl (World.ownsRow_made _ #[] 0 (Nat.le_refl _) (by simp [maxLen]) (by simp)) B (some ad) n c xs rfl (hr.keep (fun p hp => World.cell?_alloc_lt w _ p (by omega)) (Nat.le_refl _)) (by simp only [maxLen]; omega) (by omega) (by simp) ?_; intro v1 w1 hown1 hg1 hat1)
    go_ret
    have ho : w1.ownsRow w.heap.size 9 1 v1 n xs := by simpa using hown1
    obtain ⟨A', c', rfl, _⟩ := own_shape ho
    refine ⟨A', c', rfl, ho, ((Below.refl _ _).alloc (Nat.le_refl _) _).grown hg1 (by simp) (fun k hk => ?_)⟩
    simp [Value.ownBlock] at hk
    omega
theorem cFrame_info : (Try.prog.info? 27).map (fun i => (i.zero, i.size, i.bytes)) = some (some (.agg #[.int .i64 0, .int .i64 0, .int .i64 0, .int .i64 0, .int .i64 0, .int .i64 0, .slice none 0 0, .slice none 0 0]), 8, 96) := by kernel_rfl
set_option maxHeartbeats 1000000 in
/-- slices.Clone: a row of its own with the same cells. -/
theorem cFrame_clone (A : Option Addr) (n c B : Nat) (xs : List Value) (w : World) (hB : B ≤ w.heap.size) (hr : Raw w B 8 A n xs) (hA : A = none → c = 0) (hn : n ≤ c) (hreach : n * 96 ≤ 140737488351232) :
    Calls Try.prog 29 #[.slice A n c] w fun e w' => ∃ A' c', e = .returned (.slice A' n c') ∧ w'.ownsRow w.heap.size 27 8 (.slice A' n c') n xs ∧ Below w.heap.size w w' := by
  obtain ⟨i0, hi, hz0, hz1, hz2⟩ := info_parts cFrame_info
  by_cases h0 : A = none
  · subst h0
    obtain rfl : c = 0 := hA rfl
    obtain rfl : n = 0 := by omega
    have hx : xs = [] := List.eq_nil_of_length_eq_zero (by simpa using hr.1)
    subst hx
    have hns := fun w : World => Lib.run_eql_slice_nil (P := Try.prog) w 48 27 none 0 0 0 0 Try.underlying48
    go_enter Try.func29, Try.ntmps29
    go_wp2
    go_ret
    exact ⟨_, _, rfl, World.ownsRow_nil _ _ _ _, Below.refl _ _⟩
  · obtain ⟨ad, rfl⟩ := Option.ne_none_iff_exists'.1 h0
    have hcap : n ≤ 9223372036854775807 := by omega
    have hns := fun w : World => Lib.run_eql_slice_nil (P := Try.prog) w 48 27 (some ad) n c 0 0 Try.underlying48
    go_enter Try.func29, Try.ntmps29
    go_wp2_with (at_builtin; refine wpList_append_raw _ rfl (.tmp 5) (.tmp 6) _ rfl w.heap.size 27 i0 _ 8 96 Try.underlying48 hi hz0 hz1 hz2 rfl (by omega) (.slice (some ⟨w.heap.size, 0, none⟩) 0 0) 0 [] rfl (World.ownsRow_made _ #[] 0 (Nat.le_refl _) (by simp [maxLen]) (by simp)) B (some ad) n c xs rfl (hr.keep (fun p hp => World.cell?_alloc_lt w _ p (by omega)) (Nat.le_refl _)) (by simp only [maxLen]; omega) (by omega) (by simp) ?_; intro v1 w1 hown1 hg1 hat1)
    go_ret
    have ho : w1.ownsRow w.heap.size 27 8 v1 n xs := by simpa using hown1
    obtain ⟨A', c', rfl, _⟩ := own_shape ho
    refine ⟨A', c', rfl, ho, ((Below.refl _ _).alloc (Nat.le_refl _) _).grown hg1 (by simp) (fun k hk => ?_)⟩
    simp [Value.ownBlock] at hk
    omega
theorem cCell_info : (Try.prog.info? 50).map (fun i => (i.zero, i.size, i.bytes)) = some (some (.agg #[.int .i64 0, .int .i64 0, .slice none 0 0, .slice none 0 0]), 4, 64) := by kernel_rfl
set_option maxHeartbeats 1000000 in
/-- slices.Clone: a row of its own with the same cells. -/
theorem cCell_clone (A : Option Addr) (n c B : Nat) (xs : List Value) (w : World) (hB : B ≤ w.heap.size) (hr : Raw w B 4 A n xs) (hA : A = none → c = 0) (hn : n ≤ c) (hreach : n * 64 ≤ 140737488351232) :
    Calls Try.prog 28 #[.slice A n c] w fun e w' => ∃ A' c', e = .returned (.slice A' n c') ∧ w'.ownsRow w.heap.size 50 4 (.slice A' n c') n xs ∧ Below w.heap.size w w' := by
  obtain ⟨i0, hi, hz0, hz1, hz2⟩ := info_parts cCell_info
  by_cases h0 : A = none
  · subst h0
    obtain rfl : c = 0 := hA rfl
    obtain rfl : n = 0 := by omega
    have hx : xs = [] := List.eq_nil_of_length_eq_zero (by simpa using hr.1)
    subst hx
    have hns := fun w : World => Lib.run_eql_slice_nil (P := Try.prog) w 40 50 none 0 0 0 0 Try.underlying40
    go_enter Try.func28, Try.ntmps28
    go_wp2
    go_ret
    exact ⟨_, _, rfl, World.ownsRow_nil _ _ _ _, Below.refl _ _⟩
  · obtain ⟨ad, rfl⟩ := Option.ne_none_iff_exists'.1 h0
    have hcap : n ≤ 9223372036854775807 := by omega
    have hns := fun w : World => Lib.run_eql_slice_nil (P := Try.prog) w 40 50 (some ad) n c 0 0 Try.underlying40
    go_enter Try.func28, Try.ntmps28
    go_wp2_with (at_builtin; refine wpList_append_raw _ rfl (.tmp 5) (.tmp 6) _ rfl w.heap.size 50 i0 _ 4 64 Try.underlying40 hi hz0 hz1 hz2 rfl (by omega) (.slice (some ⟨w.heap.size, 0, none⟩) 0 0) 0 [] rfl (World.ownsRow_made _ #[] 0 (Nat.le_refl _) (by simp [maxLen]) (by simp)) B (some ad) n c xs rfl (hr.keep (fun p hp => World.cell?_alloc_lt w _ p (by omega)) (Nat.le_refl _)) (by simp only [maxLen]; omega) (by omega) (by simp) ?_; intro v1 w1 hown1 hg1 hat1)
    go_ret
    have ho : w1.ownsRow w.heap.size 50 4 v1 n xs := by simpa using hown1
    obtain ⟨A', c', rfl, _⟩ := own_shape ho
    refine ⟨A', c', rfl, ho, ((Below.refl _ _).alloc (Nat.le_refl _) _).grown hg1 (by simp) (fun k hk => ?_)⟩
    simp [Value.ownBlock] at hk
    omega
theorem cThread_info : (Try.prog.info? 62).map (fun i => (i.zero, i.size, i.bytes)) = some (some (.agg #[.slice none 0 0, .int .i64 0, .int .i64 0, .int .i64 0, .int .i64 0]), 5, 56) := by kernel_rfl
set_option maxHeartbeats 1000000 in
/-- slices.Clone: a row of its own with the same cells. -/
theorem cThread_clone (A : Option Addr) (n c B : Nat) (xs : List Value) (w : World) (hB : B ≤ w.heap.size) (hr : Raw w B 5 A n xs) (hA : A = none → c = 0) (hn : n ≤ c) (hreach : n * 56 ≤ 140737488351232) :
    Calls Try.prog 23 #[.slice A n c] w fun e w' => ∃ A' c', e = .returned (.slice A' n c') ∧ w'.ownsRow w.heap.size 62 5 (.slice A' n c') n xs ∧ Below w.heap.size w w' := by
  obtain ⟨i0, hi, hz0, hz1, hz2⟩ := info_parts cThread_info
  by_cases h0 : A = none
  · subst h0
    obtain rfl : c = 0 := hA rfl
    obtain rfl : n = 0 := by omega
    have hx : xs = [] := List.eq_nil_of_length_eq_zero (by simpa using hr.1)
    subst hx
    have hns := fun w : World => Lib.run_eql_slice_nil (P := Try.prog) w 54 62 none 0 0 0 0 Try.underlying54
    go_enter Try.func23, Try.ntmps23
    go_wp2
    go_ret
    exact ⟨_, _, rfl, World.ownsRow_nil _ _ _ _, Below.refl _ _⟩
  · obtain ⟨ad, rfl⟩ := Option.ne_none_iff_exists'.1 h0
    have hcap : n ≤ 9223372036854775807 := by omega
    have hns := fun w : World => Lib.run_eql_slice_nil (P := Try.prog) w 54 62 (some ad) n c 0 0 Try.underlying54
    go_enter Try.func23, Try.ntmps23
    go_wp2_with (at_builtin; refine wpList_append_raw _ rfl (.tmp 5) (.tmp 6) _ rfl w.heap.size 62 i0 _ 5 56 Try.underlying54 hi hz0 hz1 hz2 rfl (by omega) (.slice (some ⟨w.heap.size, 0, none⟩) 0 0) 0 [] rfl (World.ownsRow_made _ #[] 0 (Nat.le_refl _) (by simp [maxLen]) (by simp)) B (some ad) n c xs rfl (hr.keep (fun p hp => World.cell?_alloc_lt w _ p (by omega)) (Nat.le_refl _)) (by simp only [maxLen]; omega) (by omega) (by simp) ?_; intro v1 w1 hown1 hg1 hat1)
    go_ret
    have ho : w1.ownsRow w.heap.size 62 5 v1 n xs := by simpa using hown1
    obtain ⟨A', c', rfl, _⟩ := own_shape ho
    refine ⟨A', c', rfl, ho, ((Below.refl _ _).alloc (Nat.le_refl _) _).grown hg1 (by simp) (fun k hk => ?_)⟩
    simp [Value.ownBlock] at hk
    omega
end Go.Proofs.Ytbomhdgodiojhaa
