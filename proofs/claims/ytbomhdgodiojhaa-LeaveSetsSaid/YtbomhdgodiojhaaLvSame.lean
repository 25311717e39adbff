/-
  R.Eq at []Try; two frames, or two cells, with the same in them are the same.
-/
import Derived.Test.YtbomhdgodiojhaaLvFrame
namespace Go.Proofs.Ytbomhdgodiojhaa
open Go.RowKit Go.Sort
set_option linter.unusedVariables false
set_option linter.unusedSimpArgs false

theorem neqTry (x y : Int × Int) (w : World) : (binOp .neq 76 (.agg #[.int .i64 x.1, .int .i64 x.2]) (.agg #[.int .i64 y.1, .int .i64 y.2])).run Try.prog w = .ok (.bool (neB x y)) w := by
  obtain ⟨a, b⟩ := x; obtain ⟨c, d⟩ := y
  by_cases h1 : a = c <;> by_cases h2 : b = d <;> simp [go_sem, neB, h1, h2]

set_option maxHeartbeats 1000000 in
theorem eqTry_any (A A' : Option Addr) (n c n' c' b1 b2 B : Nat) (l l' : List (Int × Int)) (w : World) (hB : B ≤ w.heap.size)
    (h : Has w B (.slice b1 (.prod (.int .i64) (.int .i64))) [.slice A n c] l) (h' : Has w B (.slice b2 (.prod (.int .i64) (.int .i64))) [.slice A' n' c'] l') :
    Calls Try.prog 21 #[.slice A n c, .slice A' n' c'] w fun e w' => e = .returned (.bool (decide (l = l'))) ∧ Below w.heap.size w w' := by
  obtain ⟨rfl, hlc, hm, hc⟩ := h.two
  obtain ⟨rfl, hlc', hm', hc'⟩ := h'.two
  unfold maxLen at hm hm'
  by_cases hl : l.length = l'.length
  · have HL : Hid (l.length = l'.length) := hl
    have HT : ((l.length : Int) != l'.length) = false := by simp [hl]
    clear hl
    go_enter Try.func21, Try.ntmps21
    go_wp2
    go_loopw [14] (fun i wr => ∃ k : Nat, k ≤ l.length ∧ i = .int .i64 k ∧ eqTo l l' k ∧ Below w.heap.size w wr) (fun i _ => l.length - (intOf i).toNat)
    case atStart => exact ⟨0, Nat.zero_le _, rfl, fun i h => absurd h (by omega), Below.refl _ _⟩
    case round =>
      obtain ⟨k, hk, rfl, HE, hb⟩ := hrel
      have HE := Lib.hid HE
      by_cases hlt : k < l.length
      · have hlt' : k < l'.length := by rw [← HL.out]; exact hlt
        obtain ⟨b, off, rfl, hbB, hx, hy⟩ := hc k hlt
        obtain ⟨b', off', rfl, hbB', hx', hy'⟩ := hc' k hlt'
        have hx := (hb.cell (p := ⟨b, off + k * 2, none⟩) (Nat.lt_of_lt_of_le hbB hB)).trans hx
        have hy := (hb.cell (p := ⟨b, off + k * 2 + 1, none⟩) (Nat.lt_of_lt_of_le hbB hB)).trans hy
        have hx' := (hb.cell (p := ⟨b', off' + k * 2, none⟩) (Nat.lt_of_lt_of_le hbB' hB)).trans hx'
        have hy' := (hb.cell (p := ⟨b', off' + k * 2 + 1, none⟩) (Nat.lt_of_lt_of_le hbB' hB)).trans hy'
        obtain ⟨x, ex⟩ : ∃ x, x = l[k] := ⟨_, rfl⟩
        obtain ⟨y, ey⟩ : ∃ y, y = l'[k] := ⟨_, rfl⟩
        rw [← ex] at hx hy
        rw [← ey] at hx' hy'
        have HX := Lib.hid ex
        have HY := Lib.hid ey
        clear ex ey hc hc' h h'
        have hsz := hb.size
        have hz1 : b < wr.heap.size := by omega
        have hz2 : b' < wr.heap.size := by omega
        have hi1 : (k : Int) < (l'.length : Int) := by omega
        have hi0 : (0 : Int) ≤ (k : Int) := by omega
        have hne := neqTry x y
        go_wp2
        go_quiet (fail)
        go_wp2
        · have hne : neB x y = true := by assumption
          go_ret
          exact ⟨ret_bool (by
            symm
            simp only [decide_eq_false_iff_not]
            intro e
            apply neB_true hne
            rw [HX.out, HY.out]
            subst e
            rfl), (by repeat' (first | (with_reducible exact Below.refl _ _) | (with_reducible assumption) | (with_reducible refine below_drewN ?_ _) | (with_reducible refine Below.drew ?_) | (with_reducible refine Below.alloc ?_ ?_ _) | (with_reducible refine Below.setCell ?_ ?_ _) | go_size))⟩
        · have hxy : neB x y = false := by assumption
          go_roundw
          case rel => exact ⟨k + 1, by omega, by go_num, fun i h h1 h2 => (by
            rcases Nat.lt_succ_iff_lt_or_eq.1 h with h | rfl
            · exact HE.out i h h1 h2
            · rw [← HX.out, ← HY.out]; exact neB_false hxy), (by repeat' (first | (with_reducible exact Below.refl _ _) | (with_reducible assumption) | (with_reducible refine below_drewN ?_ _) | (with_reducible refine Below.drew ?_) | (with_reducible refine Below.alloc ?_ ?_ _) | (with_reducible refine Below.setCell ?_ ?_ _) | go_size))⟩
          case measure => simp [intOf]; omega
      · obtain rfl : k = l.length := by omega
        clear hc hc' h h'
        go_wp2
        go_ret
        exact ⟨ret_bool (by
          symm
          simp only [decide_eq_true_eq]
          exact List.ext_getElem HL.out fun i h1 h2 => HE.out i h1 h1 h2), (by repeat' (first | (with_reducible exact Below.refl _ _) | (with_reducible assumption) | (with_reducible refine below_drewN ?_ _) | (with_reducible refine Below.drew ?_) | (with_reducible refine Below.alloc ?_ ?_ _) | (with_reducible refine Below.setCell ?_ ?_ _) | go_size))⟩
  · have HL : Hid (decide (l = l') = false) := by
      show _ = _
      simp only [decide_eq_false_iff_not]; intro e; exact hl (by rw [e])
    have HT : ((l.length : Int) != l'.length) = true := by simp; omega
    clear hl
    go_enter Try.func21, Try.ntmps21
    go_wp2
    go_ret
    exact ⟨ret_bool HL.out.symm, (by repeat' (first | (with_reducible exact Below.refl _ _) | (with_reducible assumption) | (with_reducible refine below_drewN ?_ _) | (with_reducible refine Below.drew ?_) | (with_reducible refine Below.alloc ?_ ?_ _) | (with_reducible refine Below.setCell ?_ ?_ _) | go_size))⟩

theorem eqlVal (x y : Int × Int) (w : World) : (binOp .eql 23 (.agg #[.int .i64 x.1, .int .i64 x.2]) (.agg #[.int .i64 y.1, .int .i64 y.2])).run Try.prog w = .ok (.bool (eqB x y)) w := by
  obtain ⟨a, b⟩ := x; obtain ⟨c, d⟩ := y
  by_cases h1 : a = c <;> by_cases h2 : b = d <;> simp [go_sem, eqB, h1, h2]

set_option maxHeartbeats 1000000 in
theorem sameFrame_true (fn at_ tw gen sk sn : Int) (A1 A2 A3 A4 : Option Addr) (n1 c1 n2 c2 n3 c3 n4 c4 b1 b2 b3 b4 B : Nat) (regs tries : List (Int × Int)) (w : World) (hB : B ≤ w.heap.size)
    (h1 : Has w B (.slice b1 VAL) [.slice A1 n1 c1] regs) (h2 : Has w B (.slice b2 VAL) [.slice A2 n2 c2] tries) (h3 : Has w B (.slice b3 VAL) [.slice A3 n3 c3] regs) (h4 : Has w B (.slice b4 VAL) [.slice A4 n4 c4] tries) :
    Calls Try.prog 9 #[.agg #[.int .i64 fn, .int .i64 at_, .int .i64 tw, .int .i64 gen, .int .i64 sk, .int .i64 sn, .slice A1 n1 c1, .slice A2 n2 c2], .agg #[.int .i64 fn, .int .i64 at_, .int .i64 tw, .int .i64 gen, .int .i64 sk, .int .i64 sn, .slice A3 n3 c3, .slice A4 n4 c4]] w
      fun e w' => e = .returned (.bool true) ∧ Below w.heap.size w w' := by
  go_enter Try.func9, Try.ntmps9
  go_wp2_with (first | (go_at_call 14; refine (eqVal_any A1 A3 n1 c1 n3 c3 b1 b3 B regs regs _ (by go_size) (h1.below (by repeat' (first | (with_reducible exact Below.refl _ _) | (with_reducible assumption) | (with_reducible refine below_drewN ?_ _) | (with_reducible refine Below.drew ?_) | (with_reducible refine Below.alloc ?_ ?_ _) | (with_reducible refine Below.setCell ?_ ?_ _) | go_size)) (Nat.le_refl _)) (h3.below (by repeat' (first | (with_reducible exact Below.refl _ _) | (with_reducible assumption) | (with_reducible refine below_drewN ?_ _) | (with_reducible refine Below.drew ?_) | (with_reducible refine Below.alloc ?_ ?_ _) | (with_reducible refine Below.setCell ?_ ?_ _) | go_size)) (Nat.le_refl _))).mono ?_; rintro e w1 ⟨rfl, hbw⟩; have hB1 := below_call (B := w.heap.size) (w := w) hbw (by repeat' (first | (with_reducible exact Below.refl _ _) | (with_reducible assumption) | (with_reducible refine below_drewN ?_ _) | (with_reducible refine Below.drew ?_) | (with_reducible refine Below.alloc ?_ ?_ _) | (with_reducible refine Below.setCell ?_ ?_ _) | go_size)) (by go_size); have hBB := below_call (B := B) (w := w) hbw (by repeat' (first | (with_reducible exact Below.refl _ _) | (with_reducible assumption) | (with_reducible refine below_drewN ?_ _) | (with_reducible refine Below.drew ?_) | (with_reducible refine Below.alloc ?_ ?_ _) | (with_reducible refine Below.setCell ?_ ?_ _) | go_size)) (by go_size); obtain ⟨hc, _, _⟩ := bcell hbw; have hq : decide (regs = regs) = true := (by simp); have hz0 : w.heap.size + 1 < w1.heap.size := (by have := hbw.size; simp at this; omega); clear hbw) | (go_at_call 21; refine (eqTry_any A2 A4 n2 c2 n4 c4 b2 b4 B tries tries _ (by have := hB1.size; omega) (h2.below hBB (Nat.le_refl _)) (h4.below hBB (Nat.le_refl _))).mono ?_; rintro e w2 ⟨rfl, hbw⟩; have hB2 := below_call (B := w.heap.size) (w := w) hbw hB1 (by have := hB1.size; omega); have hq2 : decide (tries = tries) = true := (by simp); clear hbw))
  go_ret
  exact ⟨rfl, hB2⟩
end Go.Proofs.Ytbomhdgodiojhaa
