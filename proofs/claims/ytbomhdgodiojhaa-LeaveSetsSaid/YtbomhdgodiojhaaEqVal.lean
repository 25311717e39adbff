/-
  R.Eq over lists of two-number structs.
-/
import Derived.Test.YtbomhdgodiojhaaBase
import Derived.Lib.QuietBelow
namespace Go.Proofs.Ytbomhdgodiojhaa
open Go.RowKit Go.Sort
set_option linter.unusedVariables false
set_option linter.unusedSimpArgs false

theorem Has.two_wf {w : World} {B by_ : Nat} {k1 k2 : IntKind} {A : Option Addr} {n cap : Nat} {l : List (Int × Int)} (h : Has w B (.slice by_ (.prod (.int k1) (.int k2))) [.slice A n cap] l) :
    ∀ i (hi : i < l.length), (Lit.int k1 l[i].1).wf = true ∧ (Lit.int k2 l[i].2).wf = true := by
  obtain ⟨A', cap', he, h1, h2, h3, h4⟩ := h
  intro i hi
  obtain ⟨b, off, rfl, hb, hc⟩ := h4 (by intro e; simp [e] at hi)
  obtain ⟨ecs, hl, hcell, c, d, _, ⟨_, h5⟩, _, h6⟩ := hc i hi
  exact ⟨h5, h6⟩

/-- A slice of two-cell elements, index by index. -/
theorem Has.two {w : World} {B by_ : Nat} {k1 k2 : IntKind} {A : Option Addr} {n cap : Nat} {l : List (Int × Int)} (h : Has w B (.slice by_ (.prod (.int k1) (.int k2))) [.slice A n cap] l) :
    n = l.length ∧ n ≤ cap ∧ cap ≤ maxLen ∧ ∀ i (hi : i < l.length), ∃ b off, A = some ⟨b, off, none⟩ ∧ b < B ∧ w.cell? ⟨b, off + i * 2, none⟩ = some (.int k1 l[i].1) ∧ w.cell? ⟨b, off + i * 2 + 1, none⟩ = some (.int k2 l[i].2) := by
  obtain ⟨A', cap', he, h1, h2, h3, h4⟩ := h
  simp only [List.cons.injEq, Value.slice.injEq, and_true] at he
  obtain ⟨rfl, rfl, rfl⟩ := he
  refine ⟨rfl, h1, h2, fun i hi => ?_⟩
  obtain ⟨b, off, rfl, hb, hc⟩ := h4 (by intro e; simp [e] at hi)
  obtain ⟨ecs, hl, hcell, hh⟩ := hc i hi
  obtain ⟨c, d, rfl, ⟨rfl, _⟩, rfl, _⟩ := hh
  have a0 := hcell 0 (by simp)
  have a1 := hcell 1 (by simp)
  exact ⟨b, off, rfl, hb, by simpa using a0, by simpa using a1⟩

theorem neqVal (x y : Int × Int) (w : World) : (binOp .neq 23 (.agg #[.int .i64 x.1, .int .i64 x.2]) (.agg #[.int .i64 y.1, .int .i64 y.2])).run Try.prog w = .ok (.bool (neB x y)) w := by
  obtain ⟨a, b⟩ := x; obtain ⟨c, d⟩ := y
  by_cases h1 : a = c <;> by_cases h2 : b = d <;> simp [go_sem, neB, h1, h2]

def eqTo (l l' : List (Int × Int)) (k : Nat) : Prop := ∀ i (h : i < k) (h1 : i < l.length) (h2 : i < l'.length), l[i] = l'[i]

set_option maxHeartbeats 1000000 in
theorem eqVal_any (A A' : Option Addr) (n c n' c' b1 b2 B : Nat) (l l' : List (Int × Int)) (w : World) (hB : B ≤ w.heap.size)
    (h : Has w B (.slice b1 (.prod (.int .i64) (.int .i64))) [.slice A n c] l) (h' : Has w B (.slice b2 (.prod (.int .i64) (.int .i64))) [.slice A' n' c'] l') :
    Calls Try.prog 14 #[.slice A n c, .slice A' n' c'] w fun e w' => e = .returned (.bool (decide (l = l'))) ∧ Below w.heap.size w w' := by
  obtain ⟨rfl, hlc, hm, hc⟩ := h.two
  obtain ⟨rfl, hlc', hm', hc'⟩ := h'.two
  unfold maxLen at hm hm'
  by_cases hl : l.length = l'.length
  · have HL : Hid (l.length = l'.length) := hl
    have HT : ((l.length : Int) != l'.length) = false := by simp [hl]
    clear hl
    go_enter Try.func14, Try.ntmps14
    go_wp2
    go_loopw [14] (fun i wr => ∃ k : Nat, k ≤ l.length ∧ i = .int .i64 k ∧ eqTo l l' k ∧ Below w.heap.size w wr) (fun i _ => l.length - (intOf i).toNat)
    case atStart => exact ⟨0, Nat.zero_le _, rfl, fun i h => absurd h (by omega), Below.refl _ _⟩
    case round =>
      obtain ⟨k, hk, rfl, HE, hb⟩ := hrel
      have HE := Lib.hid HE
      by_cases hlt : k < l.length
      · have hlt' : k < l'.length := by rw [← HL.out]; exact hlt
        obtain ⟨b, off, rfl, hbB, hx, hy⟩ := hc k hlt
        obtain ⟨b', off', rfl, hbB', hx', hy'⟩ := hc' k hlt'
        have hx := (hb.cell (p := ⟨b, off + k * 2, none⟩) (Nat.lt_of_lt_of_le hbB hB)).trans hx
        have hy := (hb.cell (p := ⟨b, off + k * 2 + 1, none⟩) (Nat.lt_of_lt_of_le hbB hB)).trans hy
        have hx' := (hb.cell (p := ⟨b', off' + k * 2, none⟩) (Nat.lt_of_lt_of_le hbB' hB)).trans hx'
        have hy' := (hb.cell (p := ⟨b', off' + k * 2 + 1, none⟩) (Nat.lt_of_lt_of_le hbB' hB)).trans hy'
        obtain ⟨x, ex⟩ : ∃ x, x = l[k] := ⟨_, rfl⟩
        obtain ⟨y, ey⟩ : ∃ y, y = l'[k] := ⟨_, rfl⟩
        rw [← ex] at hx hy
        rw [← ey] at hx' hy'
        have HX := Lib.hid ex
        have HY := Lib.hid ey
        clear ex ey hc hc' h h'
        have hsz := hb.size
        have hz1 : b < wr.heap.size := by omega
        have hz2 : b' < wr.heap.size := by omega
        have hi1 : (k : Int) < (l'.length : Int) := by omega
        have hi0 : (0 : Int) ≤ (k : Int) := by omega
        have hne := neqVal x y
        go_wp2
        go_quiet (fail)
        go_wp2
        · have hne : neB x y = true := by assumption
          go_ret
          exact ⟨ret_bool (by
            symm
            simp only [decide_eq_false_iff_not]
            intro e
            apply neB_true hne
            rw [HX.out, HY.out]
            subst e
            rfl), (by repeat' (first | (with_reducible exact Below.refl _ _) | (with_reducible assumption) | (with_reducible refine below_drewN ?_ _) | (with_reducible refine Below.drew ?_) | (with_reducible refine Below.alloc ?_ ?_ _) | (with_reducible refine Below.setCell ?_ ?_ _) | go_size))⟩
        · have hxy : neB x y = false := by assumption
          go_roundw
          case rel => exact ⟨k + 1, by omega, by go_num, fun i h h1 h2 => (by
            rcases Nat.lt_succ_iff_lt_or_eq.1 h with h | rfl
            · exact HE.out i h h1 h2
            · rw [← HX.out, ← HY.out]; exact neB_false hxy), (by repeat' (first | (with_reducible exact Below.refl _ _) | (with_reducible assumption) | (with_reducible refine below_drewN ?_ _) | (with_reducible refine Below.drew ?_) | (with_reducible refine Below.alloc ?_ ?_ _) | (with_reducible refine Below.setCell ?_ ?_ _) | go_size))⟩
          case measure => simp [intOf]; omega
      · obtain rfl : k = l.length := by omega
        clear hc hc' h h'
        go_wp2
        go_ret
        exact ⟨ret_bool (by
          symm
          simp only [decide_eq_true_eq]
          exact List.ext_getElem HL.out fun i h1 h2 => HE.out i h1 h1 h2), (by repeat' (first | (with_reducible exact Below.refl _ _) | (with_reducible assumption) | (with_reducible refine below_drewN ?_ _) | (with_reducible refine Below.drew ?_) | (with_reducible refine Below.alloc ?_ ?_ _) | (with_reducible refine Below.setCell ?_ ?_ _) | go_size))⟩
  · have HL : Hid (decide (l = l') = false) := by
      show _ = _
      simp only [decide_eq_false_iff_not]; intro e; exact hl (by rw [e])
    have HT : ((l.length : Int) != l'.length) = true := by simp; omega
    clear hl
    go_enter Try.func14, Try.ntmps14
    go_wp2
    go_ret
    exact ⟨ret_bool HL.out.symm, (by repeat' (first | (with_reducible exact Below.refl _ _) | (with_reducible assumption) | (with_reducible refine below_drewN ?_ _) | (with_reducible refine Below.drew ?_) | (with_reducible refine Below.alloc ?_ ?_ _) | (with_reducible refine Below.setCell ?_ ?_ _) | go_size))⟩
end Go.Proofs.Ytbomhdgodiojhaa
