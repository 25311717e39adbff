/-
  'StoreNeeds' in ZM.
-/
import Derived.Test.YtiiefcbiemohhaaMrV18
namespace Go.Proofs.Ytiiefcbiemohhaa
open Go Go.RowKit
set_option linter.unusedVariables false
set_option linter.unusedSimpArgs false
abbrev Dd := Int × Int × Int × Int
abbrev eD (d : Dd) : List ZV := [Z64 d.1, Z64 d.2.1, Z64 d.2.2.1, Z64 d.2.2.2]
def I64B (x : Int) : Prop := -9223372036854775808 ≤ x ∧ x ≤ 9223372036854775807
theorem dd_cut {α : Type} {e : α → List ZV} {k n : Nat} {ex : Bool} {l : List α} (h : n ≤ l.length) : ∃ ex2, ∀ H, cutZ H k 0 n l.length false (.fz k ex (l.map e)) = some (.fz k ex2 ((l.take n).map e)) := by
 by_cases hl : l = []
 ·subst hl
  have : n = 0 := by simpa using h
  subst this
  exact ⟨false, fun H => by simp [cutZ]⟩
 ·refine ⟨(ex || false) && n == l.length, fun H => ?_⟩
  simp only [cutZ]
  rw [if_pos ⟨trivial, Nat.zero_le _, h, by simp⟩, if_neg (by simpa using hl)]
  simp only [List.drop_zero, Nat.sub_zero, List.map_take]
theorem best_min {n m : Nat} : bestZ false (Z64 (n : Nat)) [Z64 (m : Nat)] = some (Z64 ((min n m : Nat) : Int)) := by
 simp only [bestZ]
 by_cases h : m < n
 ·rw [show min n m = m by omega]
  have : ((m : Nat) : Int) < ((n : Nat) : Int) := by omega
  simp [this]
 ·rw [show min n m = n by omega]
  have : ¬ ((m : Nat) : Int) < ((n : Nat) : Int) := by omega
  simp [this]
def valAt (vals : List (Int × Int)) (k : Nat) : Int × Int := vals.getD k (0, 0)
theorem valAt_b {vals : List (Int × Int)} (h : ∀ x ∈ vals, I64B x.2) (k : Nat) : I64B (valAt vals k).2 := by
 unfold valAt
 rw [List.getD_eq_getElem?_getD]
 cases hx : vals[k]? with
 | none => simp [I64B]
 | some x => exact h x (List.mem_of_getElem? hx)
def NdI (H0 : ZH) (p : Nat) (h' : ZH) : Prop := ∃ σ A u, StO h' p σ A u ∧ LI H0 h' p σ
end Go.Proofs.Ytiiefcbiemohhaa

namespace Go.Proofs.Ytiiefcbiemohhaa
open Go Go.RowKit Go.ChangeShapes Go.WideShapes Go.ChangeAt
set_option linter.unusedVariables false
set_option linter.unusedSimpArgs false
theorem dd_bound {by_ : Nat} {l : List Dd} (h : TOk (.slice by_ (.prod (.int .i64) (.prod (.int .i64) (.prod (.int .i64) (.int .i64))))) l) : ∀ d ∈ l, I64B d.2.2.2 := fun d hd => i64_bounds (h.2 d hd).2.2.2
theorem vv_bound {by_ : Nat} {l : List (Int × Int)} (h : TOk (.slice by_ (.prod (.int .i64) (.int .i64))) l) : ∀ x ∈ l, I64B x.2 := fun d hd => i64_bounds (h.2 d hd).2
end Go.Proofs.Ytiiefcbiemohhaa
