/-
  AM's code of functions, written by am/amprint.lean.
-/
import Derived.KernelRfl
import Derived.Lib.Hide
import Derived.Test.YtpeagenjmmkohaaMrA4
import Derived.Test.YtpeagenjmmkohaaMrA6
namespace Go.Proofs.Ytpeagenjmmkohaa
open Go Go.RowKit
set_option linter.unusedVariables false
/-- backstitch/backstitchref3.Copy[int]: its code in AM. -/
def c_r_copyint : ACode := .seq (.ops [⟨(some 2), .mv (.av (.val (.slice none 0 0))), none, true⟩])
  (.seq (.ops [⟨(some 3), .mv (.tmp 0), none, true⟩,
      ⟨(some 4), .append 1 8 (.av (.val (.slice none 0 0))) (.tmp 3), none, true⟩,
      ⟨(some 2), .mv (.tmp 4), none, true⟩])
  (.ret))
/-- backstitch/backstitchref3.Copy[backstitch/api.RPair]: its code in AM. -/
def c_r_copypair : ACode := .seq (.ops [⟨(some 2), .mv (.av (.val (.slice none 0 0))), none, true⟩])
  (.seq (.ops [⟨(some 3), .mv (.tmp 0), none, true⟩,
      ⟨(some 4), .append 2 16 (.av (.val (.slice none 0 0))) (.tmp 3), none, true⟩,
      ⟨(some 2), .mv (.tmp 4), none, true⟩])
  (.ret))
/-- backstitch/backstitchref3.Has[int]: its code in AM. -/
def c_r_hasint : ACode := .seq (.ops [⟨(some 4), .mv (.av (.val (.bool false))), none, true⟩])
  (.seq (.seq (.ops [⟨(some 7), .mv (.tmp 0), none, true⟩,
      ⟨(some 8), .len (.tmp 7), none, true⟩,
      ⟨(some 9), .mv (.av (.val (.int .i64 0))), none, true⟩])
  (rangeCode 0 1 10 9 8 16
    (.seq (.ops [⟨(some 11), .indexAddr 1 (.tmp 7) (.tmp 9), none, true⟩,
        ⟨(some 12), .load none (.tmp 11), none, true⟩,
        ⟨(some 6), .mv (.tmp 12), none, true⟩])
    (.seq (.ops [⟨(some 13), .mv (.tmp 1), none, true⟩,
        ⟨(some 14), .mv (.tmp 6), none, true⟩,
        ⟨(some 15), .bin .eql (.tmp 13) (.tmp 14), none, true⟩])
    (.cond (.tmp 15)
      (.seq (.ops [⟨(some 4), .mv (.av (.val (.bool true))), none, true⟩])
      (.ret))
      (.skip))))))
  (.seq (.ops [⟨(some 4), .mv (.av (.val (.bool false))), none, true⟩])
  (.ret)))
theorem f_r_hasint : cFunc Try.prog 16 = some ⟨17, c_r_hasint, [.tmp 4]⟩ := by kernel_rfl
/-- backstitch/backstitchref3.Eq[int]: its code in AM. -/
def c_r_eqint : ACode := .seq (.ops [⟨(some 4), .mv (.av (.val (.bool false))), none, true⟩])
  (.seq (.seq (.ops [⟨(some 7), .mv (.tmp 0), none, true⟩,
      ⟨(some 8), .len (.tmp 7), none, true⟩,
      ⟨(some 9), .mv (.tmp 1), none, true⟩,
      ⟨(some 10), .len (.tmp 9), none, true⟩,
      ⟨(some 11), .bin .neq (.tmp 8) (.tmp 10), none, true⟩])
  (.cond (.tmp 11)
    (.seq (.ops [⟨(some 4), .mv (.av (.val (.bool false))), none, true⟩])
    (.ret))
    (.skip)))
  (.seq (.seq (.ops [⟨(some 12), .mv (.tmp 0), none, true⟩,
      ⟨(some 13), .len (.tmp 12), none, true⟩,
      ⟨(some 14), .mv (.av (.val (.int .i64 0))), none, true⟩])
  (rangeCode 0 1 15 14 13 25
    (.seq (.ops [⟨(some 16), .mv (.tmp 14), none, true⟩,
        ⟨(some 17), .indexAddr 1 (.tmp 12) (.tmp 14), none, true⟩,
        ⟨(some 18), .load none (.tmp 17), none, true⟩,
        ⟨(some 5), .mv (.tmp 16), none, true⟩,
        ⟨(some 6), .mv (.tmp 18), none, true⟩])
    (.seq (.ops [⟨(some 19), .mv (.tmp 6), none, true⟩,
        ⟨(some 20), .mv (.tmp 1), none, true⟩,
        ⟨(some 21), .mv (.tmp 5), none, true⟩,
        ⟨(some 22), .indexAddr 1 (.tmp 20) (.tmp 21), none, true⟩,
        ⟨(some 23), .load none (.tmp 22), none, true⟩,
        ⟨(some 24), .bin .neq (.tmp 19) (.tmp 23), none, true⟩])
    (.cond (.tmp 24)
      (.seq (.ops [⟨(some 4), .mv (.av (.val (.bool false))), none, true⟩])
      (.ret))
      (.skip))))))
  (.seq (.ops [⟨(some 4), .mv (.av (.val (.bool true))), none, true⟩])
  (.ret))))
theorem f_r_eqint : cFunc Try.prog 19 = some ⟨26, c_r_eqint, [.tmp 4]⟩ := by kernel_rfl
/-- backstitch/backstitchkeep3.WeakLeast$1: its code in AM. -/
def c_l_weakleast1 : ACode := .seq (.ops [⟨(some 4), .mv (.av (.val (.bool false))), none, true⟩])
  (.seq (.seq (.ops [⟨(some 13), .fieldAddr 1 (.tmp 1), none, true⟩,
      ⟨(some 14), .load none (.tmp 13), none, true⟩,
      ⟨(some 15), .len (.tmp 14), none, true⟩,
      ⟨(some 16), .mv (.av (.val (.int .i64 0))), none, true⟩])
  (rangeCode 0 1 17 16 15 25
    (.seq (.ops [⟨(some 18), .indexAddr 1 (.tmp 14) (.tmp 16), none, true⟩,
        ⟨(some 19), .load none (.tmp 18), none, true⟩,
        ⟨(some 6), .mv (.tmp 19), none, true⟩])
    (.seq (.ops [⟨(some 20), .mv (.tmp 0), none, true⟩,
        ⟨(some 21), .mv (.tmp 6), none, true⟩,
        ⟨(some 22), .indexAddr 1 (.tmp 20) (.tmp 21), none, true⟩,
        ⟨(some 23), .load none (.tmp 22), none, true⟩,
        ⟨(some 24), .un .not (.tmp 23), none, true⟩])
    (.cond (.tmp 24)
      (.seq (.ops [⟨(some 4), .mv (.av (.val (.bool false))), none, true⟩])
      (.ret))
      (.skip))))))
  (.seq (.seq (.ops [⟨(some 26), .fieldAddr 0 (.tmp 1), none, true⟩,
      ⟨(some 27), .load none (.tmp 26), none, true⟩,
      ⟨(some 28), .len (.tmp 27), none, true⟩,
      ⟨(some 29), .mv (.av (.val (.int .i64 0))), none, true⟩])
  (rangeCode 2 3 30 29 28 52
    (.seq (.ops [⟨(some 31), .mv (.tmp 29), none, true⟩,
        ⟨(some 32), .indexAddr 1 (.tmp 27) (.tmp 29), none, true⟩,
        ⟨(some 33), .load none (.tmp 32), none, true⟩,
        ⟨(some 7), .mv (.tmp 31), none, true⟩,
        ⟨(some 8), .mv (.tmp 33), none, true⟩])
    (.seq (.ops [⟨(some 34), .mv (.tmp 8), none, true⟩,
        ⟨(some 35), .len (.tmp 34), none, true⟩,
        ⟨(some 36), .mv (.av (.val (.int .i64 0))), none, true⟩])
    (rangeCode 4 5 37 36 35 51
      (.seq (.ops [⟨(some 38), .indexAddr 1 (.tmp 34) (.tmp 36), none, true⟩,
          ⟨(some 39), .load none (.tmp 38), none, true⟩,
          ⟨(some 10), .mv (.tmp 39), none, true⟩])
      (.seq (.ops [⟨(some 40), .mv (.tmp 0), none, true⟩,
          ⟨(some 41), .mv (.tmp 7), none, true⟩,
          ⟨(some 42), .indexAddr 1 (.tmp 40) (.tmp 41), none, true⟩,
          ⟨(some 43), .load none (.tmp 42), none, true⟩,
          ⟨(some 44), .mv (.tmp 43), none, true⟩,
          ⟨(some 45), .mv (.tmp 0), (some (44, true)), true⟩,
          ⟨(some 46), .mv (.tmp 10), (some (44, true)), true⟩,
          ⟨(some 47), .indexAddr 1 (.tmp 45) (.tmp 46), (some (44, true)), true⟩,
          ⟨(some 48), .load none (.tmp 47), (some (44, true)), true⟩,
          ⟨(some 49), .un .not (.tmp 48), (some (44, true)), true⟩,
          ⟨(some 50), .pick (.tmp 44) (.tmp 49) (.av (.val (.bool false))), none, true⟩])
      (.cond (.tmp 50)
        (.seq (.ops [⟨(some 4), .mv (.av (.val (.bool false))), none, true⟩])
        (.ret))
        (.skip)))))))))
  (.seq (.seq (.ops [⟨(some 53), .load none (.tmp 2), none, true⟩,
      ⟨(some 54), .len (.tmp 53), none, true⟩,
      ⟨(some 55), .mv (.av (.val (.int .i64 0))), none, true⟩])
  (rangeCode 6 7 56 55 54 72
    (.seq (.ops [⟨(some 57), .indexAddr 2 (.tmp 53) (.tmp 55), none, true⟩,
        ⟨(some 58), .load (some 2) (.tmp 57), none, true⟩,
        ⟨(some 12), .zero [(.val (.int .i64 0)), (.val (.int .i64 0))], none, true⟩,
        ⟨none, .store 2 (.tmp 12) (.tmp 58), none, true⟩])
    (.seq (.ops [⟨(some 59), .mv (.tmp 0), none, true⟩,
        ⟨(some 60), .fieldAddr 0 (.tmp 12), none, true⟩,
        ⟨(some 61), .load none (.tmp 60), none, true⟩,
        ⟨(some 62), .indexAddr 1 (.tmp 59) (.tmp 61), none, true⟩,
        ⟨(some 63), .load none (.tmp 62), none, true⟩,
        ⟨(some 64), .mv (.tmp 63), none, true⟩,
        ⟨(some 65), .mv (.tmp 0), (some (64, true)), true⟩,
        ⟨(some 66), .fieldAddr 1 (.tmp 12), (some (64, true)), true⟩,
        ⟨(some 67), .load none (.tmp 66), (some (64, true)), true⟩,
        ⟨(some 68), .indexAddr 1 (.tmp 65) (.tmp 67), (some (64, true)), true⟩,
        ⟨(some 69), .load none (.tmp 68), (some (64, true)), true⟩,
        ⟨(some 70), .un .not (.tmp 69), (some (64, true)), true⟩,
        ⟨(some 71), .pick (.tmp 64) (.tmp 70) (.av (.val (.bool false))), none, true⟩])
    (.cond (.tmp 71)
      (.seq (.ops [⟨(some 4), .mv (.av (.val (.bool false))), none, true⟩])
      (.ret))
      (.skip))))))
  (.seq (.ops [⟨(some 4), .mv (.av (.val (.bool true))), none, true⟩])
  (.ret)))))
/-- backstitch/weak.Rising: its code in AM. -/
def c_wk_rising : ACode := .seq (.ops [⟨(some 2), .mv (.av (.val (.slice none 0 0))), none, true⟩])
  (.seq (.ops [⟨(some 3), .mv (.av (.val (.slice none 0 0))), none, true⟩])
  (.seq (.seq (.ops [⟨(some 6), .mv (.tmp 0), none, true⟩,
      ⟨(some 7), .len (.tmp 6), none, true⟩,
      ⟨(some 8), .mv (.av (.val (.int .i64 0))), none, true⟩])
  (rangeCode 0 1 9 8 7 18
    (.seq (.ops [⟨(some 10), .mv (.tmp 8), none, true⟩,
        ⟨(some 11), .indexAddr 1 (.tmp 6) (.tmp 8), none, true⟩,
        ⟨(some 12), .load none (.tmp 11), none, true⟩,
        ⟨(some 4), .mv (.tmp 10), none, true⟩,
        ⟨(some 5), .mv (.tmp 12), none, true⟩])
    (.seq (.ops [⟨(some 13), .mv (.tmp 5), none, true⟩])
    (.cond (.tmp 13)
      (.ops [⟨(some 14), .mv (.tmp 3), none, true⟩,
          ⟨(some 15), .mv (.tmp 4), none, true⟩,
          ⟨(some 16), .lits 1 1 [(.val (.int .i64 0))] [(0, 1, (.tmp 15))], none, true⟩,
          ⟨(some 17), .append 1 8 (.tmp 14) (.tmp 16), none, true⟩,
          ⟨(some 3), .mv (.tmp 17), none, true⟩])
      (.skip))))))
  (.seq (.ops [⟨(some 19), .mv (.tmp 3), none, true⟩,
      ⟨(some 2), .mv (.tmp 19), none, true⟩])
  (.ret))))
/-- backstitch/weak.From: its code in AM. -/
def c_wk_from : ACode := .seq (.ops [⟨(some 2), .box 2 (.tmp 0), none, true⟩,
      ⟨(some 4), .mv (.av (.val (.slice none 0 0))), none, true⟩])
  (.seq (.ops [⟨(some 6), .load (some 2) (.tmp 2), none, true⟩,
      ⟨(some 7), .fieldAddr 0 (.tmp 2), none, true⟩,
      ⟨(some 8), .load none (.tmp 7), none, true⟩,
      ⟨(some 9), .len (.tmp 8), none, true⟩,
      ⟨(some 10), .mkSlice 1 1 [(.val (.bool false))] (.tmp 9) (.tmp 9), none, true⟩,
      ⟨(some 11), .build [(.val (.slice none 0 0)), (.val (.slice none 0 0)), (.val (.slice none 0 0)), (.val (.slice none 0 0))] [(0, 2, (.tmp 6)), (2, 1, (.tmp 10))], none, true⟩,
      ⟨(some 12), .box 4 (.tmp 11), none, true⟩,
      ⟨(some 5), .mv (.tmp 12), none, true⟩])
  (.seq (.ops [⟨(some 13), .mv (.tmp 5), none, true⟩,
      ⟨(some 14), .mv (.tmp 1), none, true⟩,
      ⟨(some 15), .call (.av (.func 62 [])) [(.tmp 13), (.tmp 14)], none, true⟩])
  (.seq (.ops [⟨(some 16), .mv (.tmp 5), none, true⟩,
      ⟨(some 17), .call (.av (.func 63 [])) [(.tmp 16)], none, true⟩])
  (.seq (.ops [⟨(some 18), .mv (.tmp 5), none, true⟩,
      ⟨(some 19), .nilCheck (.tmp 18), none, true⟩,
      ⟨(some 20), .fieldAddr 2 (.tmp 19), none, true⟩,
      ⟨(some 21), .load none (.tmp 20), none, true⟩,
      ⟨(some 4), .mv (.tmp 21), none, true⟩])
  (.ret)))))
theorem f_wk_from : cFunc Try.prog 53 = some ⟨22, c_wk_from, [.tmp 4]⟩ := by kernel_rfl
/-- backstitch/weak.in: its code in AM. -/
def c_wk_in : ACode := .seq (.ops [⟨(some 4), .mv (.av (.val (.bool false))), none, true⟩])
  (.seq (.ops [⟨(some 5), .mv (.tmp 0), none, true⟩,
      ⟨(some 6), .bin .geq (.tmp 5) (.av (.val (.int .i64 0))), none, true⟩,
      ⟨(some 7), .mv (.tmp 6), none, true⟩,
      ⟨(some 8), .mv (.tmp 0), (some (7, true)), true⟩,
      ⟨(some 9), .mv (.tmp 1), (some (7, true)), true⟩,
      ⟨(some 10), .bin .lss (.tmp 8) (.tmp 9), (some (7, true)), true⟩,
      ⟨(some 11), .pick (.tmp 7) (.tmp 10) (.av (.val (.bool false))), none, true⟩,
      ⟨(some 4), .mv (.tmp 11), none, true⟩])
  (.ret))
/-- (*backstitch/weak.reacher).reach: its code in AM. -/
def c_wk_reach : ACode := .seq (.ops [⟨(some 6), .mv (.tmp 1), none, true⟩,
      ⟨(some 7), .len (.tmp 6), none, true⟩,
      ⟨(some 8), .mv (.av (.val (.int .i64 0))), none, true⟩])
  (rangeCode 0 1 9 8 7 36
    (.seq (.ops [⟨(some 10), .indexAddr 1 (.tmp 6) (.tmp 8), none, true⟩,
        ⟨(some 11), .load none (.tmp 10), none, true⟩,
        ⟨(some 5), .mv (.tmp 11), none, true⟩])
    (.seq (.ops [⟨(some 12), .mv (.tmp 0), none, true⟩,
        ⟨(some 13), .nilCheck (.tmp 12), none, true⟩,
        ⟨(some 14), .fieldAddr 2 (.tmp 13), none, true⟩,
        ⟨(some 15), .load none (.tmp 14), none, true⟩,
        ⟨(some 16), .mv (.tmp 5), none, true⟩,
        ⟨(some 17), .indexAddr 1 (.tmp 15) (.tmp 16), none, true⟩,
        ⟨(some 18), .load none (.tmp 17), none, true⟩,
        ⟨(some 19), .un .not (.tmp 18), none, true⟩])
    (.cond (.tmp 19)
      (.seq (.ops [⟨(some 20), .mv (.tmp 0), none, true⟩,
          ⟨(some 21), .nilCheck (.tmp 20), none, true⟩,
          ⟨(some 22), .fieldAddr 2 (.tmp 21), none, true⟩,
          ⟨(some 23), .load none (.tmp 22), none, true⟩,
          ⟨(some 24), .mv (.tmp 5), none, true⟩,
          ⟨(some 25), .indexAddr 1 (.tmp 23) (.tmp 24), none, true⟩,
          ⟨none, .store 1 (.tmp 25) (.av (.val (.bool true))), none, true⟩])
      (.ops [⟨(some 26), .mv (.tmp 0), none, true⟩,
          ⟨(some 27), .mv (.tmp 0), none, true⟩,
          ⟨(some 28), .nilCheck (.tmp 27), none, true⟩,
          ⟨(some 29), .fieldAddr 3 (.tmp 28), none, true⟩,
          ⟨(some 30), .load none (.tmp 29), none, true⟩,
          ⟨(some 31), .mv (.tmp 5), none, true⟩,
          ⟨(some 32), .lits 1 1 [(.val (.int .i64 0))] [(0, 1, (.tmp 31))], none, true⟩,
          ⟨(some 33), .append 1 8 (.tmp 30) (.tmp 32), none, true⟩,
          ⟨(some 34), .nilCheck (.tmp 26), none, true⟩,
          ⟨(some 35), .fieldAddr 3 (.tmp 34), none, true⟩,
          ⟨none, .store 1 (.tmp 35) (.tmp 33), none, true⟩]))
      (.skip)))))
theorem f_wk_reach : cFunc Try.prog 62 = some ⟨37, c_wk_reach, []⟩ := by kernel_rfl
/-- (*backstitch/weak.reacher).all: its code in AM. -/
def c_wk_all : ACode := .block 0 (.loop (.seq (.seq (.ops [⟨(some 3), .mv (.tmp 0), none, true⟩,
        ⟨(some 4), .nilCheck (.tmp 3), none, true⟩,
        ⟨(some 5), .fieldAddr 3 (.tmp 4), none, true⟩,
        ⟨(some 6), .load none (.tmp 5), none, true⟩,
        ⟨(some 7), .len (.tmp 6), none, true⟩,
        ⟨(some 8), .bin .gtr (.tmp 7) (.av (.val (.int .i64 0))), none, true⟩])
    (.cond (.tmp 8)
      (.skip)
      (.exit 0)))
    (.block 1 (.seq (.ops [⟨(some 9), .mv (.tmp 0), none, true⟩,
         ⟨(some 10), .nilCheck (.tmp 9), none, true⟩,
         ⟨(some 11), .fieldAddr 3 (.tmp 10), none, true⟩,
         ⟨(some 12), .load none (.tmp 11), none, true⟩,
         ⟨(some 13), .mv (.tmp 0), none, true⟩,
         ⟨(some 14), .nilCheck (.tmp 13), none, true⟩,
         ⟨(some 15), .fieldAddr 3 (.tmp 14), none, true⟩,
         ⟨(some 16), .load none (.tmp 15), none, true⟩,
         ⟨(some 17), .len (.tmp 16), none, true⟩,
         ⟨(some 18), .bin .sub (.tmp 17) (.av (.val (.int .i64 1))), none, true⟩,
         ⟨(some 19), .indexAddr 1 (.tmp 12) (.tmp 18), none, true⟩,
         ⟨(some 20), .load none (.tmp 19), none, true⟩,
         ⟨(some 2), .mv (.tmp 20), none, true⟩])
     (.seq (.ops [⟨(some 21), .mv (.tmp 0), none, true⟩,
         ⟨(some 22), .mv (.tmp 0), none, true⟩,
         ⟨(some 23), .nilCheck (.tmp 22), none, true⟩,
         ⟨(some 24), .fieldAddr 3 (.tmp 23), none, true⟩,
         ⟨(some 25), .load none (.tmp 24), none, true⟩,
         ⟨(some 26), .mv (.tmp 0), none, true⟩,
         ⟨(some 27), .nilCheck (.tmp 26), none, true⟩,
         ⟨(some 28), .fieldAddr 3 (.tmp 27), none, true⟩,
         ⟨(some 29), .load none (.tmp 28), none, true⟩,
         ⟨(some 30), .len (.tmp 29), none, true⟩,
         ⟨(some 31), .bin .sub (.tmp 30) (.av (.val (.int .i64 1))), none, true⟩,
         ⟨(some 32), .slice 1 (.tmp 25) none (some (.tmp 31)) none, none, true⟩,
         ⟨(some 33), .nilCheck (.tmp 21), none, true⟩,
         ⟨(some 34), .fieldAddr 3 (.tmp 33), none, true⟩,
         ⟨none, .store 1 (.tmp 34) (.tmp 32), none, true⟩])
     (.ops [⟨(some 35), .mv (.tmp 0), none, true⟩,
         ⟨(some 36), .mv (.tmp 0), none, true⟩,
         ⟨(some 37), .nilCheck (.tmp 36), none, true⟩,
         ⟨(some 38), .fieldAddr 0 (.tmp 37), none, true⟩,
         ⟨(some 39), .fieldAddr 0 (.tmp 38), none, true⟩,
         ⟨(some 40), .load none (.tmp 39), none, true⟩,
         ⟨(some 41), .mv (.tmp 2), none, true⟩,
         ⟨(some 42), .indexAddr 1 (.tmp 40) (.tmp 41), none, true⟩,
         ⟨(some 43), .load none (.tmp 42), none, true⟩,
         ⟨(some 44), .call (.av (.func 62 [])) [(.tmp 35), (.tmp 43)], none, true⟩]))))))
theorem f_wk_all : cFunc Try.prog 63 = some ⟨45, c_wk_all, []⟩ := by kernel_rfl
end Go.Proofs.Ytpeagenjmmkohaa

namespace Go.Proofs.Ytpeagenjmmkohaa
open Go Go.RowKit
set_option linter.unusedVariables false
set_option linter.unusedSimpArgs false
variable {tb : List (FuncId × Bool)} {fl : Nat → Bool} {h : Heap} {K : AV → Heap → Prop}

instance (N : Nat) (x : Int) : Decidable (0 ≤ x ∧ x < (N : Int)) := inferInstanceAs (Decidable (_ ∧ _))
def checkE (has : List (List Int)) (roots : List Int) : Int :=
  if has.length > 100 ∨ roots.length > 100 then 2 else if ∃ l ∈ has, l.length > 10 then 2 else if ∀ l ∈ roots :: has, ∀ x ∈ l, 0 ≤ x ∧ x < (has.length : Int) then 0 else 3

/-- The first j of a list are in. -/
def PreIn (N : Nat) (l : List Int) (j : Nat) : Prop := ∀ i (hi : i < l.length), i < j → 0 ≤ l[i] ∧ l[i] < (N : Int)
theorem PreIn.zero {N : Nat} {l : List Int} : PreIn N l 0 := fun i _ h => absurd h (by omega)
theorem PreIn.succ {N : Nat} {l : List Int} {j : Nat} (h : PreIn N l j) (hj : j < l.length) (hx : 0 ≤ l[j] ∧ l[j] < (N : Int)) : PreIn N l (j + 1) := fun i hi hij => by
  by_cases e : i = j
  · subst e; exact hx
  · exact h i hi (by omega)
theorem PreIn.all {N : Nat} {l : List Int} (h : PreIn N l l.length) : ∀ x ∈ l, 0 ≤ x ∧ x < (N : Int) := fun x hx => by
  obtain ⟨i, hi, rfl⟩ := List.getElem_of_mem hx
  exact h i hi hi
/-- The first j lists are short. -/
def PreShort (ls : List (List Int)) (j : Nat) : Prop := ∀ i (hi : i < ls.length), i < j → ls[i].length ≤ 10
def PreAll (N : Nat) (ls : List (List Int)) (j : Nat) : Prop := ∀ i (hi : i < ls.length), i < j → ∀ x ∈ ls[i], 0 ≤ x ∧ x < (N : Int)
theorem PreAll.succ {N : Nat} {ls : List (List Int)} {j : Nat} (h : PreAll N ls j) (hj : j < ls.length) (hx : PreIn N ls[j] ls[j].length) : PreAll N ls (j + 1) := fun i hi hij => by
  by_cases e : i = j
  · subst e; exact hx.all
  · exact h i hi (by omega)
end Go.Proofs.Ytpeagenjmmkohaa

namespace Go.Proofs.Ytpeagenjmmkohaa
open Go Go.RowKit
set_option linter.unusedVariables false
set_option linter.unusedSimpArgs false

def step (s : List Bool × List Int) (n : Int) : List Bool × List Int := if s.1.getD n.toNat false = true then s else (s.1.set n.toNat true, s.2 ++ [n])
def reachL (s : List Bool × List Int) (l : List Int) : List Bool × List Int := l.foldl step s
def unseen (l : List Bool) : Nat := l.countP (fun b => !b)

theorem unseen_set {l : List Bool} {i : Nat} (hi : i < l.length) (h : l.getD i false = false) : unseen (l.set i true) + 1 = unseen l := by
  induction l generalizing i with
  | nil => simp at hi
  | cons b l ih =>
    cases i with
    | zero =>
      simp at h
      subst h
      simp [unseen]
    | succ i =>
      have := ih (i := i) (by simpa using hi) (by simpa using h)
      simp only [unseen, List.set_cons_succ, List.countP_cons] at *
      omega
theorem step_length (s : List Bool × List Int) (n : Int) : (step s n).1.length = s.1.length := by
  unfold step; split <;> simp
theorem step_bound (s : List Bool × List Int) (n : Int) (h : n.toNat < s.1.length) : (step s n).2.length + unseen (step s n).1 = s.2.length + unseen s.1 := by
  unfold step
  split
  · rfl
  · rename_i hn
    have := unseen_set h (by simpa using hn)
    simp
    omega

def Sn (l : List Bool) (n : Nat) : Prop := l.getD n false = true
/-- A set that has what its things have. -/
def Cl (has : List (List Int)) (P : Nat → Prop) : Prop := ∀ n, P n → ∀ k ∈ has.getD n [], P k.toNat
theorem Sn_set {l : List Bool} {i n : Nat} (hi : i < l.length) : Sn (l.set i true) n ↔ Sn l n ∨ n = i := by
  unfold Sn
  by_cases h : n = i
  · subst h; simp [hi]
  · simp [List.getElem?_set_ne (fun e => h e.symm), h]
theorem step_seen {s : List Bool × List Int} {x : Int} (hx : x.toNat < s.1.length) (n : Nat) : Sn (step s x).1 n ↔ Sn s.1 n ∨ n = x.toNat := by
  unfold step
  split
  · rename_i h
    constructor
    · exact .inl
    · rintro (h' | rfl)
      · exact h'
      · exact h
  · exact Sn_set hx
theorem step_todo {s : List Bool × List Int} {x : Int} (y : Int) : y ∈ (step s x).2 ↔ y ∈ s.2 ∨ (y = x ∧ ¬ Sn s.1 x.toNat) := by
  unfold step
  split
  · rename_i h
    constructor
    · exact .inl
    · rintro (h' | ⟨rfl, h'⟩)
      · exact h'
      · exact absurd h h'
  · rename_i h
    simp only [List.mem_append, List.mem_singleton]
    constructor
    · rintro (h' | rfl)
      · exact .inl h'
      · exact .inr ⟨rfl, h⟩
    · rintro (h' | ⟨rfl, _⟩)
      · exact .inl h'
      · exact .inr rfl
theorem reachL_length : ∀ (l : List Int) (s : List Bool × List Int), (reachL s l).1.length = s.1.length
  | [], s => rfl
  | x :: l, s => by
    have := reachL_length l (step s x)
    unfold reachL at *
    rw [List.foldl_cons, this, step_length]
theorem reachL_seen : ∀ (l : List Int) (s : List Bool × List Int), (∀ x ∈ l, x.toNat < s.1.length) → ∀ n, Sn (reachL s l).1 n ↔ Sn s.1 n ∨ ∃ x ∈ l, x.toNat = n
  | [], s, _, n => by simp [reachL]
  | x :: l, s, h, n => by
    have := reachL_seen l (step s x) (fun y hy => by rw [step_length]; exact h y (by simp [hy])) n
    unfold reachL at *
    rw [List.foldl_cons, this, step_seen (h x (by simp))]
    simp only [List.mem_cons, exists_eq_or_imp]
    constructor
    · rintro ((h1 | h1) | h1)
      · exact .inl h1
      · exact .inr (.inl h1.symm)
      · exact .inr (.inr h1)
    · rintro (h1 | h1 | h1)
      · exact .inl (.inl h1)
      · exact .inl (.inr h1.symm)
      · exact .inr h1
theorem reachL_todo : ∀ (l : List Int) (s : List Bool × List Int), (∀ x ∈ l, x.toNat < s.1.length) → (∀ y, y ∈ s.2 → y ∈ (reachL s l).2) ∧ (∀ y ∈ (reachL s l).2, y ∈ s.2 ∨ y ∈ l) ∧
    (∀ y ∈ l, ¬ Sn s.1 y.toNat → ∃ z ∈ (reachL s l).2, z.toNat = y.toNat)
  | [], s, _ => by simp [reachL]
  | x :: l, s, h => by
    obtain ⟨h1, h2, h3⟩ := reachL_todo l (step s x) (fun y hy => by rw [step_length]; exact h y (by simp [hy]))
    unfold reachL at *
    rw [List.foldl_cons]
    refine ⟨fun y hy => h1 y ((step_todo y).2 (.inl hy)), fun y hy => ?_, fun y hy hn => ?_⟩
    · rcases h2 y hy with h4 | h4
      · rcases (step_todo y).1 h4 with h5 | ⟨rfl, _⟩
        · exact .inl h5
        · exact .inr (by simp)
      · exact .inr (by simp [h4])
    · by_cases hx : y.toNat = x.toNat
      · by_cases hyx : y = x
        · subst hyx
          exact ⟨y, h1 y ((step_todo y).2 (.inr ⟨rfl, hn⟩)), rfl⟩
        · exact ⟨x, h1 x ((step_todo x).2 (.inr ⟨rfl, by rw [← hx]; exact hn⟩)), hx.symm⟩
      · rcases List.mem_cons.1 hy with rfl | hy
        · exact absurd rfl hx
        · refine h3 y hy ?_
          rw [step_seen (h x (by simp))]
          rintro (h4 | h4)
          · exact hn h4
          · exact hx h4

/-- What stays true while 'all' goes round: S0 is what was seen at its start. -/
structure AInv (has : List (List Int)) (S0 : Nat → Prop) (s : List Bool × List Int) : Prop where
  sup : ∀ n, S0 n → Sn s.1 n
  todo : ∀ x ∈ s.2, 0 ≤ x ∧ x < s.1.length ∧ Sn s.1 x.toNat
  closed : ∀ n, Sn s.1 n → (∃ x ∈ s.2, x.toNat = n) ∨ ∀ k ∈ has.getD n [], Sn s.1 k.toNat
  least : ∀ P, Cl has P → (∀ n, S0 n → P n) → ∀ n, Sn s.1 n → P n

def okHas (has : List (List Int)) (N : Nat) : Prop := has.length = N ∧ ∀ l ∈ has, ∀ x ∈ l, 0 ≤ x ∧ x < N
theorem okHas.at {has : List (List Int)} {N : Nat} (h : okHas has N) (n : Nat) : ∀ x ∈ has.getD n [], 0 ≤ x ∧ x < N := by
  intro x hx
  by_cases hn : n < has.length
  · rw [List.getD_eq_getElem?_getD, List.getElem?_eq_getElem hn] at hx
    exact h.2 _ (List.getElem_mem hn) x hx
  · rw [List.getD_eq_getElem?_getD, List.getElem?_eq_none (by omega)] at hx
    simp at hx

theorem AInv.next {has : List (List Int)} {S0 : Nat → Prop} {sb : List Bool} {td : List Int} {x : Int} (hh : okHas has sb.length) (h : AInv has S0 (sb, td ++ [x])) : AInv has S0 (reachL (sb, td) (has.getD x.toNat [])) := by
  have hr : ∀ y ∈ has.getD x.toNat [], y.toNat < (sb, td).1.length := fun y hy => by have := hh.at _ y hy; simp; omega
  have hs := reachL_seen (has.getD x.toNat []) (sb, td) hr
  obtain ⟨h1, h2, h3⟩ := reachL_todo (has.getD x.toNat []) (sb, td) hr
  have hxs := h.todo x (by simp)
  refine ⟨fun n hn => (hs n).2 (.inl (h.sup n hn)), fun y hy => ?_, fun n hn => ?_, fun P hP h0 n hn => ?_⟩
  · rw [reachL_length]
    rcases h2 y hy with h4 | h4
    · have := h.todo y (by simp at h4 ⊢; exact .inl h4)
      exact ⟨this.1, this.2.1, (hs _).2 (.inl this.2.2)⟩
    · have := hh.at _ y h4
      exact ⟨this.1, this.2, (hs _).2 (.inr ⟨y, h4, rfl⟩)⟩
  · rcases (hs n).1 hn with h4 | ⟨y, hy, rfl⟩
    · rcases h.closed n h4 with ⟨z, hz, rfl⟩ | h5
      · simp only [List.mem_append, List.mem_singleton] at hz
        rcases hz with hz | rfl
        · exact .inl ⟨z, h1 z hz, rfl⟩
        · exact .inr fun k hk => (hs _).2 (.inr ⟨k, hk, rfl⟩)
      · exact .inr fun k hk => (hs _).2 (.inl (h5 k hk))
    · by_cases hy2 : Sn sb y.toNat
      · rcases h.closed _ hy2 with ⟨z, hz, hzy⟩ | h5
        · simp only [List.mem_append, List.mem_singleton] at hz
          rcases hz with hz | rfl
          · exact .inl ⟨z, h1 z hz, hzy⟩
          · right
            rw [← hzy]
            exact fun k hk => (hs _).2 (.inr ⟨k, hk, rfl⟩)
        · exact .inr fun k hk => (hs _).2 (.inl (h5 k hk))
      · exact .inl (h3 y hy hy2)
  · rcases (hs n).1 hn with h4 | ⟨y, hy, rfl⟩
    · exact h.least P hP h0 n h4
    · exact hP x.toNat (h.least P hP h0 _ hxs.2.2) y hy

theorem reachL_bound : ∀ (l : List Int) (s : List Bool × List Int), (∀ x ∈ l, x.toNat < s.1.length) → (reachL s l).2.length + unseen (reachL s l).1 = s.2.length + unseen s.1
  | [], s, _ => rfl
  | x :: l, s, h => by
    have := reachL_bound l (step s x) (fun y hy => by rw [step_length]; exact h y (by simp [hy]))
    unfold reachL at *
    rw [List.foldl_cons, this, step_bound _ _ (h x (by simp))]

theorem reachL_grow : ∀ (l : List Int) (s : List Bool × List Int), s.2.length ≤ (reachL s l).2.length
  | [], s => Nat.le_refl _
  | x :: l, s => by
    have := reachL_grow l (step s x)
    have h : s.2.length ≤ (step s x).2.length := by unfold step; split <;> simp
    unfold reachL at *
    rw [List.foldl_cons]; omega

def riseTo (sb : List Bool) (k : Nat) : List Int := ((List.range k).filter (fun i => sb.getD i false)).map Int.ofNat
def rising (sb : List Bool) : List Int := riseTo sb sb.length
theorem riseTo_succ (sb : List Bool) (k : Nat) : riseTo sb (k + 1) = if sb.getD k false = true then riseTo sb k ++ [(k : Int)] else riseTo sb k := by
  unfold riseTo
  rw [List.range_succ, List.filter_append, List.map_append]
  split
  · rename_i h; rw [List.filter_cons_of_pos (p := fun i => sb.getD i false) h]; rfl
  · rename_i h; rw [List.filter_cons_of_neg (p := fun i => sb.getD i false) h]; simp
theorem riseTo_length (sb : List Bool) (k : Nat) : (riseTo sb k).length ≤ k := by
  unfold riseTo
  rw [List.length_map]
  exact Nat.le_trans (List.length_filter_le _ _) (by simp)

/-- The least set that has these, and what its things have, and what its pairs want. -/
def Liv (has : List (List Int)) (ps : List (Int × Int)) (l : List Int) (n : Nat) : Prop :=
  ∀ P : Nat → Prop, Cl has P → (∀ p ∈ ps, P p.1.toNat → P p.2.toNat) → (∀ x ∈ l, P x.toNat) → P n

theorem Liv.cl (has : List (List Int)) (ps : List (Int × Int)) (l : List Int) : Cl has (Liv has ps l) := fun n hn k hk P h1 h2 h3 => h1 n (hn P h1 h2 h3) k hk
theorem Liv.pair {has : List (List Int)} {ps : List (Int × Int)} {l : List Int} {p : Int × Int} (hp : p ∈ ps) (h : Liv has ps l p.1.toNat) : Liv has ps l p.2.toNat := fun P h1 h2 h3 => h2 p hp (h P h1 h2 h3)
theorem Liv.base {has : List (List Int)} {ps : List (Int × Int)} {l : List Int} {x : Int} (hx : x ∈ l) : Liv has ps l x.toNat := fun P h1 h2 h3 => h3 x hx

/-- A state of the reacher whose seen things lie in L. -/
structure GInv (has : List (List Int)) (L : Nat → Prop) (s : List Bool × List Int) : Prop where
  todo : ∀ x ∈ s.2, 0 ≤ x ∧ x < s.1.length ∧ Sn s.1 x.toNat
  closed : ∀ n, Sn s.1 n → (∃ x ∈ s.2, x.toNat = n) ∨ ∀ k ∈ has.getD n [], Sn s.1 k.toNat
  sub : ∀ n, Sn s.1 n → L n
theorem GInv.toA {has : List (List Int)} {L : Nat → Prop} {s : List Bool × List Int} (h : GInv has L s) : AInv has (Sn s.1) s :=
  ⟨fun _ h => h, h.todo, h.closed, fun _ _ h0 n hn => h0 n hn⟩
theorem GInv.ofA {has : List (List Int)} {L S0 : Nat → Prop} {s : List Bool × List Int} (h : AInv has S0 s) (hL : Cl has L) (h0 : ∀ n, S0 n → L n) : GInv has L s :=
  ⟨h.todo, h.closed, fun n hn => h.least L hL h0 n hn⟩
theorem GInv.reach {has : List (List Int)} {L : Nat → Prop} {s : List Bool × List Int} {l : List Int} (h : GInv has L s) (hl : ∀ x ∈ l, (0 ≤ x ∧ x < (s.1.length : Int)) ∧ L x.toNat) : GInv has L (reachL s l) := by
  have hr : ∀ y ∈ l, y.toNat < s.1.length := fun y hy => by have := hl y hy; omega
  have hs := reachL_seen l s hr
  obtain ⟨h1, h2, h3⟩ := reachL_todo l s hr
  refine ⟨fun y hy => ?_, fun n hn => ?_, fun n hn => ?_⟩
  · rw [reachL_length]
    rcases h2 y hy with h4 | h4
    · have := h.todo y h4
      exact ⟨this.1, this.2.1, (hs _).2 (.inl this.2.2)⟩
    · have := hl y h4
      exact ⟨this.1.1, this.1.2, (hs _).2 (.inr ⟨y, h4, rfl⟩)⟩
  · rcases (hs n).1 hn with h4 | ⟨y, hy, rfl⟩
    · rcases h.closed n h4 with ⟨z, hz, rfl⟩ | h5
      · exact .inl ⟨z, h1 z hz, rfl⟩
      · exact .inr fun k hk => (hs _).2 (.inl (h5 k hk))
    · by_cases hy2 : Sn s.1 y.toNat
      · rcases h.closed _ hy2 with ⟨z, hz, hzy⟩ | h5
        · exact .inl ⟨z, h1 z hz, hzy⟩
        · exact .inr fun k hk => (hs _).2 (.inl (h5 k hk))
      · exact .inl (h3 y hy hy2)
  · rcases (hs n).1 hn with h4 | ⟨y, hy, rfl⟩
    · exact h.sub n h4
    · exact (hl y hy).2
theorem Sn_falses (N n : Nat) : ¬ Sn (List.replicate N false) n := by
  unfold Sn; rw [List.getD_eq_getElem?_getD, List.getElem?_replicate]; split <;> simp
theorem GInv.start (has : List (List Int)) (L : Nat → Prop) (N : Nat) : GInv has L (List.replicate N false, []) :=
  ⟨fun x hx => absurd hx (by simp), fun n hn => absurd hn (Sn_falses N n), fun n hn => absurd hn (Sn_falses N n)⟩

/-- Behind 'all': roots are in, it is closed, no greater. -/
structure LInv (has : List (List Int)) (ps : List (Int × Int)) (l : List Int) (sb : List Bool) : Prop where
  base : ∀ x ∈ l, Sn sb x.toNat
  clo : Cl has (Sn sb)
  sub : ∀ n, Sn sb n → Liv has ps l n
theorem LInv.ofA {has : List (List Int)} {ps : List (Int × Int)} {l : List Int} {S0 : Nat → Prop} {sb : List Bool} (h : AInv has S0 (sb, [])) (h0 : ∀ n, S0 n → Liv has ps l n) (hb : ∀ x ∈ l, S0 x.toNat) : LInv has ps l sb :=
  ⟨fun x hx => h.sup _ (hb x hx), fun n hn => by
    rcases h.closed n hn with ⟨x, hx, _⟩ | h1
    · cases hx
    · exact h1, fun n hn => h.least _ (Liv.cl has ps l) h0 n hn⟩
theorem LInv.iff {has : List (List Int)} {ps : List (Int × Int)} {l : List Int} {sb : List Bool} (h : LInv has ps l sb) (hp : ∀ p ∈ ps, Sn sb p.1.toNat → Sn sb p.2.toNat) (n : Nat) : Sn sb n ↔ Liv has ps l n :=
  ⟨h.sub n, fun hn => hn (Sn sb) h.clo hp h.base⟩

theorem replicate_unseen (N : Nat) : unseen (List.replicate N false) = N := by simp [unseen, List.countP_replicate]

def pairIn (N : Nat) (p : Int × Int) : Prop := (0 ≤ p.1 ∧ p.1 < (N : Int)) ∧ (0 ≤ p.2 ∧ p.2 < (N : Int))
instance (N : Nat) (p : Int × Int) : Decidable (pairIn N p) := inferInstanceAs (Decidable (_ ∧ _))
def liveE (has : List (List Int)) (roots : List Int) (ps : List (Int × Int)) : Int :=
  if checkE has roots ≠ 0 then checkE has roots else if ps.length > 50 then 2 else if ∀ p ∈ ps, pairIn has.length p then 0 else 3

theorem checkE_zero {has : List (List Int)} {roots : List Int} (h : checkE has roots = 0) : has.length ≤ 100 ∧ roots.length ≤ 100 ∧ (∀ l ∈ has, l.length ≤ 10) ∧ okHas has has.length ∧ ∀ x ∈ roots, 0 ≤ x ∧ x < (has.length : Int) := by
  unfold checkE at h
  split at h
  · cases h
  · rename_i h1
    split at h
    · cases h
    · rename_i h2
      split at h
      · rename_i h3
        refine ⟨by omega, by omega, fun l hl => ?_, ⟨rfl, fun l hl => h3 l (by simp [hl])⟩, h3 roots (by simp)⟩
        apply Decidable.byContradiction
        intro hn
        exact h2 ⟨l, hl, by omega⟩
      · cases h

theorem step_unseen_le (s : List Bool × List Int) (x : Int) (hx : x.toNat < s.1.length) : unseen (step s x).1 ≤ unseen s.1 := by
  have h1 := step_bound s x hx
  have : s.2.length ≤ (step s x).2.length := by unfold step; split <;> simp
  omega
theorem step_unseen_lt (s : List Bool × List Int) (x : Int) (hx : x.toNat < s.1.length) (hn : s.1.getD x.toNat false = false) : unseen (step s x).1 < unseen s.1 := by
  have := unseen_set hx hn
  unfold step
  rw [if_neg (by rw [hn]; simp)]
  show unseen (s.1.set x.toNat true) < _
  omega
theorem unseen_le {sb sb' : List Bool} (hl : sb'.length = sb.length) (h : ∀ n, Sn sb n → Sn sb' n) : unseen sb' ≤ unseen sb := by
  unfold unseen
  induction sb generalizing sb' with
  | nil => cases sb' with
    | nil => simp
    | cons b l => simp at hl
  | cons b l ih => cases sb' with
    | nil => simp at hl
    | cons b' l' =>
      have h0 := h 0
      have := ih (sb' := l') (by simpa using hl) (fun n hn => by have := h (n + 1); simp only [Sn, List.getD_cons_succ] at this hn ⊢; exact this hn)
      simp only [Sn, List.getD_cons_zero] at h0
      simp only [List.countP_cons]
      cases b <;> cases b' <;> simp_all <;> omega

theorem pairs_next {ps : List (Int × Int)} {k : Nat} (hlt : k < ps.length) {x : Int × Int} (hx : x = ps[k]) {sb : List Bool} {u : List Bool × List Int} {mo : Bool} (h : if mo = true then unseen u.1 < unseen sb else u = (sb, []) ∧ ∀ p ∈ ps.take k, Sn sb p.1.toNat → Sn sb p.2.toNat)
    (hp : Sn u.1 x.1.toNat → Sn u.1 x.2.toNat) : if mo = true then unseen u.1 < unseen sb else u = (sb, []) ∧ ∀ p ∈ ps.take (k + 1), Sn sb p.1.toNat → Sn sb p.2.toNat := by
  cases mo with
  | true => exact h
  | false =>
    simp only [Bool.false_eq_true, if_false] at h ⊢
    obtain ⟨rfl, h⟩ := h
    refine ⟨rfl, ?_⟩
    rw [List.take_succ_eq_append_getElem hlt]
    intro p hp2
    simp only [List.mem_append, List.mem_singleton] at hp2
    rcases hp2 with hp2 | rfl
    · exact h p hp2
    · rw [← hx]; exact hp

open Classical in
/-- Which things are live. -/
noncomputable def liveSb (has : List (List Int)) (ps : List (Int × Int)) (l : List Int) : List Bool := (List.range has.length).map (fun n => decide (Liv has ps l n))
theorem liveSb_length (has : List (List Int)) (ps : List (Int × Int)) (l : List Int) : (liveSb has ps l).length = has.length := by simp [liveSb]
theorem Sn_liveSb (has : List (List Int)) (ps : List (Int × Int)) (l : List Int) (n : Nat) : Sn (liveSb has ps l) n ↔ n < has.length ∧ Liv has ps l n := by
  unfold Sn liveSb
  by_cases h : n < has.length
  · simp [h]
  · simp [h]
theorem Sn_lt {sb : List Bool} {n : Nat} (h : Sn sb n) : n < sb.length := by
  apply Decidable.byContradiction
  intro hn
  unfold Sn at h
  rw [List.getD_eq_getElem?_getD, List.getElem?_eq_none (by omega)] at h
  cases h
theorem eq_liveSb {has : List (List Int)} {ps : List (Int × Int)} {l : List Int} {sb : List Bool} (hl : sb.length = has.length) (h : ∀ n, Sn sb n ↔ Liv has ps l n) : sb = liveSb has ps l := by
  apply List.ext_getElem
  · rw [liveSb_length, hl]
  · intro i h1 h2
    have a1 : Sn sb i ↔ sb[i] = true := by unfold Sn; simp [h1]
    have a2 : Sn (liveSb has ps l) i ↔ (liveSb has ps l)[i] = true := by
      unfold Sn
      rw [List.getD_eq_getElem?_getD, List.getElem?_eq_getElem h2]; simp
    have a3 := Sn_liveSb has ps l i
    have a4 := h i
    have : (sb[i] = true) ↔ ((liveSb has ps l)[i] = true) := by
      rw [← a1, ← a2, a3, a4]
      constructor
      · intro h5; exact ⟨by omega, h5⟩
      · intro h5; exact h5.2
    cases hA : sb[i] <;> cases hB : (liveSb has ps l)[i] <;> simp_all
theorem mem_rising {sb : List Bool} {k : Int} : k ∈ rising sb ↔ 0 ≤ k ∧ Sn sb k.toNat := by
  unfold rising riseTo
  simp only [List.mem_map, List.mem_filter, List.mem_range]
  constructor
  · rintro ⟨n, ⟨hn, hs⟩, rfl⟩
    exact ⟨by simp, by simpa [Sn] using hs⟩
  · rintro ⟨h1, h2⟩
    exact ⟨k.toNat, ⟨Sn_lt h2, h2⟩, by simp; omega⟩
noncomputable def liveL (has : List (List Int)) (ps : List (Int × Int)) (l : List Int) : List Int := rising (liveSb has ps l)
theorem mem_liveL {has : List (List Int)} {ps : List (Int × Int)} {l : List Int} {k : Int} : k ∈ liveL has ps l ↔ 0 ≤ k ∧ k < (has.length : Int) ∧ Liv has ps l k.toNat := by
  unfold liveL
  rw [mem_rising, Sn_liveSb]
  constructor
  · rintro ⟨h1, h2, h3⟩; exact ⟨h1, by omega, h3⟩
  · rintro ⟨h1, h2, h3⟩; exact ⟨h1, by omega, h3⟩
theorem liveL_length (has : List (List Int)) (ps : List (Int × Int)) (l : List Int) : (liveL has ps l).length ≤ has.length := by
  have := riseTo_length (liveSb has ps l) (liveSb has ps l).length
  rw [liveSb_length] at this
  unfold liveL rising
  rw [liveSb_length]; exact this

theorem Liv.mono {has : List (List Int)} {ps ps' : List (Int × Int)} {l l' : List Int} (hp : ∀ p ∈ ps, p ∈ ps') (hl : ∀ x ∈ l, x ∈ l') {n : Nat} (h : Liv has ps l n) : Liv has ps' l' n :=
  fun P h1 h2 h3 => h P h1 (fun p hp' => h2 p (hp p hp')) (fun x hx => h3 x (hl x hx))
theorem more_root {has : List (List Int)} {ps : List (Int × Int)} {l : List Int} {n k : Int} (h : k ∈ liveL has ps l) : k ∈ liveL has ps (l ++ [n]) := by
  rw [mem_liveL] at h ⊢
  exact ⟨h.1, h.2.1, h.2.2.mono (fun _ h => h) (fun x hx => by simp [hx])⟩
theorem more_pair {has : List (List Int)} {ps : List (Int × Int)} {l : List Int} {p : Int × Int} {k : Int} (h : k ∈ liveL has ps l) : k ∈ liveL has (ps ++ [p]) l := by
  rw [mem_liveL] at h ⊢
  exact ⟨h.1, h.2.1, h.2.2.mono (fun x hx => by simp [hx]) (fun _ h => h)⟩
theorem Liv.lt {has : List (List Int)} {ps : List (Int × Int)} {l : List Int} {n : Nat} (ho : okHas has has.length) (hp : ∀ p ∈ ps, pairIn has.length p) (hl : ∀ x ∈ l, 0 ≤ x ∧ x < (has.length : Int)) (h : Liv has ps l n) : n < has.length :=
  h (fun n => n < has.length) (fun n _ k hk => by have := ho.at n k hk; omega) (fun p hp' _ => by have := (hp p hp').2; omega) (fun x hx => by have := hl x hx; omega)
theorem liveE_zero {has : List (List Int)} {roots : List Int} {ps : List (Int × Int)} (h : liveE has roots ps = 0) : checkE has roots = 0 ∧ ps.length ≤ 50 ∧ ∀ p ∈ ps, pairIn has.length p := by
  unfold liveE at h
  split at h
  · rename_i h1; exact absurd h h1
  · rename_i h1
    split at h
    · cases h
    · rename_i h2
      split at h
      · rename_i h3; exact ⟨Decidable.byContradiction h1, by omega, h3⟩
      · cases h
theorem same_pair {has : List (List Int)} {ps : List (Int × Int)} {l : List Int} {p : Int × Int} (hp : pairIn has.length p) (hE : liveE has l ps = 0) (h : p.1 ∉ liveL has ps l) : liveL has (ps ++ [p]) l = liveL has ps l := by
  have : liveSb has (ps ++ [p]) l = liveSb has ps l := by
    refine eq_liveSb (liveSb_length _ _ _) fun n => ?_
    rw [Sn_liveSb]
    constructor
    · rintro ⟨_, h1⟩
      refine h1 (Liv has ps l) (Liv.cl has ps l) ?_ (fun x hx => Liv.base hx)
      intro q hq hq1
      simp only [List.mem_append, List.mem_singleton] at hq
      rcases hq with hq | rfl
      · exact Liv.pair hq hq1
      · exact absurd (mem_liveL.2 ⟨hp.1.1, hp.1.2, hq1⟩) h
    · intro h1
      obtain ⟨e1, _, e3⟩ := liveE_zero hE
      obtain ⟨_, _, _, e4, e5⟩ := checkE_zero e1
      exact ⟨h1.lt e4 e3 e5, h1.mono (fun x hx => by simp [hx]) (fun _ h => h)⟩
  unfold liveL
  rw [this]


end Go.Proofs.Ytpeagenjmmkohaa

namespace Go.Proofs.Ytpeagenjmmkohaa
open Go Go.RowKit
set_option linter.unusedVariables false
set_option linter.unusedSimpArgs false
variable {tb : List (FuncId × Bool)} {fl : Nat → Bool} {h : Heap} {K : AV → Heap → Prop}

/-- The reacher's state. -/
structure RSt (h : Heap) (rp : Nat) (gh gr sv : AV) (sb : List Bool) (tv : AV) (td : List Int) : Prop where
  rc : blk h rp = some [gh, gr, sv, tv]
  seen : BL h sv sb
  todo : OL h 1 tv (td.map I64) td.length
  d1 : rp ∉ idOf sv
  d2 : rp ∉ idOf tv
  d3 : ∀ i ∈ idOf sv, i ∉ idOf tv
theorem reachL_take {s : List Bool × List Int} {l : List Int} {k : Nat} (hk : k < l.length) : reachL s (l.take (k + 1)) = step (reachL s (l.take k)) l[k] := by
  rw [List.take_succ_eq_append_getElem hk, reachL, List.foldl_append]; rfl

/-- Where the reacher's blocks lie, and that they may be written. -/
structure Wri (fl : Nat → Bool) (h : Heap) (rp : Nat) (sv tv : AV) : Prop where
  f1 : fl rp = true
  f2 : ∀ i ∈ idOf sv, fl i = true
  f3 : ∀ i ∈ idOf tv, fl i = true
  f4 : ∀ i, h.length ≤ i → fl i = true

/-- Behind some reaching: where it stands. -/
def RInv (h : Heap) (rp : Nat) (gh gr sv tv : AV) (s : List Bool × List Int) (h' : Heap) : Prop :=
  ∃ tv', RSt h' rp gh gr sv s.1 tv' s.2 ∧ Keep h h' (rp :: (idOf sv ++ idOf tv)) ∧ ∀ i ∈ idOf tv', i ∈ idOf tv ∨ h.length ≤ i

theorem reach_am {rp : Nat} {gh gr sv tv lv : AV} {sb : List Bool} {td l : List Int} (hR : RSt h rp gh gr sv sb tv td) (hl : IL h lv l) (hli : ∀ i ∈ idOf lv, i ∉ rp :: (idOf sv ++ idOf tv)) (hb : ∀ x ∈ l, 0 ≤ x ∧ x < (sb.length : Int)) (hlen : l.length ≤ 1000000)
    (hbd : td.length + unseen sb ≤ 1000000) (hW : Wri fl h rp sv tv)
    (hK : ∀ h' tv', RSt h' rp gh gr sv (reachL (sb, td) l).1 tv' (reachL (sb, td) l).2 → Keep h h' (rp :: (idOf sv ++ idOf tv)) → (∀ i ∈ idOf tv', i ∈ idOf tv ∨ h.length ≤ i) → K (.tuple []) h') :
    AC (constX tb) (cFunc Try.prog) 62 [.ptr rp 0, lv] fl h K := by
  refine AC.enter rfl f_wk_reach (by simp) ?_
  simp only [c_wk_reach]
  have hln := hl.len
  repeat' (first | (simp only [AW_next, AW_ops, AW_cond, AW_block, AW_exit, AW_ret, AW_skip, AW_scope, AO_nil, AO_next, AO_nextW, wantB_bool, wantK_some, then_normal, then_exit, then_ret, inBlk_normal, inBlk_exit, inBlk_ret, A1_mv, A1_pick, A1_box, A1_zero, A1_build, A1_lits, A1_load, shallow_none, A1_store, A1_nilCheckI, nilOk_ptr, nilOk_func, A1_bin, A1_eqNil, A1_eqBool, A1_eqAgg, A1_un, A1_conv, A1_field, A1_fieldAddr, A1_indexAddr, A1_indexArr, A1_index, A1_slice, A1_mkSlice, A1_extract, A1_func, A1_call, A1_append, A1_len, A1_minmax, put_some, put_none, upd_at, ev_tmp, ev_av, bin_lss, bin_leq, bin_gtr, bin_geq, bin_eql, bin_neq, bin_add, bin_sub, bin_mul, un_not, natOf_nat, Bool.not_eq_false', Prod.mk.injEq, and_assoc, decide_false, decide_true, Bool.not_false, Bool.not_true, Bool.true_eq_false, Bool.false_eq_true, exists_false, Bool.not_eq_false, Bool.not_not, AV.val.injEq, AV.ptr.injEq, AV.slice.injEq, AV.func.injEq, AV.tuple.injEq, AV.agg.injEq, Value.bool.injEq, Value.int.injEq, Option.some.injEq, exists_eq_left', exists_eq_left, exists_and_left, exists_and_right, and_true, true_and, decide_eq_true_eq, decide_eq_false_iff_not, if_true, if_false, Bool.not_eq_true', beq_true, beq_false, ne_eq, not_true_eq_false, not_false_eq_true, reduceCtorEq, List.getD_cons_zero, List.getD_cons_succ, List.map_cons, List.map_nil, List.append_nil, Nat.reduceEqDiff, reduceIte, ite_true, ite_false, or_true, true_or, or_false, false_or, resA, resultsA, true_imp_iff, false_imp_iff, implies_true, imp_false, and_self, imp_self, and_false, false_and, forall_const, cell_val, cell_ptr, cell_slice, cell_func, cell_hole, cells_agg, cells_val, cells_ptr, cells_slice, cells_func, cells_hole, cells_cell, List.length_cons, List.length_nil, List.all_cons, List.all_nil, Bool.and_self, ldA, List.mapM_cons, List.mapM_nil, Option.bind_eq_bind, Option.bind_some, Option.pure_def, Option.map_none, Option.map_some, List.set_cons_zero, List.set_cons_succ, Nat.lt_add_one, List.append_assoc, List.cons_append, List.nil_append, List.append_nil, List.length_append, rd1_n0, rd1_nK, rd1_c0, rd1_cS, rd_n0, rd_nK, rd_c0, rd_cS, fillA, List.take_zero, List.take_succ_cons, List.take_nil, List.drop_zero, List.drop_succ_cons, List.drop_nil, List.getElem?_cons_zero, List.getElem?_cons_succ, Nat.reduceAdd, Nat.reduceLeDiff, Nat.add_eq_zero_iff, and_self, Nat.zero_add, Nat.add_zero, Nat.mul_one, hln, *]) | (simp only [goO, AO_nil, then_normal, goC]) | (with_reducible apply And.intro) | (with_reducible intro _))
  refine AW.named fun S hS => ?_
  have g0 : S 0 = .ptr rp 0 := by rw [hS]; rfl
  have g6 : S 6 = lv := by rw [hS]; rfl
  have g7 : S 7 = I64 l.length := by rw [hS]; rfl
  have g8 : S 8 = I64 (0 : Nat) := by rw [hS]; rfl
  clear hS hln
  refine AW_for l.length (by omega) g8 g7 rfl rfl (by decide) (fun k s' h' => RInv h rp gh gr sv tv (reachL (sb, td) (l.take k)) h') ⟨tv, hR, Keep.refl _, fun i hi => .inl hi⟩ ?_ ?_
  · rintro k s' h' hk ⟨tv1, hR1, hkp, hti⟩ hi hl' hs
    have f0 := (hs 0 rfl).trans g0
    have f6 := (hs 6 rfl).trans g6
    clear hs g0 g6 g7 g8
    obtain ⟨id, off, lb, ex, rfl, hlb, hrd⟩ := (hl.keep hkp hli).at hk
    rw [reachL_take hk]
    have hbk := hb _ (List.getElem_mem hk)
    have b1 := reachL_length (l.take k) (sb, td)
    have b2 := reachL_bound (l.take k) (sb, td) (fun x hx => by have := hb x (List.mem_of_mem_take hx); simp; omega)
    obtain ⟨⟨sb1, td1⟩, hst⟩ : ∃ st, st = reachL (sb, td) (l.take k) := ⟨_, rfl⟩
    rw [← hst] at hR1 b1 b2 ⊢
    clear hst
    obtain ⟨m, hm⟩ := Int.eq_ofNat_of_zero_le hbk.1
    rw [hm] at hrd hbk ⊢
    clear hm
    dsimp only at b1 b2 hR1
    have hm1 : m < sb1.length := by omega
    obtain ⟨rc, hseen, htodo, d1, d2, d3⟩ := hR1
    obtain ⟨sid, soff, slb, sex, hsv, hslb, hsrd⟩ := hseen.at hm1
    have hseen' := hseen
    cases hbm : sb1[m] with
    | true =>
      have e : step (sb1, td1) (m : Nat) = (sb1, td1) := by unfold step; rw [if_pos]; simp [hm1, hbm]
      have fin : RInv h rp gh gr sv tv (step (sb1, td1) (m : Nat)) h' := by rw [e]; exact ⟨tv1, ⟨rc, hseen, htodo, d1, d2, d3⟩, hkp, hti⟩
      rw [hbm] at hsrd
      subst hsv
      clear b1 e
      repeat' (first | (simp only [AW_next, AW_ops, AW_cond, AW_block, AW_exit, AW_ret, AW_skip, AW_scope, AO_nil, AO_next, AO_nextW, wantB_bool, wantK_some, then_normal, then_exit, then_ret, inBlk_normal, inBlk_exit, inBlk_ret, A1_mv, A1_pick, A1_box, A1_zero, A1_build, A1_lits, A1_load, shallow_none, A1_store, A1_nilCheckI, nilOk_ptr, nilOk_func, A1_bin, A1_eqNil, A1_eqBool, A1_eqAgg, A1_un, A1_conv, A1_field, A1_fieldAddr, A1_indexAddr, A1_indexArr, A1_index, A1_slice, A1_mkSlice, A1_extract, A1_func, A1_call, A1_append, A1_len, A1_minmax, put_some, put_none, upd_at, ev_tmp, ev_av, bin_lss, bin_leq, bin_gtr, bin_geq, bin_eql, bin_neq, bin_add, bin_sub, bin_mul, un_not, natOf_nat, Bool.not_eq_false', Prod.mk.injEq, and_assoc, decide_false, decide_true, Bool.not_false, Bool.not_true, Bool.true_eq_false, Bool.false_eq_true, exists_false, Bool.not_eq_false, Bool.not_not, AV.val.injEq, AV.ptr.injEq, AV.slice.injEq, AV.func.injEq, AV.tuple.injEq, AV.agg.injEq, Value.bool.injEq, Value.int.injEq, Option.some.injEq, exists_eq_left', exists_eq_left, exists_and_left, exists_and_right, and_true, true_and, decide_eq_true_eq, decide_eq_false_iff_not, if_true, if_false, Bool.not_eq_true', beq_true, beq_false, ne_eq, not_true_eq_false, not_false_eq_true, reduceCtorEq, List.getD_cons_zero, List.getD_cons_succ, List.map_cons, List.map_nil, List.append_nil, Nat.reduceEqDiff, reduceIte, ite_true, ite_false, or_true, true_or, or_false, false_or, resA, resultsA, true_imp_iff, false_imp_iff, implies_true, imp_false, and_self, imp_self, and_false, false_and, forall_const, cell_val, cell_ptr, cell_slice, cell_func, cell_hole, cells_agg, cells_val, cells_ptr, cells_slice, cells_func, cells_hole, cells_cell, List.length_cons, List.length_nil, List.all_cons, List.all_nil, Bool.and_self, ldA, List.mapM_cons, List.mapM_nil, Option.bind_eq_bind, Option.bind_some, Option.pure_def, Option.map_none, Option.map_some, List.set_cons_zero, List.set_cons_succ, Nat.lt_add_one, List.append_assoc, List.cons_append, List.nil_append, List.append_nil, List.length_append, rd1_n0, rd1_nK, rd1_c0, rd1_cS, rd_n0, rd_nK, rd_c0, rd_cS, fillA, List.take_zero, List.take_succ_cons, List.take_nil, List.drop_zero, List.drop_succ_cons, List.drop_nil, List.getElem?_cons_zero, List.getElem?_cons_succ, Nat.reduceAdd, Nat.reduceLeDiff, Nat.add_eq_zero_iff, and_self, Nat.zero_add, Nat.add_zero, Nat.mul_one, hrd, hsrd, rd1_of rc, natOf_nat, *]) | (simp only [goO, AO_nil, then_normal, goC]) | (with_reducible apply And.intro) | (with_reducible intro _))
    | false =>
      rw [hbm] at hsrd
      have e : step (sb1, td1) (m : Nat) = (sb1.set m true, td1 ++ [(m : Int)]) := by unfold step; rw [if_neg]; rfl; simp [hm1, hbm]
      have w3 : ∀ i ∈ idOf tv1, fl i = true := fun i hi => (hti i hi).elim (hW.f3 i) (hW.f4 i)
      obtain ⟨sid', soff', slb', sex', h1, hsv', hw1, hs1, hk1, hl1⟩ := Sl.set1 (fl := fl) (x := BV true) hseen hm1 hW.f2
      rw [hsv] at hsv'
      injection hsv' with q1 q2 _ q4 q5 _
      subst q1; subst q2; subst q4; subst q5
      have rc1 := hk1.get d1 rc
      obtain ⟨tv2, h2, hap, ho2, hk2, hti2, hl2⟩ := append_ol (fl := fl) (bytes := 8) (m := 1) (new := [I64 m]) (OL.keepK (h' := h1 ++ [some [I64 m]]) htodo ⟨by simp; omega, fun i row hi hr => blk_ext _ (hk1.2 i row hi hr)⟩ (fun i hi hm => d3 i hm hi)) w3 (by omega) rfl (by unfold reach; omega)
      have rc2 := hk2 rp _ d2 (blk_ext _ rc1)
      obtain ⟨h3, hw3, rc3, hk3, hl3⟩ := wr1_ex (fl := fl) (off := 3) (v := tv2) rc2 hW.f1 (by simp)
      have htc := ho2.sl.cell
      have hrow : rowOf (h1 ++ [some [I64 m]]) 1 (.slice h1.length 0 1 1 true 1) = some (1, [I64 m]) := by simp [rowOf, rd_n0, rd_c0]
      have d4 : rp ∉ idOf tv2 := fun hm => (hti2 rp hm).elim (fun q => d2 q) (fun q => by have := blk_lt rc1; simp at q; omega)
      have d5 : ∀ i ∈ idOf sv, i ∉ idOf tv2 := fun i hi hm => (hti2 i hm).elim (fun q => d3 i hi q) (fun q => by have := hs1.lt i hi; simp at q; omega)
      have fin : RInv h rp gh gr sv tv (step (sb1, td1) (m : Nat)) h3 := by
        rw [e]
        refine ⟨tv2, ⟨rc3, ?_, ?_, d1, d4, d5⟩, ?_, ?_⟩
        · show Sl _ _ _ ((sb1.set m true).map BV) (sb1.set m true).length
          rw [List.map_set, List.length_set]
          exact hs1.cong fun i off lb ex row q hr => by
            have hi : i ∈ idOf sv := by rw [q]; simp [idOf]
            rw [hk3 i (fun q => d1 (q ▸ hi))]
            exact hk2 i row (d3 i hi) (blk_ext _ hr)
        · simp only [List.map_append, List.map_cons, List.map_nil, List.length_append, List.length_cons, List.length_nil]
          exact ho2.keep fun i row hi hr => by rw [hk3 i (fun q => d4 (q ▸ hi))]; exact hr
        · have a2 : Keep h1 h2 (idOf tv1) := ⟨by simp at hl2; omega, fun i row hi hr => hk2 i row hi (blk_ext _ hr)⟩
          have a3 : Keep h2 h3 [rp] := ⟨by omega, fun i row hi hr => by rw [hk3 i (by simpa using hi)]; exact hr⟩
          have t1 : ∀ i ∈ rp :: (idOf sv ++ idOf tv), i ∈ rp :: (idOf sv ++ idOf tv) ∨ List.length h ≤ i := fun i hi => .inl hi
          refine ((hkp.then hk1 t1 fun i hi => .inl (by simp [hi])).then a2 t1 fun i hi => ?_).then a3 t1 fun i hi => .inl (by simp at hi; simp [hi])
          exact (hti i hi).elim (fun q => .inl (by simp [q])) .inr
        · intro i hi
          have := hkp.1
          rcases hti2 i hi with q | q
          · exact hti i q
          · simp at q; omega
      subst hsv
      clear b1 e rc2 rc3 hl1 hl2 hl3
      repeat' (first | (simp only [AW_next, AW_ops, AW_cond, AW_block, AW_exit, AW_ret, AW_skip, AW_scope, AO_nil, AO_next, AO_nextW, wantB_bool, wantK_some, then_normal, then_exit, then_ret, inBlk_normal, inBlk_exit, inBlk_ret, A1_mv, A1_pick, A1_box, A1_zero, A1_build, A1_lits, A1_load, shallow_none, A1_store, A1_nilCheckI, nilOk_ptr, nilOk_func, A1_bin, A1_eqNil, A1_eqBool, A1_eqAgg, A1_un, A1_conv, A1_field, A1_fieldAddr, A1_indexAddr, A1_indexArr, A1_index, A1_slice, A1_mkSlice, A1_extract, A1_func, A1_call, A1_append, A1_len, A1_minmax, put_some, put_none, upd_at, ev_tmp, ev_av, bin_lss, bin_leq, bin_gtr, bin_geq, bin_eql, bin_neq, bin_add, bin_sub, bin_mul, un_not, natOf_nat, Bool.not_eq_false', Prod.mk.injEq, and_assoc, decide_false, decide_true, Bool.not_false, Bool.not_true, Bool.true_eq_false, Bool.false_eq_true, exists_false, Bool.not_eq_false, Bool.not_not, AV.val.injEq, AV.ptr.injEq, AV.slice.injEq, AV.func.injEq, AV.tuple.injEq, AV.agg.injEq, Value.bool.injEq, Value.int.injEq, Option.some.injEq, exists_eq_left', exists_eq_left, exists_and_left, exists_and_right, and_true, true_and, decide_eq_true_eq, decide_eq_false_iff_not, if_true, if_false, Bool.not_eq_true', beq_true, beq_false, ne_eq, not_true_eq_false, not_false_eq_true, reduceCtorEq, List.getD_cons_zero, List.getD_cons_succ, List.map_cons, List.map_nil, List.append_nil, Nat.reduceEqDiff, reduceIte, ite_true, ite_false, or_true, true_or, or_false, false_or, resA, resultsA, true_imp_iff, false_imp_iff, implies_true, imp_false, and_self, imp_self, and_false, false_and, forall_const, cell_val, cell_ptr, cell_slice, cell_func, cell_hole, cells_agg, cells_val, cells_ptr, cells_slice, cells_func, cells_hole, cells_cell, List.length_cons, List.length_nil, List.all_cons, List.all_nil, Bool.and_self, ldA, List.mapM_cons, List.mapM_nil, Option.bind_eq_bind, Option.bind_some, Option.pure_def, Option.map_none, Option.map_some, List.set_cons_zero, List.set_cons_succ, Nat.lt_add_one, List.append_assoc, List.cons_append, List.nil_append, List.append_nil, List.length_append, rd1_n0, rd1_nK, rd1_c0, rd1_cS, rd_n0, rd_nK, rd_c0, rd_cS, fillA, List.take_zero, List.take_succ_cons, List.take_nil, List.drop_zero, List.drop_succ_cons, List.drop_nil, List.getElem?_cons_zero, List.getElem?_cons_succ, Nat.reduceAdd, Nat.reduceLeDiff, Nat.add_eq_zero_iff, and_self, Nat.zero_add, Nat.add_zero, Nat.mul_one, hrd, hsrd, rd1_of rc, rd1_of rc1, natOf_nat, hw1, hrow, hap, hw3, *]) | (simp only [goO, AO_nil, then_normal, goC]) | (with_reducible apply And.intro) | (with_reducible intro _))
  · rintro s' h' ⟨tv1, hR1, hkp, hti⟩ hs
    rw [List.take_of_length_le (Nat.le_refl _)] at hR1
    have := hK h' tv1 hR1 hkp hti
    clear hs
    repeat' (first | (simp only [AW_next, AW_ops, AW_cond, AW_block, AW_exit, AW_ret, AW_skip, AW_scope, AO_nil, AO_next, AO_nextW, wantB_bool, wantK_some, then_normal, then_exit, then_ret, inBlk_normal, inBlk_exit, inBlk_ret, A1_mv, A1_pick, A1_box, A1_zero, A1_build, A1_lits, A1_load, shallow_none, A1_store, A1_nilCheckI, nilOk_ptr, nilOk_func, A1_bin, A1_eqNil, A1_eqBool, A1_eqAgg, A1_un, A1_conv, A1_field, A1_fieldAddr, A1_indexAddr, A1_indexArr, A1_index, A1_slice, A1_mkSlice, A1_extract, A1_func, A1_call, A1_append, A1_len, A1_minmax, put_some, put_none, upd_at, ev_tmp, ev_av, bin_lss, bin_leq, bin_gtr, bin_geq, bin_eql, bin_neq, bin_add, bin_sub, bin_mul, un_not, natOf_nat, Bool.not_eq_false', Prod.mk.injEq, and_assoc, decide_false, decide_true, Bool.not_false, Bool.not_true, Bool.true_eq_false, Bool.false_eq_true, exists_false, Bool.not_eq_false, Bool.not_not, AV.val.injEq, AV.ptr.injEq, AV.slice.injEq, AV.func.injEq, AV.tuple.injEq, AV.agg.injEq, Value.bool.injEq, Value.int.injEq, Option.some.injEq, exists_eq_left', exists_eq_left, exists_and_left, exists_and_right, and_true, true_and, decide_eq_true_eq, decide_eq_false_iff_not, if_true, if_false, Bool.not_eq_true', beq_true, beq_false, ne_eq, not_true_eq_false, not_false_eq_true, reduceCtorEq, List.getD_cons_zero, List.getD_cons_succ, List.map_cons, List.map_nil, List.append_nil, Nat.reduceEqDiff, reduceIte, ite_true, ite_false, or_true, true_or, or_false, false_or, resA, resultsA, true_imp_iff, false_imp_iff, implies_true, imp_false, and_self, imp_self, and_false, false_and, forall_const, cell_val, cell_ptr, cell_slice, cell_func, cell_hole, cells_agg, cells_val, cells_ptr, cells_slice, cells_func, cells_hole, cells_cell, List.length_cons, List.length_nil, List.all_cons, List.all_nil, Bool.and_self, ldA, List.mapM_cons, List.mapM_nil, Option.bind_eq_bind, Option.bind_some, Option.pure_def, Option.map_none, Option.map_some, List.set_cons_zero, List.set_cons_succ, Nat.lt_add_one, List.append_assoc, List.cons_append, List.nil_append, List.append_nil, List.length_append, rd1_n0, rd1_nK, rd1_c0, rd1_cS, rd_n0, rd_nK, rd_c0, rd_cS, fillA, List.take_zero, List.take_succ_cons, List.take_nil, List.drop_zero, List.drop_succ_cons, List.drop_nil, List.getElem?_cons_zero, List.getElem?_cons_succ, Nat.reduceAdd, Nat.reduceLeDiff, Nat.add_eq_zero_iff, and_self, Nat.zero_add, Nat.add_zero, Nat.mul_one, *]) | (simp only [goO, AO_nil, then_normal, goC]) | (with_reducible apply And.intro) | (with_reducible intro _))
theorem all_am {h0 : Heap} {rp : Nat} {gh gr sv tv : AV} {has : List (List Int)} {sb : List Bool} {td : List Int} {S0 : Nat → Prop} (hR : RSt h rp gh gr sv sb tv td) (hA : AInv has S0 (sb, td)) (hok : okHas has sb.length) (hh0 : Keep h0 h []) (hL : LL h0 gh has)
    (hge : ∀ i ∈ rp :: (idOf sv ++ idOf tv), h0.length ≤ i) (hls : ∀ l ∈ has, l.length ≤ 1000) (hbd : td.length + unseen sb ≤ 1000000) (hW : Wri fl h rp sv tv)
    (hK : ∀ h' tv' sb', RSt h' rp gh gr sv sb' tv' [] → AInv has S0 (sb', []) → Keep h h' (rp :: (idOf sv ++ idOf tv)) → (∀ i ∈ idOf tv', i ∈ idOf tv ∨ h.length ≤ i) → K (.tuple []) h') :
    AC (constX tb) (cFunc Try.prog) 63 [.ptr rp 0] fl h K := by
  refine AC.enter rfl f_wk_all (by simp) ?_
  simp only [c_wk_all]
  rw [AW_block]
  refine AW.named fun S hS => ?_
  have g0 : S 0 = .ptr rp 0 := by rw [hS]; rfl
  clear hS
  refine AW_while (fun n s' h' => ∃ st, n = st.2.length + unseen st.1 ∧ n ≤ 1000000 ∧ st.1.length = sb.length ∧ AInv has S0 st ∧ RInv h rp gh gr sv tv st h') (td.length + unseen sb) ⟨(sb, td), rfl, hbd, rfl, hA, tv, hR, Keep.refl _, fun i hi => .inl hi⟩ ?_
  rintro n s' h' ⟨⟨sb1, td1⟩, hn, hnb, hsl, hA1, tv1, hR1, hkp, hti⟩ hs
  have f0 := (hs 0 (by decide)).trans g0
  dsimp only at hn hsl hR1
  clear hs g0
  obtain ⟨rc, hseen, htodo, d1, d2, d3⟩ := hR1
  rcases List.eq_nil_or_concat td1 with rfl | ⟨td0, x, rfl⟩
  · have hlt := htodo.len
    have fin := hK h' tv1 sb1 ⟨rc, hseen, htodo, d1, d2, d3⟩ hA1 hkp hti
    clear hn hsl
    repeat' (first | (simp only [AW_next, AW_ops, AW_cond, AW_block, AW_exit, AW_ret, AW_skip, AW_scope, AO_nil, AO_next, AO_nextW, wantB_bool, wantK_some, then_normal, then_exit, then_ret, inBlk_normal, inBlk_exit, inBlk_ret, A1_mv, A1_pick, A1_box, A1_zero, A1_build, A1_lits, A1_load, shallow_none, A1_store, A1_nilCheckI, nilOk_ptr, nilOk_func, A1_bin, A1_eqNil, A1_eqBool, A1_eqAgg, A1_un, A1_conv, A1_field, A1_fieldAddr, A1_indexAddr, A1_indexArr, A1_index, A1_slice, A1_mkSlice, A1_extract, A1_func, A1_call, A1_append, A1_len, A1_minmax, put_some, put_none, upd_at, ev_tmp, ev_av, bin_lss, bin_leq, bin_gtr, bin_geq, bin_eql, bin_neq, bin_add, bin_sub, bin_mul, un_not, natOf_nat, Bool.not_eq_false', Prod.mk.injEq, and_assoc, decide_false, decide_true, Bool.not_false, Bool.not_true, Bool.true_eq_false, Bool.false_eq_true, exists_false, Bool.not_eq_false, Bool.not_not, AV.val.injEq, AV.ptr.injEq, AV.slice.injEq, AV.func.injEq, AV.tuple.injEq, AV.agg.injEq, Value.bool.injEq, Value.int.injEq, Option.some.injEq, exists_eq_left', exists_eq_left, exists_and_left, exists_and_right, and_true, true_and, decide_eq_true_eq, decide_eq_false_iff_not, if_true, if_false, Bool.not_eq_true', beq_true, beq_false, ne_eq, not_true_eq_false, not_false_eq_true, reduceCtorEq, List.getD_cons_zero, List.getD_cons_succ, List.map_cons, List.map_nil, List.append_nil, Nat.reduceEqDiff, reduceIte, ite_true, ite_false, or_true, true_or, or_false, false_or, resA, resultsA, true_imp_iff, false_imp_iff, implies_true, imp_false, and_self, imp_self, and_false, false_and, forall_const, cell_val, cell_ptr, cell_slice, cell_func, cell_hole, cells_agg, cells_val, cells_ptr, cells_slice, cells_func, cells_hole, cells_cell, List.length_cons, List.length_nil, List.all_cons, List.all_nil, Bool.and_self, ldA, List.mapM_cons, List.mapM_nil, Option.bind_eq_bind, Option.bind_some, Option.pure_def, Option.map_none, Option.map_some, List.set_cons_zero, List.set_cons_succ, Nat.lt_add_one, List.append_assoc, List.cons_append, List.nil_append, List.append_nil, List.length_append, rd1_n0, rd1_nK, rd1_c0, rd1_cS, rd_n0, rd_nK, rd_c0, rd_cS, fillA, List.take_zero, List.take_succ_cons, List.take_nil, List.drop_zero, List.drop_succ_cons, List.drop_nil, List.getElem?_cons_zero, List.getElem?_cons_succ, Nat.reduceAdd, Nat.reduceLeDiff, Nat.add_eq_zero_iff, and_self, Nat.zero_add, Nat.add_zero, Nat.mul_one, rd1_of rc, hlt, *]) | (simp only [goO, AO_nil, then_normal, goC]) | (with_reducible apply And.intro) | (with_reducible intro _))
    · exfalso; rename_i hz; exact absurd hz (by simp)
  · simp only [List.concat_eq_append] at *
    have hx := hA1.todo x (by simp)
    obtain ⟨m, rfl⟩ := Int.eq_ofNat_of_zero_le hx.1
    have hm1 : m < has.length := by rw [hok.1]; have := hx.2.1; dsimp only at this; omega
    have hlen : (td0 ++ [(m : Int)]).length = td0.length + 1 := by simp
    obtain ⟨tid, toff, tlb, tex, htv, htlb, htrd⟩ := (show IL h' tv1 (td0 ++ [(m : Int)]) from htodo.sl).at (j := td0.length) (by simp)
    rw [List.getElem_append_right (Nat.le_refl _)] at htrd
    simp only [Nat.sub_self, List.getElem_cons_zero] at htrd
    have hlt := htodo.len
    have htodo' := htodo
    rw [hlen] at hlt
    rw [hlen, List.map_append] at htodo'
    obtain ⟨tv2, hsl2, ho2, hid2⟩ := htodo'.pop rfl
    have w3 : ∀ i ∈ idOf tv1, fl i = true := fun i hi => (hti i hi).elim (hW.f3 i) (hW.f4 i)
    obtain ⟨h1, hw1, rc1, hk1, hl1⟩ := wr1_ex (fl := fl) (off := 3) (v := tv2) rc hW.f1 (by simp)
    have hwr : IntKind.i64.wrap (((td0.length + 1 : Nat) : Int) - 1) = (td0.length : Nat) := by rw [IntWalk.i64_in _ (by omega)]; omega
    have htc := ho2.sl.cell
    have k1 : Keep h' h1 [rp] := ⟨by omega, fun i row hi hr => by rw [hk1 i (by simpa using hi)]; exact hr⟩
    have k2 : Keep h0 h1 [] := (hh0.then hkp (fun i hi => .inl hi) (fun i hi => .inr (hge i hi))).then k1 (fun i hi => .inl hi) (fun i hi => .inr (hge i (by simp at hi; simp [hi])))
    obtain ⟨gid, goff, glb, gex, u, hgh, hglb, hgrd0, hu0⟩ := hL.at hm1
    have hgrd := k2.rd1 (by simp) hgrd0
    have hu := hu0.keep k2 (fun i _ => by simp)
    have hlu : ∀ i ∈ idOf u, i < h0.length := Sl.lt hu0
    have hb2 : td0.length + unseen sb1 < n := by rw [hn]; simp
    have hok1 : okHas has sb1.length := by rw [hsl]; exact hok
    have hget : has.getD m [] = has[m] := by simp [hm1]
    have hAn := AInv.next hok1 hA1
    simp only [Int.toNat_natCast, hget] at hAn
    have hw4 := hkp.1
    have hR2 : RSt h1 rp gh gr sv sb1 tv2 td0 := ⟨rc1, hseen.keep k1 (fun i hi hm => d1 (by simp at hm; rw [← hm]; exact hi)), by simpa using ho2.keepK k1 (fun i hi hm => by rw [hid2] at hi; simp at hm; exact d2 (hm ▸ hi)), d1, by rw [hid2]; exact d2, by rw [hid2]; exact d3⟩
    have hW2 : Wri fl h1 rp sv tv2 := ⟨hW.f1, hW.f2, by rw [hid2]; exact w3, fun i hi => hW.f4 i (by omega)⟩
    have hbu : ∀ x ∈ has[m], 0 ≤ x ∧ x < (sb1.length : Int) := fun x hx => hok1.2 _ (List.getElem_mem _) x hx
    have hlu1 : has[m].length ≤ 1000 := hls _ (List.getElem_mem _)
    have hli : ∀ i ∈ idOf u, i ∉ rp :: (idOf sv ++ idOf tv2) := fun i hi hm => by
      have a := hlu i hi
      rw [hid2] at hm
      simp only [List.mem_cons, List.mem_append] at hm
      rcases hm with rfl | hm | hm
      · have := hge _ (List.mem_cons_self ..); omega
      · have := hge i (by simp [hm]); omega
      · rcases hti i hm with q | q
        · have := hge i (by simp [q]); omega
        · have := hh0.1; omega
    have hgo : ∀ h2 tv3, RSt h2 rp gh gr sv (reachL (sb1, td0) has[m]).1 tv3 (reachL (sb1, td0) has[m]).2 → Keep h1 h2 (rp :: (idOf sv ++ idOf tv2)) → (∀ i ∈ idOf tv3, i ∈ idOf tv2 ∨ h1.length ≤ i) →
        ∃ n', n' < n ∧ ∃ st, n' = st.2.length + unseen st.1 ∧ n' ≤ 1000000 ∧ st.1.length = sb.length ∧ AInv has S0 st ∧ RInv h rp gh gr sv tv st h2 := fun h2 tv3 r1 r2 r3 => by
      have hbd2 := reachL_bound has[m] (sb1, td0) (fun x hx => by have := hbu x hx; simp; omega)
      have hll := reachL_length has[m] (sb1, td0)
      dsimp only at hbd2 hll
      have t1 : ∀ i ∈ rp :: (idOf sv ++ idOf tv), i ∈ rp :: (idOf sv ++ idOf tv) ∨ List.length h ≤ i := fun i hi => .inl hi
      refine ⟨_, by omega, reachL (sb1, td0) has[m], rfl, by omega, by omega, hAn, tv3, r1, (hkp.then k1 t1 (fun i hi => .inl (by simp at hi; simp [hi]))).then r2 t1 (fun i hi => ?_), fun i hi => ?_⟩
      · rw [hid2] at hi
        simp only [List.mem_cons, List.mem_append] at hi ⊢
        rcases hi with q | q | q
        · exact .inl (.inl q)
        · exact .inl (.inr (.inl q))
        · exact (hti i q).elim (fun q => .inl (.inr (.inr q))) .inr
      · rcases r3 i hi with q | q
        · rw [hid2] at q; exact hti i q
        · exact .inr (by omega)
    rw [hlen] at htv
    subst htv hgh
    clear hk1 hl1 hsl hn
    repeat' (first | (simp only [AW_next, AW_ops, AW_cond, AW_block, AW_exit, AW_ret, AW_skip, AW_scope, AO_nil, AO_next, AO_nextW, wantB_bool, wantK_some, then_normal, then_exit, then_ret, inBlk_normal, inBlk_exit, inBlk_ret, A1_mv, A1_pick, A1_box, A1_zero, A1_build, A1_lits, A1_load, shallow_none, A1_store, A1_nilCheckI, nilOk_ptr, nilOk_func, A1_bin, A1_eqNil, A1_eqBool, A1_eqAgg, A1_un, A1_conv, A1_field, A1_fieldAddr, A1_indexAddr, A1_indexArr, A1_index, A1_slice, A1_mkSlice, A1_extract, A1_func, A1_call, A1_append, A1_len, A1_minmax, put_some, put_none, upd_at, ev_tmp, ev_av, bin_lss, bin_leq, bin_gtr, bin_geq, bin_eql, bin_neq, bin_add, bin_sub, bin_mul, un_not, natOf_nat, Bool.not_eq_false', Prod.mk.injEq, and_assoc, decide_false, decide_true, Bool.not_false, Bool.not_true, Bool.true_eq_false, Bool.false_eq_true, exists_false, Bool.not_eq_false, Bool.not_not, AV.val.injEq, AV.ptr.injEq, AV.slice.injEq, AV.func.injEq, AV.tuple.injEq, AV.agg.injEq, Value.bool.injEq, Value.int.injEq, Option.some.injEq, exists_eq_left', exists_eq_left, exists_and_left, exists_and_right, and_true, true_and, decide_eq_true_eq, decide_eq_false_iff_not, if_true, if_false, Bool.not_eq_true', beq_true, beq_false, ne_eq, not_true_eq_false, not_false_eq_true, reduceCtorEq, List.getD_cons_zero, List.getD_cons_succ, List.map_cons, List.map_nil, List.append_nil, Nat.reduceEqDiff, reduceIte, ite_true, ite_false, or_true, true_or, or_false, false_or, resA, resultsA, true_imp_iff, false_imp_iff, implies_true, imp_false, and_self, imp_self, and_false, false_and, forall_const, cell_val, cell_ptr, cell_slice, cell_func, cell_hole, cells_agg, cells_val, cells_ptr, cells_slice, cells_func, cells_hole, cells_cell, List.length_cons, List.length_nil, List.all_cons, List.all_nil, Bool.and_self, ldA, List.mapM_cons, List.mapM_nil, Option.bind_eq_bind, Option.bind_some, Option.pure_def, Option.map_none, Option.map_some, List.set_cons_zero, List.set_cons_succ, Nat.lt_add_one, List.append_assoc, List.cons_append, List.nil_append, List.append_nil, List.length_append, rd1_n0, rd1_nK, rd1_c0, rd1_cS, rd_n0, rd_nK, rd_c0, rd_cS, fillA, List.take_zero, List.take_succ_cons, List.take_nil, List.drop_zero, List.drop_succ_cons, List.drop_nil, List.getElem?_cons_zero, List.getElem?_cons_succ, Nat.reduceAdd, Nat.reduceLeDiff, Nat.add_eq_zero_iff, and_self, Nat.zero_add, Nat.add_zero, Nat.mul_one, rd1_of rc, rd1_of rc1, hlt, hwr, htrd, hsl2, hw1, natOf_nat, *]) | (simp only [goO, AO_nil, then_normal, goC]) | (with_reducible apply And.intro) | (with_reducible intro _))
    · refine reach_am hR2 hu hli hbu (by omega) (by omega) hW2 fun h2 tv3 r1 r2 r3 => ?_
      have fin := hgo h2 tv3 r1 r2 r3
      clear hgo
      repeat' (first | (simp only [AW_next, AW_ops, AW_cond, AW_block, AW_exit, AW_ret, AW_skip, AW_scope, AO_nil, AO_next, AO_nextW, wantB_bool, wantK_some, then_normal, then_exit, then_ret, inBlk_normal, inBlk_exit, inBlk_ret, A1_mv, A1_pick, A1_box, A1_zero, A1_build, A1_lits, A1_load, shallow_none, A1_store, A1_nilCheckI, nilOk_ptr, nilOk_func, A1_bin, A1_eqNil, A1_eqBool, A1_eqAgg, A1_un, A1_conv, A1_field, A1_fieldAddr, A1_indexAddr, A1_indexArr, A1_index, A1_slice, A1_mkSlice, A1_extract, A1_func, A1_call, A1_append, A1_len, A1_minmax, put_some, put_none, upd_at, ev_tmp, ev_av, bin_lss, bin_leq, bin_gtr, bin_geq, bin_eql, bin_neq, bin_add, bin_sub, bin_mul, un_not, natOf_nat, Bool.not_eq_false', Prod.mk.injEq, and_assoc, decide_false, decide_true, Bool.not_false, Bool.not_true, Bool.true_eq_false, Bool.false_eq_true, exists_false, Bool.not_eq_false, Bool.not_not, AV.val.injEq, AV.ptr.injEq, AV.slice.injEq, AV.func.injEq, AV.tuple.injEq, AV.agg.injEq, Value.bool.injEq, Value.int.injEq, Option.some.injEq, exists_eq_left', exists_eq_left, exists_and_left, exists_and_right, and_true, true_and, decide_eq_true_eq, decide_eq_false_iff_not, if_true, if_false, Bool.not_eq_true', beq_true, beq_false, ne_eq, not_true_eq_false, not_false_eq_true, reduceCtorEq, List.getD_cons_zero, List.getD_cons_succ, List.map_cons, List.map_nil, List.append_nil, Nat.reduceEqDiff, reduceIte, ite_true, ite_false, or_true, true_or, or_false, false_or, resA, resultsA, true_imp_iff, false_imp_iff, implies_true, imp_false, and_self, imp_self, and_false, false_and, forall_const, cell_val, cell_ptr, cell_slice, cell_func, cell_hole, cells_agg, cells_val, cells_ptr, cells_slice, cells_func, cells_hole, cells_cell, List.length_cons, List.length_nil, List.all_cons, List.all_nil, Bool.and_self, ldA, List.mapM_cons, List.mapM_nil, Option.bind_eq_bind, Option.bind_some, Option.pure_def, Option.map_none, Option.map_some, List.set_cons_zero, List.set_cons_succ, Nat.lt_add_one, List.append_assoc, List.cons_append, List.nil_append, List.append_nil, List.length_append, rd1_n0, rd1_nK, rd1_c0, rd1_cS, rd_n0, rd_nK, rd_c0, rd_cS, fillA, List.take_zero, List.take_succ_cons, List.take_nil, List.drop_zero, List.drop_succ_cons, List.drop_nil, List.getElem?_cons_zero, List.getElem?_cons_succ, Nat.reduceAdd, Nat.reduceLeDiff, Nat.add_eq_zero_iff, and_self, Nat.zero_add, Nat.add_zero, Nat.mul_one, *]) | (simp only [goO, AO_nil, then_normal, goC]) | (with_reducible apply And.intro) | (with_reducible intro _))
      all_goals trace_state
    · exfalso; rename_i hz; exact hz (by omega)
end Go.Proofs.Ytpeagenjmmkohaa

namespace Go.Proofs.Ytpeagenjmmkohaa
open Go Go.RowKit
set_option linter.unusedVariables false
set_option linter.unusedSimpArgs false
variable {tb : List (FuncId × Bool)} {fl : Nat → Bool} {h : Heap} {K : AV → Heap → Prop}

theorem flat_one {n : Nat} {v : AV} : (List.replicate n [v]).flatten = List.replicate n v := by
  induction n with
  | zero => rfl
  | succ n ih => rw [List.replicate_succ, List.flatten_cons, ih, List.replicate_succ]; rfl
/-- A new list of one value. -/
theorem Sl.made {h : Heap} {id n : Nat} {v : AV} {b : Bool} (hb : blk h id = some (List.replicate n v)) : Sl h 1 (.slice id 0 n n b 1) (List.replicate n v) n :=
  ⟨by simp, .inr ⟨id, 0, n, b, _, rfl, Nat.le_refl _, hb, by simp, by simp⟩⟩
theorem BL.made {h : Heap} {id n : Nat} {b c : Bool} (hb : blk h id = some (List.replicate n (BV c))) : BL h (.slice id 0 n n b 1) (List.replicate n c) := by
  unfold BL
  rw [List.map_replicate, List.length_replicate]; exact Sl.made hb

theorem from_am {v1 v2 lv : AV} {has : List (List Int)} {l : List Int} (h1 : LL h v1 has) (hc2 : v2.isCell = true) (hl : IL h lv l) (hN : has.length ≤ 100) (hls : ∀ l ∈ has, l.length ≤ 1000) (hll : l.length ≤ 1000000) (hok : okHas has has.length)
    (hb : ∀ x ∈ l, 0 ≤ x ∧ x < (has.length : Int)) (hf : ∀ i, h.length ≤ i → fl i = true)
    (hK : ∀ h' sv sb, BL h' sv sb → sb.length = has.length → LInv has [] l sb → Keep h h' [] → K sv h') :
    AC (constX tb) (cFunc Try.prog) 53 [.agg [v1, v2], lv] fl h K := by
  refine AC.enter rfl f_wk_from (by simp) ?_
  simp only [c_wk_from]
  have hl1 := h1.len
  have hc1 := h1.cell
  have hre : has.length ≤ reach := by unfold reach; omega
  obtain ⟨H, hH⟩ : ∃ H, H = h ++ [some [v1, v2], some (List.replicate has.length (BV false)), some [v1, v2, .slice (h.length + 1) 0 has.length has.length true 1, .nil]] := ⟨_, rfl⟩
  have kH : Keep h H [] := by rw [hH]; exact Keep.ext _ _
  have hHl : H.length = h.length + 3 := by rw [hH]; simp
  have hR : RSt H (h.length + 2) v1 v2 (.slice (h.length + 1) 0 has.length has.length true 1) (List.replicate has.length false) .nil [] := by
    refine ⟨by rw [hH, blk_atK]; rfl, BL.made (by rw [hH, blk_atK]; rfl), OL.nil, by simp [idOf], by simp [idOf], by simp [idOf]⟩
  have hW : Wri fl H (h.length + 2) (.slice (h.length + 1) 0 has.length has.length true 1) .nil := ⟨hf _ (by omega), fun i hi => hf _ (by simp [idOf] at hi; omega), fun i hi => by simp [idOf] at hi, fun i hi => hf _ (by omega)⟩
  have hgo := fun (K2 : AV → Heap → Prop) (k2 : _) => reach_am (tb := tb) (K := K2) hR (hl.keep kH (by simp)) (fun i hi hm => by have := Sl.lt hl i hi; simp [idOf] at hm; omega) (by simpa using hb) hll (by rw [replicate_unseen]; simp; omega) hW k2
  have HH := Lib.hid hH
  have HL := Lib.hid hHl
  clear hH hHl
  repeat' (first | (simp only [AW_next, AW_ops, AW_cond, AW_block, AW_exit, AW_ret, AW_skip, AW_scope, AO_nil, AO_next, AO_nextW, wantB_bool, wantK_some, then_normal, then_exit, then_ret, inBlk_normal, inBlk_exit, inBlk_ret, A1_mv, A1_pick, A1_box, A1_zero, A1_build, A1_lits, A1_load, shallow_none, A1_store, A1_nilCheckI, nilOk_ptr, nilOk_func, A1_bin, A1_eqNil, A1_eqBool, A1_eqAgg, A1_un, A1_conv, A1_field, A1_fieldAddr, A1_indexAddr, A1_indexArr, A1_index, A1_slice, A1_mkSlice, A1_extract, A1_func, A1_call, A1_append, A1_len, A1_minmax, put_some, put_none, upd_at, ev_tmp, ev_av, bin_lss, bin_leq, bin_gtr, bin_geq, bin_eql, bin_neq, bin_add, bin_sub, bin_mul, un_not, natOf_nat, Bool.not_eq_false', Prod.mk.injEq, and_assoc, decide_false, decide_true, Bool.not_false, Bool.not_true, Bool.true_eq_false, Bool.false_eq_true, exists_false, Bool.not_eq_false, Bool.not_not, AV.val.injEq, AV.ptr.injEq, AV.slice.injEq, AV.func.injEq, AV.tuple.injEq, AV.agg.injEq, Value.bool.injEq, Value.int.injEq, Option.some.injEq, exists_eq_left', exists_eq_left, exists_and_left, exists_and_right, and_true, true_and, decide_eq_true_eq, decide_eq_false_iff_not, if_true, if_false, Bool.not_eq_true', beq_true, beq_false, ne_eq, not_true_eq_false, not_false_eq_true, reduceCtorEq, List.getD_cons_zero, List.getD_cons_succ, List.map_cons, List.map_nil, List.append_nil, Nat.reduceEqDiff, reduceIte, ite_true, ite_false, or_true, true_or, or_false, false_or, resA, resultsA, true_imp_iff, false_imp_iff, implies_true, imp_false, and_self, imp_self, and_false, false_and, forall_const, cell_val, cell_ptr, cell_slice, cell_func, cell_hole, cells_agg, cells_val, cells_ptr, cells_slice, cells_func, cells_hole, cells_cell, List.length_cons, List.length_nil, List.all_cons, List.all_nil, Bool.and_self, ldA, List.mapM_cons, List.mapM_nil, Option.bind_eq_bind, Option.bind_some, Option.pure_def, Option.map_none, Option.map_some, List.set_cons_zero, List.set_cons_succ, Nat.lt_add_one, List.append_assoc, List.cons_append, List.nil_append, List.append_nil, List.length_append, rd1_n0, rd1_nK, rd1_c0, rd1_cS, rd_n0, rd_nK, rd_c0, rd_cS, fillA, List.take_zero, List.take_succ_cons, List.take_nil, List.drop_zero, List.drop_succ_cons, List.drop_nil, List.getElem?_cons_zero, List.getElem?_cons_succ, Nat.reduceAdd, Nat.reduceLeDiff, Nat.add_eq_zero_iff, and_self, Nat.zero_add, Nat.add_zero, Nat.mul_one, hl1, natOf_nat, hre, Nat.le_refl, beq_self_eq_true, flat_one, *]) | (simp only [goO, AO_nil, then_normal, goC]) | (with_reducible apply And.intro) | (with_reducible intro _))
  rw [← HH.out]
  refine hgo _ fun h2 tv2 r1 r2 r3 => ?_
  repeat' (first | (simp only [AW_next, AW_ops, AW_cond, AW_block, AW_exit, AW_ret, AW_skip, AW_scope, AO_nil, AO_next, AO_nextW, wantB_bool, wantK_some, then_normal, then_exit, then_ret, inBlk_normal, inBlk_exit, inBlk_ret, A1_mv, A1_pick, A1_box, A1_zero, A1_build, A1_lits, A1_load, shallow_none, A1_store, A1_nilCheckI, nilOk_ptr, nilOk_func, A1_bin, A1_eqNil, A1_eqBool, A1_eqAgg, A1_un, A1_conv, A1_field, A1_fieldAddr, A1_indexAddr, A1_indexArr, A1_index, A1_slice, A1_mkSlice, A1_extract, A1_func, A1_call, A1_append, A1_len, A1_minmax, put_some, put_none, upd_at, ev_tmp, ev_av, bin_lss, bin_leq, bin_gtr, bin_geq, bin_eql, bin_neq, bin_add, bin_sub, bin_mul, un_not, natOf_nat, Bool.not_eq_false', Prod.mk.injEq, and_assoc, decide_false, decide_true, Bool.not_false, Bool.not_true, Bool.true_eq_false, Bool.false_eq_true, exists_false, Bool.not_eq_false, Bool.not_not, AV.val.injEq, AV.ptr.injEq, AV.slice.injEq, AV.func.injEq, AV.tuple.injEq, AV.agg.injEq, Value.bool.injEq, Value.int.injEq, Option.some.injEq, exists_eq_left', exists_eq_left, exists_and_left, exists_and_right, and_true, true_and, decide_eq_true_eq, decide_eq_false_iff_not, if_true, if_false, Bool.not_eq_true', beq_true, beq_false, ne_eq, not_true_eq_false, not_false_eq_true, reduceCtorEq, List.getD_cons_zero, List.getD_cons_succ, List.map_cons, List.map_nil, List.append_nil, Nat.reduceEqDiff, reduceIte, ite_true, ite_false, or_true, true_or, or_false, false_or, resA, resultsA, true_imp_iff, false_imp_iff, implies_true, imp_false, and_self, imp_self, and_false, false_and, forall_const, cell_val, cell_ptr, cell_slice, cell_func, cell_hole, cells_agg, cells_val, cells_ptr, cells_slice, cells_func, cells_hole, cells_cell, List.length_cons, List.length_nil, List.all_cons, List.all_nil, Bool.and_self, ldA, List.mapM_cons, List.mapM_nil, Option.bind_eq_bind, Option.bind_some, Option.pure_def, Option.map_none, Option.map_some, List.set_cons_zero, List.set_cons_succ, Nat.lt_add_one, List.append_assoc, List.cons_append, List.nil_append, List.append_nil, List.length_append, rd1_n0, rd1_nK, rd1_c0, rd1_cS, rd_n0, rd_nK, rd_c0, rd_cS, fillA, List.take_zero, List.take_succ_cons, List.take_nil, List.drop_zero, List.drop_succ_cons, List.drop_nil, List.getElem?_cons_zero, List.getElem?_cons_succ, Nat.reduceAdd, Nat.reduceLeDiff, Nat.add_eq_zero_iff, and_self, Nat.zero_add, Nat.add_zero, Nat.mul_one, *]) | (simp only [goO, AO_nil, then_normal, goC]) | (with_reducible apply And.intro) | (with_reducible intro _))
  have hG : GInv has (Liv has [] l) (reachL (List.replicate has.length false, []) l) := (GInv.start has _ has.length).reach fun x hx => ⟨by simpa using hb x hx, Liv.base hx⟩
  have hsn := reachL_seen l (List.replicate has.length false, []) (fun x hx => by have := hb x hx; simp; omega)
  have hll := reachL_length l (List.replicate has.length false, [])
  have hbd := reachL_bound l (List.replicate has.length false, []) (fun x hx => by have := hb x hx; simp; omega)
  obtain ⟨⟨sb1, td1⟩, hst⟩ : ∃ st, st = reachL (List.replicate has.length false, []) l := ⟨_, rfl⟩
  rw [← hst] at r1 hG hsn hll hbd
  clear hst
  dsimp only at r1 hsn hll hbd
  rw [List.length_replicate] at hll
  rw [replicate_unseen, List.length_nil] at hbd
  have hk2 : Keep h h2 [] := kH.then r2 (fun i hi => .inl hi) fun i hi => .inr (by simp [idOf] at hi; omega)
  have hL' := HL.out
  have hW2 : Wri fl h2 (h.length + 2) (.slice (h.length + 1) 0 has.length has.length true 1) tv2 := ⟨hW.f1, hW.f2, fun i hi => (r3 i hi).elim (fun q => by simp [idOf] at q) (fun q => hf i (by omega)), fun i hi => hf i (by have := hk2.1; omega)⟩
  have hge : ∀ i ∈ (h.length + 2) :: (idOf (.slice (h.length + 1) 0 has.length has.length true 1) ++ idOf tv2), h.length ≤ i := fun i hi => by
    simp only [List.mem_cons, List.mem_append] at hi
    rcases hi with q | q | q
    · omega
    · simp [idOf] at q; omega
    · exact (r3 i q).elim (fun q => by simp [idOf] at q) (fun q => by omega)
  refine all_am r1 hG.toA (by rw [hll]; exact hok) hk2 h1 hge hls (by omega) hW2 fun h3 tv3 sb3 q1 q2 q3 q4 => ?_
  have hlen3 : sb3.length = has.length := by
    have a := q1.seen.len
    simp [lenA] at a
    exact a.symm
  have fin := hK h3 _ sb3 q1.seen hlen3 (LInv.ofA q2 (fun n hn => hG.sub n hn) (fun x hx => (hsn _).2 (.inr ⟨x, hx, rfl⟩))) (hk2.then q3 (fun i hi => .inl hi) fun i hi => .inr (hge i hi))
  have rc := q1.rc
  clear hgo
  repeat' (first | (simp only [AW_next, AW_ops, AW_cond, AW_block, AW_exit, AW_ret, AW_skip, AW_scope, AO_nil, AO_next, AO_nextW, wantB_bool, wantK_some, then_normal, then_exit, then_ret, inBlk_normal, inBlk_exit, inBlk_ret, A1_mv, A1_pick, A1_box, A1_zero, A1_build, A1_lits, A1_load, shallow_none, A1_store, A1_nilCheckI, nilOk_ptr, nilOk_func, A1_bin, A1_eqNil, A1_eqBool, A1_eqAgg, A1_un, A1_conv, A1_field, A1_fieldAddr, A1_indexAddr, A1_indexArr, A1_index, A1_slice, A1_mkSlice, A1_extract, A1_func, A1_call, A1_append, A1_len, A1_minmax, put_some, put_none, upd_at, ev_tmp, ev_av, bin_lss, bin_leq, bin_gtr, bin_geq, bin_eql, bin_neq, bin_add, bin_sub, bin_mul, un_not, natOf_nat, Bool.not_eq_false', Prod.mk.injEq, and_assoc, decide_false, decide_true, Bool.not_false, Bool.not_true, Bool.true_eq_false, Bool.false_eq_true, exists_false, Bool.not_eq_false, Bool.not_not, AV.val.injEq, AV.ptr.injEq, AV.slice.injEq, AV.func.injEq, AV.tuple.injEq, AV.agg.injEq, Value.bool.injEq, Value.int.injEq, Option.some.injEq, exists_eq_left', exists_eq_left, exists_and_left, exists_and_right, and_true, true_and, decide_eq_true_eq, decide_eq_false_iff_not, if_true, if_false, Bool.not_eq_true', beq_true, beq_false, ne_eq, not_true_eq_false, not_false_eq_true, reduceCtorEq, List.getD_cons_zero, List.getD_cons_succ, List.map_cons, List.map_nil, List.append_nil, Nat.reduceEqDiff, reduceIte, ite_true, ite_false, or_true, true_or, or_false, false_or, resA, resultsA, true_imp_iff, false_imp_iff, implies_true, imp_false, and_self, imp_self, and_false, false_and, forall_const, cell_val, cell_ptr, cell_slice, cell_func, cell_hole, cells_agg, cells_val, cells_ptr, cells_slice, cells_func, cells_hole, cells_cell, List.length_cons, List.length_nil, List.all_cons, List.all_nil, Bool.and_self, ldA, List.mapM_cons, List.mapM_nil, Option.bind_eq_bind, Option.bind_some, Option.pure_def, Option.map_none, Option.map_some, List.set_cons_zero, List.set_cons_succ, Nat.lt_add_one, List.append_assoc, List.cons_append, List.nil_append, List.append_nil, List.length_append, rd1_n0, rd1_nK, rd1_c0, rd1_cS, rd_n0, rd_nK, rd_c0, rd_cS, fillA, List.take_zero, List.take_succ_cons, List.take_nil, List.drop_zero, List.drop_succ_cons, List.drop_nil, List.getElem?_cons_zero, List.getElem?_cons_succ, Nat.reduceAdd, Nat.reduceLeDiff, Nat.add_eq_zero_iff, and_self, Nat.zero_add, Nat.add_zero, Nat.mul_one, rd1_of rc, *]) | (simp only [goO, AO_nil, then_normal, goC]) | (with_reducible apply And.intro) | (with_reducible intro _))

theorem NewI.later {h h1 h2 : Heap} {v : AV} {l : List Int} (k : Keep h h1 []) (n : NewI h1 h2 v l) : NewI h h2 v l :=
  ⟨n.1, fun i hi => by have := n.2.1 i hi; have := k.1; omega, k.then n.2.2 (fun i hi => .inl hi) (fun i hi => .inl hi)⟩
theorem rising_live {has : List (List Int)} {ps : List (Int × Int)} {l : List Int} {sb : List Bool} (hl : sb.length = has.length) (h : LInv has ps l sb) (hp : ∀ p ∈ ps, Sn sb p.1.toNat → Sn sb p.2.toNat) : rising sb = liveL has ps l := by
  unfold liveL; rw [eq_liveSb hl (h.iff hp)]

end Go.Proofs.Ytpeagenjmmkohaa

namespace Go.Proofs.Ytpeagenjmmkohaa
open Go Go.RowKit
set_option linter.unusedVariables false
set_option linter.unusedSimpArgs false
variable {tb : List (FuncId × Bool)} {L : Nat → Bool} {H : ZH} {K : ZV → ZH → Prop}

theorem hasint_z {z : ZV} {l : List Int} {x : Int} (hz : rowsZ H 1 z = some (l.map eI)) (hb : l.length ≤ 1000000) (hK : K (ZBo (decide (x ∈ l))) H) :
    ZC (constX tb) (cFunc Try.prog) 16 [z, Z64 x] L H K := by
  refine ZC.enter Gh.no constX_none f_r_hasint (by simp) ?_
  simp only [c_r_hasint]
  have hlen := rows_len hz
  rw [List.length_map] at hlen
  repeat' (first | (simp only [zmPack, zxPack, ne_eq, zfree, owners, Nat.reduceLT, List.contains_cons, List.contains_nil, Nat.reduceBEq, BEq.rfl, chunk, setAt, List.lookup_cons, List.lookup_nil, reduceCtorEq, Nat.reduceEqDiff, reduceIte, implies_true, forall_const, Nat.reduceMul, Nat.reduceSub, Nat.reduceAdd, Nat.reduceLeDiff, hlen, *]) | (simp only [zgoO, zgoG, zO_nil, zthen_normal, zgoC]) | (with_reducible apply And.intro) | (with_reducible intro _))
  refine zW_forK [(1, Z64 x), (7, z)] l.length (fun k s' h' => h' = H ∧ x ∉ l.take k) (by omega) ⟨rfl, rfl, rfl, rfl, rfl, rfl⟩ rfl rfl (by repeat' (first | exact trivial | (refine ⟨rfl, ?_⟩) | (refine ⟨by simp only [zupd_at, Nat.reduceEqDiff, reduceIte]; assumption, ?_⟩))) rfl rfl (by decide) ⟨rfl, by simp⟩ ?_ ?_
  · rintro k s' h' hk ⟨rfl, hno⟩ hi hl ⟨f1, f7, -⟩
    obtain ⟨p, hp, hld⟩ := rows_at hz hk
    by_cases he : x = l[k]
    · have hy : decide (x ∈ l) = true := decide_eq_true (by rw [he]; exact List.getElem_mem _)
      rw [hy] at hK
      rw [← he] at hld
      clear he hy
      have fin := Fin.keep (H0 := h') hK
      repeat' (first | (simp only [zmPack, zxPack, ne_eq, zfree, owners, Nat.reduceLT, List.contains_cons, List.contains_nil, Nat.reduceBEq, BEq.rfl, chunk, setAt, List.lookup_cons, List.lookup_nil, reduceCtorEq, Nat.reduceEqDiff, reduceIte, implies_true, forall_const, Nat.reduceMul, Nat.reduceSub, Nat.reduceAdd, Nat.reduceLeDiff, hp, hld, *]) | (simp only [zgoO, zgoG, zO_nil, zthen_normal, zgoC]) | (with_reducible apply And.intro) | (with_reducible intro _))
    · have fin : x ∉ l.take (k + 1) := by
        rw [List.take_succ_eq_append_getElem hk]
        simp only [List.mem_append, List.mem_singleton, not_or]
        exact ⟨hno, he⟩
      clear hno
      repeat' (first | (simp only [zmPack, zxPack, ne_eq, zfree, owners, Nat.reduceLT, List.contains_cons, List.contains_nil, Nat.reduceBEq, BEq.rfl, chunk, setAt, List.lookup_cons, List.lookup_nil, reduceCtorEq, Nat.reduceEqDiff, reduceIte, implies_true, forall_const, Nat.reduceMul, Nat.reduceSub, Nat.reduceAdd, Nat.reduceLeDiff, hp, hld, *]) | (simp only [zgoO, zgoG, zO_nil, zthen_normal, zgoC]) | (with_reducible apply And.intro) | (with_reducible intro _))
  · rintro s' h' ⟨rfl, hno⟩ ⟨f1, f7, -⟩
    rw [List.take_of_length_le (Nat.le_refl _)] at hno
    have hy : decide (x ∈ l) = false := decide_eq_false hno
    rw [hy] at hK
    have fin := Fin.keep (H0 := h') hK
    clear hno hy
    repeat' (first | (simp only [zmPack, zxPack, ne_eq, zfree, owners, Nat.reduceLT, List.contains_cons, List.contains_nil, Nat.reduceBEq, BEq.rfl, chunk, setAt, List.lookup_cons, List.lookup_nil, reduceCtorEq, Nat.reduceEqDiff, reduceIte, implies_true, forall_const, Nat.reduceMul, Nat.reduceSub, Nat.reduceAdd, Nat.reduceLeDiff, *]) | (simp only [zgoO, zgoG, zO_nil, zthen_normal, zgoC]) | (with_reducible apply And.intro) | (with_reducible intro _))
theorem eqint_z {y z : ZV} {a b : List Int} (ha : rowsZ H 1 y = some (a.map eI)) (hb : rowsZ H 1 z = some (b.map eI)) (hl1 : a.length ≤ 1000000) (hl2 : b.length ≤ 1000000) (hK : K (ZBo (decide (a = b))) H) :
    ZC (constX tb) (cFunc Try.prog) 19 [y, z] L H K := by
  refine ZC.enter Gh.no constX_none f_r_eqint (by simp) ?_
  simp only [c_r_eqint]
  have ha' := rows_len ha
  have hb' := rows_len hb
  rw [List.length_map] at ha' hb'
  by_cases hlen : a.length = b.length
  · rw [hlen] at ha'
    have hlen := Lib.hid hlen
    repeat' (first | (simp only [zmPack, zxPack, ne_eq, zfree, owners, Nat.reduceLT, List.contains_cons, List.contains_nil, Nat.reduceBEq, BEq.rfl, chunk, setAt, List.lookup_cons, List.lookup_nil, reduceCtorEq, Nat.reduceEqDiff, reduceIte, implies_true, forall_const, Nat.reduceMul, Nat.reduceSub, Nat.reduceAdd, Nat.reduceLeDiff, ha', hb', *]) | (simp only [zgoO, zgoG, zO_nil, zthen_normal, zgoC]) | (with_reducible apply And.intro) | (with_reducible intro _))
    refine zW_forK [(1, z), (12, y)] b.length (fun k s' h' => h' = H ∧ a.take k = b.take k) (by omega) ⟨rfl, rfl, rfl, rfl, rfl, rfl⟩ rfl rfl (by repeat' (first | exact trivial | (refine ⟨rfl, ?_⟩) | (refine ⟨by simp only [zupd_at, Nat.reduceEqDiff, reduceIte]; assumption, ?_⟩))) rfl rfl (by decide) ⟨rfl, by simp⟩ ?_ ?_
    · rintro k s' h' hk ⟨rfl, hyes⟩ hi hl ⟨f1, f12, -⟩
      have hka : k < a.length := by rw [hlen.out]; exact hk
      obtain ⟨p, hp, hld⟩ := rows_at ha hka
      obtain ⟨q, hq, hlq⟩ := rows_at hb hk
      by_cases he : a[k] = b[k]
      · have fin : a.take (k + 1) = b.take (k + 1) := by
          rw [List.take_succ_eq_append_getElem hka, List.take_succ_eq_append_getElem hk, hyes, he]
        rw [he] at hld
        clear hyes he
        repeat' (first | (simp only [zmPack, zxPack, ne_eq, zfree, owners, Nat.reduceLT, List.contains_cons, List.contains_nil, Nat.reduceBEq, BEq.rfl, chunk, setAt, List.lookup_cons, List.lookup_nil, reduceCtorEq, Nat.reduceEqDiff, reduceIte, implies_true, forall_const, Nat.reduceMul, Nat.reduceSub, Nat.reduceAdd, Nat.reduceLeDiff, hp, hld, hq, hlq, *]) | (simp only [zgoO, zgoG, zO_nil, zthen_normal, zgoC]) | (with_reducible apply And.intro) | (with_reducible intro _))
      · have hy : decide (a = b) = false := decide_eq_false fun e => he (by subst e; rfl)
        rw [hy] at hK
        have fin := Fin.keep (H0 := h') hK
        clear hyes hy
        repeat' (first | (simp only [zmPack, zxPack, ne_eq, zfree, owners, Nat.reduceLT, List.contains_cons, List.contains_nil, Nat.reduceBEq, BEq.rfl, chunk, setAt, List.lookup_cons, List.lookup_nil, reduceCtorEq, Nat.reduceEqDiff, reduceIte, implies_true, forall_const, Nat.reduceMul, Nat.reduceSub, Nat.reduceAdd, Nat.reduceLeDiff, hp, hld, hq, hlq, *]) | (simp only [zgoO, zgoG, zO_nil, zthen_normal, zgoC]) | (with_reducible apply And.intro) | (with_reducible intro _))
    · rintro s' h' ⟨rfl, hyes⟩ ⟨f1, f12, -⟩
      rw [← hlen.out, List.take_of_length_le (Nat.le_refl _), hlen.out, List.take_of_length_le (Nat.le_refl _)] at hyes
      have hy : decide (a = b) = true := decide_eq_true hyes
      rw [hy] at hK
      have fin := Fin.keep (H0 := h') hK
      clear hyes hy
      repeat' (first | (simp only [zmPack, zxPack, ne_eq, zfree, owners, Nat.reduceLT, List.contains_cons, List.contains_nil, Nat.reduceBEq, BEq.rfl, chunk, setAt, List.lookup_cons, List.lookup_nil, reduceCtorEq, Nat.reduceEqDiff, reduceIte, implies_true, forall_const, Nat.reduceMul, Nat.reduceSub, Nat.reduceAdd, Nat.reduceLeDiff, *]) | (simp only [zgoO, zgoG, zO_nil, zthen_normal, zgoC]) | (with_reducible apply And.intro) | (with_reducible intro _))
  · have hN : (decide ((a.length : Int) = (b.length : Int))) = false := by simp; omega
    have hy : decide (a = b) = false := decide_eq_false fun e => hlen (by rw [e])
    rw [hy] at hK
    have fin := Fin.keep (H0 := H) hK
    clear hlen hy
    repeat' (first | (simp only [zmPack, zxPack, ne_eq, zfree, owners, Nat.reduceLT, List.contains_cons, List.contains_nil, Nat.reduceBEq, BEq.rfl, chunk, setAt, List.lookup_cons, List.lookup_nil, reduceCtorEq, Nat.reduceEqDiff, reduceIte, implies_true, forall_const, Nat.reduceMul, Nat.reduceSub, Nat.reduceAdd, Nat.reduceLeDiff, ha', hb', hN, *]) | (simp only [zgoO, zgoG, zO_nil, zthen_normal, zgoC]) | (with_reducible apply And.intro) | (with_reducible intro _))
end Go.Proofs.Ytpeagenjmmkohaa

namespace Go.Proofs.Ytpeagenjmmkohaa
open Go Go.RowKit
set_option linter.unusedVariables false
/-- backstitch/backstitchkeep3.MarkSteps: its code in AM. -/
def c_mk_steps : ACode := .seq (.ops [⟨(some 4), .mv (.av (.val (.bool false))), none, true⟩])
  (.seq (.seq (.ops [⟨(some 15), .call (.av (.func 21 [])) [], none, true⟩,
      ⟨(some 16), .un .not (.tmp 15), none, true⟩])
  (.cond (.tmp 16)
    (.seq (.ops [⟨(some 4), .mv (.av (.val (.bool false))), none, true⟩])
    (.ret))
    (.skip)))
  (.seq (.ops [⟨(some 18), .mv (.tmp 0), none, true⟩,
      ⟨(some 19), .call (.av (.func 13 [])) [(.tmp 18), (.av (.val (.int .i64 2)))], none, true⟩,
      ⟨(some 20), .bin .add (.av (.val (.int .i64 1))) (.tmp 19), none, true⟩,
      ⟨(some 21), .call (.av (.func 22 [])) [(.tmp 20)], none, true⟩,
      ⟨(some 17), .mv (.tmp 21), none, true⟩,
      ⟨(some 22), .extract 0 (.tmp 17), none, true⟩,
      ⟨(some 23), .extract 1 (.tmp 17), none, true⟩,
      ⟨(some 5), .mv (.tmp 22), none, true⟩,
      ⟨(some 6), .mv (.tmp 23), none, true⟩])
  (.seq (.seq (.ops [⟨(some 24), .mv (.tmp 6), none, true⟩,
      ⟨(some 25), .bin .neq (.tmp 24) (.av (.val (.int .i64 0))), none, true⟩,
      ⟨(some 26), .mv (.tmp 25), none, true⟩,
      ⟨(some 27), .mv (.tmp 5), (some (26, false)), true⟩,
      ⟨(some 28), .eqNil false 1 (.tmp 27), (some (26, false)), true⟩,
      ⟨(some 29), .pick (.tmp 26) (.av (.val (.bool true))) (.tmp 28), none, true⟩,
      ⟨(some 30), .mv (.tmp 29), none, true⟩,
      ⟨(some 31), .call (.av (.func 21 [])) [], (some (30, false)), true⟩,
      ⟨(some 32), .un .not (.tmp 31), (some (30, false)), true⟩,
      ⟨(some 33), .pick (.tmp 30) (.av (.val (.bool true))) (.tmp 32), none, true⟩])
  (.cond (.tmp 33)
    (.seq (.ops [⟨(some 4), .mv (.av (.val (.bool false))), none, true⟩])
    (.ret))
    (.skip)))
  (.seq (.ops [⟨(some 7), .mv (.av (.func 23 [])), none, true⟩])
  (.seq (.seq (.ops [⟨(some 34), .mv (.tmp 1), none, true⟩,
      ⟨(some 35), .mv (.tmp 1), none, true⟩,
      ⟨(some 36), .len (.tmp 35), none, true⟩,
      ⟨(some 37), .minmax false (.tmp 36) [(.av (.val (.int .i64 80)))], none, true⟩,
      ⟨(some 38), .slice 4 (.tmp 34) none (some (.tmp 37)) none, none, true⟩,
      ⟨(some 39), .len (.tmp 38), none, true⟩,
      ⟨(some 40), .mv (.av (.val (.int .i64 0))), none, true⟩])
  (rangeCode 0 1 41 40 39 141
    (.seq (.ops [⟨(some 42), .indexAddr 4 (.tmp 38) (.tmp 40), none, true⟩,
        ⟨(some 43), .load (some 4) (.tmp 42), none, true⟩,
        ⟨(some 9), .zero [(.val (.int .i64 0)), (.val (.int .i64 0)), (.val (.int .i64 0)), (.val (.int .i64 0))], none, true⟩,
        ⟨none, .store 4 (.tmp 9) (.tmp 43), none, true⟩])
    (.seq (.ops [⟨(some 44), .mv (.tmp 5), none, true⟩,
        ⟨(some 45), .call (.av (.func 24 [])) [(.tmp 44)], none, true⟩,
        ⟨(some 10), .mv (.tmp 45), none, true⟩])
    (.seq (.ops [⟨(some 46), .mv (.tmp 5), none, true⟩,
        ⟨(some 47), .call (.av (.func 25 [])) [(.tmp 46)], none, true⟩,
        ⟨(some 11), .mv (.tmp 47), none, true⟩])
    (.seq (.ops [⟨(some 49), .mv (.tmp 5), none, true⟩,
        ⟨(some 50), .load (some 4) (.tmp 9), none, true⟩,
        ⟨(some 51), .call (.av (.func 26 [])) [(.tmp 49), (.tmp 50)], none, true⟩,
        ⟨(some 48), .mv (.tmp 51), none, true⟩,
        ⟨(some 52), .extract 0 (.tmp 48), none, true⟩,
        ⟨(some 53), .extract 1 (.tmp 48), none, true⟩,
        ⟨(some 12), .mv (.tmp 52), none, true⟩,
        ⟨(some 13), .mv (.tmp 53), none, true⟩])
    (.seq (.ops [⟨(some 54), .mv (.tmp 5), none, true⟩,
        ⟨(some 55), .call (.av (.func 24 [])) [(.tmp 54)], none, true⟩,
        ⟨(some 14), .mv (.tmp 55), none, true⟩])
    (.seq (.seq (.ops [⟨(some 56), .fieldAddr 0 (.tmp 9), none, true⟩,
        ⟨(some 57), .load none (.tmp 56), none, true⟩,
        ⟨(some 58), .bin .eql (.tmp 57) (.av (.val (.int .i64 5))), none, true⟩,
        ⟨(some 59), .mv (.tmp 58), none, true⟩,
        ⟨(some 60), .mv (.tmp 13), (some (59, true)), true⟩,
        ⟨(some 61), .bin .eql (.tmp 60) (.av (.val (.int .i64 0))), (some (59, true)), true⟩,
        ⟨(some 62), .pick (.tmp 59) (.tmp 61) (.av (.val (.bool false))), none, true⟩,
        ⟨(some 63), .mv (.tmp 62), none, true⟩,
        ⟨(some 64), .mv (.tmp 12), (some (63, true)), true⟩,
        ⟨(some 65), .fieldAddr 3 (.tmp 9), (some (63, true)), true⟩,
        ⟨(some 66), .load none (.tmp 65), (some (63, true)), true⟩,
        ⟨(some 67), .bin .gtr (.tmp 64) (.tmp 66), (some (63, true)), true⟩,
        ⟨(some 68), .mv (.tmp 67), (some (63, true)), true⟩,
        ⟨(some 69), .mv (.tmp 7), (some (68, false)), true⟩,
        ⟨(some 70), .mv (.tmp 14), (some (68, false)), true⟩,
        ⟨(some 71), .call (.tmp 69) [(.tmp 70), (.av (.val (.int .i64 2)))], (some (68, false)), true⟩,
        ⟨(some 72), .mv (.tmp 7), (some (68, false)), true⟩,
        ⟨(some 73), .mv (.tmp 10), (some (68, false)), true⟩,
        ⟨(some 74), .call (.tmp 72) [(.tmp 73), (.av (.val (.int .i64 2)))], (some (68, false)), true⟩,
        ⟨(some 75), .mv (.tmp 12), (some (68, false)), true⟩,
        ⟨(some 76), .bin .add (.tmp 74) (.tmp 75), (some (68, false)), true⟩,
        ⟨(some 77), .bin .neq (.tmp 71) (.tmp 76), (some (68, false)), true⟩,
        ⟨(some 78), .pick (.tmp 68) (.av (.val (.bool true))) (.tmp 77), (some (63, true)), true⟩,
        ⟨(some 79), .mv (.tmp 78), (some (63, true)), true⟩,
        ⟨(some 80), .mv (.tmp 12), (some (79, false)), true⟩,
        ⟨(some 81), .fieldAddr 3 (.tmp 9), (some (79, false)), true⟩,
        ⟨(some 82), .load none (.tmp 81), (some (79, false)), true⟩,
        ⟨(some 83), .bin .lss (.tmp 80) (.tmp 82), (some (79, false)), true⟩,
        ⟨(some 84), .mv (.tmp 83), (some (79, false)), true⟩,
        ⟨(some 85), .mv (.tmp 7), (some (84, true)), true⟩,
        ⟨(some 86), .mv (.tmp 14), (some (84, true)), true⟩,
        ⟨(some 87), .call (.tmp 85) [(.tmp 86), (.av (.val (.int .i64 1)))], (some (84, true)), true⟩,
        ⟨(some 88), .bin .gtr (.tmp 87) (.av (.val (.int .i64 0))), (some (84, true)), true⟩,
        ⟨(some 89), .pick (.tmp 84) (.tmp 88) (.av (.val (.bool false))), (some (79, false)), true⟩,
        ⟨(some 90), .pick (.tmp 79) (.av (.val (.bool true))) (.tmp 89), (some (63, true)), true⟩,
        ⟨(some 91), .pick (.tmp 63) (.tmp 90) (.av (.val (.bool false))), none, true⟩])
    (.cond (.tmp 91)
      (.seq (.ops [⟨(some 4), .mv (.av (.val (.bool false))), none, true⟩])
      (.ret))
      (.skip)))
    (.seq (.seq (.ops [⟨(some 92), .fieldAddr 0 (.tmp 9), none, true⟩,
        ⟨(some 93), .load none (.tmp 92), none, true⟩,
        ⟨(some 94), .bin .eql (.tmp 93) (.av (.val (.int .i64 7))), none, true⟩,
        ⟨(some 95), .mv (.tmp 94), none, true⟩,
        ⟨(some 96), .mv (.tmp 13), (some (95, true)), true⟩,
        ⟨(some 97), .bin .eql (.tmp 96) (.av (.val (.int .i64 0))), (some (95, true)), true⟩,
        ⟨(some 98), .pick (.tmp 95) (.tmp 97) (.av (.val (.bool false))), none, true⟩,
        ⟨(some 99), .mv (.tmp 98), none, true⟩,
        ⟨(some 100), .mv (.tmp 7), (some (99, true)), true⟩,
        ⟨(some 101), .mv (.tmp 14), (some (99, true)), true⟩,
        ⟨(some 102), .call (.tmp 100) [(.tmp 101), (.av (.val (.int .i64 3)))], (some (99, true)), true⟩,
        ⟨(some 103), .mv (.tmp 7), (some (99, true)), true⟩,
        ⟨(some 104), .mv (.tmp 10), (some (99, true)), true⟩,
        ⟨(some 105), .call (.tmp 103) [(.tmp 104), (.av (.val (.int .i64 3)))], (some (99, true)), true⟩,
        ⟨(some 106), .mv (.tmp 12), (some (99, true)), true⟩,
        ⟨(some 107), .bin .add (.tmp 105) (.tmp 106), (some (99, true)), true⟩,
        ⟨(some 108), .bin .neq (.tmp 102) (.tmp 107), (some (99, true)), true⟩,
        ⟨(some 109), .mv (.tmp 108), (some (99, true)), true⟩,
        ⟨(some 110), .mv (.tmp 7), (some (109, false)), true⟩,
        ⟨(some 111), .mv (.tmp 14), (some (109, false)), true⟩,
        ⟨(some 112), .call (.tmp 110) [(.tmp 111), (.av (.val (.int .i64 1)))], (some (109, false)), true⟩,
        ⟨(some 113), .mv (.tmp 7), (some (109, false)), true⟩,
        ⟨(some 114), .mv (.tmp 14), (some (109, false)), true⟩,
        ⟨(some 115), .call (.tmp 113) [(.tmp 114), (.av (.val (.int .i64 2)))], (some (109, false)), true⟩,
        ⟨(some 116), .bin .add (.tmp 112) (.tmp 115), (some (109, false)), true⟩,
        ⟨(some 117), .bin .gtr (.tmp 116) (.av (.val (.int .i64 0))), (some (109, false)), true⟩,
        ⟨(some 118), .pick (.tmp 109) (.av (.val (.bool true))) (.tmp 117), (some (99, true)), true⟩,
        ⟨(some 119), .mv (.tmp 118), (some (99, true)), true⟩,
        ⟨(some 120), .mv (.tmp 5), (some (119, false)), true⟩,
        ⟨(some 121), .call (.av (.func 25 [])) [(.tmp 120)], (some (119, false)), true⟩,
        ⟨(some 122), .pick (.tmp 119) (.av (.val (.bool true))) (.tmp 121), (some (99, true)), true⟩,
        ⟨(some 123), .pick (.tmp 99) (.tmp 122) (.av (.val (.bool false))), none, true⟩])
    (.cond (.tmp 123)
      (.seq (.ops [⟨(some 4), .mv (.av (.val (.bool false))), none, true⟩])
      (.ret))
      (.skip)))
    (.seq (.ops [⟨(some 124), .mv (.tmp 11), none, true⟩,
        ⟨(some 125), .un .not (.tmp 124), none, true⟩,
        ⟨(some 126), .mv (.tmp 125), none, true⟩,
        ⟨(some 127), .mv (.tmp 5), (some (126, true)), true⟩,
        ⟨(some 128), .call (.av (.func 25 [])) [(.tmp 127)], (some (126, true)), true⟩,
        ⟨(some 129), .un .not (.tmp 128), (some (126, true)), true⟩,
        ⟨(some 130), .pick (.tmp 126) (.tmp 129) (.av (.val (.bool false))), none, true⟩,
        ⟨(some 131), .mv (.tmp 130), none, true⟩,
        ⟨(some 132), .mv (.tmp 7), (some (131, true)), true⟩,
        ⟨(some 133), .mv (.tmp 14), (some (131, true)), true⟩,
        ⟨(some 134), .call (.tmp 132) [(.tmp 133), (.av (.val (.int .i64 1)))], (some (131, true)), true⟩,
        ⟨(some 135), .mv (.tmp 7), (some (131, true)), true⟩,
        ⟨(some 136), .mv (.tmp 14), (some (131, true)), true⟩,
        ⟨(some 137), .call (.tmp 135) [(.tmp 136), (.av (.val (.int .i64 2)))], (some (131, true)), true⟩,
        ⟨(some 138), .bin .add (.tmp 134) (.tmp 137), (some (131, true)), true⟩,
        ⟨(some 139), .bin .gtr (.tmp 138) (.av (.val (.int .i64 0))), (some (131, true)), true⟩,
        ⟨(some 140), .pick (.tmp 131) (.tmp 139) (.av (.val (.bool false))), none, true⟩])
    (.cond (.tmp 140)
      (.seq (.ops [⟨(some 4), .mv (.av (.val (.bool false))), none, true⟩])
      (.ret))
      (.skip))))))))))))
  (.seq (.ops [⟨(some 4), .mv (.av (.val (.bool true))), none, true⟩])
  (.ret)))))))
theorem f_mk_steps : cFunc Try.prog 7 = some ⟨142, c_mk_steps, [.tmp 4]⟩ := by kernel_rfl
/-- backstitch/backstitchkeep3.MarkKeeps: its code in AM. -/
def c_mk_keeps : ACode := .seq (.ops [⟨(some 4), .mv (.av (.val (.bool false))), none, true⟩])
  (.seq (.seq (.ops [⟨(some 19), .call (.av (.func 21 [])) [], none, true⟩,
      ⟨(some 20), .un .not (.tmp 19), none, true⟩])
  (.cond (.tmp 20)
    (.seq (.ops [⟨(some 4), .mv (.av (.val (.bool false))), none, true⟩])
    (.ret))
    (.skip)))
  (.seq (.ops [⟨(some 22), .mv (.tmp 0), none, true⟩,
      ⟨(some 23), .call (.av (.func 13 [])) [(.tmp 22), (.av (.val (.int .i64 2)))], none, true⟩,
      ⟨(some 24), .bin .add (.av (.val (.int .i64 1))) (.tmp 23), none, true⟩,
      ⟨(some 25), .call (.av (.func 22 [])) [(.tmp 24)], none, true⟩,
      ⟨(some 21), .mv (.tmp 25), none, true⟩,
      ⟨(some 26), .extract 0 (.tmp 21), none, true⟩,
      ⟨(some 27), .extract 1 (.tmp 21), none, true⟩,
      ⟨(some 5), .mv (.tmp 26), none, true⟩,
      ⟨(some 6), .mv (.tmp 27), none, true⟩])
  (.seq (.seq (.ops [⟨(some 28), .mv (.tmp 6), none, true⟩,
      ⟨(some 29), .bin .neq (.tmp 28) (.av (.val (.int .i64 0))), none, true⟩,
      ⟨(some 30), .mv (.tmp 29), none, true⟩,
      ⟨(some 31), .mv (.tmp 5), (some (30, false)), true⟩,
      ⟨(some 32), .eqNil false 1 (.tmp 31), (some (30, false)), true⟩,
      ⟨(some 33), .pick (.tmp 30) (.av (.val (.bool true))) (.tmp 32), none, true⟩,
      ⟨(some 34), .mv (.tmp 33), none, true⟩,
      ⟨(some 35), .call (.av (.func 21 [])) [], (some (34, false)), true⟩,
      ⟨(some 36), .un .not (.tmp 35), (some (34, false)), true⟩,
      ⟨(some 37), .pick (.tmp 34) (.av (.val (.bool true))) (.tmp 36), none, true⟩])
  (.cond (.tmp 37)
    (.seq (.ops [⟨(some 4), .mv (.av (.val (.bool false))), none, true⟩])
    (.ret))
    (.skip)))
  (.seq (.ops [⟨(some 7), .mv (.av (.val (.slice none 0 0))), none, true⟩])
  (.seq (.seq (.ops [⟨(some 38), .mv (.tmp 1), none, true⟩,
      ⟨(some 39), .mv (.tmp 1), none, true⟩,
      ⟨(some 40), .len (.tmp 39), none, true⟩,
      ⟨(some 41), .minmax false (.tmp 40) [(.av (.val (.int .i64 100)))], none, true⟩,
      ⟨(some 42), .slice 4 (.tmp 38) none (some (.tmp 41)) none, none, true⟩,
      ⟨(some 43), .len (.tmp 42), none, true⟩,
      ⟨(some 44), .mv (.av (.val (.int .i64 0))), none, true⟩])
  (rangeCode 0 1 45 44 43 110
    (.seq (.ops [⟨(some 46), .indexAddr 4 (.tmp 42) (.tmp 44), none, true⟩,
        ⟨(some 47), .load (some 4) (.tmp 46), none, true⟩,
        ⟨(some 9), .zero [(.val (.int .i64 0)), (.val (.int .i64 0)), (.val (.int .i64 0)), (.val (.int .i64 0))], none, true⟩,
        ⟨none, .store 4 (.tmp 9) (.tmp 47), none, true⟩])
    (.seq (.ops [⟨(some 48), .mv (.tmp 5), none, true⟩,
        ⟨(some 49), .call (.av (.func 25 [])) [(.tmp 48)], none, true⟩,
        ⟨(some 10), .mv (.tmp 49), none, true⟩])
    (.seq (.ops [⟨(some 50), .mv (.tmp 5), none, true⟩,
        ⟨(some 51), .call (.av (.func 27 [])) [(.tmp 50)], none, true⟩,
        ⟨(some 11), .zero [(.val (.slice none 0 0)), (.val (.slice none 0 0))], none, true⟩,
        ⟨none, .store 2 (.tmp 11) (.tmp 51), none, true⟩])
    (.seq (.ops [⟨(some 53), .mv (.tmp 5), none, true⟩,
        ⟨(some 54), .load (some 4) (.tmp 9), none, true⟩,
        ⟨(some 55), .call (.av (.func 26 [])) [(.tmp 53), (.tmp 54)], none, true⟩,
        ⟨(some 52), .mv (.tmp 55), none, true⟩,
        ⟨(some 56), .extract 0 (.tmp 52), none, true⟩,
        ⟨(some 57), .extract 1 (.tmp 52), none, true⟩,
        ⟨(some 12), .mv (.tmp 56), none, true⟩,
        ⟨(some 13), .mv (.tmp 57), none, true⟩])
    (.seq (.seq (.ops [⟨(some 58), .mv (.tmp 10), none, true⟩,
        ⟨(some 59), .un .not (.tmp 58), none, true⟩,
        ⟨(some 60), .mv (.tmp 59), none, true⟩,
        ⟨(some 61), .mv (.tmp 5), (some (60, true)), true⟩,
        ⟨(some 62), .call (.av (.func 25 [])) [(.tmp 61)], (some (60, true)), true⟩,
        ⟨(some 63), .pick (.tmp 60) (.tmp 62) (.av (.val (.bool false))), none, true⟩])
    (.cond (.tmp 63)
      (.ops [⟨(some 64), .load (some 2) (.tmp 11), none, true⟩,
          ⟨(some 65), .fieldAddr 1 (.tmp 11), none, true⟩,
          ⟨(some 66), .load none (.tmp 65), none, true⟩,
          ⟨(some 67), .call (.av (.func 28 [])) [(.tmp 64), (.tmp 66), (.av (.val (.slice none 0 0)))], none, true⟩,
          ⟨(some 7), .mv (.tmp 67), none, true⟩])
      (.skip)))
    (.seq (.ops [⟨(some 68), .mv (.tmp 5), none, true⟩,
        ⟨(some 69), .call (.av (.func 27 [])) [(.tmp 68)], none, true⟩,
        ⟨(some 14), .zero [(.val (.slice none 0 0)), (.val (.slice none 0 0))], none, true⟩,
        ⟨none, .store 2 (.tmp 14) (.tmp 69), none, true⟩])
    (.seq (.ops [⟨(some 70), .mv (.tmp 5), none, true⟩,
        ⟨(some 71), .call (.av (.func 24 [])) [(.tmp 70)], none, true⟩,
        ⟨(some 15), .mv (.tmp 71), none, true⟩])
    (.seq (.seq (.ops [⟨(some 72), .load (some 2) (.tmp 14), none, true⟩,
        ⟨(some 73), .call (.av (.func 18 [])) [(.tmp 72)], none, true⟩,
        ⟨(some 74), .len (.tmp 73), none, true⟩,
        ⟨(some 75), .mv (.av (.val (.int .i64 0))), none, true⟩])
    (rangeCode 2 3 76 75 74 84
      (.seq (.ops [⟨(some 77), .indexAddr 1 (.tmp 73) (.tmp 75), none, true⟩,
          ⟨(some 78), .load none (.tmp 77), none, true⟩,
          ⟨(some 17), .mv (.tmp 78), none, true⟩])
      (.seq (.ops [⟨(some 79), .mv (.tmp 15), none, true⟩,
          ⟨(some 80), .mv (.tmp 17), none, true⟩,
          ⟨(some 81), .indexAddr 1 (.tmp 79) (.tmp 80), none, true⟩,
          ⟨(some 82), .load none (.tmp 81), none, true⟩,
          ⟨(some 83), .bin .eql (.tmp 82) (.av (.val (.int .i64 3))), none, true⟩])
      (.cond (.tmp 83)
        (.seq (.ops [⟨(some 4), .mv (.av (.val (.bool false))), none, true⟩])
        (.ret))
        (.skip))))))
    (.seq (.ops [⟨(some 85), .fieldAddr 0 (.tmp 9), none, true⟩,
        ⟨(some 86), .load none (.tmp 85), none, true⟩,
        ⟨(some 87), .bin .eql (.tmp 86) (.av (.val (.int .i64 7))), none, true⟩,
        ⟨(some 88), .mv (.tmp 87), none, true⟩,
        ⟨(some 89), .mv (.tmp 13), (some (88, true)), true⟩,
        ⟨(some 90), .bin .eql (.tmp 89) (.av (.val (.int .i64 0))), (some (88, true)), true⟩,
        ⟨(some 91), .pick (.tmp 88) (.tmp 90) (.av (.val (.bool false))), none, true⟩])
    (.cond (.tmp 91)
      (.seq (.ops [⟨(some 92), .mv (.tmp 7), none, true⟩,
          ⟨(some 93), .len (.tmp 92), none, true⟩,
          ⟨(some 94), .mv (.av (.val (.int .i64 0))), none, true⟩])
      (rangeCode 4 5 95 94 93 109
        (.seq (.ops [⟨(some 96), .mv (.tmp 94), none, true⟩,
            ⟨(some 18), .mv (.tmp 96), none, true⟩])
        (.seq (.ops [⟨(some 97), .mv (.tmp 7), none, true⟩,
            ⟨(some 98), .mv (.tmp 18), none, true⟩,
            ⟨(some 99), .indexAddr 1 (.tmp 97) (.tmp 98), none, true⟩,
            ⟨(some 100), .load none (.tmp 99), none, true⟩,
            ⟨(some 101), .un .not (.tmp 100), none, true⟩,
            ⟨(some 102), .mv (.tmp 101), none, true⟩,
            ⟨(some 103), .mv (.tmp 15), (some (102, true)), true⟩,
            ⟨(some 104), .mv (.tmp 18), (some (102, true)), true⟩,
            ⟨(some 105), .indexAddr 1 (.tmp 103) (.tmp 104), (some (102, true)), true⟩,
            ⟨(some 106), .load none (.tmp 105), (some (102, true)), true⟩,
            ⟨(some 107), .bin .neq (.tmp 106) (.av (.val (.int .i64 3))), (some (102, true)), true⟩,
            ⟨(some 108), .pick (.tmp 102) (.tmp 107) (.av (.val (.bool false))), none, true⟩])
        (.cond (.tmp 108)
          (.seq (.ops [⟨(some 4), .mv (.av (.val (.bool false))), none, true⟩])
          (.ret))
          (.skip))))))
      (.skip)))))))))))))
  (.seq (.ops [⟨(some 4), .mv (.av (.val (.bool true))), none, true⟩])
  (.ret)))))))
theorem f_mk_keeps : cFunc Try.prog 8 = some ⟨111, c_mk_keeps, [.tmp 4]⟩ := by kernel_rfl
/-- backstitch/backstitchkeep3.MarkColours: its code in AM. -/
def c_mk_cols : ACode := .seq (.ops [⟨(some 4), .mv (.av (.val (.bool false))), none, true⟩])
  (.seq (.seq (.ops [⟨(some 23), .call (.av (.func 21 [])) [], none, true⟩,
      ⟨(some 24), .un .not (.tmp 23), none, true⟩])
  (.cond (.tmp 24)
    (.seq (.ops [⟨(some 4), .mv (.av (.val (.bool false))), none, true⟩])
    (.ret))
    (.skip)))
  (.seq (.ops [⟨(some 25), .mv (.tmp 0), none, true⟩,
      ⟨(some 26), .call (.av (.func 13 [])) [(.tmp 25), (.av (.val (.int .i64 2)))], none, true⟩,
      ⟨(some 27), .bin .add (.av (.val (.int .i64 1))) (.tmp 26), none, true⟩,
      ⟨(some 5), .mv (.tmp 27), none, true⟩])
  (.seq (.ops [⟨(some 29), .mv (.tmp 5), none, true⟩,
      ⟨(some 30), .call (.av (.func 22 [])) [(.tmp 29)], none, true⟩,
      ⟨(some 28), .mv (.tmp 30), none, true⟩,
      ⟨(some 31), .extract 0 (.tmp 28), none, true⟩,
      ⟨(some 32), .extract 1 (.tmp 28), none, true⟩,
      ⟨(some 6), .mv (.tmp 31), none, true⟩,
      ⟨(some 7), .mv (.tmp 32), none, true⟩])
  (.seq (.seq (.ops [⟨(some 33), .mv (.tmp 7), none, true⟩,
      ⟨(some 34), .bin .neq (.tmp 33) (.av (.val (.int .i64 0))), none, true⟩,
      ⟨(some 35), .mv (.tmp 34), none, true⟩,
      ⟨(some 36), .mv (.tmp 6), (some (35, false)), true⟩,
      ⟨(some 37), .eqNil false 1 (.tmp 36), (some (35, false)), true⟩,
      ⟨(some 38), .pick (.tmp 35) (.av (.val (.bool true))) (.tmp 37), none, true⟩,
      ⟨(some 39), .mv (.tmp 38), none, true⟩,
      ⟨(some 40), .call (.av (.func 21 [])) [], (some (39, false)), true⟩,
      ⟨(some 41), .un .not (.tmp 40), (some (39, false)), true⟩,
      ⟨(some 42), .pick (.tmp 39) (.av (.val (.bool true))) (.tmp 41), none, true⟩])
  (.cond (.tmp 42)
    (.seq (.ops [⟨(some 4), .mv (.av (.val (.bool false))), none, true⟩])
    (.ret))
    (.skip)))
  (.seq (.seq (.ops [⟨(some 43), .mv (.tmp 1), none, true⟩,
      ⟨(some 44), .mv (.tmp 1), none, true⟩,
      ⟨(some 45), .len (.tmp 44), none, true⟩,
      ⟨(some 46), .minmax false (.tmp 45) [(.av (.val (.int .i64 80)))], none, true⟩,
      ⟨(some 47), .slice 4 (.tmp 43) none (some (.tmp 46)) none, none, true⟩,
      ⟨(some 48), .len (.tmp 47), none, true⟩,
      ⟨(some 49), .mv (.av (.val (.int .i64 0))), none, true⟩])
  (rangeCode 0 1 50 49 48 146
    (.seq (.ops [⟨(some 51), .indexAddr 4 (.tmp 47) (.tmp 49), none, true⟩,
        ⟨(some 52), .load (some 4) (.tmp 51), none, true⟩,
        ⟨(some 9), .zero [(.val (.int .i64 0)), (.val (.int .i64 0)), (.val (.int .i64 0)), (.val (.int .i64 0))], none, true⟩,
        ⟨none, .store 4 (.tmp 9) (.tmp 52), none, true⟩])
    (.seq (.ops [⟨(some 53), .mv (.tmp 6), none, true⟩,
        ⟨(some 54), .load (some 4) (.tmp 9), none, true⟩,
        ⟨(some 55), .call (.av (.func 26 [])) [(.tmp 53), (.tmp 54)], none, true⟩])
    (.seq (.seq (.ops [⟨(some 56), .mv (.tmp 6), none, true⟩,
        ⟨(some 57), .call (.av (.func 25 [])) [(.tmp 56)], none, true⟩,
        ⟨(some 58), .un .not (.tmp 57), none, true⟩])
    (.cond (.tmp 58)
      (.exit 1)
      (.skip)))
    (.seq (.ops [⟨(some 59), .mv (.tmp 6), none, true⟩,
        ⟨(some 60), .call (.av (.func 27 [])) [(.tmp 59)], none, true⟩,
        ⟨(some 61), .mv (.tmp 6), none, true⟩,
        ⟨(some 62), .call (.av (.func 24 [])) [(.tmp 61)], none, true⟩,
        ⟨(some 10), .zero [(.val (.slice none 0 0)), (.val (.slice none 0 0))], none, true⟩,
        ⟨none, .store 2 (.tmp 10) (.tmp 60), none, true⟩,
        ⟨(some 11), .mv (.tmp 62), none, true⟩])
    (.seq (.seq (.ops [⟨(some 63), .mv (.tmp 5), none, true⟩,
        ⟨(some 64), .bin .eql (.tmp 63) (.av (.val (.int .i64 1))), none, true⟩])
    (.cond (.tmp 64)
      (.seq (.seq (.ops [⟨(some 65), .fieldAddr 0 (.tmp 10), none, true⟩,
          ⟨(some 66), .load none (.tmp 65), none, true⟩,
          ⟨(some 67), .len (.tmp 66), none, true⟩,
          ⟨(some 68), .mv (.av (.val (.int .i64 0))), none, true⟩])
      (rangeCode 2 3 69 68 67 92
        (.seq (.ops [⟨(some 70), .mv (.tmp 68), none, true⟩,
            ⟨(some 71), .indexAddr 1 (.tmp 66) (.tmp 68), none, true⟩,
            ⟨(some 72), .load none (.tmp 71), none, true⟩,
            ⟨(some 12), .mv (.tmp 70), none, true⟩,
            ⟨(some 13), .mv (.tmp 72), none, true⟩])
        (.seq (.ops [⟨(some 73), .mv (.tmp 13), none, true⟩,
            ⟨(some 74), .len (.tmp 73), none, true⟩,
            ⟨(some 75), .mv (.av (.val (.int .i64 0))), none, true⟩])
        (rangeCode 4 5 76 75 74 91
          (.seq (.ops [⟨(some 77), .indexAddr 1 (.tmp 73) (.tmp 75), none, true⟩,
              ⟨(some 78), .load none (.tmp 77), none, true⟩,
              ⟨(some 15), .mv (.tmp 78), none, true⟩])
          (.seq (.ops [⟨(some 79), .mv (.tmp 11), none, true⟩,
              ⟨(some 80), .mv (.tmp 12), none, true⟩,
              ⟨(some 81), .indexAddr 1 (.tmp 79) (.tmp 80), none, true⟩,
              ⟨(some 82), .load none (.tmp 81), none, true⟩,
              ⟨(some 83), .bin .eql (.tmp 82) (.av (.val (.int .i64 2))), none, true⟩,
              ⟨(some 84), .mv (.tmp 83), none, true⟩,
              ⟨(some 85), .mv (.tmp 11), (some (84, true)), true⟩,
              ⟨(some 86), .mv (.tmp 15), (some (84, true)), true⟩,
              ⟨(some 87), .indexAddr 1 (.tmp 85) (.tmp 86), (some (84, true)), true⟩,
              ⟨(some 88), .load none (.tmp 87), (some (84, true)), true⟩,
              ⟨(some 89), .bin .eql (.tmp 88) (.av (.val (.int .i64 0))), (some (84, true)), true⟩,
              ⟨(some 90), .pick (.tmp 84) (.tmp 89) (.av (.val (.bool false))), none, true⟩])
          (.cond (.tmp 90)
            (.seq (.ops [⟨(some 4), .mv (.av (.val (.bool false))), none, true⟩])
            (.ret))
            (.skip)))))))))
      (.exit 1))
      (.skip)))
    (.seq (.ops [⟨(some 16), .mv (.av (.val (.slice none 0 0))), none, true⟩])
    (.seq (.ops [⟨(some 93), .build [(.val (.slice none 0 0)), (.val (.slice none 0 0))] [], none, true⟩,
        ⟨(some 17), .zero [(.val (.slice none 0 0)), (.val (.slice none 0 0))], none, true⟩,
        ⟨none, .store 2 (.tmp 17) (.tmp 93), none, true⟩])
    (.seq (.seq (.ops [⟨(some 94), .fieldAddr 0 (.tmp 10), none, true⟩,
        ⟨(some 95), .load none (.tmp 94), none, true⟩,
        ⟨(some 96), .len (.tmp 95), none, true⟩,
        ⟨(some 97), .mv (.av (.val (.int .i64 0))), none, true⟩])
    (rangeCode 6 7 98 97 96 122
      (.seq (.ops [⟨(some 99), .mv (.tmp 97), none, true⟩,
          ⟨(some 100), .indexAddr 1 (.tmp 95) (.tmp 97), none, true⟩,
          ⟨(some 101), .load none (.tmp 100), none, true⟩,
          ⟨(some 18), .mv (.tmp 99), none, true⟩,
          ⟨(some 19), .mv (.tmp 101), none, true⟩])
      (.seq (.seq (.ops [⟨(some 102), .mv (.tmp 11), none, true⟩,
          ⟨(some 103), .mv (.tmp 18), none, true⟩,
          ⟨(some 104), .indexAddr 1 (.tmp 102) (.tmp 103), none, true⟩,
          ⟨(some 105), .load none (.tmp 104), none, true⟩,
          ⟨(some 106), .bin .eql (.tmp 105) (.av (.val (.int .i64 1))), none, true⟩])
      (.cond (.tmp 106)
        (.ops [⟨(some 107), .mv (.tmp 16), none, true⟩,
            ⟨(some 108), .mv (.tmp 18), none, true⟩,
            ⟨(some 109), .lits 1 1 [(.val (.int .i64 0))] [(0, 1, (.tmp 108))], none, true⟩,
            ⟨(some 110), .append 1 8 (.tmp 107) (.tmp 109), none, true⟩,
            ⟨(some 16), .mv (.tmp 110), none, true⟩])
        (.skip)))
      (.seq (.seq (.ops [⟨(some 111), .mv (.tmp 11), none, true⟩,
          ⟨(some 112), .mv (.tmp 18), none, true⟩,
          ⟨(some 113), .indexAddr 1 (.tmp 111) (.tmp 112), none, true⟩,
          ⟨(some 114), .load none (.tmp 113), none, true⟩,
          ⟨(some 115), .bin .gtr (.tmp 114) (.av (.val (.int .i64 1))), none, true⟩])
      (.cond (.tmp 115)
        (.ops [⟨(some 19), .mv (.av (.val (.slice none 0 0))), none, true⟩])
        (.skip)))
      (.ops [⟨(some 116), .fieldAddr 0 (.tmp 17), none, true⟩,
          ⟨(some 117), .load none (.tmp 116), none, true⟩,
          ⟨(some 118), .mv (.tmp 19), none, true⟩,
          ⟨(some 119), .lits 1 1 [(.val (.slice none 0 0))] [(0, 1, (.tmp 118))], none, true⟩,
          ⟨(some 120), .append 1 24 (.tmp 117) (.tmp 119), none, true⟩,
          ⟨(some 121), .fieldAddr 0 (.tmp 17), none, true⟩,
          ⟨none, .store 1 (.tmp 121) (.tmp 120), none, true⟩]))))))
    (.seq (.ops [⟨(some 123), .load (some 2) (.tmp 17), none, true⟩,
        ⟨(some 124), .mv (.tmp 16), none, true⟩,
        ⟨(some 125), .call (.av (.func 28 [])) [(.tmp 123), (.tmp 124), (.av (.val (.slice none 0 0)))], none, true⟩,
        ⟨(some 20), .mv (.tmp 125), none, true⟩])
    (.seq (.ops [⟨(some 126), .load (some 2) (.tmp 10), none, true⟩,
        ⟨(some 127), .call (.av (.func 18 [])) [(.tmp 126)], none, true⟩,
        ⟨(some 128), .len (.tmp 127), none, true⟩,
        ⟨(some 129), .mv (.av (.val (.int .i64 0))), none, true⟩])
    (rangeCode 8 9 130 129 128 145
      (.seq (.ops [⟨(some 131), .indexAddr 1 (.tmp 127) (.tmp 129), none, true⟩,
          ⟨(some 132), .load none (.tmp 131), none, true⟩,
          ⟨(some 22), .mv (.tmp 132), none, true⟩])
      (.seq (.ops [⟨(some 133), .mv (.tmp 11), none, true⟩,
          ⟨(some 134), .mv (.tmp 22), none, true⟩,
          ⟨(some 135), .indexAddr 1 (.tmp 133) (.tmp 134), none, true⟩,
          ⟨(some 136), .load none (.tmp 135), none, true⟩,
          ⟨(some 137), .bin .eql (.tmp 136) (.av (.val (.int .i64 0))), none, true⟩,
          ⟨(some 138), .mv (.tmp 137), none, true⟩,
          ⟨(some 139), .mv (.tmp 20), (some (138, true)), true⟩,
          ⟨(some 140), .mv (.tmp 22), (some (138, true)), true⟩,
          ⟨(some 141), .indexAddr 1 (.tmp 139) (.tmp 140), (some (138, true)), true⟩,
          ⟨(some 142), .load none (.tmp 141), (some (138, true)), true⟩,
          ⟨(some 143), .un .not (.tmp 142), (some (138, true)), true⟩,
          ⟨(some 144), .pick (.tmp 138) (.tmp 143) (.av (.val (.bool false))), none, true⟩])
      (.cond (.tmp 144)
        (.seq (.ops [⟨(some 4), .mv (.av (.val (.bool false))), none, true⟩])
        (.ret))
        (.skip)))))))))))))))))
  (.seq (.ops [⟨(some 4), .mv (.av (.val (.bool true))), none, true⟩])
  (.ret)))))))
theorem f_mk_cols : cFunc Try.prog 9 = some ⟨147, c_mk_cols, [.tmp 4]⟩ := by kernel_rfl
/-- backstitch/backstitchkeep3.MarkRaces: its code in AM. -/
def c_mk_races : ACode := .seq (.ops [⟨(some 6), .mv (.av (.val (.bool false))), none, true⟩])
  (.seq (.seq (.ops [⟨(some 19), .call (.av (.func 21 [])) [], none, true⟩,
      ⟨(some 20), .un .not (.tmp 19), none, true⟩])
  (.cond (.tmp 20)
    (.seq (.ops [⟨(some 6), .mv (.av (.val (.bool false))), none, true⟩])
    (.ret))
    (.skip)))
  (.seq (.ops [⟨(some 22), .mv (.tmp 0), none, true⟩,
      ⟨(some 23), .call (.av (.func 13 [])) [(.tmp 22), (.av (.val (.int .i64 2)))], none, true⟩,
      ⟨(some 24), .bin .add (.av (.val (.int .i64 1))) (.tmp 23), none, true⟩,
      ⟨(some 25), .call (.av (.func 22 [])) [(.tmp 24)], none, true⟩,
      ⟨(some 21), .mv (.tmp 25), none, true⟩,
      ⟨(some 26), .extract 0 (.tmp 21), none, true⟩,
      ⟨(some 27), .extract 1 (.tmp 21), none, true⟩,
      ⟨(some 7), .mv (.tmp 26), none, true⟩,
      ⟨(some 8), .mv (.tmp 27), none, true⟩])
  (.seq (.seq (.ops [⟨(some 28), .mv (.tmp 8), none, true⟩,
      ⟨(some 29), .bin .neq (.tmp 28) (.av (.val (.int .i64 0))), none, true⟩,
      ⟨(some 30), .mv (.tmp 29), none, true⟩,
      ⟨(some 31), .mv (.tmp 7), (some (30, false)), true⟩,
      ⟨(some 32), .eqNil false 1 (.tmp 31), (some (30, false)), true⟩,
      ⟨(some 33), .pick (.tmp 30) (.av (.val (.bool true))) (.tmp 32), none, true⟩,
      ⟨(some 34), .mv (.tmp 33), none, true⟩,
      ⟨(some 35), .call (.av (.func 21 [])) [], (some (34, false)), true⟩,
      ⟨(some 36), .un .not (.tmp 35), (some (34, false)), true⟩,
      ⟨(some 37), .pick (.tmp 34) (.av (.val (.bool true))) (.tmp 36), none, true⟩])
  (.cond (.tmp 37)
    (.seq (.ops [⟨(some 6), .mv (.av (.val (.bool false))), none, true⟩])
    (.ret))
    (.skip)))
  (.seq (.seq (.ops [⟨(some 38), .mv (.tmp 1), none, true⟩,
      ⟨(some 39), .mv (.tmp 1), none, true⟩,
      ⟨(some 40), .len (.tmp 39), none, true⟩,
      ⟨(some 41), .minmax false (.tmp 40) [(.av (.val (.int .i64 60)))], none, true⟩,
      ⟨(some 42), .slice 4 (.tmp 38) none (some (.tmp 41)) none, none, true⟩,
      ⟨(some 43), .len (.tmp 42), none, true⟩,
      ⟨(some 44), .mv (.av (.val (.int .i64 0))), none, true⟩])
  (rangeCode 0 1 45 44 43 54
    (.seq (.ops [⟨(some 46), .indexAddr 4 (.tmp 42) (.tmp 44), none, true⟩,
        ⟨(some 47), .load (some 4) (.tmp 46), none, true⟩,
        ⟨(some 10), .zero [(.val (.int .i64 0)), (.val (.int .i64 0)), (.val (.int .i64 0)), (.val (.int .i64 0))], none, true⟩,
        ⟨none, .store 4 (.tmp 10) (.tmp 47), none, true⟩])
    (.seq (.ops [⟨(some 48), .fieldAddr 0 (.tmp 10), none, true⟩,
        ⟨(some 49), .load none (.tmp 48), none, true⟩,
        ⟨(some 50), .bin .lss (.tmp 49) (.av (.val (.int .i64 5))), none, true⟩])
    (.cond (.tmp 50)
      (.ops [⟨(some 51), .mv (.tmp 7), none, true⟩,
          ⟨(some 52), .load (some 4) (.tmp 10), none, true⟩,
          ⟨(some 53), .call (.av (.func 26 [])) [(.tmp 51), (.tmp 52)], none, true⟩])
      (.skip))))))
  (.seq (.ops [⟨(some 55), .mv (.tmp 7), none, true⟩,
      ⟨(some 56), .call (.av (.func 27 [])) [(.tmp 55)], none, true⟩,
      ⟨(some 57), .call (.av (.func 18 [])) [(.tmp 56)], none, true⟩,
      ⟨(some 11), .mv (.tmp 57), none, true⟩])
  (.seq (.ops [⟨(some 58), .mv (.tmp 7), none, true⟩,
      ⟨(some 59), .build [(.val (.int .i64 0)), (.val (.int .i64 0)), (.val (.int .i64 0)), (.val (.int .i64 0))] [(0, 1, (.av (.val (.int .i64 6))))], none, true⟩,
      ⟨(some 60), .call (.av (.func 26 [])) [(.tmp 58), (.tmp 59)], none, true⟩])
  (.seq (.seq (.ops [⟨(some 61), .mv (.tmp 2), none, true⟩,
      ⟨(some 62), .mv (.tmp 2), none, true⟩,
      ⟨(some 63), .len (.tmp 62), none, true⟩,
      ⟨(some 64), .minmax false (.tmp 63) [(.av (.val (.int .i64 20)))], none, true⟩,
      ⟨(some 65), .slice 1 (.tmp 61) none (some (.tmp 64)) none, none, true⟩,
      ⟨(some 66), .len (.tmp 65), none, true⟩,
      ⟨(some 67), .mv (.av (.val (.int .i64 0))), none, true⟩])
  (rangeCode 2 3 68 67 66 76
    (.seq (.ops [⟨(some 69), .indexAddr 1 (.tmp 65) (.tmp 67), none, true⟩,
        ⟨(some 70), .load none (.tmp 69), none, true⟩,
        ⟨(some 13), .mv (.tmp 70), none, true⟩])
    (.ops [⟨(some 71), .mv (.tmp 7), none, true⟩,
        ⟨(some 72), .mv (.tmp 13), none, true⟩,
        ⟨(some 73), .call (.av (.func 13 [])) [(.tmp 72), (.av (.val (.int .i64 5)))], none, true⟩,
        ⟨(some 74), .build [(.val (.int .i64 0)), (.val (.int .i64 0)), (.val (.int .i64 0)), (.val (.int .i64 0))] [(0, 1, (.av (.val (.int .i64 5)))), (3, 1, (.tmp 73))], none, true⟩,
        ⟨(some 75), .call (.av (.func 26 [])) [(.tmp 71), (.tmp 74)], none, true⟩]))))
  (.seq (.ops [⟨(some 78), .mv (.tmp 7), none, true⟩,
      ⟨(some 79), .build [(.val (.int .i64 0)), (.val (.int .i64 0)), (.val (.int .i64 0)), (.val (.int .i64 0))] [(0, 1, (.av (.val (.int .i64 7))))], none, true⟩,
      ⟨(some 80), .call (.av (.func 26 [])) [(.tmp 78), (.tmp 79)], none, true⟩,
      ⟨(some 77), .mv (.tmp 80), none, true⟩,
      ⟨(some 81), .extract 0 (.tmp 77), none, true⟩,
      ⟨(some 82), .extract 1 (.tmp 77), none, true⟩,
      ⟨(some 14), .mv (.tmp 81), none, true⟩,
      ⟨(some 15), .mv (.tmp 82), none, true⟩])
  (.seq (.ops [⟨(some 16), .mv (.av (.val (.slice none 0 0))), none, true⟩])
  (.seq (.seq (.ops [⟨(some 83), .mv (.tmp 7), none, true⟩,
      ⟨(some 84), .call (.av (.func 24 [])) [(.tmp 83)], none, true⟩,
      ⟨(some 85), .len (.tmp 84), none, true⟩,
      ⟨(some 86), .mv (.av (.val (.int .i64 0))), none, true⟩])
  (rangeCode 4 5 87 86 85 97
    (.seq (.ops [⟨(some 88), .mv (.tmp 86), none, true⟩,
        ⟨(some 89), .indexAddr 1 (.tmp 84) (.tmp 86), none, true⟩,
        ⟨(some 90), .load none (.tmp 89), none, true⟩,
        ⟨(some 17), .mv (.tmp 88), none, true⟩,
        ⟨(some 18), .mv (.tmp 90), none, true⟩])
    (.seq (.ops [⟨(some 91), .mv (.tmp 18), none, true⟩,
        ⟨(some 92), .bin .neq (.tmp 91) (.av (.val (.int .i64 3))), none, true⟩])
    (.cond (.tmp 92)
      (.ops [⟨(some 93), .mv (.tmp 16), none, true⟩,
          ⟨(some 94), .mv (.tmp 17), none, true⟩,
          ⟨(some 95), .lits 1 1 [(.val (.int .i64 0))] [(0, 1, (.tmp 94))], none, true⟩,
          ⟨(some 96), .append 1 8 (.tmp 93) (.tmp 95), none, true⟩,
          ⟨(some 16), .mv (.tmp 96), none, true⟩])
      (.skip))))))
  (.seq (.ops [⟨(some 98), .mv (.tmp 15), none, true⟩,
      ⟨(some 99), .bin .eql (.tmp 98) (.av (.val (.int .i64 0))), none, true⟩,
      ⟨(some 100), .mv (.tmp 99), none, true⟩,
      ⟨(some 101), .mv (.tmp 16), (some (100, true)), true⟩,
      ⟨(some 102), .mv (.tmp 11), (some (100, true)), true⟩,
      ⟨(some 103), .call (.av (.func 19 [])) [(.tmp 101), (.tmp 102)], (some (100, true)), true⟩,
      ⟨(some 104), .pick (.tmp 100) (.tmp 103) (.av (.val (.bool false))), none, true⟩,
      ⟨(some 105), .mv (.tmp 104), none, true⟩,
      ⟨(some 106), .mv (.tmp 7), (some (105, true)), true⟩,
      ⟨(some 107), .call (.av (.func 25 [])) [(.tmp 106)], (some (105, true)), true⟩,
      ⟨(some 108), .un .not (.tmp 107), (some (105, true)), true⟩,
      ⟨(some 109), .pick (.tmp 105) (.tmp 108) (.av (.val (.bool false))), none, true⟩,
      ⟨(some 6), .mv (.tmp 109), none, true⟩])
  (.ret))))))))))))
theorem f_mk_races : cFunc Try.prog 10 = some ⟨110, c_mk_races, [.tmp 6]⟩ := by kernel_rfl
/-- backstitch/backstitchref3.Rest: its code in AM. -/
def c_mk_rest : ACode := .seq (.ops [⟨(some 4), .mv (.av (.val (.int .i64 0))), none, true⟩])
  (.seq (.ops [⟨(some 6), .mv (.tmp 0), none, true⟩,
      ⟨(some 7), .mv (.tmp 1), none, true⟩,
      ⟨(some 8), .bin .rem (.tmp 6) (.tmp 7), none, true⟩,
      ⟨(some 5), .mv (.tmp 8), none, true⟩])
  (.seq (.seq (.ops [⟨(some 9), .mv (.tmp 5), none, true⟩,
      ⟨(some 10), .bin .lss (.tmp 9) (.av (.val (.int .i64 0))), none, true⟩])
  (.cond (.tmp 10)
    (.ops [⟨(some 11), .mv (.tmp 5), none, true⟩,
        ⟨(some 12), .mv (.tmp 1), none, true⟩,
        ⟨(some 13), .bin .add (.tmp 11) (.tmp 12), none, true⟩,
        ⟨(some 5), .mv (.tmp 13), none, true⟩])
    (.skip)))
  (.seq (.ops [⟨(some 14), .mv (.tmp 5), none, true⟩,
      ⟨(some 4), .mv (.tmp 14), none, true⟩])
  (.ret))))
theorem f_mk_rest : cFunc Try.prog 13 = some ⟨15, c_mk_rest, [.tmp 4]⟩ := by kernel_rfl
/-- backstitch/backstitchkeep3.neededIn: its code in AM. -/
def c_mk_neededin : ACode := .seq (.ops [⟨(some 1), .box 2 (.tmp 0), none, true⟩,
      ⟨(some 2), .mv (.av (.val (.slice none 0 0))), none, true⟩])
  (.seq (.ops [⟨(some 3), .load (some 2) (.tmp 1), none, true⟩,
      ⟨(some 4), .fieldAddr 1 (.tmp 1), none, true⟩,
      ⟨(some 5), .load none (.tmp 4), none, true⟩,
      ⟨(some 6), .call (.av (.func 28 [])) [(.tmp 3), (.tmp 5), (.av (.val (.slice none 0 0)))], none, true⟩,
      ⟨(some 7), .call (.av (.func 35 [])) [(.tmp 6)], none, true⟩,
      ⟨(some 2), .mv (.tmp 7), none, true⟩])
  (.ret))
theorem f_mk_neededin : cFunc Try.prog 18 = some ⟨8, c_mk_neededin, [.tmp 2]⟩ := by kernel_rfl
/-- backstitch/mark.New: its code in AM. -/
def c_mk_new : ACode := .seq (.ops [⟨(some 2), .mv (.av (.val (.pointer none))), none, true⟩,
      ⟨(some 3), .mv (.av (.val (.int .i64 0))), none, true⟩])
  (.seq (.seq (.ops [⟨(some 4), .mv (.tmp 0), none, true⟩,
      ⟨(some 5), .bin .neq (.tmp 4) (.av (.val (.int .i64 1))), none, true⟩,
      ⟨(some 6), .mv (.tmp 5), none, true⟩,
      ⟨(some 7), .mv (.tmp 0), (some (6, true)), true⟩,
      ⟨(some 8), .bin .neq (.tmp 7) (.av (.val (.int .i64 2))), (some (6, true)), true⟩,
      ⟨(some 9), .pick (.tmp 6) (.tmp 8) (.av (.val (.bool false))), none, true⟩])
  (.cond (.tmp 9)
    (.seq (.ops [⟨(some 2), .mv (.av (.val (.pointer none))), none, true⟩,
        ⟨(some 3), .mv (.av (.val (.int .i64 1))), none, true⟩])
    (.ret))
    (.skip)))
  (.seq (.ops [⟨(some 10), .mv (.tmp 0), none, true⟩,
      ⟨(some 11), .build [(.val (.int .i64 0)), (.val (.bool false)), (.val (.slice none 0 0))] [(0, 1, (.tmp 10))], none, true⟩,
      ⟨(some 12), .box 3 (.tmp 11), none, true⟩,
      ⟨(some 2), .mv (.tmp 12), none, true⟩,
      ⟨(some 3), .mv (.av (.val (.int .i64 0))), none, true⟩])
  (.ret)))
theorem f_mk_new : cFunc Try.prog 22 = some ⟨13, c_mk_new, [.tmp 2, .tmp 3]⟩ := by kernel_rfl
/-- backstitch/backstitchkeep3.MarkSteps$1: its code in AM. -/
def c_mk_count : ACode := .seq (.ops [⟨(some 4), .mv (.av (.val (.int .i64 0))), none, true⟩])
  (.seq (.ops [⟨(some 5), .mv (.av (.val (.int .i64 0))), none, true⟩])
  (.seq (.seq (.ops [⟨(some 8), .mv (.tmp 0), none, true⟩,
      ⟨(some 9), .len (.tmp 8), none, true⟩,
      ⟨(some 10), .mv (.av (.val (.int .i64 0))), none, true⟩])
  (rangeCode 0 1 11 10 9 19
    (.seq (.ops [⟨(some 12), .indexAddr 1 (.tmp 8) (.tmp 10), none, true⟩,
        ⟨(some 13), .load none (.tmp 12), none, true⟩,
        ⟨(some 7), .mv (.tmp 13), none, true⟩])
    (.seq (.ops [⟨(some 14), .mv (.tmp 7), none, true⟩,
        ⟨(some 15), .mv (.tmp 1), none, true⟩,
        ⟨(some 16), .bin .eql (.tmp 14) (.tmp 15), none, true⟩])
    (.cond (.tmp 16)
      (.ops [⟨(some 17), .mv (.tmp 5), none, true⟩,
          ⟨(some 18), .bin .add (.tmp 17) (.av (.val (.int .i64 1))), none, true⟩,
          ⟨(some 5), .mv (.tmp 18), none, true⟩])
      (.skip))))))
  (.seq (.ops [⟨(some 20), .mv (.tmp 5), none, true⟩,
      ⟨(some 4), .mv (.tmp 20), none, true⟩])
  (.ret))))
theorem f_mk_count : cFunc Try.prog 23 = some ⟨21, c_mk_count, [.tmp 4]⟩ := by kernel_rfl
/-- (*backstitch/mark.Marker).Colours: its code in AM. -/
def c_mk_colours : ACode := .seq (.ops [⟨(some 2), .mv (.av (.val (.slice none 0 0))), none, true⟩])
  (.seq (.ops [⟨(some 3), .mv (.av (.val (.slice none 0 0))), none, true⟩])
  (.seq (.seq (.ops [⟨(some 6), .mv (.tmp 0), none, true⟩,
      ⟨(some 7), .nilCheck (.tmp 6), none, true⟩,
      ⟨(some 8), .fieldAddr 2 (.tmp 7), none, true⟩,
      ⟨(some 9), .load none (.tmp 8), none, true⟩,
      ⟨(some 10), .len (.tmp 9), none, true⟩,
      ⟨(some 11), .mv (.av (.val (.int .i64 0))), none, true⟩])
  (rangeCode 0 1 12 11 10 20
    (.seq (.ops [⟨(some 13), .indexAddr 3 (.tmp 9) (.tmp 11), none, true⟩,
        ⟨(some 14), .load (some 3) (.tmp 13), none, true⟩,
        ⟨(some 5), .zero [(.val (.slice none 0 0)), (.val (.int .i64 0)), (.val (.bool false))], none, true⟩,
        ⟨none, .store 3 (.tmp 5) (.tmp 14), none, true⟩])
    (.ops [⟨(some 15), .mv (.tmp 3), none, true⟩,
        ⟨(some 16), .fieldAddr 1 (.tmp 5), none, true⟩,
        ⟨(some 17), .load none (.tmp 16), none, true⟩,
        ⟨(some 18), .lits 1 1 [(.val (.int .i64 0))] [(0, 1, (.tmp 17))], none, true⟩,
        ⟨(some 19), .append 1 8 (.tmp 15) (.tmp 18), none, true⟩,
        ⟨(some 3), .mv (.tmp 19), none, true⟩]))))
  (.seq (.ops [⟨(some 21), .mv (.tmp 3), none, true⟩,
      ⟨(some 2), .mv (.tmp 21), none, true⟩])
  (.ret))))
theorem f_mk_colours : cFunc Try.prog 24 = some ⟨22, c_mk_colours, [.tmp 2]⟩ := by kernel_rfl
/-- (*backstitch/mark.Marker).Marking: its code in AM. -/
def c_mk_marking : ACode := .seq (.ops [⟨(some 2), .mv (.av (.val (.bool false))), none, true⟩])
  (.seq (.ops [⟨(some 3), .mv (.tmp 0), none, true⟩,
      ⟨(some 4), .nilCheck (.tmp 3), none, true⟩,
      ⟨(some 5), .fieldAddr 1 (.tmp 4), none, true⟩,
      ⟨(some 6), .load none (.tmp 5), none, true⟩,
      ⟨(some 2), .mv (.tmp 6), none, true⟩])
  (.ret))
theorem f_mk_marking : cFunc Try.prog 25 = some ⟨7, c_mk_marking, [.tmp 2]⟩ := by kernel_rfl
/-- (*backstitch/mark.Marker).Do: its code in AM. -/
def c_mk_do : ACode := .seq (.ops [⟨(some 3), .box 4 (.tmp 1), none, true⟩,
      ⟨(some 4), .mv (.av (.val (.int .i64 0))), none, true⟩,
      ⟨(some 5), .mv (.av (.val (.int .i64 0))), none, true⟩])
  (.seq (.seq (.ops [⟨(some 6), .fieldAddr 0 (.tmp 3), none, true⟩,
      ⟨(some 7), .load none (.tmp 6), none, true⟩])
  (.block 0 (.seq (.ops [⟨(some 9), .bin .eql (.tmp 7) (.av (.val (.int .i64 1))), none, true⟩,
       ⟨(some 8), .mv (.tmp 9), none, true⟩])
   (.cond (.tmp 8)
     (.seq (.ops [⟨(some 10), .mv (.tmp 0), none, true⟩,
         ⟨(some 11), .fieldAddr 3 (.tmp 3), none, true⟩,
         ⟨(some 12), .load none (.tmp 11), none, true⟩,
         ⟨(some 13), .call (.av (.func 39 [])) [(.tmp 10), (.tmp 12)], none, true⟩,
         ⟨(some 14), .extract 0 (.tmp 13), none, true⟩,
         ⟨(some 15), .extract 1 (.tmp 13), none, true⟩,
         ⟨(some 4), .mv (.tmp 14), none, true⟩,
         ⟨(some 5), .mv (.tmp 15), none, true⟩])
     (.ret))
     (.seq (.ops [⟨(some 17), .bin .eql (.tmp 7) (.av (.val (.int .i64 2))), none, true⟩,
         ⟨(some 16), .mv (.tmp 17), none, true⟩])
     (.cond (.tmp 16)
       (.seq (.ops [⟨(some 18), .mv (.tmp 0), none, true⟩,
           ⟨(some 19), .load (some 4) (.tmp 3), none, true⟩,
           ⟨(some 20), .call (.av (.func 40 [])) [(.tmp 18), (.tmp 19)], none, true⟩,
           ⟨(some 4), .mv (.av (.val (.int .i64 0))), none, true⟩,
           ⟨(some 5), .mv (.tmp 20), none, true⟩])
       (.ret))
       (.seq (.seq (.ops [⟨(some 22), .bin .eql (.tmp 7) (.av (.val (.int .i64 4))), none, true⟩,
           ⟨(some 21), .mv (.tmp 22), none, true⟩])
       (.cond (.tmp 21)
         (.skip)
         (.ops [⟨(some 23), .bin .eql (.tmp 7) (.av (.val (.int .i64 3))), none, true⟩,
             ⟨(some 21), .mv (.tmp 23), none, true⟩])))
       (.cond (.tmp 21)
         (.seq (.ops [⟨(some 24), .mv (.tmp 0), none, true⟩,
             ⟨(some 25), .fieldAddr 1 (.tmp 3), none, true⟩,
             ⟨(some 26), .load none (.tmp 25), none, true⟩,
             ⟨(some 27), .fieldAddr 0 (.tmp 3), none, true⟩,
             ⟨(some 28), .load none (.tmp 27), none, true⟩,
             ⟨(some 29), .bin .eql (.tmp 28) (.av (.val (.int .i64 4))), none, true⟩,
             ⟨(some 30), .call (.av (.func 41 [])) [(.tmp 24), (.tmp 26), (.tmp 29)], none, true⟩,
             ⟨(some 4), .mv (.av (.val (.int .i64 0))), none, true⟩,
             ⟨(some 5), .mv (.tmp 30), none, true⟩])
         (.ret))
         (.seq (.ops [⟨(some 32), .bin .eql (.tmp 7) (.av (.val (.int .i64 6))), none, true⟩,
             ⟨(some 31), .mv (.tmp 32), none, true⟩])
         (.cond (.tmp 31)
           (.seq (.ops [⟨(some 33), .mv (.tmp 0), none, true⟩,
               ⟨(some 34), .call (.av (.func 42 [])) [(.tmp 33)], none, true⟩,
               ⟨(some 35), .extract 0 (.tmp 34), none, true⟩,
               ⟨(some 36), .extract 1 (.tmp 34), none, true⟩,
               ⟨(some 4), .mv (.tmp 35), none, true⟩,
               ⟨(some 5), .mv (.tmp 36), none, true⟩])
           (.ret))
           (.seq (.ops [⟨(some 38), .bin .eql (.tmp 7) (.av (.val (.int .i64 5))), none, true⟩,
               ⟨(some 37), .mv (.tmp 38), none, true⟩])
           (.cond (.tmp 37)
             (.seq (.ops [⟨(some 39), .mv (.tmp 0), none, true⟩,
                 ⟨(some 40), .fieldAddr 3 (.tmp 3), none, true⟩,
                 ⟨(some 41), .load none (.tmp 40), none, true⟩,
                 ⟨(some 42), .call (.av (.func 43 [])) [(.tmp 39), (.tmp 41)], none, true⟩,
                 ⟨(some 43), .extract 0 (.tmp 42), none, true⟩,
                 ⟨(some 44), .extract 1 (.tmp 42), none, true⟩,
                 ⟨(some 4), .mv (.tmp 43), none, true⟩,
                 ⟨(some 5), .mv (.tmp 44), none, true⟩])
             (.ret))
             (.seq (.ops [⟨(some 46), .bin .eql (.tmp 7) (.av (.val (.int .i64 7))), none, true⟩,
                 ⟨(some 45), .mv (.tmp 46), none, true⟩])
             (.cond (.tmp 45)
               (.seq (.ops [⟨(some 47), .mv (.tmp 0), none, true⟩,
                   ⟨(some 48), .call (.av (.func 44 [])) [(.tmp 47)], none, true⟩,
                   ⟨(some 49), .extract 0 (.tmp 48), none, true⟩,
                   ⟨(some 50), .extract 1 (.tmp 48), none, true⟩,
                   ⟨(some 4), .mv (.tmp 49), none, true⟩,
                   ⟨(some 5), .mv (.tmp 50), none, true⟩])
               (.ret))
               (.skip)))))))))))))))
  (.seq (.ops [⟨(some 4), .mv (.av (.val (.int .i64 0))), none, true⟩,
      ⟨(some 5), .mv (.av (.val (.int .i64 7))), none, true⟩])
  (.ret)))
theorem f_mk_do : cFunc Try.prog 26 = some ⟨51, c_mk_do, [.tmp 4, .tmp 5]⟩ := by kernel_rfl
/-- (*backstitch/mark.Marker).Graph: its code in AM. -/
def c_mk_graph : ACode := .seq (.ops [⟨(some 2), .zero [(.val (.slice none 0 0)), (.val (.slice none 0 0))], none, true⟩])
  (.seq (.ops [⟨(some 3), .zero [(.val (.slice none 0 0)), (.val (.slice none 0 0))], none, true⟩])
  (.seq (.seq (.ops [⟨(some 6), .mv (.tmp 0), none, true⟩,
      ⟨(some 7), .nilCheck (.tmp 6), none, true⟩,
      ⟨(some 8), .fieldAddr 2 (.tmp 7), none, true⟩,
      ⟨(some 9), .load none (.tmp 8), none, true⟩,
      ⟨(some 10), .len (.tmp 9), none, true⟩,
      ⟨(some 11), .mv (.av (.val (.int .i64 0))), none, true⟩])
  (rangeCode 0 1 12 11 10 33
    (.seq (.ops [⟨(some 13), .mv (.tmp 11), none, true⟩,
        ⟨(some 14), .indexAddr 3 (.tmp 9) (.tmp 11), none, true⟩,
        ⟨(some 15), .load (some 3) (.tmp 14), none, true⟩,
        ⟨(some 5), .zero [(.val (.slice none 0 0)), (.val (.int .i64 0)), (.val (.bool false))], none, true⟩,
        ⟨(some 4), .mv (.tmp 13), none, true⟩,
        ⟨none, .store 3 (.tmp 5) (.tmp 15), none, true⟩])
    (.seq (.ops [⟨(some 16), .fieldAddr 0 (.tmp 3), none, true⟩,
        ⟨(some 17), .load none (.tmp 16), none, false⟩,
        ⟨(some 18), .fieldAddr 0 (.tmp 5), none, true⟩,
        ⟨(some 19), .load none (.tmp 18), none, true⟩,
        ⟨(some 20), .call (.av (.func 46 [])) [(.tmp 19)], none, false⟩,
        ⟨(some 21), .call (.av (.func 45 [])) [(.tmp 20), (.av (.func 47 []))], none, false⟩,
        ⟨(some 22), .lits 1 1 [(.val (.slice none 0 0))] [(0, 1, (.tmp 21))], none, true⟩,
        ⟨(some 23), .append 1 24 (.tmp 17) (.tmp 22), none, true⟩,
        ⟨(some 24), .fieldAddr 0 (.tmp 3), none, true⟩,
        ⟨none, .store 1 (.tmp 24) (.tmp 23), none, true⟩])
    (.seq (.ops [⟨(some 25), .fieldAddr 2 (.tmp 5), none, true⟩,
        ⟨(some 26), .load none (.tmp 25), none, true⟩])
    (.cond (.tmp 26)
      (.ops [⟨(some 27), .fieldAddr 1 (.tmp 3), none, true⟩,
          ⟨(some 28), .load none (.tmp 27), none, true⟩,
          ⟨(some 29), .mv (.tmp 4), none, true⟩,
          ⟨(some 30), .lits 1 1 [(.val (.int .i64 0))] [(0, 1, (.tmp 29))], none, true⟩,
          ⟨(some 31), .append 1 8 (.tmp 28) (.tmp 30), none, true⟩,
          ⟨(some 32), .fieldAddr 1 (.tmp 3), none, true⟩,
          ⟨none, .store 1 (.tmp 32) (.tmp 31), none, true⟩])
      (.skip)))))))
  (.seq (.ops [⟨(some 34), .load (some 2) (.tmp 3), none, true⟩,
      ⟨none, .store 2 (.tmp 2) (.tmp 34), none, true⟩])
  (.ret))))
theorem f_mk_graph : cFunc Try.prog 27 = some ⟨35, c_mk_graph, [.cell 2 (some 2)]⟩ := by kernel_rfl
/-- backstitch/backstitchref3.From: its code in AM. -/
def c_mk_from : ACode := .seq (.ops [⟨(some 3), .box 2 (.tmp 0), none, true⟩,
      ⟨(some 6), .mv (.av (.val (.slice none 0 0))), none, true⟩])
  (.seq (.ops [⟨(some 18), .fieldAddr 0 (.tmp 3), none, true⟩,
      ⟨(some 19), .load none (.tmp 18), none, true⟩,
      ⟨(some 20), .len (.tmp 19), none, true⟩,
      ⟨(some 21), .mkSlice 1 1 [(.val (.bool false))] (.tmp 20) (.tmp 20), none, true⟩,
      ⟨(some 7), .zero [(.val (.slice none 0 0))], none, true⟩,
      ⟨none, .store 1 (.tmp 7) (.tmp 21), none, true⟩])
  (.seq (.seq (.ops [⟨(some 22), .mv (.tmp 1), none, true⟩,
      ⟨(some 23), .len (.tmp 22), none, true⟩,
      ⟨(some 24), .mv (.av (.val (.int .i64 0))), none, true⟩])
  (rangeCode 0 1 25 24 23 31
    (.seq (.ops [⟨(some 26), .indexAddr 1 (.tmp 22) (.tmp 24), none, true⟩,
        ⟨(some 27), .load none (.tmp 26), none, true⟩,
        ⟨(some 9), .mv (.tmp 27), none, true⟩])
    (.ops [⟨(some 28), .load none (.tmp 7), none, true⟩,
        ⟨(some 29), .mv (.tmp 9), none, true⟩,
        ⟨(some 30), .indexAddr 1 (.tmp 28) (.tmp 29), none, true⟩,
        ⟨none, .store 1 (.tmp 30) (.av (.val (.bool true))), none, true⟩]))))
  (.seq (.seq (.ops [⟨(some 10), .zero [(.val (.bool false))], none, true⟩,
      ⟨none, .store 1 (.tmp 10) (.av (.val (.bool true))), none, true⟩])
  (.block 2 (.loop (.seq (.seq (.ops [⟨(some 32), .load none (.tmp 10), none, true⟩])
    (.cond (.tmp 32)
      (.skip)
      (.exit 2)))
    (.seq (.block 3 (.seq (.ops [⟨none, .store 1 (.tmp 10) (.av (.val (.bool false))), none, true⟩])
     (.seq (.ops [⟨(some 33), .func 48 [(.tmp 10), (.tmp 7)], none, true⟩,
         ⟨(some 11), .mv (.tmp 33), none, true⟩])
     (.seq (.seq (.ops [⟨(some 34), .fieldAddr 0 (.tmp 3), none, true⟩,
         ⟨(some 35), .load none (.tmp 34), none, true⟩,
         ⟨(some 36), .len (.tmp 35), none, true⟩,
         ⟨(some 37), .mv (.av (.val (.int .i64 0))), none, true⟩])
     (rangeCode 4 5 38 37 36 56
       (.seq (.ops [⟨(some 39), .mv (.tmp 37), none, true⟩,
           ⟨(some 40), .indexAddr 1 (.tmp 35) (.tmp 37), none, true⟩,
           ⟨(some 41), .load none (.tmp 40), none, true⟩,
           ⟨(some 12), .mv (.tmp 39), none, true⟩,
           ⟨(some 13), .mv (.tmp 41), none, true⟩])
       (.seq (.ops [⟨(some 42), .mv (.tmp 13), none, true⟩,
           ⟨(some 43), .len (.tmp 42), none, true⟩,
           ⟨(some 44), .mv (.av (.val (.int .i64 0))), none, true⟩])
       (rangeCode 6 7 45 44 43 55
         (.seq (.ops [⟨(some 46), .indexAddr 1 (.tmp 42) (.tmp 44), none, true⟩,
             ⟨(some 47), .load none (.tmp 46), none, true⟩,
             ⟨(some 15), .mv (.tmp 47), none, true⟩])
         (.seq (.ops [⟨(some 48), .load none (.tmp 7), none, true⟩,
             ⟨(some 49), .mv (.tmp 12), none, true⟩,
             ⟨(some 50), .indexAddr 1 (.tmp 48) (.tmp 49), none, true⟩,
             ⟨(some 51), .load none (.tmp 50), none, true⟩])
         (.cond (.tmp 51)
           (.ops [⟨(some 52), .mv (.tmp 11), none, true⟩,
               ⟨(some 53), .mv (.tmp 15), none, true⟩,
               ⟨(some 54), .call (.tmp 52) [(.tmp 53)], none, true⟩])
           (.skip)))))))))
     (.seq (.ops [⟨(some 57), .mv (.tmp 2), none, true⟩,
         ⟨(some 58), .len (.tmp 57), none, true⟩,
         ⟨(some 59), .mv (.av (.val (.int .i64 0))), none, true⟩])
     (rangeCode 8 9 60 59 58 72
       (.seq (.ops [⟨(some 61), .indexAddr 2 (.tmp 57) (.tmp 59), none, true⟩,
           ⟨(some 62), .load (some 2) (.tmp 61), none, true⟩,
           ⟨(some 17), .zero [(.val (.int .i64 0)), (.val (.int .i64 0))], none, true⟩,
           ⟨none, .store 2 (.tmp 17) (.tmp 62), none, true⟩])
       (.seq (.ops [⟨(some 63), .load none (.tmp 7), none, true⟩,
           ⟨(some 64), .fieldAddr 0 (.tmp 17), none, true⟩,
           ⟨(some 65), .load none (.tmp 64), none, true⟩,
           ⟨(some 66), .indexAddr 1 (.tmp 63) (.tmp 65), none, true⟩,
           ⟨(some 67), .load none (.tmp 66), none, true⟩])
       (.cond (.tmp 67)
         (.ops [⟨(some 68), .mv (.tmp 11), none, true⟩,
             ⟨(some 69), .fieldAddr 1 (.tmp 17), none, true⟩,
             ⟨(some 70), .load none (.tmp 69), none, true⟩,
             ⟨(some 71), .call (.tmp 68) [(.tmp 70)], none, true⟩])
         (.skip))))))))))
    (.seq (.ops [⟨(some 73), .load none (.tmp 10), none, true⟩])
    (.ops [⟨(some 10), .zero [(.val (.bool false))], none, true⟩,
        ⟨none, .store 1 (.tmp 10) (.tmp 73), none, true⟩])))))))
  (.seq (.ops [⟨(some 74), .load none (.tmp 7), none, true⟩,
      ⟨(some 6), .mv (.tmp 74), none, true⟩])
  (.ret)))))
theorem f_mk_from : cFunc Try.prog 28 = some ⟨75, c_mk_from, [.tmp 6]⟩ := by kernel_rfl
/-- backstitch/backstitchref3.Rising: its code in AM. -/
def c_mk_rising : ACode := .seq (.ops [⟨(some 2), .mv (.av (.val (.slice none 0 0))), none, true⟩])
  (.seq (.ops [⟨(some 3), .mv (.av (.val (.slice none 0 0))), none, true⟩])
  (.seq (.seq (.ops [⟨(some 6), .mv (.tmp 0), none, true⟩,
      ⟨(some 7), .len (.tmp 6), none, true⟩,
      ⟨(some 8), .mv (.av (.val (.int .i64 0))), none, true⟩])
  (rangeCode 0 1 9 8 7 18
    (.seq (.ops [⟨(some 10), .mv (.tmp 8), none, true⟩,
        ⟨(some 11), .indexAddr 1 (.tmp 6) (.tmp 8), none, true⟩,
        ⟨(some 12), .load none (.tmp 11), none, true⟩,
        ⟨(some 4), .mv (.tmp 10), none, true⟩,
        ⟨(some 5), .mv (.tmp 12), none, true⟩])
    (.seq (.ops [⟨(some 13), .mv (.tmp 5), none, true⟩])
    (.cond (.tmp 13)
      (.ops [⟨(some 14), .mv (.tmp 3), none, true⟩,
          ⟨(some 15), .mv (.tmp 4), none, true⟩,
          ⟨(some 16), .lits 1 1 [(.val (.int .i64 0))] [(0, 1, (.tmp 15))], none, true⟩,
          ⟨(some 17), .append 1 8 (.tmp 14) (.tmp 16), none, true⟩,
          ⟨(some 3), .mv (.tmp 17), none, true⟩])
      (.skip))))))
  (.seq (.ops [⟨(some 19), .mv (.tmp 3), none, true⟩,
      ⟨(some 2), .mv (.tmp 19), none, true⟩])
  (.ret))))
theorem f_mk_rising : cFunc Try.prog 35 = some ⟨20, c_mk_rising, [.tmp 2]⟩ := by kernel_rfl
/-- (*backstitch/mark.Marker).make: its code in AM. -/
def c_mk_make : ACode := .seq (.ops [⟨(some 4), .mv (.av (.val (.int .i64 0))), none, true⟩,
      ⟨(some 5), .mv (.av (.val (.int .i64 0))), none, true⟩])
  (.seq (.block 0 (.seq (.ops [⟨(some 8), .mv (.tmp 1), none, true⟩,
       ⟨(some 9), .bin .lss (.tmp 8) (.av (.val (.int .i64 0))), none, true⟩,
       ⟨(some 10), .mv (.tmp 9), none, true⟩,
       ⟨(some 11), .mv (.tmp 1), (some (10, false)), true⟩,
       ⟨(some 12), .bin .gtr (.tmp 11) (.av (.val (.int .i64 10))), (some (10, false)), true⟩,
       ⟨(some 13), .pick (.tmp 10) (.av (.val (.bool true))) (.tmp 12), none, true⟩,
       ⟨(some 7), .mv (.tmp 13), none, true⟩])
   (.cond (.tmp 7)
     (.seq (.ops [⟨(some 4), .mv (.av (.val (.int .i64 0))), none, true⟩,
         ⟨(some 5), .mv (.av (.val (.int .i64 1))), none, true⟩])
     (.ret))
     (.seq (.ops [⟨(some 15), .mv (.tmp 0), none, true⟩,
         ⟨(some 16), .nilCheck (.tmp 15), none, true⟩,
         ⟨(some 17), .fieldAddr 2 (.tmp 16), none, true⟩,
         ⟨(some 18), .load none (.tmp 17), none, true⟩,
         ⟨(some 19), .len (.tmp 18), none, true⟩,
         ⟨(some 20), .bin .geq (.tmp 19) (.av (.val (.int .i64 100))), none, true⟩,
         ⟨(some 14), .mv (.tmp 20), none, true⟩])
     (.cond (.tmp 14)
       (.seq (.ops [⟨(some 4), .mv (.av (.val (.int .i64 0))), none, true⟩,
           ⟨(some 5), .mv (.av (.val (.int .i64 2))), none, true⟩])
       (.ret))
       (.skip))))))
  (.seq (.ops [⟨(some 21), .lits 1 1 [(.val (.int .i64 0))] [(0, 1, (.av (.val (.int .i64 (-1)))))], none, true⟩,
      ⟨(some 22), .mv (.tmp 1), none, true⟩,
      ⟨(some 23), .call (.av (.func 49 [])) [(.tmp 21), (.tmp 22)], none, true⟩,
      ⟨(some 24), .build [(.val (.slice none 0 0)), (.val (.int .i64 0)), (.val (.bool false))] [(0, 1, (.tmp 23)), (2, 1, (.av (.val (.bool true))))], none, true⟩,
      ⟨(some 6), .zero [(.val (.slice none 0 0)), (.val (.int .i64 0)), (.val (.bool false))], none, true⟩,
      ⟨none, .store 3 (.tmp 6) (.tmp 24), none, true⟩])
  (.seq (.seq (.ops [⟨(some 25), .mv (.tmp 0), none, true⟩,
      ⟨(some 26), .nilCheck (.tmp 25), none, true⟩,
      ⟨(some 27), .fieldAddr 1 (.tmp 26), none, true⟩,
      ⟨(some 28), .load none (.tmp 27), none, true⟩])
  (.cond (.tmp 28)
    (.ops [⟨(some 29), .fieldAddr 1 (.tmp 6), none, true⟩,
        ⟨none, .store 1 (.tmp 29) (.av (.val (.int .i64 2))), none, true⟩])
    (.skip)))
  (.seq (.ops [⟨(some 30), .mv (.tmp 0), none, true⟩,
      ⟨(some 31), .mv (.tmp 0), none, true⟩,
      ⟨(some 32), .nilCheck (.tmp 31), none, true⟩,
      ⟨(some 33), .fieldAddr 2 (.tmp 32), none, true⟩,
      ⟨(some 34), .load none (.tmp 33), none, true⟩,
      ⟨(some 35), .load (some 3) (.tmp 6), none, true⟩,
      ⟨(some 36), .lits 3 1 [(.val (.slice none 0 0)), (.val (.int .i64 0)), (.val (.bool false))] [(0, 3, (.tmp 35))], none, true⟩,
      ⟨(some 37), .append 3 40 (.tmp 34) (.tmp 36), none, true⟩,
      ⟨(some 38), .nilCheck (.tmp 30), none, true⟩,
      ⟨(some 39), .fieldAddr 2 (.tmp 38), none, true⟩,
      ⟨none, .store 1 (.tmp 39) (.tmp 37), none, true⟩])
  (.seq (.ops [⟨(some 40), .mv (.tmp 0), none, true⟩,
      ⟨(some 41), .nilCheck (.tmp 40), none, true⟩,
      ⟨(some 42), .fieldAddr 2 (.tmp 41), none, true⟩,
      ⟨(some 43), .load none (.tmp 42), none, true⟩,
      ⟨(some 44), .len (.tmp 43), none, true⟩,
      ⟨(some 45), .bin .sub (.tmp 44) (.av (.val (.int .i64 1))), none, true⟩,
      ⟨(some 4), .mv (.tmp 45), none, true⟩,
      ⟨(some 5), .mv (.av (.val (.int .i64 0))), none, true⟩])
  (.ret))))))
theorem f_mk_make : cFunc Try.prog 39 = some ⟨46, c_mk_make, [.tmp 4, .tmp 5]⟩ := by kernel_rfl
/-- (*backstitch/mark.Marker).set: its code in AM. -/
def c_mk_set : ACode := .seq (.ops [⟨(some 3), .box 4 (.tmp 1), none, true⟩,
      ⟨(some 4), .mv (.av (.val (.int .i64 0))), none, true⟩])
  (.seq (.ops [⟨(some 8), .fieldAddr 1 (.tmp 3), none, true⟩,
      ⟨(some 9), .load none (.tmp 8), none, true⟩,
      ⟨(some 10), .fieldAddr 2 (.tmp 3), none, true⟩,
      ⟨(some 11), .load none (.tmp 10), none, true⟩,
      ⟨(some 12), .lits 1 2 [(.val (.int .i64 0)), (.val (.int .i64 0))] [(0, 1, (.tmp 9)), (1, 1, (.tmp 11))], none, true⟩,
      ⟨(some 5), .mv (.tmp 12), none, true⟩])
  (.seq (.seq (.ops [⟨(some 13), .fieldAddr 2 (.tmp 3), none, true⟩,
      ⟨(some 14), .load none (.tmp 13), none, true⟩,
      ⟨(some 15), .bin .eql (.tmp 14) (.av (.val (.int .i64 (-1)))), none, true⟩])
  (.cond (.tmp 15)
    (.ops [⟨(some 16), .mv (.tmp 5), none, true⟩,
        ⟨(some 17), .slice 1 (.tmp 16) none (some (.av (.val (.int .i64 1)))) none, none, true⟩,
        ⟨(some 5), .mv (.tmp 17), none, true⟩])
    (.skip)))
  (.seq (.seq (.ops [⟨(some 18), .mv (.tmp 0), none, true⟩,
      ⟨(some 19), .mv (.tmp 5), none, true⟩,
      ⟨(some 20), .call (.av (.func 57 [])) [(.tmp 18), (.tmp 19)], none, true⟩,
      ⟨(some 6), .mv (.tmp 20), none, true⟩])
  (.seq (.ops [⟨(some 21), .mv (.tmp 6), none, true⟩,
      ⟨(some 22), .bin .neq (.tmp 21) (.av (.val (.int .i64 0))), none, true⟩])
  (.cond (.tmp 22)
    (.seq (.ops [⟨(some 23), .mv (.tmp 6), none, true⟩,
        ⟨(some 4), .mv (.tmp 23), none, true⟩])
    (.ret))
    (.skip))))
  (.seq (.ops [⟨(some 24), .mv (.tmp 0), none, true⟩,
      ⟨(some 25), .nilCheck (.tmp 24), none, true⟩,
      ⟨(some 26), .fieldAddr 2 (.tmp 25), none, true⟩,
      ⟨(some 27), .load none (.tmp 26), none, true⟩,
      ⟨(some 28), .fieldAddr 1 (.tmp 3), none, true⟩,
      ⟨(some 29), .load none (.tmp 28), none, true⟩,
      ⟨(some 30), .indexAddr 3 (.tmp 27) (.tmp 29), none, true⟩,
      ⟨(some 31), .load (some 3) (.tmp 30), none, true⟩,
      ⟨(some 7), .zero [(.val (.slice none 0 0)), (.val (.int .i64 0)), (.val (.bool false))], none, true⟩,
      ⟨none, .store 3 (.tmp 7) (.tmp 31), none, true⟩])
  (.seq (.seq (.ops [⟨(some 32), .fieldAddr 3 (.tmp 3), none, true⟩,
      ⟨(some 33), .load none (.tmp 32), none, true⟩,
      ⟨(some 34), .bin .lss (.tmp 33) (.av (.val (.int .i64 0))), none, true⟩,
      ⟨(some 35), .mv (.tmp 34), none, true⟩,
      ⟨(some 36), .fieldAddr 3 (.tmp 3), (some (35, false)), true⟩,
      ⟨(some 37), .load none (.tmp 36), (some (35, false)), true⟩,
      ⟨(some 38), .fieldAddr 0 (.tmp 7), (some (35, false)), true⟩,
      ⟨(some 39), .load none (.tmp 38), (some (35, false)), true⟩,
      ⟨(some 40), .len (.tmp 39), (some (35, false)), true⟩,
      ⟨(some 41), .bin .geq (.tmp 37) (.tmp 40), (some (35, false)), true⟩,
      ⟨(some 42), .pick (.tmp 35) (.av (.val (.bool true))) (.tmp 41), none, true⟩])
  (.cond (.tmp 42)
    (.seq (.ops [⟨(some 4), .mv (.av (.val (.int .i64 1))), none, true⟩])
    (.ret))
    (.skip)))
  (.seq (.seq (.ops [⟨(some 43), .mv (.tmp 0), none, true⟩,
      ⟨(some 44), .nilCheck (.tmp 43), none, true⟩,
      ⟨(some 45), .fieldAddr 0 (.tmp 44), none, true⟩,
      ⟨(some 46), .load none (.tmp 45), none, true⟩,
      ⟨(some 47), .bin .eql (.tmp 46) (.av (.val (.int .i64 1))), none, true⟩])
  (.cond (.tmp 47)
    (.ops [⟨(some 48), .mv (.tmp 0), none, true⟩,
        ⟨(some 49), .fieldAddr 2 (.tmp 3), none, true⟩,
        ⟨(some 50), .load none (.tmp 49), none, true⟩,
        ⟨(some 51), .call (.av (.func 58 [])) [(.tmp 48), (.tmp 50)], none, true⟩])
    (.ops [⟨(some 52), .mv (.tmp 0), none, true⟩,
        ⟨(some 53), .fieldAddr 0 (.tmp 7), none, true⟩,
        ⟨(some 54), .load none (.tmp 53), none, true⟩,
        ⟨(some 55), .fieldAddr 3 (.tmp 3), none, true⟩,
        ⟨(some 56), .load none (.tmp 55), none, true⟩,
        ⟨(some 57), .indexAddr 1 (.tmp 54) (.tmp 56), none, true⟩,
        ⟨(some 58), .load none (.tmp 57), none, true⟩,
        ⟨(some 59), .call (.av (.func 58 [])) [(.tmp 52), (.tmp 58)], none, true⟩])))
  (.seq (.ops [⟨(some 60), .fieldAddr 0 (.tmp 7), none, true⟩,
      ⟨(some 61), .load none (.tmp 60), none, true⟩,
      ⟨(some 62), .fieldAddr 3 (.tmp 3), none, true⟩,
      ⟨(some 63), .load none (.tmp 62), none, true⟩,
      ⟨(some 64), .fieldAddr 2 (.tmp 3), none, true⟩,
      ⟨(some 65), .load none (.tmp 64), none, true⟩,
      ⟨(some 66), .indexAddr 1 (.tmp 61) (.tmp 63), none, true⟩,
      ⟨none, .store 1 (.tmp 66) (.tmp 65), none, true⟩])
  (.seq (.ops [⟨(some 4), .mv (.av (.val (.int .i64 0))), none, true⟩])
  (.ret)))))))))
theorem f_mk_set : cFunc Try.prog 40 = some ⟨67, c_mk_set, [.tmp 4]⟩ := by kernel_rfl
/-- (*backstitch/mark.Marker).hold: its code in AM. -/
def c_mk_hold : ACode := .seq (.ops [⟨(some 6), .mv (.av (.val (.int .i64 0))), none, true⟩])
  (.seq (.seq (.ops [⟨(some 8), .mv (.tmp 0), none, true⟩,
      ⟨(some 9), .mv (.tmp 1), none, true⟩,
      ⟨(some 10), .lits 1 1 [(.val (.int .i64 0))] [(0, 1, (.tmp 9))], none, true⟩,
      ⟨(some 11), .call (.av (.func 57 [])) [(.tmp 8), (.tmp 10)], none, true⟩,
      ⟨(some 7), .mv (.tmp 11), none, true⟩])
  (.seq (.ops [⟨(some 12), .mv (.tmp 7), none, true⟩,
      ⟨(some 13), .bin .neq (.tmp 12) (.av (.val (.int .i64 0))), none, true⟩])
  (.cond (.tmp 13)
    (.seq (.ops [⟨(some 14), .mv (.tmp 7), none, true⟩,
        ⟨(some 6), .mv (.tmp 14), none, true⟩])
    (.ret))
    (.skip))))
  (.seq (.seq (.ops [⟨(some 15), .mv (.tmp 2), none, true⟩,
      ⟨(some 16), .un .not (.tmp 15), none, true⟩,
      ⟨(some 17), .mv (.tmp 16), none, true⟩,
      ⟨(some 18), .mv (.tmp 0), (some (17, true)), true⟩,
      ⟨(some 19), .nilCheck (.tmp 18), (some (17, true)), true⟩,
      ⟨(some 20), .fieldAddr 2 (.tmp 19), (some (17, true)), true⟩,
      ⟨(some 21), .load none (.tmp 20), (some (17, true)), true⟩,
      ⟨(some 22), .mv (.tmp 1), (some (17, true)), true⟩,
      ⟨(some 23), .indexAddr 3 (.tmp 21) (.tmp 22), (some (17, true)), true⟩,
      ⟨(some 24), .fieldAddr 2 (.tmp 23), (some (17, true)), true⟩,
      ⟨(some 25), .load none (.tmp 24), (some (17, true)), true⟩,
      ⟨(some 26), .un .not (.tmp 25), (some (17, true)), true⟩,
      ⟨(some 27), .pick (.tmp 17) (.tmp 26) (.av (.val (.bool false))), none, true⟩])
  (.cond (.tmp 27)
    (.seq (.ops [⟨(some 6), .mv (.av (.val (.int .i64 8))), none, true⟩])
    (.ret))
    (.skip)))
  (.seq (.seq (.ops [⟨(some 28), .mv (.tmp 2), none, true⟩,
      ⟨(some 29), .mv (.tmp 0), none, true⟩,
      ⟨(some 30), .nilCheck (.tmp 29), none, true⟩,
      ⟨(some 31), .fieldAddr 0 (.tmp 30), none, true⟩,
      ⟨(some 32), .load none (.tmp 31), none, true⟩,
      ⟨(some 33), .bin .eql (.tmp 32) (.av (.val (.int .i64 1))), none, true⟩,
      ⟨(some 34), .eqBool false (.tmp 28) (.tmp 33), none, true⟩])
  (.cond (.tmp 34)
    (.ops [⟨(some 35), .mv (.tmp 0), none, true⟩,
        ⟨(some 36), .mv (.tmp 1), none, true⟩,
        ⟨(some 37), .call (.av (.func 58 [])) [(.tmp 35), (.tmp 36)], none, true⟩])
    (.skip)))
  (.seq (.ops [⟨(some 38), .mv (.tmp 0), none, true⟩,
      ⟨(some 39), .nilCheck (.tmp 38), none, true⟩,
      ⟨(some 40), .fieldAddr 2 (.tmp 39), none, true⟩,
      ⟨(some 41), .load none (.tmp 40), none, true⟩,
      ⟨(some 42), .mv (.tmp 1), none, true⟩,
      ⟨(some 43), .mv (.tmp 2), none, true⟩,
      ⟨(some 44), .indexAddr 3 (.tmp 41) (.tmp 42), none, true⟩,
      ⟨(some 45), .fieldAddr 2 (.tmp 44), none, true⟩,
      ⟨none, .store 1 (.tmp 45) (.tmp 43), none, true⟩])
  (.seq (.ops [⟨(some 6), .mv (.av (.val (.int .i64 0))), none, true⟩])
  (.ret))))))
theorem f_mk_hold : cFunc Try.prog 41 = some ⟨46, c_mk_hold, [.tmp 6]⟩ := by kernel_rfl
/-- (*backstitch/mark.Marker).begin: its code in AM. -/
def c_mk_begin : ACode := .seq (.ops [⟨(some 2), .mv (.av (.val (.int .i64 0))), none, true⟩,
      ⟨(some 3), .mv (.av (.val (.int .i64 0))), none, true⟩])
  (.seq (.seq (.ops [⟨(some 7), .mv (.tmp 0), none, true⟩,
      ⟨(some 8), .nilCheck (.tmp 7), none, true⟩,
      ⟨(some 9), .fieldAddr 1 (.tmp 8), none, true⟩,
      ⟨(some 10), .load none (.tmp 9), none, true⟩])
  (.cond (.tmp 10)
    (.seq (.ops [⟨(some 2), .mv (.av (.val (.int .i64 0))), none, true⟩,
        ⟨(some 3), .mv (.av (.val (.int .i64 8))), none, true⟩])
    (.ret))
    (.skip)))
  (.seq (.ops [⟨(some 11), .mv (.tmp 0), none, true⟩,
      ⟨(some 12), .nilCheck (.tmp 11), none, true⟩,
      ⟨(some 13), .fieldAddr 1 (.tmp 12), none, true⟩,
      ⟨none, .store 1 (.tmp 13) (.av (.val (.bool true))), none, true⟩])
  (.seq (.ops [⟨(some 4), .mv (.av (.val (.int .i64 0))), none, true⟩])
  (.seq (.seq (.ops [⟨(some 14), .mv (.tmp 0), none, true⟩,
      ⟨(some 15), .nilCheck (.tmp 14), none, true⟩,
      ⟨(some 16), .fieldAddr 2 (.tmp 15), none, true⟩,
      ⟨(some 17), .load none (.tmp 16), none, true⟩,
      ⟨(some 18), .len (.tmp 17), none, true⟩,
      ⟨(some 19), .mv (.av (.val (.int .i64 0))), none, true⟩])
  (rangeCode 0 1 20 19 18 31
    (.seq (.ops [⟨(some 21), .mv (.tmp 19), none, true⟩,
        ⟨(some 22), .indexAddr 3 (.tmp 17) (.tmp 19), none, true⟩,
        ⟨(some 23), .load (some 3) (.tmp 22), none, true⟩,
        ⟨(some 6), .zero [(.val (.slice none 0 0)), (.val (.int .i64 0)), (.val (.bool false))], none, true⟩,
        ⟨(some 5), .mv (.tmp 21), none, true⟩,
        ⟨none, .store 3 (.tmp 6) (.tmp 23), none, true⟩])
    (.seq (.ops [⟨(some 24), .fieldAddr 2 (.tmp 6), none, true⟩,
        ⟨(some 25), .load none (.tmp 24), none, true⟩])
    (.cond (.tmp 25)
      (.seq (.ops [⟨(some 26), .mv (.tmp 0), none, true⟩,
          ⟨(some 27), .mv (.tmp 5), none, true⟩,
          ⟨(some 28), .call (.av (.func 58 [])) [(.tmp 26), (.tmp 27)], none, true⟩])
      (.ops [⟨(some 29), .mv (.tmp 4), none, true⟩,
          ⟨(some 30), .bin .add (.tmp 29) (.av (.val (.int .i64 1))), none, true⟩,
          ⟨(some 4), .mv (.tmp 30), none, true⟩]))
      (.skip))))))
  (.seq (.ops [⟨(some 32), .mv (.tmp 4), none, true⟩,
      ⟨(some 2), .mv (.tmp 32), none, true⟩,
      ⟨(some 3), .mv (.av (.val (.int .i64 0))), none, true⟩])
  (.ret))))))
theorem f_mk_begin : cFunc Try.prog 42 = some ⟨33, c_mk_begin, [.tmp 2, .tmp 3]⟩ := by kernel_rfl
/-- (*backstitch/mark.Marker).steps: its code in AM. -/
def c_mk_stepsm : ACode := .seq (.ops [⟨(some 4), .mv (.av (.val (.int .i64 0))), none, true⟩,
      ⟨(some 5), .mv (.av (.val (.int .i64 0))), none, true⟩])
  (.seq (.block 0 (.seq (.ops [⟨(some 8), .mv (.tmp 0), none, true⟩,
       ⟨(some 9), .nilCheck (.tmp 8), none, true⟩,
       ⟨(some 10), .fieldAddr 1 (.tmp 9), none, true⟩,
       ⟨(some 11), .load none (.tmp 10), none, true⟩,
       ⟨(some 12), .un .not (.tmp 11), none, true⟩,
       ⟨(some 7), .mv (.tmp 12), none, true⟩])
   (.cond (.tmp 7)
     (.seq (.ops [⟨(some 4), .mv (.av (.val (.int .i64 0))), none, true⟩,
         ⟨(some 5), .mv (.av (.val (.int .i64 8))), none, true⟩])
     (.ret))
     (.seq (.ops [⟨(some 14), .mv (.tmp 1), none, true⟩,
         ⟨(some 15), .bin .lss (.tmp 14) (.av (.val (.int .i64 0))), none, true⟩,
         ⟨(some 13), .mv (.tmp 15), none, true⟩])
     (.cond (.tmp 13)
       (.seq (.ops [⟨(some 4), .mv (.av (.val (.int .i64 0))), none, true⟩,
           ⟨(some 5), .mv (.av (.val (.int .i64 1))), none, true⟩])
       (.ret))
       (.skip))))))
  (.seq (.ops [⟨(some 6), .mv (.av (.val (.int .i64 0))), none, true⟩])
  (.seq (.block 1 (.loop (.seq (.seq (.ops [⟨(some 16), .mv (.tmp 6), none, true⟩,
        ⟨(some 17), .mv (.tmp 1), none, true⟩,
        ⟨(some 18), .bin .lss (.tmp 16) (.tmp 17), none, true⟩,
        ⟨(some 19), .mv (.tmp 18), none, true⟩,
        ⟨(some 20), .mv (.tmp 0), (some (19, true)), true⟩,
        ⟨(some 21), .call (.av (.func 59 [])) [(.tmp 20)], (some (19, true)), true⟩,
        ⟨(some 22), .pick (.tmp 19) (.tmp 21) (.av (.val (.bool false))), none, true⟩])
    (.cond (.tmp 22)
      (.skip)
      (.exit 1)))
    (.block 2 (.ops [⟨(some 23), .mv (.tmp 6), none, true⟩,
         ⟨(some 24), .bin .add (.tmp 23) (.av (.val (.int .i64 1))), none, true⟩,
         ⟨(some 6), .mv (.tmp 24), none, true⟩])))))
  (.seq (.ops [⟨(some 25), .mv (.tmp 6), none, true⟩,
      ⟨(some 4), .mv (.tmp 25), none, true⟩,
      ⟨(some 5), .mv (.av (.val (.int .i64 0))), none, true⟩])
  (.ret)))))
theorem f_mk_stepsm : cFunc Try.prog 43 = some ⟨26, c_mk_stepsm, [.tmp 4, .tmp 5]⟩ := by kernel_rfl
/-- (*backstitch/mark.Marker).end: its code in AM. -/
def c_mk_end : ACode := .seq (.ops [⟨(some 2), .mv (.av (.val (.int .i64 0))), none, true⟩,
      ⟨(some 3), .mv (.av (.val (.int .i64 0))), none, true⟩])
  (.seq (.seq (.ops [⟨(some 6), .mv (.tmp 0), none, true⟩,
      ⟨(some 7), .nilCheck (.tmp 6), none, true⟩,
      ⟨(some 8), .fieldAddr 1 (.tmp 7), none, true⟩,
      ⟨(some 9), .load none (.tmp 8), none, true⟩,
      ⟨(some 10), .un .not (.tmp 9), none, true⟩])
  (.cond (.tmp 10)
    (.seq (.ops [⟨(some 2), .mv (.av (.val (.int .i64 0))), none, true⟩,
        ⟨(some 3), .mv (.av (.val (.int .i64 8))), none, true⟩])
    (.ret))
    (.skip)))
  (.seq (.block 0 (.loop (.seq (.seq (.ops [⟨(some 11), .mv (.tmp 0), none, true⟩,
        ⟨(some 12), .call (.av (.func 59 [])) [(.tmp 11)], none, true⟩])
    (.cond (.tmp 12)
      (.skip)
      (.exit 0)))
    (.block 1 (.skip)))))
  (.seq (.ops [⟨(some 4), .mv (.av (.val (.int .i64 0))), none, true⟩])
  (.seq (.seq (.ops [⟨(some 13), .mv (.tmp 0), none, true⟩,
      ⟨(some 14), .nilCheck (.tmp 13), none, true⟩,
      ⟨(some 15), .fieldAddr 2 (.tmp 14), none, true⟩,
      ⟨(some 16), .load none (.tmp 15), none, true⟩,
      ⟨(some 17), .len (.tmp 16), none, true⟩,
      ⟨(some 18), .mv (.av (.val (.int .i64 0))), none, true⟩])
  (rangeCode 2 3 19 18 17 49
    (.seq (.ops [⟨(some 20), .mv (.tmp 18), none, true⟩,
        ⟨(some 5), .mv (.tmp 20), none, true⟩])
    (.seq (.ops [⟨(some 21), .mv (.tmp 0), none, true⟩,
        ⟨(some 22), .nilCheck (.tmp 21), none, true⟩,
        ⟨(some 23), .fieldAddr 2 (.tmp 22), none, true⟩,
        ⟨(some 24), .load none (.tmp 23), none, true⟩,
        ⟨(some 25), .mv (.tmp 5), none, true⟩,
        ⟨(some 26), .indexAddr 3 (.tmp 24) (.tmp 25), none, true⟩,
        ⟨(some 27), .fieldAddr 1 (.tmp 26), none, true⟩,
        ⟨(some 28), .load none (.tmp 27), none, true⟩])
    (.block 4 (.seq (.ops [⟨(some 30), .bin .eql (.tmp 28) (.av (.val (.int .i64 0))), none, true⟩,
         ⟨(some 29), .mv (.tmp 30), none, true⟩])
     (.cond (.tmp 29)
       (.seq (.ops [⟨(some 31), .mv (.tmp 0), none, true⟩,
           ⟨(some 32), .nilCheck (.tmp 31), none, true⟩,
           ⟨(some 33), .fieldAddr 2 (.tmp 32), none, true⟩,
           ⟨(some 34), .load none (.tmp 33), none, true⟩,
           ⟨(some 35), .mv (.tmp 5), none, true⟩,
           ⟨(some 36), .build [(.val (.slice none 0 0)), (.val (.int .i64 0)), (.val (.bool false))] [(1, 1, (.av (.val (.int .i64 3))))], none, true⟩,
           ⟨(some 37), .indexAddr 3 (.tmp 34) (.tmp 35), none, true⟩,
           ⟨none, .store 3 (.tmp 37) (.tmp 36), none, true⟩])
       (.ops [⟨(some 38), .mv (.tmp 4), none, true⟩,
           ⟨(some 39), .bin .add (.tmp 38) (.av (.val (.int .i64 1))), none, true⟩,
           ⟨(some 4), .mv (.tmp 39), none, true⟩]))
       (.seq (.ops [⟨(some 41), .bin .eql (.tmp 28) (.av (.val (.int .i64 2))), none, true⟩,
           ⟨(some 40), .mv (.tmp 41), none, true⟩])
       (.cond (.tmp 40)
         (.ops [⟨(some 42), .mv (.tmp 0), none, true⟩,
             ⟨(some 43), .nilCheck (.tmp 42), none, true⟩,
             ⟨(some 44), .fieldAddr 2 (.tmp 43), none, true⟩,
             ⟨(some 45), .load none (.tmp 44), none, true⟩,
             ⟨(some 46), .mv (.tmp 5), none, true⟩,
             ⟨(some 47), .indexAddr 3 (.tmp 45) (.tmp 46), none, true⟩,
             ⟨(some 48), .fieldAddr 1 (.tmp 47), none, true⟩,
             ⟨none, .store 1 (.tmp 48) (.av (.val (.int .i64 0))), none, true⟩])
         (.skip))))))))))
  (.seq (.ops [⟨(some 50), .mv (.tmp 0), none, true⟩,
      ⟨(some 51), .nilCheck (.tmp 50), none, true⟩,
      ⟨(some 52), .fieldAddr 1 (.tmp 51), none, true⟩,
      ⟨none, .store 1 (.tmp 52) (.av (.val (.bool false))), none, true⟩])
  (.seq (.ops [⟨(some 53), .mv (.tmp 4), none, true⟩,
      ⟨(some 2), .mv (.tmp 53), none, true⟩,
      ⟨(some 3), .mv (.av (.val (.int .i64 0))), none, true⟩])
  (.ret)))))))
theorem f_mk_end : cFunc Try.prog 44 = some ⟨54, c_mk_end, [.tmp 2, .tmp 3]⟩ := by kernel_rfl
/-- slices.DeleteFunc[[]int,int]: its code in AM. -/
def c_mk_delf : ACode := .seq (.ops [⟨(some 4), .mv (.av (.val (.slice none 0 0))), none, true⟩])
  (.seq (.ops [⟨(some 8), .mv (.tmp 0), none, true⟩,
      ⟨(some 9), .mv (.tmp 1), none, true⟩,
      ⟨(some 10), .call (.av (.func 54 [])) [(.tmp 8), (.tmp 9)], none, true⟩,
      ⟨(some 5), .mv (.tmp 10), none, true⟩])
  (.seq (.seq (.ops [⟨(some 11), .mv (.tmp 5), none, true⟩,
      ⟨(some 12), .bin .eql (.tmp 11) (.av (.val (.int .i64 (-1)))), none, true⟩])
  (.cond (.tmp 12)
    (.seq (.ops [⟨(some 13), .mv (.tmp 0), none, true⟩,
        ⟨(some 4), .mv (.tmp 13), none, true⟩])
    (.ret))
    (.skip)))
  (.seq (.seq (.ops [⟨(some 14), .mv (.tmp 5), none, true⟩,
      ⟨(some 15), .bin .add (.tmp 14) (.av (.val (.int .i64 1))), none, true⟩,
      ⟨(some 6), .mv (.tmp 15), none, true⟩])
  (.block 0 (.loop (.seq (.seq (.ops [⟨(some 16), .mv (.tmp 6), none, true⟩,
        ⟨(some 17), .mv (.tmp 0), none, true⟩,
        ⟨(some 18), .len (.tmp 17), none, true⟩,
        ⟨(some 19), .bin .lss (.tmp 16) (.tmp 18), none, true⟩])
    (.cond (.tmp 19)
      (.skip)
      (.exit 0)))
    (.seq (.block 1 (.seq (.ops [⟨(some 22), .mv (.tmp 0), none, true⟩,
         ⟨(some 23), .mv (.tmp 6), none, true⟩,
         ⟨(some 24), .indexAddr 1 (.tmp 22) (.tmp 23), none, true⟩,
         ⟨(some 25), .load none (.tmp 24), none, true⟩,
         ⟨(some 7), .mv (.tmp 25), none, true⟩])
     (.seq (.ops [⟨(some 26), .mv (.tmp 1), none, true⟩,
         ⟨(some 27), .mv (.tmp 7), none, true⟩,
         ⟨(some 28), .call (.tmp 26) [(.tmp 27)], none, true⟩,
         ⟨(some 29), .un .not (.tmp 28), none, true⟩])
     (.cond (.tmp 29)
       (.seq (.ops [⟨(some 30), .mv (.tmp 0), none, true⟩,
           ⟨(some 31), .mv (.tmp 5), none, true⟩,
           ⟨(some 32), .mv (.tmp 7), none, true⟩,
           ⟨(some 33), .indexAddr 1 (.tmp 30) (.tmp 31), none, true⟩,
           ⟨none, .store 1 (.tmp 33) (.tmp 32), none, true⟩])
       (.ops [⟨(some 34), .mv (.tmp 5), none, true⟩,
           ⟨(some 35), .bin .add (.tmp 34) (.av (.val (.int .i64 1))), none, true⟩,
           ⟨(some 5), .mv (.tmp 35), none, true⟩]))
       (.skip)))))
    (.ops [⟨(some 20), .mv (.tmp 6), none, true⟩,
        ⟨(some 21), .bin .add (.tmp 20) (.av (.val (.int .i64 1))), none, true⟩,
        ⟨(some 6), .mv (.tmp 21), none, true⟩]))))))
  (.seq (.ops [⟨(some 36), .mv (.tmp 0), none, true⟩,
      ⟨(some 37), .mv (.tmp 5), none, true⟩,
      ⟨(some 38), .slice 1 (.tmp 36) (some (.tmp 37)) none none, none, true⟩,
      ⟨none, .clear 1 [(.val (.int .i64 0))] (.tmp 38), none, true⟩])
  (.seq (.ops [⟨(some 39), .mv (.tmp 0), none, true⟩,
      ⟨(some 40), .mv (.tmp 5), none, true⟩,
      ⟨(some 41), .slice 1 (.tmp 39) none (some (.tmp 40)) none, none, true⟩,
      ⟨(some 4), .mv (.tmp 41), none, true⟩])
  (.ret))))))
theorem f_mk_delf : cFunc Try.prog 45 = some ⟨42, c_mk_delf, [.tmp 4]⟩ := by kernel_rfl
/-- slices.Clone[[]int,int]: its code in AM. -/
def c_mk_clone : ACode := .seq (.ops [⟨(some 2), .mv (.av (.val (.slice none 0 0))), none, true⟩])
  (.seq (.seq (.ops [⟨(some 3), .mv (.tmp 0), none, true⟩,
      ⟨(some 4), .eqNil false 0 (.tmp 3), none, true⟩])
  (.cond (.tmp 4)
    (.seq (.ops [⟨(some 2), .mv (.av (.val (.slice none 0 0))), none, true⟩])
    (.ret))
    (.skip)))
  (.seq (.ops [⟨(some 5), .lits 1 0 [] [], none, true⟩,
      ⟨(some 6), .mv (.tmp 0), none, true⟩,
      ⟨(some 7), .append 1 8 (.tmp 5) (.tmp 6), none, true⟩,
      ⟨(some 2), .mv (.tmp 7), none, true⟩])
  (.ret)))
theorem f_mk_clone : cFunc Try.prog 46 = some ⟨8, c_mk_clone, [.tmp 2]⟩ := by kernel_rfl
/-- (*backstitch/mark.Marker).Graph$1: its code in AM. -/
def c_mk_grapha : ACode := .seq (.ops [⟨(some 2), .mv (.av (.val (.bool false))), none, true⟩])
  (.seq (.ops [⟨(some 3), .mv (.tmp 0), none, true⟩,
      ⟨(some 4), .bin .lss (.tmp 3) (.av (.val (.int .i64 0))), none, true⟩,
      ⟨(some 2), .mv (.tmp 4), none, true⟩])
  (.ret))
theorem f_mk_grapha : cFunc Try.prog 47 = some ⟨5, c_mk_grapha, [.tmp 2]⟩ := by kernel_rfl
/-- backstitch/backstitchref3.From$1: its code in AM. -/
def c_mk_froma : ACode := .seq (.ops [⟨(some 4), .load none (.tmp 1), none, true⟩,
      ⟨(some 5), .mv (.tmp 4), none, true⟩,
      ⟨(some 6), .load none (.tmp 2), (some (5, false)), true⟩,
      ⟨(some 7), .mv (.tmp 0), (some (5, false)), true⟩,
      ⟨(some 8), .indexAddr 1 (.tmp 6) (.tmp 7), (some (5, false)), true⟩,
      ⟨(some 9), .load none (.tmp 8), (some (5, false)), true⟩,
      ⟨(some 10), .un .not (.tmp 9), (some (5, false)), true⟩,
      ⟨(some 11), .pick (.tmp 5) (.av (.val (.bool true))) (.tmp 10), none, true⟩,
      ⟨none, .store 1 (.tmp 1) (.tmp 11), none, true⟩])
  (.ops [⟨(some 12), .load none (.tmp 2), none, true⟩,
      ⟨(some 13), .mv (.tmp 0), none, true⟩,
      ⟨(some 14), .indexAddr 1 (.tmp 12) (.tmp 13), none, true⟩,
      ⟨none, .store 1 (.tmp 14) (.av (.val (.bool true))), none, true⟩])
theorem f_mk_froma : cFunc Try.prog 48 = some ⟨15, c_mk_froma, []⟩ := by kernel_rfl
/-- slices.Repeat[[]int,int]: its code in AM. -/
def c_mk_repeat : ACode := .seq (.ops [⟨(some 4), .mv (.av (.val (.slice none 0 0))), none, true⟩])
  (.seq (.seq (.ops [⟨(some 9), .mv (.tmp 1), none, true⟩,
      ⟨(some 10), .bin .lss (.tmp 9) (.av (.val (.int .i64 0))), none, true⟩])
  (.cond (.tmp 10)
    (.ops [⟨(some 11), .bad, none, true⟩,
        ⟨none, .bad, none, true⟩])
    (.skip)))
  (.seq (.ops [⟨(some 13), .mv (.tmp 0), none, true⟩,
      ⟨(some 14), .len (.tmp 13), none, true⟩,
      ⟨(some 15), .conv .u64 (.tmp 14), none, true⟩,
      ⟨(some 16), .mv (.tmp 1), none, true⟩,
      ⟨(some 17), .conv .u64 (.tmp 16), none, true⟩,
      ⟨(some 18), .call (.av (.func 60 [])) [(.tmp 15), (.tmp 17)], none, true⟩,
      ⟨(some 12), .mv (.tmp 18), none, true⟩,
      ⟨(some 19), .extract 0 (.tmp 12), none, true⟩,
      ⟨(some 20), .extract 1 (.tmp 12), none, true⟩,
      ⟨(some 5), .mv (.tmp 19), none, true⟩,
      ⟨(some 6), .mv (.tmp 20), none, true⟩])
  (.seq (.seq (.ops [⟨(some 21), .mv (.tmp 5), none, true⟩,
      ⟨(some 22), .bin .gtr (.tmp 21) (.av (.val (.int .u64 0))), none, true⟩,
      ⟨(some 23), .mv (.tmp 22), none, true⟩,
      ⟨(some 24), .mv (.tmp 6), (some (23, false)), true⟩,
      ⟨(some 25), .bin .gtr (.tmp 24) (.av (.val (.int .u64 9223372036854775807))), (some (23, false)), true⟩,
      ⟨(some 26), .pick (.tmp 23) (.av (.val (.bool true))) (.tmp 25), none, true⟩])
  (.cond (.tmp 26)
    (.ops [⟨(some 27), .bad, none, true⟩,
        ⟨none, .bad, none, true⟩])
    (.skip)))
  (.seq (.ops [⟨(some 28), .mv (.tmp 6), none, true⟩,
      ⟨(some 29), .conv .i64 (.tmp 28), none, true⟩,
      ⟨(some 30), .mkSlice 1 8 [(.val (.int .i64 0))] (.tmp 29) (.tmp 29), none, true⟩,
      ⟨(some 7), .mv (.tmp 30), none, true⟩])
  (.seq (.ops [⟨(some 31), .mv (.tmp 7), none, true⟩,
      ⟨(some 32), .mv (.tmp 0), none, true⟩,
      ⟨(some 33), .copy 1 (.tmp 31) (.tmp 32), none, true⟩,
      ⟨(some 8), .mv (.tmp 33), none, true⟩])
  (.seq (.block 0 (.loop (.seq (.seq (.ops [⟨(some 34), .mv (.tmp 8), none, true⟩,
        ⟨(some 35), .mv (.tmp 7), none, true⟩,
        ⟨(some 36), .len (.tmp 35), none, true⟩,
        ⟨(some 37), .bin .lss (.tmp 34) (.tmp 36), none, true⟩])
    (.cond (.tmp 37)
      (.skip)
      (.exit 0)))
    (.block 1 (.ops [⟨(some 38), .mv (.tmp 8), none, true⟩,
         ⟨(some 39), .mv (.tmp 7), none, true⟩,
         ⟨(some 40), .mv (.tmp 8), none, true⟩,
         ⟨(some 41), .slice 1 (.tmp 39) (some (.tmp 40)) none none, none, true⟩,
         ⟨(some 42), .mv (.tmp 7), none, true⟩,
         ⟨(some 43), .mv (.tmp 8), none, true⟩,
         ⟨(some 44), .slice 1 (.tmp 42) none (some (.tmp 43)) none, none, true⟩,
         ⟨(some 45), .copy 1 (.tmp 41) (.tmp 44), none, true⟩,
         ⟨(some 46), .bin .add (.tmp 38) (.tmp 45), none, true⟩,
         ⟨(some 8), .mv (.tmp 46), none, true⟩])))))
  (.seq (.ops [⟨(some 47), .mv (.tmp 7), none, true⟩,
      ⟨(some 4), .mv (.tmp 47), none, true⟩])
  (.ret))))))))
theorem f_mk_repeat : cFunc Try.prog 49 = some ⟨48, c_mk_repeat, [.tmp 4]⟩ := by kernel_rfl
/-- slices.IndexFunc[[]int,int]: its code in AM. -/
def c_mk_idxf : ACode := .seq (.ops [⟨(some 4), .mv (.av (.val (.int .i64 0))), none, true⟩])
  (.seq (.seq (.ops [⟨(some 6), .mv (.tmp 0), none, true⟩,
      ⟨(some 7), .len (.tmp 6), none, true⟩,
      ⟨(some 8), .mv (.av (.val (.int .i64 0))), none, true⟩])
  (rangeCode 0 1 9 8 7 18
    (.seq (.ops [⟨(some 10), .mv (.tmp 8), none, true⟩,
        ⟨(some 5), .mv (.tmp 10), none, true⟩])
    (.seq (.ops [⟨(some 11), .mv (.tmp 1), none, true⟩,
        ⟨(some 12), .mv (.tmp 0), none, true⟩,
        ⟨(some 13), .mv (.tmp 5), none, true⟩,
        ⟨(some 14), .indexAddr 1 (.tmp 12) (.tmp 13), none, true⟩,
        ⟨(some 15), .load none (.tmp 14), none, true⟩,
        ⟨(some 16), .call (.tmp 11) [(.tmp 15)], none, true⟩])
    (.cond (.tmp 16)
      (.seq (.ops [⟨(some 17), .mv (.tmp 5), none, true⟩,
          ⟨(some 4), .mv (.tmp 17), none, true⟩])
      (.ret))
      (.skip))))))
  (.seq (.ops [⟨(some 4), .mv (.av (.val (.int .i64 (-1)))), none, true⟩])
  (.ret)))
theorem f_mk_idxf : cFunc Try.prog 54 = some ⟨19, c_mk_idxf, [.tmp 4]⟩ := by kernel_rfl
/-- (*backstitch/mark.Marker).named: its code in AM. -/
def c_mk_named : ACode := .seq (.ops [⟨(some 4), .mv (.av (.val (.int .i64 0))), none, true⟩])
  (.seq (.seq (.ops [⟨(some 11), .mv (.tmp 1), none, true⟩,
      ⟨(some 12), .len (.tmp 11), none, true⟩,
      ⟨(some 13), .mv (.av (.val (.int .i64 0))), none, true⟩])
  (rangeCode 0 1 14 13 12 28
    (.seq (.ops [⟨(some 15), .indexAddr 1 (.tmp 11) (.tmp 13), none, true⟩,
        ⟨(some 16), .load none (.tmp 15), none, true⟩,
        ⟨(some 6), .mv (.tmp 16), none, true⟩])
    (.seq (.ops [⟨(some 17), .mv (.tmp 6), none, true⟩,
        ⟨(some 18), .bin .lss (.tmp 17) (.av (.val (.int .i64 0))), none, true⟩,
        ⟨(some 19), .mv (.tmp 18), none, true⟩,
        ⟨(some 20), .mv (.tmp 6), (some (19, false)), true⟩,
        ⟨(some 21), .mv (.tmp 0), (some (19, false)), true⟩,
        ⟨(some 22), .nilCheck (.tmp 21), (some (19, false)), true⟩,
        ⟨(some 23), .fieldAddr 2 (.tmp 22), (some (19, false)), true⟩,
        ⟨(some 24), .load none (.tmp 23), (some (19, false)), true⟩,
        ⟨(some 25), .len (.tmp 24), (some (19, false)), true⟩,
        ⟨(some 26), .bin .geq (.tmp 20) (.tmp 25), (some (19, false)), true⟩,
        ⟨(some 27), .pick (.tmp 19) (.av (.val (.bool true))) (.tmp 26), none, true⟩])
    (.cond (.tmp 27)
      (.seq (.ops [⟨(some 4), .mv (.av (.val (.int .i64 5))), none, true⟩])
      (.ret))
      (.skip))))))
  (.seq (.ops [⟨(some 29), .mv (.tmp 0), none, true⟩,
      ⟨(some 30), .call (.av (.func 27 [])) [(.tmp 29)], none, true⟩,
      ⟨(some 7), .zero [(.val (.slice none 0 0)), (.val (.slice none 0 0))], none, true⟩,
      ⟨none, .store 2 (.tmp 7) (.tmp 30), none, true⟩])
  (.seq (.ops [⟨(some 31), .load (some 2) (.tmp 7), none, true⟩,
      ⟨(some 32), .fieldAddr 1 (.tmp 7), none, true⟩,
      ⟨(some 33), .load none (.tmp 32), none, true⟩,
      ⟨(some 34), .call (.av (.func 53 [])) [(.tmp 31), (.tmp 33)], none, true⟩,
      ⟨(some 8), .mv (.tmp 34), none, true⟩])
  (.seq (.seq (.ops [⟨(some 35), .mv (.tmp 1), none, true⟩,
      ⟨(some 36), .len (.tmp 35), none, true⟩,
      ⟨(some 37), .mv (.av (.val (.int .i64 0))), none, true⟩])
  (rangeCode 2 3 38 37 36 46
    (.seq (.ops [⟨(some 39), .indexAddr 1 (.tmp 35) (.tmp 37), none, true⟩,
        ⟨(some 40), .load none (.tmp 39), none, true⟩,
        ⟨(some 10), .mv (.tmp 40), none, true⟩])
    (.seq (.ops [⟨(some 41), .mv (.tmp 8), none, true⟩,
        ⟨(some 42), .mv (.tmp 10), none, true⟩,
        ⟨(some 43), .indexAddr 1 (.tmp 41) (.tmp 42), none, true⟩,
        ⟨(some 44), .load none (.tmp 43), none, true⟩,
        ⟨(some 45), .un .not (.tmp 44), none, true⟩])
    (.cond (.tmp 45)
      (.seq (.ops [⟨(some 4), .mv (.av (.val (.int .i64 8))), none, true⟩])
      (.ret))
      (.skip))))))
  (.seq (.ops [⟨(some 4), .mv (.av (.val (.int .i64 0))), none, true⟩])
  (.ret))))))
theorem f_mk_named : cFunc Try.prog 57 = some ⟨47, c_mk_named, [.tmp 4]⟩ := by kernel_rfl
/-- (*backstitch/mark.Marker).shade: its code in AM. -/
def c_mk_shade : ACode := .seq (.ops [⟨(some 4), .mv (.tmp 0), none, true⟩,
      ⟨(some 5), .nilCheck (.tmp 4), none, true⟩,
      ⟨(some 6), .fieldAddr 1 (.tmp 5), none, true⟩,
      ⟨(some 7), .load none (.tmp 6), none, true⟩,
      ⟨(some 8), .mv (.tmp 7), none, true⟩,
      ⟨(some 9), .mv (.tmp 1), (some (8, true)), true⟩,
      ⟨(some 10), .bin .geq (.tmp 9) (.av (.val (.int .i64 0))), (some (8, true)), true⟩,
      ⟨(some 11), .pick (.tmp 8) (.tmp 10) (.av (.val (.bool false))), none, true⟩,
      ⟨(some 12), .mv (.tmp 11), none, true⟩,
      ⟨(some 13), .mv (.tmp 0), (some (12, true)), true⟩,
      ⟨(some 14), .nilCheck (.tmp 13), (some (12, true)), true⟩,
      ⟨(some 15), .fieldAddr 2 (.tmp 14), (some (12, true)), true⟩,
      ⟨(some 16), .load none (.tmp 15), (some (12, true)), true⟩,
      ⟨(some 17), .mv (.tmp 1), (some (12, true)), true⟩,
      ⟨(some 18), .indexAddr 3 (.tmp 16) (.tmp 17), (some (12, true)), true⟩,
      ⟨(some 19), .fieldAddr 1 (.tmp 18), (some (12, true)), true⟩,
      ⟨(some 20), .load none (.tmp 19), (some (12, true)), true⟩,
      ⟨(some 21), .bin .eql (.tmp 20) (.av (.val (.int .i64 0))), (some (12, true)), true⟩,
      ⟨(some 22), .pick (.tmp 12) (.tmp 21) (.av (.val (.bool false))), none, true⟩])
  (.cond (.tmp 22)
    (.ops [⟨(some 23), .mv (.tmp 0), none, true⟩,
        ⟨(some 24), .nilCheck (.tmp 23), none, true⟩,
        ⟨(some 25), .fieldAddr 2 (.tmp 24), none, true⟩,
        ⟨(some 26), .load none (.tmp 25), none, true⟩,
        ⟨(some 27), .mv (.tmp 1), none, true⟩,
        ⟨(some 28), .indexAddr 3 (.tmp 26) (.tmp 27), none, true⟩,
        ⟨(some 29), .fieldAddr 1 (.tmp 28), none, true⟩,
        ⟨none, .store 1 (.tmp 29) (.av (.val (.int .i64 1))), none, true⟩])
    (.skip))
theorem f_mk_shade : cFunc Try.prog 58 = some ⟨30, c_mk_shade, []⟩ := by kernel_rfl
/-- (*backstitch/mark.Marker).step: its code in AM. -/
def c_mk_step : ACode := .seq (.ops [⟨(some 2), .mv (.av (.val (.bool false))), none, true⟩])
  (.seq (.ops [⟨(some 6), .mv (.tmp 0), none, true⟩,
      ⟨(some 7), .nilCheck (.tmp 6), none, true⟩,
      ⟨(some 8), .fieldAddr 2 (.tmp 7), none, true⟩,
      ⟨(some 9), .load none (.tmp 8), none, true⟩,
      ⟨(some 10), .call (.av (.func 75 [])) [(.tmp 9), (.av (.func 76 []))], none, true⟩,
      ⟨(some 3), .mv (.tmp 10), none, true⟩])
  (.seq (.seq (.ops [⟨(some 11), .mv (.tmp 3), none, true⟩,
      ⟨(some 12), .bin .lss (.tmp 11) (.av (.val (.int .i64 0))), none, true⟩])
  (.cond (.tmp 12)
    (.seq (.ops [⟨(some 2), .mv (.av (.val (.bool false))), none, true⟩])
    (.ret))
    (.skip)))
  (.seq (.ops [⟨(some 13), .mv (.tmp 0), none, true⟩,
      ⟨(some 14), .nilCheck (.tmp 13), none, true⟩,
      ⟨(some 15), .fieldAddr 2 (.tmp 14), none, true⟩,
      ⟨(some 16), .load none (.tmp 15), none, true⟩,
      ⟨(some 17), .mv (.tmp 3), none, true⟩,
      ⟨(some 18), .indexAddr 3 (.tmp 16) (.tmp 17), none, true⟩,
      ⟨(some 19), .fieldAddr 1 (.tmp 18), none, true⟩,
      ⟨none, .store 1 (.tmp 19) (.av (.val (.int .i64 2))), none, true⟩])
  (.seq (.seq (.ops [⟨(some 20), .mv (.tmp 0), none, true⟩,
      ⟨(some 21), .nilCheck (.tmp 20), none, true⟩,
      ⟨(some 22), .fieldAddr 2 (.tmp 21), none, true⟩,
      ⟨(some 23), .load none (.tmp 22), none, true⟩,
      ⟨(some 24), .mv (.tmp 3), none, true⟩,
      ⟨(some 25), .indexAddr 3 (.tmp 23) (.tmp 24), none, true⟩,
      ⟨(some 26), .fieldAddr 0 (.tmp 25), none, true⟩,
      ⟨(some 27), .load none (.tmp 26), none, true⟩,
      ⟨(some 28), .len (.tmp 27), none, true⟩,
      ⟨(some 29), .mv (.av (.val (.int .i64 0))), none, true⟩])
  (rangeCode 0 1 30 29 28 36
    (.seq (.ops [⟨(some 31), .indexAddr 1 (.tmp 27) (.tmp 29), none, true⟩,
        ⟨(some 32), .load none (.tmp 31), none, true⟩,
        ⟨(some 5), .mv (.tmp 32), none, true⟩])
    (.ops [⟨(some 33), .mv (.tmp 0), none, true⟩,
        ⟨(some 34), .mv (.tmp 5), none, true⟩,
        ⟨(some 35), .call (.av (.func 58 [])) [(.tmp 33), (.tmp 34)], none, true⟩]))))
  (.seq (.ops [⟨(some 2), .mv (.av (.val (.bool true))), none, true⟩])
  (.ret))))))
theorem f_mk_step : cFunc Try.prog 59 = some ⟨37, c_mk_step, [.tmp 2]⟩ := by kernel_rfl
/-- math/bits.Mul: its code in AM. -/
def c_mk_mul : ACode := .seq (.ops [⟨(some 4), .mv (.av (.val (.int .u64 0))), none, true⟩,
      ⟨(some 5), .mv (.av (.val (.int .u64 0))), none, true⟩])
  (.seq (.cond (.av (.val (.bool false)))
    (.seq (.ops [⟨(some 11), .mv (.tmp 0), none, true⟩,
        ⟨(some 12), .conv .u32 (.tmp 11), none, true⟩,
        ⟨(some 13), .mv (.tmp 1), none, true⟩,
        ⟨(some 14), .conv .u32 (.tmp 13), none, true⟩,
        ⟨(some 15), .call (.av (.func 77 [])) [(.tmp 12), (.tmp 14)], none, true⟩,
        ⟨(some 10), .mv (.tmp 15), none, true⟩,
        ⟨(some 16), .extract 0 (.tmp 10), none, true⟩,
        ⟨(some 17), .extract 1 (.tmp 10), none, true⟩,
        ⟨(some 6), .mv (.tmp 16), none, true⟩,
        ⟨(some 7), .mv (.tmp 17), none, true⟩])
    (.seq (.ops [⟨(some 18), .mv (.tmp 6), none, true⟩,
        ⟨(some 19), .conv .u64 (.tmp 18), none, true⟩,
        ⟨(some 20), .mv (.tmp 7), none, true⟩,
        ⟨(some 21), .conv .u64 (.tmp 20), none, true⟩,
        ⟨(some 4), .mv (.tmp 19), none, true⟩,
        ⟨(some 5), .mv (.tmp 21), none, true⟩])
    (.ret)))
    (.skip))
  (.seq (.ops [⟨(some 23), .mv (.tmp 0), none, true⟩,
      ⟨(some 24), .mv (.tmp 1), none, true⟩,
      ⟨(some 25), .call (.av (.func 78 [])) [(.tmp 23), (.tmp 24)], none, true⟩,
      ⟨(some 22), .mv (.tmp 25), none, true⟩,
      ⟨(some 26), .extract 0 (.tmp 22), none, true⟩,
      ⟨(some 27), .extract 1 (.tmp 22), none, true⟩,
      ⟨(some 8), .mv (.tmp 26), none, true⟩,
      ⟨(some 9), .mv (.tmp 27), none, true⟩])
  (.seq (.ops [⟨(some 28), .mv (.tmp 8), none, true⟩,
      ⟨(some 29), .mv (.tmp 9), none, true⟩,
      ⟨(some 4), .mv (.tmp 28), none, true⟩,
      ⟨(some 5), .mv (.tmp 29), none, true⟩])
  (.ret))))
theorem f_mk_mul : cFunc Try.prog 60 = some ⟨30, c_mk_mul, [.tmp 4, .tmp 5]⟩ := by kernel_rfl
/-- slices.IndexFunc[[]backstitch/mark.thing,backstitch/mark.thing]: its code in AM. -/
def c_mk_idxt : ACode := .seq (.ops [⟨(some 4), .mv (.av (.val (.int .i64 0))), none, true⟩])
  (.seq (.seq (.ops [⟨(some 6), .mv (.tmp 0), none, true⟩,
      ⟨(some 7), .len (.tmp 6), none, true⟩,
      ⟨(some 8), .mv (.av (.val (.int .i64 0))), none, true⟩])
  (rangeCode 0 1 9 8 7 18
    (.seq (.ops [⟨(some 10), .mv (.tmp 8), none, true⟩,
        ⟨(some 5), .mv (.tmp 10), none, true⟩])
    (.seq (.ops [⟨(some 11), .mv (.tmp 1), none, true⟩,
        ⟨(some 12), .mv (.tmp 0), none, true⟩,
        ⟨(some 13), .mv (.tmp 5), none, true⟩,
        ⟨(some 14), .indexAddr 3 (.tmp 12) (.tmp 13), none, true⟩,
        ⟨(some 15), .load (some 3) (.tmp 14), none, true⟩,
        ⟨(some 16), .call (.tmp 11) [(.tmp 15)], none, true⟩])
    (.cond (.tmp 16)
      (.seq (.ops [⟨(some 17), .mv (.tmp 5), none, true⟩,
          ⟨(some 4), .mv (.tmp 17), none, true⟩])
      (.ret))
      (.skip))))))
  (.seq (.ops [⟨(some 4), .mv (.av (.val (.int .i64 (-1)))), none, true⟩])
  (.ret)))
theorem f_mk_idxt : cFunc Try.prog 75 = some ⟨19, c_mk_idxt, [.tmp 4]⟩ := by kernel_rfl
/-- (*backstitch/mark.Marker).step$1: its code in AM. -/
def c_mk_stepa : ACode := .seq (.ops [⟨(some 1), .box 3 (.tmp 0), none, true⟩,
      ⟨(some 2), .mv (.av (.val (.bool false))), none, true⟩])
  (.seq (.ops [⟨(some 3), .fieldAddr 1 (.tmp 1), none, true⟩,
      ⟨(some 4), .load none (.tmp 3), none, true⟩,
      ⟨(some 5), .bin .eql (.tmp 4) (.av (.val (.int .i64 1))), none, true⟩,
      ⟨(some 2), .mv (.tmp 5), none, true⟩])
  (.ret))
theorem f_mk_stepa : cFunc Try.prog 76 = some ⟨6, c_mk_stepa, [.tmp 2]⟩ := by kernel_rfl
/-- math/bits.Mul64: its code in AM. -/
def c_mk_mul64 : ACode := .seq (.ops [⟨(some 4), .mv (.av (.val (.int .u64 0))), none, true⟩,
      ⟨(some 5), .mv (.av (.val (.int .u64 0))), none, true⟩])
  (.seq (.ops [⟨(some 14), .mv (.tmp 0), none, true⟩,
      ⟨(some 15), .bin .and (.tmp 14) (.av (.val (.int .u64 4294967295))), none, true⟩,
      ⟨(some 6), .mv (.tmp 15), none, true⟩])
  (.seq (.ops [⟨(some 16), .mv (.tmp 0), none, true⟩,
      ⟨(some 17), .bin .shr (.tmp 16) (.av (.val (.int .u64 32))), none, true⟩,
      ⟨(some 7), .mv (.tmp 17), none, true⟩])
  (.seq (.ops [⟨(some 18), .mv (.tmp 1), none, true⟩,
      ⟨(some 19), .bin .and (.tmp 18) (.av (.val (.int .u64 4294967295))), none, true⟩,
      ⟨(some 8), .mv (.tmp 19), none, true⟩])
  (.seq (.ops [⟨(some 20), .mv (.tmp 1), none, true⟩,
      ⟨(some 21), .bin .shr (.tmp 20) (.av (.val (.int .u64 32))), none, true⟩,
      ⟨(some 9), .mv (.tmp 21), none, true⟩])
  (.seq (.ops [⟨(some 22), .mv (.tmp 6), none, true⟩,
      ⟨(some 23), .mv (.tmp 8), none, true⟩,
      ⟨(some 24), .bin .mul (.tmp 22) (.tmp 23), none, true⟩,
      ⟨(some 10), .mv (.tmp 24), none, true⟩])
  (.seq (.ops [⟨(some 25), .mv (.tmp 7), none, true⟩,
      ⟨(some 26), .mv (.tmp 8), none, true⟩,
      ⟨(some 27), .bin .mul (.tmp 25) (.tmp 26), none, true⟩,
      ⟨(some 28), .mv (.tmp 10), none, true⟩,
      ⟨(some 29), .bin .shr (.tmp 28) (.av (.val (.int .u64 32))), none, true⟩,
      ⟨(some 30), .bin .add (.tmp 27) (.tmp 29), none, true⟩,
      ⟨(some 11), .mv (.tmp 30), none, true⟩])
  (.seq (.ops [⟨(some 31), .mv (.tmp 11), none, true⟩,
      ⟨(some 32), .bin .and (.tmp 31) (.av (.val (.int .u64 4294967295))), none, true⟩,
      ⟨(some 12), .mv (.tmp 32), none, true⟩])
  (.seq (.ops [⟨(some 33), .mv (.tmp 11), none, true⟩,
      ⟨(some 34), .bin .shr (.tmp 33) (.av (.val (.int .u64 32))), none, true⟩,
      ⟨(some 13), .mv (.tmp 34), none, true⟩])
  (.seq (.ops [⟨(some 35), .mv (.tmp 12), none, true⟩,
      ⟨(some 36), .mv (.tmp 6), none, true⟩,
      ⟨(some 37), .mv (.tmp 9), none, true⟩,
      ⟨(some 38), .bin .mul (.tmp 36) (.tmp 37), none, true⟩,
      ⟨(some 39), .bin .add (.tmp 35) (.tmp 38), none, true⟩,
      ⟨(some 12), .mv (.tmp 39), none, true⟩])
  (.seq (.ops [⟨(some 40), .mv (.tmp 7), none, true⟩,
      ⟨(some 41), .mv (.tmp 9), none, true⟩,
      ⟨(some 42), .bin .mul (.tmp 40) (.tmp 41), none, true⟩,
      ⟨(some 43), .mv (.tmp 13), none, true⟩,
      ⟨(some 44), .bin .add (.tmp 42) (.tmp 43), none, true⟩,
      ⟨(some 45), .mv (.tmp 12), none, true⟩,
      ⟨(some 46), .bin .shr (.tmp 45) (.av (.val (.int .u64 32))), none, true⟩,
      ⟨(some 47), .bin .add (.tmp 44) (.tmp 46), none, true⟩,
      ⟨(some 4), .mv (.tmp 47), none, true⟩])
  (.seq (.ops [⟨(some 48), .mv (.tmp 0), none, true⟩,
      ⟨(some 49), .mv (.tmp 1), none, true⟩,
      ⟨(some 50), .bin .mul (.tmp 48) (.tmp 49), none, true⟩,
      ⟨(some 5), .mv (.tmp 50), none, true⟩])
  (.ret))))))))))))
theorem f_mk_mul64 : cFunc Try.prog 78 = some ⟨51, c_mk_mul64, [.tmp 4, .tmp 5]⟩ := by kernel_rfl
end Go.Proofs.Ytpeagenjmmkohaa
