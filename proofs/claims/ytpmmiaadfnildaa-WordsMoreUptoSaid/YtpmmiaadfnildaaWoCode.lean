/-
  AM's code of functions, written by am/amprint.lean.
-/
import Derived.Test.YtpmmiaadfnildaaAmY
import Derived.KernelRfl
namespace Go.Proofs.Ytpmmiaadfnildaa
open Go Go.RowKit
set_option linter.unusedVariables false
/-- backstitch/backstitchkeep3.WordsMore: its code in AM. -/
def c_l_wordsmore : ACode := .seq (.ops [⟨(some 3), .box 4 (.tmp 0), none, true⟩,
      ⟨(some 4), .box 2 (.tmp 1), none, true⟩,
      ⟨(some 5), .box 8 (.tmp 2), none, true⟩,
      ⟨(some 6), .mv (.av (.val (.bool false))), none, true⟩])
  (.seq (.seq (.ops [⟨(some 15), .call (.av (.func 13 [])) [], none, true⟩,
      ⟨(some 16), .un .not (.tmp 15), none, true⟩])
  (.cond (.tmp 16)
    (.seq (.ops [⟨(some 6), .mv (.av (.val (.bool false))), none, true⟩])
    (.ret))
    (.skip)))
  (.seq (.ops [⟨(some 18), .load (some 4) (.tmp 3), none, true⟩,
      ⟨(some 19), .call (.av (.func 14 [])) [(.tmp 18)], none, true⟩,
      ⟨(some 17), .mv (.tmp 19), none, true⟩,
      ⟨(some 20), .extract 0 (.tmp 17), none, true⟩,
      ⟨(some 21), .extract 1 (.tmp 17), none, true⟩,
      ⟨(some 7), .mv (.tmp 20), none, true⟩,
      ⟨(some 8), .mv (.tmp 21), none, true⟩])
  (.seq (.ops [⟨(some 22), .load (some 4) (.tmp 3), none, true⟩,
      ⟨(some 9), .zero [(.val (.int .i64 0)), (.val (.int .i64 0)), (.val (.slice none 0 0)), (.val (.slice none 0 0))], none, true⟩,
      ⟨none, .store 4 (.tmp 9) (.tmp 22), none, true⟩])
  (.seq (.ops [⟨(some 23), .fieldAddr 2 (.tmp 3), none, true⟩,
      ⟨(some 24), .load none (.tmp 23), none, true⟩,
      ⟨(some 25), .call (.av (.func 15 [])) [(.tmp 24)], none, false⟩,
      ⟨(some 26), .load (some 2) (.tmp 4), none, false⟩,
      ⟨(some 27), .lits 2 1 [(.val (.int .i64 0)), (.val (.int .i64 0))] [(0, 2, (.tmp 26))], none, true⟩,
      ⟨(some 28), .append 2 16 (.tmp 25) (.tmp 27), none, true⟩,
      ⟨(some 29), .fieldAddr 2 (.tmp 9), none, true⟩,
      ⟨none, .store 1 (.tmp 29) (.tmp 28), none, true⟩])
  (.seq (.ops [⟨(some 31), .load (some 4) (.tmp 9), none, true⟩,
      ⟨(some 32), .call (.av (.func 14 [])) [(.tmp 31)], none, true⟩,
      ⟨(some 30), .mv (.tmp 32), none, true⟩,
      ⟨(some 33), .extract 0 (.tmp 30), none, true⟩,
      ⟨(some 34), .extract 1 (.tmp 30), none, true⟩,
      ⟨(some 10), .mv (.tmp 33), none, true⟩,
      ⟨(some 11), .mv (.tmp 34), none, true⟩])
  (.seq (.ops [⟨(some 35), .load (some 4) (.tmp 3), none, true⟩,
      ⟨(some 12), .zero [(.val (.int .i64 0)), (.val (.int .i64 0)), (.val (.slice none 0 0)), (.val (.slice none 0 0))], none, true⟩,
      ⟨none, .store 4 (.tmp 12) (.tmp 35), none, true⟩])
  (.seq (.ops [⟨(some 36), .lits 8 0 [] [], none, true⟩,
      ⟨(some 37), .fieldAddr 3 (.tmp 3), none, true⟩,
      ⟨(some 38), .load none (.tmp 37), none, true⟩,
      ⟨(some 39), .append 8 96 (.tmp 36) (.tmp 38), none, false⟩,
      ⟨(some 40), .load (some 8) (.tmp 5), none, false⟩,
      ⟨(some 41), .lits 8 1 [(.val (.int .i64 0)), (.val (.int .i64 0)), (.val (.int .i64 0)), (.val (.int .i64 0)), (.val (.int .i64 0)), (.val (.int .i64 0)), (.val (.slice none 0 0)), (.val (.slice none 0 0))] [(0, 8, (.tmp 40))], none, true⟩,
      ⟨(some 42), .append 8 96 (.tmp 39) (.tmp 41), none, true⟩,
      ⟨(some 43), .fieldAddr 3 (.tmp 12), none, true⟩,
      ⟨none, .store 1 (.tmp 43) (.tmp 42), none, true⟩])
  (.seq (.ops [⟨(some 45), .load (some 4) (.tmp 12), none, true⟩,
      ⟨(some 46), .call (.av (.func 14 [])) [(.tmp 45)], none, true⟩,
      ⟨(some 44), .mv (.tmp 46), none, true⟩,
      ⟨(some 47), .extract 0 (.tmp 44), none, true⟩,
      ⟨(some 48), .extract 1 (.tmp 44), none, true⟩,
      ⟨(some 13), .mv (.tmp 47), none, true⟩,
      ⟨(some 14), .mv (.tmp 48), none, true⟩])
  (.seq (.seq (.ops [⟨(some 49), .mv (.tmp 8), none, true⟩,
      ⟨(some 50), .bin .neq (.tmp 49) (.av (.val (.int .i64 0))), none, true⟩])
  (.cond (.tmp 50)
    (.seq (.ops [⟨(some 51), .call (.av (.func 13 [])) [], none, true⟩,
        ⟨(some 6), .mv (.tmp 51), none, true⟩])
    (.ret))
    (.skip)))
  (.seq (.ops [⟨(some 52), .call (.av (.func 13 [])) [], none, true⟩,
      ⟨(some 53), .mv (.tmp 52), none, true⟩,
      ⟨(some 54), .mv (.tmp 11), (some (53, true)), true⟩,
      ⟨(some 55), .bin .neq (.tmp 54) (.av (.val (.int .i64 0))), (some (53, true)), true⟩,
      ⟨(some 56), .mv (.tmp 55), (some (53, true)), true⟩,
      ⟨(some 57), .mv (.tmp 10), (some (56, false)), true⟩,
      ⟨(some 58), .len (.tmp 57), (some (56, false)), true⟩,
      ⟨(some 59), .mv (.tmp 7), (some (56, false)), true⟩,
      ⟨(some 60), .len (.tmp 59), (some (56, false)), true⟩,
      ⟨(some 61), .bin .add (.tmp 60) (.av (.val (.int .i64 1))), (some (56, false)), true⟩,
      ⟨(some 62), .bin .eql (.tmp 58) (.tmp 61), (some (56, false)), true⟩,
      ⟨(some 63), .pick (.tmp 56) (.av (.val (.bool true))) (.tmp 62), (some (53, true)), true⟩,
      ⟨(some 64), .pick (.tmp 53) (.tmp 63) (.av (.val (.bool false))), none, true⟩,
      ⟨(some 65), .mv (.tmp 64), none, true⟩,
      ⟨(some 66), .mv (.tmp 14), (some (65, true)), true⟩,
      ⟨(some 67), .bin .neq (.tmp 66) (.av (.val (.int .i64 0))), (some (65, true)), true⟩,
      ⟨(some 68), .mv (.tmp 67), (some (65, true)), true⟩,
      ⟨(some 69), .mv (.tmp 13), (some (68, false)), true⟩,
      ⟨(some 70), .len (.tmp 69), (some (68, false)), true⟩,
      ⟨(some 71), .mv (.tmp 7), (some (68, false)), true⟩,
      ⟨(some 72), .len (.tmp 71), (some (68, false)), true⟩,
      ⟨(some 73), .bin .add (.tmp 72) (.av (.val (.int .i64 7))), (some (68, false)), true⟩,
      ⟨(some 74), .fieldAddr 6 (.tmp 5), (some (68, false)), true⟩,
      ⟨(some 75), .load none (.tmp 74), (some (68, false)), true⟩,
      ⟨(some 76), .len (.tmp 75), (some (68, false)), true⟩,
      ⟨(some 77), .bin .add (.tmp 73) (.tmp 76), (some (68, false)), true⟩,
      ⟨(some 78), .fieldAddr 7 (.tmp 5), (some (68, false)), true⟩,
      ⟨(some 79), .load none (.tmp 78), (some (68, false)), true⟩,
      ⟨(some 80), .len (.tmp 79), (some (68, false)), true⟩,
      ⟨(some 81), .bin .mul (.av (.val (.int .i64 2))) (.tmp 80), (some (68, false)), true⟩,
      ⟨(some 82), .bin .add (.tmp 77) (.tmp 81), (some (68, false)), true⟩,
      ⟨(some 83), .bin .eql (.tmp 70) (.tmp 82), (some (68, false)), true⟩,
      ⟨(some 84), .pick (.tmp 68) (.av (.val (.bool true))) (.tmp 83), (some (65, true)), true⟩,
      ⟨(some 85), .pick (.tmp 65) (.tmp 84) (.av (.val (.bool false))), none, true⟩,
      ⟨(some 6), .mv (.tmp 85), none, true⟩])
  (.ret)))))))))))
theorem f_l_wordsmore : cFunc Try.prog 3 = some ⟨86, c_l_wordsmore, [.tmp 6]⟩ := by kernel_rfl
/-- backstitch/words.Of: its code in AM. -/
def c_wo_of : ACode := .seq (.ops [⟨(some 1), .box 4 (.tmp 0), none, true⟩,
      ⟨(some 2), .mv (.av (.val (.slice none 0 0))), none, true⟩,
      ⟨(some 3), .mv (.av (.val (.int .i64 0))), none, true⟩])
  (.seq (.seq (.ops [⟨(some 5), .load (some 4) (.tmp 1), none, true⟩,
      ⟨(some 6), .call (.av (.func 32 [])) [(.tmp 5)], none, true⟩])
  (.cond (.tmp 6)
    (.seq (.ops [⟨(some 2), .mv (.av (.val (.slice none 0 0))), none, true⟩,
        ⟨(some 3), .mv (.av (.val (.int .i64 2))), none, true⟩])
    (.ret))
    (.skip)))
  (.seq (.ops [⟨(some 7), .build [(.val (.slice none 0 0)), (.val (.int .i64 0))] [], none, true⟩,
      ⟨(some 8), .box 2 (.tmp 7), none, true⟩,
      ⟨(some 4), .mv (.tmp 8), none, true⟩])
  (.seq (.seq (.ops [⟨(some 9), .mv (.tmp 4), none, true⟩,
      ⟨(some 10), .load (some 4) (.tmp 1), none, true⟩,
      ⟨(some 11), .call (.av (.func 33 [])) [(.tmp 9), (.tmp 10)], none, true⟩])
  (.seq (.ops [⟨(some 12), .mv (.tmp 4), none, true⟩,
      ⟨(some 13), .nilCheck (.tmp 12), none, true⟩,
      ⟨(some 14), .fieldAddr 1 (.tmp 13), none, true⟩,
      ⟨(some 15), .load none (.tmp 14), none, true⟩,
      ⟨(some 16), .bin .neq (.tmp 15) (.av (.val (.int .i64 0))), none, true⟩])
  (.cond (.tmp 16)
    (.seq (.ops [⟨(some 17), .mv (.tmp 4), none, true⟩,
        ⟨(some 18), .nilCheck (.tmp 17), none, true⟩,
        ⟨(some 19), .fieldAddr 1 (.tmp 18), none, true⟩,
        ⟨(some 20), .load none (.tmp 19), none, true⟩,
        ⟨(some 2), .mv (.av (.val (.slice none 0 0))), none, true⟩,
        ⟨(some 3), .mv (.tmp 20), none, true⟩])
    (.ret))
    (.skip))))
  (.seq (.ops [⟨(some 21), .mv (.tmp 4), none, true⟩,
      ⟨(some 22), .nilCheck (.tmp 21), none, true⟩,
      ⟨(some 23), .fieldAddr 0 (.tmp 22), none, true⟩,
      ⟨(some 24), .load none (.tmp 23), none, true⟩,
      ⟨(some 2), .mv (.tmp 24), none, true⟩,
      ⟨(some 3), .mv (.av (.val (.int .i64 0))), none, true⟩])
  (.ret)))))
theorem f_wo_of : cFunc Try.prog 14 = some ⟨25, c_wo_of, [.tmp 2, .tmp 3]⟩ := by kernel_rfl
/-- backstitch/backstitchref3.Copy[backstitch/api.Val]: its code in AM. -/
def c_r_copyval : ACode := .seq (.ops [⟨(some 2), .mv (.av (.val (.slice none 0 0))), none, true⟩])
  (.seq (.ops [⟨(some 3), .mv (.tmp 0), none, true⟩,
      ⟨(some 4), .append 2 16 (.av (.val (.slice none 0 0))) (.tmp 3), none, true⟩,
      ⟨(some 2), .mv (.tmp 4), none, true⟩])
  (.ret))
theorem f_r_copyval : cFunc Try.prog 15 = some ⟨5, c_r_copyval, [.tmp 2]⟩ := by kernel_rfl
/-- backstitch/words.Back: its code in AM. -/
def c_wo_back : ACode := .seq (.ops [⟨(some 2), .zero [(.val (.int .i64 0)), (.val (.int .i64 0)), (.val (.slice none 0 0)), (.val (.slice none 0 0))], none, true⟩,
      ⟨(some 3), .mv (.av (.val (.int .i64 0))), none, true⟩,
      ⟨(some 4), .mv (.av (.val (.int .i64 0))), none, true⟩])
  (.seq (.ops [⟨(some 7), .mv (.tmp 0), none, true⟩,
      ⟨(some 8), .build [(.val (.slice none 0 0)), (.val (.int .i64 0)), (.val (.bool false))] [(0, 1, (.tmp 7))], none, true⟩,
      ⟨(some 9), .box 3 (.tmp 8), none, true⟩,
      ⟨(some 5), .mv (.tmp 9), none, true⟩])
  (.seq (.ops [⟨(some 10), .mv (.tmp 5), none, true⟩,
      ⟨(some 11), .call (.av (.func 35 [])) [(.tmp 10)], none, true⟩,
      ⟨(some 6), .zero [(.val (.int .i64 0)), (.val (.int .i64 0)), (.val (.slice none 0 0)), (.val (.slice none 0 0))], none, true⟩,
      ⟨none, .store 4 (.tmp 6) (.tmp 11), none, true⟩])
  (.seq (.seq (.ops [⟨(some 12), .mv (.tmp 5), none, true⟩,
      ⟨(some 13), .nilCheck (.tmp 12), none, true⟩,
      ⟨(some 14), .fieldAddr 2 (.tmp 13), none, true⟩,
      ⟨(some 15), .load none (.tmp 14), none, true⟩])
  (.cond (.tmp 15)
    (.seq (.ops [⟨(some 16), .build [(.val (.int .i64 0)), (.val (.int .i64 0)), (.val (.slice none 0 0)), (.val (.slice none 0 0))] [], none, true⟩,
        ⟨none, .store 4 (.tmp 2) (.tmp 16), none, true⟩,
        ⟨(some 3), .mv (.av (.val (.int .i64 0))), none, true⟩,
        ⟨(some 4), .mv (.av (.val (.int .i64 3))), none, true⟩])
    (.ret))
    (.skip)))
  (.seq (.ops [⟨(some 17), .load (some 4) (.tmp 6), none, true⟩,
      ⟨(some 18), .mv (.tmp 5), none, true⟩,
      ⟨(some 19), .nilCheck (.tmp 18), none, true⟩,
      ⟨(some 20), .fieldAddr 1 (.tmp 19), none, true⟩,
      ⟨(some 21), .load none (.tmp 20), none, false⟩,
      ⟨none, .store 4 (.tmp 2) (.tmp 17), none, false⟩,
      ⟨(some 3), .mv (.tmp 21), none, true⟩,
      ⟨(some 4), .mv (.av (.val (.int .i64 0))), none, true⟩])
  (.ret)))))
theorem f_wo_back : cFunc Try.prog 18 = some ⟨22, c_wo_back, [.cell 2 (some 4), .tmp 3, .tmp 4]⟩ := by kernel_rfl
/-- backstitch/words.large: its code in AM. -/
def c_wo_large : ACode := .seq (.ops [⟨(some 1), .box 4 (.tmp 0), none, true⟩,
      ⟨(some 2), .mv (.av (.val (.bool false))), none, true⟩])
  (.seq (.seq (.ops [⟨(some 5), .fieldAddr 3 (.tmp 1), none, true⟩,
      ⟨(some 6), .load none (.tmp 5), none, true⟩,
      ⟨(some 7), .len (.tmp 6), none, true⟩,
      ⟨(some 8), .mv (.av (.val (.int .i64 0))), none, true⟩])
  (rangeCode 0 1 9 8 7 22
    (.seq (.ops [⟨(some 10), .indexAddr 8 (.tmp 6) (.tmp 8), none, true⟩,
        ⟨(some 11), .load (some 8) (.tmp 10), none, true⟩,
        ⟨(some 4), .zero [(.val (.int .i64 0)), (.val (.int .i64 0)), (.val (.int .i64 0)), (.val (.int .i64 0)), (.val (.int .i64 0)), (.val (.int .i64 0)), (.val (.slice none 0 0)), (.val (.slice none 0 0))], none, true⟩,
        ⟨none, .store 8 (.tmp 4) (.tmp 11), none, true⟩])
    (.seq (.ops [⟨(some 12), .fieldAddr 6 (.tmp 4), none, true⟩,
        ⟨(some 13), .load none (.tmp 12), none, true⟩,
        ⟨(some 14), .len (.tmp 13), none, true⟩,
        ⟨(some 15), .bin .gtr (.tmp 14) (.av (.val (.int .i64 60))), none, true⟩,
        ⟨(some 16), .mv (.tmp 15), none, true⟩,
        ⟨(some 17), .fieldAddr 7 (.tmp 4), (some (16, false)), true⟩,
        ⟨(some 18), .load none (.tmp 17), (some (16, false)), true⟩,
        ⟨(some 19), .len (.tmp 18), (some (16, false)), true⟩,
        ⟨(some 20), .bin .gtr (.tmp 19) (.av (.val (.int .i64 20))), (some (16, false)), true⟩,
        ⟨(some 21), .pick (.tmp 16) (.av (.val (.bool true))) (.tmp 20), none, true⟩])
    (.cond (.tmp 21)
      (.seq (.ops [⟨(some 2), .mv (.av (.val (.bool true))), none, true⟩])
      (.ret))
      (.skip))))))
  (.seq (.ops [⟨(some 23), .fieldAddr 2 (.tmp 1), none, true⟩,
      ⟨(some 24), .load none (.tmp 23), none, false⟩,
      ⟨(some 25), .len (.tmp 24), none, true⟩,
      ⟨(some 26), .fieldAddr 0 (.tmp 1), none, true⟩,
      ⟨(some 27), .load none (.tmp 26), none, true⟩,
      ⟨(some 28), .call (.av (.func 48 [])) [(.tmp 27)], none, false⟩,
      ⟨(some 29), .bin .gtr (.tmp 25) (.tmp 28), none, true⟩,
      ⟨(some 30), .mv (.tmp 29), none, true⟩,
      ⟨(some 31), .fieldAddr 3 (.tmp 1), (some (30, false)), true⟩,
      ⟨(some 32), .load none (.tmp 31), (some (30, false)), true⟩,
      ⟨(some 33), .len (.tmp 32), (some (30, false)), true⟩,
      ⟨(some 34), .bin .gtr (.tmp 33) (.av (.val (.int .i64 30))), (some (30, false)), true⟩,
      ⟨(some 35), .pick (.tmp 30) (.av (.val (.bool true))) (.tmp 34), none, true⟩,
      ⟨(some 2), .mv (.tmp 35), none, true⟩])
  (.ret)))
theorem f_wo_large : cFunc Try.prog 32 = some ⟨36, c_wo_large, [.tmp 2]⟩ := by kernel_rfl
/-- (*backstitch/words.writer).cell: its code in AM. -/
def c_wo_cell : ACode := .seq (.ops [⟨(some 3), .box 4 (.tmp 1), none, true⟩])
  (.seq (.ops [⟨(some 8), .mv (.tmp 0), none, true⟩,
      ⟨(some 9), .fieldAddr 0 (.tmp 3), none, true⟩,
      ⟨(some 10), .load none (.tmp 9), none, true⟩,
      ⟨(some 11), .fieldAddr 1 (.tmp 3), none, true⟩,
      ⟨(some 12), .load none (.tmp 11), none, true⟩,
      ⟨(some 13), .lits 1 2 [(.val (.int .i64 0)), (.val (.int .i64 0))] [(0, 1, (.tmp 10)), (1, 1, (.tmp 12))], none, true⟩,
      ⟨(some 14), .call (.av (.func 49 [])) [(.tmp 8), (.tmp 13)], none, true⟩])
  (.seq (.ops [⟨(some 15), .mv (.tmp 0), none, true⟩,
      ⟨(some 16), .fieldAddr 2 (.tmp 3), none, true⟩,
      ⟨(some 17), .load none (.tmp 16), none, true⟩,
      ⟨(some 18), .call (.av (.func 50 [])) [(.tmp 15), (.tmp 17)], none, true⟩])
  (.seq (.ops [⟨(some 19), .mv (.tmp 0), none, true⟩,
      ⟨(some 20), .fieldAddr 3 (.tmp 3), none, true⟩,
      ⟨(some 21), .load none (.tmp 20), none, true⟩,
      ⟨(some 22), .len (.tmp 21), none, true⟩,
      ⟨(some 23), .lits 1 1 [(.val (.int .i64 0))] [(0, 1, (.tmp 22))], none, true⟩,
      ⟨(some 24), .call (.av (.func 49 [])) [(.tmp 19), (.tmp 23)], none, true⟩])
  (.seq (.ops [⟨(some 25), .fieldAddr 3 (.tmp 3), none, true⟩,
      ⟨(some 26), .load none (.tmp 25), none, true⟩,
      ⟨(some 27), .len (.tmp 26), none, true⟩,
      ⟨(some 28), .mv (.av (.val (.int .i64 0))), none, true⟩])
  (rangeCode 0 1 29 28 27 72
    (.seq (.ops [⟨(some 30), .indexAddr 8 (.tmp 26) (.tmp 28), none, true⟩,
        ⟨(some 31), .load (some 8) (.tmp 30), none, true⟩,
        ⟨(some 5), .zero [(.val (.int .i64 0)), (.val (.int .i64 0)), (.val (.int .i64 0)), (.val (.int .i64 0)), (.val (.int .i64 0)), (.val (.int .i64 0)), (.val (.slice none 0 0)), (.val (.slice none 0 0))], none, true⟩,
        ⟨none, .store 8 (.tmp 5) (.tmp 31), none, true⟩])
    (.seq (.ops [⟨(some 32), .mv (.tmp 0), none, true⟩,
        ⟨(some 33), .fieldAddr 0 (.tmp 5), none, true⟩,
        ⟨(some 34), .load none (.tmp 33), none, true⟩,
        ⟨(some 35), .fieldAddr 1 (.tmp 5), none, true⟩,
        ⟨(some 36), .load none (.tmp 35), none, true⟩,
        ⟨(some 37), .fieldAddr 2 (.tmp 5), none, true⟩,
        ⟨(some 38), .load none (.tmp 37), none, true⟩,
        ⟨(some 39), .fieldAddr 3 (.tmp 5), none, true⟩,
        ⟨(some 40), .load none (.tmp 39), none, true⟩,
        ⟨(some 41), .lits 1 4 [(.val (.int .i64 0)), (.val (.int .i64 0)), (.val (.int .i64 0)), (.val (.int .i64 0))] [(0, 1, (.tmp 34)), (1, 1, (.tmp 36)), (2, 1, (.tmp 38)), (3, 1, (.tmp 40))], none, true⟩,
        ⟨(some 42), .call (.av (.func 49 [])) [(.tmp 32), (.tmp 41)], none, true⟩])
    (.seq (.ops [⟨(some 43), .mv (.tmp 0), none, true⟩,
        ⟨(some 44), .fieldAddr 4 (.tmp 5), none, true⟩,
        ⟨(some 45), .load (some 2) (.tmp 44), none, true⟩,
        ⟨(some 46), .call (.av (.func 51 [])) [(.tmp 43), (.tmp 45)], none, true⟩])
    (.seq (.ops [⟨(some 47), .mv (.tmp 0), none, true⟩,
        ⟨(some 48), .fieldAddr 6 (.tmp 5), none, true⟩,
        ⟨(some 49), .load none (.tmp 48), none, true⟩,
        ⟨(some 50), .call (.av (.func 50 [])) [(.tmp 47), (.tmp 49)], none, true⟩])
    (.seq (.ops [⟨(some 51), .mv (.tmp 0), none, true⟩,
        ⟨(some 52), .fieldAddr 7 (.tmp 5), none, true⟩,
        ⟨(some 53), .load none (.tmp 52), none, true⟩,
        ⟨(some 54), .len (.tmp 53), none, true⟩,
        ⟨(some 55), .lits 1 1 [(.val (.int .i64 0))] [(0, 1, (.tmp 54))], none, true⟩,
        ⟨(some 56), .call (.av (.func 49 [])) [(.tmp 51), (.tmp 55)], none, true⟩])
    (.seq (.ops [⟨(some 57), .fieldAddr 7 (.tmp 5), none, true⟩,
        ⟨(some 58), .load none (.tmp 57), none, true⟩,
        ⟨(some 59), .len (.tmp 58), none, true⟩,
        ⟨(some 60), .mv (.av (.val (.int .i64 0))), none, true⟩])
    (rangeCode 2 3 61 60 59 71
      (.seq (.ops [⟨(some 62), .indexAddr 2 (.tmp 58) (.tmp 60), none, true⟩,
          ⟨(some 63), .load (some 2) (.tmp 62), none, true⟩,
          ⟨(some 7), .zero [(.val (.int .i64 0)), (.val (.int .i64 0))], none, true⟩,
          ⟨none, .store 2 (.tmp 7) (.tmp 63), none, true⟩])
      (.ops [⟨(some 64), .mv (.tmp 0), none, true⟩,
          ⟨(some 65), .fieldAddr 0 (.tmp 7), none, true⟩,
          ⟨(some 66), .load none (.tmp 65), none, true⟩,
          ⟨(some 67), .fieldAddr 1 (.tmp 7), none, true⟩,
          ⟨(some 68), .load none (.tmp 67), none, true⟩,
          ⟨(some 69), .lits 1 2 [(.val (.int .i64 0)), (.val (.int .i64 0))] [(0, 1, (.tmp 66)), (1, 1, (.tmp 68))], none, true⟩,
          ⟨(some 70), .call (.av (.func 49 [])) [(.tmp 64), (.tmp 69)], none, true⟩]))))))))))))))
theorem f_wo_cell : cFunc Try.prog 33 = some ⟨73, c_wo_cell, []⟩ := by kernel_rfl
/-- (*backstitch/words.reader).cell: its code in AM. -/
def c_wo_rcell : ACode := .seq (.ops [⟨(some 2), .zero [(.val (.int .i64 0)), (.val (.int .i64 0)), (.val (.slice none 0 0)), (.val (.slice none 0 0))], none, true⟩])
  (.seq (.ops [⟨(some 5), .mv (.tmp 0), none, true⟩,
      ⟨(some 6), .call (.av (.func 52 [])) [(.tmp 5)], none, true⟩,
      ⟨(some 7), .mv (.tmp 0), none, true⟩,
      ⟨(some 8), .call (.av (.func 52 [])) [(.tmp 7)], none, true⟩,
      ⟨(some 9), .build [(.val (.int .i64 0)), (.val (.int .i64 0)), (.val (.slice none 0 0)), (.val (.slice none 0 0))] [(0, 1, (.tmp 6)), (1, 1, (.tmp 8))], none, true⟩,
      ⟨(some 3), .zero [(.val (.int .i64 0)), (.val (.int .i64 0)), (.val (.slice none 0 0)), (.val (.slice none 0 0))], none, true⟩,
      ⟨none, .store 4 (.tmp 3) (.tmp 9), none, true⟩])
  (.seq (.ops [⟨(some 10), .mv (.tmp 0), none, true⟩,
      ⟨(some 11), .fieldAddr 0 (.tmp 3), none, true⟩,
      ⟨(some 12), .load none (.tmp 11), none, true⟩,
      ⟨(some 13), .call (.av (.func 48 [])) [(.tmp 12)], none, true⟩,
      ⟨(some 14), .call (.av (.func 53 [])) [(.tmp 10), (.tmp 13)], none, true⟩,
      ⟨(some 15), .fieldAddr 2 (.tmp 3), none, true⟩,
      ⟨none, .store 1 (.tmp 15) (.tmp 14), none, true⟩])
  (.seq (.seq (.ops [⟨(some 16), .mv (.tmp 0), none, true⟩,
      ⟨(some 17), .call (.av (.func 38 [])) [(.tmp 16), (.av (.val (.int .i64 30)))], none, true⟩,
      ⟨(some 4), .mv (.tmp 17), none, true⟩])
  (.block 0 (.loop (.seq (.seq (.ops [⟨(some 18), .mv (.tmp 4), none, true⟩,
        ⟨(some 19), .bin .gtr (.tmp 18) (.av (.val (.int .i64 0))), none, true⟩,
        ⟨(some 20), .mv (.tmp 19), none, true⟩,
        ⟨(some 21), .mv (.tmp 0), (some (20, true)), true⟩,
        ⟨(some 22), .nilCheck (.tmp 21), (some (20, true)), true⟩,
        ⟨(some 23), .fieldAddr 2 (.tmp 22), (some (20, true)), true⟩,
        ⟨(some 24), .load none (.tmp 23), (some (20, true)), true⟩,
        ⟨(some 25), .un .not (.tmp 24), (some (20, true)), true⟩,
        ⟨(some 26), .pick (.tmp 20) (.tmp 25) (.av (.val (.bool false))), none, true⟩])
    (.cond (.tmp 26)
      (.skip)
      (.exit 0)))
    (.seq (.block 1 (.ops [⟨(some 29), .fieldAddr 3 (.tmp 3), none, true⟩,
         ⟨(some 30), .load none (.tmp 29), none, false⟩,
         ⟨(some 31), .mv (.tmp 0), none, true⟩,
         ⟨(some 32), .call (.av (.func 54 [])) [(.tmp 31)], none, false⟩,
         ⟨(some 33), .lits 8 1 [(.val (.int .i64 0)), (.val (.int .i64 0)), (.val (.int .i64 0)), (.val (.int .i64 0)), (.val (.int .i64 0)), (.val (.int .i64 0)), (.val (.slice none 0 0)), (.val (.slice none 0 0))] [(0, 8, (.tmp 32))], none, true⟩,
         ⟨(some 34), .append 8 96 (.tmp 30) (.tmp 33), none, true⟩,
         ⟨(some 35), .fieldAddr 3 (.tmp 3), none, true⟩,
         ⟨none, .store 1 (.tmp 35) (.tmp 34), none, true⟩]))
    (.ops [⟨(some 27), .mv (.tmp 4), none, true⟩,
        ⟨(some 28), .bin .sub (.tmp 27) (.av (.val (.int .i64 1))), none, true⟩,
        ⟨(some 4), .mv (.tmp 28), none, true⟩]))))))
  (.seq (.ops [⟨(some 36), .load (some 4) (.tmp 3), none, true⟩,
      ⟨none, .store 4 (.tmp 2) (.tmp 36), none, true⟩])
  (.ret)))))
theorem f_wo_rcell : cFunc Try.prog 35 = some ⟨37, c_wo_rcell, [.cell 2 (some 4)]⟩ := by kernel_rfl
/-- (*backstitch/words.reader).many: its code in AM. -/
def c_wo_many : ACode := .seq (.ops [⟨(some 4), .mv (.av (.val (.int .i64 0))), none, true⟩])
  (.seq (.ops [⟨(some 6), .mv (.tmp 0), none, true⟩,
      ⟨(some 7), .call (.av (.func 52 [])) [(.tmp 6)], none, true⟩,
      ⟨(some 5), .mv (.tmp 7), none, true⟩])
  (.seq (.seq (.ops [⟨(some 8), .mv (.tmp 5), none, true⟩,
      ⟨(some 9), .bin .lss (.tmp 8) (.av (.val (.int .i64 0))), none, true⟩,
      ⟨(some 10), .mv (.tmp 9), none, true⟩,
      ⟨(some 11), .mv (.tmp 5), (some (10, false)), true⟩,
      ⟨(some 12), .mv (.tmp 1), (some (10, false)), true⟩,
      ⟨(some 13), .bin .gtr (.tmp 11) (.tmp 12), (some (10, false)), true⟩,
      ⟨(some 14), .pick (.tmp 10) (.av (.val (.bool true))) (.tmp 13), none, true⟩])
  (.cond (.tmp 14)
    (.seq (.ops [⟨(some 15), .mv (.tmp 0), none, true⟩,
        ⟨(some 16), .nilCheck (.tmp 15), none, true⟩,
        ⟨(some 17), .fieldAddr 2 (.tmp 16), none, true⟩,
        ⟨none, .store 1 (.tmp 17) (.av (.val (.bool true))), none, true⟩])
    (.seq (.ops [⟨(some 4), .mv (.av (.val (.int .i64 0))), none, true⟩])
    (.ret)))
    (.skip)))
  (.seq (.ops [⟨(some 18), .mv (.tmp 5), none, true⟩,
      ⟨(some 4), .mv (.tmp 18), none, true⟩])
  (.ret))))
theorem f_wo_many : cFunc Try.prog 38 = some ⟨19, c_wo_many, [.tmp 4]⟩ := by kernel_rfl
/-- backstitch/words.most: its code in AM. -/
def c_wo_most : ACode := .seq (.ops [⟨(some 2), .mv (.av (.val (.int .i64 0))), none, true⟩])
  (.seq (.seq (.ops [⟨(some 3), .mv (.tmp 0), none, true⟩,
      ⟨(some 4), .bin .eql (.tmp 3) (.av (.val (.int .i64 7))), none, true⟩])
  (.cond (.tmp 4)
    (.seq (.ops [⟨(some 2), .mv (.av (.val (.int .i64 600))), none, true⟩])
    (.ret))
    (.skip)))
  (.seq (.ops [⟨(some 2), .mv (.av (.val (.int .i64 100))), none, true⟩])
  (.ret)))
theorem f_wo_most : cFunc Try.prog 48 = some ⟨5, c_wo_most, [.tmp 2]⟩ := by kernel_rfl
/-- (*backstitch/words.writer).numbers: its code in AM. -/
def c_wo_numbers : ACode := .seq (.ops [⟨(some 6), .mv (.tmp 1), none, true⟩,
      ⟨(some 7), .len (.tmp 6), none, true⟩,
      ⟨(some 8), .mv (.av (.val (.int .i64 0))), none, true⟩])
  (rangeCode 0 1 9 8 7 23
    (.seq (.ops [⟨(some 10), .indexAddr 1 (.tmp 6) (.tmp 8), none, true⟩,
        ⟨(some 11), .load none (.tmp 10), none, true⟩,
        ⟨(some 5), .mv (.tmp 11), none, true⟩])
    (.ops [⟨(some 12), .mv (.tmp 0), none, true⟩,
        ⟨(some 13), .mv (.tmp 0), none, true⟩,
        ⟨(some 14), .nilCheck (.tmp 13), none, true⟩,
        ⟨(some 15), .fieldAddr 0 (.tmp 14), none, true⟩,
        ⟨(some 16), .load none (.tmp 15), none, true⟩,
        ⟨(some 17), .mv (.tmp 5), none, true⟩,
        ⟨(some 18), .conv .u64 (.tmp 17), none, true⟩,
        ⟨(some 19), .lits 1 1 [(.val (.int .u64 0))] [(0, 1, (.tmp 18))], none, true⟩,
        ⟨(some 20), .append 1 8 (.tmp 16) (.tmp 19), none, true⟩,
        ⟨(some 21), .nilCheck (.tmp 12), none, true⟩,
        ⟨(some 22), .fieldAddr 0 (.tmp 21), none, true⟩,
        ⟨none, .store 1 (.tmp 22) (.tmp 20), none, true⟩])))
theorem f_wo_numbers : cFunc Try.prog 49 = some ⟨24, c_wo_numbers, []⟩ := by kernel_rfl
/-- (*backstitch/words.writer).values: its code in AM. -/
def c_wo_values : ACode := .seq (.ops [⟨(some 6), .mv (.tmp 0), none, true⟩,
      ⟨(some 7), .mv (.tmp 1), none, true⟩,
      ⟨(some 8), .len (.tmp 7), none, true⟩,
      ⟨(some 9), .lits 1 1 [(.val (.int .i64 0))] [(0, 1, (.tmp 8))], none, true⟩,
      ⟨(some 10), .call (.av (.func 49 [])) [(.tmp 6), (.tmp 9)], none, true⟩])
  (.seq (.ops [⟨(some 11), .mv (.tmp 1), none, true⟩,
      ⟨(some 12), .len (.tmp 11), none, true⟩,
      ⟨(some 13), .mv (.av (.val (.int .i64 0))), none, true⟩])
  (rangeCode 0 1 14 13 12 20
    (.seq (.ops [⟨(some 15), .indexAddr 2 (.tmp 11) (.tmp 13), none, true⟩,
        ⟨(some 16), .load (some 2) (.tmp 15), none, true⟩,
        ⟨(some 5), .zero [(.val (.int .i64 0)), (.val (.int .i64 0))], none, true⟩,
        ⟨none, .store 2 (.tmp 5) (.tmp 16), none, true⟩])
    (.ops [⟨(some 17), .mv (.tmp 0), none, true⟩,
        ⟨(some 18), .load (some 2) (.tmp 5), none, true⟩,
        ⟨(some 19), .call (.av (.func 51 [])) [(.tmp 17), (.tmp 18)], none, true⟩]))))
theorem f_wo_values : cFunc Try.prog 50 = some ⟨21, c_wo_values, []⟩ := by kernel_rfl
/-- (*backstitch/words.writer).value: its code in AM. -/
def c_wo_value : ACode := .seq (.ops [⟨(some 3), .box 2 (.tmp 1), none, true⟩])
  (.seq (.ops [⟨(some 7), .load (some 2) (.tmp 3), none, true⟩,
      ⟨(some 8), .call (.av (.func 31 [])) [(.tmp 7)], none, true⟩,
      ⟨(some 6), .mv (.tmp 8), none, true⟩,
      ⟨(some 9), .extract 0 (.tmp 6), none, true⟩,
      ⟨(some 10), .extract 1 (.tmp 6), none, true⟩,
      ⟨(some 4), .mv (.tmp 9), none, true⟩,
      ⟨(some 5), .mv (.tmp 10), none, true⟩])
  (.seq (.seq (.ops [⟨(some 11), .mv (.tmp 0), none, true⟩,
      ⟨(some 12), .nilCheck (.tmp 11), none, true⟩,
      ⟨(some 13), .fieldAddr 1 (.tmp 12), none, true⟩,
      ⟨(some 14), .load none (.tmp 13), none, true⟩,
      ⟨(some 15), .bin .eql (.tmp 14) (.av (.val (.int .i64 0))), none, true⟩])
  (.cond (.tmp 15)
    (.ops [⟨(some 16), .mv (.tmp 0), none, true⟩,
        ⟨(some 17), .mv (.tmp 5), none, true⟩,
        ⟨(some 18), .nilCheck (.tmp 16), none, true⟩,
        ⟨(some 19), .fieldAddr 1 (.tmp 18), none, true⟩,
        ⟨none, .store 1 (.tmp 19) (.tmp 17), none, true⟩])
    (.skip)))
  (.ops [⟨(some 20), .mv (.tmp 0), none, true⟩,
      ⟨(some 21), .mv (.tmp 0), none, true⟩,
      ⟨(some 22), .nilCheck (.tmp 21), none, true⟩,
      ⟨(some 23), .fieldAddr 0 (.tmp 22), none, true⟩,
      ⟨(some 24), .load none (.tmp 23), none, true⟩,
      ⟨(some 25), .mv (.tmp 4), none, true⟩,
      ⟨(some 26), .lits 1 1 [(.val (.int .u64 0))] [(0, 1, (.tmp 25))], none, true⟩,
      ⟨(some 27), .append 1 8 (.tmp 24) (.tmp 26), none, true⟩,
      ⟨(some 28), .nilCheck (.tmp 20), none, true⟩,
      ⟨(some 29), .fieldAddr 0 (.tmp 28), none, true⟩,
      ⟨none, .store 1 (.tmp 29) (.tmp 27), none, true⟩])))
theorem f_wo_value : cFunc Try.prog 51 = some ⟨30, c_wo_value, []⟩ := by kernel_rfl
/-- (*backstitch/words.reader).number: its code in AM. -/
def c_wo_number : ACode := .seq (.ops [⟨(some 2), .mv (.av (.val (.int .i64 0))), none, true⟩])
  (.seq (.ops [⟨(some 3), .mv (.tmp 0), none, true⟩,
      ⟨(some 4), .call (.av (.func 60 [])) [(.tmp 3)], none, true⟩,
      ⟨(some 5), .conv .i64 (.tmp 4), none, true⟩,
      ⟨(some 2), .mv (.tmp 5), none, true⟩])
  (.ret))
theorem f_wo_number : cFunc Try.prog 52 = some ⟨6, c_wo_number, [.tmp 2]⟩ := by kernel_rfl
/-- (*backstitch/words.reader).values: its code in AM. -/
def c_wo_rvalues : ACode := .seq (.ops [⟨(some 4), .mv (.av (.val (.slice none 0 0))), none, true⟩])
  (.seq (.ops [⟨(some 5), .mv (.av (.val (.slice none 0 0))), none, true⟩])
  (.seq (.seq (.ops [⟨(some 7), .mv (.tmp 0), none, true⟩,
      ⟨(some 8), .mv (.tmp 1), none, true⟩,
      ⟨(some 9), .call (.av (.func 38 [])) [(.tmp 7), (.tmp 8)], none, true⟩,
      ⟨(some 6), .mv (.tmp 9), none, true⟩])
  (.block 0 (.loop (.seq (.seq (.ops [⟨(some 10), .mv (.tmp 6), none, true⟩,
        ⟨(some 11), .bin .gtr (.tmp 10) (.av (.val (.int .i64 0))), none, true⟩,
        ⟨(some 12), .mv (.tmp 11), none, true⟩,
        ⟨(some 13), .mv (.tmp 0), (some (12, true)), true⟩,
        ⟨(some 14), .nilCheck (.tmp 13), (some (12, true)), true⟩,
        ⟨(some 15), .fieldAddr 2 (.tmp 14), (some (12, true)), true⟩,
        ⟨(some 16), .load none (.tmp 15), (some (12, true)), true⟩,
        ⟨(some 17), .un .not (.tmp 16), (some (12, true)), true⟩,
        ⟨(some 18), .pick (.tmp 12) (.tmp 17) (.av (.val (.bool false))), none, true⟩])
    (.cond (.tmp 18)
      (.skip)
      (.exit 0)))
    (.seq (.block 1 (.ops [⟨(some 21), .mv (.tmp 5), none, true⟩,
         ⟨(some 22), .mv (.tmp 0), none, true⟩,
         ⟨(some 23), .call (.av (.func 61 [])) [(.tmp 22)], none, true⟩,
         ⟨(some 24), .lits 2 1 [(.val (.int .i64 0)), (.val (.int .i64 0))] [(0, 2, (.tmp 23))], none, true⟩,
         ⟨(some 25), .append 2 16 (.tmp 21) (.tmp 24), none, true⟩,
         ⟨(some 5), .mv (.tmp 25), none, true⟩]))
    (.ops [⟨(some 19), .mv (.tmp 6), none, true⟩,
        ⟨(some 20), .bin .sub (.tmp 19) (.av (.val (.int .i64 1))), none, true⟩,
        ⟨(some 6), .mv (.tmp 20), none, true⟩]))))))
  (.seq (.ops [⟨(some 26), .mv (.tmp 5), none, true⟩,
      ⟨(some 4), .mv (.tmp 26), none, true⟩])
  (.ret))))
theorem f_wo_rvalues : cFunc Try.prog 53 = some ⟨27, c_wo_rvalues, [.tmp 4]⟩ := by kernel_rfl
/-- (*backstitch/words.reader).frame: its code in AM. -/
def c_wo_rframe : ACode := .seq (.ops [⟨(some 2), .zero [(.val (.int .i64 0)), (.val (.int .i64 0)), (.val (.int .i64 0)), (.val (.int .i64 0)), (.val (.int .i64 0)), (.val (.int .i64 0)), (.val (.slice none 0 0)), (.val (.slice none 0 0))], none, true⟩])
  (.seq (.ops [⟨(some 5), .mv (.tmp 0), none, true⟩,
      ⟨(some 6), .call (.av (.func 52 [])) [(.tmp 5)], none, true⟩,
      ⟨(some 7), .mv (.tmp 0), none, true⟩,
      ⟨(some 8), .call (.av (.func 52 [])) [(.tmp 7)], none, true⟩,
      ⟨(some 9), .mv (.tmp 0), none, true⟩,
      ⟨(some 10), .call (.av (.func 52 [])) [(.tmp 9)], none, true⟩,
      ⟨(some 11), .mv (.tmp 0), none, true⟩,
      ⟨(some 12), .call (.av (.func 52 [])) [(.tmp 11)], none, true⟩,
      ⟨(some 13), .build [(.val (.int .i64 0)), (.val (.int .i64 0)), (.val (.int .i64 0)), (.val (.int .i64 0)), (.val (.int .i64 0)), (.val (.int .i64 0)), (.val (.slice none 0 0)), (.val (.slice none 0 0))] [(0, 1, (.tmp 6)), (1, 1, (.tmp 8)), (2, 1, (.tmp 10)), (3, 1, (.tmp 12))], none, true⟩,
      ⟨(some 3), .zero [(.val (.int .i64 0)), (.val (.int .i64 0)), (.val (.int .i64 0)), (.val (.int .i64 0)), (.val (.int .i64 0)), (.val (.int .i64 0)), (.val (.slice none 0 0)), (.val (.slice none 0 0))], none, true⟩,
      ⟨none, .store 8 (.tmp 3) (.tmp 13), none, true⟩])
  (.seq (.ops [⟨(some 14), .mv (.tmp 0), none, true⟩,
      ⟨(some 15), .call (.av (.func 61 [])) [(.tmp 14)], none, true⟩,
      ⟨(some 16), .fieldAddr 4 (.tmp 3), none, true⟩,
      ⟨none, .store 2 (.tmp 16) (.tmp 15), none, true⟩])
  (.seq (.ops [⟨(some 17), .mv (.tmp 0), none, true⟩,
      ⟨(some 18), .call (.av (.func 53 [])) [(.tmp 17), (.av (.val (.int .i64 60)))], none, true⟩,
      ⟨(some 19), .fieldAddr 6 (.tmp 3), none, true⟩,
      ⟨none, .store 1 (.tmp 19) (.tmp 18), none, true⟩])
  (.seq (.seq (.ops [⟨(some 20), .mv (.tmp 0), none, true⟩,
      ⟨(some 21), .call (.av (.func 38 [])) [(.tmp 20), (.av (.val (.int .i64 20)))], none, true⟩,
      ⟨(some 4), .mv (.tmp 21), none, true⟩])
  (.block 0 (.loop (.seq (.seq (.ops [⟨(some 22), .mv (.tmp 4), none, true⟩,
        ⟨(some 23), .bin .gtr (.tmp 22) (.av (.val (.int .i64 0))), none, true⟩,
        ⟨(some 24), .mv (.tmp 23), none, true⟩,
        ⟨(some 25), .mv (.tmp 0), (some (24, true)), true⟩,
        ⟨(some 26), .nilCheck (.tmp 25), (some (24, true)), true⟩,
        ⟨(some 27), .fieldAddr 2 (.tmp 26), (some (24, true)), true⟩,
        ⟨(some 28), .load none (.tmp 27), (some (24, true)), true⟩,
        ⟨(some 29), .un .not (.tmp 28), (some (24, true)), true⟩,
        ⟨(some 30), .pick (.tmp 24) (.tmp 29) (.av (.val (.bool false))), none, true⟩])
    (.cond (.tmp 30)
      (.skip)
      (.exit 0)))
    (.seq (.block 1 (.ops [⟨(some 33), .fieldAddr 7 (.tmp 3), none, true⟩,
         ⟨(some 34), .load none (.tmp 33), none, false⟩,
         ⟨(some 35), .mv (.tmp 0), none, true⟩,
         ⟨(some 36), .call (.av (.func 52 [])) [(.tmp 35)], none, false⟩,
         ⟨(some 37), .mv (.tmp 0), none, true⟩,
         ⟨(some 38), .call (.av (.func 52 [])) [(.tmp 37)], none, false⟩,
         ⟨(some 39), .build [(.val (.int .i64 0)), (.val (.int .i64 0))] [(0, 1, (.tmp 36)), (1, 1, (.tmp 38))], none, true⟩,
         ⟨(some 40), .lits 2 1 [(.val (.int .i64 0)), (.val (.int .i64 0))] [(0, 2, (.tmp 39))], none, true⟩,
         ⟨(some 41), .append 2 16 (.tmp 34) (.tmp 40), none, true⟩,
         ⟨(some 42), .fieldAddr 7 (.tmp 3), none, true⟩,
         ⟨none, .store 1 (.tmp 42) (.tmp 41), none, true⟩]))
    (.ops [⟨(some 31), .mv (.tmp 4), none, true⟩,
        ⟨(some 32), .bin .sub (.tmp 31) (.av (.val (.int .i64 1))), none, true⟩,
        ⟨(some 4), .mv (.tmp 32), none, true⟩]))))))
  (.seq (.ops [⟨(some 43), .load (some 8) (.tmp 3), none, true⟩,
      ⟨none, .store 8 (.tmp 2) (.tmp 43), none, true⟩])
  (.ret))))))
theorem f_wo_rframe : cFunc Try.prog 54 = some ⟨44, c_wo_rframe, [.cell 2 (some 8)]⟩ := by kernel_rfl
/-- (*backstitch/words.reader).word: its code in AM. -/
def c_wo_word : ACode := .seq (.ops [⟨(some 2), .mv (.av (.val (.int .u64 0))), none, true⟩])
  (.seq (.seq (.ops [⟨(some 3), .mv (.tmp 0), none, true⟩,
      ⟨(some 4), .nilCheck (.tmp 3), none, true⟩,
      ⟨(some 5), .fieldAddr 1 (.tmp 4), none, true⟩,
      ⟨(some 6), .load none (.tmp 5), none, true⟩,
      ⟨(some 7), .mv (.tmp 0), none, true⟩,
      ⟨(some 8), .nilCheck (.tmp 7), none, true⟩,
      ⟨(some 9), .fieldAddr 0 (.tmp 8), none, true⟩,
      ⟨(some 10), .load none (.tmp 9), none, true⟩,
      ⟨(some 11), .len (.tmp 10), none, true⟩,
      ⟨(some 12), .bin .geq (.tmp 6) (.tmp 11), none, true⟩])
  (.cond (.tmp 12)
    (.seq (.ops [⟨(some 13), .mv (.tmp 0), none, true⟩,
        ⟨(some 14), .nilCheck (.tmp 13), none, true⟩,
        ⟨(some 15), .fieldAddr 2 (.tmp 14), none, true⟩,
        ⟨none, .store 1 (.tmp 15) (.av (.val (.bool true))), none, true⟩])
    (.seq (.ops [⟨(some 2), .mv (.av (.val (.int .u64 0))), none, true⟩])
    (.ret)))
    (.skip)))
  (.seq (.ops [⟨(some 16), .mv (.tmp 0), none, true⟩,
      ⟨(some 17), .nilCheck (.tmp 16), none, true⟩,
      ⟨(some 18), .fieldAddr 1 (.tmp 17), none, true⟩,
      ⟨(some 19), .load none (.tmp 18), none, true⟩,
      ⟨(some 20), .bin .add (.tmp 19) (.av (.val (.int .i64 1))), none, true⟩,
      ⟨(some 21), .nilCheck (.tmp 16), none, true⟩,
      ⟨(some 22), .fieldAddr 1 (.tmp 21), none, true⟩,
      ⟨none, .store 1 (.tmp 22) (.tmp 20), none, true⟩])
  (.seq (.ops [⟨(some 23), .mv (.tmp 0), none, true⟩,
      ⟨(some 24), .nilCheck (.tmp 23), none, true⟩,
      ⟨(some 25), .fieldAddr 0 (.tmp 24), none, true⟩,
      ⟨(some 26), .load none (.tmp 25), none, true⟩,
      ⟨(some 27), .mv (.tmp 0), none, true⟩,
      ⟨(some 28), .nilCheck (.tmp 27), none, true⟩,
      ⟨(some 29), .fieldAddr 1 (.tmp 28), none, true⟩,
      ⟨(some 30), .load none (.tmp 29), none, true⟩,
      ⟨(some 31), .bin .sub (.tmp 30) (.av (.val (.int .i64 1))), none, true⟩,
      ⟨(some 32), .indexAddr 1 (.tmp 26) (.tmp 31), none, true⟩,
      ⟨(some 33), .load none (.tmp 32), none, true⟩,
      ⟨(some 2), .mv (.tmp 33), none, true⟩])
  (.ret))))
theorem f_wo_word : cFunc Try.prog 60 = some ⟨34, c_wo_word, [.tmp 2]⟩ := by kernel_rfl
/-- (*backstitch/words.reader).value: its code in AM. -/
def c_wo_rvalue : ACode := .seq (.ops [⟨(some 2), .zero [(.val (.int .i64 0)), (.val (.int .i64 0))], none, true⟩])
  (.seq (.ops [⟨(some 6), .mv (.tmp 0), none, true⟩,
      ⟨(some 7), .call (.av (.func 60 [])) [(.tmp 6)], none, true⟩,
      ⟨(some 8), .call (.av (.func 62 [])) [(.tmp 7)], none, true⟩,
      ⟨(some 5), .mv (.tmp 8), none, true⟩,
      ⟨(some 9), .extract 0 (.tmp 5), none, true⟩,
      ⟨(some 10), .extract 1 (.tmp 5), none, true⟩,
      ⟨(some 3), .zero [(.val (.int .i64 0)), (.val (.int .i64 0))], none, true⟩,
      ⟨none, .store 2 (.tmp 3) (.tmp 9), none, true⟩,
      ⟨(some 4), .mv (.tmp 10), none, true⟩])
  (.seq (.ops [⟨(some 11), .mv (.tmp 0), none, true⟩,
      ⟨(some 12), .mv (.tmp 0), none, true⟩,
      ⟨(some 13), .nilCheck (.tmp 12), none, true⟩,
      ⟨(some 14), .fieldAddr 2 (.tmp 13), none, true⟩,
      ⟨(some 15), .load none (.tmp 14), none, true⟩,
      ⟨(some 16), .mv (.tmp 15), none, true⟩,
      ⟨(some 17), .mv (.tmp 4), (some (16, false)), true⟩,
      ⟨(some 18), .bin .neq (.tmp 17) (.av (.val (.int .i64 0))), (some (16, false)), true⟩,
      ⟨(some 19), .pick (.tmp 16) (.av (.val (.bool true))) (.tmp 18), none, true⟩,
      ⟨(some 20), .nilCheck (.tmp 11), none, true⟩,
      ⟨(some 21), .fieldAddr 2 (.tmp 20), none, true⟩,
      ⟨none, .store 1 (.tmp 21) (.tmp 19), none, true⟩])
  (.seq (.ops [⟨(some 22), .load (some 2) (.tmp 3), none, true⟩,
      ⟨none, .store 2 (.tmp 2) (.tmp 22), none, true⟩])
  (.ret))))
theorem f_wo_rvalue : cFunc Try.prog 61 = some ⟨23, c_wo_rvalue, [.cell 2 (some 2)]⟩ := by kernel_rfl
end Go.Proofs.Ytpmmiaadfnildaa
