/-
  AM's code of functions, written by am/amprint.lean.
-/
import Derived.Test.YtlgminfejehndaaAmY
import Derived.KernelRfl
namespace Go.Proofs.Ytlgminfejehndaa
open Go Go.RowKit
set_option linter.unusedVariables false
/-- backstitch/backstitchkeep3.WeakMore: its code in AM. -/
def c_l_weakmore : ACode := .seq (.ops [⟨(some 4), .box 2 (.tmp 0), none, true⟩,
      ⟨(some 7), .box 2 (.tmp 3), none, true⟩,
      ⟨(some 8), .mv (.av (.val (.bool false))), none, true⟩])
  (.seq (.seq (.ops [⟨(some 17), .call (.av (.func 12 [])) [], none, true⟩,
      ⟨(some 18), .un .not (.tmp 17), none, true⟩])
  (.cond (.tmp 18)
    (.seq (.ops [⟨(some 8), .mv (.av (.val (.bool false))), none, true⟩])
    (.ret))
    (.skip)))
  (.seq (.ops [⟨(some 20), .load (some 2) (.tmp 4), none, true⟩,
      ⟨(some 21), .mv (.tmp 1), none, true⟩,
      ⟨(some 22), .call (.av (.func 13 [])) [(.tmp 20), (.tmp 21)], none, true⟩,
      ⟨(some 19), .mv (.tmp 22), none, true⟩,
      ⟨(some 23), .extract 0 (.tmp 19), none, true⟩,
      ⟨(some 24), .extract 1 (.tmp 19), none, true⟩,
      ⟨(some 9), .mv (.tmp 23), none, true⟩,
      ⟨(some 10), .mv (.tmp 24), none, true⟩])
  (.seq (.seq (.ops [⟨(some 25), .mv (.tmp 10), none, true⟩,
      ⟨(some 26), .bin .neq (.tmp 25) (.av (.val (.int .i64 0))), none, true⟩])
  (.cond (.tmp 26)
    (.seq (.ops [⟨(some 27), .call (.av (.func 12 [])) [], none, true⟩,
        ⟨(some 8), .mv (.tmp 27), none, true⟩])
    (.ret))
    (.skip)))
  (.seq (.ops [⟨(some 29), .fieldAddr 0 (.tmp 4), none, true⟩,
      ⟨(some 30), .load none (.tmp 29), none, false⟩,
      ⟨(some 31), .fieldAddr 1 (.tmp 4), none, true⟩,
      ⟨(some 32), .load none (.tmp 31), none, true⟩,
      ⟨(some 33), .call (.av (.func 14 [])) [(.tmp 32)], none, false⟩,
      ⟨(some 34), .mv (.tmp 2), none, true⟩,
      ⟨(some 35), .lits 1 1 [(.val (.int .i64 0))] [(0, 1, (.tmp 34))], none, true⟩,
      ⟨(some 36), .append 1 8 (.tmp 33) (.tmp 35), none, false⟩,
      ⟨(some 37), .build [(.val (.slice none 0 0)), (.val (.slice none 0 0))] [(0, 1, (.tmp 30)), (1, 1, (.tmp 36))], none, true⟩,
      ⟨(some 38), .mv (.tmp 1), none, true⟩,
      ⟨(some 39), .call (.av (.func 13 [])) [(.tmp 37), (.tmp 38)], none, true⟩,
      ⟨(some 28), .mv (.tmp 39), none, true⟩,
      ⟨(some 40), .extract 0 (.tmp 28), none, true⟩,
      ⟨(some 41), .extract 1 (.tmp 28), none, true⟩,
      ⟨(some 11), .mv (.tmp 40), none, true⟩,
      ⟨(some 12), .mv (.tmp 41), none, true⟩])
  (.seq (.ops [⟨(some 43), .load (some 2) (.tmp 4), none, false⟩,
      ⟨(some 44), .mv (.tmp 1), none, true⟩,
      ⟨(some 45), .call (.av (.func 15 [])) [(.tmp 44)], none, false⟩,
      ⟨(some 46), .load (some 2) (.tmp 7), none, false⟩,
      ⟨(some 47), .lits 2 1 [(.val (.int .i64 0)), (.val (.int .i64 0))] [(0, 2, (.tmp 46))], none, true⟩,
      ⟨(some 48), .append 2 16 (.tmp 45) (.tmp 47), none, false⟩,
      ⟨(some 49), .call (.av (.func 13 [])) [(.tmp 43), (.tmp 48)], none, true⟩,
      ⟨(some 42), .mv (.tmp 49), none, true⟩,
      ⟨(some 50), .extract 0 (.tmp 42), none, true⟩,
      ⟨(some 51), .extract 1 (.tmp 42), none, true⟩,
      ⟨(some 13), .mv (.tmp 50), none, true⟩,
      ⟨(some 14), .mv (.tmp 51), none, true⟩])
  (.seq (.seq (.ops [⟨(some 52), .mv (.tmp 9), none, true⟩,
      ⟨(some 53), .len (.tmp 52), none, true⟩,
      ⟨(some 54), .mv (.av (.val (.int .i64 0))), none, true⟩])
  (rangeCode 0 1 55 54 53 76
    (.seq (.ops [⟨(some 56), .indexAddr 1 (.tmp 52) (.tmp 54), none, true⟩,
        ⟨(some 57), .load none (.tmp 56), none, true⟩,
        ⟨(some 16), .mv (.tmp 57), none, true⟩])
    (.seq (.ops [⟨(some 58), .mv (.tmp 12), none, true⟩,
        ⟨(some 59), .bin .eql (.tmp 58) (.av (.val (.int .i64 0))), none, true⟩,
        ⟨(some 60), .mv (.tmp 59), none, true⟩,
        ⟨(some 61), .mv (.tmp 11), (some (60, true)), true⟩,
        ⟨(some 62), .mv (.tmp 16), (some (60, true)), true⟩,
        ⟨(some 63), .call (.av (.func 16 [])) [(.tmp 61), (.tmp 62)], (some (60, true)), true⟩,
        ⟨(some 64), .un .not (.tmp 63), (some (60, true)), true⟩,
        ⟨(some 65), .pick (.tmp 60) (.tmp 64) (.av (.val (.bool false))), none, true⟩,
        ⟨(some 66), .mv (.tmp 65), none, true⟩,
        ⟨(some 67), .mv (.tmp 14), (some (66, false)), true⟩,
        ⟨(some 68), .bin .eql (.tmp 67) (.av (.val (.int .i64 0))), (some (66, false)), true⟩,
        ⟨(some 69), .mv (.tmp 68), (some (66, false)), true⟩,
        ⟨(some 70), .mv (.tmp 13), (some (69, true)), true⟩,
        ⟨(some 71), .mv (.tmp 16), (some (69, true)), true⟩,
        ⟨(some 72), .call (.av (.func 16 [])) [(.tmp 70), (.tmp 71)], (some (69, true)), true⟩,
        ⟨(some 73), .un .not (.tmp 72), (some (69, true)), true⟩,
        ⟨(some 74), .pick (.tmp 69) (.tmp 73) (.av (.val (.bool false))), (some (66, false)), true⟩,
        ⟨(some 75), .pick (.tmp 66) (.av (.val (.bool true))) (.tmp 74), none, true⟩])
    (.cond (.tmp 75)
      (.seq (.ops [⟨(some 8), .mv (.av (.val (.bool false))), none, true⟩])
      (.ret))
      (.skip))))))
  (.seq (.ops [⟨(some 77), .call (.av (.func 12 [])) [], none, true⟩,
      ⟨(some 78), .mv (.tmp 77), none, true⟩,
      ⟨(some 79), .mv (.tmp 14), (some (78, true)), true⟩,
      ⟨(some 80), .bin .neq (.tmp 79) (.av (.val (.int .i64 0))), (some (78, true)), true⟩,
      ⟨(some 81), .mv (.tmp 80), (some (78, true)), true⟩,
      ⟨(some 82), .mv (.tmp 9), (some (81, false)), true⟩,
      ⟨(some 83), .fieldAddr 0 (.tmp 7), (some (81, false)), true⟩,
      ⟨(some 84), .load none (.tmp 83), (some (81, false)), true⟩,
      ⟨(some 85), .call (.av (.func 16 [])) [(.tmp 82), (.tmp 84)], (some (81, false)), true⟩,
      ⟨(some 86), .pick (.tmp 81) (.av (.val (.bool true))) (.tmp 85), (some (78, true)), true⟩,
      ⟨(some 87), .mv (.tmp 86), (some (78, true)), true⟩,
      ⟨(some 88), .mv (.tmp 13), (some (87, false)), true⟩,
      ⟨(some 89), .mv (.tmp 9), (some (87, false)), true⟩,
      ⟨(some 90), .call (.av (.func 17 [])) [(.tmp 88), (.tmp 89)], (some (87, false)), true⟩,
      ⟨(some 91), .pick (.tmp 87) (.av (.val (.bool true))) (.tmp 90), (some (78, true)), true⟩,
      ⟨(some 92), .pick (.tmp 78) (.tmp 91) (.av (.val (.bool false))), none, true⟩,
      ⟨(some 8), .mv (.tmp 92), none, true⟩])
  (.ret))))))))
theorem f_l_weakmore : cFunc Try.prog 3 = some ⟨93, c_l_weakmore, [.tmp 8]⟩ := by kernel_rfl
/-- backstitch/backstitchkeep3.WeakLeast: its code in AM. -/
def c_l_weakleast : ACode := .seq (.ops [⟨(some 3), .box 2 (.tmp 0), none, true⟩,
      ⟨(some 4), .box 1 (.tmp 1), none, true⟩,
      ⟨(some 6), .mv (.av (.val (.bool false))), none, true⟩])
  (.seq (.seq (.ops [⟨(some 18), .call (.av (.func 12 [])) [], none, true⟩,
      ⟨(some 19), .un .not (.tmp 18), none, true⟩])
  (.cond (.tmp 19)
    (.seq (.ops [⟨(some 6), .mv (.av (.val (.bool false))), none, true⟩])
    (.ret))
    (.skip)))
  (.seq (.ops [⟨(some 21), .load (some 2) (.tmp 3), none, true⟩,
      ⟨(some 22), .load none (.tmp 4), none, true⟩,
      ⟨(some 23), .call (.av (.func 13 [])) [(.tmp 21), (.tmp 22)], none, true⟩,
      ⟨(some 20), .mv (.tmp 23), none, true⟩,
      ⟨(some 24), .extract 0 (.tmp 20), none, true⟩,
      ⟨(some 25), .extract 1 (.tmp 20), none, true⟩,
      ⟨(some 7), .mv (.tmp 24), none, true⟩,
      ⟨(some 8), .mv (.tmp 25), none, true⟩])
  (.seq (.seq (.ops [⟨(some 26), .mv (.tmp 8), none, true⟩,
      ⟨(some 27), .bin .neq (.tmp 26) (.av (.val (.int .i64 0))), none, true⟩])
  (.cond (.tmp 27)
    (.seq (.ops [⟨(some 28), .call (.av (.func 12 [])) [], none, true⟩,
        ⟨(some 29), .mv (.tmp 28), none, true⟩,
        ⟨(some 30), .mv (.tmp 7), (some (29, true)), true⟩,
        ⟨(some 31), .len (.tmp 30), (some (29, true)), true⟩,
        ⟨(some 32), .bin .eql (.tmp 31) (.av (.val (.int .i64 0))), (some (29, true)), true⟩,
        ⟨(some 33), .pick (.tmp 29) (.tmp 32) (.av (.val (.bool false))), none, true⟩,
        ⟨(some 6), .mv (.tmp 33), none, true⟩])
    (.ret))
    (.skip)))
  (.seq (.ops [⟨(some 34), .func 18 [(.tmp 3), (.tmp 4)], none, true⟩,
      ⟨(some 9), .mv (.tmp 34), none, true⟩])
  (.seq (.ops [⟨(some 35), .fieldAddr 0 (.tmp 3), none, true⟩,
      ⟨(some 36), .load none (.tmp 35), none, true⟩,
      ⟨(some 37), .len (.tmp 36), none, true⟩,
      ⟨(some 38), .mkSlice 1 1 [(.val (.bool false))] (.tmp 37) (.tmp 37), none, true⟩,
      ⟨(some 10), .mv (.tmp 38), none, true⟩])
  (.seq (.ops [⟨(some 39), .fieldAddr 0 (.tmp 3), none, true⟩,
      ⟨(some 40), .load none (.tmp 39), none, true⟩,
      ⟨(some 41), .len (.tmp 40), none, true⟩,
      ⟨(some 42), .mkSlice 1 1 [(.val (.bool false))] (.tmp 41) (.tmp 41), none, true⟩,
      ⟨(some 11), .mv (.tmp 42), none, true⟩])
  (.seq (.seq (.ops [⟨(some 43), .mv (.tmp 7), none, true⟩,
      ⟨(some 44), .len (.tmp 43), none, true⟩,
      ⟨(some 45), .mv (.av (.val (.int .i64 0))), none, true⟩])
  (rangeCode 0 1 46 45 44 52
    (.seq (.ops [⟨(some 47), .indexAddr 1 (.tmp 43) (.tmp 45), none, true⟩,
        ⟨(some 48), .load none (.tmp 47), none, true⟩,
        ⟨(some 13), .mv (.tmp 48), none, true⟩])
    (.ops [⟨(some 49), .mv (.tmp 10), none, true⟩,
        ⟨(some 50), .mv (.tmp 13), none, true⟩,
        ⟨(some 51), .indexAddr 1 (.tmp 49) (.tmp 50), none, true⟩,
        ⟨none, .store 1 (.tmp 51) (.av (.val (.bool true))), none, true⟩]))))
  (.seq (.seq (.ops [⟨(some 53), .mv (.tmp 11), none, true⟩,
      ⟨(some 54), .len (.tmp 53), none, true⟩,
      ⟨(some 55), .mv (.av (.val (.int .i64 0))), none, true⟩])
  (rangeCode 2 3 56 55 54 61
    (.seq (.ops [⟨(some 57), .mv (.tmp 55), none, true⟩,
        ⟨(some 14), .mv (.tmp 57), none, true⟩])
    (.ops [⟨(some 58), .mv (.tmp 11), none, true⟩,
        ⟨(some 59), .mv (.tmp 14), none, true⟩,
        ⟨(some 60), .indexAddr 1 (.tmp 58) (.tmp 59), none, true⟩,
        ⟨none, .store 1 (.tmp 60) (.av (.val (.bool true))), none, true⟩]))))
  (.seq (.seq (.ops [⟨(some 62), .mv (.tmp 2), none, true⟩,
      ⟨(some 63), .len (.tmp 62), none, true⟩,
      ⟨(some 64), .mv (.av (.val (.int .i64 0))), none, true⟩])
  (rangeCode 4 5 65 64 63 79
    (.seq (.ops [⟨(some 66), .indexAddr 1 (.tmp 62) (.tmp 64), none, true⟩,
        ⟨(some 67), .load none (.tmp 66), none, true⟩,
        ⟨(some 16), .mv (.tmp 67), none, true⟩])
    (.seq (.ops [⟨(some 68), .mv (.tmp 16), none, true⟩,
        ⟨(some 69), .bin .geq (.tmp 68) (.av (.val (.int .i64 0))), none, true⟩,
        ⟨(some 70), .mv (.tmp 69), none, true⟩,
        ⟨(some 71), .mv (.tmp 16), (some (70, true)), true⟩,
        ⟨(some 72), .mv (.tmp 11), (some (70, true)), true⟩,
        ⟨(some 73), .len (.tmp 72), (some (70, true)), true⟩,
        ⟨(some 74), .bin .lss (.tmp 71) (.tmp 73), (some (70, true)), true⟩,
        ⟨(some 75), .pick (.tmp 70) (.tmp 74) (.av (.val (.bool false))), none, true⟩])
    (.cond (.tmp 75)
      (.ops [⟨(some 76), .mv (.tmp 11), none, true⟩,
          ⟨(some 77), .mv (.tmp 16), none, true⟩,
          ⟨(some 78), .indexAddr 1 (.tmp 76) (.tmp 77), none, true⟩,
          ⟨none, .store 1 (.tmp 78) (.av (.val (.bool false))), none, true⟩])
      (.skip))))))
  (.seq (.seq (.ops [⟨(some 80), .mv (.tmp 10), none, true⟩,
      ⟨(some 81), .len (.tmp 80), none, true⟩,
      ⟨(some 82), .mv (.av (.val (.int .i64 0))), none, true⟩])
  (rangeCode 6 7 83 82 81 101
    (.seq (.ops [⟨(some 84), .mv (.tmp 82), none, true⟩,
        ⟨(some 17), .mv (.tmp 84), none, true⟩])
    (.seq (.ops [⟨(some 85), .mv (.tmp 9), none, true⟩,
        ⟨(some 86), .mv (.tmp 11), none, true⟩,
        ⟨(some 87), .call (.tmp 85) [(.tmp 86)], none, true⟩,
        ⟨(some 88), .mv (.tmp 87), none, true⟩,
        ⟨(some 89), .mv (.tmp 10), (some (88, true)), true⟩,
        ⟨(some 90), .mv (.tmp 17), (some (88, true)), true⟩,
        ⟨(some 91), .indexAddr 1 (.tmp 89) (.tmp 90), (some (88, true)), true⟩,
        ⟨(some 92), .load none (.tmp 91), (some (88, true)), true⟩,
        ⟨(some 93), .pick (.tmp 88) (.tmp 92) (.av (.val (.bool false))), none, true⟩,
        ⟨(some 94), .mv (.tmp 93), none, true⟩,
        ⟨(some 95), .mv (.tmp 11), (some (94, true)), true⟩,
        ⟨(some 96), .mv (.tmp 17), (some (94, true)), true⟩,
        ⟨(some 97), .indexAddr 1 (.tmp 95) (.tmp 96), (some (94, true)), true⟩,
        ⟨(some 98), .load none (.tmp 97), (some (94, true)), true⟩,
        ⟨(some 99), .un .not (.tmp 98), (some (94, true)), true⟩,
        ⟨(some 100), .pick (.tmp 94) (.tmp 99) (.av (.val (.bool false))), none, true⟩])
    (.cond (.tmp 100)
      (.seq (.ops [⟨(some 6), .mv (.av (.val (.bool false))), none, true⟩])
      (.ret))
      (.skip))))))
  (.seq (.ops [⟨(some 102), .call (.av (.func 12 [])) [], none, true⟩,
      ⟨(some 103), .mv (.tmp 102), none, true⟩,
      ⟨(some 104), .mv (.tmp 9), (some (103, true)), true⟩,
      ⟨(some 105), .mv (.tmp 10), (some (103, true)), true⟩,
      ⟨(some 106), .call (.tmp 104) [(.tmp 105)], (some (103, true)), true⟩,
      ⟨(some 107), .pick (.tmp 103) (.tmp 106) (.av (.val (.bool false))), none, true⟩,
      ⟨(some 6), .mv (.tmp 107), none, true⟩])
  (.ret))))))))))))
theorem f_l_weakleast : cFunc Try.prog 4 = some ⟨108, c_l_weakleast, [.tmp 6]⟩ := by kernel_rfl
/-- backstitch/backstitchkeep3.WeakOrder: its code in AM. -/
def c_l_weakorder : ACode := .seq (.ops [⟨(some 2), .box 2 (.tmp 0), none, true⟩,
      ⟨(some 4), .mv (.av (.val (.bool false))), none, true⟩])
  (.seq (.seq (.ops [⟨(some 19), .call (.av (.func 12 [])) [], none, true⟩,
      ⟨(some 20), .un .not (.tmp 19), none, true⟩])
  (.cond (.tmp 20)
    (.seq (.ops [⟨(some 4), .mv (.av (.val (.bool false))), none, true⟩])
    (.ret))
    (.skip)))
  (.seq (.ops [⟨(some 22), .load (some 2) (.tmp 2), none, true⟩,
      ⟨(some 23), .mv (.tmp 1), none, true⟩,
      ⟨(some 24), .call (.av (.func 13 [])) [(.tmp 22), (.tmp 23)], none, true⟩,
      ⟨(some 21), .mv (.tmp 24), none, true⟩,
      ⟨(some 25), .extract 0 (.tmp 21), none, true⟩,
      ⟨(some 26), .extract 1 (.tmp 21), none, true⟩,
      ⟨(some 5), .mv (.tmp 25), none, true⟩,
      ⟨(some 6), .mv (.tmp 26), none, true⟩])
  (.seq (.ops [⟨(some 28), .load (some 2) (.tmp 2), none, true⟩,
      ⟨(some 29), .mv (.tmp 1), none, true⟩,
      ⟨(some 30), .call (.av (.func 19 [])) [(.tmp 28), (.tmp 29)], none, true⟩,
      ⟨(some 27), .mv (.tmp 30), none, true⟩,
      ⟨(some 31), .extract 0 (.tmp 27), none, true⟩,
      ⟨(some 32), .extract 1 (.tmp 27), none, true⟩,
      ⟨(some 7), .mv (.tmp 31), none, true⟩,
      ⟨(some 8), .mv (.tmp 32), none, true⟩])
  (.seq (.seq (.ops [⟨(some 33), .mv (.tmp 6), none, true⟩,
      ⟨(some 34), .bin .neq (.tmp 33) (.av (.val (.int .i64 0))), none, true⟩,
      ⟨(some 35), .mv (.tmp 34), none, true⟩,
      ⟨(some 36), .mv (.tmp 8), (some (35, false)), true⟩,
      ⟨(some 37), .bin .neq (.tmp 36) (.av (.val (.int .i64 0))), (some (35, false)), true⟩,
      ⟨(some 38), .pick (.tmp 35) (.av (.val (.bool true))) (.tmp 37), none, true⟩])
  (.cond (.tmp 38)
    (.seq (.ops [⟨(some 39), .call (.av (.func 12 [])) [], none, true⟩,
        ⟨(some 40), .mv (.tmp 39), none, true⟩,
        ⟨(some 41), .mv (.tmp 6), (some (40, true)), true⟩,
        ⟨(some 42), .mv (.tmp 8), (some (40, true)), true⟩,
        ⟨(some 43), .bin .eql (.tmp 41) (.tmp 42), (some (40, true)), true⟩,
        ⟨(some 44), .pick (.tmp 40) (.tmp 43) (.av (.val (.bool false))), none, true⟩,
        ⟨(some 4), .mv (.tmp 44), none, true⟩])
    (.ret))
    (.skip)))
  (.seq (.ops [⟨(some 9), .mv (.av (.val (.slice none 0 0))), none, true⟩])
  (.seq (.seq (.ops [⟨(some 45), .mv (.tmp 1), none, true⟩,
      ⟨(some 46), .len (.tmp 45), none, true⟩,
      ⟨(some 47), .bin .sub (.tmp 46) (.av (.val (.int .i64 1))), none, true⟩,
      ⟨(some 10), .mv (.tmp 47), none, true⟩])
  (.block 0 (.loop (.seq (.seq (.ops [⟨(some 48), .mv (.tmp 10), none, true⟩,
        ⟨(some 49), .bin .geq (.tmp 48) (.av (.val (.int .i64 0))), none, true⟩])
    (.cond (.tmp 49)
      (.skip)
      (.exit 0)))
    (.seq (.block 1 (.ops [⟨(some 52), .mv (.tmp 9), none, true⟩,
         ⟨(some 53), .mv (.tmp 1), none, true⟩,
         ⟨(some 54), .mv (.tmp 10), none, true⟩,
         ⟨(some 55), .indexAddr 2 (.tmp 53) (.tmp 54), none, true⟩,
         ⟨(some 56), .load (some 2) (.tmp 55), none, true⟩,
         ⟨(some 57), .lits 2 1 [(.val (.int .i64 0)), (.val (.int .i64 0))] [(0, 2, (.tmp 56))], none, true⟩,
         ⟨(some 58), .append 2 16 (.tmp 52) (.tmp 57), none, true⟩,
         ⟨(some 9), .mv (.tmp 58), none, true⟩]))
    (.ops [⟨(some 50), .mv (.tmp 10), none, true⟩,
        ⟨(some 51), .bin .sub (.tmp 50) (.av (.val (.int .i64 1))), none, true⟩,
        ⟨(some 10), .mv (.tmp 51), none, true⟩]))))))
  (.seq (.ops [⟨(some 60), .load (some 2) (.tmp 2), none, true⟩,
      ⟨(some 61), .mv (.tmp 9), none, true⟩,
      ⟨(some 62), .call (.av (.func 13 [])) [(.tmp 60), (.tmp 61)], none, true⟩,
      ⟨(some 59), .mv (.tmp 62), none, true⟩,
      ⟨(some 63), .extract 0 (.tmp 59), none, true⟩,
      ⟨(some 64), .extract 1 (.tmp 59), none, true⟩,
      ⟨(some 11), .mv (.tmp 63), none, true⟩,
      ⟨(some 12), .mv (.tmp 64), none, true⟩])
  (.seq (.ops [⟨(some 66), .load (some 2) (.tmp 2), none, true⟩,
      ⟨(some 67), .mv (.tmp 7), none, true⟩,
      ⟨(some 68), .call (.av (.func 13 [])) [(.tmp 66), (.tmp 67)], none, true⟩,
      ⟨(some 65), .mv (.tmp 68), none, true⟩,
      ⟨(some 69), .extract 0 (.tmp 65), none, true⟩,
      ⟨(some 70), .extract 1 (.tmp 65), none, true⟩,
      ⟨(some 13), .mv (.tmp 69), none, true⟩,
      ⟨(some 14), .mv (.tmp 70), none, true⟩])
  (.seq (.ops [⟨(some 72), .load (some 2) (.tmp 2), none, true⟩,
      ⟨(some 73), .call (.av (.func 13 [])) [(.tmp 72), (.av (.val (.slice none 0 0)))], none, true⟩,
      ⟨(some 71), .mv (.tmp 73), none, true⟩,
      ⟨(some 74), .extract 0 (.tmp 71), none, true⟩,
      ⟨(some 75), .extract 1 (.tmp 71), none, true⟩,
      ⟨(some 15), .mv (.tmp 74), none, true⟩,
      ⟨(some 16), .mv (.tmp 75), none, true⟩])
  (.seq (.ops [⟨(some 77), .load (some 2) (.tmp 2), none, true⟩,
      ⟨(some 78), .call (.av (.func 20 [])) [(.tmp 77)], none, true⟩,
      ⟨(some 76), .mv (.tmp 78), none, true⟩,
      ⟨(some 79), .extract 0 (.tmp 76), none, true⟩,
      ⟨(some 80), .extract 1 (.tmp 76), none, true⟩,
      ⟨(some 17), .mv (.tmp 79), none, true⟩,
      ⟨(some 18), .mv (.tmp 80), none, true⟩])
  (.seq (.ops [⟨(some 81), .call (.av (.func 12 [])) [], none, true⟩,
      ⟨(some 82), .mv (.tmp 81), none, true⟩,
      ⟨(some 83), .mv (.tmp 12), (some (82, true)), true⟩,
      ⟨(some 84), .bin .eql (.tmp 83) (.av (.val (.int .i64 0))), (some (82, true)), true⟩,
      ⟨(some 85), .pick (.tmp 82) (.tmp 84) (.av (.val (.bool false))), none, true⟩,
      ⟨(some 86), .mv (.tmp 85), none, true⟩,
      ⟨(some 87), .mv (.tmp 14), (some (86, true)), true⟩,
      ⟨(some 88), .bin .eql (.tmp 87) (.av (.val (.int .i64 0))), (some (86, true)), true⟩,
      ⟨(some 89), .pick (.tmp 86) (.tmp 88) (.av (.val (.bool false))), none, true⟩,
      ⟨(some 90), .mv (.tmp 89), none, true⟩,
      ⟨(some 91), .mv (.tmp 16), (some (90, true)), true⟩,
      ⟨(some 92), .bin .eql (.tmp 91) (.av (.val (.int .i64 0))), (some (90, true)), true⟩,
      ⟨(some 93), .pick (.tmp 90) (.tmp 92) (.av (.val (.bool false))), none, true⟩,
      ⟨(some 94), .mv (.tmp 93), none, true⟩,
      ⟨(some 95), .mv (.tmp 18), (some (94, true)), true⟩,
      ⟨(some 96), .bin .eql (.tmp 95) (.av (.val (.int .i64 0))), (some (94, true)), true⟩,
      ⟨(some 97), .pick (.tmp 94) (.tmp 96) (.av (.val (.bool false))), none, true⟩,
      ⟨(some 98), .mv (.tmp 97), none, true⟩,
      ⟨(some 99), .mv (.tmp 5), (some (98, true)), true⟩,
      ⟨(some 100), .mv (.tmp 11), (some (98, true)), true⟩,
      ⟨(some 101), .call (.av (.func 17 [])) [(.tmp 99), (.tmp 100)], (some (98, true)), true⟩,
      ⟨(some 102), .pick (.tmp 98) (.tmp 101) (.av (.val (.bool false))), none, true⟩,
      ⟨(some 103), .mv (.tmp 102), none, true⟩,
      ⟨(some 104), .mv (.tmp 5), (some (103, true)), true⟩,
      ⟨(some 105), .mv (.tmp 13), (some (103, true)), true⟩,
      ⟨(some 106), .call (.av (.func 17 [])) [(.tmp 104), (.tmp 105)], (some (103, true)), true⟩,
      ⟨(some 107), .pick (.tmp 103) (.tmp 106) (.av (.val (.bool false))), none, true⟩,
      ⟨(some 108), .mv (.tmp 107), none, true⟩,
      ⟨(some 109), .mv (.tmp 15), (some (108, true)), true⟩,
      ⟨(some 110), .mv (.tmp 17), (some (108, true)), true⟩,
      ⟨(some 111), .call (.av (.func 17 [])) [(.tmp 109), (.tmp 110)], (some (108, true)), true⟩,
      ⟨(some 112), .pick (.tmp 108) (.tmp 111) (.av (.val (.bool false))), none, true⟩,
      ⟨(some 4), .mv (.tmp 112), none, true⟩])
  (.ret))))))))))))
theorem f_l_weakorder : cFunc Try.prog 5 = some ⟨113, c_l_weakorder, [.tmp 4]⟩ := by kernel_rfl
/-- backstitch/weak.Live: its code in AM. -/
def c_wk_live : ACode := .seq (.ops [⟨(some 2), .box 2 (.tmp 0), none, true⟩,
      ⟨(some 4), .mv (.av (.val (.slice none 0 0))), none, true⟩,
      ⟨(some 5), .mv (.av (.val (.int .i64 0))), none, true⟩])
  (.seq (.ops [⟨(some 9), .load (some 2) (.tmp 2), none, true⟩,
      ⟨(some 10), .mv (.tmp 1), none, true⟩,
      ⟨(some 11), .call (.av (.func 30 [])) [(.tmp 9), (.tmp 10)], none, true⟩,
      ⟨(some 8), .mv (.tmp 11), none, true⟩,
      ⟨(some 12), .extract 0 (.tmp 8), none, true⟩,
      ⟨(some 13), .extract 1 (.tmp 8), none, true⟩,
      ⟨(some 6), .mv (.tmp 12), none, true⟩,
      ⟨(some 7), .mv (.tmp 13), none, true⟩])
  (.seq (.ops [⟨(some 14), .mv (.tmp 6), none, true⟩,
      ⟨(some 15), .call (.av (.func 31 [])) [(.tmp 14)], none, true⟩,
      ⟨(some 16), .mv (.tmp 7), none, true⟩,
      ⟨(some 4), .mv (.tmp 15), none, true⟩,
      ⟨(some 5), .mv (.tmp 16), none, true⟩])
  (.ret)))
theorem f_wk_live : cFunc Try.prog 13 = some ⟨17, c_wk_live, [.tmp 4, .tmp 5]⟩ := by kernel_rfl
/-- backstitch/backstitchref3.Copy[int]: its code in AM. -/
def c_r_copyint : ACode := .seq (.ops [⟨(some 2), .mv (.av (.val (.slice none 0 0))), none, true⟩])
  (.seq (.ops [⟨(some 3), .mv (.tmp 0), none, true⟩,
      ⟨(some 4), .append 1 8 (.av (.val (.slice none 0 0))) (.tmp 3), none, true⟩,
      ⟨(some 2), .mv (.tmp 4), none, true⟩])
  (.ret))
theorem f_r_copyint : cFunc Try.prog 14 = some ⟨5, c_r_copyint, [.tmp 2]⟩ := by kernel_rfl
/-- backstitch/backstitchref3.Copy[backstitch/api.RPair]: its code in AM. -/
def c_r_copypair : ACode := .seq (.ops [⟨(some 2), .mv (.av (.val (.slice none 0 0))), none, true⟩])
  (.seq (.ops [⟨(some 3), .mv (.tmp 0), none, true⟩,
      ⟨(some 4), .append 2 16 (.av (.val (.slice none 0 0))) (.tmp 3), none, true⟩,
      ⟨(some 2), .mv (.tmp 4), none, true⟩])
  (.ret))
theorem f_r_copypair : cFunc Try.prog 15 = some ⟨5, c_r_copypair, [.tmp 2]⟩ := by kernel_rfl
/-- backstitch/backstitchref3.Has[int]: its code in AM. -/
def c_r_hasint : ACode := .seq (.ops [⟨(some 4), .mv (.av (.val (.bool false))), none, true⟩])
  (.seq (.seq (.ops [⟨(some 7), .mv (.tmp 0), none, true⟩,
      ⟨(some 8), .len (.tmp 7), none, true⟩,
      ⟨(some 9), .mv (.av (.val (.int .i64 0))), none, true⟩])
  (rangeCode 0 1 10 9 8 16
    (.seq (.ops [⟨(some 11), .indexAddr 1 (.tmp 7) (.tmp 9), none, true⟩,
        ⟨(some 12), .load none (.tmp 11), none, true⟩,
        ⟨(some 6), .mv (.tmp 12), none, true⟩])
    (.seq (.ops [⟨(some 13), .mv (.tmp 1), none, true⟩,
        ⟨(some 14), .mv (.tmp 6), none, true⟩,
        ⟨(some 15), .bin .eql (.tmp 13) (.tmp 14), none, true⟩])
    (.cond (.tmp 15)
      (.seq (.ops [⟨(some 4), .mv (.av (.val (.bool true))), none, true⟩])
      (.ret))
      (.skip))))))
  (.seq (.ops [⟨(some 4), .mv (.av (.val (.bool false))), none, true⟩])
  (.ret)))
theorem f_r_hasint : cFunc Try.prog 16 = some ⟨17, c_r_hasint, [.tmp 4]⟩ := by kernel_rfl
/-- backstitch/backstitchref3.Eq[int]: its code in AM. -/
def c_r_eqint : ACode := .seq (.ops [⟨(some 4), .mv (.av (.val (.bool false))), none, true⟩])
  (.seq (.seq (.ops [⟨(some 7), .mv (.tmp 0), none, true⟩,
      ⟨(some 8), .len (.tmp 7), none, true⟩,
      ⟨(some 9), .mv (.tmp 1), none, true⟩,
      ⟨(some 10), .len (.tmp 9), none, true⟩,
      ⟨(some 11), .bin .neq (.tmp 8) (.tmp 10), none, true⟩])
  (.cond (.tmp 11)
    (.seq (.ops [⟨(some 4), .mv (.av (.val (.bool false))), none, true⟩])
    (.ret))
    (.skip)))
  (.seq (.seq (.ops [⟨(some 12), .mv (.tmp 0), none, true⟩,
      ⟨(some 13), .len (.tmp 12), none, true⟩,
      ⟨(some 14), .mv (.av (.val (.int .i64 0))), none, true⟩])
  (rangeCode 0 1 15 14 13 25
    (.seq (.ops [⟨(some 16), .mv (.tmp 14), none, true⟩,
        ⟨(some 17), .indexAddr 1 (.tmp 12) (.tmp 14), none, true⟩,
        ⟨(some 18), .load none (.tmp 17), none, true⟩,
        ⟨(some 5), .mv (.tmp 16), none, true⟩,
        ⟨(some 6), .mv (.tmp 18), none, true⟩])
    (.seq (.ops [⟨(some 19), .mv (.tmp 6), none, true⟩,
        ⟨(some 20), .mv (.tmp 1), none, true⟩,
        ⟨(some 21), .mv (.tmp 5), none, true⟩,
        ⟨(some 22), .indexAddr 1 (.tmp 20) (.tmp 21), none, true⟩,
        ⟨(some 23), .load none (.tmp 22), none, true⟩,
        ⟨(some 24), .bin .neq (.tmp 19) (.tmp 23), none, true⟩])
    (.cond (.tmp 24)
      (.seq (.ops [⟨(some 4), .mv (.av (.val (.bool false))), none, true⟩])
      (.ret))
      (.skip))))))
  (.seq (.ops [⟨(some 4), .mv (.av (.val (.bool true))), none, true⟩])
  (.ret))))
theorem f_r_eqint : cFunc Try.prog 17 = some ⟨26, c_r_eqint, [.tmp 4]⟩ := by kernel_rfl
/-- backstitch/backstitchkeep3.WeakLeast$1: its code in AM. -/
def c_l_weakleast1 : ACode := .seq (.ops [⟨(some 4), .mv (.av (.val (.bool false))), none, true⟩])
  (.seq (.seq (.ops [⟨(some 13), .fieldAddr 1 (.tmp 1), none, true⟩,
      ⟨(some 14), .load none (.tmp 13), none, true⟩,
      ⟨(some 15), .len (.tmp 14), none, true⟩,
      ⟨(some 16), .mv (.av (.val (.int .i64 0))), none, true⟩])
  (rangeCode 0 1 17 16 15 25
    (.seq (.ops [⟨(some 18), .indexAddr 1 (.tmp 14) (.tmp 16), none, true⟩,
        ⟨(some 19), .load none (.tmp 18), none, true⟩,
        ⟨(some 6), .mv (.tmp 19), none, true⟩])
    (.seq (.ops [⟨(some 20), .mv (.tmp 0), none, true⟩,
        ⟨(some 21), .mv (.tmp 6), none, true⟩,
        ⟨(some 22), .indexAddr 1 (.tmp 20) (.tmp 21), none, true⟩,
        ⟨(some 23), .load none (.tmp 22), none, true⟩,
        ⟨(some 24), .un .not (.tmp 23), none, true⟩])
    (.cond (.tmp 24)
      (.seq (.ops [⟨(some 4), .mv (.av (.val (.bool false))), none, true⟩])
      (.ret))
      (.skip))))))
  (.seq (.seq (.ops [⟨(some 26), .fieldAddr 0 (.tmp 1), none, true⟩,
      ⟨(some 27), .load none (.tmp 26), none, true⟩,
      ⟨(some 28), .len (.tmp 27), none, true⟩,
      ⟨(some 29), .mv (.av (.val (.int .i64 0))), none, true⟩])
  (rangeCode 2 3 30 29 28 52
    (.seq (.ops [⟨(some 31), .mv (.tmp 29), none, true⟩,
        ⟨(some 32), .indexAddr 1 (.tmp 27) (.tmp 29), none, true⟩,
        ⟨(some 33), .load none (.tmp 32), none, true⟩,
        ⟨(some 7), .mv (.tmp 31), none, true⟩,
        ⟨(some 8), .mv (.tmp 33), none, true⟩])
    (.seq (.ops [⟨(some 34), .mv (.tmp 8), none, true⟩,
        ⟨(some 35), .len (.tmp 34), none, true⟩,
        ⟨(some 36), .mv (.av (.val (.int .i64 0))), none, true⟩])
    (rangeCode 4 5 37 36 35 51
      (.seq (.ops [⟨(some 38), .indexAddr 1 (.tmp 34) (.tmp 36), none, true⟩,
          ⟨(some 39), .load none (.tmp 38), none, true⟩,
          ⟨(some 10), .mv (.tmp 39), none, true⟩])
      (.seq (.ops [⟨(some 40), .mv (.tmp 0), none, true⟩,
          ⟨(some 41), .mv (.tmp 7), none, true⟩,
          ⟨(some 42), .indexAddr 1 (.tmp 40) (.tmp 41), none, true⟩,
          ⟨(some 43), .load none (.tmp 42), none, true⟩,
          ⟨(some 44), .mv (.tmp 43), none, true⟩,
          ⟨(some 45), .mv (.tmp 0), (some (44, true)), true⟩,
          ⟨(some 46), .mv (.tmp 10), (some (44, true)), true⟩,
          ⟨(some 47), .indexAddr 1 (.tmp 45) (.tmp 46), (some (44, true)), true⟩,
          ⟨(some 48), .load none (.tmp 47), (some (44, true)), true⟩,
          ⟨(some 49), .un .not (.tmp 48), (some (44, true)), true⟩,
          ⟨(some 50), .pick (.tmp 44) (.tmp 49) (.av (.val (.bool false))), none, true⟩])
      (.cond (.tmp 50)
        (.seq (.ops [⟨(some 4), .mv (.av (.val (.bool false))), none, true⟩])
        (.ret))
        (.skip)))))))))
  (.seq (.seq (.ops [⟨(some 53), .load none (.tmp 2), none, true⟩,
      ⟨(some 54), .len (.tmp 53), none, true⟩,
      ⟨(some 55), .mv (.av (.val (.int .i64 0))), none, true⟩])
  (rangeCode 6 7 56 55 54 72
    (.seq (.ops [⟨(some 57), .indexAddr 2 (.tmp 53) (.tmp 55), none, true⟩,
        ⟨(some 58), .load (some 2) (.tmp 57), none, true⟩,
        ⟨(some 12), .zero [(.val (.int .i64 0)), (.val (.int .i64 0))], none, true⟩,
        ⟨none, .store 2 (.tmp 12) (.tmp 58), none, true⟩])
    (.seq (.ops [⟨(some 59), .mv (.tmp 0), none, true⟩,
        ⟨(some 60), .fieldAddr 0 (.tmp 12), none, true⟩,
        ⟨(some 61), .load none (.tmp 60), none, true⟩,
        ⟨(some 62), .indexAddr 1 (.tmp 59) (.tmp 61), none, true⟩,
        ⟨(some 63), .load none (.tmp 62), none, true⟩,
        ⟨(some 64), .mv (.tmp 63), none, true⟩,
        ⟨(some 65), .mv (.tmp 0), (some (64, true)), true⟩,
        ⟨(some 66), .fieldAddr 1 (.tmp 12), (some (64, true)), true⟩,
        ⟨(some 67), .load none (.tmp 66), (some (64, true)), true⟩,
        ⟨(some 68), .indexAddr 1 (.tmp 65) (.tmp 67), (some (64, true)), true⟩,
        ⟨(some 69), .load none (.tmp 68), (some (64, true)), true⟩,
        ⟨(some 70), .un .not (.tmp 69), (some (64, true)), true⟩,
        ⟨(some 71), .pick (.tmp 64) (.tmp 70) (.av (.val (.bool false))), none, true⟩])
    (.cond (.tmp 71)
      (.seq (.ops [⟨(some 4), .mv (.av (.val (.bool false))), none, true⟩])
      (.ret))
      (.skip))))))
  (.seq (.ops [⟨(some 4), .mv (.av (.val (.bool true))), none, true⟩])
  (.ret)))))
theorem f_l_weakleast1 : cFunc Try.prog 18 = some ⟨73, c_l_weakleast1, [.tmp 4]⟩ := by kernel_rfl
/-- backstitch/weak.Kept: its code in AM. -/
def c_wk_kept : ACode := .seq (.ops [⟨(some 2), .box 2 (.tmp 0), none, true⟩,
      ⟨(some 4), .mv (.av (.val (.slice none 0 0))), none, true⟩,
      ⟨(some 5), .mv (.av (.val (.int .i64 0))), none, true⟩])
  (.seq (.ops [⟨(some 12), .load (some 2) (.tmp 2), none, true⟩,
      ⟨(some 13), .mv (.tmp 1), none, true⟩,
      ⟨(some 14), .call (.av (.func 30 [])) [(.tmp 12), (.tmp 13)], none, true⟩,
      ⟨(some 11), .mv (.tmp 14), none, true⟩,
      ⟨(some 15), .extract 0 (.tmp 11), none, true⟩,
      ⟨(some 16), .extract 1 (.tmp 11), none, true⟩,
      ⟨(some 6), .mv (.tmp 15), none, true⟩,
      ⟨(some 7), .mv (.tmp 16), none, true⟩])
  (.seq (.seq (.ops [⟨(some 17), .mv (.tmp 7), none, true⟩,
      ⟨(some 18), .bin .neq (.tmp 17) (.av (.val (.int .i64 0))), none, true⟩])
  (.cond (.tmp 18)
    (.seq (.ops [⟨(some 19), .mv (.tmp 7), none, true⟩,
        ⟨(some 4), .mv (.av (.val (.slice none 0 0))), none, true⟩,
        ⟨(some 5), .mv (.tmp 19), none, true⟩])
    (.ret))
    (.skip)))
  (.seq (.ops [⟨(some 8), .mv (.av (.val (.slice none 0 0))), none, true⟩])
  (.seq (.seq (.ops [⟨(some 20), .mv (.tmp 1), none, true⟩,
      ⟨(some 21), .len (.tmp 20), none, true⟩,
      ⟨(some 22), .mv (.av (.val (.int .i64 0))), none, true⟩])
  (rangeCode 0 1 23 22 21 35
    (.seq (.ops [⟨(some 24), .indexAddr 2 (.tmp 20) (.tmp 22), none, true⟩,
        ⟨(some 25), .load (some 2) (.tmp 24), none, true⟩,
        ⟨(some 10), .zero [(.val (.int .i64 0)), (.val (.int .i64 0))], none, true⟩,
        ⟨none, .store 2 (.tmp 10) (.tmp 25), none, true⟩])
    (.seq (.ops [⟨(some 26), .mv (.tmp 6), none, true⟩,
        ⟨(some 27), .fieldAddr 0 (.tmp 10), none, true⟩,
        ⟨(some 28), .load none (.tmp 27), none, true⟩,
        ⟨(some 29), .indexAddr 1 (.tmp 26) (.tmp 28), none, true⟩,
        ⟨(some 30), .load none (.tmp 29), none, true⟩])
    (.cond (.tmp 30)
      (.ops [⟨(some 31), .mv (.tmp 8), none, true⟩,
          ⟨(some 32), .load (some 2) (.tmp 10), none, true⟩,
          ⟨(some 33), .lits 2 1 [(.val (.int .i64 0)), (.val (.int .i64 0))] [(0, 2, (.tmp 32))], none, true⟩,
          ⟨(some 34), .append 2 16 (.tmp 31) (.tmp 33), none, true⟩,
          ⟨(some 8), .mv (.tmp 34), none, true⟩])
      (.skip))))))
  (.seq (.ops [⟨(some 36), .mv (.tmp 8), none, true⟩,
      ⟨(some 4), .mv (.tmp 36), none, true⟩,
      ⟨(some 5), .mv (.av (.val (.int .i64 0))), none, true⟩])
  (.ret))))))
theorem f_wk_kept : cFunc Try.prog 19 = some ⟨37, c_wk_kept, [.tmp 4, .tmp 5]⟩ := by kernel_rfl
/-- backstitch/weak.Needed: its code in AM. -/
def c_wk_needed : ACode := .seq (.ops [⟨(some 1), .box 2 (.tmp 0), none, true⟩,
      ⟨(some 2), .mv (.av (.val (.slice none 0 0))), none, true⟩,
      ⟨(some 3), .mv (.av (.val (.int .i64 0))), none, true⟩])
  (.seq (.seq (.ops [⟨(some 5), .load (some 2) (.tmp 1), none, true⟩,
      ⟨(some 6), .call (.av (.func 32 [])) [(.tmp 5)], none, true⟩,
      ⟨(some 4), .mv (.tmp 6), none, true⟩])
  (.seq (.ops [⟨(some 7), .mv (.tmp 4), none, true⟩,
      ⟨(some 8), .bin .neq (.tmp 7) (.av (.val (.int .i64 0))), none, true⟩])
  (.cond (.tmp 8)
    (.seq (.ops [⟨(some 9), .mv (.tmp 4), none, true⟩,
        ⟨(some 2), .mv (.av (.val (.slice none 0 0))), none, true⟩,
        ⟨(some 3), .mv (.tmp 9), none, true⟩])
    (.ret))
    (.skip))))
  (.seq (.ops [⟨(some 10), .load (some 2) (.tmp 1), none, true⟩,
      ⟨(some 11), .fieldAddr 1 (.tmp 1), none, true⟩,
      ⟨(some 12), .load none (.tmp 11), none, true⟩,
      ⟨(some 13), .call (.av (.func 33 [])) [(.tmp 10), (.tmp 12)], none, true⟩,
      ⟨(some 14), .call (.av (.func 31 [])) [(.tmp 13)], none, true⟩,
      ⟨(some 2), .mv (.tmp 14), none, true⟩,
      ⟨(some 3), .mv (.av (.val (.int .i64 0))), none, true⟩])
  (.ret)))
theorem f_wk_needed : cFunc Try.prog 20 = some ⟨15, c_wk_needed, [.tmp 2, .tmp 3]⟩ := by kernel_rfl
/-- backstitch/weak.live: its code in AM. -/
def c_wk_live0 : ACode := .seq (.ops [⟨(some 2), .box 2 (.tmp 0), none, true⟩,
      ⟨(some 4), .mv (.av (.val (.slice none 0 0))), none, true⟩,
      ⟨(some 5), .mv (.av (.val (.int .i64 0))), none, true⟩])
  (.seq (.seq (.ops [⟨(some 13), .load (some 2) (.tmp 2), none, true⟩,
      ⟨(some 14), .call (.av (.func 32 [])) [(.tmp 13)], none, true⟩,
      ⟨(some 6), .mv (.tmp 14), none, true⟩])
  (.seq (.ops [⟨(some 15), .mv (.tmp 6), none, true⟩,
      ⟨(some 16), .bin .neq (.tmp 15) (.av (.val (.int .i64 0))), none, true⟩])
  (.cond (.tmp 16)
    (.seq (.ops [⟨(some 17), .mv (.tmp 6), none, true⟩,
        ⟨(some 4), .mv (.av (.val (.slice none 0 0))), none, true⟩,
        ⟨(some 5), .mv (.tmp 17), none, true⟩])
    (.ret))
    (.skip))))
  (.seq (.seq (.ops [⟨(some 18), .mv (.tmp 1), none, true⟩,
      ⟨(some 19), .len (.tmp 18), none, true⟩,
      ⟨(some 20), .bin .gtr (.tmp 19) (.av (.val (.int .i64 50))), none, true⟩])
  (.cond (.tmp 20)
    (.seq (.ops [⟨(some 4), .mv (.av (.val (.slice none 0 0))), none, true⟩,
        ⟨(some 5), .mv (.av (.val (.int .i64 2))), none, true⟩])
    (.ret))
    (.skip)))
  (.seq (.seq (.ops [⟨(some 21), .mv (.tmp 1), none, true⟩,
      ⟨(some 22), .len (.tmp 21), none, true⟩,
      ⟨(some 23), .mv (.av (.val (.int .i64 0))), none, true⟩])
  (rangeCode 0 1 24 23 22 43
    (.seq (.ops [⟨(some 25), .indexAddr 2 (.tmp 21) (.tmp 23), none, true⟩,
        ⟨(some 26), .load (some 2) (.tmp 25), none, true⟩,
        ⟨(some 8), .zero [(.val (.int .i64 0)), (.val (.int .i64 0))], none, true⟩,
        ⟨none, .store 2 (.tmp 8) (.tmp 26), none, true⟩])
    (.seq (.ops [⟨(some 27), .fieldAddr 0 (.tmp 8), none, true⟩,
        ⟨(some 28), .load none (.tmp 27), none, true⟩,
        ⟨(some 29), .fieldAddr 0 (.tmp 2), none, true⟩,
        ⟨(some 30), .load none (.tmp 29), none, true⟩,
        ⟨(some 31), .len (.tmp 30), none, true⟩,
        ⟨(some 32), .call (.av (.func 46 [])) [(.tmp 28), (.tmp 31)], none, true⟩,
        ⟨(some 33), .un .not (.tmp 32), none, true⟩,
        ⟨(some 34), .mv (.tmp 33), none, true⟩,
        ⟨(some 35), .fieldAddr 1 (.tmp 8), (some (34, false)), true⟩,
        ⟨(some 36), .load none (.tmp 35), (some (34, false)), true⟩,
        ⟨(some 37), .fieldAddr 0 (.tmp 2), (some (34, false)), true⟩,
        ⟨(some 38), .load none (.tmp 37), (some (34, false)), true⟩,
        ⟨(some 39), .len (.tmp 38), (some (34, false)), true⟩,
        ⟨(some 40), .call (.av (.func 46 [])) [(.tmp 36), (.tmp 39)], (some (34, false)), true⟩,
        ⟨(some 41), .un .not (.tmp 40), (some (34, false)), true⟩,
        ⟨(some 42), .pick (.tmp 34) (.av (.val (.bool true))) (.tmp 41), none, true⟩])
    (.cond (.tmp 42)
      (.seq (.ops [⟨(some 4), .mv (.av (.val (.slice none 0 0))), none, true⟩,
          ⟨(some 5), .mv (.av (.val (.int .i64 3))), none, true⟩])
      (.ret))
      (.skip))))))
  (.seq (.ops [⟨(some 44), .load (some 2) (.tmp 2), none, true⟩,
      ⟨(some 45), .fieldAddr 0 (.tmp 2), none, true⟩,
      ⟨(some 46), .load none (.tmp 45), none, true⟩,
      ⟨(some 47), .len (.tmp 46), none, true⟩,
      ⟨(some 48), .mkSlice 1 1 [(.val (.bool false))] (.tmp 47) (.tmp 47), none, true⟩,
      ⟨(some 49), .build [(.val (.slice none 0 0)), (.val (.slice none 0 0)), (.val (.slice none 0 0)), (.val (.slice none 0 0))] [(0, 2, (.tmp 44)), (2, 1, (.tmp 48))], none, true⟩,
      ⟨(some 50), .box 4 (.tmp 49), none, true⟩,
      ⟨(some 9), .mv (.tmp 50), none, true⟩])
  (.seq (.ops [⟨(some 51), .mv (.tmp 9), none, true⟩,
      ⟨(some 52), .fieldAddr 1 (.tmp 2), none, true⟩,
      ⟨(some 53), .load none (.tmp 52), none, true⟩,
      ⟨(some 54), .call (.av (.func 47 [])) [(.tmp 51), (.tmp 53)], none, true⟩])
  (.seq (.seq (.ops [⟨(some 10), .mv (.av (.val (.bool true))), none, true⟩])
  (.block 2 (.loop (.seq (.seq (.ops [⟨(some 55), .mv (.tmp 10), none, true⟩])
    (.cond (.tmp 55)
      (.skip)
      (.exit 2)))
    (.block 3 (.seq (.ops [⟨(some 56), .mv (.tmp 9), none, true⟩,
         ⟨(some 57), .call (.av (.func 48 [])) [(.tmp 56)], none, true⟩])
     (.seq (.ops [⟨(some 10), .mv (.av (.val (.bool false))), none, true⟩])
     (.seq (.ops [⟨(some 58), .mv (.tmp 1), none, true⟩,
         ⟨(some 59), .len (.tmp 58), none, true⟩,
         ⟨(some 60), .mv (.av (.val (.int .i64 0))), none, true⟩])
     (rangeCode 4 5 61 60 59 88
       (.seq (.ops [⟨(some 62), .indexAddr 2 (.tmp 58) (.tmp 60), none, true⟩,
           ⟨(some 63), .load (some 2) (.tmp 62), none, true⟩,
           ⟨(some 12), .zero [(.val (.int .i64 0)), (.val (.int .i64 0))], none, true⟩,
           ⟨none, .store 2 (.tmp 12) (.tmp 63), none, true⟩])
       (.seq (.ops [⟨(some 64), .mv (.tmp 9), none, true⟩,
           ⟨(some 65), .nilCheck (.tmp 64), none, true⟩,
           ⟨(some 66), .fieldAddr 2 (.tmp 65), none, true⟩,
           ⟨(some 67), .load none (.tmp 66), none, true⟩,
           ⟨(some 68), .fieldAddr 0 (.tmp 12), none, true⟩,
           ⟨(some 69), .load none (.tmp 68), none, true⟩,
           ⟨(some 70), .indexAddr 1 (.tmp 67) (.tmp 69), none, true⟩,
           ⟨(some 71), .load none (.tmp 70), none, true⟩,
           ⟨(some 72), .mv (.tmp 71), none, true⟩,
           ⟨(some 73), .mv (.tmp 9), (some (72, true)), true⟩,
           ⟨(some 74), .nilCheck (.tmp 73), (some (72, true)), true⟩,
           ⟨(some 75), .fieldAddr 2 (.tmp 74), (some (72, true)), true⟩,
           ⟨(some 76), .load none (.tmp 75), (some (72, true)), true⟩,
           ⟨(some 77), .fieldAddr 1 (.tmp 12), (some (72, true)), true⟩,
           ⟨(some 78), .load none (.tmp 77), (some (72, true)), true⟩,
           ⟨(some 79), .indexAddr 1 (.tmp 76) (.tmp 78), (some (72, true)), true⟩,
           ⟨(some 80), .load none (.tmp 79), (some (72, true)), true⟩,
           ⟨(some 81), .un .not (.tmp 80), (some (72, true)), true⟩,
           ⟨(some 82), .pick (.tmp 72) (.tmp 81) (.av (.val (.bool false))), none, true⟩])
       (.cond (.tmp 82)
         (.seq (.ops [⟨(some 83), .mv (.tmp 9), none, true⟩,
             ⟨(some 84), .fieldAddr 1 (.tmp 12), none, true⟩,
             ⟨(some 85), .load none (.tmp 84), none, true⟩,
             ⟨(some 86), .lits 1 1 [(.val (.int .i64 0))] [(0, 1, (.tmp 85))], none, true⟩,
             ⟨(some 87), .call (.av (.func 47 [])) [(.tmp 83), (.tmp 86)], none, true⟩])
         (.ops [⟨(some 10), .mv (.av (.val (.bool true))), none, true⟩]))
         (.skip)))))))))))))
  (.seq (.ops [⟨(some 89), .mv (.tmp 9), none, true⟩,
      ⟨(some 90), .nilCheck (.tmp 89), none, true⟩,
      ⟨(some 91), .fieldAddr 2 (.tmp 90), none, true⟩,
      ⟨(some 92), .load none (.tmp 91), none, true⟩,
      ⟨(some 4), .mv (.tmp 92), none, true⟩,
      ⟨(some 5), .mv (.av (.val (.int .i64 0))), none, true⟩])
  (.ret))))))))
theorem f_wk_live0 : cFunc Try.prog 30 = some ⟨93, c_wk_live0, [.tmp 4, .tmp 5]⟩ := by kernel_rfl
/-- backstitch/weak.Rising: its code in AM. -/
def c_wk_rising : ACode := .seq (.ops [⟨(some 2), .mv (.av (.val (.slice none 0 0))), none, true⟩])
  (.seq (.ops [⟨(some 3), .mv (.av (.val (.slice none 0 0))), none, true⟩])
  (.seq (.seq (.ops [⟨(some 6), .mv (.tmp 0), none, true⟩,
      ⟨(some 7), .len (.tmp 6), none, true⟩,
      ⟨(some 8), .mv (.av (.val (.int .i64 0))), none, true⟩])
  (rangeCode 0 1 9 8 7 18
    (.seq (.ops [⟨(some 10), .mv (.tmp 8), none, true⟩,
        ⟨(some 11), .indexAddr 1 (.tmp 6) (.tmp 8), none, true⟩,
        ⟨(some 12), .load none (.tmp 11), none, true⟩,
        ⟨(some 4), .mv (.tmp 10), none, true⟩,
        ⟨(some 5), .mv (.tmp 12), none, true⟩])
    (.seq (.ops [⟨(some 13), .mv (.tmp 5), none, true⟩])
    (.cond (.tmp 13)
      (.ops [⟨(some 14), .mv (.tmp 3), none, true⟩,
          ⟨(some 15), .mv (.tmp 4), none, true⟩,
          ⟨(some 16), .lits 1 1 [(.val (.int .i64 0))] [(0, 1, (.tmp 15))], none, true⟩,
          ⟨(some 17), .append 1 8 (.tmp 14) (.tmp 16), none, true⟩,
          ⟨(some 3), .mv (.tmp 17), none, true⟩])
      (.skip))))))
  (.seq (.ops [⟨(some 19), .mv (.tmp 3), none, true⟩,
      ⟨(some 2), .mv (.tmp 19), none, true⟩])
  (.ret))))
theorem f_wk_rising : cFunc Try.prog 31 = some ⟨20, c_wk_rising, [.tmp 2]⟩ := by kernel_rfl
/-- backstitch/weak.Check: its code in AM. -/
def c_wk_check : ACode := .seq (.ops [⟨(some 1), .box 2 (.tmp 0), none, true⟩,
      ⟨(some 2), .mv (.av (.val (.int .i64 0))), none, true⟩])
  (.seq (.ops [⟨(some 10), .fieldAddr 0 (.tmp 1), none, true⟩,
      ⟨(some 11), .load none (.tmp 10), none, true⟩,
      ⟨(some 12), .len (.tmp 11), none, true⟩,
      ⟨(some 3), .mv (.tmp 12), none, true⟩])
  (.seq (.seq (.ops [⟨(some 13), .mv (.tmp 3), none, true⟩,
      ⟨(some 14), .bin .gtr (.tmp 13) (.av (.val (.int .i64 100))), none, true⟩,
      ⟨(some 15), .mv (.tmp 14), none, true⟩,
      ⟨(some 16), .fieldAddr 1 (.tmp 1), (some (15, false)), true⟩,
      ⟨(some 17), .load none (.tmp 16), (some (15, false)), true⟩,
      ⟨(some 18), .len (.tmp 17), (some (15, false)), true⟩,
      ⟨(some 19), .bin .gtr (.tmp 18) (.av (.val (.int .i64 100))), (some (15, false)), true⟩,
      ⟨(some 20), .pick (.tmp 15) (.av (.val (.bool true))) (.tmp 19), none, true⟩])
  (.cond (.tmp 20)
    (.seq (.ops [⟨(some 2), .mv (.av (.val (.int .i64 2))), none, true⟩])
    (.ret))
    (.skip)))
  (.seq (.seq (.ops [⟨(some 21), .fieldAddr 0 (.tmp 1), none, true⟩,
      ⟨(some 22), .load none (.tmp 21), none, true⟩,
      ⟨(some 23), .len (.tmp 22), none, true⟩,
      ⟨(some 24), .mv (.av (.val (.int .i64 0))), none, true⟩])
  (rangeCode 0 1 25 24 23 31
    (.seq (.ops [⟨(some 26), .indexAddr 1 (.tmp 22) (.tmp 24), none, true⟩,
        ⟨(some 27), .load none (.tmp 26), none, true⟩,
        ⟨(some 5), .mv (.tmp 27), none, true⟩])
    (.seq (.ops [⟨(some 28), .mv (.tmp 5), none, true⟩,
        ⟨(some 29), .len (.tmp 28), none, true⟩,
        ⟨(some 30), .bin .gtr (.tmp 29) (.av (.val (.int .i64 10))), none, true⟩])
    (.cond (.tmp 30)
      (.seq (.ops [⟨(some 2), .mv (.av (.val (.int .i64 2))), none, true⟩])
      (.ret))
      (.skip))))))
  (.seq (.seq (.ops [⟨(some 32), .fieldAddr 1 (.tmp 1), none, true⟩,
      ⟨(some 33), .load none (.tmp 32), none, true⟩,
      ⟨(some 34), .lits 1 1 [(.val (.slice none 0 0))] [(0, 1, (.tmp 33))], none, true⟩,
      ⟨(some 35), .fieldAddr 0 (.tmp 1), none, true⟩,
      ⟨(some 36), .load none (.tmp 35), none, true⟩,
      ⟨(some 37), .append 1 24 (.tmp 34) (.tmp 36), none, true⟩,
      ⟨(some 38), .len (.tmp 37), none, true⟩,
      ⟨(some 39), .mv (.av (.val (.int .i64 0))), none, true⟩])
  (rangeCode 2 3 40 39 38 54
    (.seq (.ops [⟨(some 41), .indexAddr 1 (.tmp 37) (.tmp 39), none, true⟩,
        ⟨(some 42), .load none (.tmp 41), none, true⟩,
        ⟨(some 7), .mv (.tmp 42), none, true⟩])
    (.seq (.ops [⟨(some 43), .mv (.tmp 7), none, true⟩,
        ⟨(some 44), .len (.tmp 43), none, true⟩,
        ⟨(some 45), .mv (.av (.val (.int .i64 0))), none, true⟩])
    (rangeCode 4 5 46 45 44 53
      (.seq (.ops [⟨(some 47), .indexAddr 1 (.tmp 43) (.tmp 45), none, true⟩,
          ⟨(some 48), .load none (.tmp 47), none, true⟩,
          ⟨(some 9), .mv (.tmp 48), none, true⟩])
      (.seq (.ops [⟨(some 49), .mv (.tmp 9), none, true⟩,
          ⟨(some 50), .mv (.tmp 3), none, true⟩,
          ⟨(some 51), .call (.av (.func 46 [])) [(.tmp 49), (.tmp 50)], none, true⟩,
          ⟨(some 52), .un .not (.tmp 51), none, true⟩])
      (.cond (.tmp 52)
        (.seq (.ops [⟨(some 2), .mv (.av (.val (.int .i64 3))), none, true⟩])
        (.ret))
        (.skip)))))))))
  (.seq (.ops [⟨(some 2), .mv (.av (.val (.int .i64 0))), none, true⟩])
  (.ret))))))
theorem f_wk_check : cFunc Try.prog 32 = some ⟨55, c_wk_check, [.tmp 2]⟩ := by kernel_rfl
/-- backstitch/weak.From: its code in AM. -/
def c_wk_from : ACode := .seq (.ops [⟨(some 2), .box 2 (.tmp 0), none, true⟩,
      ⟨(some 4), .mv (.av (.val (.slice none 0 0))), none, true⟩])
  (.seq (.ops [⟨(some 6), .load (some 2) (.tmp 2), none, true⟩,
      ⟨(some 7), .fieldAddr 0 (.tmp 2), none, true⟩,
      ⟨(some 8), .load none (.tmp 7), none, true⟩,
      ⟨(some 9), .len (.tmp 8), none, true⟩,
      ⟨(some 10), .mkSlice 1 1 [(.val (.bool false))] (.tmp 9) (.tmp 9), none, true⟩,
      ⟨(some 11), .build [(.val (.slice none 0 0)), (.val (.slice none 0 0)), (.val (.slice none 0 0)), (.val (.slice none 0 0))] [(0, 2, (.tmp 6)), (2, 1, (.tmp 10))], none, true⟩,
      ⟨(some 12), .box 4 (.tmp 11), none, true⟩,
      ⟨(some 5), .mv (.tmp 12), none, true⟩])
  (.seq (.ops [⟨(some 13), .mv (.tmp 5), none, true⟩,
      ⟨(some 14), .mv (.tmp 1), none, true⟩,
      ⟨(some 15), .call (.av (.func 47 [])) [(.tmp 13), (.tmp 14)], none, true⟩])
  (.seq (.ops [⟨(some 16), .mv (.tmp 5), none, true⟩,
      ⟨(some 17), .call (.av (.func 48 [])) [(.tmp 16)], none, true⟩])
  (.seq (.ops [⟨(some 18), .mv (.tmp 5), none, true⟩,
      ⟨(some 19), .nilCheck (.tmp 18), none, true⟩,
      ⟨(some 20), .fieldAddr 2 (.tmp 19), none, true⟩,
      ⟨(some 21), .load none (.tmp 20), none, true⟩,
      ⟨(some 4), .mv (.tmp 21), none, true⟩])
  (.ret)))))
theorem f_wk_from : cFunc Try.prog 33 = some ⟨22, c_wk_from, [.tmp 4]⟩ := by kernel_rfl
/-- backstitch/weak.in: its code in AM. -/
def c_wk_in : ACode := .seq (.ops [⟨(some 4), .mv (.av (.val (.bool false))), none, true⟩])
  (.seq (.ops [⟨(some 5), .mv (.tmp 0), none, true⟩,
      ⟨(some 6), .bin .geq (.tmp 5) (.av (.val (.int .i64 0))), none, true⟩,
      ⟨(some 7), .mv (.tmp 6), none, true⟩,
      ⟨(some 8), .mv (.tmp 0), (some (7, true)), true⟩,
      ⟨(some 9), .mv (.tmp 1), (some (7, true)), true⟩,
      ⟨(some 10), .bin .lss (.tmp 8) (.tmp 9), (some (7, true)), true⟩,
      ⟨(some 11), .pick (.tmp 7) (.tmp 10) (.av (.val (.bool false))), none, true⟩,
      ⟨(some 4), .mv (.tmp 11), none, true⟩])
  (.ret))
theorem f_wk_in : cFunc Try.prog 46 = some ⟨12, c_wk_in, [.tmp 4]⟩ := by kernel_rfl
/-- (*backstitch/weak.reacher).reach: its code in AM. -/
def c_wk_reach : ACode := .seq (.ops [⟨(some 6), .mv (.tmp 1), none, true⟩,
      ⟨(some 7), .len (.tmp 6), none, true⟩,
      ⟨(some 8), .mv (.av (.val (.int .i64 0))), none, true⟩])
  (rangeCode 0 1 9 8 7 36
    (.seq (.ops [⟨(some 10), .indexAddr 1 (.tmp 6) (.tmp 8), none, true⟩,
        ⟨(some 11), .load none (.tmp 10), none, true⟩,
        ⟨(some 5), .mv (.tmp 11), none, true⟩])
    (.seq (.ops [⟨(some 12), .mv (.tmp 0), none, true⟩,
        ⟨(some 13), .nilCheck (.tmp 12), none, true⟩,
        ⟨(some 14), .fieldAddr 2 (.tmp 13), none, true⟩,
        ⟨(some 15), .load none (.tmp 14), none, true⟩,
        ⟨(some 16), .mv (.tmp 5), none, true⟩,
        ⟨(some 17), .indexAddr 1 (.tmp 15) (.tmp 16), none, true⟩,
        ⟨(some 18), .load none (.tmp 17), none, true⟩,
        ⟨(some 19), .un .not (.tmp 18), none, true⟩])
    (.cond (.tmp 19)
      (.seq (.ops [⟨(some 20), .mv (.tmp 0), none, true⟩,
          ⟨(some 21), .nilCheck (.tmp 20), none, true⟩,
          ⟨(some 22), .fieldAddr 2 (.tmp 21), none, true⟩,
          ⟨(some 23), .load none (.tmp 22), none, true⟩,
          ⟨(some 24), .mv (.tmp 5), none, true⟩,
          ⟨(some 25), .indexAddr 1 (.tmp 23) (.tmp 24), none, true⟩,
          ⟨none, .store 1 (.tmp 25) (.av (.val (.bool true))), none, true⟩])
      (.ops [⟨(some 26), .mv (.tmp 0), none, true⟩,
          ⟨(some 27), .mv (.tmp 0), none, true⟩,
          ⟨(some 28), .nilCheck (.tmp 27), none, true⟩,
          ⟨(some 29), .fieldAddr 3 (.tmp 28), none, true⟩,
          ⟨(some 30), .load none (.tmp 29), none, true⟩,
          ⟨(some 31), .mv (.tmp 5), none, true⟩,
          ⟨(some 32), .lits 1 1 [(.val (.int .i64 0))] [(0, 1, (.tmp 31))], none, true⟩,
          ⟨(some 33), .append 1 8 (.tmp 30) (.tmp 32), none, true⟩,
          ⟨(some 34), .nilCheck (.tmp 26), none, true⟩,
          ⟨(some 35), .fieldAddr 3 (.tmp 34), none, true⟩,
          ⟨none, .store 1 (.tmp 35) (.tmp 33), none, true⟩]))
      (.skip)))))
theorem f_wk_reach : cFunc Try.prog 47 = some ⟨37, c_wk_reach, []⟩ := by kernel_rfl
/-- (*backstitch/weak.reacher).all: its code in AM. -/
def c_wk_all : ACode := .block 0 (.loop (.seq (.seq (.ops [⟨(some 3), .mv (.tmp 0), none, true⟩,
        ⟨(some 4), .nilCheck (.tmp 3), none, true⟩,
        ⟨(some 5), .fieldAddr 3 (.tmp 4), none, true⟩,
        ⟨(some 6), .load none (.tmp 5), none, true⟩,
        ⟨(some 7), .len (.tmp 6), none, true⟩,
        ⟨(some 8), .bin .gtr (.tmp 7) (.av (.val (.int .i64 0))), none, true⟩])
    (.cond (.tmp 8)
      (.skip)
      (.exit 0)))
    (.block 1 (.seq (.ops [⟨(some 9), .mv (.tmp 0), none, true⟩,
         ⟨(some 10), .nilCheck (.tmp 9), none, true⟩,
         ⟨(some 11), .fieldAddr 3 (.tmp 10), none, true⟩,
         ⟨(some 12), .load none (.tmp 11), none, true⟩,
         ⟨(some 13), .mv (.tmp 0), none, true⟩,
         ⟨(some 14), .nilCheck (.tmp 13), none, true⟩,
         ⟨(some 15), .fieldAddr 3 (.tmp 14), none, true⟩,
         ⟨(some 16), .load none (.tmp 15), none, true⟩,
         ⟨(some 17), .len (.tmp 16), none, true⟩,
         ⟨(some 18), .bin .sub (.tmp 17) (.av (.val (.int .i64 1))), none, true⟩,
         ⟨(some 19), .indexAddr 1 (.tmp 12) (.tmp 18), none, true⟩,
         ⟨(some 20), .load none (.tmp 19), none, true⟩,
         ⟨(some 2), .mv (.tmp 20), none, true⟩])
     (.seq (.ops [⟨(some 21), .mv (.tmp 0), none, true⟩,
         ⟨(some 22), .mv (.tmp 0), none, true⟩,
         ⟨(some 23), .nilCheck (.tmp 22), none, true⟩,
         ⟨(some 24), .fieldAddr 3 (.tmp 23), none, true⟩,
         ⟨(some 25), .load none (.tmp 24), none, true⟩,
         ⟨(some 26), .mv (.tmp 0), none, true⟩,
         ⟨(some 27), .nilCheck (.tmp 26), none, true⟩,
         ⟨(some 28), .fieldAddr 3 (.tmp 27), none, true⟩,
         ⟨(some 29), .load none (.tmp 28), none, true⟩,
         ⟨(some 30), .len (.tmp 29), none, true⟩,
         ⟨(some 31), .bin .sub (.tmp 30) (.av (.val (.int .i64 1))), none, true⟩,
         ⟨(some 32), .slice 1 (.tmp 25) none (some (.tmp 31)) none, none, true⟩,
         ⟨(some 33), .nilCheck (.tmp 21), none, true⟩,
         ⟨(some 34), .fieldAddr 3 (.tmp 33), none, true⟩,
         ⟨none, .store 1 (.tmp 34) (.tmp 32), none, true⟩])
     (.ops [⟨(some 35), .mv (.tmp 0), none, true⟩,
         ⟨(some 36), .mv (.tmp 0), none, true⟩,
         ⟨(some 37), .nilCheck (.tmp 36), none, true⟩,
         ⟨(some 38), .fieldAddr 0 (.tmp 37), none, true⟩,
         ⟨(some 39), .fieldAddr 0 (.tmp 38), none, true⟩,
         ⟨(some 40), .load none (.tmp 39), none, true⟩,
         ⟨(some 41), .mv (.tmp 2), none, true⟩,
         ⟨(some 42), .indexAddr 1 (.tmp 40) (.tmp 41), none, true⟩,
         ⟨(some 43), .load none (.tmp 42), none, true⟩,
         ⟨(some 44), .call (.av (.func 47 [])) [(.tmp 35), (.tmp 43)], none, true⟩]))))))
theorem f_wk_all : cFunc Try.prog 48 = some ⟨45, c_wk_all, []⟩ := by kernel_rfl
end Go.Proofs.Ytlgminfejehndaa
