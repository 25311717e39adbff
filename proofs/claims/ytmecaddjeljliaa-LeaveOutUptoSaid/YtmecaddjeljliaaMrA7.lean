/-
  AM's code of functions, written by am/amprint.lean.
-/
import Derived.KernelRfl
import Derived.Test.YtmecaddjeljliaaMrA4
import Derived.Test.YtmecaddjeljliaaMrA6
namespace Go.Proofs.Ytmecaddjeljliaa
open Go Go.RowKit
set_option linter.unusedVariables false
/-- backstitch/backstitchkeep3.LeaveMakes: its code in AM. -/
def c_l_leavemakes : ACode := .seq (.ops [⟨(some 4), .box 4 (.tmp 1), none, true⟩,
      ⟨(some 6), .mv (.av (.val (.bool false))), none, true⟩])
  (.seq (.seq (.ops [⟨(some 16), .call (.av (.func 8 [])) [], none, true⟩,
      ⟨(some 17), .un .not (.tmp 16), none, true⟩])
  (.cond (.tmp 17)
    (.seq (.ops [⟨(some 6), .mv (.av (.val (.bool false))), none, true⟩])
    (.ret))
    (.skip)))
  (.seq (.ops [⟨(some 18), .mv (.tmp 0), none, true⟩,
      ⟨(some 19), .mv (.tmp 0), none, true⟩,
      ⟨(some 20), .len (.tmp 19), none, true⟩,
      ⟨(some 21), .minmax false (.tmp 20) [(.av (.val (.int .i64 30)))], none, true⟩,
      ⟨(some 22), .slice 4 (.tmp 18) none (some (.tmp 21)) none, none, true⟩,
      ⟨(some 0), .mv (.tmp 22), none, true⟩])
  (.seq (.ops [⟨(some 24), .mv (.tmp 0), none, true⟩,
      ⟨(some 25), .load (some 4) (.tmp 4), none, true⟩,
      ⟨(some 26), .mv (.tmp 2), none, true⟩,
      ⟨(some 27), .call (.av (.func 9 [])) [(.tmp 24), (.tmp 25), (.tmp 26)], none, true⟩,
      ⟨(some 23), .mv (.tmp 27), none, true⟩,
      ⟨(some 28), .extract 0 (.tmp 23), none, true⟩,
      ⟨(some 29), .extract 1 (.tmp 23), none, true⟩,
      ⟨(some 7), .mv (.tmp 28), none, true⟩,
      ⟨(some 8), .mv (.tmp 29), none, true⟩])
  (.seq (.seq (.ops [⟨(some 30), .mv (.tmp 8), none, true⟩,
      ⟨(some 31), .bin .neq (.tmp 30) (.av (.val (.int .i64 0))), none, true⟩])
  (.cond (.tmp 31)
    (.seq (.ops [⟨(some 32), .call (.av (.func 8 [])) [], none, true⟩,
        ⟨(some 33), .mv (.tmp 32), none, true⟩,
        ⟨(some 34), .mv (.tmp 7), (some (33, true)), true⟩,
        ⟨(some 35), .len (.tmp 34), (some (33, true)), true⟩,
        ⟨(some 36), .bin .eql (.tmp 35) (.av (.val (.int .i64 0))), (some (33, true)), true⟩,
        ⟨(some 37), .pick (.tmp 33) (.tmp 36) (.av (.val (.bool false))), none, true⟩,
        ⟨(some 6), .mv (.tmp 37), none, true⟩])
    (.ret))
    (.skip)))
  (.seq (.ops [⟨(some 38), .mv (.tmp 0), none, true⟩,
      ⟨(some 39), .len (.tmp 38), none, true⟩,
      ⟨(some 40), .mkSlice 1 1 [(.val (.bool false))] (.tmp 39) (.tmp 39), none, true⟩,
      ⟨(some 9), .mv (.tmp 40), none, true⟩])
  (.seq (.ops [⟨(some 10), .mv (.av (.val (.bool false))), none, true⟩])
  (.seq (.seq (.ops [⟨(some 41), .fieldAddr 3 (.tmp 4), none, true⟩,
      ⟨(some 42), .load none (.tmp 41), none, true⟩,
      ⟨(some 43), .len (.tmp 42), none, true⟩,
      ⟨(some 44), .mv (.av (.val (.int .i64 0))), none, true⟩])
  (rangeCode 0 1 45 44 43 62
    (.seq (.ops [⟨(some 46), .indexAddr 4 (.tmp 42) (.tmp 44), none, true⟩,
        ⟨(some 47), .load (some 4) (.tmp 46), none, true⟩,
        ⟨(some 12), .zero [(.val (.int .i64 0)), (.val (.int .i64 0)), (.val (.int .i64 0)), (.val (.slice none 0 0))], none, true⟩,
        ⟨none, .store 4 (.tmp 12) (.tmp 47), none, true⟩])
    (.seq (.ops [⟨(some 48), .mv (.tmp 9), none, true⟩,
        ⟨(some 49), .mv (.tmp 2), none, true⟩,
        ⟨(some 50), .fieldAddr 0 (.tmp 12), none, true⟩,
        ⟨(some 51), .load none (.tmp 50), none, true⟩,
        ⟨(some 52), .indexAddr 2 (.tmp 49) (.tmp 51), none, true⟩,
        ⟨(some 53), .fieldAddr 1 (.tmp 52), none, true⟩,
        ⟨(some 54), .load none (.tmp 53), none, true⟩,
        ⟨(some 55), .indexAddr 1 (.tmp 48) (.tmp 54), none, true⟩,
        ⟨none, .store 1 (.tmp 55) (.av (.val (.bool true))), none, true⟩])
    (.ops [⟨(some 56), .mv (.tmp 10), none, true⟩,
        ⟨(some 57), .mv (.tmp 56), none, true⟩,
        ⟨(some 58), .fieldAddr 1 (.tmp 12), (some (57, false)), true⟩,
        ⟨(some 59), .load none (.tmp 58), (some (57, false)), true⟩,
        ⟨(some 60), .bin .neq (.tmp 59) (.av (.val (.int .i64 0))), (some (57, false)), true⟩,
        ⟨(some 61), .pick (.tmp 57) (.av (.val (.bool true))) (.tmp 60), none, true⟩,
        ⟨(some 10), .mv (.tmp 61), none, true⟩])))))
  (.seq (.seq (.ops [⟨(some 63), .mv (.tmp 0), none, true⟩,
      ⟨(some 64), .len (.tmp 63), none, true⟩,
      ⟨(some 65), .mv (.av (.val (.int .i64 0))), none, true⟩])
  (rangeCode 2 3 66 65 64 85
    (.seq (.ops [⟨(some 67), .mv (.tmp 65), none, true⟩,
        ⟨(some 13), .mv (.tmp 67), none, true⟩])
    (.seq (.ops [⟨(some 68), .mv (.tmp 9), none, true⟩,
        ⟨(some 69), .mv (.tmp 13), none, true⟩,
        ⟨(some 70), .indexAddr 1 (.tmp 68) (.tmp 69), none, true⟩,
        ⟨(some 71), .load none (.tmp 70), none, true⟩,
        ⟨(some 72), .un .not (.tmp 71), none, true⟩,
        ⟨(some 73), .mv (.tmp 72), none, true⟩,
        ⟨(some 74), .mv (.tmp 0), (some (73, true)), true⟩,
        ⟨(some 75), .mv (.tmp 13), (some (73, true)), true⟩,
        ⟨(some 76), .indexAddr 4 (.tmp 74) (.tmp 75), (some (73, true)), true⟩,
        ⟨(some 77), .load (some 4) (.tmp 76), (some (73, true)), true⟩,
        ⟨(some 78), .mv (.tmp 7), (some (73, true)), true⟩,
        ⟨(some 79), .mv (.tmp 13), (some (73, true)), true⟩,
        ⟨(some 80), .indexAddr 4 (.tmp 78) (.tmp 79), (some (73, true)), true⟩,
        ⟨(some 81), .load (some 4) (.tmp 80), (some (73, true)), true⟩,
        ⟨(some 82), .call (.av (.func 10 [])) [(.tmp 77), (.tmp 81)], (some (73, true)), true⟩,
        ⟨(some 83), .un .not (.tmp 82), (some (73, true)), true⟩,
        ⟨(some 84), .pick (.tmp 73) (.tmp 83) (.av (.val (.bool false))), none, true⟩])
    (.cond (.tmp 84)
      (.seq (.ops [⟨(some 6), .mv (.av (.val (.bool false))), none, true⟩])
      (.ret))
      (.skip))))))
  (.seq (.ops [⟨(some 87), .mv (.tmp 7), none, true⟩,
      ⟨(some 88), .load (some 4) (.tmp 4), none, true⟩,
      ⟨(some 89), .mv (.tmp 2), none, true⟩,
      ⟨(some 90), .call (.av (.func 9 [])) [(.tmp 87), (.tmp 88), (.tmp 89)], none, true⟩,
      ⟨(some 86), .mv (.tmp 90), none, true⟩,
      ⟨(some 91), .extract 0 (.tmp 86), none, true⟩,
      ⟨(some 92), .extract 1 (.tmp 86), none, true⟩,
      ⟨(some 14), .mv (.tmp 91), none, true⟩,
      ⟨(some 15), .mv (.tmp 92), none, true⟩])
  (.seq (.ops [⟨(some 93), .call (.av (.func 8 [])) [], none, true⟩,
      ⟨(some 94), .mv (.tmp 93), none, true⟩,
      ⟨(some 95), .mv (.tmp 7), (some (94, true)), true⟩,
      ⟨(some 96), .len (.tmp 95), (some (94, true)), true⟩,
      ⟨(some 97), .mv (.tmp 0), (some (94, true)), true⟩,
      ⟨(some 98), .len (.tmp 97), (some (94, true)), true⟩,
      ⟨(some 99), .bin .eql (.tmp 96) (.tmp 98), (some (94, true)), true⟩,
      ⟨(some 100), .pick (.tmp 94) (.tmp 99) (.av (.val (.bool false))), none, true⟩,
      ⟨(some 101), .mv (.tmp 100), none, true⟩,
      ⟨(some 102), .mv (.tmp 10), (some (101, true)), true⟩,
      ⟨(some 103), .un .not (.tmp 102), (some (101, true)), true⟩,
      ⟨(some 104), .mv (.tmp 103), (some (101, true)), true⟩,
      ⟨(some 105), .mv (.tmp 15), (some (104, false)), true⟩,
      ⟨(some 106), .bin .eql (.tmp 105) (.av (.val (.int .i64 8))), (some (104, false)), true⟩,
      ⟨(some 107), .pick (.tmp 104) (.av (.val (.bool true))) (.tmp 106), (some (101, true)), true⟩,
      ⟨(some 108), .pick (.tmp 101) (.tmp 107) (.av (.val (.bool false))), none, true⟩,
      ⟨(some 6), .mv (.tmp 108), none, true⟩])
  (.ret)))))))))))
theorem f_l_leavemakes : cFunc Try.prog 3 = some ⟨109, c_l_leavemakes, [.tmp 6]⟩ := by kernel_rfl
/-- backstitch/backstitchkeep3.LeaveBare: its code in AM. -/
def c_l_leavebare : ACode := .seq (.ops [⟨(some 4), .box 8 (.tmp 0), none, true⟩,
      ⟨(some 8), .mv (.av (.val (.bool false))), none, true⟩])
  (.seq (.seq (.ops [⟨(some 15), .call (.av (.func 8 [])) [], none, true⟩,
      ⟨(some 16), .un .not (.tmp 15), none, true⟩])
  (.cond (.tmp 16)
    (.seq (.ops [⟨(some 8), .mv (.av (.val (.bool false))), none, true⟩])
    (.ret))
    (.skip)))
  (.seq (.ops [⟨(some 18), .load (some 8) (.tmp 4), none, false⟩,
      ⟨(some 19), .mv (.tmp 1), none, true⟩,
      ⟨(some 20), .mv (.tmp 2), none, true⟩,
      ⟨(some 21), .mv (.tmp 3), none, true⟩,
      ⟨(some 22), .call (.av (.func 12 [])) [(.tmp 21), (.av (.val (.int .i64 1000)))], none, false⟩,
      ⟨(some 23), .build [(.val (.int .i64 0)), (.val (.int .i64 0)), (.val (.slice none 0 0)), (.val (.slice none 0 0))] [(0, 1, (.tmp 20)), (1, 1, (.tmp 22))], none, true⟩,
      ⟨(some 24), .call (.av (.func 11 [])) [(.tmp 18), (.tmp 19), (.tmp 23), (.av (.val (.slice none 0 0)))], none, true⟩,
      ⟨(some 17), .mv (.tmp 24), none, true⟩,
      ⟨(some 25), .extract 0 (.tmp 17), none, true⟩,
      ⟨(some 26), .extract 1 (.tmp 17), none, true⟩,
      ⟨(some 9), .zero [(.val (.slice none 0 0)), (.val (.slice none 0 0)), (.val (.slice none 0 0)), (.val (.slice none 0 0)), (.val (.slice none 0 0)), (.val (.slice none 0 0)), (.val (.int .i64 0)), (.val (.int .i64 0))], none, true⟩,
      ⟨none, .store 8 (.tmp 9) (.tmp 25), none, true⟩,
      ⟨(some 10), .mv (.tmp 26), none, true⟩])
  (.seq (.seq (.ops [⟨(some 27), .mv (.tmp 10), none, true⟩,
      ⟨(some 28), .bin .neq (.tmp 27) (.av (.val (.int .i64 0))), none, true⟩])
  (.cond (.tmp 28)
    (.seq (.ops [⟨(some 29), .call (.av (.func 8 [])) [], none, true⟩,
        ⟨(some 30), .mv (.tmp 29), none, true⟩,
        ⟨(some 31), .mv (.tmp 10), (some (30, true)), true⟩,
        ⟨(some 32), .bin .eql (.tmp 31) (.av (.val (.int .i64 5))), (some (30, true)), true⟩,
        ⟨(some 33), .pick (.tmp 30) (.tmp 32) (.av (.val (.bool false))), none, true⟩,
        ⟨(some 8), .mv (.tmp 33), none, true⟩])
    (.ret))
    (.skip)))
  (.seq (.ops [⟨(some 34), .fieldAddr 3 (.tmp 4), none, true⟩,
      ⟨(some 35), .load none (.tmp 34), none, true⟩,
      ⟨(some 36), .mv (.tmp 1), none, true⟩,
      ⟨(some 37), .indexAddr 5 (.tmp 35) (.tmp 36), none, true⟩,
      ⟨(some 38), .fieldAddr 0 (.tmp 37), none, true⟩,
      ⟨(some 39), .load none (.tmp 38), none, true⟩,
      ⟨(some 40), .fieldAddr 3 (.tmp 9), none, true⟩,
      ⟨(some 41), .load none (.tmp 40), none, true⟩,
      ⟨(some 42), .mv (.tmp 1), none, true⟩,
      ⟨(some 43), .indexAddr 5 (.tmp 41) (.tmp 42), none, true⟩,
      ⟨(some 44), .fieldAddr 0 (.tmp 43), none, true⟩,
      ⟨(some 45), .load none (.tmp 44), none, true⟩,
      ⟨(some 11), .mv (.tmp 39), none, true⟩,
      ⟨(some 12), .mv (.tmp 45), none, true⟩])
  (.seq (.ops [⟨(some 46), .mv (.tmp 11), none, true⟩,
      ⟨(some 47), .mv (.tmp 11), none, true⟩,
      ⟨(some 48), .len (.tmp 47), none, true⟩,
      ⟨(some 49), .bin .sub (.tmp 48) (.av (.val (.int .i64 1))), none, true⟩,
      ⟨(some 50), .indexAddr 8 (.tmp 46) (.tmp 49), none, true⟩,
      ⟨(some 51), .load (some 8) (.tmp 50), none, true⟩,
      ⟨(some 13), .zero [(.val (.int .i64 0)), (.val (.int .i64 0)), (.val (.int .i64 0)), (.val (.int .i64 0)), (.val (.int .i64 0)), (.val (.int .i64 0)), (.val (.slice none 0 0)), (.val (.slice none 0 0))], none, true⟩,
      ⟨none, .store 8 (.tmp 13) (.tmp 51), none, true⟩])
  (.seq (.ops [⟨(some 52), .mv (.tmp 2), none, true⟩,
      ⟨(some 53), .fieldAddr 1 (.tmp 13), none, true⟩,
      ⟨none, .store 1 (.tmp 53) (.tmp 52), none, true⟩])
  (.seq (.seq (.ops [⟨(some 54), .fieldAddr 0 (.tmp 4), none, true⟩,
      ⟨(some 55), .load none (.tmp 54), none, true⟩,
      ⟨(some 56), .len (.tmp 55), none, true⟩,
      ⟨(some 57), .mv (.av (.val (.int .i64 0))), none, true⟩])
  (rangeCode 0 1 58 57 56 72
    (.seq (.ops [⟨(some 59), .mv (.tmp 57), none, true⟩,
        ⟨(some 14), .mv (.tmp 59), none, true⟩])
    (.seq (.ops [⟨(some 60), .fieldAddr 0 (.tmp 4), none, true⟩,
        ⟨(some 61), .load none (.tmp 60), none, true⟩,
        ⟨(some 62), .mv (.tmp 14), none, true⟩,
        ⟨(some 63), .indexAddr 4 (.tmp 61) (.tmp 62), none, true⟩,
        ⟨(some 64), .load (some 4) (.tmp 63), none, true⟩,
        ⟨(some 65), .fieldAddr 0 (.tmp 9), none, true⟩,
        ⟨(some 66), .load none (.tmp 65), none, true⟩,
        ⟨(some 67), .mv (.tmp 14), none, true⟩,
        ⟨(some 68), .indexAddr 4 (.tmp 66) (.tmp 67), none, true⟩,
        ⟨(some 69), .load (some 4) (.tmp 68), none, true⟩,
        ⟨(some 70), .call (.av (.func 10 [])) [(.tmp 64), (.tmp 69)], none, true⟩,
        ⟨(some 71), .un .not (.tmp 70), none, true⟩])
    (.cond (.tmp 71)
      (.seq (.ops [⟨(some 8), .mv (.av (.val (.bool false))), none, true⟩])
      (.ret))
      (.skip))))))
  (.seq (.ops [⟨(some 73), .call (.av (.func 8 [])) [], none, true⟩,
      ⟨(some 74), .mv (.tmp 73), none, true⟩,
      ⟨(some 75), .mv (.tmp 12), (some (74, true)), true⟩,
      ⟨(some 76), .len (.tmp 75), (some (74, true)), true⟩,
      ⟨(some 77), .mv (.tmp 11), (some (74, true)), true⟩,
      ⟨(some 78), .len (.tmp 77), (some (74, true)), true⟩,
      ⟨(some 79), .bin .eql (.tmp 76) (.tmp 78), (some (74, true)), true⟩,
      ⟨(some 80), .pick (.tmp 74) (.tmp 79) (.av (.val (.bool false))), none, true⟩,
      ⟨(some 81), .mv (.tmp 80), none, true⟩,
      ⟨(some 82), .mv (.tmp 12), (some (81, true)), true⟩,
      ⟨(some 83), .mv (.tmp 12), (some (81, true)), true⟩,
      ⟨(some 84), .len (.tmp 83), (some (81, true)), true⟩,
      ⟨(some 85), .bin .sub (.tmp 84) (.av (.val (.int .i64 1))), (some (81, true)), true⟩,
      ⟨(some 86), .indexAddr 8 (.tmp 82) (.tmp 85), (some (81, true)), true⟩,
      ⟨(some 87), .load (some 8) (.tmp 86), (some (81, true)), true⟩,
      ⟨(some 88), .load (some 8) (.tmp 13), (some (81, true)), true⟩,
      ⟨(some 89), .call (.av (.func 13 [])) [(.tmp 87), (.tmp 88)], (some (81, true)), true⟩,
      ⟨(some 90), .pick (.tmp 81) (.tmp 89) (.av (.val (.bool false))), none, true⟩,
      ⟨(some 91), .mv (.tmp 90), none, true⟩,
      ⟨(some 92), .fieldAddr 7 (.tmp 9), (some (91, true)), true⟩,
      ⟨(some 93), .load none (.tmp 92), (some (91, true)), false⟩,
      ⟨(some 94), .fieldAddr 7 (.tmp 4), (some (91, true)), true⟩,
      ⟨(some 95), .load none (.tmp 94), (some (91, true)), false⟩,
      ⟨(some 96), .mv (.tmp 3), (some (91, true)), true⟩,
      ⟨(some 97), .call (.av (.func 12 [])) [(.tmp 96), (.av (.val (.int .i64 1000)))], (some (91, true)), false⟩,
      ⟨(some 98), .bin .add (.tmp 95) (.tmp 97), (some (91, true)), true⟩,
      ⟨(some 99), .bin .eql (.tmp 93) (.tmp 98), (some (91, true)), true⟩,
      ⟨(some 100), .pick (.tmp 91) (.tmp 99) (.av (.val (.bool false))), none, true⟩,
      ⟨(some 8), .mv (.tmp 100), none, true⟩])
  (.ret)))))))))
theorem f_l_leavebare : cFunc Try.prog 4 = some ⟨101, c_l_leavebare, [.tmp 8]⟩ := by kernel_rfl
/-- backstitch/backstitchkeep3.LeaveOut: its code in AM. -/
def c_l_leaveout : ACode := .seq (.ops [⟨(some 4), .box 8 (.tmp 0), none, true⟩,
      ⟨(some 6), .box 4 (.tmp 2), none, true⟩,
      ⟨(some 8), .mv (.av (.val (.bool false))), none, true⟩])
  (.seq (.seq (.ops [⟨(some 22), .call (.av (.func 8 [])) [], none, true⟩,
      ⟨(some 23), .un .not (.tmp 22), none, true⟩])
  (.cond (.tmp 23)
    (.seq (.ops [⟨(some 8), .mv (.av (.val (.bool false))), none, true⟩])
    (.ret))
    (.skip)))
  (.seq (.ops [⟨(some 25), .load (some 8) (.tmp 4), none, true⟩,
      ⟨(some 26), .mv (.tmp 1), none, true⟩,
      ⟨(some 27), .load (some 4) (.tmp 6), none, true⟩,
      ⟨(some 28), .mv (.tmp 3), none, true⟩,
      ⟨(some 29), .call (.av (.func 11 [])) [(.tmp 25), (.tmp 26), (.tmp 27), (.tmp 28)], none, true⟩,
      ⟨(some 24), .mv (.tmp 29), none, true⟩,
      ⟨(some 30), .extract 0 (.tmp 24), none, true⟩,
      ⟨(some 31), .extract 1 (.tmp 24), none, true⟩,
      ⟨(some 9), .zero [(.val (.slice none 0 0)), (.val (.slice none 0 0)), (.val (.slice none 0 0)), (.val (.slice none 0 0)), (.val (.slice none 0 0)), (.val (.slice none 0 0)), (.val (.int .i64 0)), (.val (.int .i64 0))], none, true⟩,
      ⟨none, .store 8 (.tmp 9) (.tmp 30), none, true⟩,
      ⟨(some 10), .mv (.tmp 31), none, true⟩])
  (.seq (.seq (.ops [⟨(some 32), .mv (.tmp 1), none, true⟩,
      ⟨(some 33), .bin .lss (.tmp 32) (.av (.val (.int .i64 0))), none, true⟩,
      ⟨(some 34), .mv (.tmp 33), none, true⟩,
      ⟨(some 35), .mv (.tmp 1), (some (34, false)), true⟩,
      ⟨(some 36), .fieldAddr 3 (.tmp 4), (some (34, false)), true⟩,
      ⟨(some 37), .load none (.tmp 36), (some (34, false)), true⟩,
      ⟨(some 38), .len (.tmp 37), (some (34, false)), true⟩,
      ⟨(some 39), .bin .geq (.tmp 35) (.tmp 38), (some (34, false)), true⟩,
      ⟨(some 40), .pick (.tmp 34) (.av (.val (.bool true))) (.tmp 39), none, true⟩,
      ⟨(some 41), .mv (.tmp 40), none, true⟩,
      ⟨(some 42), .fieldAddr 3 (.tmp 4), (some (41, false)), true⟩,
      ⟨(some 43), .load none (.tmp 42), (some (41, false)), true⟩,
      ⟨(some 44), .mv (.tmp 1), (some (41, false)), true⟩,
      ⟨(some 45), .indexAddr 5 (.tmp 43) (.tmp 44), (some (41, false)), true⟩,
      ⟨(some 46), .fieldAddr 0 (.tmp 45), (some (41, false)), true⟩,
      ⟨(some 47), .load none (.tmp 46), (some (41, false)), true⟩,
      ⟨(some 48), .len (.tmp 47), (some (41, false)), true⟩,
      ⟨(some 49), .bin .eql (.tmp 48) (.av (.val (.int .i64 0))), (some (41, false)), true⟩,
      ⟨(some 50), .pick (.tmp 41) (.av (.val (.bool true))) (.tmp 49), none, true⟩])
  (.cond (.tmp 50)
    (.seq (.ops [⟨(some 51), .call (.av (.func 8 [])) [], none, true⟩,
        ⟨(some 52), .mv (.tmp 51), none, true⟩,
        ⟨(some 53), .mv (.tmp 10), (some (52, true)), true⟩,
        ⟨(some 54), .bin .eql (.tmp 53) (.av (.val (.int .i64 5))), (some (52, true)), true⟩,
        ⟨(some 55), .pick (.tmp 52) (.tmp 54) (.av (.val (.bool false))), none, true⟩,
        ⟨(some 8), .mv (.tmp 55), none, true⟩])
    (.ret))
    (.skip)))
  (.seq (.ops [⟨(some 56), .fieldAddr 3 (.tmp 4), none, true⟩,
      ⟨(some 57), .load none (.tmp 56), none, true⟩,
      ⟨(some 58), .mv (.tmp 1), none, true⟩,
      ⟨(some 59), .indexAddr 5 (.tmp 57) (.tmp 58), none, true⟩,
      ⟨(some 60), .fieldAddr 0 (.tmp 59), none, true⟩,
      ⟨(some 61), .load none (.tmp 60), none, true⟩,
      ⟨(some 11), .mv (.tmp 61), none, true⟩])
  (.seq (.ops [⟨(some 63), .fieldAddr 0 (.tmp 4), none, true⟩,
      ⟨(some 64), .load none (.tmp 63), none, true⟩,
      ⟨(some 65), .load (some 4) (.tmp 6), none, true⟩,
      ⟨(some 66), .mv (.tmp 3), none, true⟩,
      ⟨(some 67), .call (.av (.func 9 [])) [(.tmp 64), (.tmp 65), (.tmp 66)], none, true⟩,
      ⟨(some 62), .mv (.tmp 67), none, true⟩,
      ⟨(some 68), .extract 0 (.tmp 62), none, true⟩,
      ⟨(some 69), .extract 1 (.tmp 62), none, true⟩,
      ⟨(some 12), .mv (.tmp 68), none, true⟩,
      ⟨(some 13), .mv (.tmp 69), none, true⟩])
  (.seq (.ops [⟨(some 71), .mv (.tmp 11), none, true⟩,
      ⟨(some 72), .mv (.tmp 11), none, true⟩,
      ⟨(some 73), .len (.tmp 72), none, true⟩,
      ⟨(some 74), .bin .sub (.tmp 73) (.av (.val (.int .i64 1))), none, true⟩,
      ⟨(some 75), .indexAddr 8 (.tmp 71) (.tmp 74), none, true⟩,
      ⟨(some 76), .load (some 8) (.tmp 75), none, true⟩,
      ⟨(some 77), .load (some 4) (.tmp 6), none, true⟩,
      ⟨(some 78), .mv (.tmp 3), none, true⟩,
      ⟨(some 79), .call (.av (.func 14 [])) [(.tmp 76), (.tmp 77), (.tmp 78)], none, true⟩,
      ⟨(some 70), .mv (.tmp 79), none, true⟩,
      ⟨(some 80), .extract 0 (.tmp 70), none, true⟩,
      ⟨(some 81), .extract 1 (.tmp 70), none, true⟩,
      ⟨(some 14), .zero [(.val (.int .i64 0)), (.val (.int .i64 0)), (.val (.int .i64 0)), (.val (.int .i64 0)), (.val (.int .i64 0)), (.val (.int .i64 0)), (.val (.slice none 0 0)), (.val (.slice none 0 0))], none, true⟩,
      ⟨none, .store 8 (.tmp 14) (.tmp 80), none, true⟩,
      ⟨(some 15), .mv (.tmp 81), none, true⟩])
  (.seq (.seq (.ops [⟨(some 82), .mv (.tmp 13), none, true⟩,
      ⟨(some 83), .bin .eql (.tmp 82) (.av (.val (.int .i64 0))), none, true⟩])
  (.cond (.tmp 83)
    (.ops [⟨(some 84), .mv (.tmp 15), none, true⟩,
        ⟨(some 13), .mv (.tmp 84), none, true⟩])
    (.skip)))
  (.seq (.seq (.ops [⟨(some 85), .mv (.tmp 13), none, true⟩,
      ⟨(some 86), .bin .neq (.tmp 85) (.av (.val (.int .i64 0))), none, true⟩])
  (.cond (.tmp 86)
    (.seq (.ops [⟨(some 87), .call (.av (.func 8 [])) [], none, true⟩,
        ⟨(some 88), .mv (.tmp 87), none, true⟩,
        ⟨(some 89), .mv (.tmp 10), (some (88, true)), true⟩,
        ⟨(some 90), .mv (.tmp 13), (some (88, true)), true⟩,
        ⟨(some 91), .bin .eql (.tmp 89) (.tmp 90), (some (88, true)), true⟩,
        ⟨(some 92), .pick (.tmp 88) (.tmp 91) (.av (.val (.bool false))), none, true⟩,
        ⟨(some 93), .mv (.tmp 92), none, true⟩,
        ⟨(some 94), .fieldAddr 3 (.tmp 9), (some (93, true)), true⟩,
        ⟨(some 95), .load none (.tmp 94), (some (93, true)), true⟩,
        ⟨(some 96), .len (.tmp 95), (some (93, true)), true⟩,
        ⟨(some 97), .fieldAddr 0 (.tmp 9), (some (93, true)), true⟩,
        ⟨(some 98), .load none (.tmp 97), (some (93, true)), true⟩,
        ⟨(some 99), .len (.tmp 98), (some (93, true)), true⟩,
        ⟨(some 100), .bin .add (.tmp 96) (.tmp 99), (some (93, true)), true⟩,
        ⟨(some 101), .bin .eql (.tmp 100) (.av (.val (.int .i64 0))), (some (93, true)), true⟩,
        ⟨(some 102), .pick (.tmp 93) (.tmp 101) (.av (.val (.bool false))), none, true⟩,
        ⟨(some 8), .mv (.tmp 102), none, true⟩])
    (.ret))
    (.skip)))
  (.seq (.seq (.ops [⟨(some 103), .mv (.tmp 10), none, true⟩,
      ⟨(some 104), .bin .neq (.tmp 103) (.av (.val (.int .i64 0))), none, true⟩,
      ⟨(some 105), .mv (.tmp 104), none, true⟩,
      ⟨(some 106), .fieldAddr 3 (.tmp 9), (some (105, false)), true⟩,
      ⟨(some 107), .load none (.tmp 106), (some (105, false)), true⟩,
      ⟨(some 108), .len (.tmp 107), (some (105, false)), true⟩,
      ⟨(some 109), .fieldAddr 3 (.tmp 4), (some (105, false)), true⟩,
      ⟨(some 110), .load none (.tmp 109), (some (105, false)), true⟩,
      ⟨(some 111), .len (.tmp 110), (some (105, false)), true⟩,
      ⟨(some 112), .bin .neq (.tmp 108) (.tmp 111), (some (105, false)), true⟩,
      ⟨(some 113), .pick (.tmp 105) (.av (.val (.bool true))) (.tmp 112), none, true⟩,
      ⟨(some 114), .mv (.tmp 113), none, true⟩,
      ⟨(some 115), .fieldAddr 3 (.tmp 9), (some (114, false)), true⟩,
      ⟨(some 116), .load none (.tmp 115), (some (114, false)), true⟩,
      ⟨(some 117), .mv (.tmp 1), (some (114, false)), true⟩,
      ⟨(some 118), .indexAddr 5 (.tmp 116) (.tmp 117), (some (114, false)), true⟩,
      ⟨(some 119), .fieldAddr 0 (.tmp 118), (some (114, false)), true⟩,
      ⟨(some 120), .load none (.tmp 119), (some (114, false)), true⟩,
      ⟨(some 121), .len (.tmp 120), (some (114, false)), true⟩,
      ⟨(some 122), .mv (.tmp 11), (some (114, false)), true⟩,
      ⟨(some 123), .len (.tmp 122), (some (114, false)), true⟩,
      ⟨(some 124), .bin .neq (.tmp 121) (.tmp 123), (some (114, false)), true⟩,
      ⟨(some 125), .pick (.tmp 114) (.av (.val (.bool true))) (.tmp 124), none, true⟩,
      ⟨(some 126), .mv (.tmp 125), none, true⟩,
      ⟨(some 127), .fieldAddr 0 (.tmp 9), (some (126, false)), true⟩,
      ⟨(some 128), .load none (.tmp 127), (some (126, false)), true⟩,
      ⟨(some 129), .len (.tmp 128), (some (126, false)), true⟩,
      ⟨(some 130), .mv (.tmp 12), (some (126, false)), true⟩,
      ⟨(some 131), .len (.tmp 130), (some (126, false)), true⟩,
      ⟨(some 132), .bin .neq (.tmp 129) (.tmp 131), (some (126, false)), true⟩,
      ⟨(some 133), .pick (.tmp 126) (.av (.val (.bool true))) (.tmp 132), none, true⟩])
  (.cond (.tmp 133)
    (.seq (.ops [⟨(some 8), .mv (.av (.val (.bool false))), none, true⟩])
    (.ret))
    (.skip)))
  (.seq (.seq (.ops [⟨(some 134), .mv (.tmp 12), none, true⟩,
      ⟨(some 135), .len (.tmp 134), none, true⟩,
      ⟨(some 136), .mv (.av (.val (.int .i64 0))), none, true⟩])
  (rangeCode 0 1 137 136 135 150
    (.seq (.ops [⟨(some 138), .mv (.tmp 136), none, true⟩,
        ⟨(some 16), .mv (.tmp 138), none, true⟩])
    (.seq (.ops [⟨(some 139), .mv (.tmp 12), none, true⟩,
        ⟨(some 140), .mv (.tmp 16), none, true⟩,
        ⟨(some 141), .indexAddr 4 (.tmp 139) (.tmp 140), none, true⟩,
        ⟨(some 142), .load (some 4) (.tmp 141), none, true⟩,
        ⟨(some 143), .fieldAddr 0 (.tmp 9), none, true⟩,
        ⟨(some 144), .load none (.tmp 143), none, true⟩,
        ⟨(some 145), .mv (.tmp 16), none, true⟩,
        ⟨(some 146), .indexAddr 4 (.tmp 144) (.tmp 145), none, true⟩,
        ⟨(some 147), .load (some 4) (.tmp 146), none, true⟩,
        ⟨(some 148), .call (.av (.func 10 [])) [(.tmp 142), (.tmp 147)], none, true⟩,
        ⟨(some 149), .un .not (.tmp 148), none, true⟩])
    (.cond (.tmp 149)
      (.seq (.ops [⟨(some 8), .mv (.av (.val (.bool false))), none, true⟩])
      (.ret))
      (.skip))))))
  (.seq (.seq (.ops [⟨(some 151), .fieldAddr 3 (.tmp 4), none, true⟩,
      ⟨(some 152), .load none (.tmp 151), none, true⟩,
      ⟨(some 153), .len (.tmp 152), none, true⟩,
      ⟨(some 154), .mv (.av (.val (.int .i64 0))), none, true⟩])
  (rangeCode 2 3 155 154 153 192
    (.seq (.ops [⟨(some 156), .mv (.tmp 154), none, true⟩,
        ⟨(some 157), .indexAddr 5 (.tmp 152) (.tmp 154), none, true⟩,
        ⟨(some 158), .load (some 5) (.tmp 157), none, true⟩,
        ⟨(some 18), .zero [(.val (.slice none 0 0)), (.val (.int .i64 0)), (.val (.int .i64 0)), (.val (.int .i64 0)), (.val (.int .i64 0))], none, true⟩,
        ⟨(some 17), .mv (.tmp 156), none, true⟩,
        ⟨none, .store 5 (.tmp 18) (.tmp 158), none, true⟩])
    (.seq (.ops [⟨(some 159), .fieldAddr 0 (.tmp 18), none, true⟩,
        ⟨(some 160), .load none (.tmp 159), none, true⟩,
        ⟨(some 161), .len (.tmp 160), none, true⟩,
        ⟨(some 162), .mv (.av (.val (.int .i64 0))), none, true⟩])
    (rangeCode 4 5 163 162 161 191
      (.seq (.ops [⟨(some 164), .mv (.tmp 162), none, true⟩,
          ⟨(some 165), .indexAddr 8 (.tmp 160) (.tmp 162), none, true⟩,
          ⟨(some 166), .load (some 8) (.tmp 165), none, true⟩,
          ⟨(some 20), .zero [(.val (.int .i64 0)), (.val (.int .i64 0)), (.val (.int .i64 0)), (.val (.int .i64 0)), (.val (.int .i64 0)), (.val (.int .i64 0)), (.val (.slice none 0 0)), (.val (.slice none 0 0))], none, true⟩,
          ⟨(some 19), .mv (.tmp 164), none, true⟩,
          ⟨none, .store 8 (.tmp 20) (.tmp 166), none, true⟩])
      (.seq (.ops [⟨(some 167), .fieldAddr 3 (.tmp 9), none, true⟩,
          ⟨(some 168), .load none (.tmp 167), none, true⟩,
          ⟨(some 169), .mv (.tmp 17), none, true⟩,
          ⟨(some 170), .indexAddr 5 (.tmp 168) (.tmp 169), none, true⟩,
          ⟨(some 171), .fieldAddr 0 (.tmp 170), none, true⟩,
          ⟨(some 172), .load none (.tmp 171), none, true⟩,
          ⟨(some 173), .mv (.tmp 19), none, true⟩,
          ⟨(some 174), .indexAddr 8 (.tmp 172) (.tmp 173), none, true⟩,
          ⟨(some 175), .load (some 8) (.tmp 174), none, true⟩,
          ⟨(some 21), .zero [(.val (.int .i64 0)), (.val (.int .i64 0)), (.val (.int .i64 0)), (.val (.int .i64 0)), (.val (.int .i64 0)), (.val (.int .i64 0)), (.val (.slice none 0 0)), (.val (.slice none 0 0))], none, true⟩,
          ⟨none, .store 8 (.tmp 21) (.tmp 175), none, true⟩])
      (.seq (.seq (.ops [⟨(some 176), .mv (.tmp 17), none, true⟩,
          ⟨(some 177), .mv (.tmp 1), none, true⟩,
          ⟨(some 178), .bin .eql (.tmp 176) (.tmp 177), none, true⟩,
          ⟨(some 179), .mv (.tmp 178), none, true⟩,
          ⟨(some 180), .mv (.tmp 19), (some (179, true)), true⟩,
          ⟨(some 181), .mv (.tmp 11), (some (179, true)), true⟩,
          ⟨(some 182), .len (.tmp 181), (some (179, true)), true⟩,
          ⟨(some 183), .bin .sub (.tmp 182) (.av (.val (.int .i64 1))), (some (179, true)), true⟩,
          ⟨(some 184), .bin .eql (.tmp 180) (.tmp 183), (some (179, true)), true⟩,
          ⟨(some 185), .pick (.tmp 179) (.tmp 184) (.av (.val (.bool false))), none, true⟩])
      (.cond (.tmp 185)
        (.ops [⟨(some 186), .load (some 8) (.tmp 14), none, true⟩,
            ⟨none, .store 8 (.tmp 20) (.tmp 186), none, true⟩])
        (.skip)))
      (.seq (.ops [⟨(some 187), .load (some 8) (.tmp 20), none, true⟩,
          ⟨(some 188), .load (some 8) (.tmp 21), none, true⟩,
          ⟨(some 189), .call (.av (.func 13 [])) [(.tmp 187), (.tmp 188)], none, true⟩,
          ⟨(some 190), .un .not (.tmp 189), none, true⟩])
      (.cond (.tmp 190)
        (.seq (.ops [⟨(some 8), .mv (.av (.val (.bool false))), none, true⟩])
        (.ret))
        (.skip)))))))))))
  (.seq (.ops [⟨(some 193), .call (.av (.func 8 [])) [], none, true⟩,
      ⟨(some 194), .mv (.tmp 193), none, true⟩,
      ⟨(some 195), .fieldAddr 7 (.tmp 9), (some (194, true)), true⟩,
      ⟨(some 196), .load none (.tmp 195), (some (194, true)), true⟩,
      ⟨(some 197), .fieldAddr 7 (.tmp 4), (some (194, true)), true⟩,
      ⟨(some 198), .load none (.tmp 197), (some (194, true)), true⟩,
      ⟨(some 199), .fieldAddr 1 (.tmp 6), (some (194, true)), true⟩,
      ⟨(some 200), .load none (.tmp 199), (some (194, true)), true⟩,
      ⟨(some 201), .bin .add (.tmp 198) (.tmp 200), (some (194, true)), true⟩,
      ⟨(some 202), .bin .eql (.tmp 196) (.tmp 201), (some (194, true)), true⟩,
      ⟨(some 203), .pick (.tmp 194) (.tmp 202) (.av (.val (.bool false))), none, true⟩,
      ⟨(some 204), .mv (.tmp 203), none, true⟩,
      ⟨(some 205), .fieldAddr 6 (.tmp 9), (some (204, true)), true⟩,
      ⟨(some 206), .load none (.tmp 205), (some (204, true)), true⟩,
      ⟨(some 207), .fieldAddr 6 (.tmp 4), (some (204, true)), true⟩,
      ⟨(some 208), .load none (.tmp 207), (some (204, true)), true⟩,
      ⟨(some 209), .bin .eql (.tmp 206) (.tmp 208), (some (204, true)), true⟩,
      ⟨(some 210), .pick (.tmp 204) (.tmp 209) (.av (.val (.bool false))), none, true⟩,
      ⟨(some 211), .mv (.tmp 210), none, true⟩,
      ⟨(some 212), .fieldAddr 5 (.tmp 9), (some (211, true)), true⟩,
      ⟨(some 213), .load none (.tmp 212), (some (211, true)), true⟩,
      ⟨(some 214), .fieldAddr 5 (.tmp 4), (some (211, true)), true⟩,
      ⟨(some 215), .load none (.tmp 214), (some (211, true)), true⟩,
      ⟨(some 216), .call (.av (.func 15 [])) [(.tmp 213), (.tmp 215)], (some (211, true)), true⟩,
      ⟨(some 217), .pick (.tmp 211) (.tmp 216) (.av (.val (.bool false))), none, true⟩,
      ⟨(some 218), .mv (.tmp 217), none, true⟩,
      ⟨(some 219), .fieldAddr 2 (.tmp 9), (some (218, true)), true⟩,
      ⟨(some 220), .load none (.tmp 219), (some (218, true)), true⟩,
      ⟨(some 221), .fieldAddr 2 (.tmp 4), (some (218, true)), true⟩,
      ⟨(some 222), .load none (.tmp 221), (some (218, true)), true⟩,
      ⟨(some 223), .call (.av (.func 16 [])) [(.tmp 220), (.tmp 222)], (some (218, true)), true⟩,
      ⟨(some 224), .pick (.tmp 218) (.tmp 223) (.av (.val (.bool false))), none, true⟩,
      ⟨(some 225), .mv (.tmp 224), none, true⟩,
      ⟨(some 226), .fieldAddr 1 (.tmp 9), (some (225, true)), true⟩,
      ⟨(some 227), .load none (.tmp 226), (some (225, true)), true⟩,
      ⟨(some 228), .fieldAddr 1 (.tmp 4), (some (225, true)), true⟩,
      ⟨(some 229), .load none (.tmp 228), (some (225, true)), true⟩,
      ⟨(some 230), .call (.av (.func 17 [])) [(.tmp 227), (.tmp 229)], (some (225, true)), true⟩,
      ⟨(some 231), .pick (.tmp 225) (.tmp 230) (.av (.val (.bool false))), none, true⟩,
      ⟨(some 232), .mv (.tmp 231), none, true⟩,
      ⟨(some 233), .fieldAddr 4 (.tmp 9), (some (232, true)), true⟩,
      ⟨(some 234), .load none (.tmp 233), (some (232, true)), true⟩,
      ⟨(some 235), .fieldAddr 4 (.tmp 4), (some (232, true)), true⟩,
      ⟨(some 236), .load none (.tmp 235), (some (232, true)), true⟩,
      ⟨(some 237), .call (.av (.func 18 [])) [(.tmp 234), (.tmp 236)], (some (232, true)), true⟩,
      ⟨(some 238), .pick (.tmp 232) (.tmp 237) (.av (.val (.bool false))), none, true⟩,
      ⟨(some 8), .mv (.tmp 238), none, true⟩])
  (.ret)))))))))))))
theorem f_l_leaveout : cFunc Try.prog 5 = some ⟨239, c_l_leaveout, [.tmp 8]⟩ := by kernel_rfl
/-- backstitch/leave.Cells: its code in AM. -/
def c_lv_cells : ACode := .seq (.ops [⟨(some 4), .box 4 (.tmp 1), none, true⟩,
      ⟨(some 6), .mv (.av (.val (.slice none 0 0))), none, true⟩,
      ⟨(some 7), .mv (.av (.val (.int .i64 0))), none, true⟩])
  (.seq (.ops [⟨(some 16), .mv (.tmp 0), none, true⟩,
      ⟨(some 17), .call (.av (.func 23 [])) [(.tmp 16)], none, true⟩,
      ⟨(some 8), .mv (.tmp 17), none, true⟩])
  (.seq (.seq (.ops [⟨(some 18), .fieldAddr 3 (.tmp 4), none, true⟩,
      ⟨(some 19), .load none (.tmp 18), none, true⟩,
      ⟨(some 20), .len (.tmp 19), none, true⟩,
      ⟨(some 21), .mv (.av (.val (.int .i64 0))), none, true⟩])
  (rangeCode 0 1 22 21 20 83
    (.seq (.ops [⟨(some 23), .indexAddr 4 (.tmp 19) (.tmp 21), none, true⟩,
        ⟨(some 24), .load (some 4) (.tmp 23), none, true⟩,
        ⟨(some 10), .zero [(.val (.int .i64 0)), (.val (.int .i64 0)), (.val (.int .i64 0)), (.val (.slice none 0 0))], none, true⟩,
        ⟨none, .store 4 (.tmp 10) (.tmp 24), none, true⟩])
    (.seq (.ops [⟨(some 26), .fieldAddr 0 (.tmp 10), none, true⟩,
        ⟨(some 27), .load none (.tmp 26), none, true⟩,
        ⟨(some 28), .lits 1 1 [(.val (.int .i64 0))] [(0, 1, (.tmp 27))], none, true⟩,
        ⟨(some 29), .mv (.tmp 2), none, true⟩,
        ⟨(some 30), .call (.av (.func 24 [])) [(.tmp 28), (.tmp 29)], none, true⟩,
        ⟨(some 25), .mv (.tmp 30), none, true⟩,
        ⟨(some 31), .extract 0 (.tmp 25), none, true⟩,
        ⟨(some 32), .extract 1 (.tmp 25), none, true⟩,
        ⟨(some 11), .mv (.tmp 31), none, true⟩,
        ⟨(some 12), .mv (.tmp 32), none, true⟩])
    (.seq (.ops [⟨(some 34), .fieldAddr 3 (.tmp 10), none, true⟩,
        ⟨(some 35), .load none (.tmp 34), none, true⟩,
        ⟨(some 36), .mv (.tmp 2), none, true⟩,
        ⟨(some 37), .call (.av (.func 24 [])) [(.tmp 35), (.tmp 36)], none, true⟩,
        ⟨(some 33), .mv (.tmp 37), none, true⟩,
        ⟨(some 38), .extract 0 (.tmp 33), none, true⟩,
        ⟨(some 39), .extract 1 (.tmp 33), none, true⟩,
        ⟨(some 13), .mv (.tmp 38), none, true⟩,
        ⟨(some 14), .mv (.tmp 39), none, true⟩])
    (.seq (.seq (.ops [⟨(some 40), .mv (.tmp 12), none, true⟩,
        ⟨(some 41), .un .not (.tmp 40), none, true⟩,
        ⟨(some 42), .mv (.tmp 41), none, true⟩,
        ⟨(some 43), .mv (.tmp 14), (some (42, false)), true⟩,
        ⟨(some 44), .un .not (.tmp 43), (some (42, false)), true⟩,
        ⟨(some 45), .pick (.tmp 42) (.av (.val (.bool true))) (.tmp 44), none, true⟩])
    (.cond (.tmp 45)
      (.seq (.ops [⟨(some 6), .mv (.av (.val (.slice none 0 0))), none, true⟩,
          ⟨(some 7), .mv (.av (.val (.int .i64 3))), none, true⟩])
      (.ret))
      (.skip)))
    (.seq (.ops [⟨(some 46), .mv (.tmp 11), none, true⟩,
        ⟨(some 47), .indexAddr 2 (.tmp 46) (.av (.val (.int .i64 0))), none, true⟩,
        ⟨(some 48), .load (some 2) (.tmp 47), none, true⟩,
        ⟨(some 15), .zero [(.val (.int .i64 0)), (.val (.int .i64 0))], none, true⟩,
        ⟨none, .store 2 (.tmp 15) (.tmp 48), none, true⟩])
    (.seq (.seq (.ops [⟨(some 49), .fieldAddr 0 (.tmp 15), none, true⟩,
        ⟨(some 50), .load none (.tmp 49), none, true⟩,
        ⟨(some 51), .bin .neq (.tmp 50) (.av (.val (.int .i64 5))), none, true⟩,
        ⟨(some 52), .mv (.tmp 51), none, true⟩,
        ⟨(some 53), .fieldAddr 1 (.tmp 15), (some (52, false)), true⟩,
        ⟨(some 54), .load none (.tmp 53), (some (52, false)), true⟩,
        ⟨(some 55), .bin .lss (.tmp 54) (.av (.val (.int .i64 0))), (some (52, false)), true⟩,
        ⟨(some 56), .pick (.tmp 52) (.av (.val (.bool true))) (.tmp 55), none, true⟩,
        ⟨(some 57), .mv (.tmp 56), none, true⟩,
        ⟨(some 58), .fieldAddr 1 (.tmp 15), (some (57, false)), true⟩,
        ⟨(some 59), .load none (.tmp 58), (some (57, false)), true⟩,
        ⟨(some 60), .mv (.tmp 8), (some (57, false)), true⟩,
        ⟨(some 61), .len (.tmp 60), (some (57, false)), true⟩,
        ⟨(some 62), .bin .geq (.tmp 59) (.tmp 61), (some (57, false)), true⟩,
        ⟨(some 63), .pick (.tmp 57) (.av (.val (.bool true))) (.tmp 62), none, true⟩,
        ⟨(some 64), .mv (.tmp 63), none, true⟩,
        ⟨(some 65), .mv (.tmp 8), (some (64, false)), true⟩,
        ⟨(some 66), .fieldAddr 1 (.tmp 15), (some (64, false)), true⟩,
        ⟨(some 67), .load none (.tmp 66), (some (64, false)), true⟩,
        ⟨(some 68), .indexAddr 4 (.tmp 65) (.tmp 67), (some (64, false)), true⟩,
        ⟨(some 69), .fieldAddr 0 (.tmp 68), (some (64, false)), true⟩,
        ⟨(some 70), .load none (.tmp 69), (some (64, false)), true⟩,
        ⟨(some 71), .bin .neq (.tmp 70) (.av (.val (.int .i64 0))), (some (64, false)), true⟩,
        ⟨(some 72), .pick (.tmp 64) (.av (.val (.bool true))) (.tmp 71), none, true⟩])
    (.cond (.tmp 72)
      (.seq (.ops [⟨(some 6), .mv (.av (.val (.slice none 0 0))), none, true⟩,
          ⟨(some 7), .mv (.av (.val (.int .i64 8))), none, true⟩])
      (.ret))
      (.skip)))
    (.ops [⟨(some 73), .mv (.tmp 8), none, true⟩,
        ⟨(some 74), .fieldAddr 1 (.tmp 15), none, true⟩,
        ⟨(some 75), .load none (.tmp 74), none, true⟩,
        ⟨(some 76), .fieldAddr 1 (.tmp 10), none, true⟩,
        ⟨(some 77), .load none (.tmp 76), none, true⟩,
        ⟨(some 78), .fieldAddr 2 (.tmp 10), none, true⟩,
        ⟨(some 79), .load none (.tmp 78), none, true⟩,
        ⟨(some 80), .mv (.tmp 13), none, true⟩,
        ⟨(some 81), .build [(.val (.int .i64 0)), (.val (.int .i64 0)), (.val (.slice none 0 0)), (.val (.slice none 0 0))] [(0, 1, (.tmp 77)), (1, 1, (.tmp 79)), (2, 1, (.tmp 80))], none, true⟩,
        ⟨(some 82), .indexAddr 4 (.tmp 73) (.tmp 75), none, true⟩,
        ⟨none, .store 4 (.tmp 82) (.tmp 81), none, true⟩])))))))))
  (.seq (.ops [⟨(some 84), .mv (.tmp 8), none, true⟩,
      ⟨(some 6), .mv (.tmp 84), none, true⟩,
      ⟨(some 7), .mv (.av (.val (.int .i64 0))), none, true⟩])
  (.ret))))
theorem f_lv_cells : cFunc Try.prog 9 = some ⟨85, c_lv_cells, [.tmp 6, .tmp 7]⟩ := by kernel_rfl
/-- backstitch/backstitchkeep3.sameCell: its code in AM. -/
def c_l_samecell : ACode := .seq (.ops [⟨(some 2), .box 4 (.tmp 0), none, true⟩,
      ⟨(some 3), .box 4 (.tmp 1), none, true⟩,
      ⟨(some 4), .mv (.av (.val (.bool false))), none, true⟩])
  (.seq (.seq (.ops [⟨(some 6), .fieldAddr 0 (.tmp 2), none, true⟩,
      ⟨(some 7), .load none (.tmp 6), none, true⟩,
      ⟨(some 8), .fieldAddr 0 (.tmp 3), none, true⟩,
      ⟨(some 9), .load none (.tmp 8), none, true⟩,
      ⟨(some 10), .bin .neq (.tmp 7) (.tmp 9), none, true⟩,
      ⟨(some 11), .mv (.tmp 10), none, true⟩,
      ⟨(some 12), .fieldAddr 1 (.tmp 2), (some (11, false)), true⟩,
      ⟨(some 13), .load none (.tmp 12), (some (11, false)), true⟩,
      ⟨(some 14), .fieldAddr 1 (.tmp 3), (some (11, false)), true⟩,
      ⟨(some 15), .load none (.tmp 14), (some (11, false)), true⟩,
      ⟨(some 16), .bin .neq (.tmp 13) (.tmp 15), (some (11, false)), true⟩,
      ⟨(some 17), .pick (.tmp 11) (.av (.val (.bool true))) (.tmp 16), none, true⟩,
      ⟨(some 18), .mv (.tmp 17), none, true⟩,
      ⟨(some 19), .fieldAddr 2 (.tmp 2), (some (18, false)), true⟩,
      ⟨(some 20), .load none (.tmp 19), (some (18, false)), true⟩,
      ⟨(some 21), .fieldAddr 2 (.tmp 3), (some (18, false)), true⟩,
      ⟨(some 22), .load none (.tmp 21), (some (18, false)), true⟩,
      ⟨(some 23), .call (.av (.func 15 [])) [(.tmp 20), (.tmp 22)], (some (18, false)), true⟩,
      ⟨(some 24), .un .not (.tmp 23), (some (18, false)), true⟩,
      ⟨(some 25), .pick (.tmp 18) (.av (.val (.bool true))) (.tmp 24), none, true⟩,
      ⟨(some 26), .mv (.tmp 25), none, true⟩,
      ⟨(some 27), .fieldAddr 3 (.tmp 2), (some (26, false)), true⟩,
      ⟨(some 28), .load none (.tmp 27), (some (26, false)), true⟩,
      ⟨(some 29), .len (.tmp 28), (some (26, false)), true⟩,
      ⟨(some 30), .fieldAddr 3 (.tmp 3), (some (26, false)), true⟩,
      ⟨(some 31), .load none (.tmp 30), (some (26, false)), true⟩,
      ⟨(some 32), .len (.tmp 31), (some (26, false)), true⟩,
      ⟨(some 33), .bin .neq (.tmp 29) (.tmp 32), (some (26, false)), true⟩,
      ⟨(some 34), .pick (.tmp 26) (.av (.val (.bool true))) (.tmp 33), none, true⟩])
  (.cond (.tmp 34)
    (.seq (.ops [⟨(some 4), .mv (.av (.val (.bool false))), none, true⟩])
    (.ret))
    (.skip)))
  (.seq (.seq (.ops [⟨(some 35), .fieldAddr 3 (.tmp 2), none, true⟩,
      ⟨(some 36), .load none (.tmp 35), none, true⟩,
      ⟨(some 37), .len (.tmp 36), none, true⟩,
      ⟨(some 38), .mv (.av (.val (.int .i64 0))), none, true⟩])
  (rangeCode 0 1 39 38 37 53
    (.seq (.ops [⟨(some 40), .mv (.tmp 38), none, true⟩,
        ⟨(some 5), .mv (.tmp 40), none, true⟩])
    (.seq (.ops [⟨(some 41), .fieldAddr 3 (.tmp 2), none, true⟩,
        ⟨(some 42), .load none (.tmp 41), none, true⟩,
        ⟨(some 43), .mv (.tmp 5), none, true⟩,
        ⟨(some 44), .indexAddr 8 (.tmp 42) (.tmp 43), none, true⟩,
        ⟨(some 45), .load (some 8) (.tmp 44), none, true⟩,
        ⟨(some 46), .fieldAddr 3 (.tmp 3), none, true⟩,
        ⟨(some 47), .load none (.tmp 46), none, true⟩,
        ⟨(some 48), .mv (.tmp 5), none, true⟩,
        ⟨(some 49), .indexAddr 8 (.tmp 47) (.tmp 48), none, true⟩,
        ⟨(some 50), .load (some 8) (.tmp 49), none, true⟩,
        ⟨(some 51), .call (.av (.func 13 [])) [(.tmp 45), (.tmp 50)], none, true⟩,
        ⟨(some 52), .un .not (.tmp 51), none, true⟩])
    (.cond (.tmp 52)
      (.seq (.ops [⟨(some 4), .mv (.av (.val (.bool false))), none, true⟩])
      (.ret))
      (.skip))))))
  (.seq (.ops [⟨(some 4), .mv (.av (.val (.bool true))), none, true⟩])
  (.ret))))
theorem f_l_samecell : cFunc Try.prog 10 = some ⟨54, c_l_samecell, [.tmp 4]⟩ := by kernel_rfl
/-- backstitch/leave.Out: its code in AM. -/
def c_lv_out : ACode := .seq (.ops [⟨(some 4), .box 8 (.tmp 0), none, true⟩,
      ⟨(some 6), .box 4 (.tmp 2), none, true⟩,
      ⟨(some 8), .zero [(.val (.slice none 0 0)), (.val (.slice none 0 0)), (.val (.slice none 0 0)), (.val (.slice none 0 0)), (.val (.slice none 0 0)), (.val (.slice none 0 0)), (.val (.int .i64 0)), (.val (.int .i64 0))], none, true⟩,
      ⟨(some 9), .mv (.av (.val (.int .i64 0))), none, true⟩])
  (.seq (.seq (.ops [⟨(some 16), .mv (.tmp 1), none, true⟩,
      ⟨(some 17), .bin .lss (.tmp 16) (.av (.val (.int .i64 0))), none, true⟩,
      ⟨(some 18), .mv (.tmp 17), none, true⟩,
      ⟨(some 19), .mv (.tmp 1), (some (18, false)), true⟩,
      ⟨(some 20), .fieldAddr 3 (.tmp 4), (some (18, false)), true⟩,
      ⟨(some 21), .load none (.tmp 20), (some (18, false)), true⟩,
      ⟨(some 22), .len (.tmp 21), (some (18, false)), true⟩,
      ⟨(some 23), .bin .geq (.tmp 19) (.tmp 22), (some (18, false)), true⟩,
      ⟨(some 24), .pick (.tmp 18) (.av (.val (.bool true))) (.tmp 23), none, true⟩,
      ⟨(some 25), .mv (.tmp 24), none, true⟩,
      ⟨(some 26), .fieldAddr 3 (.tmp 4), (some (25, false)), true⟩,
      ⟨(some 27), .load none (.tmp 26), (some (25, false)), true⟩,
      ⟨(some 28), .mv (.tmp 1), (some (25, false)), true⟩,
      ⟨(some 29), .indexAddr 5 (.tmp 27) (.tmp 28), (some (25, false)), true⟩,
      ⟨(some 30), .fieldAddr 0 (.tmp 29), (some (25, false)), true⟩,
      ⟨(some 31), .load none (.tmp 30), (some (25, false)), true⟩,
      ⟨(some 32), .len (.tmp 31), (some (25, false)), true⟩,
      ⟨(some 33), .bin .eql (.tmp 32) (.av (.val (.int .i64 0))), (some (25, false)), true⟩,
      ⟨(some 34), .pick (.tmp 25) (.av (.val (.bool true))) (.tmp 33), none, true⟩])
  (.cond (.tmp 34)
    (.seq (.ops [⟨(some 35), .build [(.val (.slice none 0 0)), (.val (.slice none 0 0)), (.val (.slice none 0 0)), (.val (.slice none 0 0)), (.val (.slice none 0 0)), (.val (.slice none 0 0)), (.val (.int .i64 0)), (.val (.int .i64 0))] [], none, true⟩,
        ⟨none, .store 8 (.tmp 8) (.tmp 35), none, true⟩,
        ⟨(some 9), .mv (.av (.val (.int .i64 5))), none, true⟩])
    (.ret))
    (.skip)))
  (.seq (.ops [⟨(some 37), .fieldAddr 0 (.tmp 4), none, true⟩,
      ⟨(some 38), .load none (.tmp 37), none, true⟩,
      ⟨(some 39), .load (some 4) (.tmp 6), none, true⟩,
      ⟨(some 40), .mv (.tmp 3), none, true⟩,
      ⟨(some 41), .call (.av (.func 9 [])) [(.tmp 38), (.tmp 39), (.tmp 40)], none, true⟩,
      ⟨(some 36), .mv (.tmp 41), none, true⟩,
      ⟨(some 42), .extract 0 (.tmp 36), none, true⟩,
      ⟨(some 43), .extract 1 (.tmp 36), none, true⟩,
      ⟨(some 10), .mv (.tmp 42), none, true⟩,
      ⟨(some 11), .mv (.tmp 43), none, true⟩])
  (.seq (.seq (.ops [⟨(some 44), .mv (.tmp 11), none, true⟩,
      ⟨(some 45), .bin .neq (.tmp 44) (.av (.val (.int .i64 0))), none, true⟩])
  (.cond (.tmp 45)
    (.seq (.ops [⟨(some 46), .build [(.val (.slice none 0 0)), (.val (.slice none 0 0)), (.val (.slice none 0 0)), (.val (.slice none 0 0)), (.val (.slice none 0 0)), (.val (.slice none 0 0)), (.val (.int .i64 0)), (.val (.int .i64 0))] [], none, true⟩,
        ⟨(some 47), .mv (.tmp 11), none, true⟩,
        ⟨none, .store 8 (.tmp 8) (.tmp 46), none, true⟩,
        ⟨(some 9), .mv (.tmp 47), none, true⟩])
    (.ret))
    (.skip)))
  (.seq (.ops [⟨(some 48), .fieldAddr 3 (.tmp 4), none, true⟩,
      ⟨(some 49), .load none (.tmp 48), none, true⟩,
      ⟨(some 50), .call (.av (.func 25 [])) [(.tmp 49)], none, true⟩,
      ⟨(some 51), .fieldAddr 3 (.tmp 4), none, true⟩,
      ⟨none, .store 1 (.tmp 51) (.tmp 50), none, true⟩])
  (.seq (.seq (.ops [⟨(some 52), .fieldAddr 3 (.tmp 4), none, true⟩,
      ⟨(some 53), .load none (.tmp 52), none, true⟩,
      ⟨(some 54), .len (.tmp 53), none, true⟩,
      ⟨(some 55), .mv (.av (.val (.int .i64 0))), none, true⟩])
  (rangeCode 0 1 56 55 54 68
    (.seq (.ops [⟨(some 57), .mv (.tmp 55), none, true⟩,
        ⟨(some 58), .indexAddr 5 (.tmp 53) (.tmp 55), none, true⟩,
        ⟨(some 59), .load (some 5) (.tmp 58), none, true⟩,
        ⟨(some 13), .zero [(.val (.slice none 0 0)), (.val (.int .i64 0)), (.val (.int .i64 0)), (.val (.int .i64 0)), (.val (.int .i64 0))], none, true⟩,
        ⟨(some 12), .mv (.tmp 57), none, true⟩,
        ⟨none, .store 5 (.tmp 13) (.tmp 59), none, true⟩])
    (.ops [⟨(some 60), .fieldAddr 3 (.tmp 4), none, true⟩,
        ⟨(some 61), .load none (.tmp 60), none, false⟩,
        ⟨(some 62), .mv (.tmp 12), none, true⟩,
        ⟨(some 63), .fieldAddr 0 (.tmp 13), none, true⟩,
        ⟨(some 64), .load none (.tmp 63), none, true⟩,
        ⟨(some 65), .call (.av (.func 26 [])) [(.tmp 64)], none, false⟩,
        ⟨(some 66), .indexAddr 5 (.tmp 61) (.tmp 62), none, true⟩,
        ⟨(some 67), .fieldAddr 0 (.tmp 66), none, true⟩,
        ⟨none, .store 1 (.tmp 67) (.tmp 65), none, true⟩]))))
  (.seq (.ops [⟨(some 69), .fieldAddr 3 (.tmp 4), none, true⟩,
      ⟨(some 70), .load none (.tmp 69), none, true⟩,
      ⟨(some 71), .mv (.tmp 1), none, true⟩,
      ⟨(some 72), .indexAddr 5 (.tmp 70) (.tmp 71), none, true⟩,
      ⟨(some 73), .fieldAddr 0 (.tmp 72), none, true⟩,
      ⟨(some 74), .load none (.tmp 73), none, true⟩,
      ⟨(some 14), .mv (.tmp 74), none, true⟩])
  (.seq (.ops [⟨(some 75), .mv (.tmp 14), none, true⟩,
      ⟨(some 76), .len (.tmp 75), none, true⟩,
      ⟨(some 77), .bin .sub (.tmp 76) (.av (.val (.int .i64 1))), none, true⟩,
      ⟨(some 15), .mv (.tmp 77), none, true⟩])
  (.seq (.seq (.ops [⟨(some 79), .mv (.tmp 14), none, true⟩,
      ⟨(some 80), .mv (.tmp 15), none, true⟩,
      ⟨(some 81), .mv (.tmp 14), none, true⟩,
      ⟨(some 82), .mv (.tmp 15), none, true⟩,
      ⟨(some 83), .indexAddr 8 (.tmp 81) (.tmp 82), none, true⟩,
      ⟨(some 84), .load (some 8) (.tmp 83), none, true⟩,
      ⟨(some 85), .load (some 4) (.tmp 6), none, true⟩,
      ⟨(some 86), .mv (.tmp 3), none, true⟩,
      ⟨(some 87), .call (.av (.func 14 [])) [(.tmp 84), (.tmp 85), (.tmp 86)], none, true⟩,
      ⟨(some 78), .mv (.tmp 87), none, true⟩,
      ⟨(some 88), .extract 0 (.tmp 78), none, true⟩,
      ⟨(some 89), .extract 1 (.tmp 78), none, true⟩,
      ⟨(some 90), .indexAddr 8 (.tmp 79) (.tmp 80), none, true⟩,
      ⟨none, .store 8 (.tmp 90) (.tmp 88), none, true⟩,
      ⟨(some 11), .mv (.tmp 89), none, true⟩])
  (.seq (.ops [⟨(some 91), .mv (.tmp 11), none, true⟩,
      ⟨(some 92), .bin .neq (.tmp 91) (.av (.val (.int .i64 0))), none, true⟩])
  (.cond (.tmp 92)
    (.seq (.ops [⟨(some 93), .build [(.val (.slice none 0 0)), (.val (.slice none 0 0)), (.val (.slice none 0 0)), (.val (.slice none 0 0)), (.val (.slice none 0 0)), (.val (.slice none 0 0)), (.val (.int .i64 0)), (.val (.int .i64 0))] [], none, true⟩,
        ⟨(some 94), .mv (.tmp 11), none, true⟩,
        ⟨none, .store 8 (.tmp 8) (.tmp 93), none, true⟩,
        ⟨(some 9), .mv (.tmp 94), none, true⟩])
    (.ret))
    (.skip))))
  (.seq (.ops [⟨(some 95), .mv (.tmp 10), none, true⟩,
      ⟨(some 96), .fieldAddr 7 (.tmp 4), none, true⟩,
      ⟨(some 97), .load none (.tmp 96), none, true⟩,
      ⟨(some 98), .fieldAddr 1 (.tmp 6), none, true⟩,
      ⟨(some 99), .load none (.tmp 98), none, false⟩,
      ⟨(some 100), .bin .add (.tmp 97) (.tmp 99), none, true⟩,
      ⟨(some 101), .fieldAddr 0 (.tmp 4), none, true⟩,
      ⟨none, .store 1 (.tmp 101) (.tmp 95), none, false⟩,
      ⟨(some 102), .fieldAddr 7 (.tmp 4), none, true⟩,
      ⟨none, .store 1 (.tmp 102) (.tmp 100), none, true⟩])
  (.seq (.ops [⟨(some 103), .fieldAddr 1 (.tmp 4), none, true⟩,
      ⟨(some 104), .load none (.tmp 103), none, true⟩,
      ⟨(some 105), .call (.av (.func 27 [])) [(.tmp 104)], none, false⟩,
      ⟨(some 106), .fieldAddr 2 (.tmp 4), none, true⟩,
      ⟨(some 107), .load none (.tmp 106), none, false⟩,
      ⟨(some 108), .call (.av (.func 28 [])) [(.tmp 107)], none, false⟩,
      ⟨(some 109), .fieldAddr 4 (.tmp 4), none, true⟩,
      ⟨(some 110), .load none (.tmp 109), none, false⟩,
      ⟨(some 111), .call (.av (.func 29 [])) [(.tmp 110)], none, false⟩,
      ⟨(some 112), .fieldAddr 5 (.tmp 4), none, true⟩,
      ⟨(some 113), .load none (.tmp 112), none, false⟩,
      ⟨(some 114), .call (.av (.func 30 [])) [(.tmp 113)], none, true⟩,
      ⟨(some 115), .fieldAddr 1 (.tmp 4), none, true⟩,
      ⟨none, .store 1 (.tmp 115) (.tmp 105), none, true⟩,
      ⟨(some 116), .fieldAddr 2 (.tmp 4), none, true⟩,
      ⟨none, .store 1 (.tmp 116) (.tmp 108), none, true⟩,
      ⟨(some 117), .fieldAddr 4 (.tmp 4), none, true⟩,
      ⟨none, .store 1 (.tmp 117) (.tmp 111), none, true⟩,
      ⟨(some 118), .fieldAddr 5 (.tmp 4), none, true⟩,
      ⟨none, .store 1 (.tmp 118) (.tmp 114), none, true⟩])
  (.seq (.ops [⟨(some 119), .load (some 8) (.tmp 4), none, true⟩,
      ⟨none, .store 8 (.tmp 8) (.tmp 119), none, true⟩,
      ⟨(some 9), .mv (.av (.val (.int .i64 0))), none, true⟩])
  (.ret))))))))))))
theorem f_lv_out : cFunc Try.prog 11 = some ⟨120, c_lv_out, [.cell 8 (some 8), .tmp 9]⟩ := by kernel_rfl
/-- backstitch/backstitchref3.Rest: its code in AM. -/
def c_r_rest : ACode := .seq (.ops [⟨(some 4), .mv (.av (.val (.int .i64 0))), none, true⟩])
  (.seq (.ops [⟨(some 6), .mv (.tmp 0), none, true⟩,
      ⟨(some 7), .mv (.tmp 1), none, true⟩,
      ⟨(some 8), .bin .rem (.tmp 6) (.tmp 7), none, true⟩,
      ⟨(some 5), .mv (.tmp 8), none, true⟩])
  (.seq (.seq (.ops [⟨(some 9), .mv (.tmp 5), none, true⟩,
      ⟨(some 10), .bin .lss (.tmp 9) (.av (.val (.int .i64 0))), none, true⟩])
  (.cond (.tmp 10)
    (.ops [⟨(some 11), .mv (.tmp 5), none, true⟩,
        ⟨(some 12), .mv (.tmp 1), none, true⟩,
        ⟨(some 13), .bin .add (.tmp 11) (.tmp 12), none, true⟩,
        ⟨(some 5), .mv (.tmp 13), none, true⟩])
    (.skip)))
  (.seq (.ops [⟨(some 14), .mv (.tmp 5), none, true⟩,
      ⟨(some 4), .mv (.tmp 14), none, true⟩])
  (.ret))))
theorem f_r_rest : cFunc Try.prog 12 = some ⟨15, c_r_rest, [.tmp 4]⟩ := by kernel_rfl
/-- backstitch/backstitchkeep3.sameFrame: its code in AM. -/
def c_l_sameframe : ACode := .seq (.ops [⟨(some 2), .box 8 (.tmp 0), none, true⟩,
      ⟨(some 3), .box 8 (.tmp 1), none, true⟩,
      ⟨(some 4), .mv (.av (.val (.bool false))), none, true⟩])
  (.seq (.ops [⟨(some 5), .fieldAddr 0 (.tmp 2), none, true⟩,
      ⟨(some 6), .load none (.tmp 5), none, true⟩,
      ⟨(some 7), .fieldAddr 0 (.tmp 3), none, true⟩,
      ⟨(some 8), .load none (.tmp 7), none, true⟩,
      ⟨(some 9), .bin .eql (.tmp 6) (.tmp 8), none, true⟩,
      ⟨(some 10), .mv (.tmp 9), none, true⟩,
      ⟨(some 11), .fieldAddr 1 (.tmp 2), (some (10, true)), true⟩,
      ⟨(some 12), .load none (.tmp 11), (some (10, true)), true⟩,
      ⟨(some 13), .fieldAddr 1 (.tmp 3), (some (10, true)), true⟩,
      ⟨(some 14), .load none (.tmp 13), (some (10, true)), true⟩,
      ⟨(some 15), .bin .eql (.tmp 12) (.tmp 14), (some (10, true)), true⟩,
      ⟨(some 16), .pick (.tmp 10) (.tmp 15) (.av (.val (.bool false))), none, true⟩,
      ⟨(some 17), .mv (.tmp 16), none, true⟩,
      ⟨(some 18), .fieldAddr 2 (.tmp 2), (some (17, true)), true⟩,
      ⟨(some 19), .load none (.tmp 18), (some (17, true)), true⟩,
      ⟨(some 20), .fieldAddr 2 (.tmp 3), (some (17, true)), true⟩,
      ⟨(some 21), .load none (.tmp 20), (some (17, true)), true⟩,
      ⟨(some 22), .bin .eql (.tmp 19) (.tmp 21), (some (17, true)), true⟩,
      ⟨(some 23), .pick (.tmp 17) (.tmp 22) (.av (.val (.bool false))), none, true⟩,
      ⟨(some 24), .mv (.tmp 23), none, true⟩,
      ⟨(some 25), .fieldAddr 3 (.tmp 2), (some (24, true)), true⟩,
      ⟨(some 26), .load none (.tmp 25), (some (24, true)), true⟩,
      ⟨(some 27), .fieldAddr 3 (.tmp 3), (some (24, true)), true⟩,
      ⟨(some 28), .load none (.tmp 27), (some (24, true)), true⟩,
      ⟨(some 29), .bin .eql (.tmp 26) (.tmp 28), (some (24, true)), true⟩,
      ⟨(some 30), .pick (.tmp 24) (.tmp 29) (.av (.val (.bool false))), none, true⟩,
      ⟨(some 31), .mv (.tmp 30), none, true⟩,
      ⟨(some 32), .fieldAddr 4 (.tmp 2), (some (31, true)), true⟩,
      ⟨(some 33), .load (some 2) (.tmp 32), (some (31, true)), true⟩,
      ⟨(some 34), .fieldAddr 4 (.tmp 3), (some (31, true)), true⟩,
      ⟨(some 35), .load (some 2) (.tmp 34), (some (31, true)), true⟩,
      ⟨(some 36), .eqAgg false [0, 0] (.tmp 33) (.tmp 35), (some (31, true)), true⟩,
      ⟨(some 37), .pick (.tmp 31) (.tmp 36) (.av (.val (.bool false))), none, true⟩,
      ⟨(some 38), .mv (.tmp 37), none, true⟩,
      ⟨(some 39), .fieldAddr 6 (.tmp 2), (some (38, true)), true⟩,
      ⟨(some 40), .load none (.tmp 39), (some (38, true)), true⟩,
      ⟨(some 41), .fieldAddr 6 (.tmp 3), (some (38, true)), true⟩,
      ⟨(some 42), .load none (.tmp 41), (some (38, true)), true⟩,
      ⟨(some 43), .call (.av (.func 15 [])) [(.tmp 40), (.tmp 42)], (some (38, true)), true⟩,
      ⟨(some 44), .pick (.tmp 38) (.tmp 43) (.av (.val (.bool false))), none, true⟩,
      ⟨(some 45), .mv (.tmp 44), none, true⟩,
      ⟨(some 46), .fieldAddr 7 (.tmp 2), (some (45, true)), true⟩,
      ⟨(some 47), .load none (.tmp 46), (some (45, true)), true⟩,
      ⟨(some 48), .fieldAddr 7 (.tmp 3), (some (45, true)), true⟩,
      ⟨(some 49), .load none (.tmp 48), (some (45, true)), true⟩,
      ⟨(some 50), .call (.av (.func 31 [])) [(.tmp 47), (.tmp 49)], (some (45, true)), true⟩,
      ⟨(some 51), .pick (.tmp 45) (.tmp 50) (.av (.val (.bool false))), none, true⟩,
      ⟨(some 4), .mv (.tmp 51), none, true⟩])
  (.ret))
theorem f_l_sameframe : cFunc Try.prog 13 = some ⟨52, c_l_sameframe, [.tmp 4]⟩ := by kernel_rfl
/-- backstitch/leave.Frame: its code in AM. -/
def c_lv_frame : ACode := .seq (.ops [⟨(some 3), .box 8 (.tmp 0), none, true⟩,
      ⟨(some 4), .box 4 (.tmp 1), none, true⟩,
      ⟨(some 6), .zero [(.val (.int .i64 0)), (.val (.int .i64 0)), (.val (.int .i64 0)), (.val (.int .i64 0)), (.val (.int .i64 0)), (.val (.int .i64 0)), (.val (.slice none 0 0)), (.val (.slice none 0 0))], none, true⟩,
      ⟨(some 7), .mv (.av (.val (.int .i64 0))), none, true⟩])
  (.seq (.ops [⟨(some 12), .fieldAddr 6 (.tmp 3), none, true⟩,
      ⟨(some 13), .load none (.tmp 12), none, true⟩,
      ⟨(some 14), .call (.av (.func 30 [])) [(.tmp 13)], none, false⟩,
      ⟨(some 15), .fieldAddr 7 (.tmp 3), none, true⟩,
      ⟨(some 16), .load none (.tmp 15), none, false⟩,
      ⟨(some 17), .call (.av (.func 32 [])) [(.tmp 16)], none, true⟩,
      ⟨(some 18), .fieldAddr 6 (.tmp 3), none, true⟩,
      ⟨none, .store 1 (.tmp 18) (.tmp 14), none, true⟩,
      ⟨(some 19), .fieldAddr 7 (.tmp 3), none, true⟩,
      ⟨none, .store 1 (.tmp 19) (.tmp 17), none, true⟩])
  (.seq (.seq (.ops [⟨(some 20), .fieldAddr 2 (.tmp 4), none, true⟩,
      ⟨(some 21), .load none (.tmp 20), none, true⟩,
      ⟨(some 22), .len (.tmp 21), none, true⟩,
      ⟨(some 23), .mv (.av (.val (.int .i64 0))), none, true⟩])
  (rangeCode 0 1 24 23 22 59
    (.seq (.ops [⟨(some 25), .indexAddr 2 (.tmp 21) (.tmp 23), none, true⟩,
        ⟨(some 26), .load (some 2) (.tmp 25), none, true⟩,
        ⟨(some 9), .zero [(.val (.int .i64 0)), (.val (.int .i64 0))], none, true⟩,
        ⟨none, .store 2 (.tmp 9) (.tmp 26), none, true⟩])
    (.seq (.ops [⟨(some 28), .fieldAddr 1 (.tmp 9), none, true⟩,
        ⟨(some 29), .load none (.tmp 28), none, true⟩,
        ⟨(some 30), .lits 1 1 [(.val (.int .i64 0))] [(0, 1, (.tmp 29))], none, true⟩,
        ⟨(some 31), .mv (.tmp 2), none, true⟩,
        ⟨(some 32), .call (.av (.func 24 [])) [(.tmp 30), (.tmp 31)], none, true⟩,
        ⟨(some 27), .mv (.tmp 32), none, true⟩,
        ⟨(some 33), .extract 0 (.tmp 27), none, true⟩,
        ⟨(some 34), .extract 1 (.tmp 27), none, true⟩,
        ⟨(some 10), .mv (.tmp 33), none, true⟩,
        ⟨(some 11), .mv (.tmp 34), none, true⟩])
    (.seq (.seq (.ops [⟨(some 35), .mv (.tmp 11), none, true⟩,
        ⟨(some 36), .un .not (.tmp 35), none, true⟩,
        ⟨(some 37), .mv (.tmp 36), none, true⟩,
        ⟨(some 38), .fieldAddr 0 (.tmp 9), (some (37, false)), true⟩,
        ⟨(some 39), .load none (.tmp 38), (some (37, false)), true⟩,
        ⟨(some 40), .bin .lss (.tmp 39) (.av (.val (.int .i64 0))), (some (37, false)), true⟩,
        ⟨(some 41), .pick (.tmp 37) (.av (.val (.bool true))) (.tmp 40), none, true⟩,
        ⟨(some 42), .mv (.tmp 41), none, true⟩,
        ⟨(some 43), .fieldAddr 0 (.tmp 9), (some (42, false)), true⟩,
        ⟨(some 44), .load none (.tmp 43), (some (42, false)), true⟩,
        ⟨(some 45), .fieldAddr 6 (.tmp 3), (some (42, false)), true⟩,
        ⟨(some 46), .load none (.tmp 45), (some (42, false)), true⟩,
        ⟨(some 47), .len (.tmp 46), (some (42, false)), true⟩,
        ⟨(some 48), .bin .geq (.tmp 44) (.tmp 47), (some (42, false)), true⟩,
        ⟨(some 49), .pick (.tmp 42) (.av (.val (.bool true))) (.tmp 48), none, true⟩])
    (.cond (.tmp 49)
      (.seq (.ops [⟨(some 50), .build [(.val (.int .i64 0)), (.val (.int .i64 0)), (.val (.int .i64 0)), (.val (.int .i64 0)), (.val (.int .i64 0)), (.val (.int .i64 0)), (.val (.slice none 0 0)), (.val (.slice none 0 0))] [], none, true⟩,
          ⟨none, .store 8 (.tmp 6) (.tmp 50), none, true⟩,
          ⟨(some 7), .mv (.av (.val (.int .i64 3))), none, true⟩])
      (.ret))
      (.skip)))
    (.ops [⟨(some 51), .fieldAddr 6 (.tmp 3), none, true⟩,
        ⟨(some 52), .load none (.tmp 51), none, true⟩,
        ⟨(some 53), .fieldAddr 0 (.tmp 9), none, true⟩,
        ⟨(some 54), .load none (.tmp 53), none, true⟩,
        ⟨(some 55), .mv (.tmp 10), none, true⟩,
        ⟨(some 56), .indexAddr 2 (.tmp 55) (.av (.val (.int .i64 0))), none, true⟩,
        ⟨(some 57), .load (some 2) (.tmp 56), none, true⟩,
        ⟨(some 58), .indexAddr 2 (.tmp 52) (.tmp 54), none, true⟩,
        ⟨none, .store 2 (.tmp 58) (.tmp 57), none, true⟩]))))))
  (.seq (.ops [⟨(some 60), .fieldAddr 0 (.tmp 4), none, true⟩,
      ⟨(some 61), .load none (.tmp 60), none, true⟩,
      ⟨(some 62), .fieldAddr 1 (.tmp 3), none, true⟩,
      ⟨none, .store 1 (.tmp 62) (.tmp 61), none, true⟩])
  (.seq (.ops [⟨(some 63), .load (some 8) (.tmp 3), none, true⟩,
      ⟨none, .store 8 (.tmp 6) (.tmp 63), none, true⟩,
      ⟨(some 7), .mv (.av (.val (.int .i64 0))), none, true⟩])
  (.ret)))))
theorem f_lv_frame : cFunc Try.prog 14 = some ⟨64, c_lv_frame, [.cell 6 (some 8), .tmp 7]⟩ := by kernel_rfl
/-- backstitch/backstitchref3.Eq[backstitch/api.Val]: its code in AM. -/
def c_r_eqval : ACode := .seq (.ops [⟨(some 4), .mv (.av (.val (.bool false))), none, true⟩])
  (.seq (.seq (.ops [⟨(some 7), .mv (.tmp 0), none, true⟩,
      ⟨(some 8), .len (.tmp 7), none, true⟩,
      ⟨(some 9), .mv (.tmp 1), none, true⟩,
      ⟨(some 10), .len (.tmp 9), none, true⟩,
      ⟨(some 11), .bin .neq (.tmp 8) (.tmp 10), none, true⟩])
  (.cond (.tmp 11)
    (.seq (.ops [⟨(some 4), .mv (.av (.val (.bool false))), none, true⟩])
    (.ret))
    (.skip)))
  (.seq (.seq (.ops [⟨(some 12), .mv (.tmp 0), none, true⟩,
      ⟨(some 13), .len (.tmp 12), none, true⟩,
      ⟨(some 14), .mv (.av (.val (.int .i64 0))), none, true⟩])
  (rangeCode 0 1 15 14 13 25
    (.seq (.ops [⟨(some 16), .mv (.tmp 14), none, true⟩,
        ⟨(some 17), .indexAddr 2 (.tmp 12) (.tmp 14), none, true⟩,
        ⟨(some 18), .load (some 2) (.tmp 17), none, true⟩,
        ⟨(some 6), .zero [(.val (.int .i64 0)), (.val (.int .i64 0))], none, true⟩,
        ⟨(some 5), .mv (.tmp 16), none, true⟩,
        ⟨none, .store 2 (.tmp 6) (.tmp 18), none, true⟩])
    (.seq (.ops [⟨(some 19), .load (some 2) (.tmp 6), none, true⟩,
        ⟨(some 20), .mv (.tmp 1), none, true⟩,
        ⟨(some 21), .mv (.tmp 5), none, true⟩,
        ⟨(some 22), .indexAddr 2 (.tmp 20) (.tmp 21), none, true⟩,
        ⟨(some 23), .load (some 2) (.tmp 22), none, true⟩,
        ⟨(some 24), .eqAgg true [0, 0] (.tmp 19) (.tmp 23), none, true⟩])
    (.cond (.tmp 24)
      (.seq (.ops [⟨(some 4), .mv (.av (.val (.bool false))), none, true⟩])
      (.ret))
      (.skip))))))
  (.seq (.ops [⟨(some 4), .mv (.av (.val (.bool true))), none, true⟩])
  (.ret))))
theorem f_r_eqval : cFunc Try.prog 15 = some ⟨26, c_r_eqval, [.tmp 4]⟩ := by kernel_rfl
/-- backstitch/backstitchref3.Eq[string]: its code in AM. -/
def c_r_eqstring : ACode := .seq (.ops [⟨(some 4), .mv (.av (.val (.bool false))), none, true⟩])
  (.seq (.seq (.ops [⟨(some 7), .mv (.tmp 0), none, true⟩,
      ⟨(some 8), .len (.tmp 7), none, true⟩,
      ⟨(some 9), .mv (.tmp 1), none, true⟩,
      ⟨(some 10), .len (.tmp 9), none, true⟩,
      ⟨(some 11), .bin .neq (.tmp 8) (.tmp 10), none, true⟩])
  (.cond (.tmp 11)
    (.seq (.ops [⟨(some 4), .mv (.av (.val (.bool false))), none, true⟩])
    (.ret))
    (.skip)))
  (.seq (.seq (.ops [⟨(some 12), .mv (.tmp 0), none, true⟩,
      ⟨(some 13), .len (.tmp 12), none, true⟩,
      ⟨(some 14), .mv (.av (.val (.int .i64 0))), none, true⟩])
  (rangeCode 0 1 15 14 13 25
    (.seq (.ops [⟨(some 16), .mv (.tmp 14), none, true⟩,
        ⟨(some 17), .indexAddr 1 (.tmp 12) (.tmp 14), none, true⟩,
        ⟨(some 18), .load none (.tmp 17), none, true⟩,
        ⟨(some 5), .mv (.tmp 16), none, true⟩,
        ⟨(some 6), .mv (.tmp 18), none, true⟩])
    (.seq (.ops [⟨(some 19), .mv (.tmp 6), none, true⟩,
        ⟨(some 20), .mv (.tmp 1), none, true⟩,
        ⟨(some 21), .mv (.tmp 5), none, true⟩,
        ⟨(some 22), .indexAddr 1 (.tmp 20) (.tmp 21), none, true⟩,
        ⟨(some 23), .load none (.tmp 22), none, true⟩,
        ⟨(some 24), .bin .neq (.tmp 19) (.tmp 23), none, true⟩])
    (.cond (.tmp 24)
      (.seq (.ops [⟨(some 4), .mv (.av (.val (.bool false))), none, true⟩])
      (.ret))
      (.skip))))))
  (.seq (.ops [⟨(some 4), .mv (.av (.val (.bool true))), none, true⟩])
  (.ret))))
theorem f_r_eqstring : cFunc Try.prog 16 = some ⟨26, c_r_eqstring, [.tmp 4]⟩ := by kernel_rfl
/-- backstitch/backstitchref3.Eq[backstitch/api.Shape]: its code in AM. -/
def c_r_eqshape : ACode := .seq (.ops [⟨(some 4), .mv (.av (.val (.bool false))), none, true⟩])
  (.seq (.seq (.ops [⟨(some 7), .mv (.tmp 0), none, true⟩,
      ⟨(some 8), .len (.tmp 7), none, true⟩,
      ⟨(some 9), .mv (.tmp 1), none, true⟩,
      ⟨(some 10), .len (.tmp 9), none, true⟩,
      ⟨(some 11), .bin .neq (.tmp 8) (.tmp 10), none, true⟩])
  (.cond (.tmp 11)
    (.seq (.ops [⟨(some 4), .mv (.av (.val (.bool false))), none, true⟩])
    (.ret))
    (.skip)))
  (.seq (.seq (.ops [⟨(some 12), .mv (.tmp 0), none, true⟩,
      ⟨(some 13), .len (.tmp 12), none, true⟩,
      ⟨(some 14), .mv (.av (.val (.int .i64 0))), none, true⟩])
  (rangeCode 0 1 15 14 13 25
    (.seq (.ops [⟨(some 16), .mv (.tmp 14), none, true⟩,
        ⟨(some 17), .indexAddr 2 (.tmp 12) (.tmp 14), none, true⟩,
        ⟨(some 18), .load (some 2) (.tmp 17), none, true⟩,
        ⟨(some 6), .zero [(.val (.int .i64 0)), (.val (.int .i64 0))], none, true⟩,
        ⟨(some 5), .mv (.tmp 16), none, true⟩,
        ⟨none, .store 2 (.tmp 6) (.tmp 18), none, true⟩])
    (.seq (.ops [⟨(some 19), .load (some 2) (.tmp 6), none, true⟩,
        ⟨(some 20), .mv (.tmp 1), none, true⟩,
        ⟨(some 21), .mv (.tmp 5), none, true⟩,
        ⟨(some 22), .indexAddr 2 (.tmp 20) (.tmp 21), none, true⟩,
        ⟨(some 23), .load (some 2) (.tmp 22), none, true⟩,
        ⟨(some 24), .eqAgg true [0, 0] (.tmp 19) (.tmp 23), none, true⟩])
    (.cond (.tmp 24)
      (.seq (.ops [⟨(some 4), .mv (.av (.val (.bool false))), none, true⟩])
      (.ret))
      (.skip))))))
  (.seq (.ops [⟨(some 4), .mv (.av (.val (.bool true))), none, true⟩])
  (.ret))))
theorem f_r_eqshape : cFunc Try.prog 17 = some ⟨26, c_r_eqshape, [.tmp 4]⟩ := by kernel_rfl
/-- backstitch/backstitchref3.Eq[backstitch/api.End]: its code in AM. -/
def c_r_eqend : ACode := .seq (.ops [⟨(some 4), .mv (.av (.val (.bool false))), none, true⟩])
  (.seq (.seq (.ops [⟨(some 7), .mv (.tmp 0), none, true⟩,
      ⟨(some 8), .len (.tmp 7), none, true⟩,
      ⟨(some 9), .mv (.tmp 1), none, true⟩,
      ⟨(some 10), .len (.tmp 9), none, true⟩,
      ⟨(some 11), .bin .neq (.tmp 8) (.tmp 10), none, true⟩])
  (.cond (.tmp 11)
    (.seq (.ops [⟨(some 4), .mv (.av (.val (.bool false))), none, true⟩])
    (.ret))
    (.skip)))
  (.seq (.seq (.ops [⟨(some 12), .mv (.tmp 0), none, true⟩,
      ⟨(some 13), .len (.tmp 12), none, true⟩,
      ⟨(some 14), .mv (.av (.val (.int .i64 0))), none, true⟩])
  (rangeCode 0 1 15 14 13 25
    (.seq (.ops [⟨(some 16), .mv (.tmp 14), none, true⟩,
        ⟨(some 17), .indexAddr 3 (.tmp 12) (.tmp 14), none, true⟩,
        ⟨(some 18), .load (some 3) (.tmp 17), none, true⟩,
        ⟨(some 6), .zero [(.val (.int .i64 0)), (.val (.int .i64 0)), (.val (.int .i64 0))], none, true⟩,
        ⟨(some 5), .mv (.tmp 16), none, true⟩,
        ⟨none, .store 3 (.tmp 6) (.tmp 18), none, true⟩])
    (.seq (.ops [⟨(some 19), .load (some 3) (.tmp 6), none, true⟩,
        ⟨(some 20), .mv (.tmp 1), none, true⟩,
        ⟨(some 21), .mv (.tmp 5), none, true⟩,
        ⟨(some 22), .indexAddr 3 (.tmp 20) (.tmp 21), none, true⟩,
        ⟨(some 23), .load (some 3) (.tmp 22), none, true⟩,
        ⟨(some 24), .eqAgg true [0, 0, 0] (.tmp 19) (.tmp 23), none, true⟩])
    (.cond (.tmp 24)
      (.seq (.ops [⟨(some 4), .mv (.av (.val (.bool false))), none, true⟩])
      (.ret))
      (.skip))))))
  (.seq (.ops [⟨(some 4), .mv (.av (.val (.bool true))), none, true⟩])
  (.ret))))
theorem f_r_eqend : cFunc Try.prog 18 = some ⟨26, c_r_eqend, [.tmp 4]⟩ := by kernel_rfl
/-- backstitch/leave.own: its code in AM. -/
def c_lv_own : ACode := .seq (.ops [⟨(some 2), .mv (.av (.val (.slice none 0 0))), none, true⟩])
  (.seq (.ops [⟨(some 6), .mv (.tmp 0), none, true⟩,
      ⟨(some 7), .call (.av (.func 40 [])) [(.tmp 6)], none, true⟩,
      ⟨(some 3), .mv (.tmp 7), none, true⟩])
  (.seq (.seq (.ops [⟨(some 8), .mv (.tmp 0), none, true⟩,
      ⟨(some 9), .len (.tmp 8), none, true⟩,
      ⟨(some 10), .mv (.av (.val (.int .i64 0))), none, true⟩])
  (rangeCode 0 1 11 10 9 29
    (.seq (.ops [⟨(some 12), .mv (.tmp 10), none, true⟩,
        ⟨(some 13), .indexAddr 4 (.tmp 8) (.tmp 10), none, true⟩,
        ⟨(some 14), .load (some 4) (.tmp 13), none, true⟩,
        ⟨(some 5), .zero [(.val (.int .i64 0)), (.val (.int .i64 0)), (.val (.slice none 0 0)), (.val (.slice none 0 0))], none, true⟩,
        ⟨(some 4), .mv (.tmp 12), none, true⟩,
        ⟨none, .store 4 (.tmp 5) (.tmp 14), none, true⟩])
    (.ops [⟨(some 15), .mv (.tmp 3), none, true⟩,
        ⟨(some 16), .mv (.tmp 4), none, true⟩,
        ⟨(some 17), .mv (.tmp 3), none, true⟩,
        ⟨(some 18), .mv (.tmp 4), none, true⟩,
        ⟨(some 19), .fieldAddr 2 (.tmp 5), none, true⟩,
        ⟨(some 20), .load none (.tmp 19), none, true⟩,
        ⟨(some 21), .call (.av (.func 30 [])) [(.tmp 20)], none, false⟩,
        ⟨(some 22), .fieldAddr 3 (.tmp 5), none, true⟩,
        ⟨(some 23), .load none (.tmp 22), none, false⟩,
        ⟨(some 24), .call (.av (.func 26 [])) [(.tmp 23)], none, true⟩,
        ⟨(some 25), .indexAddr 4 (.tmp 15) (.tmp 16), none, true⟩,
        ⟨(some 26), .fieldAddr 2 (.tmp 25), none, true⟩,
        ⟨none, .store 1 (.tmp 26) (.tmp 21), none, true⟩,
        ⟨(some 27), .indexAddr 4 (.tmp 17) (.tmp 18), none, true⟩,
        ⟨(some 28), .fieldAddr 3 (.tmp 27), none, true⟩,
        ⟨none, .store 1 (.tmp 28) (.tmp 24), none, true⟩]))))
  (.seq (.ops [⟨(some 30), .mv (.tmp 3), none, true⟩,
      ⟨(some 2), .mv (.tmp 30), none, true⟩])
  (.ret))))
theorem f_lv_own : cFunc Try.prog 23 = some ⟨31, c_lv_own, [.tmp 2]⟩ := by kernel_rfl
/-- backstitch/leave.told: its code in AM. -/
def c_lv_told : ACode := .seq (.ops [⟨(some 4), .mv (.av (.val (.slice none 0 0))), none, true⟩,
      ⟨(some 5), .mv (.av (.val (.bool false))), none, true⟩])
  (.seq (.ops [⟨(some 6), .mv (.av (.val (.slice none 0 0))), none, true⟩])
  (.seq (.seq (.ops [⟨(some 9), .mv (.tmp 0), none, true⟩,
      ⟨(some 10), .len (.tmp 9), none, true⟩,
      ⟨(some 11), .mv (.av (.val (.int .i64 0))), none, true⟩])
  (rangeCode 0 1 12 11 10 30
    (.seq (.ops [⟨(some 13), .indexAddr 1 (.tmp 9) (.tmp 11), none, true⟩,
        ⟨(some 14), .load none (.tmp 13), none, true⟩,
        ⟨(some 8), .mv (.tmp 14), none, true⟩])
    (.seq (.seq (.ops [⟨(some 15), .mv (.tmp 8), none, true⟩,
        ⟨(some 16), .bin .lss (.tmp 15) (.av (.val (.int .i64 0))), none, true⟩,
        ⟨(some 17), .mv (.tmp 16), none, true⟩,
        ⟨(some 18), .mv (.tmp 8), (some (17, false)), true⟩,
        ⟨(some 19), .mv (.tmp 1), (some (17, false)), true⟩,
        ⟨(some 20), .len (.tmp 19), (some (17, false)), true⟩,
        ⟨(some 21), .bin .geq (.tmp 18) (.tmp 20), (some (17, false)), true⟩,
        ⟨(some 22), .pick (.tmp 17) (.av (.val (.bool true))) (.tmp 21), none, true⟩])
    (.cond (.tmp 22)
      (.seq (.ops [⟨(some 4), .mv (.av (.val (.slice none 0 0))), none, true⟩,
          ⟨(some 5), .mv (.av (.val (.bool false))), none, true⟩])
      (.ret))
      (.skip)))
    (.ops [⟨(some 23), .mv (.tmp 6), none, true⟩,
        ⟨(some 24), .mv (.tmp 1), none, true⟩,
        ⟨(some 25), .mv (.tmp 8), none, true⟩,
        ⟨(some 26), .indexAddr 2 (.tmp 24) (.tmp 25), none, true⟩,
        ⟨(some 27), .load (some 2) (.tmp 26), none, true⟩,
        ⟨(some 28), .lits 2 1 [(.val (.int .i64 0)), (.val (.int .i64 0))] [(0, 2, (.tmp 27))], none, true⟩,
        ⟨(some 29), .append 2 16 (.tmp 23) (.tmp 28), none, true⟩,
        ⟨(some 6), .mv (.tmp 29), none, true⟩])))))
  (.seq (.ops [⟨(some 31), .mv (.tmp 6), none, true⟩,
      ⟨(some 4), .mv (.tmp 31), none, true⟩,
      ⟨(some 5), .mv (.av (.val (.bool true))), none, true⟩])
  (.ret))))
theorem f_lv_told : cFunc Try.prog 24 = some ⟨32, c_lv_told, [.tmp 4, .tmp 5]⟩ := by kernel_rfl
/-- slices.Clone[[]backstitch/api.Thread,backstitch/api.Thread]: its code in AM. -/
def c_s_clthread : ACode := .seq (.ops [⟨(some 2), .mv (.av (.val (.slice none 0 0))), none, true⟩])
  (.seq (.seq (.ops [⟨(some 3), .mv (.tmp 0), none, true⟩,
      ⟨(some 4), .eqNil false 0 (.tmp 3), none, true⟩])
  (.cond (.tmp 4)
    (.seq (.ops [⟨(some 2), .mv (.av (.val (.slice none 0 0))), none, true⟩])
    (.ret))
    (.skip)))
  (.seq (.ops [⟨(some 5), .lits 5 0 [] [], none, true⟩,
      ⟨(some 6), .mv (.tmp 0), none, true⟩,
      ⟨(some 7), .append 5 56 (.tmp 5) (.tmp 6), none, true⟩,
      ⟨(some 2), .mv (.tmp 7), none, true⟩])
  (.ret)))
theorem f_s_clthread : cFunc Try.prog 25 = some ⟨8, c_s_clthread, [.tmp 2]⟩ := by kernel_rfl
/-- backstitch/leave.frames: its code in AM. -/
def c_lv_frames : ACode := .seq (.ops [⟨(some 2), .mv (.av (.val (.slice none 0 0))), none, true⟩])
  (.seq (.ops [⟨(some 6), .mv (.tmp 0), none, true⟩,
      ⟨(some 7), .call (.av (.func 41 [])) [(.tmp 6)], none, true⟩,
      ⟨(some 3), .mv (.tmp 7), none, true⟩])
  (.seq (.seq (.ops [⟨(some 8), .mv (.tmp 0), none, true⟩,
      ⟨(some 9), .len (.tmp 8), none, true⟩,
      ⟨(some 10), .mv (.av (.val (.int .i64 0))), none, true⟩])
  (rangeCode 0 1 11 10 9 29
    (.seq (.ops [⟨(some 12), .mv (.tmp 10), none, true⟩,
        ⟨(some 13), .indexAddr 8 (.tmp 8) (.tmp 10), none, true⟩,
        ⟨(some 14), .load (some 8) (.tmp 13), none, true⟩,
        ⟨(some 5), .zero [(.val (.int .i64 0)), (.val (.int .i64 0)), (.val (.int .i64 0)), (.val (.int .i64 0)), (.val (.int .i64 0)), (.val (.int .i64 0)), (.val (.slice none 0 0)), (.val (.slice none 0 0))], none, true⟩,
        ⟨(some 4), .mv (.tmp 12), none, true⟩,
        ⟨none, .store 8 (.tmp 5) (.tmp 14), none, true⟩])
    (.ops [⟨(some 15), .mv (.tmp 3), none, true⟩,
        ⟨(some 16), .mv (.tmp 4), none, true⟩,
        ⟨(some 17), .mv (.tmp 3), none, true⟩,
        ⟨(some 18), .mv (.tmp 4), none, true⟩,
        ⟨(some 19), .fieldAddr 6 (.tmp 5), none, true⟩,
        ⟨(some 20), .load none (.tmp 19), none, true⟩,
        ⟨(some 21), .call (.av (.func 30 [])) [(.tmp 20)], none, false⟩,
        ⟨(some 22), .fieldAddr 7 (.tmp 5), none, true⟩,
        ⟨(some 23), .load none (.tmp 22), none, false⟩,
        ⟨(some 24), .call (.av (.func 32 [])) [(.tmp 23)], none, true⟩,
        ⟨(some 25), .indexAddr 8 (.tmp 15) (.tmp 16), none, true⟩,
        ⟨(some 26), .fieldAddr 6 (.tmp 25), none, true⟩,
        ⟨none, .store 1 (.tmp 26) (.tmp 21), none, true⟩,
        ⟨(some 27), .indexAddr 8 (.tmp 17) (.tmp 18), none, true⟩,
        ⟨(some 28), .fieldAddr 7 (.tmp 27), none, true⟩,
        ⟨none, .store 1 (.tmp 28) (.tmp 24), none, true⟩]))))
  (.seq (.ops [⟨(some 30), .mv (.tmp 3), none, true⟩,
      ⟨(some 2), .mv (.tmp 30), none, true⟩])
  (.ret))))
theorem f_lv_frames : cFunc Try.prog 26 = some ⟨31, c_lv_frames, [.tmp 2]⟩ := by kernel_rfl
/-- slices.Clone[[]backstitch/api.Shape,backstitch/api.Shape]: its code in AM. -/
def c_s_clshape : ACode := .seq (.ops [⟨(some 2), .mv (.av (.val (.slice none 0 0))), none, true⟩])
  (.seq (.seq (.ops [⟨(some 3), .mv (.tmp 0), none, true⟩,
      ⟨(some 4), .eqNil false 0 (.tmp 3), none, true⟩])
  (.cond (.tmp 4)
    (.seq (.ops [⟨(some 2), .mv (.av (.val (.slice none 0 0))), none, true⟩])
    (.ret))
    (.skip)))
  (.seq (.ops [⟨(some 5), .lits 2 0 [] [], none, true⟩,
      ⟨(some 6), .mv (.tmp 0), none, true⟩,
      ⟨(some 7), .append 2 16 (.tmp 5) (.tmp 6), none, true⟩,
      ⟨(some 2), .mv (.tmp 7), none, true⟩])
  (.ret)))
theorem f_s_clshape : cFunc Try.prog 27 = some ⟨8, c_s_clshape, [.tmp 2]⟩ := by kernel_rfl
/-- slices.Clone[[]string,string]: its code in AM. -/
def c_s_clstring : ACode := .seq (.ops [⟨(some 2), .mv (.av (.val (.slice none 0 0))), none, true⟩])
  (.seq (.seq (.ops [⟨(some 3), .mv (.tmp 0), none, true⟩,
      ⟨(some 4), .eqNil false 0 (.tmp 3), none, true⟩])
  (.cond (.tmp 4)
    (.seq (.ops [⟨(some 2), .mv (.av (.val (.slice none 0 0))), none, true⟩])
    (.ret))
    (.skip)))
  (.seq (.ops [⟨(some 5), .lits 1 0 [] [], none, true⟩,
      ⟨(some 6), .mv (.tmp 0), none, true⟩,
      ⟨(some 7), .append 1 16 (.tmp 5) (.tmp 6), none, true⟩,
      ⟨(some 2), .mv (.tmp 7), none, true⟩])
  (.ret)))
theorem f_s_clstring : cFunc Try.prog 28 = some ⟨8, c_s_clstring, [.tmp 2]⟩ := by kernel_rfl
/-- slices.Clone[[]backstitch/api.End,backstitch/api.End]: its code in AM. -/
def c_s_clend : ACode := .seq (.ops [⟨(some 2), .mv (.av (.val (.slice none 0 0))), none, true⟩])
  (.seq (.seq (.ops [⟨(some 3), .mv (.tmp 0), none, true⟩,
      ⟨(some 4), .eqNil false 0 (.tmp 3), none, true⟩])
  (.cond (.tmp 4)
    (.seq (.ops [⟨(some 2), .mv (.av (.val (.slice none 0 0))), none, true⟩])
    (.ret))
    (.skip)))
  (.seq (.ops [⟨(some 5), .lits 3 0 [] [], none, true⟩,
      ⟨(some 6), .mv (.tmp 0), none, true⟩,
      ⟨(some 7), .append 3 24 (.tmp 5) (.tmp 6), none, true⟩,
      ⟨(some 2), .mv (.tmp 7), none, true⟩])
  (.ret)))
theorem f_s_clend : cFunc Try.prog 29 = some ⟨8, c_s_clend, [.tmp 2]⟩ := by kernel_rfl
/-- slices.Clone[[]backstitch/api.Val,backstitch/api.Val]: its code in AM. -/
def c_s_clval : ACode := .seq (.ops [⟨(some 2), .mv (.av (.val (.slice none 0 0))), none, true⟩])
  (.seq (.seq (.ops [⟨(some 3), .mv (.tmp 0), none, true⟩,
      ⟨(some 4), .eqNil false 0 (.tmp 3), none, true⟩])
  (.cond (.tmp 4)
    (.seq (.ops [⟨(some 2), .mv (.av (.val (.slice none 0 0))), none, true⟩])
    (.ret))
    (.skip)))
  (.seq (.ops [⟨(some 5), .lits 2 0 [] [], none, true⟩,
      ⟨(some 6), .mv (.tmp 0), none, true⟩,
      ⟨(some 7), .append 2 16 (.tmp 5) (.tmp 6), none, true⟩,
      ⟨(some 2), .mv (.tmp 7), none, true⟩])
  (.ret)))
theorem f_s_clval : cFunc Try.prog 30 = some ⟨8, c_s_clval, [.tmp 2]⟩ := by kernel_rfl
/-- backstitch/backstitchref3.Eq[backstitch/api.Try]: its code in AM. -/
def c_r_eqtry : ACode := .seq (.ops [⟨(some 4), .mv (.av (.val (.bool false))), none, true⟩])
  (.seq (.seq (.ops [⟨(some 7), .mv (.tmp 0), none, true⟩,
      ⟨(some 8), .len (.tmp 7), none, true⟩,
      ⟨(some 9), .mv (.tmp 1), none, true⟩,
      ⟨(some 10), .len (.tmp 9), none, true⟩,
      ⟨(some 11), .bin .neq (.tmp 8) (.tmp 10), none, true⟩])
  (.cond (.tmp 11)
    (.seq (.ops [⟨(some 4), .mv (.av (.val (.bool false))), none, true⟩])
    (.ret))
    (.skip)))
  (.seq (.seq (.ops [⟨(some 12), .mv (.tmp 0), none, true⟩,
      ⟨(some 13), .len (.tmp 12), none, true⟩,
      ⟨(some 14), .mv (.av (.val (.int .i64 0))), none, true⟩])
  (rangeCode 0 1 15 14 13 25
    (.seq (.ops [⟨(some 16), .mv (.tmp 14), none, true⟩,
        ⟨(some 17), .indexAddr 2 (.tmp 12) (.tmp 14), none, true⟩,
        ⟨(some 18), .load (some 2) (.tmp 17), none, true⟩,
        ⟨(some 6), .zero [(.val (.int .i64 0)), (.val (.int .i64 0))], none, true⟩,
        ⟨(some 5), .mv (.tmp 16), none, true⟩,
        ⟨none, .store 2 (.tmp 6) (.tmp 18), none, true⟩])
    (.seq (.ops [⟨(some 19), .load (some 2) (.tmp 6), none, true⟩,
        ⟨(some 20), .mv (.tmp 1), none, true⟩,
        ⟨(some 21), .mv (.tmp 5), none, true⟩,
        ⟨(some 22), .indexAddr 2 (.tmp 20) (.tmp 21), none, true⟩,
        ⟨(some 23), .load (some 2) (.tmp 22), none, true⟩,
        ⟨(some 24), .eqAgg true [0, 0] (.tmp 19) (.tmp 23), none, true⟩])
    (.cond (.tmp 24)
      (.seq (.ops [⟨(some 4), .mv (.av (.val (.bool false))), none, true⟩])
      (.ret))
      (.skip))))))
  (.seq (.ops [⟨(some 4), .mv (.av (.val (.bool true))), none, true⟩])
  (.ret))))
theorem f_r_eqtry : cFunc Try.prog 31 = some ⟨26, c_r_eqtry, [.tmp 4]⟩ := by kernel_rfl
/-- slices.Clone[[]backstitch/api.Try,backstitch/api.Try]: its code in AM. -/
def c_s_cltry : ACode := .seq (.ops [⟨(some 2), .mv (.av (.val (.slice none 0 0))), none, true⟩])
  (.seq (.seq (.ops [⟨(some 3), .mv (.tmp 0), none, true⟩,
      ⟨(some 4), .eqNil false 0 (.tmp 3), none, true⟩])
  (.cond (.tmp 4)
    (.seq (.ops [⟨(some 2), .mv (.av (.val (.slice none 0 0))), none, true⟩])
    (.ret))
    (.skip)))
  (.seq (.ops [⟨(some 5), .lits 2 0 [] [], none, true⟩,
      ⟨(some 6), .mv (.tmp 0), none, true⟩,
      ⟨(some 7), .append 2 16 (.tmp 5) (.tmp 6), none, true⟩,
      ⟨(some 2), .mv (.tmp 7), none, true⟩])
  (.ret)))
theorem f_s_cltry : cFunc Try.prog 32 = some ⟨8, c_s_cltry, [.tmp 2]⟩ := by kernel_rfl
/-- slices.Clone[[]backstitch/api.Cell,backstitch/api.Cell]: its code in AM. -/
def c_s_clcell : ACode := .seq (.ops [⟨(some 2), .mv (.av (.val (.slice none 0 0))), none, true⟩])
  (.seq (.seq (.ops [⟨(some 3), .mv (.tmp 0), none, true⟩,
      ⟨(some 4), .eqNil false 0 (.tmp 3), none, true⟩])
  (.cond (.tmp 4)
    (.seq (.ops [⟨(some 2), .mv (.av (.val (.slice none 0 0))), none, true⟩])
    (.ret))
    (.skip)))
  (.seq (.ops [⟨(some 5), .lits 4 0 [] [], none, true⟩,
      ⟨(some 6), .mv (.tmp 0), none, true⟩,
      ⟨(some 7), .append 4 64 (.tmp 5) (.tmp 6), none, true⟩,
      ⟨(some 2), .mv (.tmp 7), none, true⟩])
  (.ret)))
theorem f_s_clcell : cFunc Try.prog 40 = some ⟨8, c_s_clcell, [.tmp 2]⟩ := by kernel_rfl
/-- slices.Clone[[]backstitch/api.Frame,backstitch/api.Frame]: its code in AM. -/
def c_s_clframe : ACode := .seq (.ops [⟨(some 2), .mv (.av (.val (.slice none 0 0))), none, true⟩])
  (.seq (.seq (.ops [⟨(some 3), .mv (.tmp 0), none, true⟩,
      ⟨(some 4), .eqNil false 0 (.tmp 3), none, true⟩])
  (.cond (.tmp 4)
    (.seq (.ops [⟨(some 2), .mv (.av (.val (.slice none 0 0))), none, true⟩])
    (.ret))
    (.skip)))
  (.seq (.ops [⟨(some 5), .lits 8 0 [] [], none, true⟩,
      ⟨(some 6), .mv (.tmp 0), none, true⟩,
      ⟨(some 7), .append 8 96 (.tmp 5) (.tmp 6), none, true⟩,
      ⟨(some 2), .mv (.tmp 7), none, true⟩])
  (.ret)))
theorem f_s_clframe : cFunc Try.prog 41 = some ⟨8, c_s_clframe, [.tmp 2]⟩ := by kernel_rfl
end Go.Proofs.Ytmecaddjeljliaa

namespace Go.Proofs.Ytmecaddjeljliaa
open Go Go.RowKit
set_option linter.unusedVariables false
set_option linter.unusedSimpArgs false
abbrev Fr := Int × Int × Int × Int × (Int × Int) × List (Int × Int) × List (Int × Int)
abbrev eP (p : Int × Int) : List ZV := [Z64 p.1, Z64 p.2]
abbrev eF (f : Fr) : List ZV := [Z64 f.1, Z64 f.2.1, Z64 f.2.2.1, Z64 f.2.2.2.1, Z64 f.2.2.2.2.1.1, Z64 f.2.2.2.2.1.2, .fz 2 false (f.2.2.2.2.2.1.map eP), .fz 2 false (f.2.2.2.2.2.2.map eP)]
abbrev Cl := Int × Int × List (Int × Int) × List Fr
abbrev eC (c : Cl) : List ZV := [Z64 c.1, Z64 c.2.1, .fz 2 false (c.2.2.1.map eP), .fz 8 false (c.2.2.2.map eF)]
variable {tb : List (FuncId × Bool)} {L : Nat → Bool} {H : ZH} {K : ZV → ZH → Prop}
theorem same2 {a b c d : Int} : sameZ [0, 0] [Z64 a, Z64 b] [Z64 c, Z64 d] = some (decide (a = c) && decide (b = d)) := by simp [sameZ, sameV]
set_option maxHeartbeats 1000000 in
theorem eqval_z {exa exb : Bool} {a b : List (Int × Int)} (hl1 : a.length ≤ 1000000000000000) (hl2 : b.length ≤ 1000000000000000) (hK : K (ZBo (decide (a = b))) H) :
    ZC (constX tb) (cFunc Try.prog) 15 [.fz 2 exa (a.map eP), .fz 2 exb (b.map eP)] L H K := by
  refine ZC.enterL Gh.no (constX_none) f_r_eqval (by simp) fun hL => ?_
  simp only [c_r_eqval]
  by_cases hlen : a.length = b.length
  · have hN : ((a.length : Int) = (b.length : Int)) := by omega
    have hlen := Lib.hid hlen
    have fin0 : ∀ X z, refs H.length z = true → K z H → Fin H z (H ++ X) K := fun X z hz k2 => Fin.trunc (Mods.ext H X) hz (by rw [List.take_left]; exact k2)
    have F0 := Lib.hid fin0
    have HK := Lib.hid hK
    clear fin0 hK
    have hll : (a.length : Int) = b.length := hN
    repeat' (first | (simp only [zmPack, zfree, owners, Nat.reduceLT, List.filter_cons, List.filter_nil, List.contains_cons, List.contains_nil, Nat.reduceBEq, Bool.or_false, Bool.or_true, Bool.false_or, Bool.true_or, BEq.rfl, chunk, setAt, List.lookup_cons, List.lookup_nil, ZV.val.injEq, ZV.ptr.injEq, ZV.own.injEq, ZV.fz.injEq, ZV.func.injEq, ZV.tuple.injEq, ZV.agg.injEq, ZB.box.injEq, ZB.grow.injEq, Bool.not_eq_false', Prod.mk.injEq, and_assoc, decide_false, decide_true, Bool.not_false, Bool.not_true, Bool.true_eq_false, Bool.false_eq_true, exists_false, Bool.not_eq_false, Bool.not_not, Value.bool.injEq, Value.int.injEq, Option.some.injEq, exists_eq_left', exists_eq_left, exists_and_left, exists_and_right, and_true, true_and, decide_eq_true_eq, decide_eq_false_iff_not, if_true, if_false, Bool.not_eq_true', beq_true, beq_false, ne_eq, not_true_eq_false, not_false_eq_true, reduceCtorEq, List.getD_cons_zero, List.getD_cons_succ, List.getD_nil, List.map_cons, List.map_nil, List.append_nil, Nat.reduceEqDiff, reduceIte, ite_true, ite_false, or_true, true_or, or_false, false_or, true_imp_iff, false_imp_iff, implies_true, imp_false, and_self, imp_self, and_false, false_and, forall_const, take_map_all, Nat.le_refl, Nat.reduceMul, Nat.reduceSub, List.length_cons, List.length_nil, List.length_map, List.length_set, List.all_cons, List.all_nil, Bool.and_self, Option.map_none, Option.map_some, List.set_cons_zero, List.set_cons_succ, Nat.lt_add_one, List.append_assoc, List.cons_append, List.nil_append, List.append_nil, List.length_append, List.take_zero, List.take_succ_cons, List.take_nil, List.drop_zero, List.drop_succ_cons, List.drop_nil, List.getElem?_cons_zero, List.getElem?_cons_succ, List.getElem?_map, Nat.reduceAdd, Nat.reduceLeDiff, Nat.add_eq_zero_iff, and_self, Nat.zero_add, Nat.add_zero, Nat.mul_one, Nat.one_mul, List.flatten_cons, List.flatten_nil, hN, *]) | (simp only [zgoO, zgoG, zO_nil, zthen_normal, zgoC]) | (with_reducible apply And.intro) | (with_reducible intro _))
    refine zW_forK [(1, .fz 2 exb (b.map eP)), (12, .fz 2 exa (a.map eP))] b.length (fun k s' h' => ∃ X, h' = H ++ X ∧ a.take k = b.take k) (by omega) ⟨rfl, rfl, rfl, rfl, rfl, rfl⟩ rfl rfl (by repeat' (first | exact trivial | (refine ⟨rfl, ?_⟩) | (refine ⟨by simp only [zupd_at, Nat.reduceEqDiff, reduceIte]; assumption, ?_⟩))) rfl rfl (by decide) ⟨[], by simp, by simp⟩ ?_ ?_
    · rintro k s' h' hk ⟨X, rfl, hyes⟩ hi hl ⟨f1, f12, -⟩
      have hka : k < a.length := by rw [hlen.out]; exact hk
      have hxa : a[k]? = some a[k] := List.getElem?_eq_getElem hka
      have hxb : b[k]? = some b[k] := List.getElem?_eq_getElem hk
      have hya0 : a.take (k + 1) = b.take (k + 1) ↔ a[k] = b[k] := by
        rw [List.take_succ_eq_append_getElem hka, List.take_succ_eq_append_getElem hk, hyes, List.append_cancel_left_eq]; simp
      have hya := Lib.hid hya0
      have hno0 : a[k] ≠ b[k] → decide (a = b) = false := fun he => decide_eq_false fun e => he (by subst e; rfl)
      have hno := Lib.hid hno0
      clear hya0 hno0
      obtain ⟨p, hp⟩ : ∃ p, p = a[k] := ⟨_, rfl⟩
      obtain ⟨q, hq⟩ : ∃ q, q = b[k] := ⟨_, rfl⟩
      rw [← hp] at hxa hya hno
      rw [← hq] at hxb hya hno
      obtain ⟨p1, p2⟩ := p
      obtain ⟨q1, q2⟩ := q
      have a0 : ∀ A : ZB, (H ++ (X ++ [A]))[H.length + X.length]? = some A := fun A => by rw [← List.append_assoc, ← List.length_append]; exact H_at0 ..
      have s0 : ∀ A B : ZB, (H ++ (X ++ [A])).set (H.length + X.length) B = H ++ (X ++ [B]) := fun A B => by rw [← List.append_assoc, ← List.length_append, List.set_append_right _ _ (Nat.le_refl _), Nat.sub_self, List.append_assoc]; rfl
      have lx : L (H.length + X.length) = true := hL _
      clear hp hq hyes hll hN
      by_cases h1 : p1 = q1
      · by_cases h2 : p2 = q2
        · have fin : a.take (k + 1) = b.take (k + 1) := hya.out.2 (by rw [h1, h2])
          have HF := Lib.hid fin
          clear fin
          subst h1 h2
          have hs : sameZ [0, 0] [Z64 p1, Z64 p2] [Z64 p1, Z64 p2] = some true := by rw [same2]; simp
          repeat' (first | (simp only [zmPack, zfree, owners, Nat.reduceLT, List.filter_cons, List.filter_nil, List.contains_cons, List.contains_nil, Nat.reduceBEq, Bool.or_false, Bool.or_true, Bool.false_or, Bool.true_or, BEq.rfl, chunk, setAt, List.lookup_cons, List.lookup_nil, ZV.val.injEq, ZV.ptr.injEq, ZV.own.injEq, ZV.fz.injEq, ZV.func.injEq, ZV.tuple.injEq, ZV.agg.injEq, ZB.box.injEq, ZB.grow.injEq, Bool.not_eq_false', Prod.mk.injEq, and_assoc, decide_false, decide_true, Bool.not_false, Bool.not_true, Bool.true_eq_false, Bool.false_eq_true, exists_false, Bool.not_eq_false, Bool.not_not, Value.bool.injEq, Value.int.injEq, Option.some.injEq, exists_eq_left', exists_eq_left, exists_and_left, exists_and_right, and_true, true_and, decide_eq_true_eq, decide_eq_false_iff_not, if_true, if_false, Bool.not_eq_true', beq_true, beq_false, ne_eq, not_true_eq_false, not_false_eq_true, reduceCtorEq, List.getD_cons_zero, List.getD_cons_succ, List.getD_nil, List.map_cons, List.map_nil, List.append_nil, Nat.reduceEqDiff, reduceIte, ite_true, ite_false, or_true, true_or, or_false, false_or, true_imp_iff, false_imp_iff, implies_true, imp_false, and_self, imp_self, and_false, false_and, forall_const, take_map_all, Nat.le_refl, Nat.reduceMul, Nat.reduceSub, List.length_cons, List.length_nil, List.length_map, List.length_set, List.all_cons, List.all_nil, Bool.and_self, Option.map_none, Option.map_some, List.set_cons_zero, List.set_cons_succ, Nat.lt_add_one, List.append_assoc, List.cons_append, List.nil_append, List.append_nil, List.length_append, List.take_zero, List.take_succ_cons, List.take_nil, List.drop_zero, List.drop_succ_cons, List.drop_nil, List.getElem?_cons_zero, List.getElem?_cons_succ, List.getElem?_map, Nat.reduceAdd, Nat.reduceLeDiff, Nat.add_eq_zero_iff, and_self, Nat.zero_add, Nat.add_zero, Nat.mul_one, Nat.one_mul, List.flatten_cons, List.flatten_nil, hxa, hxb, a0, s0, lx, hs, *]) | (simp only [zgoO, zgoG, zO_nil, zthen_normal, zgoC]) | (with_reducible apply And.intro) | (with_reducible intro _))
          · exact ⟨_, rfl⟩
          · exact HF.out
        · have hy := hno.out (by simp [h2])
          have hk2 := HK.out
          rw [hy] at hk2
          have fin := fun X => F0.out X _ rfl hk2
          clear hk2 hy
          have hs : sameZ [0, 0] [Z64 p1, Z64 p2] [Z64 q1, Z64 q2] = some false := by rw [same2]; simp [h2]
          subst h1
          repeat' (first | (simp only [zmPack, zfree, owners, Nat.reduceLT, List.filter_cons, List.filter_nil, List.contains_cons, List.contains_nil, Nat.reduceBEq, Bool.or_false, Bool.or_true, Bool.false_or, Bool.true_or, BEq.rfl, chunk, setAt, List.lookup_cons, List.lookup_nil, ZV.val.injEq, ZV.ptr.injEq, ZV.own.injEq, ZV.fz.injEq, ZV.func.injEq, ZV.tuple.injEq, ZV.agg.injEq, ZB.box.injEq, ZB.grow.injEq, Bool.not_eq_false', Prod.mk.injEq, and_assoc, decide_false, decide_true, Bool.not_false, Bool.not_true, Bool.true_eq_false, Bool.false_eq_true, exists_false, Bool.not_eq_false, Bool.not_not, Value.bool.injEq, Value.int.injEq, Option.some.injEq, exists_eq_left', exists_eq_left, exists_and_left, exists_and_right, and_true, true_and, decide_eq_true_eq, decide_eq_false_iff_not, if_true, if_false, Bool.not_eq_true', beq_true, beq_false, ne_eq, not_true_eq_false, not_false_eq_true, reduceCtorEq, List.getD_cons_zero, List.getD_cons_succ, List.getD_nil, List.map_cons, List.map_nil, List.append_nil, Nat.reduceEqDiff, reduceIte, ite_true, ite_false, or_true, true_or, or_false, false_or, true_imp_iff, false_imp_iff, implies_true, imp_false, and_self, imp_self, and_false, false_and, forall_const, take_map_all, Nat.le_refl, Nat.reduceMul, Nat.reduceSub, List.length_cons, List.length_nil, List.length_map, List.length_set, List.all_cons, List.all_nil, Bool.and_self, Option.map_none, Option.map_some, List.set_cons_zero, List.set_cons_succ, Nat.lt_add_one, List.append_assoc, List.cons_append, List.nil_append, List.append_nil, List.length_append, List.take_zero, List.take_succ_cons, List.take_nil, List.drop_zero, List.drop_succ_cons, List.drop_nil, List.getElem?_cons_zero, List.getElem?_cons_succ, List.getElem?_map, Nat.reduceAdd, Nat.reduceLeDiff, Nat.add_eq_zero_iff, and_self, Nat.zero_add, Nat.add_zero, Nat.mul_one, Nat.one_mul, List.flatten_cons, List.flatten_nil, hxa, hxb, a0, s0, lx, hs, *]) | (simp only [zgoO, zgoG, zO_nil, zthen_normal, zgoC]) | (with_reducible apply And.intro) | (with_reducible intro _))
      · have hy := hno.out (by simp [h1])
        have hk2 := HK.out
        rw [hy] at hk2
        have fin := fun X => F0.out X _ rfl hk2
        clear hk2 hy
        have hs : sameZ [0, 0] [Z64 p1, Z64 p2] [Z64 q1, Z64 q2] = some false := by rw [same2]; simp [h1]
        repeat' (first | (simp only [zmPack, zfree, owners, Nat.reduceLT, List.filter_cons, List.filter_nil, List.contains_cons, List.contains_nil, Nat.reduceBEq, Bool.or_false, Bool.or_true, Bool.false_or, Bool.true_or, BEq.rfl, chunk, setAt, List.lookup_cons, List.lookup_nil, ZV.val.injEq, ZV.ptr.injEq, ZV.own.injEq, ZV.fz.injEq, ZV.func.injEq, ZV.tuple.injEq, ZV.agg.injEq, ZB.box.injEq, ZB.grow.injEq, Bool.not_eq_false', Prod.mk.injEq, and_assoc, decide_false, decide_true, Bool.not_false, Bool.not_true, Bool.true_eq_false, Bool.false_eq_true, exists_false, Bool.not_eq_false, Bool.not_not, Value.bool.injEq, Value.int.injEq, Option.some.injEq, exists_eq_left', exists_eq_left, exists_and_left, exists_and_right, and_true, true_and, decide_eq_true_eq, decide_eq_false_iff_not, if_true, if_false, Bool.not_eq_true', beq_true, beq_false, ne_eq, not_true_eq_false, not_false_eq_true, reduceCtorEq, List.getD_cons_zero, List.getD_cons_succ, List.getD_nil, List.map_cons, List.map_nil, List.append_nil, Nat.reduceEqDiff, reduceIte, ite_true, ite_false, or_true, true_or, or_false, false_or, true_imp_iff, false_imp_iff, implies_true, imp_false, and_self, imp_self, and_false, false_and, forall_const, take_map_all, Nat.le_refl, Nat.reduceMul, Nat.reduceSub, List.length_cons, List.length_nil, List.length_map, List.length_set, List.all_cons, List.all_nil, Bool.and_self, Option.map_none, Option.map_some, List.set_cons_zero, List.set_cons_succ, Nat.lt_add_one, List.append_assoc, List.cons_append, List.nil_append, List.append_nil, List.length_append, List.take_zero, List.take_succ_cons, List.take_nil, List.drop_zero, List.drop_succ_cons, List.drop_nil, List.getElem?_cons_zero, List.getElem?_cons_succ, List.getElem?_map, Nat.reduceAdd, Nat.reduceLeDiff, Nat.add_eq_zero_iff, and_self, Nat.zero_add, Nat.add_zero, Nat.mul_one, Nat.one_mul, List.flatten_cons, List.flatten_nil, hxa, hxb, a0, s0, lx, hs, *]) | (simp only [zgoO, zgoG, zO_nil, zthen_normal, zgoC]) | (with_reducible apply And.intro) | (with_reducible intro _))
    · rintro s' h' ⟨X, rfl, hyes⟩ ⟨f1, f12, -⟩
      rw [← hlen.out, List.take_of_length_le (Nat.le_refl _), hlen.out, List.take_of_length_le (Nat.le_refl _)] at hyes
      have hy : decide (a = b) = true := decide_eq_true hyes
      have hk2 := HK.out
      rw [hy] at hk2
      have fin := fun X => F0.out X _ rfl hk2
      clear hyes hy hk2
      repeat' (first | (simp only [zmPack, zfree, owners, Nat.reduceLT, List.filter_cons, List.filter_nil, List.contains_cons, List.contains_nil, Nat.reduceBEq, Bool.or_false, Bool.or_true, Bool.false_or, Bool.true_or, BEq.rfl, chunk, setAt, List.lookup_cons, List.lookup_nil, ZV.val.injEq, ZV.ptr.injEq, ZV.own.injEq, ZV.fz.injEq, ZV.func.injEq, ZV.tuple.injEq, ZV.agg.injEq, ZB.box.injEq, ZB.grow.injEq, Bool.not_eq_false', Prod.mk.injEq, and_assoc, decide_false, decide_true, Bool.not_false, Bool.not_true, Bool.true_eq_false, Bool.false_eq_true, exists_false, Bool.not_eq_false, Bool.not_not, Value.bool.injEq, Value.int.injEq, Option.some.injEq, exists_eq_left', exists_eq_left, exists_and_left, exists_and_right, and_true, true_and, decide_eq_true_eq, decide_eq_false_iff_not, if_true, if_false, Bool.not_eq_true', beq_true, beq_false, ne_eq, not_true_eq_false, not_false_eq_true, reduceCtorEq, List.getD_cons_zero, List.getD_cons_succ, List.getD_nil, List.map_cons, List.map_nil, List.append_nil, Nat.reduceEqDiff, reduceIte, ite_true, ite_false, or_true, true_or, or_false, false_or, true_imp_iff, false_imp_iff, implies_true, imp_false, and_self, imp_self, and_false, false_and, forall_const, take_map_all, Nat.le_refl, Nat.reduceMul, Nat.reduceSub, List.length_cons, List.length_nil, List.length_map, List.length_set, List.all_cons, List.all_nil, Bool.and_self, Option.map_none, Option.map_some, List.set_cons_zero, List.set_cons_succ, Nat.lt_add_one, List.append_assoc, List.cons_append, List.nil_append, List.append_nil, List.length_append, List.take_zero, List.take_succ_cons, List.take_nil, List.drop_zero, List.drop_succ_cons, List.drop_nil, List.getElem?_cons_zero, List.getElem?_cons_succ, List.getElem?_map, Nat.reduceAdd, Nat.reduceLeDiff, Nat.add_eq_zero_iff, and_self, Nat.zero_add, Nat.add_zero, Nat.mul_one, Nat.one_mul, List.flatten_cons, List.flatten_nil, *]) | (simp only [zgoO, zgoG, zO_nil, zthen_normal, zgoC]) | (with_reducible apply And.intro) | (with_reducible intro _))
  · have hN : (decide ((a.length : Int) = (b.length : Int))) = false := by simp; omega
    have hy : decide (a = b) = false := decide_eq_false fun e => hlen (by rw [e])
    have hK2 := hK
    rw [hy] at hK2
    have fin := Fin.keep (H0 := H) hK2
    clear hlen hy hK
    repeat' (first | (simp only [zmPack, zfree, owners, Nat.reduceLT, List.filter_cons, List.filter_nil, List.contains_cons, List.contains_nil, Nat.reduceBEq, Bool.or_false, Bool.or_true, Bool.false_or, Bool.true_or, BEq.rfl, chunk, setAt, List.lookup_cons, List.lookup_nil, ZV.val.injEq, ZV.ptr.injEq, ZV.own.injEq, ZV.fz.injEq, ZV.func.injEq, ZV.tuple.injEq, ZV.agg.injEq, ZB.box.injEq, ZB.grow.injEq, Bool.not_eq_false', Prod.mk.injEq, and_assoc, decide_false, decide_true, Bool.not_false, Bool.not_true, Bool.true_eq_false, Bool.false_eq_true, exists_false, Bool.not_eq_false, Bool.not_not, Value.bool.injEq, Value.int.injEq, Option.some.injEq, exists_eq_left', exists_eq_left, exists_and_left, exists_and_right, and_true, true_and, decide_eq_true_eq, decide_eq_false_iff_not, if_true, if_false, Bool.not_eq_true', beq_true, beq_false, ne_eq, not_true_eq_false, not_false_eq_true, reduceCtorEq, List.getD_cons_zero, List.getD_cons_succ, List.getD_nil, List.map_cons, List.map_nil, List.append_nil, Nat.reduceEqDiff, reduceIte, ite_true, ite_false, or_true, true_or, or_false, false_or, true_imp_iff, false_imp_iff, implies_true, imp_false, and_self, imp_self, and_false, false_and, forall_const, take_map_all, Nat.le_refl, Nat.reduceMul, Nat.reduceSub, List.length_cons, List.length_nil, List.length_map, List.length_set, List.all_cons, List.all_nil, Bool.and_self, Option.map_none, Option.map_some, List.set_cons_zero, List.set_cons_succ, Nat.lt_add_one, List.append_assoc, List.cons_append, List.nil_append, List.append_nil, List.length_append, List.take_zero, List.take_succ_cons, List.take_nil, List.drop_zero, List.drop_succ_cons, List.drop_nil, List.getElem?_cons_zero, List.getElem?_cons_succ, List.getElem?_map, Nat.reduceAdd, Nat.reduceLeDiff, Nat.add_eq_zero_iff, and_self, Nat.zero_add, Nat.add_zero, Nat.mul_one, Nat.one_mul, List.flatten_cons, List.flatten_nil, hN, *]) | (simp only [zgoO, zgoG, zO_nil, zthen_normal, zgoC]) | (with_reducible apply And.intro) | (with_reducible intro _))
set_option maxHeartbeats 1000000 in
theorem eqtry_z {exa exb : Bool} {a b : List (Int × Int)} (hl1 : a.length ≤ 1000000000000000) (hl2 : b.length ≤ 1000000000000000) (hK : K (ZBo (decide (a = b))) H) :
    ZC (constX tb) (cFunc Try.prog) 31 [.fz 2 exa (a.map eP), .fz 2 exb (b.map eP)] L H K := by
  refine ZC.enterL Gh.no (constX_none) f_r_eqtry (by simp) fun hL => ?_
  simp only [c_r_eqtry]
  by_cases hlen : a.length = b.length
  · have hN : ((a.length : Int) = (b.length : Int)) := by omega
    have hlen := Lib.hid hlen
    have fin0 : ∀ X z, refs H.length z = true → K z H → Fin H z (H ++ X) K := fun X z hz k2 => Fin.trunc (Mods.ext H X) hz (by rw [List.take_left]; exact k2)
    have F0 := Lib.hid fin0
    have HK := Lib.hid hK
    clear fin0 hK
    have hll : (a.length : Int) = b.length := hN
    repeat' (first | (simp only [zmPack, zfree, owners, Nat.reduceLT, List.filter_cons, List.filter_nil, List.contains_cons, List.contains_nil, Nat.reduceBEq, Bool.or_false, Bool.or_true, Bool.false_or, Bool.true_or, BEq.rfl, chunk, setAt, List.lookup_cons, List.lookup_nil, ZV.val.injEq, ZV.ptr.injEq, ZV.own.injEq, ZV.fz.injEq, ZV.func.injEq, ZV.tuple.injEq, ZV.agg.injEq, ZB.box.injEq, ZB.grow.injEq, Bool.not_eq_false', Prod.mk.injEq, and_assoc, decide_false, decide_true, Bool.not_false, Bool.not_true, Bool.true_eq_false, Bool.false_eq_true, exists_false, Bool.not_eq_false, Bool.not_not, Value.bool.injEq, Value.int.injEq, Option.some.injEq, exists_eq_left', exists_eq_left, exists_and_left, exists_and_right, and_true, true_and, decide_eq_true_eq, decide_eq_false_iff_not, if_true, if_false, Bool.not_eq_true', beq_true, beq_false, ne_eq, not_true_eq_false, not_false_eq_true, reduceCtorEq, List.getD_cons_zero, List.getD_cons_succ, List.getD_nil, List.map_cons, List.map_nil, List.append_nil, Nat.reduceEqDiff, reduceIte, ite_true, ite_false, or_true, true_or, or_false, false_or, true_imp_iff, false_imp_iff, implies_true, imp_false, and_self, imp_self, and_false, false_and, forall_const, take_map_all, Nat.le_refl, Nat.reduceMul, Nat.reduceSub, List.length_cons, List.length_nil, List.length_map, List.length_set, List.all_cons, List.all_nil, Bool.and_self, Option.map_none, Option.map_some, List.set_cons_zero, List.set_cons_succ, Nat.lt_add_one, List.append_assoc, List.cons_append, List.nil_append, List.append_nil, List.length_append, List.take_zero, List.take_succ_cons, List.take_nil, List.drop_zero, List.drop_succ_cons, List.drop_nil, List.getElem?_cons_zero, List.getElem?_cons_succ, List.getElem?_map, Nat.reduceAdd, Nat.reduceLeDiff, Nat.add_eq_zero_iff, and_self, Nat.zero_add, Nat.add_zero, Nat.mul_one, Nat.one_mul, List.flatten_cons, List.flatten_nil, hN, *]) | (simp only [zgoO, zgoG, zO_nil, zthen_normal, zgoC]) | (with_reducible apply And.intro) | (with_reducible intro _))
    refine zW_forK [(1, .fz 2 exb (b.map eP)), (12, .fz 2 exa (a.map eP))] b.length (fun k s' h' => ∃ X, h' = H ++ X ∧ a.take k = b.take k) (by omega) ⟨rfl, rfl, rfl, rfl, rfl, rfl⟩ rfl rfl (by repeat' (first | exact trivial | (refine ⟨rfl, ?_⟩) | (refine ⟨by simp only [zupd_at, Nat.reduceEqDiff, reduceIte]; assumption, ?_⟩))) rfl rfl (by decide) ⟨[], by simp, by simp⟩ ?_ ?_
    · rintro k s' h' hk ⟨X, rfl, hyes⟩ hi hl ⟨f1, f12, -⟩
      have hka : k < a.length := by rw [hlen.out]; exact hk
      have hxa : a[k]? = some a[k] := List.getElem?_eq_getElem hka
      have hxb : b[k]? = some b[k] := List.getElem?_eq_getElem hk
      have hya0 : a.take (k + 1) = b.take (k + 1) ↔ a[k] = b[k] := by
        rw [List.take_succ_eq_append_getElem hka, List.take_succ_eq_append_getElem hk, hyes, List.append_cancel_left_eq]; simp
      have hya := Lib.hid hya0
      have hno0 : a[k] ≠ b[k] → decide (a = b) = false := fun he => decide_eq_false fun e => he (by subst e; rfl)
      have hno := Lib.hid hno0
      clear hya0 hno0
      obtain ⟨p, hp⟩ : ∃ p, p = a[k] := ⟨_, rfl⟩
      obtain ⟨q, hq⟩ : ∃ q, q = b[k] := ⟨_, rfl⟩
      rw [← hp] at hxa hya hno
      rw [← hq] at hxb hya hno
      obtain ⟨p1, p2⟩ := p
      obtain ⟨q1, q2⟩ := q
      have a0 : ∀ A : ZB, (H ++ (X ++ [A]))[H.length + X.length]? = some A := fun A => by rw [← List.append_assoc, ← List.length_append]; exact H_at0 ..
      have s0 : ∀ A B : ZB, (H ++ (X ++ [A])).set (H.length + X.length) B = H ++ (X ++ [B]) := fun A B => by rw [← List.append_assoc, ← List.length_append, List.set_append_right _ _ (Nat.le_refl _), Nat.sub_self, List.append_assoc]; rfl
      have lx : L (H.length + X.length) = true := hL _
      clear hp hq hyes hll hN
      by_cases h1 : p1 = q1
      · by_cases h2 : p2 = q2
        · have fin : a.take (k + 1) = b.take (k + 1) := hya.out.2 (by rw [h1, h2])
          have HF := Lib.hid fin
          clear fin
          subst h1 h2
          have hs : sameZ [0, 0] [Z64 p1, Z64 p2] [Z64 p1, Z64 p2] = some true := by rw [same2]; simp
          repeat' (first | (simp only [zmPack, zfree, owners, Nat.reduceLT, List.filter_cons, List.filter_nil, List.contains_cons, List.contains_nil, Nat.reduceBEq, Bool.or_false, Bool.or_true, Bool.false_or, Bool.true_or, BEq.rfl, chunk, setAt, List.lookup_cons, List.lookup_nil, ZV.val.injEq, ZV.ptr.injEq, ZV.own.injEq, ZV.fz.injEq, ZV.func.injEq, ZV.tuple.injEq, ZV.agg.injEq, ZB.box.injEq, ZB.grow.injEq, Bool.not_eq_false', Prod.mk.injEq, and_assoc, decide_false, decide_true, Bool.not_false, Bool.not_true, Bool.true_eq_false, Bool.false_eq_true, exists_false, Bool.not_eq_false, Bool.not_not, Value.bool.injEq, Value.int.injEq, Option.some.injEq, exists_eq_left', exists_eq_left, exists_and_left, exists_and_right, and_true, true_and, decide_eq_true_eq, decide_eq_false_iff_not, if_true, if_false, Bool.not_eq_true', beq_true, beq_false, ne_eq, not_true_eq_false, not_false_eq_true, reduceCtorEq, List.getD_cons_zero, List.getD_cons_succ, List.getD_nil, List.map_cons, List.map_nil, List.append_nil, Nat.reduceEqDiff, reduceIte, ite_true, ite_false, or_true, true_or, or_false, false_or, true_imp_iff, false_imp_iff, implies_true, imp_false, and_self, imp_self, and_false, false_and, forall_const, take_map_all, Nat.le_refl, Nat.reduceMul, Nat.reduceSub, List.length_cons, List.length_nil, List.length_map, List.length_set, List.all_cons, List.all_nil, Bool.and_self, Option.map_none, Option.map_some, List.set_cons_zero, List.set_cons_succ, Nat.lt_add_one, List.append_assoc, List.cons_append, List.nil_append, List.append_nil, List.length_append, List.take_zero, List.take_succ_cons, List.take_nil, List.drop_zero, List.drop_succ_cons, List.drop_nil, List.getElem?_cons_zero, List.getElem?_cons_succ, List.getElem?_map, Nat.reduceAdd, Nat.reduceLeDiff, Nat.add_eq_zero_iff, and_self, Nat.zero_add, Nat.add_zero, Nat.mul_one, Nat.one_mul, List.flatten_cons, List.flatten_nil, hxa, hxb, a0, s0, lx, hs, *]) | (simp only [zgoO, zgoG, zO_nil, zthen_normal, zgoC]) | (with_reducible apply And.intro) | (with_reducible intro _))
          · exact ⟨_, rfl⟩
          · exact HF.out
        · have hy := hno.out (by simp [h2])
          have hk2 := HK.out
          rw [hy] at hk2
          have fin := fun X => F0.out X _ rfl hk2
          clear hk2 hy
          have hs : sameZ [0, 0] [Z64 p1, Z64 p2] [Z64 q1, Z64 q2] = some false := by rw [same2]; simp [h2]
          subst h1
          repeat' (first | (simp only [zmPack, zfree, owners, Nat.reduceLT, List.filter_cons, List.filter_nil, List.contains_cons, List.contains_nil, Nat.reduceBEq, Bool.or_false, Bool.or_true, Bool.false_or, Bool.true_or, BEq.rfl, chunk, setAt, List.lookup_cons, List.lookup_nil, ZV.val.injEq, ZV.ptr.injEq, ZV.own.injEq, ZV.fz.injEq, ZV.func.injEq, ZV.tuple.injEq, ZV.agg.injEq, ZB.box.injEq, ZB.grow.injEq, Bool.not_eq_false', Prod.mk.injEq, and_assoc, decide_false, decide_true, Bool.not_false, Bool.not_true, Bool.true_eq_false, Bool.false_eq_true, exists_false, Bool.not_eq_false, Bool.not_not, Value.bool.injEq, Value.int.injEq, Option.some.injEq, exists_eq_left', exists_eq_left, exists_and_left, exists_and_right, and_true, true_and, decide_eq_true_eq, decide_eq_false_iff_not, if_true, if_false, Bool.not_eq_true', beq_true, beq_false, ne_eq, not_true_eq_false, not_false_eq_true, reduceCtorEq, List.getD_cons_zero, List.getD_cons_succ, List.getD_nil, List.map_cons, List.map_nil, List.append_nil, Nat.reduceEqDiff, reduceIte, ite_true, ite_false, or_true, true_or, or_false, false_or, true_imp_iff, false_imp_iff, implies_true, imp_false, and_self, imp_self, and_false, false_and, forall_const, take_map_all, Nat.le_refl, Nat.reduceMul, Nat.reduceSub, List.length_cons, List.length_nil, List.length_map, List.length_set, List.all_cons, List.all_nil, Bool.and_self, Option.map_none, Option.map_some, List.set_cons_zero, List.set_cons_succ, Nat.lt_add_one, List.append_assoc, List.cons_append, List.nil_append, List.append_nil, List.length_append, List.take_zero, List.take_succ_cons, List.take_nil, List.drop_zero, List.drop_succ_cons, List.drop_nil, List.getElem?_cons_zero, List.getElem?_cons_succ, List.getElem?_map, Nat.reduceAdd, Nat.reduceLeDiff, Nat.add_eq_zero_iff, and_self, Nat.zero_add, Nat.add_zero, Nat.mul_one, Nat.one_mul, List.flatten_cons, List.flatten_nil, hxa, hxb, a0, s0, lx, hs, *]) | (simp only [zgoO, zgoG, zO_nil, zthen_normal, zgoC]) | (with_reducible apply And.intro) | (with_reducible intro _))
      · have hy := hno.out (by simp [h1])
        have hk2 := HK.out
        rw [hy] at hk2
        have fin := fun X => F0.out X _ rfl hk2
        clear hk2 hy
        have hs : sameZ [0, 0] [Z64 p1, Z64 p2] [Z64 q1, Z64 q2] = some false := by rw [same2]; simp [h1]
        repeat' (first | (simp only [zmPack, zfree, owners, Nat.reduceLT, List.filter_cons, List.filter_nil, List.contains_cons, List.contains_nil, Nat.reduceBEq, Bool.or_false, Bool.or_true, Bool.false_or, Bool.true_or, BEq.rfl, chunk, setAt, List.lookup_cons, List.lookup_nil, ZV.val.injEq, ZV.ptr.injEq, ZV.own.injEq, ZV.fz.injEq, ZV.func.injEq, ZV.tuple.injEq, ZV.agg.injEq, ZB.box.injEq, ZB.grow.injEq, Bool.not_eq_false', Prod.mk.injEq, and_assoc, decide_false, decide_true, Bool.not_false, Bool.not_true, Bool.true_eq_false, Bool.false_eq_true, exists_false, Bool.not_eq_false, Bool.not_not, Value.bool.injEq, Value.int.injEq, Option.some.injEq, exists_eq_left', exists_eq_left, exists_and_left, exists_and_right, and_true, true_and, decide_eq_true_eq, decide_eq_false_iff_not, if_true, if_false, Bool.not_eq_true', beq_true, beq_false, ne_eq, not_true_eq_false, not_false_eq_true, reduceCtorEq, List.getD_cons_zero, List.getD_cons_succ, List.getD_nil, List.map_cons, List.map_nil, List.append_nil, Nat.reduceEqDiff, reduceIte, ite_true, ite_false, or_true, true_or, or_false, false_or, true_imp_iff, false_imp_iff, implies_true, imp_false, and_self, imp_self, and_false, false_and, forall_const, take_map_all, Nat.le_refl, Nat.reduceMul, Nat.reduceSub, List.length_cons, List.length_nil, List.length_map, List.length_set, List.all_cons, List.all_nil, Bool.and_self, Option.map_none, Option.map_some, List.set_cons_zero, List.set_cons_succ, Nat.lt_add_one, List.append_assoc, List.cons_append, List.nil_append, List.append_nil, List.length_append, List.take_zero, List.take_succ_cons, List.take_nil, List.drop_zero, List.drop_succ_cons, List.drop_nil, List.getElem?_cons_zero, List.getElem?_cons_succ, List.getElem?_map, Nat.reduceAdd, Nat.reduceLeDiff, Nat.add_eq_zero_iff, and_self, Nat.zero_add, Nat.add_zero, Nat.mul_one, Nat.one_mul, List.flatten_cons, List.flatten_nil, hxa, hxb, a0, s0, lx, hs, *]) | (simp only [zgoO, zgoG, zO_nil, zthen_normal, zgoC]) | (with_reducible apply And.intro) | (with_reducible intro _))
    · rintro s' h' ⟨X, rfl, hyes⟩ ⟨f1, f12, -⟩
      rw [← hlen.out, List.take_of_length_le (Nat.le_refl _), hlen.out, List.take_of_length_le (Nat.le_refl _)] at hyes
      have hy : decide (a = b) = true := decide_eq_true hyes
      have hk2 := HK.out
      rw [hy] at hk2
      have fin := fun X => F0.out X _ rfl hk2
      clear hyes hy hk2
      repeat' (first | (simp only [zmPack, zfree, owners, Nat.reduceLT, List.filter_cons, List.filter_nil, List.contains_cons, List.contains_nil, Nat.reduceBEq, Bool.or_false, Bool.or_true, Bool.false_or, Bool.true_or, BEq.rfl, chunk, setAt, List.lookup_cons, List.lookup_nil, ZV.val.injEq, ZV.ptr.injEq, ZV.own.injEq, ZV.fz.injEq, ZV.func.injEq, ZV.tuple.injEq, ZV.agg.injEq, ZB.box.injEq, ZB.grow.injEq, Bool.not_eq_false', Prod.mk.injEq, and_assoc, decide_false, decide_true, Bool.not_false, Bool.not_true, Bool.true_eq_false, Bool.false_eq_true, exists_false, Bool.not_eq_false, Bool.not_not, Value.bool.injEq, Value.int.injEq, Option.some.injEq, exists_eq_left', exists_eq_left, exists_and_left, exists_and_right, and_true, true_and, decide_eq_true_eq, decide_eq_false_iff_not, if_true, if_false, Bool.not_eq_true', beq_true, beq_false, ne_eq, not_true_eq_false, not_false_eq_true, reduceCtorEq, List.getD_cons_zero, List.getD_cons_succ, List.getD_nil, List.map_cons, List.map_nil, List.append_nil, Nat.reduceEqDiff, reduceIte, ite_true, ite_false, or_true, true_or, or_false, false_or, true_imp_iff, false_imp_iff, implies_true, imp_false, and_self, imp_self, and_false, false_and, forall_const, take_map_all, Nat.le_refl, Nat.reduceMul, Nat.reduceSub, List.length_cons, List.length_nil, List.length_map, List.length_set, List.all_cons, List.all_nil, Bool.and_self, Option.map_none, Option.map_some, List.set_cons_zero, List.set_cons_succ, Nat.lt_add_one, List.append_assoc, List.cons_append, List.nil_append, List.append_nil, List.length_append, List.take_zero, List.take_succ_cons, List.take_nil, List.drop_zero, List.drop_succ_cons, List.drop_nil, List.getElem?_cons_zero, List.getElem?_cons_succ, List.getElem?_map, Nat.reduceAdd, Nat.reduceLeDiff, Nat.add_eq_zero_iff, and_self, Nat.zero_add, Nat.add_zero, Nat.mul_one, Nat.one_mul, List.flatten_cons, List.flatten_nil, *]) | (simp only [zgoO, zgoG, zO_nil, zthen_normal, zgoC]) | (with_reducible apply And.intro) | (with_reducible intro _))
  · have hN : (decide ((a.length : Int) = (b.length : Int))) = false := by simp; omega
    have hy : decide (a = b) = false := decide_eq_false fun e => hlen (by rw [e])
    have hK2 := hK
    rw [hy] at hK2
    have fin := Fin.keep (H0 := H) hK2
    clear hlen hy hK
    repeat' (first | (simp only [zmPack, zfree, owners, Nat.reduceLT, List.filter_cons, List.filter_nil, List.contains_cons, List.contains_nil, Nat.reduceBEq, Bool.or_false, Bool.or_true, Bool.false_or, Bool.true_or, BEq.rfl, chunk, setAt, List.lookup_cons, List.lookup_nil, ZV.val.injEq, ZV.ptr.injEq, ZV.own.injEq, ZV.fz.injEq, ZV.func.injEq, ZV.tuple.injEq, ZV.agg.injEq, ZB.box.injEq, ZB.grow.injEq, Bool.not_eq_false', Prod.mk.injEq, and_assoc, decide_false, decide_true, Bool.not_false, Bool.not_true, Bool.true_eq_false, Bool.false_eq_true, exists_false, Bool.not_eq_false, Bool.not_not, Value.bool.injEq, Value.int.injEq, Option.some.injEq, exists_eq_left', exists_eq_left, exists_and_left, exists_and_right, and_true, true_and, decide_eq_true_eq, decide_eq_false_iff_not, if_true, if_false, Bool.not_eq_true', beq_true, beq_false, ne_eq, not_true_eq_false, not_false_eq_true, reduceCtorEq, List.getD_cons_zero, List.getD_cons_succ, List.getD_nil, List.map_cons, List.map_nil, List.append_nil, Nat.reduceEqDiff, reduceIte, ite_true, ite_false, or_true, true_or, or_false, false_or, true_imp_iff, false_imp_iff, implies_true, imp_false, and_self, imp_self, and_false, false_and, forall_const, take_map_all, Nat.le_refl, Nat.reduceMul, Nat.reduceSub, List.length_cons, List.length_nil, List.length_map, List.length_set, List.all_cons, List.all_nil, Bool.and_self, Option.map_none, Option.map_some, List.set_cons_zero, List.set_cons_succ, Nat.lt_add_one, List.append_assoc, List.cons_append, List.nil_append, List.append_nil, List.length_append, List.take_zero, List.take_succ_cons, List.take_nil, List.drop_zero, List.drop_succ_cons, List.drop_nil, List.getElem?_cons_zero, List.getElem?_cons_succ, List.getElem?_map, Nat.reduceAdd, Nat.reduceLeDiff, Nat.add_eq_zero_iff, and_self, Nat.zero_add, Nat.add_zero, Nat.mul_one, Nat.one_mul, List.flatten_cons, List.flatten_nil, hN, *]) | (simp only [zgoO, zgoG, zO_nil, zthen_normal, zgoC]) | (with_reducible apply And.intro) | (with_reducible intro _))
set_option maxHeartbeats 2000000 in
theorem sameframe_z {f : Fr} (h1 : f.2.2.2.2.2.1.length ≤ 100000000000000) (h2 : f.2.2.2.2.2.2.length ≤ 100000000000000) (hK : K (ZBo true) H) :
    ZC (constX tb) (cFunc Try.prog) 13 [.agg (eF f), .agg (eF f)] L H K := by
  refine ZC.enterL Gh.no (constX_none) f_l_sameframe (by simp) fun hL => ?_
  simp only [c_l_sameframe]
  obtain ⟨a1, a2, a3, a4, ⟨a5, a6⟩, rg, tr⟩ := f
  simp only at h1 h2 ⊢
  have fin : ∀ X, Fin H (ZBo true) (H ++ X) K := fun X => Fin.trunc (Mods.ext H X) rfl (by rw [List.take_left]; exact hK)
  have F0 := Lib.hid fin
  have hs : sameZ [0, 0] [Z64 a5, Z64 a6] [Z64 a5, Z64 a6] = some true := by rw [same2]; simp
  clear fin hK
  repeat' (first | (simp only [zmPack, zfree, owners, Nat.reduceLT, List.filter_cons, List.filter_nil, List.contains_cons, List.contains_nil, Nat.reduceBEq, Bool.or_false, Bool.or_true, Bool.false_or, Bool.true_or, BEq.rfl, chunk, setAt, List.lookup_cons, List.lookup_nil, ZV.val.injEq, ZV.ptr.injEq, ZV.own.injEq, ZV.fz.injEq, ZV.func.injEq, ZV.tuple.injEq, ZV.agg.injEq, ZB.box.injEq, ZB.grow.injEq, Bool.not_eq_false', Prod.mk.injEq, and_assoc, decide_false, decide_true, Bool.not_false, Bool.not_true, Bool.true_eq_false, Bool.false_eq_true, exists_false, Bool.not_eq_false, Bool.not_not, Value.bool.injEq, Value.int.injEq, Option.some.injEq, exists_eq_left', exists_eq_left, exists_and_left, exists_and_right, and_true, true_and, decide_eq_true_eq, decide_eq_false_iff_not, if_true, if_false, Bool.not_eq_true', beq_true, beq_false, ne_eq, not_true_eq_false, not_false_eq_true, reduceCtorEq, List.getD_cons_zero, List.getD_cons_succ, List.getD_nil, List.map_cons, List.map_nil, List.append_nil, Nat.reduceEqDiff, reduceIte, ite_true, ite_false, or_true, true_or, or_false, false_or, true_imp_iff, false_imp_iff, implies_true, imp_false, and_self, imp_self, and_false, false_and, forall_const, take_map_all, Nat.le_refl, Nat.reduceMul, Nat.reduceSub, List.length_cons, List.length_nil, List.length_map, List.length_set, List.all_cons, List.all_nil, Bool.and_self, Option.map_none, Option.map_some, List.set_cons_zero, List.set_cons_succ, Nat.lt_add_one, List.append_assoc, List.cons_append, List.nil_append, List.append_nil, List.length_append, List.take_zero, List.take_succ_cons, List.take_nil, List.drop_zero, List.drop_succ_cons, List.drop_nil, List.getElem?_cons_zero, List.getElem?_cons_succ, List.getElem?_map, Nat.reduceAdd, Nat.reduceLeDiff, Nat.add_eq_zero_iff, and_self, Nat.zero_add, Nat.add_zero, Nat.mul_one, Nat.one_mul, List.flatten_cons, List.flatten_nil, hs, *]) | (simp only [zgoO, zgoG, zO_nil, zthen_normal, zgoC]) | (with_reducible apply And.intro) | (with_reducible intro _))
  refine eqval_z (by omega) (by omega) ?_
  rw [show decide (rg = rg) = true from decide_eq_true rfl]
  repeat' (first | (simp only [zmPack, zfree, owners, Nat.reduceLT, List.filter_cons, List.filter_nil, List.contains_cons, List.contains_nil, Nat.reduceBEq, Bool.or_false, Bool.or_true, Bool.false_or, Bool.true_or, BEq.rfl, chunk, setAt, List.lookup_cons, List.lookup_nil, ZV.val.injEq, ZV.ptr.injEq, ZV.own.injEq, ZV.fz.injEq, ZV.func.injEq, ZV.tuple.injEq, ZV.agg.injEq, ZB.box.injEq, ZB.grow.injEq, Bool.not_eq_false', Prod.mk.injEq, and_assoc, decide_false, decide_true, Bool.not_false, Bool.not_true, Bool.true_eq_false, Bool.false_eq_true, exists_false, Bool.not_eq_false, Bool.not_not, Value.bool.injEq, Value.int.injEq, Option.some.injEq, exists_eq_left', exists_eq_left, exists_and_left, exists_and_right, and_true, true_and, decide_eq_true_eq, decide_eq_false_iff_not, if_true, if_false, Bool.not_eq_true', beq_true, beq_false, ne_eq, not_true_eq_false, not_false_eq_true, reduceCtorEq, List.getD_cons_zero, List.getD_cons_succ, List.getD_nil, List.map_cons, List.map_nil, List.append_nil, Nat.reduceEqDiff, reduceIte, ite_true, ite_false, or_true, true_or, or_false, false_or, true_imp_iff, false_imp_iff, implies_true, imp_false, and_self, imp_self, and_false, false_and, forall_const, take_map_all, Nat.le_refl, Nat.reduceMul, Nat.reduceSub, List.length_cons, List.length_nil, List.length_map, List.length_set, List.all_cons, List.all_nil, Bool.and_self, Option.map_none, Option.map_some, List.set_cons_zero, List.set_cons_succ, Nat.lt_add_one, List.append_assoc, List.cons_append, List.nil_append, List.append_nil, List.length_append, List.take_zero, List.take_succ_cons, List.take_nil, List.drop_zero, List.drop_succ_cons, List.drop_nil, List.getElem?_cons_zero, List.getElem?_cons_succ, List.getElem?_map, Nat.reduceAdd, Nat.reduceLeDiff, Nat.add_eq_zero_iff, and_self, Nat.zero_add, Nat.add_zero, Nat.mul_one, Nat.one_mul, List.flatten_cons, List.flatten_nil, *]) | (simp only [zgoO, zgoG, zO_nil, zthen_normal, zgoC]) | (with_reducible apply And.intro) | (with_reducible intro _))
  refine eqtry_z (by omega) (by omega) ?_
  rw [show decide (tr = tr) = true from decide_eq_true rfl]
  have fin := F0.out
  repeat' (first | (simp only [zmPack, zfree, owners, Nat.reduceLT, List.filter_cons, List.filter_nil, List.contains_cons, List.contains_nil, Nat.reduceBEq, Bool.or_false, Bool.or_true, Bool.false_or, Bool.true_or, BEq.rfl, chunk, setAt, List.lookup_cons, List.lookup_nil, ZV.val.injEq, ZV.ptr.injEq, ZV.own.injEq, ZV.fz.injEq, ZV.func.injEq, ZV.tuple.injEq, ZV.agg.injEq, ZB.box.injEq, ZB.grow.injEq, Bool.not_eq_false', Prod.mk.injEq, and_assoc, decide_false, decide_true, Bool.not_false, Bool.not_true, Bool.true_eq_false, Bool.false_eq_true, exists_false, Bool.not_eq_false, Bool.not_not, Value.bool.injEq, Value.int.injEq, Option.some.injEq, exists_eq_left', exists_eq_left, exists_and_left, exists_and_right, and_true, true_and, decide_eq_true_eq, decide_eq_false_iff_not, if_true, if_false, Bool.not_eq_true', beq_true, beq_false, ne_eq, not_true_eq_false, not_false_eq_true, reduceCtorEq, List.getD_cons_zero, List.getD_cons_succ, List.getD_nil, List.map_cons, List.map_nil, List.append_nil, Nat.reduceEqDiff, reduceIte, ite_true, ite_false, or_true, true_or, or_false, false_or, true_imp_iff, false_imp_iff, implies_true, imp_false, and_self, imp_self, and_false, false_and, forall_const, take_map_all, Nat.le_refl, Nat.reduceMul, Nat.reduceSub, List.length_cons, List.length_nil, List.length_map, List.length_set, List.all_cons, List.all_nil, Bool.and_self, Option.map_none, Option.map_some, List.set_cons_zero, List.set_cons_succ, Nat.lt_add_one, List.append_assoc, List.cons_append, List.nil_append, List.append_nil, List.length_append, List.take_zero, List.take_succ_cons, List.take_nil, List.drop_zero, List.drop_succ_cons, List.drop_nil, List.getElem?_cons_zero, List.getElem?_cons_succ, List.getElem?_map, Nat.reduceAdd, Nat.reduceLeDiff, Nat.add_eq_zero_iff, and_self, Nat.zero_add, Nat.add_zero, Nat.mul_one, Nat.one_mul, List.flatten_cons, List.flatten_nil, *]) | (simp only [zgoO, zgoG, zO_nil, zthen_normal, zgoC]) | (with_reducible apply And.intro) | (with_reducible intro _))
set_option maxHeartbeats 2000000 in
theorem samecell_z {c : Cl} (h1 : c.2.2.1.length ≤ 100000000000000) (h2 : c.2.2.2.length ≤ 100000000000000) (h3 : ∀ f ∈ c.2.2.2, f.2.2.2.2.2.1.length ≤ 100000000000000 ∧ f.2.2.2.2.2.2.length ≤ 100000000000000) (hK : K (ZBo true) H) :
    ZC (constX tb) (cFunc Try.prog) 10 [.agg (eC c), .agg (eC c)] L H K := by
  refine ZC.enterL Gh.no (constX_none) f_l_samecell (by simp) fun hL => ?_
  simp only [c_l_samecell]
  obtain ⟨k1, k2, vs, fs⟩ := c
  simp only at h1 h2 h3 ⊢
  have fin : ∀ X, Fin H (ZBo true) (H ++ X) K := fun X => Fin.trunc (Mods.ext H X) rfl (by rw [List.take_left]; exact hK)
  have F0 := Lib.hid fin
  have H3 := Lib.hid h3
  clear fin hK h3
  repeat' (first | (simp only [zmPack, zfree, owners, Nat.reduceLT, List.filter_cons, List.filter_nil, List.contains_cons, List.contains_nil, Nat.reduceBEq, Bool.or_false, Bool.or_true, Bool.false_or, Bool.true_or, BEq.rfl, chunk, setAt, List.lookup_cons, List.lookup_nil, ZV.val.injEq, ZV.ptr.injEq, ZV.own.injEq, ZV.fz.injEq, ZV.func.injEq, ZV.tuple.injEq, ZV.agg.injEq, ZB.box.injEq, ZB.grow.injEq, Bool.not_eq_false', Prod.mk.injEq, and_assoc, decide_false, decide_true, Bool.not_false, Bool.not_true, Bool.true_eq_false, Bool.false_eq_true, exists_false, Bool.not_eq_false, Bool.not_not, Value.bool.injEq, Value.int.injEq, Option.some.injEq, exists_eq_left', exists_eq_left, exists_and_left, exists_and_right, and_true, true_and, decide_eq_true_eq, decide_eq_false_iff_not, if_true, if_false, Bool.not_eq_true', beq_true, beq_false, ne_eq, not_true_eq_false, not_false_eq_true, reduceCtorEq, List.getD_cons_zero, List.getD_cons_succ, List.getD_nil, List.map_cons, List.map_nil, List.append_nil, Nat.reduceEqDiff, reduceIte, ite_true, ite_false, or_true, true_or, or_false, false_or, true_imp_iff, false_imp_iff, implies_true, imp_false, and_self, imp_self, and_false, false_and, forall_const, take_map_all, Nat.le_refl, Nat.reduceMul, Nat.reduceSub, List.length_cons, List.length_nil, List.length_map, List.length_set, List.all_cons, List.all_nil, Bool.and_self, Option.map_none, Option.map_some, List.set_cons_zero, List.set_cons_succ, Nat.lt_add_one, List.append_assoc, List.cons_append, List.nil_append, List.append_nil, List.length_append, List.take_zero, List.take_succ_cons, List.take_nil, List.drop_zero, List.drop_succ_cons, List.drop_nil, List.getElem?_cons_zero, List.getElem?_cons_succ, List.getElem?_map, Nat.reduceAdd, Nat.reduceLeDiff, Nat.add_eq_zero_iff, and_self, Nat.zero_add, Nat.add_zero, Nat.mul_one, Nat.one_mul, List.flatten_cons, List.flatten_nil, *]) | (simp only [zgoO, zgoG, zO_nil, zthen_normal, zgoC]) | (with_reducible apply And.intro) | (with_reducible intro _))
  refine eqval_z (by omega) (by omega) ?_
  rw [show decide (vs = vs) = true from decide_eq_true rfl]
  repeat' (first | (simp only [zmPack, zfree, owners, Nat.reduceLT, List.filter_cons, List.filter_nil, List.contains_cons, List.contains_nil, Nat.reduceBEq, Bool.or_false, Bool.or_true, Bool.false_or, Bool.true_or, BEq.rfl, chunk, setAt, List.lookup_cons, List.lookup_nil, ZV.val.injEq, ZV.ptr.injEq, ZV.own.injEq, ZV.fz.injEq, ZV.func.injEq, ZV.tuple.injEq, ZV.agg.injEq, ZB.box.injEq, ZB.grow.injEq, Bool.not_eq_false', Prod.mk.injEq, and_assoc, decide_false, decide_true, Bool.not_false, Bool.not_true, Bool.true_eq_false, Bool.false_eq_true, exists_false, Bool.not_eq_false, Bool.not_not, Value.bool.injEq, Value.int.injEq, Option.some.injEq, exists_eq_left', exists_eq_left, exists_and_left, exists_and_right, and_true, true_and, decide_eq_true_eq, decide_eq_false_iff_not, if_true, if_false, Bool.not_eq_true', beq_true, beq_false, ne_eq, not_true_eq_false, not_false_eq_true, reduceCtorEq, List.getD_cons_zero, List.getD_cons_succ, List.getD_nil, List.map_cons, List.map_nil, List.append_nil, Nat.reduceEqDiff, reduceIte, ite_true, ite_false, or_true, true_or, or_false, false_or, true_imp_iff, false_imp_iff, implies_true, imp_false, and_self, imp_self, and_false, false_and, forall_const, take_map_all, Nat.le_refl, Nat.reduceMul, Nat.reduceSub, List.length_cons, List.length_nil, List.length_map, List.length_set, List.all_cons, List.all_nil, Bool.and_self, Option.map_none, Option.map_some, List.set_cons_zero, List.set_cons_succ, Nat.lt_add_one, List.append_assoc, List.cons_append, List.nil_append, List.append_nil, List.length_append, List.take_zero, List.take_succ_cons, List.take_nil, List.drop_zero, List.drop_succ_cons, List.drop_nil, List.getElem?_cons_zero, List.getElem?_cons_succ, List.getElem?_map, Nat.reduceAdd, Nat.reduceLeDiff, Nat.add_eq_zero_iff, and_self, Nat.zero_add, Nat.add_zero, Nat.mul_one, Nat.one_mul, List.flatten_cons, List.flatten_nil, *]) | (simp only [zgoO, zgoG, zO_nil, zthen_normal, zgoC]) | (with_reducible apply And.intro) | (with_reducible intro _))
  refine zW_forK [(2, .ptr H.length 0), (3, .ptr (H.length + 1) 0)] fs.length (fun k s' h' => h' = H ++ [.box [Z64 k1, Z64 k2, .fz 2 false (vs.map eP), .fz 8 false (fs.map eF)], .box [Z64 k1, Z64 k2, .fz 2 false (vs.map eP), .fz 8 false (fs.map eF)]]) (by omega) ⟨rfl, rfl, rfl, rfl, rfl, rfl⟩ rfl rfl (by repeat' (first | exact trivial | (refine ⟨rfl, ?_⟩) | (refine ⟨by simp only [zupd_at, Nat.reduceEqDiff, reduceIte]; assumption, ?_⟩))) rfl rfl (by decide) rfl ?_ ?_
  · rintro k s' h' hk rfl hi hl ⟨f2, f3, -⟩
    have hx : fs[k]? = some fs[k] := List.getElem?_eq_getElem hk
    obtain ⟨l1, l2⟩ := H3.out fs[k] (List.getElem_mem hk)
    obtain ⟨q, hq⟩ : ∃ q, q = fs[k] := ⟨_, rfl⟩
    rw [← hq] at hx l1 l2
    clear hq
    repeat' (first | (simp only [zmPack, zfree, owners, Nat.reduceLT, List.filter_cons, List.filter_nil, List.contains_cons, List.contains_nil, Nat.reduceBEq, Bool.or_false, Bool.or_true, Bool.false_or, Bool.true_or, BEq.rfl, chunk, setAt, List.lookup_cons, List.lookup_nil, ZV.val.injEq, ZV.ptr.injEq, ZV.own.injEq, ZV.fz.injEq, ZV.func.injEq, ZV.tuple.injEq, ZV.agg.injEq, ZB.box.injEq, ZB.grow.injEq, Bool.not_eq_false', Prod.mk.injEq, and_assoc, decide_false, decide_true, Bool.not_false, Bool.not_true, Bool.true_eq_false, Bool.false_eq_true, exists_false, Bool.not_eq_false, Bool.not_not, Value.bool.injEq, Value.int.injEq, Option.some.injEq, exists_eq_left', exists_eq_left, exists_and_left, exists_and_right, and_true, true_and, decide_eq_true_eq, decide_eq_false_iff_not, if_true, if_false, Bool.not_eq_true', beq_true, beq_false, ne_eq, not_true_eq_false, not_false_eq_true, reduceCtorEq, List.getD_cons_zero, List.getD_cons_succ, List.getD_nil, List.map_cons, List.map_nil, List.append_nil, Nat.reduceEqDiff, reduceIte, ite_true, ite_false, or_true, true_or, or_false, false_or, true_imp_iff, false_imp_iff, implies_true, imp_false, and_self, imp_self, and_false, false_and, forall_const, take_map_all, Nat.le_refl, Nat.reduceMul, Nat.reduceSub, List.length_cons, List.length_nil, List.length_map, List.length_set, List.all_cons, List.all_nil, Bool.and_self, Option.map_none, Option.map_some, List.set_cons_zero, List.set_cons_succ, Nat.lt_add_one, List.append_assoc, List.cons_append, List.nil_append, List.append_nil, List.length_append, List.take_zero, List.take_succ_cons, List.take_nil, List.drop_zero, List.drop_succ_cons, List.drop_nil, List.getElem?_cons_zero, List.getElem?_cons_succ, List.getElem?_map, Nat.reduceAdd, Nat.reduceLeDiff, Nat.add_eq_zero_iff, and_self, Nat.zero_add, Nat.add_zero, Nat.mul_one, Nat.one_mul, List.flatten_cons, List.flatten_nil, hx, *]) | (simp only [zgoO, zgoG, zO_nil, zthen_normal, zgoC]) | (with_reducible apply And.intro) | (with_reducible intro _))
    refine sameframe_z l1 l2 ?_
    repeat' (first | (simp only [zmPack, zfree, owners, Nat.reduceLT, List.filter_cons, List.filter_nil, List.contains_cons, List.contains_nil, Nat.reduceBEq, Bool.or_false, Bool.or_true, Bool.false_or, Bool.true_or, BEq.rfl, chunk, setAt, List.lookup_cons, List.lookup_nil, ZV.val.injEq, ZV.ptr.injEq, ZV.own.injEq, ZV.fz.injEq, ZV.func.injEq, ZV.tuple.injEq, ZV.agg.injEq, ZB.box.injEq, ZB.grow.injEq, Bool.not_eq_false', Prod.mk.injEq, and_assoc, decide_false, decide_true, Bool.not_false, Bool.not_true, Bool.true_eq_false, Bool.false_eq_true, exists_false, Bool.not_eq_false, Bool.not_not, Value.bool.injEq, Value.int.injEq, Option.some.injEq, exists_eq_left', exists_eq_left, exists_and_left, exists_and_right, and_true, true_and, decide_eq_true_eq, decide_eq_false_iff_not, if_true, if_false, Bool.not_eq_true', beq_true, beq_false, ne_eq, not_true_eq_false, not_false_eq_true, reduceCtorEq, List.getD_cons_zero, List.getD_cons_succ, List.getD_nil, List.map_cons, List.map_nil, List.append_nil, Nat.reduceEqDiff, reduceIte, ite_true, ite_false, or_true, true_or, or_false, false_or, true_imp_iff, false_imp_iff, implies_true, imp_false, and_self, imp_self, and_false, false_and, forall_const, take_map_all, Nat.le_refl, Nat.reduceMul, Nat.reduceSub, List.length_cons, List.length_nil, List.length_map, List.length_set, List.all_cons, List.all_nil, Bool.and_self, Option.map_none, Option.map_some, List.set_cons_zero, List.set_cons_succ, Nat.lt_add_one, List.append_assoc, List.cons_append, List.nil_append, List.append_nil, List.length_append, List.take_zero, List.take_succ_cons, List.take_nil, List.drop_zero, List.drop_succ_cons, List.drop_nil, List.getElem?_cons_zero, List.getElem?_cons_succ, List.getElem?_map, Nat.reduceAdd, Nat.reduceLeDiff, Nat.add_eq_zero_iff, and_self, Nat.zero_add, Nat.add_zero, Nat.mul_one, Nat.one_mul, List.flatten_cons, List.flatten_nil, *]) | (simp only [zgoO, zgoG, zO_nil, zthen_normal, zgoC]) | (with_reducible apply And.intro) | (with_reducible intro _))
  · rintro s' h' rfl ⟨f2, f3, -⟩
    have fin := F0.out
    repeat' (first | (simp only [zmPack, zfree, owners, Nat.reduceLT, List.filter_cons, List.filter_nil, List.contains_cons, List.contains_nil, Nat.reduceBEq, Bool.or_false, Bool.or_true, Bool.false_or, Bool.true_or, BEq.rfl, chunk, setAt, List.lookup_cons, List.lookup_nil, ZV.val.injEq, ZV.ptr.injEq, ZV.own.injEq, ZV.fz.injEq, ZV.func.injEq, ZV.tuple.injEq, ZV.agg.injEq, ZB.box.injEq, ZB.grow.injEq, Bool.not_eq_false', Prod.mk.injEq, and_assoc, decide_false, decide_true, Bool.not_false, Bool.not_true, Bool.true_eq_false, Bool.false_eq_true, exists_false, Bool.not_eq_false, Bool.not_not, Value.bool.injEq, Value.int.injEq, Option.some.injEq, exists_eq_left', exists_eq_left, exists_and_left, exists_and_right, and_true, true_and, decide_eq_true_eq, decide_eq_false_iff_not, if_true, if_false, Bool.not_eq_true', beq_true, beq_false, ne_eq, not_true_eq_false, not_false_eq_true, reduceCtorEq, List.getD_cons_zero, List.getD_cons_succ, List.getD_nil, List.map_cons, List.map_nil, List.append_nil, Nat.reduceEqDiff, reduceIte, ite_true, ite_false, or_true, true_or, or_false, false_or, true_imp_iff, false_imp_iff, implies_true, imp_false, and_self, imp_self, and_false, false_and, forall_const, take_map_all, Nat.le_refl, Nat.reduceMul, Nat.reduceSub, List.length_cons, List.length_nil, List.length_map, List.length_set, List.all_cons, List.all_nil, Bool.and_self, Option.map_none, Option.map_some, List.set_cons_zero, List.set_cons_succ, Nat.lt_add_one, List.append_assoc, List.cons_append, List.nil_append, List.append_nil, List.length_append, List.take_zero, List.take_succ_cons, List.take_nil, List.drop_zero, List.drop_succ_cons, List.drop_nil, List.getElem?_cons_zero, List.getElem?_cons_succ, List.getElem?_map, Nat.reduceAdd, Nat.reduceLeDiff, Nat.add_eq_zero_iff, and_self, Nat.zero_add, Nat.add_zero, Nat.mul_one, Nat.one_mul, List.flatten_cons, List.flatten_nil, *]) | (simp only [zgoO, zgoG, zO_nil, zthen_normal, zgoC]) | (with_reducible apply And.intro) | (with_reducible intro _))
end Go.Proofs.Ytmecaddjeljliaa

namespace Go.Proofs.Ytmecaddjeljliaa
open Go Go.RowKit
set_option linter.unusedVariables false
set_option linter.unusedSimpArgs false
variable {tb : List (FuncId × Bool)} {L : Nat → Bool} {H : ZH} {K : ZV → ZH → Prop}
theorem atN0 {W : ZH} {n : Nat} (h : W.length = n) (A : ZB) (X : ZH) : (W ++ (A :: X))[n]? = some A := by rw [← h, List.getElem?_append_right (Nat.le_refl _), Nat.sub_self]; rfl
theorem atN1 {W : ZH} {n : Nat} (h : W.length = n) (A B : ZB) (X : ZH) : (W ++ (A :: B :: X))[n + 1]? = some B := by rw [← h, List.getElem?_append_right (by omega), Nat.add_sub_cancel_left]; rfl
theorem atN2 {W : ZH} {n : Nat} (h : W.length = n) (A B C : ZB) (X : ZH) : (W ++ (A :: B :: C :: X))[n + 2]? = some C := by rw [← h, List.getElem?_append_right (by omega), Nat.add_sub_cancel_left]; rfl
theorem stN0 {W : ZH} {n : Nat} (h : W.length = n) (A C : ZB) (X : ZH) : (W ++ (A :: X)).set n C = W ++ (C :: X) := by rw [← h, List.set_append_right _ _ (Nat.le_refl _), Nat.sub_self]; rfl
theorem stN1 {W : ZH} {n : Nat} (h : W.length = n) (A B C : ZB) (X : ZH) : (W ++ (A :: B :: X)).set (n + 1) C = W ++ (A :: C :: X) := by rw [← h, List.set_append_right _ _ (by omega), Nat.add_sub_cancel_left]; rfl
theorem stN2 {W : ZH} {n : Nat} (h : W.length = n) (A B D C : ZB) (X : ZH) : (W ++ (A :: B :: D :: X)).set (n + 2) C = W ++ (A :: B :: C :: X) := by rw [← h, List.set_append_right _ _ (by omega), Nat.add_sub_cancel_left]; rfl
theorem pure_refs {n : Nat} {rows : List (List ZV)} (h : rows.flatten.all pureZ = true) : rows.flatten.all (refs1 n) = true := by
  rw [List.all_eq_true] at h ⊢
  intro z hz
  have := h z hz
  cases z <;> simp_all [pureZ, refs1]
theorem FR.weak {Fr : Nat → Prop} {h : Heap} {k : Nat} {ex : Bool} {rows : List (List ZV)} {a : AV} (hf : FR Fr h (.fz k ex rows) a) : FR Fr h (.fz k false rows) a := by
  cases hf with
  | fnil h => rcases h with rfl | ⟨rfl, _⟩; exact .fnil (.inl rfl); exact .fnil (.inr ⟨rfl, rfl⟩)
  | fz cell h1 h2 h3 h4 h5 h6 h7 h8 => exact .fz cell h1 h2 h3 h4 (fun h => by cases h) h6 h7 h8
theorem Fin.weak {H0 : ZH} {k : Nat} {ex : Bool} {rows : List (List ZV)} {H' : ZH} {K : ZV → ZH → Prop} (hk : Fin H0 (.fz k false rows) H' K) : Fin H0 (.fz k ex rows) H' K := fun fl L w w' a r e r' e' he hz => hk fl L w w' a r e r' e' he (.fr (FR.weak hz.fz_inv))
theorem Fin.nilFz {H0 : ZH} {k : Nat} {H' : ZH} {K : ZV → ZH → Prop} (hk : Fin H0 (.fz k false []) H' K) : Fin H0 .nil H' K := fun fl L w w' a r e r' e' he hz => hk fl L w w' a r e r' e' he (.fr (by rw [hz.val_inv]; exact .fnil (.inl rfl)))
theorem app_fzN {L : Nat → Bool} {H : ZH} {k bytes : Nat} {new : List (List ZV)} {v : ZV} {H' : ZH} (hn : new ≠ []) (hr : new.length * bytes ≤ reach) : appZ L H k bytes new (.fz k true []) = some (v, H') ↔ .own H.length 0 0 new.length false = v ∧ H ++ [.grow 0 k new] = H' := by
  simp only [appZ]
  rw [if_pos ⟨trivial, by simpa using hr⟩, if_neg hn]
  simp
theorem app_fzE {L : Nat → Bool} {H : ZH} {k bytes : Nat} {v : ZV} {H' : ZH} : appZ L H k bytes [] (.fz k true []) = some (v, H') ↔ .fz k true [] = v ∧ H = H' := by
  simp only [appZ]
  rw [if_pos ⟨trivial, by simp⟩]
  simp
/-- What comes behind a call is done to its result. -/
theorem ZC.thenF {X : CallT} {F : FuncId → Option AFunc} {f : FuncId} {zs : List ZV} {K1 : ZV → ZH → Prop} (h : ZC X F f zs L H K1) (hk : ∀ z H', K1 z H' → Fin H z H' K) : ZC X F f zs L H K := fun fl w args r e ha => (h fl w args r e ha).mono fun a h' ⟨z, w', e1, r', x, hz, k⟩ => e1 ▸ hk z _ k fl L w w' a r e r' x rfl hz
theorem ZC.frzF {X : CallT} {F : FuncId → Option AFunc} {f : FuncId} {zs : List ZV} {k n : Nat} {rows : List (List ZV)} (h : ZC X F f zs L H fun z H' => z = .own H.length 0 0 n false ∧ H' = H ++ [.grow 0 k rows]) (hn : rows.length = n) (hp : rows.flatten.all pureZ = true) (hK : K (.fz k false rows) H) : ZC X F f zs L H K := by
  refine h.thenF fun z H' ⟨e1, e2⟩ => ?_
  subst e1; subst e2
  refine Fin.frz (k := k) (rows := rows) (H_at0 ..) (by omega) hp ?_
  rw [List.drop_zero, List.take_of_length_le (by omega)]
  exact Fin.trunc (by rw [List.set_append_right _ _ (Nat.le_refl _)]; exact Mods.ext H _) rfl (by rw [List.set_append_right _ _ (Nat.le_refl _), List.take_left]; exact hK)
theorem nil_cons {H : ZH} {k : Nat} {ex : Bool} {a : List ZV} {r : List (List ZV)} : nilZ H 0 (.fz k ex (a :: r)) = some false := rfl
theorem clval_0 {ex : Bool} (hK : K (.fz 2 false []) H) : ZC (constX tb) (cFunc Try.prog) 30 [.fz 2 ex []] L H K := by
  refine ZC.enter Gh.no constX_none f_s_clval (by simp) ?_
  simp only [c_s_clval]
  have fin1 : Fin H .nil H K := Fin.nilFz (k := 2) (Fin.keep hK)
  have fin2 : Fin H (.fz 2 true []) H K := Fin.weak (Fin.keep hK)
  have hnz : ∀ b, nilZ H 0 (.fz 2 ex []) = some b ↔ False := fun b => by simp [nilZ]
  clear hK
  repeat' (first | (simp only [zmPack, zfree, owners, Nat.reduceLT, List.filter_cons, List.filter_nil, List.contains_cons, List.contains_nil, Nat.reduceBEq, Bool.or_false, Bool.or_true, Bool.false_or, Bool.true_or, BEq.rfl, chunk, setAt, List.lookup_cons, List.lookup_nil, ZV.val.injEq, ZV.ptr.injEq, ZV.own.injEq, ZV.fz.injEq, ZV.func.injEq, ZV.tuple.injEq, ZV.agg.injEq, ZB.box.injEq, ZB.grow.injEq, Bool.not_eq_false', Prod.mk.injEq, and_assoc, decide_false, decide_true, Bool.not_false, Bool.not_true, Bool.true_eq_false, Bool.false_eq_true, exists_false, Bool.not_eq_false, Bool.not_not, Value.bool.injEq, Value.int.injEq, Option.some.injEq, exists_eq_left', exists_eq_left, exists_and_left, exists_and_right, and_true, true_and, decide_eq_true_eq, decide_eq_false_iff_not, if_true, if_false, Bool.not_eq_true', beq_true, beq_false, ne_eq, not_true_eq_false, not_false_eq_true, reduceCtorEq, List.getD_cons_zero, List.getD_cons_succ, List.getD_nil, List.map_cons, List.map_nil, List.append_nil, Nat.reduceEqDiff, reduceIte, ite_true, ite_false, or_true, true_or, or_false, false_or, true_imp_iff, false_imp_iff, implies_true, imp_false, and_self, imp_self, and_false, false_and, forall_const, take_map_all, Nat.le_refl, Nat.reduceMul, Nat.reduceSub, List.length_cons, List.length_nil, List.length_map, List.length_set, List.all_cons, List.all_nil, Bool.and_self, Option.map_none, Option.map_some, List.set_cons_zero, List.set_cons_succ, Nat.lt_add_one, List.append_assoc, List.cons_append, List.nil_append, List.append_nil, List.length_append, List.take_zero, List.take_succ_cons, List.take_nil, List.drop_zero, List.drop_succ_cons, List.drop_nil, List.getElem?_cons_zero, List.getElem?_cons_succ, List.getElem?_map, Nat.reduceAdd, Nat.reduceLeDiff, Nat.add_eq_zero_iff, and_self, Nat.zero_add, Nat.add_zero, Nat.mul_one, Nat.one_mul, List.flatten_cons, List.flatten_nil, hnz, app_fzE, *]) | (simp only [zgoO, zgoG, zO_nil, zthen_normal, zgoC]) | (with_reducible apply And.intro) | (with_reducible intro _))
  exact ⟨_, rfl⟩
theorem clval_1 {ex : Bool} {a : List ZV} {r : List (List ZV)} (hr : (a :: r).length * 16 ≤ reach) (hK : K (.own H.length 0 0 (a :: r).length false) (H ++ [.grow 0 2 (a :: r)])) : ZC (constX tb) (cFunc Try.prog) 30 [.fz 2 ex (a :: r)] L H K := by
  refine ZC.enter Gh.no constX_none f_s_clval (by simp) ?_
  simp only [c_s_clval]
  have hap : ∀ L H v H', appZ L H 2 16 (a :: r) (.fz 2 true []) = some (v, H') ↔ .own H.length 0 0 (a :: r).length false = v ∧ H ++ [.grow 0 2 (a :: r)] = H' := fun L H v H' => app_fzN (by simp) hr
  have fin := Fin.keep (H0 := H) hK
  have hne : ∀ k ex, (ZV.fz 2 ex (a :: r) = .fz k ex []) ↔ False := fun k ex => by simp
  clear hK
  obtain ⟨n, hn⟩ : ∃ n, n = (a :: r).length := ⟨_, rfl⟩
  rw [← hn] at hap fin
  clear hn hr
  repeat' (first | (simp only [zmPack, zfree, owners, Nat.reduceLT, List.filter_cons, List.filter_nil, List.contains_cons, List.contains_nil, Nat.reduceBEq, Bool.or_false, Bool.or_true, Bool.false_or, Bool.true_or, BEq.rfl, chunk, setAt, List.lookup_cons, List.lookup_nil, ZV.val.injEq, ZV.ptr.injEq, ZV.own.injEq, ZV.fz.injEq, ZV.func.injEq, ZV.tuple.injEq, ZV.agg.injEq, ZB.box.injEq, ZB.grow.injEq, Bool.not_eq_false', Prod.mk.injEq, and_assoc, decide_false, decide_true, Bool.not_false, Bool.not_true, Bool.true_eq_false, Bool.false_eq_true, exists_false, Bool.not_eq_false, Bool.not_not, Value.bool.injEq, Value.int.injEq, Option.some.injEq, exists_eq_left', exists_eq_left, exists_and_left, exists_and_right, and_true, true_and, decide_eq_true_eq, decide_eq_false_iff_not, if_true, if_false, Bool.not_eq_true', beq_true, beq_false, ne_eq, not_true_eq_false, not_false_eq_true, reduceCtorEq, List.getD_cons_zero, List.getD_cons_succ, List.getD_nil, List.map_cons, List.map_nil, List.append_nil, Nat.reduceEqDiff, reduceIte, ite_true, ite_false, or_true, true_or, or_false, false_or, true_imp_iff, false_imp_iff, implies_true, imp_false, and_self, imp_self, and_false, false_and, forall_const, take_map_all, Nat.le_refl, Nat.reduceMul, Nat.reduceSub, List.length_cons, List.length_nil, List.length_map, List.length_set, List.all_cons, List.all_nil, Bool.and_self, Option.map_none, Option.map_some, List.set_cons_zero, List.set_cons_succ, Nat.lt_add_one, List.append_assoc, List.cons_append, List.nil_append, List.append_nil, List.length_append, List.take_zero, List.take_succ_cons, List.take_nil, List.drop_zero, List.drop_succ_cons, List.drop_nil, List.getElem?_cons_zero, List.getElem?_cons_succ, List.getElem?_map, Nat.reduceAdd, Nat.reduceLeDiff, Nat.add_eq_zero_iff, and_self, Nat.zero_add, Nat.add_zero, Nat.mul_one, Nat.one_mul, List.flatten_cons, List.flatten_nil, nil_cons, hap, hne, *]) | (simp only [zgoO, zgoG, zO_nil, zthen_normal, zgoC]) | (with_reducible apply And.intro) | (with_reducible intro _))
theorem clval_n {ex : Bool} {rows : List (List ZV)} (hne : rows ≠ []) (hr : rows.length * 16 ≤ reach) (hK : K (.own H.length 0 0 rows.length false) (H ++ [.grow 0 2 rows])) : ZC (constX tb) (cFunc Try.prog) 30 [.fz 2 ex rows] L H K := by
  match rows, hne, hr, hK with
  | [], h, _, _ => exact absurd rfl h
  | a :: r, _, hr, hK => exact clval_1 hr hK
/-- Its rows, in a list that nobody writes to. -/
theorem clval_f {ex : Bool} {rows : List (List ZV)} (hp : rows.flatten.all pureZ = true) (hr : rows.length * 16 ≤ reach) (hK : K (.fz 2 false rows) H) : ZC (constX tb) (cFunc Try.prog) 30 [.fz 2 ex rows] L H K := by
  match rows, hr, hp, hK with
  | [], _, _, hK => exact clval_0 hK
  | a :: r, hr, hp, hK => exact ZC.frzF (clval_1 hr ⟨rfl, rfl⟩) rfl hp hK
theorem cltry_0 {ex : Bool} (hK : K (.fz 2 false []) H) : ZC (constX tb) (cFunc Try.prog) 32 [.fz 2 ex []] L H K := by
  refine ZC.enter Gh.no constX_none f_s_cltry (by simp) ?_
  simp only [c_s_cltry]
  have fin1 : Fin H .nil H K := Fin.nilFz (k := 2) (Fin.keep hK)
  have fin2 : Fin H (.fz 2 true []) H K := Fin.weak (Fin.keep hK)
  have hnz : ∀ b, nilZ H 0 (.fz 2 ex []) = some b ↔ False := fun b => by simp [nilZ]
  clear hK
  repeat' (first | (simp only [zmPack, zfree, owners, Nat.reduceLT, List.filter_cons, List.filter_nil, List.contains_cons, List.contains_nil, Nat.reduceBEq, Bool.or_false, Bool.or_true, Bool.false_or, Bool.true_or, BEq.rfl, chunk, setAt, List.lookup_cons, List.lookup_nil, ZV.val.injEq, ZV.ptr.injEq, ZV.own.injEq, ZV.fz.injEq, ZV.func.injEq, ZV.tuple.injEq, ZV.agg.injEq, ZB.box.injEq, ZB.grow.injEq, Bool.not_eq_false', Prod.mk.injEq, and_assoc, decide_false, decide_true, Bool.not_false, Bool.not_true, Bool.true_eq_false, Bool.false_eq_true, exists_false, Bool.not_eq_false, Bool.not_not, Value.bool.injEq, Value.int.injEq, Option.some.injEq, exists_eq_left', exists_eq_left, exists_and_left, exists_and_right, and_true, true_and, decide_eq_true_eq, decide_eq_false_iff_not, if_true, if_false, Bool.not_eq_true', beq_true, beq_false, ne_eq, not_true_eq_false, not_false_eq_true, reduceCtorEq, List.getD_cons_zero, List.getD_cons_succ, List.getD_nil, List.map_cons, List.map_nil, List.append_nil, Nat.reduceEqDiff, reduceIte, ite_true, ite_false, or_true, true_or, or_false, false_or, true_imp_iff, false_imp_iff, implies_true, imp_false, and_self, imp_self, and_false, false_and, forall_const, take_map_all, Nat.le_refl, Nat.reduceMul, Nat.reduceSub, List.length_cons, List.length_nil, List.length_map, List.length_set, List.all_cons, List.all_nil, Bool.and_self, Option.map_none, Option.map_some, List.set_cons_zero, List.set_cons_succ, Nat.lt_add_one, List.append_assoc, List.cons_append, List.nil_append, List.append_nil, List.length_append, List.take_zero, List.take_succ_cons, List.take_nil, List.drop_zero, List.drop_succ_cons, List.drop_nil, List.getElem?_cons_zero, List.getElem?_cons_succ, List.getElem?_map, Nat.reduceAdd, Nat.reduceLeDiff, Nat.add_eq_zero_iff, and_self, Nat.zero_add, Nat.add_zero, Nat.mul_one, Nat.one_mul, List.flatten_cons, List.flatten_nil, hnz, app_fzE, *]) | (simp only [zgoO, zgoG, zO_nil, zthen_normal, zgoC]) | (with_reducible apply And.intro) | (with_reducible intro _))
  exact ⟨_, rfl⟩
theorem cltry_1 {ex : Bool} {a : List ZV} {r : List (List ZV)} (hr : (a :: r).length * 16 ≤ reach) (hK : K (.own H.length 0 0 (a :: r).length false) (H ++ [.grow 0 2 (a :: r)])) : ZC (constX tb) (cFunc Try.prog) 32 [.fz 2 ex (a :: r)] L H K := by
  refine ZC.enter Gh.no constX_none f_s_cltry (by simp) ?_
  simp only [c_s_cltry]
  have hap : ∀ L H v H', appZ L H 2 16 (a :: r) (.fz 2 true []) = some (v, H') ↔ .own H.length 0 0 (a :: r).length false = v ∧ H ++ [.grow 0 2 (a :: r)] = H' := fun L H v H' => app_fzN (by simp) hr
  have fin := Fin.keep (H0 := H) hK
  have hne : ∀ k ex, (ZV.fz 2 ex (a :: r) = .fz k ex []) ↔ False := fun k ex => by simp
  clear hK
  obtain ⟨n, hn⟩ : ∃ n, n = (a :: r).length := ⟨_, rfl⟩
  rw [← hn] at hap fin
  clear hn hr
  repeat' (first | (simp only [zmPack, zfree, owners, Nat.reduceLT, List.filter_cons, List.filter_nil, List.contains_cons, List.contains_nil, Nat.reduceBEq, Bool.or_false, Bool.or_true, Bool.false_or, Bool.true_or, BEq.rfl, chunk, setAt, List.lookup_cons, List.lookup_nil, ZV.val.injEq, ZV.ptr.injEq, ZV.own.injEq, ZV.fz.injEq, ZV.func.injEq, ZV.tuple.injEq, ZV.agg.injEq, ZB.box.injEq, ZB.grow.injEq, Bool.not_eq_false', Prod.mk.injEq, and_assoc, decide_false, decide_true, Bool.not_false, Bool.not_true, Bool.true_eq_false, Bool.false_eq_true, exists_false, Bool.not_eq_false, Bool.not_not, Value.bool.injEq, Value.int.injEq, Option.some.injEq, exists_eq_left', exists_eq_left, exists_and_left, exists_and_right, and_true, true_and, decide_eq_true_eq, decide_eq_false_iff_not, if_true, if_false, Bool.not_eq_true', beq_true, beq_false, ne_eq, not_true_eq_false, not_false_eq_true, reduceCtorEq, List.getD_cons_zero, List.getD_cons_succ, List.getD_nil, List.map_cons, List.map_nil, List.append_nil, Nat.reduceEqDiff, reduceIte, ite_true, ite_false, or_true, true_or, or_false, false_or, true_imp_iff, false_imp_iff, implies_true, imp_false, and_self, imp_self, and_false, false_and, forall_const, take_map_all, Nat.le_refl, Nat.reduceMul, Nat.reduceSub, List.length_cons, List.length_nil, List.length_map, List.length_set, List.all_cons, List.all_nil, Bool.and_self, Option.map_none, Option.map_some, List.set_cons_zero, List.set_cons_succ, Nat.lt_add_one, List.append_assoc, List.cons_append, List.nil_append, List.append_nil, List.length_append, List.take_zero, List.take_succ_cons, List.take_nil, List.drop_zero, List.drop_succ_cons, List.drop_nil, List.getElem?_cons_zero, List.getElem?_cons_succ, List.getElem?_map, Nat.reduceAdd, Nat.reduceLeDiff, Nat.add_eq_zero_iff, and_self, Nat.zero_add, Nat.add_zero, Nat.mul_one, Nat.one_mul, List.flatten_cons, List.flatten_nil, nil_cons, hap, hne, *]) | (simp only [zgoO, zgoG, zO_nil, zthen_normal, zgoC]) | (with_reducible apply And.intro) | (with_reducible intro _))
theorem cltry_n {ex : Bool} {rows : List (List ZV)} (hne : rows ≠ []) (hr : rows.length * 16 ≤ reach) (hK : K (.own H.length 0 0 rows.length false) (H ++ [.grow 0 2 rows])) : ZC (constX tb) (cFunc Try.prog) 32 [.fz 2 ex rows] L H K := by
  match rows, hne, hr, hK with
  | [], h, _, _ => exact absurd rfl h
  | a :: r, _, hr, hK => exact cltry_1 hr hK
/-- Its rows, in a list that nobody writes to. -/
theorem cltry_f {ex : Bool} {rows : List (List ZV)} (hp : rows.flatten.all pureZ = true) (hr : rows.length * 16 ≤ reach) (hK : K (.fz 2 false rows) H) : ZC (constX tb) (cFunc Try.prog) 32 [.fz 2 ex rows] L H K := by
  match rows, hr, hp, hK with
  | [], _, _, hK => exact cltry_0 hK
  | a :: r, hr, hp, hK => exact ZC.frzF (cltry_1 hr ⟨rfl, rfl⟩) rfl hp hK
theorem clcell_0 {ex : Bool} (hK : K (.fz 4 false []) H) : ZC (constX tb) (cFunc Try.prog) 40 [.fz 4 ex []] L H K := by
  refine ZC.enter Gh.no constX_none f_s_clcell (by simp) ?_
  simp only [c_s_clcell]
  have fin1 : Fin H .nil H K := Fin.nilFz (k := 4) (Fin.keep hK)
  have fin2 : Fin H (.fz 4 true []) H K := Fin.weak (Fin.keep hK)
  have hnz : ∀ b, nilZ H 0 (.fz 4 ex []) = some b ↔ False := fun b => by simp [nilZ]
  clear hK
  repeat' (first | (simp only [zmPack, zfree, owners, Nat.reduceLT, List.filter_cons, List.filter_nil, List.contains_cons, List.contains_nil, Nat.reduceBEq, Bool.or_false, Bool.or_true, Bool.false_or, Bool.true_or, BEq.rfl, chunk, setAt, List.lookup_cons, List.lookup_nil, ZV.val.injEq, ZV.ptr.injEq, ZV.own.injEq, ZV.fz.injEq, ZV.func.injEq, ZV.tuple.injEq, ZV.agg.injEq, ZB.box.injEq, ZB.grow.injEq, Bool.not_eq_false', Prod.mk.injEq, and_assoc, decide_false, decide_true, Bool.not_false, Bool.not_true, Bool.true_eq_false, Bool.false_eq_true, exists_false, Bool.not_eq_false, Bool.not_not, Value.bool.injEq, Value.int.injEq, Option.some.injEq, exists_eq_left', exists_eq_left, exists_and_left, exists_and_right, and_true, true_and, decide_eq_true_eq, decide_eq_false_iff_not, if_true, if_false, Bool.not_eq_true', beq_true, beq_false, ne_eq, not_true_eq_false, not_false_eq_true, reduceCtorEq, List.getD_cons_zero, List.getD_cons_succ, List.getD_nil, List.map_cons, List.map_nil, List.append_nil, Nat.reduceEqDiff, reduceIte, ite_true, ite_false, or_true, true_or, or_false, false_or, true_imp_iff, false_imp_iff, implies_true, imp_false, and_self, imp_self, and_false, false_and, forall_const, take_map_all, Nat.le_refl, Nat.reduceMul, Nat.reduceSub, List.length_cons, List.length_nil, List.length_map, List.length_set, List.all_cons, List.all_nil, Bool.and_self, Option.map_none, Option.map_some, List.set_cons_zero, List.set_cons_succ, Nat.lt_add_one, List.append_assoc, List.cons_append, List.nil_append, List.append_nil, List.length_append, List.take_zero, List.take_succ_cons, List.take_nil, List.drop_zero, List.drop_succ_cons, List.drop_nil, List.getElem?_cons_zero, List.getElem?_cons_succ, List.getElem?_map, Nat.reduceAdd, Nat.reduceLeDiff, Nat.add_eq_zero_iff, and_self, Nat.zero_add, Nat.add_zero, Nat.mul_one, Nat.one_mul, List.flatten_cons, List.flatten_nil, hnz, app_fzE, *]) | (simp only [zgoO, zgoG, zO_nil, zthen_normal, zgoC]) | (with_reducible apply And.intro) | (with_reducible intro _))
  exact ⟨_, rfl⟩
theorem clcell_1 {ex : Bool} {a : List ZV} {r : List (List ZV)} (hr : (a :: r).length * 64 ≤ reach) (hK : K (.own H.length 0 0 (a :: r).length false) (H ++ [.grow 0 4 (a :: r)])) : ZC (constX tb) (cFunc Try.prog) 40 [.fz 4 ex (a :: r)] L H K := by
  refine ZC.enter Gh.no constX_none f_s_clcell (by simp) ?_
  simp only [c_s_clcell]
  have hap : ∀ L H v H', appZ L H 4 64 (a :: r) (.fz 4 true []) = some (v, H') ↔ .own H.length 0 0 (a :: r).length false = v ∧ H ++ [.grow 0 4 (a :: r)] = H' := fun L H v H' => app_fzN (by simp) hr
  have fin := Fin.keep (H0 := H) hK
  have hne : ∀ k ex, (ZV.fz 4 ex (a :: r) = .fz k ex []) ↔ False := fun k ex => by simp
  clear hK
  obtain ⟨n, hn⟩ : ∃ n, n = (a :: r).length := ⟨_, rfl⟩
  rw [← hn] at hap fin
  clear hn hr
  repeat' (first | (simp only [zmPack, zfree, owners, Nat.reduceLT, List.filter_cons, List.filter_nil, List.contains_cons, List.contains_nil, Nat.reduceBEq, Bool.or_false, Bool.or_true, Bool.false_or, Bool.true_or, BEq.rfl, chunk, setAt, List.lookup_cons, List.lookup_nil, ZV.val.injEq, ZV.ptr.injEq, ZV.own.injEq, ZV.fz.injEq, ZV.func.injEq, ZV.tuple.injEq, ZV.agg.injEq, ZB.box.injEq, ZB.grow.injEq, Bool.not_eq_false', Prod.mk.injEq, and_assoc, decide_false, decide_true, Bool.not_false, Bool.not_true, Bool.true_eq_false, Bool.false_eq_true, exists_false, Bool.not_eq_false, Bool.not_not, Value.bool.injEq, Value.int.injEq, Option.some.injEq, exists_eq_left', exists_eq_left, exists_and_left, exists_and_right, and_true, true_and, decide_eq_true_eq, decide_eq_false_iff_not, if_true, if_false, Bool.not_eq_true', beq_true, beq_false, ne_eq, not_true_eq_false, not_false_eq_true, reduceCtorEq, List.getD_cons_zero, List.getD_cons_succ, List.getD_nil, List.map_cons, List.map_nil, List.append_nil, Nat.reduceEqDiff, reduceIte, ite_true, ite_false, or_true, true_or, or_false, false_or, true_imp_iff, false_imp_iff, implies_true, imp_false, and_self, imp_self, and_false, false_and, forall_const, take_map_all, Nat.le_refl, Nat.reduceMul, Nat.reduceSub, List.length_cons, List.length_nil, List.length_map, List.length_set, List.all_cons, List.all_nil, Bool.and_self, Option.map_none, Option.map_some, List.set_cons_zero, List.set_cons_succ, Nat.lt_add_one, List.append_assoc, List.cons_append, List.nil_append, List.append_nil, List.length_append, List.take_zero, List.take_succ_cons, List.take_nil, List.drop_zero, List.drop_succ_cons, List.drop_nil, List.getElem?_cons_zero, List.getElem?_cons_succ, List.getElem?_map, Nat.reduceAdd, Nat.reduceLeDiff, Nat.add_eq_zero_iff, and_self, Nat.zero_add, Nat.add_zero, Nat.mul_one, Nat.one_mul, List.flatten_cons, List.flatten_nil, nil_cons, hap, hne, *]) | (simp only [zgoO, zgoG, zO_nil, zthen_normal, zgoC]) | (with_reducible apply And.intro) | (with_reducible intro _))
theorem clcell_n {ex : Bool} {rows : List (List ZV)} (hne : rows ≠ []) (hr : rows.length * 64 ≤ reach) (hK : K (.own H.length 0 0 rows.length false) (H ++ [.grow 0 4 rows])) : ZC (constX tb) (cFunc Try.prog) 40 [.fz 4 ex rows] L H K := by
  match rows, hne, hr, hK with
  | [], h, _, _ => exact absurd rfl h
  | a :: r, _, hr, hK => exact clcell_1 hr hK
/-- Its rows, in a list that nobody writes to. -/
theorem clcell_f {ex : Bool} {rows : List (List ZV)} (hp : rows.flatten.all pureZ = true) (hr : rows.length * 64 ≤ reach) (hK : K (.fz 4 false rows) H) : ZC (constX tb) (cFunc Try.prog) 40 [.fz 4 ex rows] L H K := by
  match rows, hr, hp, hK with
  | [], _, _, hK => exact clcell_0 hK
  | a :: r, hr, hp, hK => exact ZC.frzF (clcell_1 hr ⟨rfl, rfl⟩) rfl hp hK
theorem clframe_0 {ex : Bool} (hK : K (.fz 8 false []) H) : ZC (constX tb) (cFunc Try.prog) 41 [.fz 8 ex []] L H K := by
  refine ZC.enter Gh.no constX_none f_s_clframe (by simp) ?_
  simp only [c_s_clframe]
  have fin1 : Fin H .nil H K := Fin.nilFz (k := 8) (Fin.keep hK)
  have fin2 : Fin H (.fz 8 true []) H K := Fin.weak (Fin.keep hK)
  have hnz : ∀ b, nilZ H 0 (.fz 8 ex []) = some b ↔ False := fun b => by simp [nilZ]
  clear hK
  repeat' (first | (simp only [zmPack, zfree, owners, Nat.reduceLT, List.filter_cons, List.filter_nil, List.contains_cons, List.contains_nil, Nat.reduceBEq, Bool.or_false, Bool.or_true, Bool.false_or, Bool.true_or, BEq.rfl, chunk, setAt, List.lookup_cons, List.lookup_nil, ZV.val.injEq, ZV.ptr.injEq, ZV.own.injEq, ZV.fz.injEq, ZV.func.injEq, ZV.tuple.injEq, ZV.agg.injEq, ZB.box.injEq, ZB.grow.injEq, Bool.not_eq_false', Prod.mk.injEq, and_assoc, decide_false, decide_true, Bool.not_false, Bool.not_true, Bool.true_eq_false, Bool.false_eq_true, exists_false, Bool.not_eq_false, Bool.not_not, Value.bool.injEq, Value.int.injEq, Option.some.injEq, exists_eq_left', exists_eq_left, exists_and_left, exists_and_right, and_true, true_and, decide_eq_true_eq, decide_eq_false_iff_not, if_true, if_false, Bool.not_eq_true', beq_true, beq_false, ne_eq, not_true_eq_false, not_false_eq_true, reduceCtorEq, List.getD_cons_zero, List.getD_cons_succ, List.getD_nil, List.map_cons, List.map_nil, List.append_nil, Nat.reduceEqDiff, reduceIte, ite_true, ite_false, or_true, true_or, or_false, false_or, true_imp_iff, false_imp_iff, implies_true, imp_false, and_self, imp_self, and_false, false_and, forall_const, take_map_all, Nat.le_refl, Nat.reduceMul, Nat.reduceSub, List.length_cons, List.length_nil, List.length_map, List.length_set, List.all_cons, List.all_nil, Bool.and_self, Option.map_none, Option.map_some, List.set_cons_zero, List.set_cons_succ, Nat.lt_add_one, List.append_assoc, List.cons_append, List.nil_append, List.append_nil, List.length_append, List.take_zero, List.take_succ_cons, List.take_nil, List.drop_zero, List.drop_succ_cons, List.drop_nil, List.getElem?_cons_zero, List.getElem?_cons_succ, List.getElem?_map, Nat.reduceAdd, Nat.reduceLeDiff, Nat.add_eq_zero_iff, and_self, Nat.zero_add, Nat.add_zero, Nat.mul_one, Nat.one_mul, List.flatten_cons, List.flatten_nil, hnz, app_fzE, *]) | (simp only [zgoO, zgoG, zO_nil, zthen_normal, zgoC]) | (with_reducible apply And.intro) | (with_reducible intro _))
  exact ⟨_, rfl⟩
theorem clframe_1 {ex : Bool} {a : List ZV} {r : List (List ZV)} (hr : (a :: r).length * 96 ≤ reach) (hK : K (.own H.length 0 0 (a :: r).length false) (H ++ [.grow 0 8 (a :: r)])) : ZC (constX tb) (cFunc Try.prog) 41 [.fz 8 ex (a :: r)] L H K := by
  refine ZC.enter Gh.no constX_none f_s_clframe (by simp) ?_
  simp only [c_s_clframe]
  have hap : ∀ L H v H', appZ L H 8 96 (a :: r) (.fz 8 true []) = some (v, H') ↔ .own H.length 0 0 (a :: r).length false = v ∧ H ++ [.grow 0 8 (a :: r)] = H' := fun L H v H' => app_fzN (by simp) hr
  have fin := Fin.keep (H0 := H) hK
  have hne : ∀ k ex, (ZV.fz 8 ex (a :: r) = .fz k ex []) ↔ False := fun k ex => by simp
  clear hK
  obtain ⟨n, hn⟩ : ∃ n, n = (a :: r).length := ⟨_, rfl⟩
  rw [← hn] at hap fin
  clear hn hr
  repeat' (first | (simp only [zmPack, zfree, owners, Nat.reduceLT, List.filter_cons, List.filter_nil, List.contains_cons, List.contains_nil, Nat.reduceBEq, Bool.or_false, Bool.or_true, Bool.false_or, Bool.true_or, BEq.rfl, chunk, setAt, List.lookup_cons, List.lookup_nil, ZV.val.injEq, ZV.ptr.injEq, ZV.own.injEq, ZV.fz.injEq, ZV.func.injEq, ZV.tuple.injEq, ZV.agg.injEq, ZB.box.injEq, ZB.grow.injEq, Bool.not_eq_false', Prod.mk.injEq, and_assoc, decide_false, decide_true, Bool.not_false, Bool.not_true, Bool.true_eq_false, Bool.false_eq_true, exists_false, Bool.not_eq_false, Bool.not_not, Value.bool.injEq, Value.int.injEq, Option.some.injEq, exists_eq_left', exists_eq_left, exists_and_left, exists_and_right, and_true, true_and, decide_eq_true_eq, decide_eq_false_iff_not, if_true, if_false, Bool.not_eq_true', beq_true, beq_false, ne_eq, not_true_eq_false, not_false_eq_true, reduceCtorEq, List.getD_cons_zero, List.getD_cons_succ, List.getD_nil, List.map_cons, List.map_nil, List.append_nil, Nat.reduceEqDiff, reduceIte, ite_true, ite_false, or_true, true_or, or_false, false_or, true_imp_iff, false_imp_iff, implies_true, imp_false, and_self, imp_self, and_false, false_and, forall_const, take_map_all, Nat.le_refl, Nat.reduceMul, Nat.reduceSub, List.length_cons, List.length_nil, List.length_map, List.length_set, List.all_cons, List.all_nil, Bool.and_self, Option.map_none, Option.map_some, List.set_cons_zero, List.set_cons_succ, Nat.lt_add_one, List.append_assoc, List.cons_append, List.nil_append, List.append_nil, List.length_append, List.take_zero, List.take_succ_cons, List.take_nil, List.drop_zero, List.drop_succ_cons, List.drop_nil, List.getElem?_cons_zero, List.getElem?_cons_succ, List.getElem?_map, Nat.reduceAdd, Nat.reduceLeDiff, Nat.add_eq_zero_iff, and_self, Nat.zero_add, Nat.add_zero, Nat.mul_one, Nat.one_mul, List.flatten_cons, List.flatten_nil, nil_cons, hap, hne, *]) | (simp only [zgoO, zgoG, zO_nil, zthen_normal, zgoC]) | (with_reducible apply And.intro) | (with_reducible intro _))
theorem clframe_n {ex : Bool} {rows : List (List ZV)} (hne : rows ≠ []) (hr : rows.length * 96 ≤ reach) (hK : K (.own H.length 0 0 rows.length false) (H ++ [.grow 0 8 rows])) : ZC (constX tb) (cFunc Try.prog) 41 [.fz 8 ex rows] L H K := by
  match rows, hne, hr, hK with
  | [], h, _, _ => exact absurd rfl h
  | a :: r, _, hr, hK => exact clframe_1 hr hK
/-- Its rows, in a list that nobody writes to. -/
theorem clframe_f {ex : Bool} {rows : List (List ZV)} (hp : rows.flatten.all pureZ = true) (hr : rows.length * 96 ≤ reach) (hK : K (.fz 8 false rows) H) : ZC (constX tb) (cFunc Try.prog) 41 [.fz 8 ex rows] L H K := by
  match rows, hr, hp, hK with
  | [], _, _, hK => exact clframe_0 hK
  | a :: r, hr, hp, hK => exact ZC.frzF (clframe_1 hr ⟨rfl, rfl⟩) rfl hp hK
theorem clthread_0 {ex : Bool} (hK : K (.fz 5 false []) H) : ZC (constX tb) (cFunc Try.prog) 25 [.fz 5 ex []] L H K := by
  refine ZC.enter Gh.no constX_none f_s_clthread (by simp) ?_
  simp only [c_s_clthread]
  have fin1 : Fin H .nil H K := Fin.nilFz (k := 5) (Fin.keep hK)
  have fin2 : Fin H (.fz 5 true []) H K := Fin.weak (Fin.keep hK)
  have hnz : ∀ b, nilZ H 0 (.fz 5 ex []) = some b ↔ False := fun b => by simp [nilZ]
  clear hK
  repeat' (first | (simp only [zmPack, zfree, owners, Nat.reduceLT, List.filter_cons, List.filter_nil, List.contains_cons, List.contains_nil, Nat.reduceBEq, Bool.or_false, Bool.or_true, Bool.false_or, Bool.true_or, BEq.rfl, chunk, setAt, List.lookup_cons, List.lookup_nil, ZV.val.injEq, ZV.ptr.injEq, ZV.own.injEq, ZV.fz.injEq, ZV.func.injEq, ZV.tuple.injEq, ZV.agg.injEq, ZB.box.injEq, ZB.grow.injEq, Bool.not_eq_false', Prod.mk.injEq, and_assoc, decide_false, decide_true, Bool.not_false, Bool.not_true, Bool.true_eq_false, Bool.false_eq_true, exists_false, Bool.not_eq_false, Bool.not_not, Value.bool.injEq, Value.int.injEq, Option.some.injEq, exists_eq_left', exists_eq_left, exists_and_left, exists_and_right, and_true, true_and, decide_eq_true_eq, decide_eq_false_iff_not, if_true, if_false, Bool.not_eq_true', beq_true, beq_false, ne_eq, not_true_eq_false, not_false_eq_true, reduceCtorEq, List.getD_cons_zero, List.getD_cons_succ, List.getD_nil, List.map_cons, List.map_nil, List.append_nil, Nat.reduceEqDiff, reduceIte, ite_true, ite_false, or_true, true_or, or_false, false_or, true_imp_iff, false_imp_iff, implies_true, imp_false, and_self, imp_self, and_false, false_and, forall_const, take_map_all, Nat.le_refl, Nat.reduceMul, Nat.reduceSub, List.length_cons, List.length_nil, List.length_map, List.length_set, List.all_cons, List.all_nil, Bool.and_self, Option.map_none, Option.map_some, List.set_cons_zero, List.set_cons_succ, Nat.lt_add_one, List.append_assoc, List.cons_append, List.nil_append, List.append_nil, List.length_append, List.take_zero, List.take_succ_cons, List.take_nil, List.drop_zero, List.drop_succ_cons, List.drop_nil, List.getElem?_cons_zero, List.getElem?_cons_succ, List.getElem?_map, Nat.reduceAdd, Nat.reduceLeDiff, Nat.add_eq_zero_iff, and_self, Nat.zero_add, Nat.add_zero, Nat.mul_one, Nat.one_mul, List.flatten_cons, List.flatten_nil, hnz, app_fzE, *]) | (simp only [zgoO, zgoG, zO_nil, zthen_normal, zgoC]) | (with_reducible apply And.intro) | (with_reducible intro _))
  exact ⟨_, rfl⟩
theorem clthread_1 {ex : Bool} {a : List ZV} {r : List (List ZV)} (hr : (a :: r).length * 56 ≤ reach) (hK : K (.own H.length 0 0 (a :: r).length false) (H ++ [.grow 0 5 (a :: r)])) : ZC (constX tb) (cFunc Try.prog) 25 [.fz 5 ex (a :: r)] L H K := by
  refine ZC.enter Gh.no constX_none f_s_clthread (by simp) ?_
  simp only [c_s_clthread]
  have hap : ∀ L H v H', appZ L H 5 56 (a :: r) (.fz 5 true []) = some (v, H') ↔ .own H.length 0 0 (a :: r).length false = v ∧ H ++ [.grow 0 5 (a :: r)] = H' := fun L H v H' => app_fzN (by simp) hr
  have fin := Fin.keep (H0 := H) hK
  have hne : ∀ k ex, (ZV.fz 5 ex (a :: r) = .fz k ex []) ↔ False := fun k ex => by simp
  clear hK
  obtain ⟨n, hn⟩ : ∃ n, n = (a :: r).length := ⟨_, rfl⟩
  rw [← hn] at hap fin
  clear hn hr
  repeat' (first | (simp only [zmPack, zfree, owners, Nat.reduceLT, List.filter_cons, List.filter_nil, List.contains_cons, List.contains_nil, Nat.reduceBEq, Bool.or_false, Bool.or_true, Bool.false_or, Bool.true_or, BEq.rfl, chunk, setAt, List.lookup_cons, List.lookup_nil, ZV.val.injEq, ZV.ptr.injEq, ZV.own.injEq, ZV.fz.injEq, ZV.func.injEq, ZV.tuple.injEq, ZV.agg.injEq, ZB.box.injEq, ZB.grow.injEq, Bool.not_eq_false', Prod.mk.injEq, and_assoc, decide_false, decide_true, Bool.not_false, Bool.not_true, Bool.true_eq_false, Bool.false_eq_true, exists_false, Bool.not_eq_false, Bool.not_not, Value.bool.injEq, Value.int.injEq, Option.some.injEq, exists_eq_left', exists_eq_left, exists_and_left, exists_and_right, and_true, true_and, decide_eq_true_eq, decide_eq_false_iff_not, if_true, if_false, Bool.not_eq_true', beq_true, beq_false, ne_eq, not_true_eq_false, not_false_eq_true, reduceCtorEq, List.getD_cons_zero, List.getD_cons_succ, List.getD_nil, List.map_cons, List.map_nil, List.append_nil, Nat.reduceEqDiff, reduceIte, ite_true, ite_false, or_true, true_or, or_false, false_or, true_imp_iff, false_imp_iff, implies_true, imp_false, and_self, imp_self, and_false, false_and, forall_const, take_map_all, Nat.le_refl, Nat.reduceMul, Nat.reduceSub, List.length_cons, List.length_nil, List.length_map, List.length_set, List.all_cons, List.all_nil, Bool.and_self, Option.map_none, Option.map_some, List.set_cons_zero, List.set_cons_succ, Nat.lt_add_one, List.append_assoc, List.cons_append, List.nil_append, List.append_nil, List.length_append, List.take_zero, List.take_succ_cons, List.take_nil, List.drop_zero, List.drop_succ_cons, List.drop_nil, List.getElem?_cons_zero, List.getElem?_cons_succ, List.getElem?_map, Nat.reduceAdd, Nat.reduceLeDiff, Nat.add_eq_zero_iff, and_self, Nat.zero_add, Nat.add_zero, Nat.mul_one, Nat.one_mul, List.flatten_cons, List.flatten_nil, nil_cons, hap, hne, *]) | (simp only [zgoO, zgoG, zO_nil, zthen_normal, zgoC]) | (with_reducible apply And.intro) | (with_reducible intro _))
theorem clthread_n {ex : Bool} {rows : List (List ZV)} (hne : rows ≠ []) (hr : rows.length * 56 ≤ reach) (hK : K (.own H.length 0 0 rows.length false) (H ++ [.grow 0 5 rows])) : ZC (constX tb) (cFunc Try.prog) 25 [.fz 5 ex rows] L H K := by
  match rows, hne, hr, hK with
  | [], h, _, _ => exact absurd rfl h
  | a :: r, _, hr, hK => exact clthread_1 hr hK
/-- Its rows, in a list that nobody writes to. -/
theorem clthread_f {ex : Bool} {rows : List (List ZV)} (hp : rows.flatten.all pureZ = true) (hr : rows.length * 56 ≤ reach) (hK : K (.fz 5 false rows) H) : ZC (constX tb) (cFunc Try.prog) 25 [.fz 5 ex rows] L H K := by
  match rows, hr, hp, hK with
  | [], _, _, hK => exact clthread_0 hK
  | a :: r, hr, hp, hK => exact ZC.frzF (clthread_1 hr ⟨rfl, rfl⟩) rfl hp hK
theorem clshape_0 {ex : Bool} (hK : K (.fz 2 false []) H) : ZC (constX tb) (cFunc Try.prog) 27 [.fz 2 ex []] L H K := by
  refine ZC.enter Gh.no constX_none f_s_clshape (by simp) ?_
  simp only [c_s_clshape]
  have fin1 : Fin H .nil H K := Fin.nilFz (k := 2) (Fin.keep hK)
  have fin2 : Fin H (.fz 2 true []) H K := Fin.weak (Fin.keep hK)
  have hnz : ∀ b, nilZ H 0 (.fz 2 ex []) = some b ↔ False := fun b => by simp [nilZ]
  clear hK
  repeat' (first | (simp only [zmPack, zfree, owners, Nat.reduceLT, List.filter_cons, List.filter_nil, List.contains_cons, List.contains_nil, Nat.reduceBEq, Bool.or_false, Bool.or_true, Bool.false_or, Bool.true_or, BEq.rfl, chunk, setAt, List.lookup_cons, List.lookup_nil, ZV.val.injEq, ZV.ptr.injEq, ZV.own.injEq, ZV.fz.injEq, ZV.func.injEq, ZV.tuple.injEq, ZV.agg.injEq, ZB.box.injEq, ZB.grow.injEq, Bool.not_eq_false', Prod.mk.injEq, and_assoc, decide_false, decide_true, Bool.not_false, Bool.not_true, Bool.true_eq_false, Bool.false_eq_true, exists_false, Bool.not_eq_false, Bool.not_not, Value.bool.injEq, Value.int.injEq, Option.some.injEq, exists_eq_left', exists_eq_left, exists_and_left, exists_and_right, and_true, true_and, decide_eq_true_eq, decide_eq_false_iff_not, if_true, if_false, Bool.not_eq_true', beq_true, beq_false, ne_eq, not_true_eq_false, not_false_eq_true, reduceCtorEq, List.getD_cons_zero, List.getD_cons_succ, List.getD_nil, List.map_cons, List.map_nil, List.append_nil, Nat.reduceEqDiff, reduceIte, ite_true, ite_false, or_true, true_or, or_false, false_or, true_imp_iff, false_imp_iff, implies_true, imp_false, and_self, imp_self, and_false, false_and, forall_const, take_map_all, Nat.le_refl, Nat.reduceMul, Nat.reduceSub, List.length_cons, List.length_nil, List.length_map, List.length_set, List.all_cons, List.all_nil, Bool.and_self, Option.map_none, Option.map_some, List.set_cons_zero, List.set_cons_succ, Nat.lt_add_one, List.append_assoc, List.cons_append, List.nil_append, List.append_nil, List.length_append, List.take_zero, List.take_succ_cons, List.take_nil, List.drop_zero, List.drop_succ_cons, List.drop_nil, List.getElem?_cons_zero, List.getElem?_cons_succ, List.getElem?_map, Nat.reduceAdd, Nat.reduceLeDiff, Nat.add_eq_zero_iff, and_self, Nat.zero_add, Nat.add_zero, Nat.mul_one, Nat.one_mul, List.flatten_cons, List.flatten_nil, hnz, app_fzE, *]) | (simp only [zgoO, zgoG, zO_nil, zthen_normal, zgoC]) | (with_reducible apply And.intro) | (with_reducible intro _))
  exact ⟨_, rfl⟩
theorem clshape_1 {ex : Bool} {a : List ZV} {r : List (List ZV)} (hr : (a :: r).length * 16 ≤ reach) (hK : K (.own H.length 0 0 (a :: r).length false) (H ++ [.grow 0 2 (a :: r)])) : ZC (constX tb) (cFunc Try.prog) 27 [.fz 2 ex (a :: r)] L H K := by
  refine ZC.enter Gh.no constX_none f_s_clshape (by simp) ?_
  simp only [c_s_clshape]
  have hap : ∀ L H v H', appZ L H 2 16 (a :: r) (.fz 2 true []) = some (v, H') ↔ .own H.length 0 0 (a :: r).length false = v ∧ H ++ [.grow 0 2 (a :: r)] = H' := fun L H v H' => app_fzN (by simp) hr
  have fin := Fin.keep (H0 := H) hK
  have hne : ∀ k ex, (ZV.fz 2 ex (a :: r) = .fz k ex []) ↔ False := fun k ex => by simp
  clear hK
  obtain ⟨n, hn⟩ : ∃ n, n = (a :: r).length := ⟨_, rfl⟩
  rw [← hn] at hap fin
  clear hn hr
  repeat' (first | (simp only [zmPack, zfree, owners, Nat.reduceLT, List.filter_cons, List.filter_nil, List.contains_cons, List.contains_nil, Nat.reduceBEq, Bool.or_false, Bool.or_true, Bool.false_or, Bool.true_or, BEq.rfl, chunk, setAt, List.lookup_cons, List.lookup_nil, ZV.val.injEq, ZV.ptr.injEq, ZV.own.injEq, ZV.fz.injEq, ZV.func.injEq, ZV.tuple.injEq, ZV.agg.injEq, ZB.box.injEq, ZB.grow.injEq, Bool.not_eq_false', Prod.mk.injEq, and_assoc, decide_false, decide_true, Bool.not_false, Bool.not_true, Bool.true_eq_false, Bool.false_eq_true, exists_false, Bool.not_eq_false, Bool.not_not, Value.bool.injEq, Value.int.injEq, Option.some.injEq, exists_eq_left', exists_eq_left, exists_and_left, exists_and_right, and_true, true_and, decide_eq_true_eq, decide_eq_false_iff_not, if_true, if_false, Bool.not_eq_true', beq_true, beq_false, ne_eq, not_true_eq_false, not_false_eq_true, reduceCtorEq, List.getD_cons_zero, List.getD_cons_succ, List.getD_nil, List.map_cons, List.map_nil, List.append_nil, Nat.reduceEqDiff, reduceIte, ite_true, ite_false, or_true, true_or, or_false, false_or, true_imp_iff, false_imp_iff, implies_true, imp_false, and_self, imp_self, and_false, false_and, forall_const, take_map_all, Nat.le_refl, Nat.reduceMul, Nat.reduceSub, List.length_cons, List.length_nil, List.length_map, List.length_set, List.all_cons, List.all_nil, Bool.and_self, Option.map_none, Option.map_some, List.set_cons_zero, List.set_cons_succ, Nat.lt_add_one, List.append_assoc, List.cons_append, List.nil_append, List.append_nil, List.length_append, List.take_zero, List.take_succ_cons, List.take_nil, List.drop_zero, List.drop_succ_cons, List.drop_nil, List.getElem?_cons_zero, List.getElem?_cons_succ, List.getElem?_map, Nat.reduceAdd, Nat.reduceLeDiff, Nat.add_eq_zero_iff, and_self, Nat.zero_add, Nat.add_zero, Nat.mul_one, Nat.one_mul, List.flatten_cons, List.flatten_nil, nil_cons, hap, hne, *]) | (simp only [zgoO, zgoG, zO_nil, zthen_normal, zgoC]) | (with_reducible apply And.intro) | (with_reducible intro _))
theorem clshape_n {ex : Bool} {rows : List (List ZV)} (hne : rows ≠ []) (hr : rows.length * 16 ≤ reach) (hK : K (.own H.length 0 0 rows.length false) (H ++ [.grow 0 2 rows])) : ZC (constX tb) (cFunc Try.prog) 27 [.fz 2 ex rows] L H K := by
  match rows, hne, hr, hK with
  | [], h, _, _ => exact absurd rfl h
  | a :: r, _, hr, hK => exact clshape_1 hr hK
/-- Its rows, in a list that nobody writes to. -/
theorem clshape_f {ex : Bool} {rows : List (List ZV)} (hp : rows.flatten.all pureZ = true) (hr : rows.length * 16 ≤ reach) (hK : K (.fz 2 false rows) H) : ZC (constX tb) (cFunc Try.prog) 27 [.fz 2 ex rows] L H K := by
  match rows, hr, hp, hK with
  | [], _, _, hK => exact clshape_0 hK
  | a :: r, hr, hp, hK => exact ZC.frzF (clshape_1 hr ⟨rfl, rfl⟩) rfl hp hK
theorem clstring_0 {ex : Bool} (hK : K (.fz 1 false []) H) : ZC (constX tb) (cFunc Try.prog) 28 [.fz 1 ex []] L H K := by
  refine ZC.enter Gh.no constX_none f_s_clstring (by simp) ?_
  simp only [c_s_clstring]
  have fin1 : Fin H .nil H K := Fin.nilFz (k := 1) (Fin.keep hK)
  have fin2 : Fin H (.fz 1 true []) H K := Fin.weak (Fin.keep hK)
  have hnz : ∀ b, nilZ H 0 (.fz 1 ex []) = some b ↔ False := fun b => by simp [nilZ]
  clear hK
  repeat' (first | (simp only [zmPack, zfree, owners, Nat.reduceLT, List.filter_cons, List.filter_nil, List.contains_cons, List.contains_nil, Nat.reduceBEq, Bool.or_false, Bool.or_true, Bool.false_or, Bool.true_or, BEq.rfl, chunk, setAt, List.lookup_cons, List.lookup_nil, ZV.val.injEq, ZV.ptr.injEq, ZV.own.injEq, ZV.fz.injEq, ZV.func.injEq, ZV.tuple.injEq, ZV.agg.injEq, ZB.box.injEq, ZB.grow.injEq, Bool.not_eq_false', Prod.mk.injEq, and_assoc, decide_false, decide_true, Bool.not_false, Bool.not_true, Bool.true_eq_false, Bool.false_eq_true, exists_false, Bool.not_eq_false, Bool.not_not, Value.bool.injEq, Value.int.injEq, Option.some.injEq, exists_eq_left', exists_eq_left, exists_and_left, exists_and_right, and_true, true_and, decide_eq_true_eq, decide_eq_false_iff_not, if_true, if_false, Bool.not_eq_true', beq_true, beq_false, ne_eq, not_true_eq_false, not_false_eq_true, reduceCtorEq, List.getD_cons_zero, List.getD_cons_succ, List.getD_nil, List.map_cons, List.map_nil, List.append_nil, Nat.reduceEqDiff, reduceIte, ite_true, ite_false, or_true, true_or, or_false, false_or, true_imp_iff, false_imp_iff, implies_true, imp_false, and_self, imp_self, and_false, false_and, forall_const, take_map_all, Nat.le_refl, Nat.reduceMul, Nat.reduceSub, List.length_cons, List.length_nil, List.length_map, List.length_set, List.all_cons, List.all_nil, Bool.and_self, Option.map_none, Option.map_some, List.set_cons_zero, List.set_cons_succ, Nat.lt_add_one, List.append_assoc, List.cons_append, List.nil_append, List.append_nil, List.length_append, List.take_zero, List.take_succ_cons, List.take_nil, List.drop_zero, List.drop_succ_cons, List.drop_nil, List.getElem?_cons_zero, List.getElem?_cons_succ, List.getElem?_map, Nat.reduceAdd, Nat.reduceLeDiff, Nat.add_eq_zero_iff, and_self, Nat.zero_add, Nat.add_zero, Nat.mul_one, Nat.one_mul, List.flatten_cons, List.flatten_nil, hnz, app_fzE, *]) | (simp only [zgoO, zgoG, zO_nil, zthen_normal, zgoC]) | (with_reducible apply And.intro) | (with_reducible intro _))
  exact ⟨_, rfl⟩
theorem clstring_1 {ex : Bool} {a : List ZV} {r : List (List ZV)} (hr : (a :: r).length * 16 ≤ reach) (hK : K (.own H.length 0 0 (a :: r).length false) (H ++ [.grow 0 1 (a :: r)])) : ZC (constX tb) (cFunc Try.prog) 28 [.fz 1 ex (a :: r)] L H K := by
  refine ZC.enter Gh.no constX_none f_s_clstring (by simp) ?_
  simp only [c_s_clstring]
  have hap : ∀ L H v H', appZ L H 1 16 (a :: r) (.fz 1 true []) = some (v, H') ↔ .own H.length 0 0 (a :: r).length false = v ∧ H ++ [.grow 0 1 (a :: r)] = H' := fun L H v H' => app_fzN (by simp) hr
  have fin := Fin.keep (H0 := H) hK
  have hne : ∀ k ex, (ZV.fz 1 ex (a :: r) = .fz k ex []) ↔ False := fun k ex => by simp
  clear hK
  obtain ⟨n, hn⟩ : ∃ n, n = (a :: r).length := ⟨_, rfl⟩
  rw [← hn] at hap fin
  clear hn hr
  repeat' (first | (simp only [zmPack, zfree, owners, Nat.reduceLT, List.filter_cons, List.filter_nil, List.contains_cons, List.contains_nil, Nat.reduceBEq, Bool.or_false, Bool.or_true, Bool.false_or, Bool.true_or, BEq.rfl, chunk, setAt, List.lookup_cons, List.lookup_nil, ZV.val.injEq, ZV.ptr.injEq, ZV.own.injEq, ZV.fz.injEq, ZV.func.injEq, ZV.tuple.injEq, ZV.agg.injEq, ZB.box.injEq, ZB.grow.injEq, Bool.not_eq_false', Prod.mk.injEq, and_assoc, decide_false, decide_true, Bool.not_false, Bool.not_true, Bool.true_eq_false, Bool.false_eq_true, exists_false, Bool.not_eq_false, Bool.not_not, Value.bool.injEq, Value.int.injEq, Option.some.injEq, exists_eq_left', exists_eq_left, exists_and_left, exists_and_right, and_true, true_and, decide_eq_true_eq, decide_eq_false_iff_not, if_true, if_false, Bool.not_eq_true', beq_true, beq_false, ne_eq, not_true_eq_false, not_false_eq_true, reduceCtorEq, List.getD_cons_zero, List.getD_cons_succ, List.getD_nil, List.map_cons, List.map_nil, List.append_nil, Nat.reduceEqDiff, reduceIte, ite_true, ite_false, or_true, true_or, or_false, false_or, true_imp_iff, false_imp_iff, implies_true, imp_false, and_self, imp_self, and_false, false_and, forall_const, take_map_all, Nat.le_refl, Nat.reduceMul, Nat.reduceSub, List.length_cons, List.length_nil, List.length_map, List.length_set, List.all_cons, List.all_nil, Bool.and_self, Option.map_none, Option.map_some, List.set_cons_zero, List.set_cons_succ, Nat.lt_add_one, List.append_assoc, List.cons_append, List.nil_append, List.append_nil, List.length_append, List.take_zero, List.take_succ_cons, List.take_nil, List.drop_zero, List.drop_succ_cons, List.drop_nil, List.getElem?_cons_zero, List.getElem?_cons_succ, List.getElem?_map, Nat.reduceAdd, Nat.reduceLeDiff, Nat.add_eq_zero_iff, and_self, Nat.zero_add, Nat.add_zero, Nat.mul_one, Nat.one_mul, List.flatten_cons, List.flatten_nil, nil_cons, hap, hne, *]) | (simp only [zgoO, zgoG, zO_nil, zthen_normal, zgoC]) | (with_reducible apply And.intro) | (with_reducible intro _))
theorem clstring_n {ex : Bool} {rows : List (List ZV)} (hne : rows ≠ []) (hr : rows.length * 16 ≤ reach) (hK : K (.own H.length 0 0 rows.length false) (H ++ [.grow 0 1 rows])) : ZC (constX tb) (cFunc Try.prog) 28 [.fz 1 ex rows] L H K := by
  match rows, hne, hr, hK with
  | [], h, _, _ => exact absurd rfl h
  | a :: r, _, hr, hK => exact clstring_1 hr hK
/-- Its rows, in a list that nobody writes to. -/
theorem clstring_f {ex : Bool} {rows : List (List ZV)} (hp : rows.flatten.all pureZ = true) (hr : rows.length * 16 ≤ reach) (hK : K (.fz 1 false rows) H) : ZC (constX tb) (cFunc Try.prog) 28 [.fz 1 ex rows] L H K := by
  match rows, hr, hp, hK with
  | [], _, _, hK => exact clstring_0 hK
  | a :: r, hr, hp, hK => exact ZC.frzF (clstring_1 hr ⟨rfl, rfl⟩) rfl hp hK
theorem clend_0 {ex : Bool} (hK : K (.fz 3 false []) H) : ZC (constX tb) (cFunc Try.prog) 29 [.fz 3 ex []] L H K := by
  refine ZC.enter Gh.no constX_none f_s_clend (by simp) ?_
  simp only [c_s_clend]
  have fin1 : Fin H .nil H K := Fin.nilFz (k := 3) (Fin.keep hK)
  have fin2 : Fin H (.fz 3 true []) H K := Fin.weak (Fin.keep hK)
  have hnz : ∀ b, nilZ H 0 (.fz 3 ex []) = some b ↔ False := fun b => by simp [nilZ]
  clear hK
  repeat' (first | (simp only [zmPack, zfree, owners, Nat.reduceLT, List.filter_cons, List.filter_nil, List.contains_cons, List.contains_nil, Nat.reduceBEq, Bool.or_false, Bool.or_true, Bool.false_or, Bool.true_or, BEq.rfl, chunk, setAt, List.lookup_cons, List.lookup_nil, ZV.val.injEq, ZV.ptr.injEq, ZV.own.injEq, ZV.fz.injEq, ZV.func.injEq, ZV.tuple.injEq, ZV.agg.injEq, ZB.box.injEq, ZB.grow.injEq, Bool.not_eq_false', Prod.mk.injEq, and_assoc, decide_false, decide_true, Bool.not_false, Bool.not_true, Bool.true_eq_false, Bool.false_eq_true, exists_false, Bool.not_eq_false, Bool.not_not, Value.bool.injEq, Value.int.injEq, Option.some.injEq, exists_eq_left', exists_eq_left, exists_and_left, exists_and_right, and_true, true_and, decide_eq_true_eq, decide_eq_false_iff_not, if_true, if_false, Bool.not_eq_true', beq_true, beq_false, ne_eq, not_true_eq_false, not_false_eq_true, reduceCtorEq, List.getD_cons_zero, List.getD_cons_succ, List.getD_nil, List.map_cons, List.map_nil, List.append_nil, Nat.reduceEqDiff, reduceIte, ite_true, ite_false, or_true, true_or, or_false, false_or, true_imp_iff, false_imp_iff, implies_true, imp_false, and_self, imp_self, and_false, false_and, forall_const, take_map_all, Nat.le_refl, Nat.reduceMul, Nat.reduceSub, List.length_cons, List.length_nil, List.length_map, List.length_set, List.all_cons, List.all_nil, Bool.and_self, Option.map_none, Option.map_some, List.set_cons_zero, List.set_cons_succ, Nat.lt_add_one, List.append_assoc, List.cons_append, List.nil_append, List.append_nil, List.length_append, List.take_zero, List.take_succ_cons, List.take_nil, List.drop_zero, List.drop_succ_cons, List.drop_nil, List.getElem?_cons_zero, List.getElem?_cons_succ, List.getElem?_map, Nat.reduceAdd, Nat.reduceLeDiff, Nat.add_eq_zero_iff, and_self, Nat.zero_add, Nat.add_zero, Nat.mul_one, Nat.one_mul, List.flatten_cons, List.flatten_nil, hnz, app_fzE, *]) | (simp only [zgoO, zgoG, zO_nil, zthen_normal, zgoC]) | (with_reducible apply And.intro) | (with_reducible intro _))
  exact ⟨_, rfl⟩
theorem clend_1 {ex : Bool} {a : List ZV} {r : List (List ZV)} (hr : (a :: r).length * 24 ≤ reach) (hK : K (.own H.length 0 0 (a :: r).length false) (H ++ [.grow 0 3 (a :: r)])) : ZC (constX tb) (cFunc Try.prog) 29 [.fz 3 ex (a :: r)] L H K := by
  refine ZC.enter Gh.no constX_none f_s_clend (by simp) ?_
  simp only [c_s_clend]
  have hap : ∀ L H v H', appZ L H 3 24 (a :: r) (.fz 3 true []) = some (v, H') ↔ .own H.length 0 0 (a :: r).length false = v ∧ H ++ [.grow 0 3 (a :: r)] = H' := fun L H v H' => app_fzN (by simp) hr
  have fin := Fin.keep (H0 := H) hK
  have hne : ∀ k ex, (ZV.fz 3 ex (a :: r) = .fz k ex []) ↔ False := fun k ex => by simp
  clear hK
  obtain ⟨n, hn⟩ : ∃ n, n = (a :: r).length := ⟨_, rfl⟩
  rw [← hn] at hap fin
  clear hn hr
  repeat' (first | (simp only [zmPack, zfree, owners, Nat.reduceLT, List.filter_cons, List.filter_nil, List.contains_cons, List.contains_nil, Nat.reduceBEq, Bool.or_false, Bool.or_true, Bool.false_or, Bool.true_or, BEq.rfl, chunk, setAt, List.lookup_cons, List.lookup_nil, ZV.val.injEq, ZV.ptr.injEq, ZV.own.injEq, ZV.fz.injEq, ZV.func.injEq, ZV.tuple.injEq, ZV.agg.injEq, ZB.box.injEq, ZB.grow.injEq, Bool.not_eq_false', Prod.mk.injEq, and_assoc, decide_false, decide_true, Bool.not_false, Bool.not_true, Bool.true_eq_false, Bool.false_eq_true, exists_false, Bool.not_eq_false, Bool.not_not, Value.bool.injEq, Value.int.injEq, Option.some.injEq, exists_eq_left', exists_eq_left, exists_and_left, exists_and_right, and_true, true_and, decide_eq_true_eq, decide_eq_false_iff_not, if_true, if_false, Bool.not_eq_true', beq_true, beq_false, ne_eq, not_true_eq_false, not_false_eq_true, reduceCtorEq, List.getD_cons_zero, List.getD_cons_succ, List.getD_nil, List.map_cons, List.map_nil, List.append_nil, Nat.reduceEqDiff, reduceIte, ite_true, ite_false, or_true, true_or, or_false, false_or, true_imp_iff, false_imp_iff, implies_true, imp_false, and_self, imp_self, and_false, false_and, forall_const, take_map_all, Nat.le_refl, Nat.reduceMul, Nat.reduceSub, List.length_cons, List.length_nil, List.length_map, List.length_set, List.all_cons, List.all_nil, Bool.and_self, Option.map_none, Option.map_some, List.set_cons_zero, List.set_cons_succ, Nat.lt_add_one, List.append_assoc, List.cons_append, List.nil_append, List.append_nil, List.length_append, List.take_zero, List.take_succ_cons, List.take_nil, List.drop_zero, List.drop_succ_cons, List.drop_nil, List.getElem?_cons_zero, List.getElem?_cons_succ, List.getElem?_map, Nat.reduceAdd, Nat.reduceLeDiff, Nat.add_eq_zero_iff, and_self, Nat.zero_add, Nat.add_zero, Nat.mul_one, Nat.one_mul, List.flatten_cons, List.flatten_nil, nil_cons, hap, hne, *]) | (simp only [zgoO, zgoG, zO_nil, zthen_normal, zgoC]) | (with_reducible apply And.intro) | (with_reducible intro _))
theorem clend_n {ex : Bool} {rows : List (List ZV)} (hne : rows ≠ []) (hr : rows.length * 24 ≤ reach) (hK : K (.own H.length 0 0 rows.length false) (H ++ [.grow 0 3 rows])) : ZC (constX tb) (cFunc Try.prog) 29 [.fz 3 ex rows] L H K := by
  match rows, hne, hr, hK with
  | [], h, _, _ => exact absurd rfl h
  | a :: r, _, hr, hK => exact clend_1 hr hK
/-- Its rows, in a list that nobody writes to. -/
theorem clend_f {ex : Bool} {rows : List (List ZV)} (hp : rows.flatten.all pureZ = true) (hr : rows.length * 24 ≤ reach) (hK : K (.fz 3 false rows) H) : ZC (constX tb) (cFunc Try.prog) 29 [.fz 3 ex rows] L H K := by
  match rows, hr, hp, hK with
  | [], _, _, hK => exact clend_0 hK
  | a :: r, hr, hp, hK => exact ZC.frzF (clend_1 hr ⟨rfl, rfl⟩) rfl hp hK
end Go.Proofs.Ytmecaddjeljliaa

namespace Go.Proofs.Ytmecaddjeljliaa
open Go Go.RowKit
set_option linter.unusedVariables false
set_option linter.unusedSimpArgs false
variable {tb : List (FuncId × Bool)} {L : Nat → Bool} {H : ZH} {K : ZV → ZH → Prop}
theorem pureP {l : List (Int × Int)} : (l.map eP).flatten.all pureZ = true := pure_mapI fun _ => rfl
theorem pureF {l : List Fr} : (l.map eF).flatten.all pureZ = true := pure_mapI fun _ => rfl
theorem pureC {l : List Cl} : (l.map eC).flatten.all pureZ = true := pure_mapI fun _ => rfl
/-- Lists that can be made again. -/
def frS (f : Fr) : Prop := f.2.2.2.2.2.1.length * 16 ≤ reach ∧ f.2.2.2.2.2.2.length * 16 ≤ reach
def clS (c : Cl) : Prop := c.2.2.1.length * 16 ≤ reach ∧ c.2.2.2.length * 96 ≤ reach ∧ ∀ f ∈ c.2.2.2, frS f
set_option maxHeartbeats 2000000 in
theorem frames_1 {ex : Bool} {fs : List Fr} (hne : fs ≠ []) (hr : fs.length * 96 ≤ reach) (hs : ∀ f ∈ fs, frS f) (hK : K (.own H.length 0 0 fs.length false) (H ++ [.grow 0 8 (fs.map eF)])) :
    ZC (constX tb) (cFunc Try.prog) 26 [.fz 8 ex (fs.map eF)] L H K := by
  refine ZC.enterL Gh.no constX_none f_lv_frames (by simp) fun hL => ?_
  simp only [c_lv_frames]
  have fin : ∀ X, Fin H (.own H.length 0 0 fs.length false) (H ++ (.grow 0 8 (fs.map eF) :: X)) K := fun X => by
    refine Fin.own (k := 8) (rows := fs.map eF) (Mods.ext H _) (Nat.le_refl _) (atN0 rfl _ _) (by simp) (pure_refs pureF) ?_
    rw [List.take_left, List.drop_zero, take_map_all]
    exact hK
  have HS := Lib.hid hs
  have hlen : fs.length < 9223372036854775807 := by unfold reach at hr; omega
  clear hK hs
  have hne2 := Lib.hid hne
  clear hne
  repeat' (first | (simp only [zmPack, zfree, owners, Nat.reduceLT, List.filter_cons, List.filter_nil, List.contains_cons, List.contains_nil, Nat.reduceBEq, Bool.or_false, Bool.or_true, Bool.false_or, Bool.true_or, BEq.rfl, chunk, setAt, List.lookup_cons, List.lookup_nil, ZV.val.injEq, ZV.ptr.injEq, ZV.own.injEq, ZV.fz.injEq, ZV.func.injEq, ZV.tuple.injEq, ZV.agg.injEq, ZB.box.injEq, ZB.grow.injEq, Bool.not_eq_false', Prod.mk.injEq, and_assoc, decide_false, decide_true, Bool.not_false, Bool.not_true, Bool.true_eq_false, Bool.false_eq_true, exists_false, Bool.not_eq_false, Bool.not_not, Value.bool.injEq, Value.int.injEq, Option.some.injEq, exists_eq_left', exists_eq_left, exists_and_left, exists_and_right, and_true, true_and, decide_eq_true_eq, decide_eq_false_iff_not, if_true, if_false, Bool.not_eq_true', beq_true, beq_false, ne_eq, not_true_eq_false, not_false_eq_true, reduceCtorEq, List.getD_cons_zero, List.getD_cons_succ, List.getD_nil, List.map_cons, List.map_nil, List.append_nil, Nat.reduceEqDiff, reduceIte, ite_true, ite_false, or_true, true_or, or_false, false_or, true_imp_iff, false_imp_iff, implies_true, imp_false, and_self, imp_self, and_false, false_and, forall_const, take_map_all, Nat.le_refl, Nat.reduceMul, Nat.reduceSub, List.length_cons, List.length_nil, List.length_map, List.length_set, List.all_cons, List.all_nil, Bool.and_self, Option.map_none, Option.map_some, List.set_cons_zero, List.set_cons_succ, Nat.lt_add_one, List.append_assoc, List.cons_append, List.nil_append, List.append_nil, List.length_append, List.take_zero, List.take_succ_cons, List.take_nil, List.drop_zero, List.drop_succ_cons, List.drop_nil, List.getElem?_cons_zero, List.getElem?_cons_succ, List.getElem?_map, Nat.reduceAdd, Nat.reduceLeDiff, Nat.add_eq_zero_iff, and_self, Nat.zero_add, Nat.add_zero, Nat.mul_one, Nat.one_mul, List.flatten_cons, List.flatten_nil, *]) | (simp only [zgoO, zgoG, zO_nil, zthen_normal, zgoC]) | (with_reducible apply And.intro) | (with_reducible intro _))
  refine clframe_n (by simpa using hne2.out) (by rw [List.length_map]; exact hr) ?_
  rw [List.length_map]
  clear hr
  repeat' (first | (simp only [zmPack, zfree, owners, Nat.reduceLT, List.filter_cons, List.filter_nil, List.contains_cons, List.contains_nil, Nat.reduceBEq, Bool.or_false, Bool.or_true, Bool.false_or, Bool.true_or, BEq.rfl, chunk, setAt, List.lookup_cons, List.lookup_nil, ZV.val.injEq, ZV.ptr.injEq, ZV.own.injEq, ZV.fz.injEq, ZV.func.injEq, ZV.tuple.injEq, ZV.agg.injEq, ZB.box.injEq, ZB.grow.injEq, Bool.not_eq_false', Prod.mk.injEq, and_assoc, decide_false, decide_true, Bool.not_false, Bool.not_true, Bool.true_eq_false, Bool.false_eq_true, exists_false, Bool.not_eq_false, Bool.not_not, Value.bool.injEq, Value.int.injEq, Option.some.injEq, exists_eq_left', exists_eq_left, exists_and_left, exists_and_right, and_true, true_and, decide_eq_true_eq, decide_eq_false_iff_not, if_true, if_false, Bool.not_eq_true', beq_true, beq_false, ne_eq, not_true_eq_false, not_false_eq_true, reduceCtorEq, List.getD_cons_zero, List.getD_cons_succ, List.getD_nil, List.map_cons, List.map_nil, List.append_nil, Nat.reduceEqDiff, reduceIte, ite_true, ite_false, or_true, true_or, or_false, false_or, true_imp_iff, false_imp_iff, implies_true, imp_false, and_self, imp_self, and_false, false_and, forall_const, take_map_all, Nat.le_refl, Nat.reduceMul, Nat.reduceSub, List.length_cons, List.length_nil, List.length_map, List.length_set, List.all_cons, List.all_nil, Bool.and_self, Option.map_none, Option.map_some, List.set_cons_zero, List.set_cons_succ, Nat.lt_add_one, List.append_assoc, List.cons_append, List.nil_append, List.append_nil, List.length_append, List.take_zero, List.take_succ_cons, List.take_nil, List.drop_zero, List.drop_succ_cons, List.drop_nil, List.getElem?_cons_zero, List.getElem?_cons_succ, List.getElem?_map, Nat.reduceAdd, Nat.reduceLeDiff, Nat.add_eq_zero_iff, and_self, Nat.zero_add, Nat.add_zero, Nat.mul_one, Nat.one_mul, List.flatten_cons, List.flatten_nil, *]) | (simp only [zgoO, zgoG, zO_nil, zthen_normal, zgoC]) | (with_reducible apply And.intro) | (with_reducible intro _))
  refine zW_forK [(3, .own H.length 0 0 fs.length false), (8, .fz 8 ex (fs.map eF))] fs.length (fun k s' h' => ∃ X, h' = H ++ (.grow 0 8 (fs.map eF) :: X)) (by omega) ⟨rfl, rfl, rfl, rfl, rfl, rfl⟩ rfl rfl (by repeat' (first | exact trivial | (refine ⟨rfl, ?_⟩) | (refine ⟨by simp only [zupd_at, Nat.reduceEqDiff, reduceIte]; assumption, ?_⟩))) rfl rfl (by decide) ⟨[], rfl⟩ ?_ ?_
  · rintro k s' h' hk ⟨X, rfl⟩ hi hl ⟨f3, f8, -⟩
    have hx : fs[k]? = some fs[k] := List.getElem?_eq_getElem hk
    obtain ⟨s1, s2⟩ := HS.out fs[k] (List.getElem_mem hk)
    have hset : (fs.map eF).set k (eF fs[k]) = fs.map eF := by
      apply List.ext_getElem?
      intro j
      rw [List.getElem?_set]
      split
      · rename_i e; subst e; simp [hk]
      · rfl
    have hlt : k < fs.length := hk
    obtain ⟨q, hq⟩ : ∃ q, q = fs[k] := ⟨_, rfl⟩
    rw [← hq] at hx s1 s2 hset
    obtain ⟨a1, a2, a3, a4, ⟨a5, a6⟩, rg, tr⟩ := q
    simp only at s1 s2 hset
    have a0 : ∀ A C : ZB, (H ++ (A :: (X ++ [C])))[H.length + (X.length + 1)]? = some C := fun A C => by rw [List.getElem?_append_right (by omega), Nat.add_sub_cancel_left, List.getElem?_cons_succ, List.getElem?_append_right (Nat.le_refl _), Nat.sub_self]; rfl
    have s0 : ∀ A C D : ZB, (H ++ (A :: (X ++ [C]))).set (H.length + (X.length + 1)) D = H ++ (A :: (X ++ [D])) := fun A C D => by rw [List.set_append_right _ _ (by omega), Nat.add_sub_cancel_left, List.set_cons_succ, List.set_append_right _ _ (Nat.le_refl _), Nat.sub_self]; rfl
    have g0 : ∀ A Y, (H ++ (A :: Y))[H.length]? = some A := fun A Y => atN0 rfl A Y
    have g1 : ∀ A C Y, (H ++ (A :: Y)).set H.length C = H ++ (C :: Y) := fun A C Y => stN0 rfl A C Y
    have lx : L (H.length + (X.length + 1)) = true := hL _
    have l0 : L H.length = true := hL 0
    have hlt2 : H.length + (X.length + 1) < H.length + (X.length + 1 + 1) := by omega
    have hnb : (H.length == H.length + (X.length + 1)) = false := by simp
    clear hq
    repeat' (first | (simp only [zmPack, zfree, owners, Nat.reduceLT, List.filter_cons, List.filter_nil, List.contains_cons, List.contains_nil, Nat.reduceBEq, Bool.or_false, Bool.or_true, Bool.false_or, Bool.true_or, BEq.rfl, chunk, setAt, List.lookup_cons, List.lookup_nil, ZV.val.injEq, ZV.ptr.injEq, ZV.own.injEq, ZV.fz.injEq, ZV.func.injEq, ZV.tuple.injEq, ZV.agg.injEq, ZB.box.injEq, ZB.grow.injEq, Bool.not_eq_false', Prod.mk.injEq, and_assoc, decide_false, decide_true, Bool.not_false, Bool.not_true, Bool.true_eq_false, Bool.false_eq_true, exists_false, Bool.not_eq_false, Bool.not_not, Value.bool.injEq, Value.int.injEq, Option.some.injEq, exists_eq_left', exists_eq_left, exists_and_left, exists_and_right, and_true, true_and, decide_eq_true_eq, decide_eq_false_iff_not, if_true, if_false, Bool.not_eq_true', beq_true, beq_false, ne_eq, not_true_eq_false, not_false_eq_true, reduceCtorEq, List.getD_cons_zero, List.getD_cons_succ, List.getD_nil, List.map_cons, List.map_nil, List.append_nil, Nat.reduceEqDiff, reduceIte, ite_true, ite_false, or_true, true_or, or_false, false_or, true_imp_iff, false_imp_iff, implies_true, imp_false, and_self, imp_self, and_false, false_and, forall_const, take_map_all, Nat.le_refl, Nat.reduceMul, Nat.reduceSub, List.length_cons, List.length_nil, List.length_map, List.length_set, List.all_cons, List.all_nil, Bool.and_self, Option.map_none, Option.map_some, List.set_cons_zero, List.set_cons_succ, Nat.lt_add_one, List.append_assoc, List.cons_append, List.nil_append, List.append_nil, List.length_append, List.take_zero, List.take_succ_cons, List.take_nil, List.drop_zero, List.drop_succ_cons, List.drop_nil, List.getElem?_cons_zero, List.getElem?_cons_succ, List.getElem?_map, Nat.reduceAdd, Nat.reduceLeDiff, Nat.add_eq_zero_iff, and_self, Nat.zero_add, Nat.add_zero, Nat.mul_one, Nat.one_mul, List.flatten_cons, List.flatten_nil, hx, a0, s0, g0, g1, lx, l0, *]) | (simp only [zgoO, zgoG, zO_nil, zthen_normal, zgoC]) | (with_reducible apply And.intro) | (with_reducible intro _))
    refine clval_f pureP (by rw [List.length_map]; exact s1) ?_
    repeat' (first | (simp only [zmPack, zfree, owners, Nat.reduceLT, List.filter_cons, List.filter_nil, List.contains_cons, List.contains_nil, Nat.reduceBEq, Bool.or_false, Bool.or_true, Bool.false_or, Bool.true_or, BEq.rfl, chunk, setAt, List.lookup_cons, List.lookup_nil, ZV.val.injEq, ZV.ptr.injEq, ZV.own.injEq, ZV.fz.injEq, ZV.func.injEq, ZV.tuple.injEq, ZV.agg.injEq, ZB.box.injEq, ZB.grow.injEq, Bool.not_eq_false', Prod.mk.injEq, and_assoc, decide_false, decide_true, Bool.not_false, Bool.not_true, Bool.true_eq_false, Bool.false_eq_true, exists_false, Bool.not_eq_false, Bool.not_not, Value.bool.injEq, Value.int.injEq, Option.some.injEq, exists_eq_left', exists_eq_left, exists_and_left, exists_and_right, and_true, true_and, decide_eq_true_eq, decide_eq_false_iff_not, if_true, if_false, Bool.not_eq_true', beq_true, beq_false, ne_eq, not_true_eq_false, not_false_eq_true, reduceCtorEq, List.getD_cons_zero, List.getD_cons_succ, List.getD_nil, List.map_cons, List.map_nil, List.append_nil, Nat.reduceEqDiff, reduceIte, ite_true, ite_false, or_true, true_or, or_false, false_or, true_imp_iff, false_imp_iff, implies_true, imp_false, and_self, imp_self, and_false, false_and, forall_const, take_map_all, Nat.le_refl, Nat.reduceMul, Nat.reduceSub, List.length_cons, List.length_nil, List.length_map, List.length_set, List.all_cons, List.all_nil, Bool.and_self, Option.map_none, Option.map_some, List.set_cons_zero, List.set_cons_succ, Nat.lt_add_one, List.append_assoc, List.cons_append, List.nil_append, List.append_nil, List.length_append, List.take_zero, List.take_succ_cons, List.take_nil, List.drop_zero, List.drop_succ_cons, List.drop_nil, List.getElem?_cons_zero, List.getElem?_cons_succ, List.getElem?_map, Nat.reduceAdd, Nat.reduceLeDiff, Nat.add_eq_zero_iff, and_self, Nat.zero_add, Nat.add_zero, Nat.mul_one, Nat.one_mul, List.flatten_cons, List.flatten_nil, hx, a0, s0, g0, g1, lx, l0, hlt2, hnb, *]) | (simp only [zgoO, zgoG, zO_nil, zthen_normal, zgoC]) | (with_reducible apply And.intro) | (with_reducible intro _))
    refine cltry_f pureP (by rw [List.length_map]; exact s2) ?_
    repeat' (first | (simp only [zmPack, zfree, owners, Nat.reduceLT, List.filter_cons, List.filter_nil, List.contains_cons, List.contains_nil, Nat.reduceBEq, Bool.or_false, Bool.or_true, Bool.false_or, Bool.true_or, BEq.rfl, chunk, setAt, List.lookup_cons, List.lookup_nil, ZV.val.injEq, ZV.ptr.injEq, ZV.own.injEq, ZV.fz.injEq, ZV.func.injEq, ZV.tuple.injEq, ZV.agg.injEq, ZB.box.injEq, ZB.grow.injEq, Bool.not_eq_false', Prod.mk.injEq, and_assoc, decide_false, decide_true, Bool.not_false, Bool.not_true, Bool.true_eq_false, Bool.false_eq_true, exists_false, Bool.not_eq_false, Bool.not_not, Value.bool.injEq, Value.int.injEq, Option.some.injEq, exists_eq_left', exists_eq_left, exists_and_left, exists_and_right, and_true, true_and, decide_eq_true_eq, decide_eq_false_iff_not, if_true, if_false, Bool.not_eq_true', beq_true, beq_false, ne_eq, not_true_eq_false, not_false_eq_true, reduceCtorEq, List.getD_cons_zero, List.getD_cons_succ, List.getD_nil, List.map_cons, List.map_nil, List.append_nil, Nat.reduceEqDiff, reduceIte, ite_true, ite_false, or_true, true_or, or_false, false_or, true_imp_iff, false_imp_iff, implies_true, imp_false, and_self, imp_self, and_false, false_and, forall_const, take_map_all, Nat.le_refl, Nat.reduceMul, Nat.reduceSub, List.length_cons, List.length_nil, List.length_map, List.length_set, List.all_cons, List.all_nil, Bool.and_self, Option.map_none, Option.map_some, List.set_cons_zero, List.set_cons_succ, Nat.lt_add_one, List.append_assoc, List.cons_append, List.nil_append, List.append_nil, List.length_append, List.take_zero, List.take_succ_cons, List.take_nil, List.drop_zero, List.drop_succ_cons, List.drop_nil, List.getElem?_cons_zero, List.getElem?_cons_succ, List.getElem?_map, Nat.reduceAdd, Nat.reduceLeDiff, Nat.add_eq_zero_iff, and_self, Nat.zero_add, Nat.add_zero, Nat.mul_one, Nat.one_mul, List.flatten_cons, List.flatten_nil, hx, a0, s0, g0, g1, lx, l0, hset, hlt2, hnb, *]) | (simp only [zgoO, zgoG, zO_nil, zthen_normal, zgoC]) | (with_reducible apply And.intro) | (with_reducible intro _))
    exact ⟨_, rfl⟩
  · rintro s' h' ⟨X, rfl⟩ ⟨f3, f8, -⟩
    repeat' (first | (simp only [zmPack, zfree, owners, Nat.reduceLT, List.filter_cons, List.filter_nil, List.contains_cons, List.contains_nil, Nat.reduceBEq, Bool.or_false, Bool.or_true, Bool.false_or, Bool.true_or, BEq.rfl, chunk, setAt, List.lookup_cons, List.lookup_nil, ZV.val.injEq, ZV.ptr.injEq, ZV.own.injEq, ZV.fz.injEq, ZV.func.injEq, ZV.tuple.injEq, ZV.agg.injEq, ZB.box.injEq, ZB.grow.injEq, Bool.not_eq_false', Prod.mk.injEq, and_assoc, decide_false, decide_true, Bool.not_false, Bool.not_true, Bool.true_eq_false, Bool.false_eq_true, exists_false, Bool.not_eq_false, Bool.not_not, Value.bool.injEq, Value.int.injEq, Option.some.injEq, exists_eq_left', exists_eq_left, exists_and_left, exists_and_right, and_true, true_and, decide_eq_true_eq, decide_eq_false_iff_not, if_true, if_false, Bool.not_eq_true', beq_true, beq_false, ne_eq, not_true_eq_false, not_false_eq_true, reduceCtorEq, List.getD_cons_zero, List.getD_cons_succ, List.getD_nil, List.map_cons, List.map_nil, List.append_nil, Nat.reduceEqDiff, reduceIte, ite_true, ite_false, or_true, true_or, or_false, false_or, true_imp_iff, false_imp_iff, implies_true, imp_false, and_self, imp_self, and_false, false_and, forall_const, take_map_all, Nat.le_refl, Nat.reduceMul, Nat.reduceSub, List.length_cons, List.length_nil, List.length_map, List.length_set, List.all_cons, List.all_nil, Bool.and_self, Option.map_none, Option.map_some, List.set_cons_zero, List.set_cons_succ, Nat.lt_add_one, List.append_assoc, List.cons_append, List.nil_append, List.append_nil, List.length_append, List.take_zero, List.take_succ_cons, List.take_nil, List.drop_zero, List.drop_succ_cons, List.drop_nil, List.getElem?_cons_zero, List.getElem?_cons_succ, List.getElem?_map, Nat.reduceAdd, Nat.reduceLeDiff, Nat.add_eq_zero_iff, and_self, Nat.zero_add, Nat.add_zero, Nat.mul_one, Nat.one_mul, List.flatten_cons, List.flatten_nil, *]) | (simp only [zgoO, zgoG, zO_nil, zthen_normal, zgoC]) | (with_reducible apply And.intro) | (with_reducible intro _))
theorem frames_0 {ex : Bool} (hK : K (.fz 8 false []) H) : ZC (constX tb) (cFunc Try.prog) 26 [.fz 8 ex []] L H K := by
  refine ZC.enter Gh.no constX_none f_lv_frames (by simp) ?_
  simp only [c_lv_frames]
  have fin := Fin.keep (H0 := H) hK
  clear hK
  repeat' (first | (simp only [zmPack, zfree, owners, Nat.reduceLT, List.filter_cons, List.filter_nil, List.contains_cons, List.contains_nil, Nat.reduceBEq, Bool.or_false, Bool.or_true, Bool.false_or, Bool.true_or, BEq.rfl, chunk, setAt, List.lookup_cons, List.lookup_nil, ZV.val.injEq, ZV.ptr.injEq, ZV.own.injEq, ZV.fz.injEq, ZV.func.injEq, ZV.tuple.injEq, ZV.agg.injEq, ZB.box.injEq, ZB.grow.injEq, Bool.not_eq_false', Prod.mk.injEq, and_assoc, decide_false, decide_true, Bool.not_false, Bool.not_true, Bool.true_eq_false, Bool.false_eq_true, exists_false, Bool.not_eq_false, Bool.not_not, Value.bool.injEq, Value.int.injEq, Option.some.injEq, exists_eq_left', exists_eq_left, exists_and_left, exists_and_right, and_true, true_and, decide_eq_true_eq, decide_eq_false_iff_not, if_true, if_false, Bool.not_eq_true', beq_true, beq_false, ne_eq, not_true_eq_false, not_false_eq_true, reduceCtorEq, List.getD_cons_zero, List.getD_cons_succ, List.getD_nil, List.map_cons, List.map_nil, List.append_nil, Nat.reduceEqDiff, reduceIte, ite_true, ite_false, or_true, true_or, or_false, false_or, true_imp_iff, false_imp_iff, implies_true, imp_false, and_self, imp_self, and_false, false_and, forall_const, take_map_all, Nat.le_refl, Nat.reduceMul, Nat.reduceSub, List.length_cons, List.length_nil, List.length_map, List.length_set, List.all_cons, List.all_nil, Bool.and_self, Option.map_none, Option.map_some, List.set_cons_zero, List.set_cons_succ, Nat.lt_add_one, List.append_assoc, List.cons_append, List.nil_append, List.append_nil, List.length_append, List.take_zero, List.take_succ_cons, List.take_nil, List.drop_zero, List.drop_succ_cons, List.drop_nil, List.getElem?_cons_zero, List.getElem?_cons_succ, List.getElem?_map, Nat.reduceAdd, Nat.reduceLeDiff, Nat.add_eq_zero_iff, and_self, Nat.zero_add, Nat.add_zero, Nat.mul_one, Nat.one_mul, List.flatten_cons, List.flatten_nil, *]) | (simp only [zgoO, zgoG, zO_nil, zthen_normal, zgoC]) | (with_reducible apply And.intro) | (with_reducible intro _))
  refine clframe_0 ?_
  repeat' (first | (simp only [zmPack, zfree, owners, Nat.reduceLT, List.filter_cons, List.filter_nil, List.contains_cons, List.contains_nil, Nat.reduceBEq, Bool.or_false, Bool.or_true, Bool.false_or, Bool.true_or, BEq.rfl, chunk, setAt, List.lookup_cons, List.lookup_nil, ZV.val.injEq, ZV.ptr.injEq, ZV.own.injEq, ZV.fz.injEq, ZV.func.injEq, ZV.tuple.injEq, ZV.agg.injEq, ZB.box.injEq, ZB.grow.injEq, Bool.not_eq_false', Prod.mk.injEq, and_assoc, decide_false, decide_true, Bool.not_false, Bool.not_true, Bool.true_eq_false, Bool.false_eq_true, exists_false, Bool.not_eq_false, Bool.not_not, Value.bool.injEq, Value.int.injEq, Option.some.injEq, exists_eq_left', exists_eq_left, exists_and_left, exists_and_right, and_true, true_and, decide_eq_true_eq, decide_eq_false_iff_not, if_true, if_false, Bool.not_eq_true', beq_true, beq_false, ne_eq, not_true_eq_false, not_false_eq_true, reduceCtorEq, List.getD_cons_zero, List.getD_cons_succ, List.getD_nil, List.map_cons, List.map_nil, List.append_nil, Nat.reduceEqDiff, reduceIte, ite_true, ite_false, or_true, true_or, or_false, false_or, true_imp_iff, false_imp_iff, implies_true, imp_false, and_self, imp_self, and_false, false_and, forall_const, take_map_all, Nat.le_refl, Nat.reduceMul, Nat.reduceSub, List.length_cons, List.length_nil, List.length_map, List.length_set, List.all_cons, List.all_nil, Bool.and_self, Option.map_none, Option.map_some, List.set_cons_zero, List.set_cons_succ, Nat.lt_add_one, List.append_assoc, List.cons_append, List.nil_append, List.append_nil, List.length_append, List.take_zero, List.take_succ_cons, List.take_nil, List.drop_zero, List.drop_succ_cons, List.drop_nil, List.getElem?_cons_zero, List.getElem?_cons_succ, List.getElem?_map, Nat.reduceAdd, Nat.reduceLeDiff, Nat.add_eq_zero_iff, and_self, Nat.zero_add, Nat.add_zero, Nat.mul_one, Nat.one_mul, List.flatten_cons, List.flatten_nil, *]) | (simp only [zgoO, zgoG, zO_nil, zthen_normal, zgoC]) | (with_reducible apply And.intro) | (with_reducible intro _))
  refine zW_forK [(3, .fz 8 false [])] 0 (fun k s' h' => h' = H) (by omega) ⟨rfl, rfl, rfl, rfl, rfl, rfl⟩ rfl rfl (by repeat' (first | exact trivial | (refine ⟨rfl, ?_⟩) | (refine ⟨by simp only [zupd_at, Nat.reduceEqDiff, reduceIte]; assumption, ?_⟩))) rfl rfl (by decide) rfl ?_ ?_
  · rintro k s' h' hk
    omega
  · rintro s' h' rfl ⟨f3, -⟩
    repeat' (first | (simp only [zmPack, zfree, owners, Nat.reduceLT, List.filter_cons, List.filter_nil, List.contains_cons, List.contains_nil, Nat.reduceBEq, Bool.or_false, Bool.or_true, Bool.false_or, Bool.true_or, BEq.rfl, chunk, setAt, List.lookup_cons, List.lookup_nil, ZV.val.injEq, ZV.ptr.injEq, ZV.own.injEq, ZV.fz.injEq, ZV.func.injEq, ZV.tuple.injEq, ZV.agg.injEq, ZB.box.injEq, ZB.grow.injEq, Bool.not_eq_false', Prod.mk.injEq, and_assoc, decide_false, decide_true, Bool.not_false, Bool.not_true, Bool.true_eq_false, Bool.false_eq_true, exists_false, Bool.not_eq_false, Bool.not_not, Value.bool.injEq, Value.int.injEq, Option.some.injEq, exists_eq_left', exists_eq_left, exists_and_left, exists_and_right, and_true, true_and, decide_eq_true_eq, decide_eq_false_iff_not, if_true, if_false, Bool.not_eq_true', beq_true, beq_false, ne_eq, not_true_eq_false, not_false_eq_true, reduceCtorEq, List.getD_cons_zero, List.getD_cons_succ, List.getD_nil, List.map_cons, List.map_nil, List.append_nil, Nat.reduceEqDiff, reduceIte, ite_true, ite_false, or_true, true_or, or_false, false_or, true_imp_iff, false_imp_iff, implies_true, imp_false, and_self, imp_self, and_false, false_and, forall_const, take_map_all, Nat.le_refl, Nat.reduceMul, Nat.reduceSub, List.length_cons, List.length_nil, List.length_map, List.length_set, List.all_cons, List.all_nil, Bool.and_self, Option.map_none, Option.map_some, List.set_cons_zero, List.set_cons_succ, Nat.lt_add_one, List.append_assoc, List.cons_append, List.nil_append, List.append_nil, List.length_append, List.take_zero, List.take_succ_cons, List.take_nil, List.drop_zero, List.drop_succ_cons, List.drop_nil, List.getElem?_cons_zero, List.getElem?_cons_succ, List.getElem?_map, Nat.reduceAdd, Nat.reduceLeDiff, Nat.add_eq_zero_iff, and_self, Nat.zero_add, Nat.add_zero, Nat.mul_one, Nat.one_mul, List.flatten_cons, List.flatten_nil, *]) | (simp only [zgoO, zgoG, zO_nil, zthen_normal, zgoC]) | (with_reducible apply And.intro) | (with_reducible intro _))
/-- Frames again, in a list that nobody writes to. -/
theorem frames_f {ex : Bool} {fs : List Fr} (hr : fs.length * 96 ≤ reach) (hs : ∀ f ∈ fs, frS f) (hK : K (.fz 8 false (fs.map eF)) H) : ZC (constX tb) (cFunc Try.prog) 26 [.fz 8 ex (fs.map eF)] L H K := by
  by_cases hne : fs = []
  · subst hne; exact frames_0 hK
  · exact ZC.frzF (frames_1 hne hr hs ⟨rfl, rfl⟩) (by simp) pureF hK
theorem own_0 {ex : Bool} (hK : K (.fz 4 false []) H) : ZC (constX tb) (cFunc Try.prog) 23 [.fz 4 ex []] L H K := by
  refine ZC.enter Gh.no constX_none f_lv_own (by simp) ?_
  simp only [c_lv_own]
  have fin := Fin.keep (H0 := H) hK
  clear hK
  repeat' (first | (simp only [zmPack, zfree, owners, Nat.reduceLT, List.filter_cons, List.filter_nil, List.contains_cons, List.contains_nil, Nat.reduceBEq, Bool.or_false, Bool.or_true, Bool.false_or, Bool.true_or, BEq.rfl, chunk, setAt, List.lookup_cons, List.lookup_nil, ZV.val.injEq, ZV.ptr.injEq, ZV.own.injEq, ZV.fz.injEq, ZV.func.injEq, ZV.tuple.injEq, ZV.agg.injEq, ZB.box.injEq, ZB.grow.injEq, Bool.not_eq_false', Prod.mk.injEq, and_assoc, decide_false, decide_true, Bool.not_false, Bool.not_true, Bool.true_eq_false, Bool.false_eq_true, exists_false, Bool.not_eq_false, Bool.not_not, Value.bool.injEq, Value.int.injEq, Option.some.injEq, exists_eq_left', exists_eq_left, exists_and_left, exists_and_right, and_true, true_and, decide_eq_true_eq, decide_eq_false_iff_not, if_true, if_false, Bool.not_eq_true', beq_true, beq_false, ne_eq, not_true_eq_false, not_false_eq_true, reduceCtorEq, List.getD_cons_zero, List.getD_cons_succ, List.getD_nil, List.map_cons, List.map_nil, List.append_nil, Nat.reduceEqDiff, reduceIte, ite_true, ite_false, or_true, true_or, or_false, false_or, true_imp_iff, false_imp_iff, implies_true, imp_false, and_self, imp_self, and_false, false_and, forall_const, take_map_all, Nat.le_refl, Nat.reduceMul, Nat.reduceSub, List.length_cons, List.length_nil, List.length_map, List.length_set, List.all_cons, List.all_nil, Bool.and_self, Option.map_none, Option.map_some, List.set_cons_zero, List.set_cons_succ, Nat.lt_add_one, List.append_assoc, List.cons_append, List.nil_append, List.append_nil, List.length_append, List.take_zero, List.take_succ_cons, List.take_nil, List.drop_zero, List.drop_succ_cons, List.drop_nil, List.getElem?_cons_zero, List.getElem?_cons_succ, List.getElem?_map, Nat.reduceAdd, Nat.reduceLeDiff, Nat.add_eq_zero_iff, and_self, Nat.zero_add, Nat.add_zero, Nat.mul_one, Nat.one_mul, List.flatten_cons, List.flatten_nil, *]) | (simp only [zgoO, zgoG, zO_nil, zthen_normal, zgoC]) | (with_reducible apply And.intro) | (with_reducible intro _))
  refine clcell_0 ?_
  repeat' (first | (simp only [zmPack, zfree, owners, Nat.reduceLT, List.filter_cons, List.filter_nil, List.contains_cons, List.contains_nil, Nat.reduceBEq, Bool.or_false, Bool.or_true, Bool.false_or, Bool.true_or, BEq.rfl, chunk, setAt, List.lookup_cons, List.lookup_nil, ZV.val.injEq, ZV.ptr.injEq, ZV.own.injEq, ZV.fz.injEq, ZV.func.injEq, ZV.tuple.injEq, ZV.agg.injEq, ZB.box.injEq, ZB.grow.injEq, Bool.not_eq_false', Prod.mk.injEq, and_assoc, decide_false, decide_true, Bool.not_false, Bool.not_true, Bool.true_eq_false, Bool.false_eq_true, exists_false, Bool.not_eq_false, Bool.not_not, Value.bool.injEq, Value.int.injEq, Option.some.injEq, exists_eq_left', exists_eq_left, exists_and_left, exists_and_right, and_true, true_and, decide_eq_true_eq, decide_eq_false_iff_not, if_true, if_false, Bool.not_eq_true', beq_true, beq_false, ne_eq, not_true_eq_false, not_false_eq_true, reduceCtorEq, List.getD_cons_zero, List.getD_cons_succ, List.getD_nil, List.map_cons, List.map_nil, List.append_nil, Nat.reduceEqDiff, reduceIte, ite_true, ite_false, or_true, true_or, or_false, false_or, true_imp_iff, false_imp_iff, implies_true, imp_false, and_self, imp_self, and_false, false_and, forall_const, take_map_all, Nat.le_refl, Nat.reduceMul, Nat.reduceSub, List.length_cons, List.length_nil, List.length_map, List.length_set, List.all_cons, List.all_nil, Bool.and_self, Option.map_none, Option.map_some, List.set_cons_zero, List.set_cons_succ, Nat.lt_add_one, List.append_assoc, List.cons_append, List.nil_append, List.append_nil, List.length_append, List.take_zero, List.take_succ_cons, List.take_nil, List.drop_zero, List.drop_succ_cons, List.drop_nil, List.getElem?_cons_zero, List.getElem?_cons_succ, List.getElem?_map, Nat.reduceAdd, Nat.reduceLeDiff, Nat.add_eq_zero_iff, and_self, Nat.zero_add, Nat.add_zero, Nat.mul_one, Nat.one_mul, List.flatten_cons, List.flatten_nil, *]) | (simp only [zgoO, zgoG, zO_nil, zthen_normal, zgoC]) | (with_reducible apply And.intro) | (with_reducible intro _))
  refine zW_forK [(3, .fz 4 false [])] 0 (fun k s' h' => h' = H) (by omega) ⟨rfl, rfl, rfl, rfl, rfl, rfl⟩ rfl rfl (by repeat' (first | exact trivial | (refine ⟨rfl, ?_⟩) | (refine ⟨by simp only [zupd_at, Nat.reduceEqDiff, reduceIte]; assumption, ?_⟩))) rfl rfl (by decide) rfl ?_ ?_
  · rintro k s' h' hk
    omega
  · rintro s' h' rfl ⟨f3, -⟩
    repeat' (first | (simp only [zmPack, zfree, owners, Nat.reduceLT, List.filter_cons, List.filter_nil, List.contains_cons, List.contains_nil, Nat.reduceBEq, Bool.or_false, Bool.or_true, Bool.false_or, Bool.true_or, BEq.rfl, chunk, setAt, List.lookup_cons, List.lookup_nil, ZV.val.injEq, ZV.ptr.injEq, ZV.own.injEq, ZV.fz.injEq, ZV.func.injEq, ZV.tuple.injEq, ZV.agg.injEq, ZB.box.injEq, ZB.grow.injEq, Bool.not_eq_false', Prod.mk.injEq, and_assoc, decide_false, decide_true, Bool.not_false, Bool.not_true, Bool.true_eq_false, Bool.false_eq_true, exists_false, Bool.not_eq_false, Bool.not_not, Value.bool.injEq, Value.int.injEq, Option.some.injEq, exists_eq_left', exists_eq_left, exists_and_left, exists_and_right, and_true, true_and, decide_eq_true_eq, decide_eq_false_iff_not, if_true, if_false, Bool.not_eq_true', beq_true, beq_false, ne_eq, not_true_eq_false, not_false_eq_true, reduceCtorEq, List.getD_cons_zero, List.getD_cons_succ, List.getD_nil, List.map_cons, List.map_nil, List.append_nil, Nat.reduceEqDiff, reduceIte, ite_true, ite_false, or_true, true_or, or_false, false_or, true_imp_iff, false_imp_iff, implies_true, imp_false, and_self, imp_self, and_false, false_and, forall_const, take_map_all, Nat.le_refl, Nat.reduceMul, Nat.reduceSub, List.length_cons, List.length_nil, List.length_map, List.length_set, List.all_cons, List.all_nil, Bool.and_self, Option.map_none, Option.map_some, List.set_cons_zero, List.set_cons_succ, Nat.lt_add_one, List.append_assoc, List.cons_append, List.nil_append, List.append_nil, List.length_append, List.take_zero, List.take_succ_cons, List.take_nil, List.drop_zero, List.drop_succ_cons, List.drop_nil, List.getElem?_cons_zero, List.getElem?_cons_succ, List.getElem?_map, Nat.reduceAdd, Nat.reduceLeDiff, Nat.add_eq_zero_iff, and_self, Nat.zero_add, Nat.add_zero, Nat.mul_one, Nat.one_mul, List.flatten_cons, List.flatten_nil, *]) | (simp only [zgoO, zgoG, zO_nil, zthen_normal, zgoC]) | (with_reducible apply And.intro) | (with_reducible intro _))
set_option maxHeartbeats 2000000 in
theorem own_1 {ex : Bool} {fs : List Cl} (hne : fs ≠ []) (hr : fs.length * 64 ≤ reach) (hs : ∀ f ∈ fs, clS f) (hK : K (.own H.length 0 0 fs.length false) (H ++ [.grow 0 4 (fs.map eC)])) :
    ZC (constX tb) (cFunc Try.prog) 23 [.fz 4 ex (fs.map eC)] L H K := by
  refine ZC.enterL Gh.no constX_none f_lv_own (by simp) fun hL => ?_
  simp only [c_lv_own]
  have fin : ∀ X, Fin H (.own H.length 0 0 fs.length false) (H ++ (.grow 0 4 (fs.map eC) :: X)) K := fun X => by
    refine Fin.own (k := 4) (rows := fs.map eC) (Mods.ext H _) (Nat.le_refl _) (atN0 rfl _ _) (by simp) (pure_refs pureC) ?_
    rw [List.take_left, List.drop_zero, take_map_all]
    exact hK
  have HS := Lib.hid hs
  have hlen : fs.length < 9223372036854775807 := by unfold reach at hr; omega
  clear hK hs
  have hne2 := Lib.hid hne
  clear hne
  repeat' (first | (simp only [zmPack, zfree, owners, Nat.reduceLT, List.filter_cons, List.filter_nil, List.contains_cons, List.contains_nil, Nat.reduceBEq, Bool.or_false, Bool.or_true, Bool.false_or, Bool.true_or, BEq.rfl, chunk, setAt, List.lookup_cons, List.lookup_nil, ZV.val.injEq, ZV.ptr.injEq, ZV.own.injEq, ZV.fz.injEq, ZV.func.injEq, ZV.tuple.injEq, ZV.agg.injEq, ZB.box.injEq, ZB.grow.injEq, Bool.not_eq_false', Prod.mk.injEq, and_assoc, decide_false, decide_true, Bool.not_false, Bool.not_true, Bool.true_eq_false, Bool.false_eq_true, exists_false, Bool.not_eq_false, Bool.not_not, Value.bool.injEq, Value.int.injEq, Option.some.injEq, exists_eq_left', exists_eq_left, exists_and_left, exists_and_right, and_true, true_and, decide_eq_true_eq, decide_eq_false_iff_not, if_true, if_false, Bool.not_eq_true', beq_true, beq_false, ne_eq, not_true_eq_false, not_false_eq_true, reduceCtorEq, List.getD_cons_zero, List.getD_cons_succ, List.getD_nil, List.map_cons, List.map_nil, List.append_nil, Nat.reduceEqDiff, reduceIte, ite_true, ite_false, or_true, true_or, or_false, false_or, true_imp_iff, false_imp_iff, implies_true, imp_false, and_self, imp_self, and_false, false_and, forall_const, take_map_all, Nat.le_refl, Nat.reduceMul, Nat.reduceSub, List.length_cons, List.length_nil, List.length_map, List.length_set, List.all_cons, List.all_nil, Bool.and_self, Option.map_none, Option.map_some, List.set_cons_zero, List.set_cons_succ, Nat.lt_add_one, List.append_assoc, List.cons_append, List.nil_append, List.append_nil, List.length_append, List.take_zero, List.take_succ_cons, List.take_nil, List.drop_zero, List.drop_succ_cons, List.drop_nil, List.getElem?_cons_zero, List.getElem?_cons_succ, List.getElem?_map, Nat.reduceAdd, Nat.reduceLeDiff, Nat.add_eq_zero_iff, and_self, Nat.zero_add, Nat.add_zero, Nat.mul_one, Nat.one_mul, List.flatten_cons, List.flatten_nil, *]) | (simp only [zgoO, zgoG, zO_nil, zthen_normal, zgoC]) | (with_reducible apply And.intro) | (with_reducible intro _))
  refine clcell_n (by simpa using hne2.out) (by rw [List.length_map]; exact hr) ?_
  rw [List.length_map]
  clear hr
  repeat' (first | (simp only [zmPack, zfree, owners, Nat.reduceLT, List.filter_cons, List.filter_nil, List.contains_cons, List.contains_nil, Nat.reduceBEq, Bool.or_false, Bool.or_true, Bool.false_or, Bool.true_or, BEq.rfl, chunk, setAt, List.lookup_cons, List.lookup_nil, ZV.val.injEq, ZV.ptr.injEq, ZV.own.injEq, ZV.fz.injEq, ZV.func.injEq, ZV.tuple.injEq, ZV.agg.injEq, ZB.box.injEq, ZB.grow.injEq, Bool.not_eq_false', Prod.mk.injEq, and_assoc, decide_false, decide_true, Bool.not_false, Bool.not_true, Bool.true_eq_false, Bool.false_eq_true, exists_false, Bool.not_eq_false, Bool.not_not, Value.bool.injEq, Value.int.injEq, Option.some.injEq, exists_eq_left', exists_eq_left, exists_and_left, exists_and_right, and_true, true_and, decide_eq_true_eq, decide_eq_false_iff_not, if_true, if_false, Bool.not_eq_true', beq_true, beq_false, ne_eq, not_true_eq_false, not_false_eq_true, reduceCtorEq, List.getD_cons_zero, List.getD_cons_succ, List.getD_nil, List.map_cons, List.map_nil, List.append_nil, Nat.reduceEqDiff, reduceIte, ite_true, ite_false, or_true, true_or, or_false, false_or, true_imp_iff, false_imp_iff, implies_true, imp_false, and_self, imp_self, and_false, false_and, forall_const, take_map_all, Nat.le_refl, Nat.reduceMul, Nat.reduceSub, List.length_cons, List.length_nil, List.length_map, List.length_set, List.all_cons, List.all_nil, Bool.and_self, Option.map_none, Option.map_some, List.set_cons_zero, List.set_cons_succ, Nat.lt_add_one, List.append_assoc, List.cons_append, List.nil_append, List.append_nil, List.length_append, List.take_zero, List.take_succ_cons, List.take_nil, List.drop_zero, List.drop_succ_cons, List.drop_nil, List.getElem?_cons_zero, List.getElem?_cons_succ, List.getElem?_map, Nat.reduceAdd, Nat.reduceLeDiff, Nat.add_eq_zero_iff, and_self, Nat.zero_add, Nat.add_zero, Nat.mul_one, Nat.one_mul, List.flatten_cons, List.flatten_nil, *]) | (simp only [zgoO, zgoG, zO_nil, zthen_normal, zgoC]) | (with_reducible apply And.intro) | (with_reducible intro _))
  refine zW_forK [(3, .own H.length 0 0 fs.length false), (8, .fz 4 ex (fs.map eC))] fs.length (fun k s' h' => ∃ X, h' = H ++ (.grow 0 4 (fs.map eC) :: X)) (by omega) ⟨rfl, rfl, rfl, rfl, rfl, rfl⟩ rfl rfl (by repeat' (first | exact trivial | (refine ⟨rfl, ?_⟩) | (refine ⟨by simp only [zupd_at, Nat.reduceEqDiff, reduceIte]; assumption, ?_⟩))) rfl rfl (by decide) ⟨[], rfl⟩ ?_ ?_
  · rintro k s' h' hk ⟨X, rfl⟩ hi hl ⟨f3, f8, -⟩
    have hx : fs[k]? = some fs[k] := List.getElem?_eq_getElem hk
    obtain ⟨s1, s2, s3⟩ := HS.out fs[k] (List.getElem_mem hk)
    have hset : (fs.map eC).set k (eC fs[k]) = fs.map eC := by
      apply List.ext_getElem?
      intro j
      rw [List.getElem?_set]
      split
      · rename_i e; subst e; simp [hk]
      · rfl
    have hlt : k < fs.length := hk
    obtain ⟨q, hq⟩ : ∃ q, q = fs[k] := ⟨_, rfl⟩
    rw [← hq] at hx s1 s2 s3 hset
    obtain ⟨a1, a2, rg, tr⟩ := q
    simp only at s1 s2 s3 hset
    have S3 := Lib.hid s3
    have a0 : ∀ A C : ZB, (H ++ (A :: (X ++ [C])))[H.length + (X.length + 1)]? = some C := fun A C => by rw [List.getElem?_append_right (by omega), Nat.add_sub_cancel_left, List.getElem?_cons_succ, List.getElem?_append_right (Nat.le_refl _), Nat.sub_self]; rfl
    have s0 : ∀ A C D : ZB, (H ++ (A :: (X ++ [C]))).set (H.length + (X.length + 1)) D = H ++ (A :: (X ++ [D])) := fun A C D => by rw [List.set_append_right _ _ (by omega), Nat.add_sub_cancel_left, List.set_cons_succ, List.set_append_right _ _ (Nat.le_refl _), Nat.sub_self]; rfl
    have g0 : ∀ A Y, (H ++ (A :: Y))[H.length]? = some A := fun A Y => atN0 rfl A Y
    have g1 : ∀ A C Y, (H ++ (A :: Y)).set H.length C = H ++ (C :: Y) := fun A C Y => stN0 rfl A C Y
    have lx : L (H.length + (X.length + 1)) = true := hL _
    have l0 : L H.length = true := hL 0
    have hlt2 : H.length + (X.length + 1) < H.length + (X.length + 1 + 1) := by omega
    have hnb : (H.length == H.length + (X.length + 1)) = false := by simp
    clear hq s3
    repeat' (first | (simp only [zmPack, zfree, owners, Nat.reduceLT, List.filter_cons, List.filter_nil, List.contains_cons, List.contains_nil, Nat.reduceBEq, Bool.or_false, Bool.or_true, Bool.false_or, Bool.true_or, BEq.rfl, chunk, setAt, List.lookup_cons, List.lookup_nil, ZV.val.injEq, ZV.ptr.injEq, ZV.own.injEq, ZV.fz.injEq, ZV.func.injEq, ZV.tuple.injEq, ZV.agg.injEq, ZB.box.injEq, ZB.grow.injEq, Bool.not_eq_false', Prod.mk.injEq, and_assoc, decide_false, decide_true, Bool.not_false, Bool.not_true, Bool.true_eq_false, Bool.false_eq_true, exists_false, Bool.not_eq_false, Bool.not_not, Value.bool.injEq, Value.int.injEq, Option.some.injEq, exists_eq_left', exists_eq_left, exists_and_left, exists_and_right, and_true, true_and, decide_eq_true_eq, decide_eq_false_iff_not, if_true, if_false, Bool.not_eq_true', beq_true, beq_false, ne_eq, not_true_eq_false, not_false_eq_true, reduceCtorEq, List.getD_cons_zero, List.getD_cons_succ, List.getD_nil, List.map_cons, List.map_nil, List.append_nil, Nat.reduceEqDiff, reduceIte, ite_true, ite_false, or_true, true_or, or_false, false_or, true_imp_iff, false_imp_iff, implies_true, imp_false, and_self, imp_self, and_false, false_and, forall_const, take_map_all, Nat.le_refl, Nat.reduceMul, Nat.reduceSub, List.length_cons, List.length_nil, List.length_map, List.length_set, List.all_cons, List.all_nil, Bool.and_self, Option.map_none, Option.map_some, List.set_cons_zero, List.set_cons_succ, Nat.lt_add_one, List.append_assoc, List.cons_append, List.nil_append, List.append_nil, List.length_append, List.take_zero, List.take_succ_cons, List.take_nil, List.drop_zero, List.drop_succ_cons, List.drop_nil, List.getElem?_cons_zero, List.getElem?_cons_succ, List.getElem?_map, Nat.reduceAdd, Nat.reduceLeDiff, Nat.add_eq_zero_iff, and_self, Nat.zero_add, Nat.add_zero, Nat.mul_one, Nat.one_mul, List.flatten_cons, List.flatten_nil, hx, a0, s0, g0, g1, lx, l0, *]) | (simp only [zgoO, zgoG, zO_nil, zthen_normal, zgoC]) | (with_reducible apply And.intro) | (with_reducible intro _))
    refine clval_f pureP (by rw [List.length_map]; exact s1) ?_
    repeat' (first | (simp only [zmPack, zfree, owners, Nat.reduceLT, List.filter_cons, List.filter_nil, List.contains_cons, List.contains_nil, Nat.reduceBEq, Bool.or_false, Bool.or_true, Bool.false_or, Bool.true_or, BEq.rfl, chunk, setAt, List.lookup_cons, List.lookup_nil, ZV.val.injEq, ZV.ptr.injEq, ZV.own.injEq, ZV.fz.injEq, ZV.func.injEq, ZV.tuple.injEq, ZV.agg.injEq, ZB.box.injEq, ZB.grow.injEq, Bool.not_eq_false', Prod.mk.injEq, and_assoc, decide_false, decide_true, Bool.not_false, Bool.not_true, Bool.true_eq_false, Bool.false_eq_true, exists_false, Bool.not_eq_false, Bool.not_not, Value.bool.injEq, Value.int.injEq, Option.some.injEq, exists_eq_left', exists_eq_left, exists_and_left, exists_and_right, and_true, true_and, decide_eq_true_eq, decide_eq_false_iff_not, if_true, if_false, Bool.not_eq_true', beq_true, beq_false, ne_eq, not_true_eq_false, not_false_eq_true, reduceCtorEq, List.getD_cons_zero, List.getD_cons_succ, List.getD_nil, List.map_cons, List.map_nil, List.append_nil, Nat.reduceEqDiff, reduceIte, ite_true, ite_false, or_true, true_or, or_false, false_or, true_imp_iff, false_imp_iff, implies_true, imp_false, and_self, imp_self, and_false, false_and, forall_const, take_map_all, Nat.le_refl, Nat.reduceMul, Nat.reduceSub, List.length_cons, List.length_nil, List.length_map, List.length_set, List.all_cons, List.all_nil, Bool.and_self, Option.map_none, Option.map_some, List.set_cons_zero, List.set_cons_succ, Nat.lt_add_one, List.append_assoc, List.cons_append, List.nil_append, List.append_nil, List.length_append, List.take_zero, List.take_succ_cons, List.take_nil, List.drop_zero, List.drop_succ_cons, List.drop_nil, List.getElem?_cons_zero, List.getElem?_cons_succ, List.getElem?_map, Nat.reduceAdd, Nat.reduceLeDiff, Nat.add_eq_zero_iff, and_self, Nat.zero_add, Nat.add_zero, Nat.mul_one, Nat.one_mul, List.flatten_cons, List.flatten_nil, hx, a0, s0, g0, g1, lx, l0, hlt2, hnb, *]) | (simp only [zgoO, zgoG, zO_nil, zthen_normal, zgoC]) | (with_reducible apply And.intro) | (with_reducible intro _))
    refine frames_f s2 S3.out ?_
    repeat' (first | (simp only [zmPack, zfree, owners, Nat.reduceLT, List.filter_cons, List.filter_nil, List.contains_cons, List.contains_nil, Nat.reduceBEq, Bool.or_false, Bool.or_true, Bool.false_or, Bool.true_or, BEq.rfl, chunk, setAt, List.lookup_cons, List.lookup_nil, ZV.val.injEq, ZV.ptr.injEq, ZV.own.injEq, ZV.fz.injEq, ZV.func.injEq, ZV.tuple.injEq, ZV.agg.injEq, ZB.box.injEq, ZB.grow.injEq, Bool.not_eq_false', Prod.mk.injEq, and_assoc, decide_false, decide_true, Bool.not_false, Bool.not_true, Bool.true_eq_false, Bool.false_eq_true, exists_false, Bool.not_eq_false, Bool.not_not, Value.bool.injEq, Value.int.injEq, Option.some.injEq, exists_eq_left', exists_eq_left, exists_and_left, exists_and_right, and_true, true_and, decide_eq_true_eq, decide_eq_false_iff_not, if_true, if_false, Bool.not_eq_true', beq_true, beq_false, ne_eq, not_true_eq_false, not_false_eq_true, reduceCtorEq, List.getD_cons_zero, List.getD_cons_succ, List.getD_nil, List.map_cons, List.map_nil, List.append_nil, Nat.reduceEqDiff, reduceIte, ite_true, ite_false, or_true, true_or, or_false, false_or, true_imp_iff, false_imp_iff, implies_true, imp_false, and_self, imp_self, and_false, false_and, forall_const, take_map_all, Nat.le_refl, Nat.reduceMul, Nat.reduceSub, List.length_cons, List.length_nil, List.length_map, List.length_set, List.all_cons, List.all_nil, Bool.and_self, Option.map_none, Option.map_some, List.set_cons_zero, List.set_cons_succ, Nat.lt_add_one, List.append_assoc, List.cons_append, List.nil_append, List.append_nil, List.length_append, List.take_zero, List.take_succ_cons, List.take_nil, List.drop_zero, List.drop_succ_cons, List.drop_nil, List.getElem?_cons_zero, List.getElem?_cons_succ, List.getElem?_map, Nat.reduceAdd, Nat.reduceLeDiff, Nat.add_eq_zero_iff, and_self, Nat.zero_add, Nat.add_zero, Nat.mul_one, Nat.one_mul, List.flatten_cons, List.flatten_nil, hx, a0, s0, g0, g1, lx, l0, hset, hlt2, hnb, *]) | (simp only [zgoO, zgoG, zO_nil, zthen_normal, zgoC]) | (with_reducible apply And.intro) | (with_reducible intro _))
    exact ⟨_, rfl⟩
  · rintro s' h' ⟨X, rfl⟩ ⟨f3, f8, -⟩
    repeat' (first | (simp only [zmPack, zfree, owners, Nat.reduceLT, List.filter_cons, List.filter_nil, List.contains_cons, List.contains_nil, Nat.reduceBEq, Bool.or_false, Bool.or_true, Bool.false_or, Bool.true_or, BEq.rfl, chunk, setAt, List.lookup_cons, List.lookup_nil, ZV.val.injEq, ZV.ptr.injEq, ZV.own.injEq, ZV.fz.injEq, ZV.func.injEq, ZV.tuple.injEq, ZV.agg.injEq, ZB.box.injEq, ZB.grow.injEq, Bool.not_eq_false', Prod.mk.injEq, and_assoc, decide_false, decide_true, Bool.not_false, Bool.not_true, Bool.true_eq_false, Bool.false_eq_true, exists_false, Bool.not_eq_false, Bool.not_not, Value.bool.injEq, Value.int.injEq, Option.some.injEq, exists_eq_left', exists_eq_left, exists_and_left, exists_and_right, and_true, true_and, decide_eq_true_eq, decide_eq_false_iff_not, if_true, if_false, Bool.not_eq_true', beq_true, beq_false, ne_eq, not_true_eq_false, not_false_eq_true, reduceCtorEq, List.getD_cons_zero, List.getD_cons_succ, List.getD_nil, List.map_cons, List.map_nil, List.append_nil, Nat.reduceEqDiff, reduceIte, ite_true, ite_false, or_true, true_or, or_false, false_or, true_imp_iff, false_imp_iff, implies_true, imp_false, and_self, imp_self, and_false, false_and, forall_const, take_map_all, Nat.le_refl, Nat.reduceMul, Nat.reduceSub, List.length_cons, List.length_nil, List.length_map, List.length_set, List.all_cons, List.all_nil, Bool.and_self, Option.map_none, Option.map_some, List.set_cons_zero, List.set_cons_succ, Nat.lt_add_one, List.append_assoc, List.cons_append, List.nil_append, List.append_nil, List.length_append, List.take_zero, List.take_succ_cons, List.take_nil, List.drop_zero, List.drop_succ_cons, List.drop_nil, List.getElem?_cons_zero, List.getElem?_cons_succ, List.getElem?_map, Nat.reduceAdd, Nat.reduceLeDiff, Nat.add_eq_zero_iff, and_self, Nat.zero_add, Nat.add_zero, Nat.mul_one, Nat.one_mul, List.flatten_cons, List.flatten_nil, *]) | (simp only [zgoO, zgoG, zO_nil, zthen_normal, zgoC]) | (with_reducible apply And.intro) | (with_reducible intro _))
/-- What is told by numbers, if all are numbers of it. -/
def toldB (l : List Int) (vals : List (Int × Int)) : Bool := l.all fun n => decide (0 ≤ n) && decide (n < vals.length)
def toldL (l : List Int) (vals : List (Int × Int)) : List (Int × Int) := l.filterMap fun n => vals[n.toNat]?
set_option maxHeartbeats 2000000 in
theorem told_z {ex ev : Bool} {l : List Int} {vals : List (Int × Int)} (hl : l.length ≤ 1048576) (hK0 : toldB l vals = false → K (.tuple [.nil, ZBo false]) H) (hK1 : toldB l vals = true → K (.tuple [.fz 2 false ((toldL l vals).map eP), ZBo true]) H) :
    ZC (constX tb) (cFunc Try.prog) 24 [.fz 1 ex (l.map eI), .fz 2 ev (vals.map eP)] L H K := by
  refine ZC.enterL ⟨[(6, [(0, 2)])], [], []⟩ constX_none f_lv_told (by simp) fun hL => ?_
  simp only [c_lv_told]
  have F0 : Hid (toldB l vals = false → ∀ X, Fin H (.tuple [.nil, ZBo false]) (H ++ X) K) := fun h X => Fin.trunc (Mods.ext H X) rfl (by rw [List.take_left]; exact hK0 h)
  have F1 : Hid (toldB l vals = true → ∀ g X, Fin H (.tuple [.own H.length g 0 (toldL l vals).length false, ZBo true]) (H ++ (.grow g 2 ((toldL l vals).map eP) :: X)) K) := fun h g X => by
    refine Fin.frzT (j := 0) (k := 2) (rows := (toldL l vals).map eP) rfl (atN0 rfl _ _) (by simp) pureP ?_
    rw [stN0 rfl, List.drop_zero, take_map_all]
    exact Fin.trunc (Mods.ext H _) rfl (by rw [List.take_left]; exact hK1 h)
  clear hK0 hK1
  repeat' (first | (simp only [zmPack, zfree, owners, Nat.reduceLT, List.filter_cons, List.filter_nil, List.contains_cons, List.contains_nil, Nat.reduceBEq, Bool.or_false, Bool.or_true, Bool.false_or, Bool.true_or, BEq.rfl, chunk, setAt, List.lookup_cons, List.lookup_nil, ZV.val.injEq, ZV.ptr.injEq, ZV.own.injEq, ZV.fz.injEq, ZV.func.injEq, ZV.tuple.injEq, ZV.agg.injEq, ZB.box.injEq, ZB.grow.injEq, Bool.not_eq_false', Prod.mk.injEq, and_assoc, decide_false, decide_true, Bool.not_false, Bool.not_true, Bool.true_eq_false, Bool.false_eq_true, exists_false, Bool.not_eq_false, Bool.not_not, Value.bool.injEq, Value.int.injEq, Option.some.injEq, exists_eq_left', exists_eq_left, exists_and_left, exists_and_right, and_true, true_and, decide_eq_true_eq, decide_eq_false_iff_not, if_true, if_false, Bool.not_eq_true', beq_true, beq_false, ne_eq, not_true_eq_false, not_false_eq_true, reduceCtorEq, List.getD_cons_zero, List.getD_cons_succ, List.getD_nil, List.map_cons, List.map_nil, List.append_nil, Nat.reduceEqDiff, reduceIte, ite_true, ite_false, or_true, true_or, or_false, false_or, true_imp_iff, false_imp_iff, implies_true, imp_false, and_self, imp_self, and_false, false_and, forall_const, take_map_all, Nat.le_refl, Nat.reduceMul, Nat.reduceSub, List.length_cons, List.length_nil, List.length_map, List.length_set, List.all_cons, List.all_nil, Bool.and_self, Option.map_none, Option.map_some, List.set_cons_zero, List.set_cons_succ, Nat.lt_add_one, List.append_assoc, List.cons_append, List.nil_append, List.append_nil, List.length_append, List.take_zero, List.take_succ_cons, List.take_nil, List.drop_zero, List.drop_succ_cons, List.drop_nil, List.getElem?_cons_zero, List.getElem?_cons_succ, List.getElem?_map, Nat.reduceAdd, Nat.reduceLeDiff, Nat.add_eq_zero_iff, and_self, Nat.zero_add, Nat.add_zero, Nat.mul_one, Nat.one_mul, List.flatten_cons, List.flatten_nil, *]) | (simp only [zgoO, zgoG, zO_nil, zthen_normal, zgoC]) | (with_reducible apply And.intro) | (with_reducible intro _))
  refine zW_forK [(1, .fz 2 ev (vals.map eP)), (9, .fz 1 ex (l.map eI))] l.length (fun k s' h' => toldB (l.take k) vals = true ∧ ∃ g X, s' 6 = .own H.length g 0 (toldL (l.take k) vals).length false ∧ h' = H ++ (.grow g 2 ((toldL (l.take k) vals).map eP) :: X)) (by omega) ⟨rfl, rfl, rfl, rfl, rfl, rfl⟩ rfl rfl (by repeat' (first | exact trivial | (refine ⟨rfl, ?_⟩) | (refine ⟨by simp only [zupd_at, Nat.reduceEqDiff, reduceIte]; assumption, ?_⟩))) rfl rfl (by decide) ⟨rfl, 0, [], rfl, rfl⟩ ?_ ?_
  · rintro k s' h' hk ⟨hok, g, X, f6, rfl⟩ hi hll ⟨f1, f9, -⟩
    have hx : l[k]? = some l[k] := List.getElem?_eq_getElem hk
    have hT : toldL (l.take (k + 1)) vals = toldL (l.take k) vals ++ toldL [l[k]] vals := by unfold toldL; rw [List.take_succ_eq_append_getElem hk, List.filterMap_append]
    have hB : toldB (l.take (k + 1)) vals = (decide (0 ≤ l[k]) && decide (l[k] < vals.length)) := by
      unfold toldB at hok ⊢; rw [List.take_succ_eq_append_getElem hk, List.all_append, hok]; simp
    have hno : (decide (0 ≤ l[k]) && decide (l[k] < vals.length)) = false → toldB l vals = false := fun h => by
      unfold toldB; rw [List.all_eq_false]; exact ⟨l[k], List.getElem_mem hk, by rw [h]; simp⟩
    have hol : (toldL (l.take k) vals).length ≤ k := by
      unfold toldL
      refine Nat.le_trans (List.length_filterMap_le _ _) ?_
      rw [List.length_take]; omega
    obtain ⟨n, hn⟩ : ∃ n, n = l[k] := ⟨_, rfl⟩
    rw [← hn] at hx hT hB hno
    obtain ⟨o, ho⟩ : ∃ o, o = toldL (l.take k) vals := ⟨_, rfl⟩
    rw [← ho] at f6 hT hol ⊢
    have HT := Lib.hid hT
    have HB := Lib.hid hB
    have HN := Lib.hid hno
    have HO := Lib.hid hol
    clear hok hT hB hno hn ho hol
    by_cases h0 : n < 0
    · have fin := F0.out (HN.out (by simp; omega))
      repeat' (first | (simp only [zmPack, zfree, owners, Nat.reduceLT, List.filter_cons, List.filter_nil, List.contains_cons, List.contains_nil, Nat.reduceBEq, Bool.or_false, Bool.or_true, Bool.false_or, Bool.true_or, BEq.rfl, chunk, setAt, List.lookup_cons, List.lookup_nil, ZV.val.injEq, ZV.ptr.injEq, ZV.own.injEq, ZV.fz.injEq, ZV.func.injEq, ZV.tuple.injEq, ZV.agg.injEq, ZB.box.injEq, ZB.grow.injEq, Bool.not_eq_false', Prod.mk.injEq, and_assoc, decide_false, decide_true, Bool.not_false, Bool.not_true, Bool.true_eq_false, Bool.false_eq_true, exists_false, Bool.not_eq_false, Bool.not_not, Value.bool.injEq, Value.int.injEq, Option.some.injEq, exists_eq_left', exists_eq_left, exists_and_left, exists_and_right, and_true, true_and, decide_eq_true_eq, decide_eq_false_iff_not, if_true, if_false, Bool.not_eq_true', beq_true, beq_false, ne_eq, not_true_eq_false, not_false_eq_true, reduceCtorEq, List.getD_cons_zero, List.getD_cons_succ, List.getD_nil, List.map_cons, List.map_nil, List.append_nil, Nat.reduceEqDiff, reduceIte, ite_true, ite_false, or_true, true_or, or_false, false_or, true_imp_iff, false_imp_iff, implies_true, imp_false, and_self, imp_self, and_false, false_and, forall_const, take_map_all, Nat.le_refl, Nat.reduceMul, Nat.reduceSub, List.length_cons, List.length_nil, List.length_map, List.length_set, List.all_cons, List.all_nil, Bool.and_self, Option.map_none, Option.map_some, List.set_cons_zero, List.set_cons_succ, Nat.lt_add_one, List.append_assoc, List.cons_append, List.nil_append, List.append_nil, List.length_append, List.take_zero, List.take_succ_cons, List.take_nil, List.drop_zero, List.drop_succ_cons, List.drop_nil, List.getElem?_cons_zero, List.getElem?_cons_succ, List.getElem?_map, Nat.reduceAdd, Nat.reduceLeDiff, Nat.add_eq_zero_iff, and_self, Nat.zero_add, Nat.add_zero, Nat.mul_one, Nat.one_mul, List.flatten_cons, List.flatten_nil, hx, h0, *]) | (simp only [zgoO, zgoG, zO_nil, zthen_normal, zgoC]) | (with_reducible apply And.intro) | (with_reducible intro _))
    · by_cases h1 : (vals.length : Int) ≤ n
      · have fin := F0.out (HN.out (by simp; omega))
        repeat' (first | (simp only [zmPack, zfree, owners, Nat.reduceLT, List.filter_cons, List.filter_nil, List.contains_cons, List.contains_nil, Nat.reduceBEq, Bool.or_false, Bool.or_true, Bool.false_or, Bool.true_or, BEq.rfl, chunk, setAt, List.lookup_cons, List.lookup_nil, ZV.val.injEq, ZV.ptr.injEq, ZV.own.injEq, ZV.fz.injEq, ZV.func.injEq, ZV.tuple.injEq, ZV.agg.injEq, ZB.box.injEq, ZB.grow.injEq, Bool.not_eq_false', Prod.mk.injEq, and_assoc, decide_false, decide_true, Bool.not_false, Bool.not_true, Bool.true_eq_false, Bool.false_eq_true, exists_false, Bool.not_eq_false, Bool.not_not, Value.bool.injEq, Value.int.injEq, Option.some.injEq, exists_eq_left', exists_eq_left, exists_and_left, exists_and_right, and_true, true_and, decide_eq_true_eq, decide_eq_false_iff_not, if_true, if_false, Bool.not_eq_true', beq_true, beq_false, ne_eq, not_true_eq_false, not_false_eq_true, reduceCtorEq, List.getD_cons_zero, List.getD_cons_succ, List.getD_nil, List.map_cons, List.map_nil, List.append_nil, Nat.reduceEqDiff, reduceIte, ite_true, ite_false, or_true, true_or, or_false, false_or, true_imp_iff, false_imp_iff, implies_true, imp_false, and_self, imp_self, and_false, false_and, forall_const, take_map_all, Nat.le_refl, Nat.reduceMul, Nat.reduceSub, List.length_cons, List.length_nil, List.length_map, List.length_set, List.all_cons, List.all_nil, Bool.and_self, Option.map_none, Option.map_some, List.set_cons_zero, List.set_cons_succ, Nat.lt_add_one, List.append_assoc, List.cons_append, List.nil_append, List.append_nil, List.length_append, List.take_zero, List.take_succ_cons, List.take_nil, List.drop_zero, List.drop_succ_cons, List.drop_nil, List.getElem?_cons_zero, List.getElem?_cons_succ, List.getElem?_map, Nat.reduceAdd, Nat.reduceLeDiff, Nat.add_eq_zero_iff, and_self, Nat.zero_add, Nat.add_zero, Nat.mul_one, Nat.one_mul, List.flatten_cons, List.flatten_nil, hx, h0, h1, *]) | (simp only [zgoO, zgoG, zO_nil, zthen_normal, zgoC]) | (with_reducible apply And.intro) | (with_reducible intro _))
      · obtain ⟨j, rfl⟩ : ∃ j : Nat, n = j := ⟨n.toNat, by omega⟩
        have hj : j < vals.length := by omega
        have hy : vals[j]? = some vals[j] := List.getElem?_eq_getElem hj
        have ht : toldL [(j : Int)] vals = [vals[j]] := by unfold toldL; simp [hy]
        obtain ⟨v, hv⟩ : ∃ v, v = vals[j] := ⟨_, rfl⟩
        rw [← hv] at hy ht
        obtain ⟨v1, v2⟩ := v
        have HV := Lib.hid ht
        have g0 : ∀ A Y, (H ++ (A :: Y))[H.length]? = some A := fun A Y => atN0 rfl A Y
        have g1 : ∀ A C Y, (H ++ (A :: Y)).set H.length C = H ++ (C :: Y) := fun A C Y => stN0 rfl A C Y
        have l0 : L H.length = true := hL 0
        have hr : (o.length + 1) * 16 ≤ reach := by have := HO.out; unfold reach; omega
        clear hv ht
        repeat' (first | (simp only [zmPack, zfree, owners, Nat.reduceLT, List.filter_cons, List.filter_nil, List.contains_cons, List.contains_nil, Nat.reduceBEq, Bool.or_false, Bool.or_true, Bool.false_or, Bool.true_or, BEq.rfl, chunk, setAt, List.lookup_cons, List.lookup_nil, ZV.val.injEq, ZV.ptr.injEq, ZV.own.injEq, ZV.fz.injEq, ZV.func.injEq, ZV.tuple.injEq, ZV.agg.injEq, ZB.box.injEq, ZB.grow.injEq, Bool.not_eq_false', Prod.mk.injEq, and_assoc, decide_false, decide_true, Bool.not_false, Bool.not_true, Bool.true_eq_false, Bool.false_eq_true, exists_false, Bool.not_eq_false, Bool.not_not, Value.bool.injEq, Value.int.injEq, Option.some.injEq, exists_eq_left', exists_eq_left, exists_and_left, exists_and_right, and_true, true_and, decide_eq_true_eq, decide_eq_false_iff_not, if_true, if_false, Bool.not_eq_true', beq_true, beq_false, ne_eq, not_true_eq_false, not_false_eq_true, reduceCtorEq, List.getD_cons_zero, List.getD_cons_succ, List.getD_nil, List.map_cons, List.map_nil, List.append_nil, Nat.reduceEqDiff, reduceIte, ite_true, ite_false, or_true, true_or, or_false, false_or, true_imp_iff, false_imp_iff, implies_true, imp_false, and_self, imp_self, and_false, false_and, forall_const, take_map_all, Nat.le_refl, Nat.reduceMul, Nat.reduceSub, List.length_cons, List.length_nil, List.length_map, List.length_set, List.all_cons, List.all_nil, Bool.and_self, Option.map_none, Option.map_some, List.set_cons_zero, List.set_cons_succ, Nat.lt_add_one, List.append_assoc, List.cons_append, List.nil_append, List.append_nil, List.length_append, List.take_zero, List.take_succ_cons, List.take_nil, List.drop_zero, List.drop_succ_cons, List.drop_nil, List.getElem?_cons_zero, List.getElem?_cons_succ, List.getElem?_map, Nat.reduceAdd, Nat.reduceLeDiff, Nat.add_eq_zero_iff, and_self, Nat.zero_add, Nat.add_zero, Nat.mul_one, Nat.one_mul, List.flatten_cons, List.flatten_nil, hx, h0, h1, hy, g0, g1, l0, hr, hj, *]) | (simp only [zgoO, zgoG, zO_nil, zthen_normal, zgoC]) | (with_reducible apply And.intro) | (with_reducible intro _))
        · rw [HB.out]; simp; omega
        · rw [HT.out, HV.out]; simp
        · exact ⟨_, by rw [HT.out, HV.out, List.map_append]; rfl⟩
  · rintro s' h' ⟨hok, g, X, f6, rfl⟩ ⟨f1, f9, -⟩
    rw [List.take_of_length_le (Nat.le_refl _)] at hok f6 ⊢
    have fin := F1.out hok
    clear hok
    repeat' (first | (simp only [zmPack, zfree, owners, Nat.reduceLT, List.filter_cons, List.filter_nil, List.contains_cons, List.contains_nil, Nat.reduceBEq, Bool.or_false, Bool.or_true, Bool.false_or, Bool.true_or, BEq.rfl, chunk, setAt, List.lookup_cons, List.lookup_nil, ZV.val.injEq, ZV.ptr.injEq, ZV.own.injEq, ZV.fz.injEq, ZV.func.injEq, ZV.tuple.injEq, ZV.agg.injEq, ZB.box.injEq, ZB.grow.injEq, Bool.not_eq_false', Prod.mk.injEq, and_assoc, decide_false, decide_true, Bool.not_false, Bool.not_true, Bool.true_eq_false, Bool.false_eq_true, exists_false, Bool.not_eq_false, Bool.not_not, Value.bool.injEq, Value.int.injEq, Option.some.injEq, exists_eq_left', exists_eq_left, exists_and_left, exists_and_right, and_true, true_and, decide_eq_true_eq, decide_eq_false_iff_not, if_true, if_false, Bool.not_eq_true', beq_true, beq_false, ne_eq, not_true_eq_false, not_false_eq_true, reduceCtorEq, List.getD_cons_zero, List.getD_cons_succ, List.getD_nil, List.map_cons, List.map_nil, List.append_nil, Nat.reduceEqDiff, reduceIte, ite_true, ite_false, or_true, true_or, or_false, false_or, true_imp_iff, false_imp_iff, implies_true, imp_false, and_self, imp_self, and_false, false_and, forall_const, take_map_all, Nat.le_refl, Nat.reduceMul, Nat.reduceSub, List.length_cons, List.length_nil, List.length_map, List.length_set, List.all_cons, List.all_nil, Bool.and_self, Option.map_none, Option.map_some, List.set_cons_zero, List.set_cons_succ, Nat.lt_add_one, List.append_assoc, List.cons_append, List.nil_append, List.append_nil, List.length_append, List.take_zero, List.take_succ_cons, List.take_nil, List.drop_zero, List.drop_succ_cons, List.drop_nil, List.getElem?_cons_zero, List.getElem?_cons_succ, List.getElem?_map, Nat.reduceAdd, Nat.reduceLeDiff, Nat.add_eq_zero_iff, and_self, Nat.zero_add, Nat.add_zero, Nat.mul_one, Nat.one_mul, List.flatten_cons, List.flatten_nil, *]) | (simp only [zgoO, zgoG, zO_nil, zthen_normal, zgoC]) | (with_reducible apply And.intro) | (with_reducible intro _))
end Go.Proofs.Ytmecaddjeljliaa
