/-
  AM's code of functions, written by am/amprint.lean.
-/
import Derived.KernelRfl
import Derived.Test.YtmecaddjeljliaaMrA4
import Derived.Test.YtmecaddjeljliaaMrA6
namespace Go.Proofs.Ytmecaddjeljliaa
open Go Go.RowKit
set_option linter.unusedVariables false
/-- backstitch/backstitchkeep3.MovesIdle: its code in AM. -/
def c_l_movesidle : ACode := .seq (.ops [⟨(some 4), .mv (.av (.val (.bool false))), none, true⟩])
  (.seq (.seq (.ops [⟨(some 16), .call (.av (.func 19 [])) [], none, true⟩,
      ⟨(some 17), .un .not (.tmp 16), none, true⟩])
  (.cond (.tmp 17)
    (.seq (.ops [⟨(some 4), .mv (.av (.val (.bool false))), none, true⟩])
    (.ret))
    (.skip)))
  (.seq (.ops [⟨(some 19), .mv (.tmp 0), none, true⟩,
      ⟨(some 20), .mv (.tmp 1), none, true⟩,
      ⟨(some 21), .call (.av (.func 20 [])) [(.tmp 19), (.tmp 20)], none, true⟩,
      ⟨(some 18), .mv (.tmp 21), none, true⟩,
      ⟨(some 22), .extract 0 (.tmp 18), none, true⟩,
      ⟨(some 23), .extract 1 (.tmp 18), none, true⟩,
      ⟨(some 5), .mv (.tmp 22), none, true⟩,
      ⟨(some 6), .mv (.tmp 23), none, true⟩])
  (.seq (.seq (.ops [⟨(some 24), .mv (.tmp 6), none, true⟩,
      ⟨(some 25), .bin .neq (.tmp 24) (.av (.val (.int .i64 0))), none, true⟩])
  (.cond (.tmp 25)
    (.seq (.ops [⟨(some 26), .call (.av (.func 19 [])) [], none, true⟩,
        ⟨(some 4), .mv (.tmp 26), none, true⟩])
    (.ret))
    (.skip)))
  (.seq (.ops [⟨(some 7), .mv (.av (.val (.bool true))), none, true⟩,
      ⟨(some 8), .mv (.av (.val (.bool true))), none, true⟩])
  (.seq (.seq (.ops [⟨(some 27), .mv (.tmp 0), none, true⟩,
      ⟨(some 28), .len (.tmp 27), none, true⟩,
      ⟨(some 29), .mv (.av (.val (.int .i64 0))), none, true⟩])
  (rangeCode 0 1 30 29 28 63
    (.seq (.ops [⟨(some 31), .mv (.tmp 29), none, true⟩,
        ⟨(some 32), .indexAddr 2 (.tmp 27) (.tmp 29), none, true⟩,
        ⟨(some 33), .load (some 2) (.tmp 32), none, true⟩,
        ⟨(some 10), .zero [(.val (.int .i64 0)), (.val (.int .i64 0))], none, true⟩,
        ⟨(some 9), .mv (.tmp 31), none, true⟩,
        ⟨none, .store 2 (.tmp 10) (.tmp 33), none, true⟩])
    (.seq (.ops [⟨(some 34), .mv (.tmp 7), none, true⟩,
        ⟨(some 35), .mv (.tmp 34), none, true⟩,
        ⟨(some 36), .fieldAddr 0 (.tmp 10), (some (35, true)), true⟩,
        ⟨(some 37), .load none (.tmp 36), (some (35, true)), true⟩,
        ⟨(some 38), .fieldAddr 1 (.tmp 10), (some (35, true)), true⟩,
        ⟨(some 39), .load none (.tmp 38), (some (35, true)), true⟩,
        ⟨(some 40), .bin .eql (.tmp 37) (.tmp 39), (some (35, true)), true⟩,
        ⟨(some 41), .pick (.tmp 35) (.tmp 40) (.av (.val (.bool false))), none, true⟩,
        ⟨(some 7), .mv (.tmp 41), none, true⟩])
    (.seq (.ops [⟨(some 42), .mv (.tmp 0), none, true⟩,
        ⟨(some 43), .len (.tmp 42), none, true⟩,
        ⟨(some 44), .mv (.av (.val (.int .i64 0))), none, true⟩])
    (rangeCode 2 3 45 44 43 62
      (.seq (.ops [⟨(some 46), .mv (.tmp 44), none, true⟩,
          ⟨(some 47), .indexAddr 2 (.tmp 42) (.tmp 44), none, true⟩,
          ⟨(some 48), .load (some 2) (.tmp 47), none, true⟩,
          ⟨(some 12), .zero [(.val (.int .i64 0)), (.val (.int .i64 0))], none, true⟩,
          ⟨(some 11), .mv (.tmp 46), none, true⟩,
          ⟨none, .store 2 (.tmp 12) (.tmp 48), none, true⟩])
      (.ops [⟨(some 49), .mv (.tmp 8), none, true⟩,
          ⟨(some 50), .mv (.tmp 49), none, true⟩,
          ⟨(some 51), .fieldAddr 0 (.tmp 10), (some (50, true)), true⟩,
          ⟨(some 52), .load none (.tmp 51), (some (50, true)), true⟩,
          ⟨(some 53), .fieldAddr 1 (.tmp 12), (some (50, true)), true⟩,
          ⟨(some 54), .load none (.tmp 53), (some (50, true)), true⟩,
          ⟨(some 55), .bin .neq (.tmp 52) (.tmp 54), (some (50, true)), true⟩,
          ⟨(some 56), .mv (.tmp 55), (some (50, true)), true⟩,
          ⟨(some 57), .mv (.tmp 9), (some (56, false)), true⟩,
          ⟨(some 58), .mv (.tmp 11), (some (56, false)), true⟩,
          ⟨(some 59), .bin .eql (.tmp 57) (.tmp 58), (some (56, false)), true⟩,
          ⟨(some 60), .pick (.tmp 56) (.av (.val (.bool true))) (.tmp 59), (some (50, true)), true⟩,
          ⟨(some 61), .pick (.tmp 50) (.tmp 60) (.av (.val (.bool false))), none, true⟩,
          ⟨(some 8), .mv (.tmp 61), none, true⟩]))))))))
  (.seq (.ops [⟨(some 13), .mv (.av (.val (.slice none 0 0))), none, true⟩])
  (.seq (.seq (.ops [⟨(some 64), .mv (.tmp 0), none, true⟩,
      ⟨(some 65), .len (.tmp 64), none, true⟩,
      ⟨(some 66), .mv (.av (.val (.int .i64 0))), none, true⟩])
  (rangeCode 4 5 67 66 65 79
    (.seq (.ops [⟨(some 68), .indexAddr 2 (.tmp 64) (.tmp 66), none, true⟩,
        ⟨(some 69), .load (some 2) (.tmp 68), none, true⟩,
        ⟨(some 15), .zero [(.val (.int .i64 0)), (.val (.int .i64 0))], none, true⟩,
        ⟨none, .store 2 (.tmp 15) (.tmp 69), none, true⟩])
    (.seq (.ops [⟨(some 70), .fieldAddr 0 (.tmp 15), none, true⟩,
        ⟨(some 71), .load none (.tmp 70), none, true⟩,
        ⟨(some 72), .fieldAddr 1 (.tmp 15), none, true⟩,
        ⟨(some 73), .load none (.tmp 72), none, true⟩,
        ⟨(some 74), .bin .neq (.tmp 71) (.tmp 73), none, true⟩])
    (.cond (.tmp 74)
      (.ops [⟨(some 75), .mv (.tmp 13), none, true⟩,
          ⟨(some 76), .load (some 2) (.tmp 15), none, true⟩,
          ⟨(some 77), .lits 2 1 [(.val (.int .i64 0)), (.val (.int .i64 0))] [(0, 2, (.tmp 76))], none, true⟩,
          ⟨(some 78), .append 2 16 (.tmp 75) (.tmp 77), none, true⟩,
          ⟨(some 13), .mv (.tmp 78), none, true⟩])
      (.skip))))))
  (.seq (.ops [⟨(some 80), .call (.av (.func 19 [])) [], none, true⟩,
      ⟨(some 81), .mv (.tmp 80), none, true⟩,
      ⟨(some 82), .mv (.tmp 7), (some (81, true)), true⟩,
      ⟨(some 83), .un .not (.tmp 82), (some (81, true)), true⟩,
      ⟨(some 84), .mv (.tmp 83), (some (81, true)), true⟩,
      ⟨(some 85), .mv (.tmp 5), (some (84, false)), true⟩,
      ⟨(some 86), .len (.tmp 85), (some (84, false)), true⟩,
      ⟨(some 87), .bin .eql (.tmp 86) (.av (.val (.int .i64 0))), (some (84, false)), true⟩,
      ⟨(some 88), .pick (.tmp 84) (.av (.val (.bool true))) (.tmp 87), (some (81, true)), true⟩,
      ⟨(some 89), .pick (.tmp 81) (.tmp 88) (.av (.val (.bool false))), none, true⟩,
      ⟨(some 90), .mv (.tmp 89), none, true⟩,
      ⟨(some 91), .mv (.tmp 8), (some (90, true)), true⟩,
      ⟨(some 92), .un .not (.tmp 91), (some (90, true)), true⟩,
      ⟨(some 93), .mv (.tmp 92), (some (90, true)), true⟩,
      ⟨(some 94), .mv (.tmp 5), (some (93, false)), true⟩,
      ⟨(some 95), .mv (.tmp 13), (some (93, false)), true⟩,
      ⟨(some 96), .call (.av (.func 21 [])) [(.tmp 94), (.tmp 95)], (some (93, false)), true⟩,
      ⟨(some 97), .pick (.tmp 93) (.av (.val (.bool true))) (.tmp 96), (some (90, true)), true⟩,
      ⟨(some 98), .pick (.tmp 90) (.tmp 97) (.av (.val (.bool false))), none, true⟩,
      ⟨(some 4), .mv (.tmp 98), none, true⟩])
  (.ret)))))))))
theorem f_l_movesidle : cFunc Try.prog 6 = some ⟨99, c_l_movesidle, [.tmp 4]⟩ := by kernel_rfl
/-- backstitch/backstitchkeep3.MovesAll: its code in AM. -/
def c_l_movesall : ACode := .seq (.ops [⟨(some 6), .mv (.av (.val (.bool false))), none, true⟩])
  (.seq (.seq (.ops [⟨(some 17), .call (.av (.func 19 [])) [], none, true⟩,
      ⟨(some 18), .un .not (.tmp 17), none, true⟩])
  (.cond (.tmp 18)
    (.seq (.ops [⟨(some 6), .mv (.av (.val (.bool false))), none, true⟩])
    (.ret))
    (.skip)))
  (.seq (.ops [⟨(some 20), .mv (.tmp 0), none, true⟩,
      ⟨(some 21), .mv (.tmp 1), none, true⟩,
      ⟨(some 22), .call (.av (.func 20 [])) [(.tmp 20), (.tmp 21)], none, true⟩,
      ⟨(some 19), .mv (.tmp 22), none, true⟩,
      ⟨(some 23), .extract 0 (.tmp 19), none, true⟩,
      ⟨(some 24), .extract 1 (.tmp 19), none, true⟩,
      ⟨(some 7), .mv (.tmp 23), none, true⟩,
      ⟨(some 8), .mv (.tmp 24), none, true⟩])
  (.seq (.seq (.ops [⟨(some 25), .mv (.tmp 8), none, true⟩,
      ⟨(some 26), .bin .neq (.tmp 25) (.av (.val (.int .i64 0))), none, true⟩])
  (.cond (.tmp 26)
    (.seq (.ops [⟨(some 27), .call (.av (.func 19 [])) [], none, true⟩,
        ⟨(some 28), .mv (.tmp 27), none, true⟩,
        ⟨(some 29), .mv (.tmp 7), (some (28, true)), true⟩,
        ⟨(some 30), .len (.tmp 29), (some (28, true)), true⟩,
        ⟨(some 31), .bin .eql (.tmp 30) (.av (.val (.int .i64 0))), (some (28, true)), true⟩,
        ⟨(some 32), .pick (.tmp 28) (.tmp 31) (.av (.val (.bool false))), none, true⟩,
        ⟨(some 6), .mv (.tmp 32), none, true⟩])
    (.ret))
    (.skip)))
  (.seq (.ops [⟨(some 33), .mv (.tmp 2), none, true⟩,
      ⟨(some 34), .len (.tmp 33), none, true⟩,
      ⟨(some 9), .mv (.tmp 34), none, true⟩])
  (.seq (.seq (.ops [⟨(some 35), .mv (.tmp 0), none, true⟩,
      ⟨(some 36), .len (.tmp 35), none, true⟩,
      ⟨(some 37), .mv (.av (.val (.int .i64 0))), none, true⟩])
  (rangeCode 0 1 38 37 36 71
    (.seq (.ops [⟨(some 39), .indexAddr 2 (.tmp 35) (.tmp 37), none, true⟩,
        ⟨(some 40), .load (some 2) (.tmp 39), none, true⟩,
        ⟨(some 11), .zero [(.val (.int .i64 0)), (.val (.int .i64 0))], none, true⟩,
        ⟨none, .store 2 (.tmp 11) (.tmp 40), none, true⟩])
    (.seq (.ops [⟨(some 41), .fieldAddr 0 (.tmp 11), none, true⟩,
        ⟨(some 42), .load none (.tmp 41), none, true⟩,
        ⟨(some 43), .bin .lss (.tmp 42) (.av (.val (.int .i64 0))), none, true⟩,
        ⟨(some 44), .mv (.tmp 43), none, true⟩,
        ⟨(some 45), .fieldAddr 0 (.tmp 11), (some (44, false)), true⟩,
        ⟨(some 46), .load none (.tmp 45), (some (44, false)), true⟩,
        ⟨(some 47), .mv (.tmp 9), (some (44, false)), true⟩,
        ⟨(some 48), .bin .geq (.tmp 46) (.tmp 47), (some (44, false)), true⟩,
        ⟨(some 49), .pick (.tmp 44) (.av (.val (.bool true))) (.tmp 48), none, true⟩,
        ⟨(some 50), .mv (.tmp 49), none, true⟩,
        ⟨(some 51), .fieldAddr 1 (.tmp 11), (some (50, false)), true⟩,
        ⟨(some 52), .load none (.tmp 51), (some (50, false)), true⟩,
        ⟨(some 53), .bin .lss (.tmp 52) (.av (.val (.int .i64 0))), (some (50, false)), true⟩,
        ⟨(some 54), .pick (.tmp 50) (.av (.val (.bool true))) (.tmp 53), none, true⟩,
        ⟨(some 55), .mv (.tmp 54), none, true⟩,
        ⟨(some 56), .fieldAddr 1 (.tmp 11), (some (55, false)), true⟩,
        ⟨(some 57), .load none (.tmp 56), (some (55, false)), true⟩,
        ⟨(some 58), .mv (.tmp 9), (some (55, false)), true⟩,
        ⟨(some 59), .bin .geq (.tmp 57) (.tmp 58), (some (55, false)), true⟩,
        ⟨(some 60), .pick (.tmp 55) (.av (.val (.bool true))) (.tmp 59), none, true⟩,
        ⟨(some 61), .mv (.tmp 60), none, true⟩,
        ⟨(some 62), .mv (.tmp 1), (some (61, false)), true⟩,
        ⟨(some 63), .bin .lss (.tmp 62) (.av (.val (.int .i64 0))), (some (61, false)), true⟩,
        ⟨(some 64), .pick (.tmp 61) (.av (.val (.bool true))) (.tmp 63), none, true⟩,
        ⟨(some 65), .mv (.tmp 64), none, true⟩,
        ⟨(some 66), .mv (.tmp 1), (some (65, false)), true⟩,
        ⟨(some 67), .mv (.tmp 9), (some (65, false)), true⟩,
        ⟨(some 68), .bin .geq (.tmp 66) (.tmp 67), (some (65, false)), true⟩,
        ⟨(some 69), .pick (.tmp 65) (.av (.val (.bool true))) (.tmp 68), none, true⟩])
    (.cond (.tmp 69)
      (.seq (.ops [⟨(some 70), .call (.av (.func 19 [])) [], none, true⟩,
          ⟨(some 6), .mv (.tmp 70), none, true⟩])
      (.ret))
      (.skip))))))
  (.seq (.ops [⟨(some 72), .mv (.tmp 7), none, true⟩,
      ⟨(some 73), .mv (.tmp 2), none, true⟩,
      ⟨(some 74), .call (.av (.func 22 [])) [(.tmp 72), (.tmp 73)], none, true⟩,
      ⟨(some 12), .mv (.tmp 74), none, true⟩])
  (.seq (.seq (.ops [⟨(some 75), .mv (.tmp 12), none, true⟩,
      ⟨(some 76), .len (.tmp 75), none, true⟩,
      ⟨(some 77), .mv (.tmp 9), none, true⟩,
      ⟨(some 78), .bin .neq (.tmp 76) (.tmp 77), none, true⟩,
      ⟨(some 79), .mv (.tmp 78), none, true⟩,
      ⟨(some 80), .mv (.tmp 7), (some (79, false)), true⟩,
      ⟨(some 81), .len (.tmp 80), (some (79, false)), true⟩,
      ⟨(some 82), .mv (.tmp 0), (some (79, false)), true⟩,
      ⟨(some 83), .len (.tmp 82), (some (79, false)), true⟩,
      ⟨(some 84), .mv (.tmp 0), (some (79, false)), true⟩,
      ⟨(some 85), .len (.tmp 84), (some (79, false)), true⟩,
      ⟨(some 86), .bin .quo (.tmp 85) (.av (.val (.int .i64 2))), (some (79, false)), true⟩,
      ⟨(some 87), .bin .add (.tmp 83) (.tmp 86), (some (79, false)), true⟩,
      ⟨(some 88), .bin .gtr (.tmp 81) (.tmp 87), (some (79, false)), true⟩,
      ⟨(some 89), .pick (.tmp 79) (.av (.val (.bool true))) (.tmp 88), none, true⟩])
  (.cond (.tmp 89)
    (.seq (.ops [⟨(some 6), .mv (.av (.val (.bool false))), none, true⟩])
    (.ret))
    (.skip)))
  (.seq (.seq (.ops [⟨(some 90), .mv (.tmp 12), none, true⟩,
      ⟨(some 91), .len (.tmp 90), none, true⟩,
      ⟨(some 92), .mv (.av (.val (.int .i64 0))), none, true⟩])
  (rangeCode 2 3 93 92 91 126
    (.seq (.ops [⟨(some 94), .mv (.tmp 92), none, true⟩,
        ⟨(some 13), .mv (.tmp 94), none, true⟩])
    (.seq (.ops [⟨(some 95), .mv (.tmp 2), none, true⟩,
        ⟨(some 96), .mv (.tmp 13), none, true⟩,
        ⟨(some 97), .indexAddr 1 (.tmp 95) (.tmp 96), none, true⟩,
        ⟨(some 98), .load none (.tmp 97), none, true⟩,
        ⟨(some 14), .mv (.tmp 98), none, true⟩])
    (.seq (.seq (.ops [⟨(some 99), .mv (.tmp 0), none, true⟩,
        ⟨(some 100), .len (.tmp 99), none, true⟩,
        ⟨(some 101), .mv (.av (.val (.int .i64 0))), none, true⟩])
    (rangeCode 4 5 102 101 100 114
      (.seq (.ops [⟨(some 103), .indexAddr 2 (.tmp 99) (.tmp 101), none, true⟩,
          ⟨(some 104), .load (some 2) (.tmp 103), none, true⟩,
          ⟨(some 16), .zero [(.val (.int .i64 0)), (.val (.int .i64 0))], none, true⟩,
          ⟨none, .store 2 (.tmp 16) (.tmp 104), none, true⟩])
      (.seq (.ops [⟨(some 105), .fieldAddr 0 (.tmp 16), none, true⟩,
          ⟨(some 106), .load none (.tmp 105), none, true⟩,
          ⟨(some 107), .mv (.tmp 13), none, true⟩,
          ⟨(some 108), .bin .eql (.tmp 106) (.tmp 107), none, true⟩])
      (.cond (.tmp 108)
        (.ops [⟨(some 109), .mv (.tmp 2), none, true⟩,
            ⟨(some 110), .fieldAddr 1 (.tmp 16), none, true⟩,
            ⟨(some 111), .load none (.tmp 110), none, true⟩,
            ⟨(some 112), .indexAddr 1 (.tmp 109) (.tmp 111), none, true⟩,
            ⟨(some 113), .load none (.tmp 112), none, true⟩,
            ⟨(some 14), .mv (.tmp 113), none, true⟩])
        (.skip))))))
    (.seq (.ops [⟨(some 115), .mv (.tmp 13), none, true⟩,
        ⟨(some 116), .mv (.tmp 1), none, true⟩,
        ⟨(some 117), .bin .neq (.tmp 115) (.tmp 116), none, true⟩,
        ⟨(some 118), .mv (.tmp 117), none, true⟩,
        ⟨(some 119), .mv (.tmp 12), (some (118, true)), true⟩,
        ⟨(some 120), .mv (.tmp 13), (some (118, true)), true⟩,
        ⟨(some 121), .indexAddr 1 (.tmp 119) (.tmp 120), (some (118, true)), true⟩,
        ⟨(some 122), .load none (.tmp 121), (some (118, true)), true⟩,
        ⟨(some 123), .mv (.tmp 14), (some (118, true)), true⟩,
        ⟨(some 124), .bin .neq (.tmp 122) (.tmp 123), (some (118, true)), true⟩,
        ⟨(some 125), .pick (.tmp 118) (.tmp 124) (.av (.val (.bool false))), none, true⟩])
    (.cond (.tmp 125)
      (.seq (.ops [⟨(some 6), .mv (.av (.val (.bool false))), none, true⟩])
      (.ret))
      (.skip))))))))
  (.seq (.ops [⟨(some 127), .call (.av (.func 19 [])) [], none, true⟩,
      ⟨(some 6), .mv (.tmp 127), none, true⟩])
  (.ret))))))))))
theorem f_l_movesall : cFunc Try.prog 7 = some ⟨128, c_l_movesall, [.tmp 6]⟩ := by kernel_rfl
/-- backstitch/moves.Order: its code in AM. -/
def c_mv_order : ACode := .seq (.ops [⟨(some 4), .mv (.av (.val (.slice none 0 0))), none, true⟩,
      ⟨(some 5), .mv (.av (.val (.int .i64 0))), none, true⟩])
  (.seq (.seq (.ops [⟨(some 12), .mv (.tmp 0), none, true⟩,
      ⟨(some 13), .mv (.tmp 1), none, true⟩,
      ⟨(some 14), .call (.av (.func 33 [])) [(.tmp 12), (.tmp 13)], none, true⟩,
      ⟨(some 6), .mv (.tmp 14), none, true⟩])
  (.seq (.ops [⟨(some 15), .mv (.tmp 6), none, true⟩,
      ⟨(some 16), .bin .neq (.tmp 15) (.av (.val (.int .i64 0))), none, true⟩])
  (.cond (.tmp 16)
    (.seq (.ops [⟨(some 17), .mv (.tmp 6), none, true⟩,
        ⟨(some 4), .mv (.av (.val (.slice none 0 0))), none, true⟩,
        ⟨(some 5), .mv (.tmp 17), none, true⟩])
    (.ret))
    (.skip))))
  (.seq (.ops [⟨(some 18), .mv (.tmp 0), none, true⟩,
      ⟨(some 19), .call (.av (.func 35 [])) [(.tmp 18)], none, true⟩,
      ⟨(some 20), .call (.av (.func 34 [])) [(.tmp 19), (.av (.func 36 []))], none, true⟩,
      ⟨(some 7), .mv (.tmp 20), none, true⟩])
  (.seq (.ops [⟨(some 8), .mv (.av (.val (.slice none 0 0))), none, true⟩])
  (.seq (.block 0 (.loop (.seq (.seq (.ops [⟨(some 21), .mv (.tmp 7), none, true⟩,
        ⟨(some 22), .len (.tmp 21), none, true⟩,
        ⟨(some 23), .bin .gtr (.tmp 22) (.av (.val (.int .i64 0))), none, true⟩])
    (.cond (.tmp 23)
      (.skip)
      (.exit 0)))
    (.block 1 (.seq (.seq (.ops [⟨(some 24), .mv (.tmp 7), none, true⟩,
         ⟨(some 25), .call (.av (.func 37 [])) [(.tmp 24)], none, true⟩,
         ⟨(some 9), .mv (.tmp 25), none, true⟩])
     (.seq (.ops [⟨(some 26), .mv (.tmp 9), none, true⟩,
         ⟨(some 27), .bin .geq (.tmp 26) (.av (.val (.int .i64 0))), none, true⟩])
     (.cond (.tmp 27)
       (.seq (.ops [⟨(some 28), .mv (.tmp 8), none, true⟩,
           ⟨(some 29), .mv (.tmp 7), none, true⟩,
           ⟨(some 30), .mv (.tmp 9), none, true⟩,
           ⟨(some 31), .indexAddr 2 (.tmp 29) (.tmp 30), none, true⟩,
           ⟨(some 32), .load (some 2) (.tmp 31), none, true⟩,
           ⟨(some 33), .lits 2 1 [(.val (.int .i64 0)), (.val (.int .i64 0))] [(0, 2, (.tmp 32))], none, true⟩,
           ⟨(some 34), .append 2 16 (.tmp 28) (.tmp 33), none, true⟩,
           ⟨(some 8), .mv (.tmp 34), none, true⟩])
       (.seq (.ops [⟨(some 35), .mv (.tmp 7), none, true⟩,
           ⟨(some 36), .mv (.tmp 9), none, true⟩,
           ⟨(some 37), .mv (.tmp 9), none, true⟩,
           ⟨(some 38), .bin .add (.tmp 37) (.av (.val (.int .i64 1))), none, true⟩,
           ⟨(some 39), .call (.av (.func 38 [])) [(.tmp 35), (.tmp 36), (.tmp 38)], none, true⟩,
           ⟨(some 7), .mv (.tmp 39), none, true⟩])
       (.exit 1)))
       (.skip))))
     (.seq (.ops [⟨(some 40), .mv (.tmp 7), none, true⟩,
         ⟨(some 41), .indexAddr 2 (.tmp 40) (.av (.val (.int .i64 0))), none, true⟩,
         ⟨(some 42), .fieldAddr 0 (.tmp 41), none, true⟩,
         ⟨(some 43), .load none (.tmp 42), none, true⟩,
         ⟨(some 10), .mv (.tmp 43), none, true⟩])
     (.seq (.ops [⟨(some 44), .mv (.tmp 8), none, true⟩,
         ⟨(some 45), .mv (.tmp 1), none, true⟩,
         ⟨(some 46), .mv (.tmp 10), none, true⟩,
         ⟨(some 47), .build [(.val (.int .i64 0)), (.val (.int .i64 0))] [(0, 1, (.tmp 45)), (1, 1, (.tmp 46))], none, true⟩,
         ⟨(some 48), .lits 2 1 [(.val (.int .i64 0)), (.val (.int .i64 0))] [(0, 2, (.tmp 47))], none, true⟩,
         ⟨(some 49), .append 2 16 (.tmp 44) (.tmp 48), none, true⟩,
         ⟨(some 8), .mv (.tmp 49), none, true⟩])
     (.seq (.ops [⟨(some 50), .mv (.tmp 7), none, true⟩,
         ⟨(some 51), .len (.tmp 50), none, true⟩,
         ⟨(some 52), .mv (.av (.val (.int .i64 0))), none, true⟩])
     (rangeCode 2 3 53 52 51 67
       (.seq (.ops [⟨(some 54), .mv (.tmp 52), none, true⟩,
           ⟨(some 11), .mv (.tmp 54), none, true⟩])
       (.seq (.ops [⟨(some 55), .mv (.tmp 7), none, true⟩,
           ⟨(some 56), .mv (.tmp 11), none, true⟩,
           ⟨(some 57), .indexAddr 2 (.tmp 55) (.tmp 56), none, true⟩,
           ⟨(some 58), .fieldAddr 1 (.tmp 57), none, true⟩,
           ⟨(some 59), .load none (.tmp 58), none, true⟩,
           ⟨(some 60), .mv (.tmp 10), none, true⟩,
           ⟨(some 61), .bin .eql (.tmp 59) (.tmp 60), none, true⟩])
       (.cond (.tmp 61)
         (.ops [⟨(some 62), .mv (.tmp 7), none, true⟩,
             ⟨(some 63), .mv (.tmp 11), none, true⟩,
             ⟨(some 64), .mv (.tmp 1), none, true⟩,
             ⟨(some 65), .indexAddr 2 (.tmp 62) (.tmp 63), none, true⟩,
             ⟨(some 66), .fieldAddr 1 (.tmp 65), none, true⟩,
             ⟨none, .store 1 (.tmp 66) (.tmp 64), none, true⟩])
         (.skip)))))))))))))
  (.seq (.ops [⟨(some 68), .mv (.tmp 8), none, true⟩,
      ⟨(some 4), .mv (.tmp 68), none, true⟩,
      ⟨(some 5), .mv (.av (.val (.int .i64 0))), none, true⟩])
  (.ret))))))
theorem f_mv_order : cFunc Try.prog 20 = some ⟨69, c_mv_order, [.tmp 4, .tmp 5]⟩ := by kernel_rfl
/-- backstitch/backstitchref3.Eq[backstitch/api.RMove]: its code in AM. -/
def c_r_eqmove : ACode := .seq (.ops [⟨(some 4), .mv (.av (.val (.bool false))), none, true⟩])
  (.seq (.seq (.ops [⟨(some 7), .mv (.tmp 0), none, true⟩,
      ⟨(some 8), .len (.tmp 7), none, true⟩,
      ⟨(some 9), .mv (.tmp 1), none, true⟩,
      ⟨(some 10), .len (.tmp 9), none, true⟩,
      ⟨(some 11), .bin .neq (.tmp 8) (.tmp 10), none, true⟩])
  (.cond (.tmp 11)
    (.seq (.ops [⟨(some 4), .mv (.av (.val (.bool false))), none, true⟩])
    (.ret))
    (.skip)))
  (.seq (.seq (.ops [⟨(some 12), .mv (.tmp 0), none, true⟩,
      ⟨(some 13), .len (.tmp 12), none, true⟩,
      ⟨(some 14), .mv (.av (.val (.int .i64 0))), none, true⟩])
  (rangeCode 0 1 15 14 13 25
    (.seq (.ops [⟨(some 16), .mv (.tmp 14), none, true⟩,
        ⟨(some 17), .indexAddr 2 (.tmp 12) (.tmp 14), none, true⟩,
        ⟨(some 18), .load (some 2) (.tmp 17), none, true⟩,
        ⟨(some 6), .zero [(.val (.int .i64 0)), (.val (.int .i64 0))], none, true⟩,
        ⟨(some 5), .mv (.tmp 16), none, true⟩,
        ⟨none, .store 2 (.tmp 6) (.tmp 18), none, true⟩])
    (.seq (.ops [⟨(some 19), .load (some 2) (.tmp 6), none, true⟩,
        ⟨(some 20), .mv (.tmp 1), none, true⟩,
        ⟨(some 21), .mv (.tmp 5), none, true⟩,
        ⟨(some 22), .indexAddr 2 (.tmp 20) (.tmp 21), none, true⟩,
        ⟨(some 23), .load (some 2) (.tmp 22), none, true⟩,
        ⟨(some 24), .eqAgg true [0, 0] (.tmp 19) (.tmp 23), none, true⟩])
    (.cond (.tmp 24)
      (.seq (.ops [⟨(some 4), .mv (.av (.val (.bool false))), none, true⟩])
      (.ret))
      (.skip))))))
  (.seq (.ops [⟨(some 4), .mv (.av (.val (.bool true))), none, true⟩])
  (.ret))))
theorem f_r_eqmove : cFunc Try.prog 21 = some ⟨26, c_r_eqmove, [.tmp 4]⟩ := by kernel_rfl
/-- backstitch/moves.Run: its code in AM. -/
def c_mv_run : ACode := .seq (.ops [⟨(some 4), .mv (.av (.val (.slice none 0 0))), none, true⟩])
  (.seq (.ops [⟨(some 8), .mv (.tmp 1), none, true⟩,
      ⟨(some 9), .call (.av (.func 39 [])) [(.tmp 8)], none, true⟩,
      ⟨(some 5), .mv (.tmp 9), none, true⟩])
  (.seq (.seq (.ops [⟨(some 10), .mv (.tmp 0), none, true⟩,
      ⟨(some 11), .len (.tmp 10), none, true⟩,
      ⟨(some 12), .mv (.av (.val (.int .i64 0))), none, true⟩])
  (rangeCode 0 1 13 12 11 41
    (.seq (.ops [⟨(some 14), .indexAddr 2 (.tmp 10) (.tmp 12), none, true⟩,
        ⟨(some 15), .load (some 2) (.tmp 14), none, true⟩,
        ⟨(some 7), .zero [(.val (.int .i64 0)), (.val (.int .i64 0))], none, true⟩,
        ⟨none, .store 2 (.tmp 7) (.tmp 15), none, true⟩])
    (.seq (.ops [⟨(some 16), .fieldAddr 0 (.tmp 7), none, true⟩,
        ⟨(some 17), .load none (.tmp 16), none, true⟩,
        ⟨(some 18), .fieldAddr 1 (.tmp 7), none, true⟩,
        ⟨(some 19), .load none (.tmp 18), none, true⟩,
        ⟨(some 20), .minmax false (.tmp 17) [(.tmp 19)], none, true⟩,
        ⟨(some 21), .bin .geq (.tmp 20) (.av (.val (.int .i64 0))), none, true⟩,
        ⟨(some 22), .mv (.tmp 21), none, true⟩,
        ⟨(some 23), .fieldAddr 0 (.tmp 7), (some (22, true)), true⟩,
        ⟨(some 24), .load none (.tmp 23), (some (22, true)), true⟩,
        ⟨(some 25), .fieldAddr 1 (.tmp 7), (some (22, true)), true⟩,
        ⟨(some 26), .load none (.tmp 25), (some (22, true)), true⟩,
        ⟨(some 27), .minmax true (.tmp 24) [(.tmp 26)], (some (22, true)), true⟩,
        ⟨(some 28), .mv (.tmp 5), (some (22, true)), true⟩,
        ⟨(some 29), .len (.tmp 28), (some (22, true)), true⟩,
        ⟨(some 30), .bin .lss (.tmp 27) (.tmp 29), (some (22, true)), true⟩,
        ⟨(some 31), .pick (.tmp 22) (.tmp 30) (.av (.val (.bool false))), none, true⟩])
    (.cond (.tmp 31)
      (.ops [⟨(some 32), .mv (.tmp 5), none, true⟩,
          ⟨(some 33), .fieldAddr 0 (.tmp 7), none, true⟩,
          ⟨(some 34), .load none (.tmp 33), none, true⟩,
          ⟨(some 35), .mv (.tmp 5), none, true⟩,
          ⟨(some 36), .fieldAddr 1 (.tmp 7), none, true⟩,
          ⟨(some 37), .load none (.tmp 36), none, true⟩,
          ⟨(some 38), .indexAddr 1 (.tmp 35) (.tmp 37), none, true⟩,
          ⟨(some 39), .load none (.tmp 38), none, true⟩,
          ⟨(some 40), .indexAddr 1 (.tmp 32) (.tmp 34), none, true⟩,
          ⟨none, .store 1 (.tmp 40) (.tmp 39), none, true⟩])
      (.skip))))))
  (.seq (.ops [⟨(some 42), .mv (.tmp 5), none, true⟩,
      ⟨(some 4), .mv (.tmp 42), none, true⟩])
  (.ret))))
theorem f_mv_run : cFunc Try.prog 22 = some ⟨43, c_mv_run, [.tmp 4]⟩ := by kernel_rfl
/-- backstitch/moves.check: its code in AM. -/
def c_mv_check : ACode := .seq (.ops [⟨(some 3), .box 1 (.tmp 1), none, true⟩,
      ⟨(some 4), .mv (.av (.val (.int .i64 0))), none, true⟩])
  (.seq (.seq (.ops [⟨(some 7), .mv (.tmp 0), none, true⟩,
      ⟨(some 8), .len (.tmp 7), none, true⟩,
      ⟨(some 9), .bin .gtr (.tmp 8) (.av (.val (.int .i64 60))), none, true⟩])
  (.cond (.tmp 9)
    (.seq (.ops [⟨(some 4), .mv (.av (.val (.int .i64 2))), none, true⟩])
    (.ret))
    (.skip)))
  (.seq (.seq (.ops [⟨(some 10), .mv (.tmp 0), none, true⟩,
      ⟨(some 11), .len (.tmp 10), none, true⟩,
      ⟨(some 12), .mv (.av (.val (.int .i64 0))), none, true⟩])
  (rangeCode 0 1 13 12 11 22
    (.seq (.ops [⟨(some 14), .mv (.tmp 12), none, true⟩,
        ⟨(some 15), .indexAddr 2 (.tmp 10) (.tmp 12), none, true⟩,
        ⟨(some 16), .load (some 2) (.tmp 15), none, true⟩,
        ⟨(some 6), .zero [(.val (.int .i64 0)), (.val (.int .i64 0))], none, true⟩,
        ⟨(some 5), .mv (.tmp 14), none, true⟩,
        ⟨none, .store 2 (.tmp 6) (.tmp 16), none, true⟩])
    (.seq (.ops [⟨(some 17), .mv (.tmp 0), none, true⟩,
        ⟨(some 18), .mv (.tmp 5), none, true⟩,
        ⟨(some 19), .slice 2 (.tmp 17) none (some (.tmp 18)) none, none, true⟩,
        ⟨(some 20), .func 43 [(.tmp 6)], none, true⟩,
        ⟨(some 21), .call (.av (.func 42 [])) [(.tmp 19), (.tmp 20)], none, true⟩])
    (.cond (.tmp 21)
      (.seq (.ops [⟨(some 4), .mv (.av (.val (.int .i64 6))), none, true⟩])
      (.ret))
      (.skip))))))
  (.seq (.seq (.ops [⟨(some 23), .mv (.tmp 0), none, true⟩,
      ⟨(some 24), .func 44 [(.tmp 3)], none, true⟩,
      ⟨(some 25), .call (.av (.func 42 [])) [(.tmp 23), (.tmp 24)], none, true⟩])
  (.cond (.tmp 25)
    (.seq (.ops [⟨(some 4), .mv (.av (.val (.int .i64 1))), none, true⟩])
    (.ret))
    (.skip)))
  (.seq (.ops [⟨(some 4), .mv (.av (.val (.int .i64 0))), none, true⟩])
  (.ret)))))
theorem f_mv_check : cFunc Try.prog 33 = some ⟨26, c_mv_check, [.tmp 4]⟩ := by kernel_rfl
/-- slices.DeleteFunc[[]backstitch/api.RMove,backstitch/api.RMove]: its code in AM. -/
def c_s_delf : ACode := .seq (.ops [⟨(some 4), .mv (.av (.val (.slice none 0 0))), none, true⟩])
  (.seq (.ops [⟨(some 8), .mv (.tmp 0), none, true⟩,
      ⟨(some 9), .mv (.tmp 1), none, true⟩,
      ⟨(some 10), .call (.av (.func 45 [])) [(.tmp 8), (.tmp 9)], none, true⟩,
      ⟨(some 5), .mv (.tmp 10), none, true⟩])
  (.seq (.seq (.ops [⟨(some 11), .mv (.tmp 5), none, true⟩,
      ⟨(some 12), .bin .eql (.tmp 11) (.av (.val (.int .i64 (-1)))), none, true⟩])
  (.cond (.tmp 12)
    (.seq (.ops [⟨(some 13), .mv (.tmp 0), none, true⟩,
        ⟨(some 4), .mv (.tmp 13), none, true⟩])
    (.ret))
    (.skip)))
  (.seq (.seq (.ops [⟨(some 14), .mv (.tmp 5), none, true⟩,
      ⟨(some 15), .bin .add (.tmp 14) (.av (.val (.int .i64 1))), none, true⟩,
      ⟨(some 6), .mv (.tmp 15), none, true⟩])
  (.block 0 (.loop (.seq (.seq (.ops [⟨(some 16), .mv (.tmp 6), none, true⟩,
        ⟨(some 17), .mv (.tmp 0), none, true⟩,
        ⟨(some 18), .len (.tmp 17), none, true⟩,
        ⟨(some 19), .bin .lss (.tmp 16) (.tmp 18), none, true⟩])
    (.cond (.tmp 19)
      (.skip)
      (.exit 0)))
    (.seq (.block 1 (.seq (.ops [⟨(some 22), .mv (.tmp 0), none, true⟩,
         ⟨(some 23), .mv (.tmp 6), none, true⟩,
         ⟨(some 24), .indexAddr 2 (.tmp 22) (.tmp 23), none, true⟩,
         ⟨(some 25), .load (some 2) (.tmp 24), none, true⟩,
         ⟨(some 7), .zero [(.val (.int .i64 0)), (.val (.int .i64 0))], none, true⟩,
         ⟨none, .store 2 (.tmp 7) (.tmp 25), none, true⟩])
     (.seq (.ops [⟨(some 26), .mv (.tmp 1), none, true⟩,
         ⟨(some 27), .load (some 2) (.tmp 7), none, true⟩,
         ⟨(some 28), .call (.tmp 26) [(.tmp 27)], none, true⟩,
         ⟨(some 29), .un .not (.tmp 28), none, true⟩])
     (.cond (.tmp 29)
       (.seq (.ops [⟨(some 30), .mv (.tmp 0), none, true⟩,
           ⟨(some 31), .mv (.tmp 5), none, true⟩,
           ⟨(some 32), .load (some 2) (.tmp 7), none, true⟩,
           ⟨(some 33), .indexAddr 2 (.tmp 30) (.tmp 31), none, true⟩,
           ⟨none, .store 2 (.tmp 33) (.tmp 32), none, true⟩])
       (.ops [⟨(some 34), .mv (.tmp 5), none, true⟩,
           ⟨(some 35), .bin .add (.tmp 34) (.av (.val (.int .i64 1))), none, true⟩,
           ⟨(some 5), .mv (.tmp 35), none, true⟩]))
       (.skip)))))
    (.ops [⟨(some 20), .mv (.tmp 6), none, true⟩,
        ⟨(some 21), .bin .add (.tmp 20) (.av (.val (.int .i64 1))), none, true⟩,
        ⟨(some 6), .mv (.tmp 21), none, true⟩]))))))
  (.seq (.ops [⟨(some 36), .mv (.tmp 0), none, true⟩,
      ⟨(some 37), .mv (.tmp 5), none, true⟩,
      ⟨(some 38), .slice 2 (.tmp 36) (some (.tmp 37)) none none, none, true⟩,
      ⟨none, .clear 2 [(.val (.int .i64 0)), (.val (.int .i64 0))] (.tmp 38), none, true⟩])
  (.seq (.ops [⟨(some 39), .mv (.tmp 0), none, true⟩,
      ⟨(some 40), .mv (.tmp 5), none, true⟩,
      ⟨(some 41), .slice 2 (.tmp 39) none (some (.tmp 40)) none, none, true⟩,
      ⟨(some 4), .mv (.tmp 41), none, true⟩])
  (.ret))))))
theorem f_s_delf : cFunc Try.prog 34 = some ⟨42, c_s_delf, [.tmp 4]⟩ := by kernel_rfl
/-- slices.Clone[[]backstitch/api.RMove,backstitch/api.RMove]: its code in AM. -/
def c_s_clmove : ACode := .seq (.ops [⟨(some 2), .mv (.av (.val (.slice none 0 0))), none, true⟩])
  (.seq (.seq (.ops [⟨(some 3), .mv (.tmp 0), none, true⟩,
      ⟨(some 4), .eqNil false 0 (.tmp 3), none, true⟩])
  (.cond (.tmp 4)
    (.seq (.ops [⟨(some 2), .mv (.av (.val (.slice none 0 0))), none, true⟩])
    (.ret))
    (.skip)))
  (.seq (.ops [⟨(some 5), .lits 2 0 [] [], none, true⟩,
      ⟨(some 6), .mv (.tmp 0), none, true⟩,
      ⟨(some 7), .append 2 16 (.tmp 5) (.tmp 6), none, true⟩,
      ⟨(some 2), .mv (.tmp 7), none, true⟩])
  (.ret)))
theorem f_s_clmove : cFunc Try.prog 35 = some ⟨8, c_s_clmove, [.tmp 2]⟩ := by kernel_rfl
/-- backstitch/moves.Order$1: its code in AM. -/
def c_mv_ordera : ACode := .seq (.ops [⟨(some 1), .box 2 (.tmp 0), none, true⟩,
      ⟨(some 2), .mv (.av (.val (.bool false))), none, true⟩])
  (.seq (.ops [⟨(some 3), .fieldAddr 0 (.tmp 1), none, true⟩,
      ⟨(some 4), .load none (.tmp 3), none, true⟩,
      ⟨(some 5), .fieldAddr 1 (.tmp 1), none, true⟩,
      ⟨(some 6), .load none (.tmp 5), none, true⟩,
      ⟨(some 7), .bin .eql (.tmp 4) (.tmp 6), none, true⟩,
      ⟨(some 2), .mv (.tmp 7), none, true⟩])
  (.ret))
theorem f_mv_ordera : cFunc Try.prog 36 = some ⟨8, c_mv_ordera, [.tmp 2]⟩ := by kernel_rfl
/-- backstitch/moves.free: its code in AM. -/
def c_mv_free : ACode := .seq (.ops [⟨(some 1), .box 1 (.tmp 0), none, true⟩,
      ⟨(some 2), .mv (.av (.val (.int .i64 0))), none, true⟩])
  (.seq (.ops [⟨(some 3), .load none (.tmp 1), none, true⟩,
      ⟨(some 4), .func 46 [(.tmp 1)], none, true⟩,
      ⟨(some 5), .call (.av (.func 45 [])) [(.tmp 3), (.tmp 4)], none, true⟩,
      ⟨(some 2), .mv (.tmp 5), none, true⟩])
  (.ret))
theorem f_mv_free : cFunc Try.prog 37 = some ⟨6, c_mv_free, [.tmp 2]⟩ := by kernel_rfl
/-- slices.Delete[[]backstitch/api.RMove,backstitch/api.RMove]: its code in AM. -/
def c_s_del : ACode := .seq (.ops [⟨(some 6), .mv (.av (.val (.slice none 0 0))), none, true⟩])
  (.seq (.ops [⟨(some 8), .mv (.tmp 0), none, true⟩,
      ⟨(some 9), .mv (.tmp 1), none, true⟩,
      ⟨(some 10), .mv (.tmp 2), none, true⟩,
      ⟨(some 11), .mv (.tmp 0), none, true⟩,
      ⟨(some 12), .len (.tmp 11), none, true⟩,
      ⟨(some 13), .slice 2 (.tmp 8) (some (.tmp 9)) (some (.tmp 10)) (some (.tmp 12)), none, true⟩])
  (.seq (.seq (.ops [⟨(some 14), .mv (.tmp 1), none, true⟩,
      ⟨(some 15), .mv (.tmp 2), none, true⟩,
      ⟨(some 16), .bin .eql (.tmp 14) (.tmp 15), none, true⟩])
  (.cond (.tmp 16)
    (.seq (.ops [⟨(some 17), .mv (.tmp 0), none, true⟩,
        ⟨(some 6), .mv (.tmp 17), none, true⟩])
    (.ret))
    (.skip)))
  (.seq (.ops [⟨(some 18), .mv (.tmp 0), none, true⟩,
      ⟨(some 19), .len (.tmp 18), none, true⟩,
      ⟨(some 7), .mv (.tmp 19), none, true⟩])
  (.seq (.ops [⟨(some 20), .mv (.tmp 0), none, true⟩,
      ⟨(some 21), .mv (.tmp 1), none, true⟩,
      ⟨(some 22), .slice 2 (.tmp 20) none (some (.tmp 21)) none, none, true⟩,
      ⟨(some 23), .mv (.tmp 0), none, true⟩,
      ⟨(some 24), .mv (.tmp 2), none, true⟩,
      ⟨(some 25), .slice 2 (.tmp 23) (some (.tmp 24)) none none, none, true⟩,
      ⟨(some 26), .append 2 16 (.tmp 22) (.tmp 25), none, true⟩,
      ⟨(some 0), .mv (.tmp 26), none, true⟩])
  (.seq (.ops [⟨(some 27), .mv (.tmp 0), none, true⟩,
      ⟨(some 28), .mv (.tmp 0), none, true⟩,
      ⟨(some 29), .len (.tmp 28), none, true⟩,
      ⟨(some 30), .mv (.tmp 7), none, true⟩,
      ⟨(some 31), .slice 2 (.tmp 27) (some (.tmp 29)) (some (.tmp 30)) none, none, true⟩,
      ⟨none, .clear 2 [(.val (.int .i64 0)), (.val (.int .i64 0))] (.tmp 31), none, true⟩])
  (.seq (.ops [⟨(some 32), .mv (.tmp 0), none, true⟩,
      ⟨(some 6), .mv (.tmp 32), none, true⟩])
  (.ret)))))))
theorem f_s_del : cFunc Try.prog 38 = some ⟨33, c_s_del, [.tmp 6]⟩ := by kernel_rfl
/-- slices.Clone[[]int,int]: its code in AM. -/
def c_s_clint : ACode := .seq (.ops [⟨(some 2), .mv (.av (.val (.slice none 0 0))), none, true⟩])
  (.seq (.seq (.ops [⟨(some 3), .mv (.tmp 0), none, true⟩,
      ⟨(some 4), .eqNil false 0 (.tmp 3), none, true⟩])
  (.cond (.tmp 4)
    (.seq (.ops [⟨(some 2), .mv (.av (.val (.slice none 0 0))), none, true⟩])
    (.ret))
    (.skip)))
  (.seq (.ops [⟨(some 5), .lits 1 0 [] [], none, true⟩,
      ⟨(some 6), .mv (.tmp 0), none, true⟩,
      ⟨(some 7), .append 1 8 (.tmp 5) (.tmp 6), none, true⟩,
      ⟨(some 2), .mv (.tmp 7), none, true⟩])
  (.ret)))
theorem f_s_clint : cFunc Try.prog 39 = some ⟨8, c_s_clint, [.tmp 2]⟩ := by kernel_rfl
/-- slices.ContainsFunc[[]backstitch/api.RMove,backstitch/api.RMove]: its code in AM. -/
def c_s_conf : ACode := .seq (.ops [⟨(some 4), .mv (.av (.val (.bool false))), none, true⟩])
  (.seq (.ops [⟨(some 5), .mv (.tmp 0), none, true⟩,
      ⟨(some 6), .mv (.tmp 1), none, true⟩,
      ⟨(some 7), .call (.av (.func 45 [])) [(.tmp 5), (.tmp 6)], none, true⟩,
      ⟨(some 8), .bin .geq (.tmp 7) (.av (.val (.int .i64 0))), none, true⟩,
      ⟨(some 4), .mv (.tmp 8), none, true⟩])
  (.ret))
theorem f_s_conf : cFunc Try.prog 42 = some ⟨9, c_s_conf, [.tmp 4]⟩ := by kernel_rfl
/-- backstitch/moves.check$1: its code in AM. -/
def c_mv_checka : ACode := .seq (.ops [⟨(some 2), .box 2 (.tmp 0), none, true⟩,
      ⟨(some 3), .mv (.av (.val (.bool false))), none, true⟩])
  (.seq (.ops [⟨(some 4), .fieldAddr 0 (.tmp 2), none, true⟩,
      ⟨(some 5), .load none (.tmp 4), none, true⟩,
      ⟨(some 6), .fieldAddr 0 (.tmp 1), none, true⟩,
      ⟨(some 7), .load none (.tmp 6), none, true⟩,
      ⟨(some 8), .bin .eql (.tmp 5) (.tmp 7), none, true⟩,
      ⟨(some 3), .mv (.tmp 8), none, true⟩])
  (.ret))
theorem f_mv_checka : cFunc Try.prog 43 = some ⟨9, c_mv_checka, [.tmp 3]⟩ := by kernel_rfl
/-- backstitch/moves.check$2: its code in AM. -/
def c_mv_checkb : ACode := .seq (.ops [⟨(some 2), .box 2 (.tmp 0), none, true⟩,
      ⟨(some 3), .mv (.av (.val (.bool false))), none, true⟩])
  (.seq (.ops [⟨(some 4), .fieldAddr 0 (.tmp 2), none, true⟩,
      ⟨(some 5), .load none (.tmp 4), none, true⟩,
      ⟨(some 6), .load none (.tmp 1), none, true⟩,
      ⟨(some 7), .bin .eql (.tmp 5) (.tmp 6), none, true⟩,
      ⟨(some 8), .mv (.tmp 7), none, true⟩,
      ⟨(some 9), .fieldAddr 1 (.tmp 2), (some (8, false)), true⟩,
      ⟨(some 10), .load none (.tmp 9), (some (8, false)), true⟩,
      ⟨(some 11), .load none (.tmp 1), (some (8, false)), true⟩,
      ⟨(some 12), .bin .eql (.tmp 10) (.tmp 11), (some (8, false)), true⟩,
      ⟨(some 13), .pick (.tmp 8) (.av (.val (.bool true))) (.tmp 12), none, true⟩,
      ⟨(some 3), .mv (.tmp 13), none, true⟩])
  (.ret))
theorem f_mv_checkb : cFunc Try.prog 44 = some ⟨14, c_mv_checkb, [.tmp 3]⟩ := by kernel_rfl
/-- slices.IndexFunc[[]backstitch/api.RMove,backstitch/api.RMove]: its code in AM. -/
def c_s_idxf : ACode := .seq (.ops [⟨(some 4), .mv (.av (.val (.int .i64 0))), none, true⟩])
  (.seq (.seq (.ops [⟨(some 6), .mv (.tmp 0), none, true⟩,
      ⟨(some 7), .len (.tmp 6), none, true⟩,
      ⟨(some 8), .mv (.av (.val (.int .i64 0))), none, true⟩])
  (rangeCode 0 1 9 8 7 18
    (.seq (.ops [⟨(some 10), .mv (.tmp 8), none, true⟩,
        ⟨(some 5), .mv (.tmp 10), none, true⟩])
    (.seq (.ops [⟨(some 11), .mv (.tmp 1), none, true⟩,
        ⟨(some 12), .mv (.tmp 0), none, true⟩,
        ⟨(some 13), .mv (.tmp 5), none, true⟩,
        ⟨(some 14), .indexAddr 2 (.tmp 12) (.tmp 13), none, true⟩,
        ⟨(some 15), .load (some 2) (.tmp 14), none, true⟩,
        ⟨(some 16), .call (.tmp 11) [(.tmp 15)], none, true⟩])
    (.cond (.tmp 16)
      (.seq (.ops [⟨(some 17), .mv (.tmp 5), none, true⟩,
          ⟨(some 4), .mv (.tmp 17), none, true⟩])
      (.ret))
      (.skip))))))
  (.seq (.ops [⟨(some 4), .mv (.av (.val (.int .i64 (-1)))), none, true⟩])
  (.ret)))
theorem f_s_idxf : cFunc Try.prog 45 = some ⟨19, c_s_idxf, [.tmp 4]⟩ := by kernel_rfl
/-- backstitch/moves.free$1: its code in AM. -/
def c_mv_freea : ACode := .seq (.ops [⟨(some 2), .box 2 (.tmp 0), none, true⟩,
      ⟨(some 3), .mv (.av (.val (.bool false))), none, true⟩])
  (.seq (.ops [⟨(some 4), .load none (.tmp 1), none, true⟩,
      ⟨(some 5), .func 47 [(.tmp 2)], none, true⟩,
      ⟨(some 6), .call (.av (.func 42 [])) [(.tmp 4), (.tmp 5)], none, true⟩,
      ⟨(some 7), .un .not (.tmp 6), none, true⟩,
      ⟨(some 3), .mv (.tmp 7), none, true⟩])
  (.ret))
theorem f_mv_freea : cFunc Try.prog 46 = some ⟨8, c_mv_freea, [.tmp 3]⟩ := by kernel_rfl
/-- backstitch/moves.free$1$1: its code in AM. -/
def c_mv_freeb : ACode := .seq (.ops [⟨(some 2), .box 2 (.tmp 0), none, true⟩,
      ⟨(some 3), .mv (.av (.val (.bool false))), none, true⟩])
  (.seq (.ops [⟨(some 4), .load (some 2) (.tmp 2), none, true⟩,
      ⟨(some 5), .load (some 2) (.tmp 1), none, true⟩,
      ⟨(some 6), .eqAgg true [0, 0] (.tmp 4) (.tmp 5), none, true⟩,
      ⟨(some 7), .mv (.tmp 6), none, true⟩,
      ⟨(some 8), .fieldAddr 1 (.tmp 2), (some (7, true)), true⟩,
      ⟨(some 9), .load none (.tmp 8), (some (7, true)), true⟩,
      ⟨(some 10), .fieldAddr 0 (.tmp 1), (some (7, true)), true⟩,
      ⟨(some 11), .load none (.tmp 10), (some (7, true)), true⟩,
      ⟨(some 12), .bin .eql (.tmp 9) (.tmp 11), (some (7, true)), true⟩,
      ⟨(some 13), .pick (.tmp 7) (.tmp 12) (.av (.val (.bool false))), none, true⟩,
      ⟨(some 3), .mv (.tmp 13), none, true⟩])
  (.ret))
theorem f_mv_freeb : cFunc Try.prog 47 = some ⟨14, c_mv_freeb, [.tmp 3]⟩ := by kernel_rfl
end Go.Proofs.Ytmecaddjeljliaa

namespace Go.Proofs.Ytmecaddjeljliaa
open Go Go.RowKit
set_option linter.unusedVariables false
set_option linter.unusedSimpArgs false
variable {tb : List (FuncId × Bool)} {L : Nat → Bool} {H : ZH} {K : ZV → ZH → Prop}
abbrev eMv (m : Int × Int) : List ZV := [Z64 m.1, Z64 m.2]
abbrev zM (m : Int × Int) : ZV := .agg [Z64 m.1, Z64 m.2]
theorem mv_same2 {a b c d : Int} : sameZ [0, 0] [Z64 a, Z64 b] [Z64 c, Z64 d] = some (decide ((a, b) = (c, d))) := by
  by_cases h1 : a = c <;> by_cases h2 : b = d <;> simp [sameZ, sameV, h1, h2]
theorem mv_num0 {S : ZS} {d : Nat} : numZ S d none = some d := rfl
theorem mv_num1 {S : ZS} {d : Nat} {x : Opd} : numZ S d (some x) = (zev S x).bind natZ := by
  simp only [numZ]; cases zev S x <;> rfl
theorem mv_cut {α : Type} {e : α → List ZV} {k n : Nat} {ex : Bool} {l : List α} (h : n ≤ l.length) : ∃ ex2, ∀ H, cutZ H k 0 n l.length false (.fz k ex (l.map e)) = some (.fz k ex2 ((l.take n).map e)) := by
  by_cases hl : l = []
  · subst hl
    have : n = 0 := by simpa using h
    subst this
    exact ⟨false, fun H => by simp [cutZ]⟩
  · refine ⟨(ex || false) && n == l.length, fun H => ?_⟩
    simp only [cutZ]
    rw [if_pos ⟨trivial, Nat.zero_le _, h, by simp⟩, if_neg (by simpa using hl)]
    simp only [List.drop_zero, Nat.sub_zero, List.map_take]
/-- Boxes made here are told of. -/
theorem checka_z {i : Nat} {m x : Int × Int} (hg : H[i]? = some (.box [Z64 m.1, Z64 m.2])) (hK : K (ZBo (decide (x.1 = m.1))) H) :
    ZC (constX tb) (cFunc Try.prog) 43 [zM x, .ptr i 0] L H K := by
  refine ZC.enterL Gh.no constX_none f_mv_checka (by simp) fun hL => ?_
  simp only [c_mv_checka]
  have fin : ∀ X, Fin H (ZBo (decide (x.1 = m.1))) (H ++ X) K := fun X => Fin.trunc (Mods.ext H X) rfl (by rw [List.take_left]; exact hK)
  obtain ⟨m1, m2⟩ := m
  obtain ⟨x1, x2⟩ := x
  simp only at hg fin
  clear hK
  have hg2 : ∀ X, (H ++ X)[i]? = some (.box [Z64 m1, Z64 m2]) := fun X => by rw [List.getElem?_append_left (lt_of_get hg)]; exact hg
  repeat' (first | (simp only [zmPack, zfree, owners, Nat.reduceLT, List.filter_cons, List.filter_nil, List.contains_cons, List.contains_nil, Nat.reduceBEq, Bool.or_false, Bool.or_true, Bool.false_or, Bool.true_or, BEq.rfl, chunk, setAt, List.lookup_cons, List.lookup_nil, ZV.val.injEq, ZV.ptr.injEq, ZV.own.injEq, ZV.fz.injEq, ZV.func.injEq, ZV.tuple.injEq, ZV.agg.injEq, ZB.box.injEq, ZB.grow.injEq, Bool.not_eq_false', Prod.mk.injEq, and_assoc, decide_false, decide_true, Bool.not_false, Bool.not_true, Bool.true_eq_false, Bool.false_eq_true, exists_false, Bool.not_eq_false, Bool.not_not, Value.bool.injEq, Value.int.injEq, Option.some.injEq, exists_eq_left', exists_eq_left, exists_and_left, exists_and_right, and_true, true_and, decide_eq_true_eq, decide_eq_false_iff_not, if_true, if_false, Bool.not_eq_true', beq_true, beq_false, ne_eq, not_true_eq_false, not_false_eq_true, reduceCtorEq, List.getD_cons_zero, List.getD_cons_succ, List.getD_nil, List.map_cons, List.map_nil, List.append_nil, Nat.reduceEqDiff, reduceIte, ite_true, ite_false, or_true, true_or, or_false, false_or, true_imp_iff, false_imp_iff, implies_true, imp_false, and_self, imp_self, and_false, false_and, forall_const, take_map_all, Nat.le_refl, Nat.reduceMul, Nat.reduceSub, List.length_cons, List.length_nil, List.length_map, List.length_set, List.all_cons, List.all_nil, Bool.and_self, Option.map_none, Option.map_some, List.set_cons_zero, List.set_cons_succ, Nat.lt_add_one, List.append_assoc, List.cons_append, List.nil_append, List.append_nil, List.length_append, List.take_zero, List.take_succ_cons, List.take_nil, List.drop_zero, List.drop_succ_cons, List.drop_nil, List.getElem?_cons_zero, List.getElem?_cons_succ, List.getElem?_map, Nat.reduceAdd, Nat.reduceLeDiff, Nat.add_eq_zero_iff, and_self, Nat.zero_add, Nat.add_zero, Nat.mul_one, Nat.one_mul, List.flatten_cons, List.flatten_nil, hg, hg2, *]) | (simp only [zgoO, zgoG, zO_nil, zthen_normal, zgoC]) | (with_reducible apply And.intro) | (with_reducible intro _))
theorem checkb_z {i : Nat} {s : Int} {x : Int × Int} (hg : H[i]? = some (.box [Z64 s])) (hi : i < H.length) (hK : K (ZBo (decide (x.1 = s ∨ x.2 = s))) H) :
    ZC (constX tb) (cFunc Try.prog) 44 [zM x, .ptr i 0] L H K := by
  refine ZC.enterL Gh.no constX_none f_mv_checkb (by simp) fun hL => ?_
  simp only [c_mv_checkb]
  have fin : ∀ X, Fin H (ZBo (decide (x.1 = s ∨ x.2 = s))) (H ++ X) K := fun X => Fin.trunc (Mods.ext H X) rfl (by rw [List.take_left]; exact hK)
  obtain ⟨x1, x2⟩ := x
  simp only at fin
  clear hK
  have hg2 : ∀ X, (H ++ X)[i]? = some (.box [Z64 s]) := fun X => by rw [List.getElem?_append_left hi]; exact hg
  have hlt : ∀ n, i < H.length + n := fun n => by omega
  by_cases h1 : x1 = s
  · have e : decide (x1 = s ∨ x2 = s) = true := decide_eq_true (.inl h1)
    rw [e] at fin
    subst h1
    clear e
    repeat' (first | (simp only [zmPack, zfree, owners, Nat.reduceLT, List.filter_cons, List.filter_nil, List.contains_cons, List.contains_nil, Nat.reduceBEq, Bool.or_false, Bool.or_true, Bool.false_or, Bool.true_or, BEq.rfl, chunk, setAt, List.lookup_cons, List.lookup_nil, ZV.val.injEq, ZV.ptr.injEq, ZV.own.injEq, ZV.fz.injEq, ZV.func.injEq, ZV.tuple.injEq, ZV.agg.injEq, ZB.box.injEq, ZB.grow.injEq, Bool.not_eq_false', Prod.mk.injEq, and_assoc, decide_false, decide_true, Bool.not_false, Bool.not_true, Bool.true_eq_false, Bool.false_eq_true, exists_false, Bool.not_eq_false, Bool.not_not, Value.bool.injEq, Value.int.injEq, Option.some.injEq, exists_eq_left', exists_eq_left, exists_and_left, exists_and_right, and_true, true_and, decide_eq_true_eq, decide_eq_false_iff_not, if_true, if_false, Bool.not_eq_true', beq_true, beq_false, ne_eq, not_true_eq_false, not_false_eq_true, reduceCtorEq, List.getD_cons_zero, List.getD_cons_succ, List.getD_nil, List.map_cons, List.map_nil, List.append_nil, Nat.reduceEqDiff, reduceIte, ite_true, ite_false, or_true, true_or, or_false, false_or, true_imp_iff, false_imp_iff, implies_true, imp_false, and_self, imp_self, and_false, false_and, forall_const, take_map_all, Nat.le_refl, Nat.reduceMul, Nat.reduceSub, List.length_cons, List.length_nil, List.length_map, List.length_set, List.all_cons, List.all_nil, Bool.and_self, Option.map_none, Option.map_some, List.set_cons_zero, List.set_cons_succ, Nat.lt_add_one, List.append_assoc, List.cons_append, List.nil_append, List.append_nil, List.length_append, List.take_zero, List.take_succ_cons, List.take_nil, List.drop_zero, List.drop_succ_cons, List.drop_nil, List.getElem?_cons_zero, List.getElem?_cons_succ, List.getElem?_map, Nat.reduceAdd, Nat.reduceLeDiff, Nat.add_eq_zero_iff, and_self, Nat.zero_add, Nat.add_zero, Nat.mul_one, Nat.one_mul, List.flatten_cons, List.flatten_nil, hg, hg2, *]) | (simp only [zgoO, zgoG, zO_nil, zthen_normal, zgoC]) | (with_reducible apply And.intro) | (with_reducible intro _))
  · have e : decide (x1 = s ∨ x2 = s) = decide (x2 = s) := by simp [h1]
    rw [e] at fin
    clear e
    repeat' (first | (simp only [zmPack, zfree, owners, Nat.reduceLT, List.filter_cons, List.filter_nil, List.contains_cons, List.contains_nil, Nat.reduceBEq, Bool.or_false, Bool.or_true, Bool.false_or, Bool.true_or, BEq.rfl, chunk, setAt, List.lookup_cons, List.lookup_nil, ZV.val.injEq, ZV.ptr.injEq, ZV.own.injEq, ZV.fz.injEq, ZV.func.injEq, ZV.tuple.injEq, ZV.agg.injEq, ZB.box.injEq, ZB.grow.injEq, Bool.not_eq_false', Prod.mk.injEq, and_assoc, decide_false, decide_true, Bool.not_false, Bool.not_true, Bool.true_eq_false, Bool.false_eq_true, exists_false, Bool.not_eq_false, Bool.not_not, Value.bool.injEq, Value.int.injEq, Option.some.injEq, exists_eq_left', exists_eq_left, exists_and_left, exists_and_right, and_true, true_and, decide_eq_true_eq, decide_eq_false_iff_not, if_true, if_false, Bool.not_eq_true', beq_true, beq_false, ne_eq, not_true_eq_false, not_false_eq_true, reduceCtorEq, List.getD_cons_zero, List.getD_cons_succ, List.getD_nil, List.map_cons, List.map_nil, List.append_nil, Nat.reduceEqDiff, reduceIte, ite_true, ite_false, or_true, true_or, or_false, false_or, true_imp_iff, false_imp_iff, implies_true, imp_false, and_self, imp_self, and_false, false_and, forall_const, take_map_all, Nat.le_refl, Nat.reduceMul, Nat.reduceSub, List.length_cons, List.length_nil, List.length_map, List.length_set, List.all_cons, List.all_nil, Bool.and_self, Option.map_none, Option.map_some, List.set_cons_zero, List.set_cons_succ, Nat.lt_add_one, List.append_assoc, List.cons_append, List.nil_append, List.append_nil, List.length_append, List.take_zero, List.take_succ_cons, List.take_nil, List.drop_zero, List.drop_succ_cons, List.drop_nil, List.getElem?_cons_zero, List.getElem?_cons_succ, List.getElem?_map, Nat.reduceAdd, Nat.reduceLeDiff, Nat.add_eq_zero_iff, and_self, Nat.zero_add, Nat.add_zero, Nat.mul_one, Nat.one_mul, List.flatten_cons, List.flatten_nil, hg, hg2, *]) | (simp only [zgoO, zgoG, zO_nil, zthen_normal, zgoC]) | (with_reducible apply And.intro) | (with_reducible intro _))
theorem ordera_z {x : Int × Int} (hK : K (ZBo (decide (x.1 = x.2))) H) :
    ZC (constX tb) (cFunc Try.prog) 36 [zM x] L H K := by
  refine ZC.enterL Gh.no constX_none f_mv_ordera (by simp) fun hL => ?_
  simp only [c_mv_ordera]
  have fin : ∀ X, Fin H (ZBo (decide (x.1 = x.2))) (H ++ X) K := fun X => Fin.trunc (Mods.ext H X) rfl (by rw [List.take_left]; exact hK)
  obtain ⟨x1, x2⟩ := x
  simp only at fin
  clear hK
  repeat' (first | (simp only [zmPack, zfree, owners, Nat.reduceLT, List.filter_cons, List.filter_nil, List.contains_cons, List.contains_nil, Nat.reduceBEq, Bool.or_false, Bool.or_true, Bool.false_or, Bool.true_or, BEq.rfl, chunk, setAt, List.lookup_cons, List.lookup_nil, ZV.val.injEq, ZV.ptr.injEq, ZV.own.injEq, ZV.fz.injEq, ZV.func.injEq, ZV.tuple.injEq, ZV.agg.injEq, ZB.box.injEq, ZB.grow.injEq, Bool.not_eq_false', Prod.mk.injEq, and_assoc, decide_false, decide_true, Bool.not_false, Bool.not_true, Bool.true_eq_false, Bool.false_eq_true, exists_false, Bool.not_eq_false, Bool.not_not, Value.bool.injEq, Value.int.injEq, Option.some.injEq, exists_eq_left', exists_eq_left, exists_and_left, exists_and_right, and_true, true_and, decide_eq_true_eq, decide_eq_false_iff_not, if_true, if_false, Bool.not_eq_true', beq_true, beq_false, ne_eq, not_true_eq_false, not_false_eq_true, reduceCtorEq, List.getD_cons_zero, List.getD_cons_succ, List.getD_nil, List.map_cons, List.map_nil, List.append_nil, Nat.reduceEqDiff, reduceIte, ite_true, ite_false, or_true, true_or, or_false, false_or, true_imp_iff, false_imp_iff, implies_true, imp_false, and_self, imp_self, and_false, false_and, forall_const, take_map_all, Nat.le_refl, Nat.reduceMul, Nat.reduceSub, List.length_cons, List.length_nil, List.length_map, List.length_set, List.all_cons, List.all_nil, Bool.and_self, Option.map_none, Option.map_some, List.set_cons_zero, List.set_cons_succ, Nat.lt_add_one, List.append_assoc, List.cons_append, List.nil_append, List.append_nil, List.length_append, List.take_zero, List.take_succ_cons, List.take_nil, List.drop_zero, List.drop_succ_cons, List.drop_nil, List.getElem?_cons_zero, List.getElem?_cons_succ, List.getElem?_map, Nat.reduceAdd, Nat.reduceLeDiff, Nat.add_eq_zero_iff, and_self, Nat.zero_add, Nat.add_zero, Nat.mul_one, Nat.one_mul, List.flatten_cons, List.flatten_nil, *]) | (simp only [zgoO, zgoG, zO_nil, zthen_normal, zgoC]) | (with_reducible apply And.intro) | (with_reducible intro _))
theorem freeb_z {i : Nat} {m x : Int × Int} (hg : H[i]? = some (.box [Z64 m.1, Z64 m.2])) (hi : i < H.length) (hK : K (ZBo (decide (x ≠ m ∧ x.2 = m.1))) H) :
    ZC (constX tb) (cFunc Try.prog) 47 [zM x, .ptr i 0] L H K := by
  refine ZC.enterL Gh.no constX_none f_mv_freeb (by simp) fun hL => ?_
  simp only [c_mv_freeb]
  have fin : ∀ X, Fin H (ZBo (decide (x ≠ m ∧ x.2 = m.1))) (H ++ X) K := fun X => Fin.trunc (Mods.ext H X) rfl (by rw [List.take_left]; exact hK)
  obtain ⟨m1, m2⟩ := m
  obtain ⟨x1, x2⟩ := x
  simp only at hg fin
  clear hK
  have hg2 : ∀ X, (H ++ X)[i]? = some (.box [Z64 m1, Z64 m2]) := fun X => by rw [List.getElem?_append_left hi]; exact hg
  have hlt : ∀ n, i < H.length + n := fun n => by omega
  by_cases h1 : (x1, x2) = (m1, m2)
  · have e : decide ((x1, x2) ≠ (m1, m2) ∧ x2 = m1) = false := decide_eq_false fun h => h.1 h1
    have hs : sameZ [0, 0] [Z64 x1, Z64 x2] [Z64 m1, Z64 m2] = some true := by rw [mv_same2, decide_eq_true h1]
    rw [e] at fin
    clear e h1
    repeat' (first | (simp only [zmPack, zfree, owners, Nat.reduceLT, List.filter_cons, List.filter_nil, List.contains_cons, List.contains_nil, Nat.reduceBEq, Bool.or_false, Bool.or_true, Bool.false_or, Bool.true_or, BEq.rfl, chunk, setAt, List.lookup_cons, List.lookup_nil, ZV.val.injEq, ZV.ptr.injEq, ZV.own.injEq, ZV.fz.injEq, ZV.func.injEq, ZV.tuple.injEq, ZV.agg.injEq, ZB.box.injEq, ZB.grow.injEq, Bool.not_eq_false', Prod.mk.injEq, and_assoc, decide_false, decide_true, Bool.not_false, Bool.not_true, Bool.true_eq_false, Bool.false_eq_true, exists_false, Bool.not_eq_false, Bool.not_not, Value.bool.injEq, Value.int.injEq, Option.some.injEq, exists_eq_left', exists_eq_left, exists_and_left, exists_and_right, and_true, true_and, decide_eq_true_eq, decide_eq_false_iff_not, if_true, if_false, Bool.not_eq_true', beq_true, beq_false, ne_eq, not_true_eq_false, not_false_eq_true, reduceCtorEq, List.getD_cons_zero, List.getD_cons_succ, List.getD_nil, List.map_cons, List.map_nil, List.append_nil, Nat.reduceEqDiff, reduceIte, ite_true, ite_false, or_true, true_or, or_false, false_or, true_imp_iff, false_imp_iff, implies_true, imp_false, and_self, imp_self, and_false, false_and, forall_const, take_map_all, Nat.le_refl, Nat.reduceMul, Nat.reduceSub, List.length_cons, List.length_nil, List.length_map, List.length_set, List.all_cons, List.all_nil, Bool.and_self, Option.map_none, Option.map_some, List.set_cons_zero, List.set_cons_succ, Nat.lt_add_one, List.append_assoc, List.cons_append, List.nil_append, List.append_nil, List.length_append, List.take_zero, List.take_succ_cons, List.take_nil, List.drop_zero, List.drop_succ_cons, List.drop_nil, List.getElem?_cons_zero, List.getElem?_cons_succ, List.getElem?_map, Nat.reduceAdd, Nat.reduceLeDiff, Nat.add_eq_zero_iff, and_self, Nat.zero_add, Nat.add_zero, Nat.mul_one, Nat.one_mul, List.flatten_cons, List.flatten_nil, hg, hg2, hs, *]) | (simp only [zgoO, zgoG, zO_nil, zthen_normal, zgoC]) | (with_reducible apply And.intro) | (with_reducible intro _))
  · have e : decide ((x1, x2) ≠ (m1, m2) ∧ x2 = m1) = decide (x2 = m1) := by simp only [ne_eq, h1, not_false_eq_true, true_and]
    have hs : sameZ [0, 0] [Z64 x1, Z64 x2] [Z64 m1, Z64 m2] = some false := by rw [mv_same2, decide_eq_false h1]
    rw [e] at fin
    clear e h1
    repeat' (first | (simp only [zmPack, zfree, owners, Nat.reduceLT, List.filter_cons, List.filter_nil, List.contains_cons, List.contains_nil, Nat.reduceBEq, Bool.or_false, Bool.or_true, Bool.false_or, Bool.true_or, BEq.rfl, chunk, setAt, List.lookup_cons, List.lookup_nil, ZV.val.injEq, ZV.ptr.injEq, ZV.own.injEq, ZV.fz.injEq, ZV.func.injEq, ZV.tuple.injEq, ZV.agg.injEq, ZB.box.injEq, ZB.grow.injEq, Bool.not_eq_false', Prod.mk.injEq, and_assoc, decide_false, decide_true, Bool.not_false, Bool.not_true, Bool.true_eq_false, Bool.false_eq_true, exists_false, Bool.not_eq_false, Bool.not_not, Value.bool.injEq, Value.int.injEq, Option.some.injEq, exists_eq_left', exists_eq_left, exists_and_left, exists_and_right, and_true, true_and, decide_eq_true_eq, decide_eq_false_iff_not, if_true, if_false, Bool.not_eq_true', beq_true, beq_false, ne_eq, not_true_eq_false, not_false_eq_true, reduceCtorEq, List.getD_cons_zero, List.getD_cons_succ, List.getD_nil, List.map_cons, List.map_nil, List.append_nil, Nat.reduceEqDiff, reduceIte, ite_true, ite_false, or_true, true_or, or_false, false_or, true_imp_iff, false_imp_iff, implies_true, imp_false, and_self, imp_self, and_false, false_and, forall_const, take_map_all, Nat.le_refl, Nat.reduceMul, Nat.reduceSub, List.length_cons, List.length_nil, List.length_map, List.length_set, List.all_cons, List.all_nil, Bool.and_self, Option.map_none, Option.map_some, List.set_cons_zero, List.set_cons_succ, Nat.lt_add_one, List.append_assoc, List.cons_append, List.nil_append, List.append_nil, List.length_append, List.take_zero, List.take_succ_cons, List.take_nil, List.drop_zero, List.drop_succ_cons, List.drop_nil, List.getElem?_cons_zero, List.getElem?_cons_succ, List.getElem?_map, Nat.reduceAdd, Nat.reduceLeDiff, Nat.add_eq_zero_iff, and_self, Nat.zero_add, Nat.add_zero, Nat.mul_one, Nat.one_mul, List.flatten_cons, List.flatten_nil, hg, hg2, hs, *]) | (simp only [zgoO, zgoG, zO_nil, zthen_normal, zgoC]) | (with_reducible apply And.intro) | (with_reducible intro _))
/-- The first one of which it is true. -/
def idxP {α : Type} (p : α → Bool) (l : List α) : Int := match l.findIdx? p with
  | some i => (i : Int)
  | none => -1
def NoneYet (p : Int × Int → Bool) (l : List (Int × Int)) : Prop := ∀ x ∈ l, p x = false
theorem idxf_z {z : ZV} {l : List (Int × Int)} {p : Int × Int → Bool} {f : FuncId} {caps : List ZV} (hz : rowsZ H 2 z = some (l.map eMv)) (hb : l.length ≤ 100000000000000) (hf : ∀ m ∈ l, ∀ K, K (ZBo (p m)) H → ZC (constX tb) (cFunc Try.prog) f (zM m :: caps) L H K) (hK : K (Z64 (idxP p l)) H) :
    ZC (constX tb) (cFunc Try.prog) 45 [z, .func f caps] L H K := by
  refine ZC.enter Gh.no constX_none f_s_idxf (by simp) ?_
  simp only [c_s_idxf]
  have hlen := rows_len hz
  rw [List.length_map] at hlen
  have HF := Lib.hid hf
  have HK := Lib.hid hK
  clear hf hK
  repeat' (first | (simp only [zmPack, zfree, owners, Nat.reduceLT, List.filter_cons, List.filter_nil, List.contains_cons, List.contains_nil, Nat.reduceBEq, Bool.or_false, Bool.or_true, Bool.false_or, Bool.true_or, BEq.rfl, chunk, setAt, List.lookup_cons, List.lookup_nil, ZV.val.injEq, ZV.ptr.injEq, ZV.own.injEq, ZV.fz.injEq, ZV.func.injEq, ZV.tuple.injEq, ZV.agg.injEq, ZB.box.injEq, ZB.grow.injEq, Bool.not_eq_false', Prod.mk.injEq, and_assoc, decide_false, decide_true, Bool.not_false, Bool.not_true, Bool.true_eq_false, Bool.false_eq_true, exists_false, Bool.not_eq_false, Bool.not_not, Value.bool.injEq, Value.int.injEq, Option.some.injEq, exists_eq_left', exists_eq_left, exists_and_left, exists_and_right, and_true, true_and, decide_eq_true_eq, decide_eq_false_iff_not, if_true, if_false, Bool.not_eq_true', beq_true, beq_false, ne_eq, not_true_eq_false, not_false_eq_true, reduceCtorEq, List.getD_cons_zero, List.getD_cons_succ, List.getD_nil, List.map_cons, List.map_nil, List.append_nil, Nat.reduceEqDiff, reduceIte, ite_true, ite_false, or_true, true_or, or_false, false_or, true_imp_iff, false_imp_iff, implies_true, imp_false, and_self, imp_self, and_false, false_and, forall_const, take_map_all, Nat.le_refl, Nat.reduceMul, Nat.reduceSub, List.length_cons, List.length_nil, List.length_map, List.length_set, List.all_cons, List.all_nil, Bool.and_self, Option.map_none, Option.map_some, List.set_cons_zero, List.set_cons_succ, Nat.lt_add_one, List.append_assoc, List.cons_append, List.nil_append, List.append_nil, List.length_append, List.take_zero, List.take_succ_cons, List.take_nil, List.drop_zero, List.drop_succ_cons, List.drop_nil, List.getElem?_cons_zero, List.getElem?_cons_succ, List.getElem?_map, Nat.reduceAdd, Nat.reduceLeDiff, Nat.add_eq_zero_iff, and_self, Nat.zero_add, Nat.add_zero, Nat.mul_one, Nat.one_mul, List.flatten_cons, List.flatten_nil, hlen, *]) | (simp only [zgoO, zgoG, zO_nil, zthen_normal, zgoC]) | (with_reducible apply And.intro) | (with_reducible intro _))
  refine zW_forK [(0, z), (1, .func f caps)] l.length (fun k s' h' => h' = H ∧ NoneYet p (l.take k)) (by omega) ⟨rfl, rfl, rfl, rfl, rfl, rfl⟩ rfl rfl (by repeat' (first | exact trivial | (refine ⟨rfl, ?_⟩) | (refine ⟨by simp only [zupd_at, Nat.reduceEqDiff, reduceIte]; assumption, ?_⟩))) rfl rfl (by decide) ⟨rfl, by simp [NoneYet]⟩ ?_ ?_
  · rintro k s' h' hk ⟨rfl, hno⟩ hi hl ⟨f0, f1, -⟩
    obtain ⟨q, hq, hld⟩ := rows_at hz hk
    have HN := Lib.hid hno
    clear hno
    repeat' (first | (simp only [zmPack, zfree, owners, Nat.reduceLT, List.filter_cons, List.filter_nil, List.contains_cons, List.contains_nil, Nat.reduceBEq, Bool.or_false, Bool.or_true, Bool.false_or, Bool.true_or, BEq.rfl, chunk, setAt, List.lookup_cons, List.lookup_nil, ZV.val.injEq, ZV.ptr.injEq, ZV.own.injEq, ZV.fz.injEq, ZV.func.injEq, ZV.tuple.injEq, ZV.agg.injEq, ZB.box.injEq, ZB.grow.injEq, Bool.not_eq_false', Prod.mk.injEq, and_assoc, decide_false, decide_true, Bool.not_false, Bool.not_true, Bool.true_eq_false, Bool.false_eq_true, exists_false, Bool.not_eq_false, Bool.not_not, Value.bool.injEq, Value.int.injEq, Option.some.injEq, exists_eq_left', exists_eq_left, exists_and_left, exists_and_right, and_true, true_and, decide_eq_true_eq, decide_eq_false_iff_not, if_true, if_false, Bool.not_eq_true', beq_true, beq_false, ne_eq, not_true_eq_false, not_false_eq_true, reduceCtorEq, List.getD_cons_zero, List.getD_cons_succ, List.getD_nil, List.map_cons, List.map_nil, List.append_nil, Nat.reduceEqDiff, reduceIte, ite_true, ite_false, or_true, true_or, or_false, false_or, true_imp_iff, false_imp_iff, implies_true, imp_false, and_self, imp_self, and_false, false_and, forall_const, take_map_all, Nat.le_refl, Nat.reduceMul, Nat.reduceSub, List.length_cons, List.length_nil, List.length_map, List.length_set, List.all_cons, List.all_nil, Bool.and_self, Option.map_none, Option.map_some, List.set_cons_zero, List.set_cons_succ, Nat.lt_add_one, List.append_assoc, List.cons_append, List.nil_append, List.append_nil, List.length_append, List.take_zero, List.take_succ_cons, List.take_nil, List.drop_zero, List.drop_succ_cons, List.drop_nil, List.getElem?_cons_zero, List.getElem?_cons_succ, List.getElem?_map, Nat.reduceAdd, Nat.reduceLeDiff, Nat.add_eq_zero_iff, and_self, Nat.zero_add, Nat.add_zero, Nat.mul_one, Nat.one_mul, List.flatten_cons, List.flatten_nil, hq, hld, *]) | (simp only [zgoO, zgoG, zO_nil, zthen_normal, zgoC]) | (with_reducible apply And.intro) | (with_reducible intro _))
    refine HF.out _ (List.getElem_mem hk) _ ?_
    cases hp : p l[k] with
    | true =>
      have hi : idxP p l = (k : Int) := by
        have : l.findIdx? p = some k := by
          rw [List.findIdx?_eq_some_iff_getElem]
          exact ⟨hk, hp, fun j hj => by simp only [Bool.not_eq_true]; exact HN.out _ (by rw [List.mem_take_iff_getElem]; exact ⟨j, by omega, rfl⟩)⟩
        simp only [idxP, this]
      have hK := HK.out
      rw [hi] at hK
      have fin := Fin.keep (H0 := h') hK
      clear hp hi hK hld
      repeat' (first | (simp only [zmPack, zfree, owners, Nat.reduceLT, List.filter_cons, List.filter_nil, List.contains_cons, List.contains_nil, Nat.reduceBEq, Bool.or_false, Bool.or_true, Bool.false_or, Bool.true_or, BEq.rfl, chunk, setAt, List.lookup_cons, List.lookup_nil, ZV.val.injEq, ZV.ptr.injEq, ZV.own.injEq, ZV.fz.injEq, ZV.func.injEq, ZV.tuple.injEq, ZV.agg.injEq, ZB.box.injEq, ZB.grow.injEq, Bool.not_eq_false', Prod.mk.injEq, and_assoc, decide_false, decide_true, Bool.not_false, Bool.not_true, Bool.true_eq_false, Bool.false_eq_true, exists_false, Bool.not_eq_false, Bool.not_not, Value.bool.injEq, Value.int.injEq, Option.some.injEq, exists_eq_left', exists_eq_left, exists_and_left, exists_and_right, and_true, true_and, decide_eq_true_eq, decide_eq_false_iff_not, if_true, if_false, Bool.not_eq_true', beq_true, beq_false, ne_eq, not_true_eq_false, not_false_eq_true, reduceCtorEq, List.getD_cons_zero, List.getD_cons_succ, List.getD_nil, List.map_cons, List.map_nil, List.append_nil, Nat.reduceEqDiff, reduceIte, ite_true, ite_false, or_true, true_or, or_false, false_or, true_imp_iff, false_imp_iff, implies_true, imp_false, and_self, imp_self, and_false, false_and, forall_const, take_map_all, Nat.le_refl, Nat.reduceMul, Nat.reduceSub, List.length_cons, List.length_nil, List.length_map, List.length_set, List.all_cons, List.all_nil, Bool.and_self, Option.map_none, Option.map_some, List.set_cons_zero, List.set_cons_succ, Nat.lt_add_one, List.append_assoc, List.cons_append, List.nil_append, List.append_nil, List.length_append, List.take_zero, List.take_succ_cons, List.take_nil, List.drop_zero, List.drop_succ_cons, List.drop_nil, List.getElem?_cons_zero, List.getElem?_cons_succ, List.getElem?_map, Nat.reduceAdd, Nat.reduceLeDiff, Nat.add_eq_zero_iff, and_self, Nat.zero_add, Nat.add_zero, Nat.mul_one, Nat.one_mul, List.flatten_cons, List.flatten_nil, *]) | (simp only [zgoO, zgoG, zO_nil, zthen_normal, zgoC]) | (with_reducible apply And.intro) | (with_reducible intro _))
    | false =>
      have fin : NoneYet p (l.take (k + 1)) := fun x hx => by
        rw [List.take_succ_eq_append_getElem hk] at hx
        rcases List.mem_append.1 hx with hx | hx
        · exact HN.out x hx
        · rw [List.mem_singleton.1 hx]; exact hp
      clear hp hld
      repeat' (first | (simp only [zmPack, zfree, owners, Nat.reduceLT, List.filter_cons, List.filter_nil, List.contains_cons, List.contains_nil, Nat.reduceBEq, Bool.or_false, Bool.or_true, Bool.false_or, Bool.true_or, BEq.rfl, chunk, setAt, List.lookup_cons, List.lookup_nil, ZV.val.injEq, ZV.ptr.injEq, ZV.own.injEq, ZV.fz.injEq, ZV.func.injEq, ZV.tuple.injEq, ZV.agg.injEq, ZB.box.injEq, ZB.grow.injEq, Bool.not_eq_false', Prod.mk.injEq, and_assoc, decide_false, decide_true, Bool.not_false, Bool.not_true, Bool.true_eq_false, Bool.false_eq_true, exists_false, Bool.not_eq_false, Bool.not_not, Value.bool.injEq, Value.int.injEq, Option.some.injEq, exists_eq_left', exists_eq_left, exists_and_left, exists_and_right, and_true, true_and, decide_eq_true_eq, decide_eq_false_iff_not, if_true, if_false, Bool.not_eq_true', beq_true, beq_false, ne_eq, not_true_eq_false, not_false_eq_true, reduceCtorEq, List.getD_cons_zero, List.getD_cons_succ, List.getD_nil, List.map_cons, List.map_nil, List.append_nil, Nat.reduceEqDiff, reduceIte, ite_true, ite_false, or_true, true_or, or_false, false_or, true_imp_iff, false_imp_iff, implies_true, imp_false, and_self, imp_self, and_false, false_and, forall_const, take_map_all, Nat.le_refl, Nat.reduceMul, Nat.reduceSub, List.length_cons, List.length_nil, List.length_map, List.length_set, List.all_cons, List.all_nil, Bool.and_self, Option.map_none, Option.map_some, List.set_cons_zero, List.set_cons_succ, Nat.lt_add_one, List.append_assoc, List.cons_append, List.nil_append, List.append_nil, List.length_append, List.take_zero, List.take_succ_cons, List.take_nil, List.drop_zero, List.drop_succ_cons, List.drop_nil, List.getElem?_cons_zero, List.getElem?_cons_succ, List.getElem?_map, Nat.reduceAdd, Nat.reduceLeDiff, Nat.add_eq_zero_iff, and_self, Nat.zero_add, Nat.add_zero, Nat.mul_one, Nat.one_mul, List.flatten_cons, List.flatten_nil, *]) | (simp only [zgoO, zgoG, zO_nil, zthen_normal, zgoC]) | (with_reducible apply And.intro) | (with_reducible intro _))
  · rintro s' h' ⟨rfl, hno⟩ ⟨f0, f1, -⟩
    rw [List.take_of_length_le (Nat.le_refl _)] at hno
    have hi : idxP p l = -1 := by
      have : l.findIdx? p = none := List.findIdx?_eq_none_iff.2 fun x hx => by rw [hno x hx]
      simp only [idxP, this]
    have hK := HK.out
    rw [hi] at hK
    have fin := Fin.keep (H0 := h') hK
    clear hno hi hK
    repeat' (first | (simp only [zmPack, zfree, owners, Nat.reduceLT, List.filter_cons, List.filter_nil, List.contains_cons, List.contains_nil, Nat.reduceBEq, Bool.or_false, Bool.or_true, Bool.false_or, Bool.true_or, BEq.rfl, chunk, setAt, List.lookup_cons, List.lookup_nil, ZV.val.injEq, ZV.ptr.injEq, ZV.own.injEq, ZV.fz.injEq, ZV.func.injEq, ZV.tuple.injEq, ZV.agg.injEq, ZB.box.injEq, ZB.grow.injEq, Bool.not_eq_false', Prod.mk.injEq, and_assoc, decide_false, decide_true, Bool.not_false, Bool.not_true, Bool.true_eq_false, Bool.false_eq_true, exists_false, Bool.not_eq_false, Bool.not_not, Value.bool.injEq, Value.int.injEq, Option.some.injEq, exists_eq_left', exists_eq_left, exists_and_left, exists_and_right, and_true, true_and, decide_eq_true_eq, decide_eq_false_iff_not, if_true, if_false, Bool.not_eq_true', beq_true, beq_false, ne_eq, not_true_eq_false, not_false_eq_true, reduceCtorEq, List.getD_cons_zero, List.getD_cons_succ, List.getD_nil, List.map_cons, List.map_nil, List.append_nil, Nat.reduceEqDiff, reduceIte, ite_true, ite_false, or_true, true_or, or_false, false_or, true_imp_iff, false_imp_iff, implies_true, imp_false, and_self, imp_self, and_false, false_and, forall_const, take_map_all, Nat.le_refl, Nat.reduceMul, Nat.reduceSub, List.length_cons, List.length_nil, List.length_map, List.length_set, List.all_cons, List.all_nil, Bool.and_self, Option.map_none, Option.map_some, List.set_cons_zero, List.set_cons_succ, Nat.lt_add_one, List.append_assoc, List.cons_append, List.nil_append, List.append_nil, List.length_append, List.take_zero, List.take_succ_cons, List.take_nil, List.drop_zero, List.drop_succ_cons, List.drop_nil, List.getElem?_cons_zero, List.getElem?_cons_succ, List.getElem?_map, Nat.reduceAdd, Nat.reduceLeDiff, Nat.add_eq_zero_iff, and_self, Nat.zero_add, Nat.add_zero, Nat.mul_one, Nat.one_mul, List.flatten_cons, List.flatten_nil, *]) | (simp only [zgoO, zgoG, zO_nil, zthen_normal, zgoC]) | (with_reducible apply And.intro) | (with_reducible intro _))
theorem idx_ge {α : Type} {p : α → Bool} {l : List α} : decide ((0 : Int) ≤ idxP p l) = l.any p := by
  unfold idxP
  cases h : l.findIdx? p with
  | none =>
    have := List.findIdx?_eq_none_iff.1 h
    simp only [Int.reduceNeg, show ¬ ((0 : Int) ≤ -1) by omega, decide_false]
    symm
    rw [List.any_eq_false]
    intro x hx; rw [this x hx]; simp
  | some i =>
    obtain ⟨h1, h2, _⟩ := List.findIdx?_eq_some_iff_getElem.1 h
    have h3 : (0 : Int) ≤ (i : Int) := by omega
    simp only [h3, decide_true]
    symm
    exact List.any_eq_true.2 ⟨_, List.getElem_mem h1, h2⟩
theorem conf_z {z : ZV} {l : List (Int × Int)} {p : Int × Int → Bool} {f : FuncId} {caps : List ZV} (hz : rowsZ H 2 z = some (l.map eMv)) (hb : l.length ≤ 100000000000000) (hf : ∀ m ∈ l, ∀ K, K (ZBo (p m)) H → ZC (constX tb) (cFunc Try.prog) f (zM m :: caps) L H K) (hK : K (ZBo (l.any p)) H) :
    ZC (constX tb) (cFunc Try.prog) 42 [z, .func f caps] L H K := by
  refine ZC.enter Gh.no constX_none f_s_conf (by simp) ?_
  simp only [c_s_conf]
  have HF := Lib.hid hf
  have fin := Fin.keep (H0 := H) hK
  clear hf hK
  have HZ := Lib.hid hz
  clear hz
  repeat' (first | (simp only [zmPack, zfree, owners, Nat.reduceLT, List.filter_cons, List.filter_nil, List.contains_cons, List.contains_nil, Nat.reduceBEq, Bool.or_false, Bool.or_true, Bool.false_or, Bool.true_or, BEq.rfl, chunk, setAt, List.lookup_cons, List.lookup_nil, ZV.val.injEq, ZV.ptr.injEq, ZV.own.injEq, ZV.fz.injEq, ZV.func.injEq, ZV.tuple.injEq, ZV.agg.injEq, ZB.box.injEq, ZB.grow.injEq, Bool.not_eq_false', Prod.mk.injEq, and_assoc, decide_false, decide_true, Bool.not_false, Bool.not_true, Bool.true_eq_false, Bool.false_eq_true, exists_false, Bool.not_eq_false, Bool.not_not, Value.bool.injEq, Value.int.injEq, Option.some.injEq, exists_eq_left', exists_eq_left, exists_and_left, exists_and_right, and_true, true_and, decide_eq_true_eq, decide_eq_false_iff_not, if_true, if_false, Bool.not_eq_true', beq_true, beq_false, ne_eq, not_true_eq_false, not_false_eq_true, reduceCtorEq, List.getD_cons_zero, List.getD_cons_succ, List.getD_nil, List.map_cons, List.map_nil, List.append_nil, Nat.reduceEqDiff, reduceIte, ite_true, ite_false, or_true, true_or, or_false, false_or, true_imp_iff, false_imp_iff, implies_true, imp_false, and_self, imp_self, and_false, false_and, forall_const, take_map_all, Nat.le_refl, Nat.reduceMul, Nat.reduceSub, List.length_cons, List.length_nil, List.length_map, List.length_set, List.all_cons, List.all_nil, Bool.and_self, Option.map_none, Option.map_some, List.set_cons_zero, List.set_cons_succ, Nat.lt_add_one, List.append_assoc, List.cons_append, List.nil_append, List.append_nil, List.length_append, List.take_zero, List.take_succ_cons, List.take_nil, List.drop_zero, List.drop_succ_cons, List.drop_nil, List.getElem?_cons_zero, List.getElem?_cons_succ, List.getElem?_map, Nat.reduceAdd, Nat.reduceLeDiff, Nat.add_eq_zero_iff, and_self, Nat.zero_add, Nat.add_zero, Nat.mul_one, Nat.one_mul, List.flatten_cons, List.flatten_nil, *]) | (simp only [zgoO, zgoG, zO_nil, zthen_normal, zgoC]) | (with_reducible apply And.intro) | (with_reducible intro _))
  refine idxf_z HZ.out hb HF.out ?_
  repeat' (first | (simp only [zmPack, zfree, owners, Nat.reduceLT, List.filter_cons, List.filter_nil, List.contains_cons, List.contains_nil, Nat.reduceBEq, Bool.or_false, Bool.or_true, Bool.false_or, Bool.true_or, BEq.rfl, chunk, setAt, List.lookup_cons, List.lookup_nil, ZV.val.injEq, ZV.ptr.injEq, ZV.own.injEq, ZV.fz.injEq, ZV.func.injEq, ZV.tuple.injEq, ZV.agg.injEq, ZB.box.injEq, ZB.grow.injEq, Bool.not_eq_false', Prod.mk.injEq, and_assoc, decide_false, decide_true, Bool.not_false, Bool.not_true, Bool.true_eq_false, Bool.false_eq_true, exists_false, Bool.not_eq_false, Bool.not_not, Value.bool.injEq, Value.int.injEq, Option.some.injEq, exists_eq_left', exists_eq_left, exists_and_left, exists_and_right, and_true, true_and, decide_eq_true_eq, decide_eq_false_iff_not, if_true, if_false, Bool.not_eq_true', beq_true, beq_false, ne_eq, not_true_eq_false, not_false_eq_true, reduceCtorEq, List.getD_cons_zero, List.getD_cons_succ, List.getD_nil, List.map_cons, List.map_nil, List.append_nil, Nat.reduceEqDiff, reduceIte, ite_true, ite_false, or_true, true_or, or_false, false_or, true_imp_iff, false_imp_iff, implies_true, imp_false, and_self, imp_self, and_false, false_and, forall_const, take_map_all, Nat.le_refl, Nat.reduceMul, Nat.reduceSub, List.length_cons, List.length_nil, List.length_map, List.length_set, List.all_cons, List.all_nil, Bool.and_self, Option.map_none, Option.map_some, List.set_cons_zero, List.set_cons_succ, Nat.lt_add_one, List.append_assoc, List.cons_append, List.nil_append, List.append_nil, List.length_append, List.take_zero, List.take_succ_cons, List.take_nil, List.drop_zero, List.drop_succ_cons, List.drop_nil, List.getElem?_cons_zero, List.getElem?_cons_succ, List.getElem?_map, Nat.reduceAdd, Nat.reduceLeDiff, Nat.add_eq_zero_iff, and_self, Nat.zero_add, Nat.add_zero, Nat.mul_one, Nat.one_mul, List.flatten_cons, List.flatten_nil, idx_ge, *]) | (simp only [zgoO, zgoG, zO_nil, zthen_normal, zgoC]) | (with_reducible apply And.intro) | (with_reducible intro _))
end Go.Proofs.Ytmecaddjeljliaa

namespace Go.Proofs.Ytmecaddjeljliaa
open Go Go.RowKit
set_option linter.unusedVariables false
set_option linter.unusedSimpArgs false
variable {tb : List (FuncId × Bool)} {L : Nat → Bool} {H : ZH} {K : ZV → ZH → Prop}
theorem A1_clear {X : CallT} {F : FuncId → Option AFunc} {top : Option (Nat × Option (List Nat))} {fl : Nat → Bool} {s : Slots} {h : Heap} {K : AV → Heap → Prop} {kk : Nat} {z : List AV} {x : Opd} : A1 X F top fl (.clear kk z x) s h K ↔ ∃ v h', (match x.ev s with
    | .val (.slice none 0 0) => some (AV.no, h)
    | .hole => some (.no, h)
    | .slice id off len _ _ _ => match wr fl h id off (List.replicate len z).flatten with
      | some h' => some (.no, h')
      | none => none
    | _ => none) = some (v, h') ∧ K v h' := Iff.rfl
theorem del_rows {row : List AV} {bb n i : Nat} (hi : i < n) (hle : bb + n * 2 ≤ row.length) (z : List AV) (hz : z.length = 2) {row1 : List AV}
    (h1 : row1 = row.take (bb + i * 2) ++ ((row.drop (bb + (i + 1) * 2)).take ((n - (i + 1)) * 2)) ++ row.drop (bb + (n - 1) * 2)) :
    row1.length = row.length ∧ (((row1.take (bb + (n - 1) * 2) ++ z ++ row1.drop (bb + (n - 1) * 2 + 2)).drop bb).take ((n - 1) * 2)) = (((row.drop bb).take (n * 2)).take (i * 2) ++ ((row.drop bb).take (n * 2)).drop ((i + 1) * 2)) := by
  have hl : row1.length = row.length := by rw [h1]; simp; omega
  refine ⟨hl, List.ext_getElem? fun j => ?_⟩
  rw [List.getElem?_take]
  by_cases hj : j < (n - 1) * 2
  · rw [if_pos hj, List.getElem?_drop, List.append_assoc, List.getElem?_append_left (by simp [hl]; omega), List.getElem?_take, if_pos (by omega), h1]
    by_cases hji : j < i * 2
    · rw [List.append_assoc, List.getElem?_append_left (by simp; omega), List.getElem?_append_left (by simp; omega), List.getElem?_take, if_pos (by omega), List.getElem?_take, if_pos hji, List.getElem?_take, if_pos (by omega), List.getElem?_drop]
    · have l1 : (row.take (bb + i * 2)).length = bb + i * 2 := by simp; omega
      have l2 : (((row.drop bb).take (n * 2)).take (i * 2)).length = i * 2 := by simp; omega
      rw [List.append_assoc, List.getElem?_append_right (by omega), l1, List.getElem?_append_left (by simp; omega), List.getElem?_append_right (by omega), l2, List.getElem?_take, if_pos (by omega), List.getElem?_drop, List.getElem?_drop, List.getElem?_take, if_pos (by omega), List.getElem?_drop]
      congr 1; omega
  · rw [if_neg hj]
    symm
    rw [List.getElem?_eq_none_iff]
    simp; omega
theorem set_same {h : Heap} {id : Nat} {row : List AV} (hb : blk h id = some row) : h.set id (some row) = h := by
  apply List.ext_getElem?
  intro j
  rw [List.getElem?_set]
  split
  · rename_i e; subst e
    have hlt := blk_lt hb
    rw [if_pos hlt]
    unfold blk at hb
    split at hb
    · rename_i l hl; injection hb with hb; subst hb; exact hl.symm
    · cases hb
  · rfl
set_option maxHeartbeats 2000000 in
theorem del_z {b g n i : Nat} {ex : Bool} {rows : List (List ZV)} (hb : H[b]? = some (.grow g 2 rows)) (hn : n ≤ rows.length) (hi : i < n) (hL : L b = true) (hnr : n ≤ 60) (hK : K (.own b (g + 1) 0 (n - 1) false) (H.set b (.grow (g + 1) 2 (rows.take i ++ (rows.take n).drop (i + 1))))) :
    ZC (constX tb) (cFunc Try.prog) 38 [.own b g 0 n ex, Z64 i, Z64 ((i : Int) + 1)] L H K := by
  intro fl w args r eH ha
  subst eH
  obtain ⟨hlen, hget⟩ := ha
  match args, hlen with
  | [a0, a1, a2], _ =>
    have z0 := hget 0 _ _ rfl rfl
    have z1 := (hget 1 _ _ rfl rfl).val_inv
    have z2 := (hget 2 _ _ rfl rfl).val_inv
    subst z1; subst z2
    cases z0 with
    | fr hf => cases hf
    | own p1 p2 p3 p4 =>
      rcases (p2 _ _ _ hb).2 rfl with ⟨_, h, _⟩ | ⟨id, bb, lb, ex', row, m1, e0, m2, m3, m4, m5, m6⟩
      · rw [h] at hn; simp at hn; omega
      · obtain ⟨g0, gB⟩ := r.grow _ _ _ _ hb
        rcases gB with ⟨n1, _⟩ | ⟨id', b', row', n1, n2, n3, n4⟩
        · rw [m1] at n1; cases n1
        · rw [m1] at n1; injection n1 with n1; injection n1 with t1 t2; subst t1; subst t2
          rw [m4] at n2; injection n2 with n2; subst n2
          rw [Nat.zero_mul, Nat.add_zero] at e0 m5
          subst e0
          have hfl := r.wr _ _ m1 hL
          have hid := (r.nfr _ _ m1).2
          simp only at hid
          have hnrow : bb + n * 2 ≤ row.length := by omega
          obtain ⟨row1, hrow1⟩ : ∃ x, x = row.take (bb + i * 2) ++ ((row.drop (bb + (i + 1) * 2)).take ((n - (i + 1)) * 2)) ++ row.drop (bb + (n - 1) * 2) := ⟨_, rfl⟩
          obtain ⟨q1, q2⟩ := del_rows hi hnrow [I64 0, I64 0] rfl hrow1
          obtain ⟨cells, hcells⟩ : ∃ x, x = (row.drop (bb + (i + 1) * 2)).take ((n - (i + 1)) * 2) := ⟨_, rfl⟩
          have hcl : cells.length = (n - (i + 1)) * 2 := by rw [hcells]; simp; omega
          obtain ⟨row2, hrow2⟩ : ∃ x, x = row1.take (bb + (n - 1) * 2) ++ [I64 0, I64 0] ++ row1.drop (bb + (n - 1) * 2 + 2) := ⟨_, rfl⟩
          have l2 : row2.length = row.length := by rw [hrow2]; simp; omega
          have hw1 : w.h.set id (some row1) = w.h.set id (some (row.take (bb + i * 2) ++ cells ++ row.drop (bb + i * 2 + cells.length))) := by
            rw [hrow1, ← hcells, hcl, show bb + i * 2 + (n - (i + 1)) * 2 = bb + (n - 1) * 2 by omega]
          obtain ⟨h1, eh1⟩ : ∃ x, x = w.h.set id (some row1) := ⟨_, rfl⟩
          have hb1 : blk h1 id = some row1 := by rw [eh1]; exact blk_set_same hid
          have fA : ∃ ex2 lb2, appendA fl w.h 2 16 (.slice id bb i lb ex' 2) (n - (i + 1)) cells = some (.slice id bb (n - 1) lb2 ex2 2, h1) ∧ lb2 = lb := by
            refine ⟨ex', lb, ?_, rfl⟩
            unfold appendA
            by_cases h0 : n - (i + 1) = 0
            · have hc0 : cells = [] := List.eq_nil_of_length_eq_zero (by omega)
              rw [if_pos h0]
              simp only
              have : h1 = w.h := by
                rw [eh1, hw1, hc0]; simp only [List.append_nil, List.length_nil, Nat.add_zero, List.take_append_drop]; exact set_same m4
              rw [this, show n - 1 = i by omega]
            · rw [if_neg h0]
              simp only
              rw [if_pos ⟨trivial, by unfold reach; omega⟩, if_pos (by omega), wr_of m4 hfl (by omega)]
              simp only
              rw [eh1, hw1, show i + (n - (i + 1)) = n - 1 by omega]
          obtain ⟨ex2, lb2, fA, e2⟩ := fA
          subst e2
          obtain ⟨w', e1, e2, e3, e4, e5⟩ := upd_blk r (lt_of_get hb) hL (.grow (g + 1) 2 (rows.take i ++ (rows.take n).drop (i + 1))) (id, bb) (h1.set id (some row2)) row2
            (fun j hj hne => by rw [blk_set_ne (hne _ m1), eh1, blk_set_ne (hne _ m1)]) (by rw [eh1]; simp) ⟨by rw [eh1]; simpa using hid, .inl ⟨_, m1, rfl⟩⟩ (blk_set_same (by rw [eh1]; simpa using hid))
            (.inr ⟨g, 2, rows, g + 1, _, hb, rfl, fun x hx => (List.mem_append.1 hx).elim (fun h => g0 x (List.mem_of_mem_take h)) (fun h => g0 x (List.mem_of_mem_take (List.mem_of_mem_drop h))), by simp; omega, fun w' e' => by
              rw [show (rows.take i ++ (rows.take n).drop (i + 1)).length = n - 1 by simp; omega]
              show ZRs w' _ ((row2.drop bb).take ((n - 1) * 2))
              have n4' := (n4.ext e').take (n * 2)
              rw [List.take_take, Nat.min_eq_left (Nat.mul_le_mul_right _ hn), zflat_take g0] at n4'
              have gt : ∀ r ∈ rows.take n, r.length = 2 := fun r hr => g0 r (List.mem_of_mem_take hr)
              rw [hrow2, q2, List.flatten_append, show rows.take i = (rows.take n).take i by rw [List.take_take, Nat.min_eq_left (by omega)], ← zflat_take gt, ← zflat_drop gt]
              exact (n4'.take _).append (n4'.drop _), .inl (Nat.lt_succ_self _)⟩)
          have hres : ZR w' (.own b (g + 1) 0 (n - 1) false) (.slice id bb (n - 1) lb2 ex2 2) := by
            have := own_mk (w := w') e4 (i := b) (g := g + 1) (k := 2) (rows := rows.take i ++ (rows.take n).drop (i + 1)) (by rw [e2, List.getElem?_set]; simp [lt_of_get hb]) (id := id) (b := bb) (off := 0) (len := n - 1) (lb := lb2) (ex := false) (ex' := ex2) (row := row2) e3 (by rw [e1]; exact blk_set_same (by rw [eh1]; simpa using hid)) (by simp; omega) (by omega) (by omega) (fun h => by cases h)
            simpa using this
          have fin : PK fl L w K (.slice id bb (n - 1) lb2 ex2 2) (h1.set id (some row2)) := ⟨_, w', e1, e4, e5, hres, by rw [e2]; exact hK⟩
          have s1 : sliceA 2 (.slice id bb n lb2 ex' 2) (some (I64 i)) (some (I64 ((i : Int) + 1))) (some (I64 n)) = some (.slice id (bb + i * 2) (i + 1 - i) (n - i) true 2) := by
            have c1 : natOfA (I64 i) = some i := natOf_nat
            have c2 : natOfA (I64 ((i : Int) + 1)) = some (i + 1) := natOf_nat (n := i + 1)
            have c3 : natOfA (I64 n) = some n := natOf_nat
            simp only [sliceA, c1, c2, c3]
            rw [if_pos ⟨trivial, by omega, by omega, by omega⟩]; simp
          have s2 : sliceA 2 (.slice id bb n lb2 ex' 2) none (some (I64 i)) none = some (.slice id bb i lb2 ex' 2) := by
            have c1 : natOfA (I64 i) = some i := natOf_nat
            simp only [sliceA, c1]
            rw [if_pos ⟨trivial, by omega, by omega, by omega⟩]; simp
          have s3 : sliceA 2 (.slice id bb n lb2 ex' 2) (some (I64 ((i : Int) + 1))) none none = some (.slice id (bb + (i + 1) * 2) (n - (i + 1)) (lb2 - (i + 1)) ex' 2) := by
            have c2 : natOfA (I64 ((i : Int) + 1)) = some (i + 1) := natOf_nat (n := i + 1)
            simp only [sliceA, c2]
            rw [if_pos ⟨trivial, by omega, by omega, by omega⟩]; simp
          have s4 : sliceA 2 (.slice id bb (n - 1) lb2 ex2 2) (some (I64 (n - 1 : Nat))) (some (I64 n)) none = some (.slice id (bb + (n - 1) * 2) 1 (lb2 - (n - 1)) ex2 2) := by
            have c1 : natOfA (I64 (n - 1 : Nat)) = some (n - 1) := natOf_nat
            have c3 : natOfA (I64 n) = some n := natOf_nat
            simp only [sliceA, c1, c3]
            rw [if_pos ⟨trivial, by omega, by omega, by omega⟩, show n - (n - 1) = 1 by omega]; simp
          have sr : rowOf w.h 2 (.slice id (bb + (i + 1) * 2) (n - (i + 1)) (lb2 - (i + 1)) ex' 2) = some (n - (i + 1), cells) := by
            simp only [rowOf, rd, m4]
            rw [if_pos (by omega), ← hcells]
          have sw : wr fl h1 id (bb + (n - 1) * 2) [I64 0, I64 0] = some (h1.set id (some row2)) := by
            rw [wr_of hb1 hfl (by rw [q1]; simp; omega), hrow2]; rfl
          have hne : ¬ ((i : Int) = (i : Int) + 1) := by omega
          have fl1 : lenA (.slice id bb n lb2 ex' 2) = some n := rfl
          have fl2 : lenA (.slice id bb (n - 1) lb2 ex2 2) = some (n - 1) := rfl
          have srep : (List.replicate 1 [I64 0, I64 0]).flatten = [I64 0, I64 0] := rfl
          obtain ⟨h2, eh2⟩ : ∃ x, x = h1.set id (some row2) := ⟨_, rfl⟩
          rw [← eh2] at fin sw
          obtain ⟨m, em⟩ : ∃ m, m = n - 1 := ⟨_, rfl⟩
          rw [← em] at fin s4 sw fl2 fA
          clear hK p2 p3 p4 g0 n3 n4 hget hb q1 q2 hcl l2 hw1 e1 e2 e3 e4 e5 hres eh2 hrow1 hrow2 hcells eh1 hb1 m2 m3 m4 m5 m6 hnrow hnr hL hn hi em p1 m1
          refine AC.enter rfl f_s_del (by simp) ?_
          simp only [c_s_del]
          repeat' (first | (simp only [AW_next, AW_ops, AW_cond, AW_block, AW_exit, AW_ret, AW_skip, AW_scope, AO_nil, AO_next, AO_nextW, wantB_bool, wantK_some, then_normal, then_exit, then_ret, inBlk_normal, inBlk_exit, inBlk_ret, A1_mv, A1_pick, A1_box, A1_zero, A1_build, A1_lits, A1_load, shallow_none, A1_store, A1_nilCheckI, nilOk_ptr, nilOk_func, A1_bin, A1_eqNil, A1_eqBool, A1_eqAgg, A1_un, A1_conv, A1_field, A1_fieldAddr, A1_indexAddr, A1_indexArr, A1_index, A1_slice, A1_mkSlice, A1_extract, A1_func, A1_call, A1_append, A1_len, A1_minmax, put_some, put_none, upd_at, ev_tmp, ev_av, bin_lss, bin_leq, bin_gtr, bin_geq, bin_eql, bin_neq, bin_add, bin_sub, bin_mul, un_not, natOf_nat, Bool.not_eq_false', Prod.mk.injEq, and_assoc, decide_false, decide_true, Bool.not_false, Bool.not_true, Bool.true_eq_false, Bool.false_eq_true, exists_false, Bool.not_eq_false, Bool.not_not, AV.val.injEq, AV.ptr.injEq, AV.slice.injEq, AV.func.injEq, AV.tuple.injEq, AV.agg.injEq, Value.bool.injEq, Value.int.injEq, Option.some.injEq, exists_eq_left', exists_eq_left, exists_and_left, exists_and_right, and_true, true_and, decide_eq_true_eq, decide_eq_false_iff_not, if_true, if_false, Bool.not_eq_true', beq_true, beq_false, ne_eq, not_true_eq_false, not_false_eq_true, reduceCtorEq, List.getD_cons_zero, List.getD_cons_succ, List.map_cons, List.map_nil, List.append_nil, Nat.reduceEqDiff, reduceIte, ite_true, ite_false, or_true, true_or, or_false, false_or, resA, resultsA, true_imp_iff, false_imp_iff, implies_true, imp_false, and_self, imp_self, and_false, false_and, forall_const, cell_val, cell_ptr, cell_slice, cell_func, cell_hole, cells_agg, cells_val, cells_ptr, cells_slice, cells_func, cells_hole, cells_cell, List.length_cons, List.length_nil, List.all_cons, List.all_nil, Bool.and_self, ldA, List.mapM_cons, List.mapM_nil, Option.bind_eq_bind, Option.bind_some, Option.pure_def, Option.map_none, Option.map_some, List.set_cons_zero, List.set_cons_succ, Nat.lt_add_one, List.append_assoc, List.cons_append, List.nil_append, List.append_nil, List.length_append, rd1_n0, rd1_nK, rd1_c0, rd1_cS, rd_n0, rd_nK, rd_c0, rd_cS, fillA, List.take_zero, List.take_succ_cons, List.take_nil, List.drop_zero, List.drop_succ_cons, List.drop_nil, List.getElem?_cons_zero, List.getElem?_cons_succ, Nat.reduceAdd, Nat.reduceLeDiff, Nat.add_eq_zero_iff, and_self, Nat.zero_add, Nat.add_zero, Nat.mul_one, s1, s2, s3, s4, sr, fA, fl1, fl2, A1_clear, srep, sw, *]) | (simp only [goO, AO_nil, then_normal, goC]) | (with_reducible apply And.intro) | (with_reducible intro _))
end Go.Proofs.Ytmecaddjeljliaa

namespace Go.Proofs.Ytmecaddjeljliaa
set_option linter.unusedVariables false
set_option linter.unusedSimpArgs false
abbrev MvT := Int × Int
def freeAt (l : List MvT) (m : MvT) : Bool := !l.any fun x => decide (x ≠ m ∧ x.2 = m.1)
def brkM (to s : Int) (m : MvT) : MvT := if m.2 = to then (m.1, s) else m
inductive Mv (s : Int) (l0 : List MvT) : List MvT → List MvT → Prop
  | start : Mv s l0 l0 []
  | go {a b out : List MvT} {m : MvT} : Mv s l0 (a ++ m :: b) out → freeAt (a ++ m :: b) m = true → (∀ x ∈ a, freeAt (a ++ m :: b) x = false) → Mv s l0 (a ++ b) (out ++ [m])
  | brk {b out : List MvT} {m : MvT} : Mv s l0 (m :: b) out → (∀ x ∈ m :: b, freeAt (m :: b) x = false) → Mv s l0 ((m :: b).map (brkM m.1 s)) (out ++ [(s, m.1)])
def OkL (l : List MvT) (s : Int) : Prop := l.length ≤ 60 ∧ (l.map Prod.fst).Nodup ∧ ∀ m ∈ l, m.1 ≠ s ∧ m.2 ≠ s
def loseP (l : List MvT) : List MvT := l.filter fun m => !decide (m.1 = m.2)
theorem loseP_mem {l : List MvT} {m : MvT} : m ∈ loseP l ↔ m ∈ l ∧ m.1 ≠ m.2 := by simp [loseP]
theorem freeAt_true {l : List MvT} {m : MvT} : freeAt l m = true ↔ ∀ x ∈ l, x ≠ m → x.2 ≠ m.1 := by
  unfold freeAt
  rw [Bool.not_eq_true', List.any_eq_false]
  simp
theorem freeAt_false {l : List MvT} {m : MvT} : freeAt l m = false ↔ ∃ x ∈ l, x ≠ m ∧ x.2 = m.1 := by
  unfold freeAt
  rw [Bool.not_eq_false', List.any_eq_true]
  simp
/-- No two to the same, none to the spare one, none to itself. -/
def GoodM (s : Int) (l : List MvT) : Prop := (l.map Prod.fst).Nodup ∧ ∀ m ∈ l, m.1 ≠ s ∧ m.1 ≠ m.2
theorem GoodM.lose {l : List MvT} {s : Int} (h : OkL l s) : GoodM s (loseP l) := by
  obtain ⟨_, h1, h2⟩ := h
  refine ⟨List.Nodup.sublist (List.Sublist.map _ List.filter_sublist) h1, fun m hm => ?_⟩
  obtain ⟨q1, q2⟩ := loseP_mem.1 hm
  exact ⟨(h2 m q1).1, q2⟩
theorem brkM_fst {to s : Int} {m : MvT} : (brkM to s m).1 = m.1 := by unfold brkM; split <;> rfl
theorem brkM_map {to s : Int} (l : List MvT) : (l.map (brkM to s)).map Prod.fst = l.map Prod.fst := by
  rw [List.map_map]; exact List.map_congr_left fun m _ => brkM_fst
theorem Mv.good {s : Int} {l0 left out : List MvT} (h0 : GoodM s l0) (h : Mv s l0 left out) : GoodM s left := by
  induction h with
  | start => exact h0
  | @go a b out m _ _ _ ih =>
    have hs : (a ++ b).Sublist (a ++ m :: b) := List.Sublist.append (List.Sublist.refl _) (List.sublist_cons_self _ _)
    exact ⟨List.Nodup.sublist (hs.map _) ih.1, fun x hx => ih.2 x (hs.subset hx)⟩
  | @brk b out m _ _ ih =>
    refine ⟨by rw [brkM_map]; exact ih.1, fun x hx => ?_⟩
    obtain ⟨y, hy, rfl⟩ := List.mem_map.1 hx
    obtain ⟨q1, q2⟩ := ih.2 y hy
    rw [brkM_fst]
    refine ⟨q1, ?_⟩
    unfold brkM
    split
    · exact q1
    · exact q2
/-- As many as there are, and all of them there: no other ones. -/
theorem pigeon {α : Type} [BEq α] [LawfulBEq α] : ∀ {l1 l2 : List α}, l1.Nodup → (∀ x ∈ l1, x ∈ l2) → l2.length ≤ l1.length → ∀ x ∈ l2, x ∈ l1
  | [], l2, _, _, hl, x, hx => by
    have : l2 = [] := List.eq_nil_of_length_eq_zero (by simpa using hl)
    subst this; exact hx
  | a :: l1, l2, hn, hs, hl, x, hx => by
    obtain ⟨h1, h2⟩ := List.nodup_cons.1 hn
    have ha := hs a (List.mem_cons_self ..)
    by_cases e : x = a
    · subst e; exact List.mem_cons_self ..
    · refine List.mem_cons_of_mem _ (pigeon (l2 := l2.erase a) h2 (fun y hy => ?_) ?_ x ((List.mem_erase_of_ne e).2 hx))
      · exact (List.mem_erase_of_ne (fun q : y = a => h1 (q ▸ hy))).2 (hs y (List.mem_cons_of_mem _ hy))
      · rw [List.length_erase_of_mem ha]; simp at hl; omega
/-- Where none is free nobody reads the spare one. -/
theorem stuck {s : Int} {l : List MvT} (hg : GoodM s l) (hs : ∀ x ∈ l, freeAt l x = false) : ∀ x ∈ l, x.2 ≠ s := by
  have h1 : ∀ t ∈ l.map Prod.fst, t ∈ l.map Prod.snd := fun t ht => by
    obtain ⟨m, hm, rfl⟩ := List.mem_map.1 ht
    obtain ⟨x, hx, _, h2⟩ := freeAt_false.1 (hs m hm)
    exact List.mem_map.2 ⟨x, hx, h2⟩
  have h2 := pigeon hg.1 h1 (by simp)
  intro x hx e
  obtain ⟨m, hm, h3⟩ := List.mem_map.1 (h2 x.2 (List.mem_map.2 ⟨x, hx, rfl⟩))
  exact (hg.2 m hm).1 (h3.trans e)
/-! ### What they do -/
def upF (f : Int → Int) (t v : Int) : Int → Int := fun x => if x = t then v else f x
def runF (out : List MvT) (f : Int → Int) : Int → Int := out.foldl (fun f m => upF f m.1 (f m.2)) f
theorem runF_app {o : List MvT} {m : MvT} {f : Int → Int} : runF (o ++ [m]) f = upF (runF o f) m.1 (runF o f m.2) := by simp [runF, List.foldl_append]
/-- What each place is to have. -/
def wantF (l0 : List MvT) (f : Int → Int) (t : Int) : Int := match l0.find? fun m => decide (m.1 = t) with
  | some m => f m.2
  | none => f t
theorem wantF_mem {l0 : List MvT} (hn : (l0.map Prod.fst).Nodup) {f : Int → Int} {m : MvT} (hm : m ∈ l0) : wantF l0 f m.1 = f m.2 := by
  unfold wantF
  cases hf : l0.find? fun x => decide (x.1 = m.1) with
  | none =>
    have := List.find?_eq_none.1 hf m hm
    simp at this
  | some x =>
    have h1 := List.mem_of_find?_eq_some hf
    have h2 : x.1 = m.1 := by simpa using List.find?_some hf
    have : x = m := by
      obtain ⟨i, hi, e1⟩ := List.getElem_of_mem h1
      obtain ⟨j, hj, e2⟩ := List.getElem_of_mem hm
      have : i = j := by
        have := (List.getElem_inj (i := i) (j := j) (h₀ := by simpa using hi) (h₁ := by simpa using hj) hn).1 (by simp [e1, e2, h2])
        exact this
      subst this; rw [← e1, ← e2]
    rw [this]
theorem wantF_no {l0 : List MvT} {f : Int → Int} {t : Int} (h : ∀ m ∈ l0, m.1 ≠ t) : wantF l0 f t = f t := by
  unfold wantF
  have : l0.find? (fun m => decide (m.1 = t)) = none := List.find?_eq_none.2 fun m hm => by simpa using h m hm
  rw [this]
theorem Mv.does {s : Int} {l0 left out : List MvT} (h0 : GoodM s l0) (f : Int → Int) (h : Mv s l0 left out) :
    (∀ m ∈ left, runF out f m.2 = wantF l0 f m.1) ∧ (∀ t, t ≠ s → (∀ m ∈ left, m.1 ≠ t) → runF out f t = wantF l0 f t) := by
  induction h with
  | start => exact ⟨fun m hm => (wantF_mem h0.1 hm).symm, fun t _ ht => (wantF_no ht).symm⟩
  | @go a b out m hM hf _ ih =>
    have hg := hM.good h0
    obtain ⟨i1, i2⟩ := ih
    rw [runF_app]
    have hne : ∀ x ∈ a ++ b, x ≠ m := fun x hx e => by
      subst e
      have := hg.1
      rw [List.map_append, List.map_cons, List.nodup_append] at this
      obtain ⟨_, n2, n3⟩ := this
      rcases List.mem_append.1 hx with hx | hx
      · exact n3 _ (List.mem_map.2 ⟨x, hx, rfl⟩) _ (List.mem_cons_self ..) rfl
      · exact (List.nodup_cons.1 n2).1 (List.mem_map.2 ⟨x, hx, rfl⟩)
    have hin : ∀ x ∈ a ++ b, x ∈ a ++ m :: b := fun x hx => by
      rcases List.mem_append.1 hx with hx | hx
      · exact List.mem_append_left _ hx
      · exact List.mem_append_right _ (List.mem_cons_of_mem _ hx)
    have hmm : m ∈ a ++ m :: b := List.mem_append_right _ (List.mem_cons_self ..)
    refine ⟨fun x hx => ?_, fun t hts ht => ?_⟩
    · unfold upF
      rw [if_neg (freeAt_true.1 hf x (hin x hx) (hne x hx))]
      exact i1 x (hin x hx)
    · unfold upF
      split
      · rename_i e; subst e; exact i1 m hmm
      · rename_i e
        refine i2 t hts fun x hx => ?_
        rcases List.mem_append.1 hx with hx | hx
        · exact ht x (List.mem_append_left _ hx)
        · rcases List.mem_cons.1 hx with rfl | hx
          · exact fun q => e q.symm
          · exact ht x (List.mem_append_right _ hx)
  | @brk b out m hM hs ih =>
    have hg := hM.good h0
    have hst := stuck hg hs
    obtain ⟨i1, i2⟩ := ih
    rw [runF_app]
    refine ⟨fun x hx => ?_, fun t hts ht => ?_⟩
    · obtain ⟨y, hy, rfl⟩ := List.mem_map.1 hx
      rw [brkM_fst]
      unfold brkM upF
      split
      · rename_i e; rw [if_pos rfl]; simp only; rw [← e]; exact i1 y hy
      · rw [if_neg (hst y hy)]; exact i1 y hy
    · unfold upF
      rw [if_neg hts]
      exact i2 t hts fun y hy => by
        have := ht _ (List.mem_map.2 ⟨y, hy, rfl⟩)
        rwa [brkM_fst] at this
/-! ### How many there are -/
theorem Mv.many {s : Int} {l0 left out : List MvT} (h0 : GoodM s l0) (h1 : ∀ m ∈ l0, m.2 ≠ s) (h : Mv s l0 left out) :
    ∃ B t0, out.length + left.length = l0.length + B ∧ (∀ x ∈ left, x.2 ≠ t0) ∧ (∀ m ∈ left, m.1 = t0 → m.2 ≠ s) ∧
      2 * B + left.length ≤ l0.length + left.countP (fun m => decide (m.1 = t0)) + left.countP (fun m => decide (m.2 = s)) := by
  induction h with
  | start => exact ⟨0, s, by simp, h1, fun m hm e => absurd e (h0.2 m hm).1, by omega⟩
  | @go a b out m hM hf _ ih =>
    obtain ⟨B, t0, i1, i2, i3, i4⟩ := ih
    have hin : ∀ x ∈ a ++ b, x ∈ a ++ m :: b := fun x hx => by
      rcases List.mem_append.1 hx with hx | hx
      · exact List.mem_append_left _ hx
      · exact List.mem_append_right _ (List.mem_cons_of_mem _ hx)
    have hmm : m ∈ a ++ m :: b := List.mem_append_right _ (List.mem_cons_self ..)
    refine ⟨B, t0, by simp at i1 ⊢; omega, fun x hx => i2 x (hin x hx), fun x hx => i3 x (hin x hx), ?_⟩
    rw [List.countP_append, List.countP_append, List.countP_cons, List.countP_cons] at i4
    rw [List.countP_append, List.countP_append]
    simp only [List.length_append, List.length_cons] at i4 ⊢
    have h3 := i3 m hmm
    by_cases e1 : m.1 = t0
    · have e2 := h3 e1
      simp only [e1, e2, decide_true, decide_false, if_true, Bool.false_eq_true, if_false] at i4
      omega
    · by_cases e2 : m.2 = s <;> simp only [e1, e2, decide_true, decide_false, if_true, Bool.false_eq_true, if_false] at i4 <;> omega
  | @brk b out m hM hs ih =>
    obtain ⟨B, t0, i1, i2, i3, i4⟩ := ih
    have hg := hM.good h0
    have hst := stuck hg hs
    have c1 : (m :: b).countP (fun m => decide (m.1 = t0)) = 0 := by
      rw [List.countP_eq_zero]
      intro x hx e
      have e : x.1 = t0 := by simpa using e
      obtain ⟨y, hy, _, h3⟩ := freeAt_false.1 (hs x hx)
      exact i2 y hy (h3.trans e)
    have c2 : (m :: b).countP (fun m => decide (m.2 = s)) = 0 := by
      rw [List.countP_eq_zero]
      intro x hx e
      exact hst x hx (by simpa using e)
    rw [c1, c2] at i4
    have hm0 := hg.2 m (List.mem_cons_self ..)
    refine ⟨B + 1, m.1, by simp at i1 ⊢; omega, fun x hx => ?_, fun x hx e => ?_, ?_⟩
    · obtain ⟨y, hy, rfl⟩ := List.mem_map.1 hx
      unfold brkM
      split
      · exact fun e => hm0.1 e.symm
      · rename_i e; exact e
    · obtain ⟨y, hy, rfl⟩ := List.mem_map.1 hx
      rw [brkM_fst] at e
      unfold brkM
      split
      · rename_i e2; exact absurd (e.trans e2.symm) (hg.2 y hy).2
      · exact hst y hy
    · have p1 : 0 < ((m :: b).map (brkM m.1 s)).countP (fun x => decide (x.1 = m.1)) := List.countP_pos_iff.2 ⟨brkM m.1 s m, List.mem_map.2 ⟨m, List.mem_cons_self .., rfl⟩, by simp [brkM_fst]⟩
      obtain ⟨y, hy, _, h3⟩ := freeAt_false.1 (hs m (List.mem_cons_self ..))
      have p2 : 0 < ((m :: b).map (brkM m.1 s)).countP (fun x => decide (x.2 = s)) := List.countP_pos_iff.2 ⟨brkM m.1 s y, List.mem_map.2 ⟨y, hy, rfl⟩, by unfold brkM; rw [if_pos h3]; simp⟩
      simp only [List.length_map] at i4 ⊢
      omega
theorem Mv.half {s : Int} {l out : List MvT} (h0 : OkL l s) (h : Mv s (loseP l) [] out) : out.length ≤ l.length + l.length / 2 := by
  obtain ⟨B, t0, i1, _, _, i4⟩ := h.many (GoodM.lose h0) fun m hm => (h0.2.2 m (loseP_mem.1 hm).1).2
  have hl : (loseP l).length ≤ l.length := List.length_filter_le ..
  simp at i1 i4
  omega
/-- What is read, what is written. -/
theorem Mv.within {s : Int} {l0 left out : List MvT} {P : Int → Prop} (hs : l0 ≠ [] → P s) (h0 : ∀ m ∈ l0, P m.1 ∧ P m.2) (h : Mv s l0 left out) : (∀ m ∈ left, P m.1 ∧ P m.2) ∧ (∀ m ∈ out, P m.1 ∧ P m.2) ∧ (left ≠ [] → P s) := by
  induction h with
  | start => exact ⟨h0, fun m hm => by simp at hm, hs⟩
  | @go a b out m hM hf _ ih =>
    obtain ⟨i1, i2, i3⟩ := ih
    refine ⟨fun x hx => i1 x ?_, fun x hx => ?_, fun _ => i3 (by simp)⟩
    · rcases List.mem_append.1 hx with hx | hx
      · exact List.mem_append_left _ hx
      · exact List.mem_append_right _ (List.mem_cons_of_mem _ hx)
    · rcases List.mem_append.1 hx with hx | hx
      · exact i2 x hx
      · rw [List.mem_singleton.1 hx]; exact i1 m (List.mem_append_right _ (List.mem_cons_self ..))
  | @brk b out m hM hs' ih =>
    obtain ⟨i1, i2, i3⟩ := ih
    have ps := i3 (by simp)
    refine ⟨fun x hx => ?_, fun x hx => ?_, fun _ => ps⟩
    · obtain ⟨y, hy, rfl⟩ := List.mem_map.1 hx
      unfold brkM
      split
      · exact ⟨(i1 y hy).1, ps⟩
      · exact i1 y hy
    · rcases List.mem_append.1 hx with hx | hx
      · exact i2 x hx
      · rw [List.mem_singleton.1 hx]; exact ⟨ps, (i1 m (List.mem_cons_self ..)).1⟩
/-! ### Where nobody wants another one's -/
theorem Mv.apart {s : Int} {l0 left out : List MvT} (ha : ∀ x ∈ l0, ∀ y ∈ l0, x ≠ y → x.2 ≠ y.1) (h : Mv s l0 left out) : out ++ left = l0 := by
  induction h with
  | start => rfl
  | @go a b out m hM hf hn ih =>
    have hall : ∀ x ∈ a ++ m :: b, freeAt (a ++ m :: b) x = true := fun x hx => freeAt_true.2 fun y hy hne => ha y (by rw [← ih]; exact List.mem_append_right _ hy) x (by rw [← ih]; exact List.mem_append_right _ hx) hne
    match a, hn, hall, ih with
    | [], _, _, ih => simpa using ih
    | x :: a, hn, hall, _ =>
      have h1 := hn x (List.mem_cons_self ..)
      rw [hall x (by simp)] at h1
      cases h1
  | @brk b out m hM hs ih =>
    obtain ⟨y, hy, h1, h2⟩ := freeAt_false.1 (hs m (List.mem_cons_self ..))
    exact absurd h2 (ha y (by rw [← ih]; exact List.mem_append_right _ hy) m (by rw [← ih]; exact List.mem_append_right _ (List.mem_cons_self ..)) h1)
theorem Mv.none0 {s : Int} {l0 left out : List MvT} (h : Mv s l0 left out) (he : l0 = []) : left = [] ∧ out = [] := by
  induction h with
  | start => exact ⟨he, rfl⟩
  | @go a b out m hM hf hn ih => have h1 := ih.1; simp at h1
  | @brk b out m hM hs ih => have h1 := ih.1; simp at h1
/-- How far it is to the end. -/
def measM (l : List MvT) : Nat := 2 * l.length + if l.any (freeAt l) = true then 0 else 1
theorem meas_go {a b : List MvT} {m : MvT} (hf : freeAt (a ++ m :: b) m = true) : measM (a ++ b) < measM (a ++ m :: b) := by
  have : (a ++ m :: b).any (freeAt (a ++ m :: b)) = true := List.any_eq_true.2 ⟨m, List.mem_append_right _ (List.mem_cons_self ..), hf⟩
  unfold measM
  rw [if_pos this]
  simp only [List.length_append, List.length_cons]
  split <;> omega
theorem meas_brk {s : Int} {b : List MvT} {m : MvT} (hg : GoodM s (m :: b)) (hs : ∀ x ∈ m :: b, freeAt (m :: b) x = false) : measM ((m :: b).map (brkM m.1 s)) < measM (m :: b) := by
  have h1 : ¬ (m :: b).any (freeAt (m :: b)) = true := by
    rw [Bool.not_eq_true, List.any_eq_false]
    intro x hx; rw [hs x hx]; simp
  have h2 : ((m :: b).map (brkM m.1 s)).any (freeAt ((m :: b).map (brkM m.1 s))) = true := List.any_eq_true.2 ⟨brkM m.1 s m, List.mem_map.2 ⟨m, List.mem_cons_self .., rfl⟩, freeAt_true.2 fun x hx _ => by
    obtain ⟨y, hy, rfl⟩ := List.mem_map.1 hx
    rw [brkM_fst]
    unfold brkM
    split
    · exact fun e => (hg.2 m (List.mem_cons_self ..)).1 e.symm
    · rename_i e; exact e⟩
  unfold measM
  rw [if_neg h1, if_pos h2]
  simp
end Go.Proofs.Ytmecaddjeljliaa

namespace Go.Proofs.Ytmecaddjeljliaa
open Go Go.RowKit
set_option linter.unusedVariables false
set_option linter.unusedSimpArgs false
variable {tb : List (FuncId × Bool)} {L : Nat → Bool} {H : ZH} {K : ZV → ZH → Prop}
theorem mv_at0 {W : ZH} (A : ZB) (X : ZH) : (W ++ (A :: X))[W.length]? = some A := by rw [List.getElem?_append_right (Nat.le_refl _), Nat.sub_self]; rfl
theorem mv_at1 {W : ZH} (A B : ZB) (X : ZH) : (W ++ (A :: B :: X))[W.length + 1]? = some B := by rw [List.getElem?_append_right (by omega), Nat.add_sub_cancel_left]; rfl
theorem mv_st0 {W : ZH} (A C : ZB) (X : ZH) : (W ++ (A :: X)).set W.length C = W ++ (C :: X) := by rw [List.set_append_right _ _ (Nat.le_refl _), Nat.sub_self]; rfl
theorem mv_st1 {W : ZH} (A B C : ZB) (X : ZH) : (W ++ (A :: B :: X)).set (W.length + 1) C = W ++ (A :: C :: X) := by rw [List.set_append_right _ _ (by omega), Nat.add_sub_cancel_left]; rfl
theorem mv_atX {W X : ZH} (A B : ZB) : (W ++ (A :: (X ++ [B])))[W.length + (X.length + 1)]? = some B := by rw [List.getElem?_append_right (by omega), Nat.add_sub_cancel_left, List.getElem?_cons_succ, List.getElem?_append_right (Nat.le_refl _), Nat.sub_self]; rfl
theorem mv_stX {W X : ZH} (A B C : ZB) : (W ++ (A :: (X ++ [B]))).set (W.length + (X.length + 1)) C = W ++ (A :: (X ++ [C])) := by rw [List.set_append_right _ _ (by omega), Nat.add_sub_cancel_left, List.set_cons_succ, List.set_append_right _ _ (Nat.le_refl _), Nat.sub_self]; rfl
theorem mv_get {l : List MvT} {i : Nat} (h : i < l.length) : l[i]? = some l[i] := List.getElem?_eq_getElem h
def NodM (l : List MvT) : Prop := (l.map Prod.fst).Nodup
theorem NodM.next {l : List MvT} {k : Nat} (hk : k < l.length) : NodM (l.take (k + 1)) ↔ NodM (l.take k) ∧ (l.take k).any (fun x => decide (x.1 = l[k].1)) = false := by
  unfold NodM
  rw [List.take_succ_eq_append_getElem hk, List.map_append, List.nodup_append, List.any_eq_false]
  constructor
  · rintro ⟨h1, _, h3⟩
    exact ⟨h1, fun x hx e => h3 _ (List.mem_map.2 ⟨x, hx, rfl⟩) l[k].1 (by simp) (by simpa using e)⟩
  · rintro ⟨h1, h2⟩
    refine ⟨h1, by simp, fun a ha b hb e => ?_⟩
    obtain ⟨x, hx, rfl⟩ := List.mem_map.1 ha
    simp at hb
    exact h2 x hx (by simpa using e.trans hb)
set_option maxHeartbeats 2000000 in
theorem mv_check_z {ex : Bool} {l : List MvT} {s : Int} (hb : l.length ≤ 100000000000000) (hK : ∀ e : Int, (e = 0 ↔ OkL l s) → K (Z64 e) H) :
    ZC (constX tb) (cFunc Try.prog) 33 [.fz 2 ex (l.map eMv), Z64 s] L H K := by
  refine ZC.enterL Gh.no constX_none f_mv_check (by simp) fun hL => ?_
  simp only [c_mv_check]
  have fin0 : ∀ (e : Int) X, (e = 0 ↔ OkL l s) → Fin H (Z64 e) (H ++ X) K := fun e X he => Fin.trunc (Mods.ext H X) rfl (by rw [List.take_left]; exact hK e he)
  have FN := Lib.hid fin0
  clear hK fin0
  by_cases h60 : l.length ≤ 60
  · have g60 : ¬ (60 : Int) < (l.length : Int) := by omega
    have H60 := Lib.hid h60
    have HB := Lib.hid hb
    clear h60 hb
    repeat' (first | (simp only [zmPack, zfree, owners, Nat.reduceLT, List.filter_cons, List.filter_nil, List.contains_cons, List.contains_nil, Nat.reduceBEq, Bool.or_false, Bool.or_true, Bool.false_or, Bool.true_or, BEq.rfl, chunk, setAt, List.lookup_cons, List.lookup_nil, ZV.val.injEq, ZV.ptr.injEq, ZV.own.injEq, ZV.fz.injEq, ZV.func.injEq, ZV.tuple.injEq, ZV.agg.injEq, ZB.box.injEq, ZB.grow.injEq, Bool.not_eq_false', Prod.mk.injEq, and_assoc, decide_false, decide_true, Bool.not_false, Bool.not_true, Bool.true_eq_false, Bool.false_eq_true, exists_false, Bool.not_eq_false, Bool.not_not, Value.bool.injEq, Value.int.injEq, Option.some.injEq, exists_eq_left', exists_eq_left, exists_and_left, exists_and_right, and_true, true_and, decide_eq_true_eq, decide_eq_false_iff_not, if_true, if_false, Bool.not_eq_true', beq_true, beq_false, ne_eq, not_true_eq_false, not_false_eq_true, reduceCtorEq, List.getD_cons_zero, List.getD_cons_succ, List.getD_nil, List.map_cons, List.map_nil, List.append_nil, Nat.reduceEqDiff, reduceIte, ite_true, ite_false, or_true, true_or, or_false, false_or, true_imp_iff, false_imp_iff, implies_true, imp_false, and_self, imp_self, and_false, false_and, forall_const, take_map_all, Nat.le_refl, Nat.reduceMul, Nat.reduceSub, List.length_cons, List.length_nil, List.length_map, List.length_set, List.all_cons, List.all_nil, Bool.and_self, Option.map_none, Option.map_some, List.set_cons_zero, List.set_cons_succ, Nat.lt_add_one, List.append_assoc, List.cons_append, List.nil_append, List.append_nil, List.length_append, List.take_zero, List.take_succ_cons, List.take_nil, List.drop_zero, List.drop_succ_cons, List.drop_nil, List.getElem?_cons_zero, List.getElem?_cons_succ, List.getElem?_map, Nat.reduceAdd, Nat.reduceLeDiff, Nat.add_eq_zero_iff, and_self, Nat.zero_add, Nat.add_zero, Nat.mul_one, Nat.one_mul, List.flatten_cons, List.flatten_nil, *]) | (simp only [zgoO, zgoG, zO_nil, zthen_normal, zgoC]) | (with_reducible apply And.intro) | (with_reducible intro _))
    have hlt : l.length < 9223372036854775807 := by have := H60.out; omega
    refine zW_forK [(0, .fz 2 ex (l.map eMv)), (3, .ptr H.length 0), (10, .fz 2 ex (l.map eMv))] l.length (fun k s' h' => NodM (l.take k) ∧ ∃ X, h' = H ++ (.box [Z64 s] :: X)) (by omega) ⟨rfl, rfl, rfl, rfl, rfl, rfl⟩ rfl rfl (by repeat' (first | exact trivial | (refine ⟨rfl, ?_⟩) | (refine ⟨by simp only [zupd_at, Nat.reduceEqDiff, reduceIte]; assumption, ?_⟩))) rfl rfl (by decide) ⟨by simp [NodM], [], rfl⟩ ?_ ?_
    · rintro k s' h' hk ⟨hnd, X, rfl⟩ hi hl ⟨f0, f3, f10, -⟩
      have hx : l[k]? = some l[k] := mv_get hk
      obtain ⟨q, hq⟩ : ∃ q, q = l[k] := ⟨_, rfl⟩
      have hnx := NodM.next hk
      rw [← hq] at hx hnx
      obtain ⟨q1, q2⟩ := q
      obtain ⟨ex2, hcut⟩ := mv_cut (e := eMv) (k := 2) (n := k) (ex := ex) (l := l) (by omega)
      have a0 : ∀ A C : ZB, (H ++ (A :: (X ++ [C])))[H.length + (X.length + 1)]? = some C := fun A C => mv_atX A C
      have s0 : ∀ A C D : ZB, (H ++ (A :: (X ++ [C]))).set (H.length + (X.length + 1)) D = H ++ (A :: (X ++ [D])) := fun A C D => mv_stX A C D
      have lx : L (H.length + (X.length + 1)) = true := hL _
      have HN := Lib.hid hnx
      have HD := Lib.hid hnd
      clear hq hnx hnd
      repeat' (first | (simp only [zmPack, zfree, owners, Nat.reduceLT, List.filter_cons, List.filter_nil, List.contains_cons, List.contains_nil, Nat.reduceBEq, Bool.or_false, Bool.or_true, Bool.false_or, Bool.true_or, BEq.rfl, chunk, setAt, List.lookup_cons, List.lookup_nil, ZV.val.injEq, ZV.ptr.injEq, ZV.own.injEq, ZV.fz.injEq, ZV.func.injEq, ZV.tuple.injEq, ZV.agg.injEq, ZB.box.injEq, ZB.grow.injEq, Bool.not_eq_false', Prod.mk.injEq, and_assoc, decide_false, decide_true, Bool.not_false, Bool.not_true, Bool.true_eq_false, Bool.false_eq_true, exists_false, Bool.not_eq_false, Bool.not_not, Value.bool.injEq, Value.int.injEq, Option.some.injEq, exists_eq_left', exists_eq_left, exists_and_left, exists_and_right, and_true, true_and, decide_eq_true_eq, decide_eq_false_iff_not, if_true, if_false, Bool.not_eq_true', beq_true, beq_false, ne_eq, not_true_eq_false, not_false_eq_true, reduceCtorEq, List.getD_cons_zero, List.getD_cons_succ, List.getD_nil, List.map_cons, List.map_nil, List.append_nil, Nat.reduceEqDiff, reduceIte, ite_true, ite_false, or_true, true_or, or_false, false_or, true_imp_iff, false_imp_iff, implies_true, imp_false, and_self, imp_self, and_false, false_and, forall_const, take_map_all, Nat.le_refl, Nat.reduceMul, Nat.reduceSub, List.length_cons, List.length_nil, List.length_map, List.length_set, List.all_cons, List.all_nil, Bool.and_self, Option.map_none, Option.map_some, List.set_cons_zero, List.set_cons_succ, Nat.lt_add_one, List.append_assoc, List.cons_append, List.nil_append, List.append_nil, List.length_append, List.take_zero, List.take_succ_cons, List.take_nil, List.drop_zero, List.drop_succ_cons, List.drop_nil, List.getElem?_cons_zero, List.getElem?_cons_succ, List.getElem?_map, Nat.reduceAdd, Nat.reduceLeDiff, Nat.add_eq_zero_iff, and_self, Nat.zero_add, Nat.add_zero, Nat.mul_one, Nat.one_mul, List.flatten_cons, List.flatten_nil, hx, a0, s0, lx, hcut, mv_num0, mv_num1, Option.bind_some, Option.isSome_none, *]) | (simp only [zgoO, zgoG, zO_nil, zthen_normal, zgoC]) | (with_reducible apply And.intro) | (with_reducible intro _))
      refine conf_z (l := l.take k) (p := fun x => decide (x.1 = q1)) rows_fz (by rw [List.length_take]; have := H60.out; omega) (fun m _ K2 k2 => checka_z (m := (q1, q2)) (mv_atX _ _) k2) ?_
      cases hany : (l.take k).any fun x => decide (x.1 = q1) with
      | true =>
        have hno : ¬ OkL l s := fun hok => by
          have h1 : NodM (l.take (k + 1)) := List.Nodup.sublist (List.Sublist.map _ (List.take_sublist _ _)) hok.2.1
          have := (HN.out.1 h1).2
          simp only at this
          rw [hany] at this; cases this
        have fin := fun X => FN.out 6 X (by simp [hno])
        clear hany hno
        repeat' (first | (simp only [zmPack, zfree, owners, Nat.reduceLT, List.filter_cons, List.filter_nil, List.contains_cons, List.contains_nil, Nat.reduceBEq, Bool.or_false, Bool.or_true, Bool.false_or, Bool.true_or, BEq.rfl, chunk, setAt, List.lookup_cons, List.lookup_nil, ZV.val.injEq, ZV.ptr.injEq, ZV.own.injEq, ZV.fz.injEq, ZV.func.injEq, ZV.tuple.injEq, ZV.agg.injEq, ZB.box.injEq, ZB.grow.injEq, Bool.not_eq_false', Prod.mk.injEq, and_assoc, decide_false, decide_true, Bool.not_false, Bool.not_true, Bool.true_eq_false, Bool.false_eq_true, exists_false, Bool.not_eq_false, Bool.not_not, Value.bool.injEq, Value.int.injEq, Option.some.injEq, exists_eq_left', exists_eq_left, exists_and_left, exists_and_right, and_true, true_and, decide_eq_true_eq, decide_eq_false_iff_not, if_true, if_false, Bool.not_eq_true', beq_true, beq_false, ne_eq, not_true_eq_false, not_false_eq_true, reduceCtorEq, List.getD_cons_zero, List.getD_cons_succ, List.getD_nil, List.map_cons, List.map_nil, List.append_nil, Nat.reduceEqDiff, reduceIte, ite_true, ite_false, or_true, true_or, or_false, false_or, true_imp_iff, false_imp_iff, implies_true, imp_false, and_self, imp_self, and_false, false_and, forall_const, take_map_all, Nat.le_refl, Nat.reduceMul, Nat.reduceSub, List.length_cons, List.length_nil, List.length_map, List.length_set, List.all_cons, List.all_nil, Bool.and_self, Option.map_none, Option.map_some, List.set_cons_zero, List.set_cons_succ, Nat.lt_add_one, List.append_assoc, List.cons_append, List.nil_append, List.append_nil, List.length_append, List.take_zero, List.take_succ_cons, List.take_nil, List.drop_zero, List.drop_succ_cons, List.drop_nil, List.getElem?_cons_zero, List.getElem?_cons_succ, List.getElem?_map, Nat.reduceAdd, Nat.reduceLeDiff, Nat.add_eq_zero_iff, and_self, Nat.zero_add, Nat.add_zero, Nat.mul_one, Nat.one_mul, List.flatten_cons, List.flatten_nil, *]) | (simp only [zgoO, zgoG, zO_nil, zthen_normal, zgoC]) | (with_reducible apply And.intro) | (with_reducible intro _))
      | false =>
        have fin : NodM (l.take (k + 1)) := HN.out.2 ⟨HD.out, hany⟩
        clear hany
        repeat' (first | (simp only [zmPack, zfree, owners, Nat.reduceLT, List.filter_cons, List.filter_nil, List.contains_cons, List.contains_nil, Nat.reduceBEq, Bool.or_false, Bool.or_true, Bool.false_or, Bool.true_or, BEq.rfl, chunk, setAt, List.lookup_cons, List.lookup_nil, ZV.val.injEq, ZV.ptr.injEq, ZV.own.injEq, ZV.fz.injEq, ZV.func.injEq, ZV.tuple.injEq, ZV.agg.injEq, ZB.box.injEq, ZB.grow.injEq, Bool.not_eq_false', Prod.mk.injEq, and_assoc, decide_false, decide_true, Bool.not_false, Bool.not_true, Bool.true_eq_false, Bool.false_eq_true, exists_false, Bool.not_eq_false, Bool.not_not, Value.bool.injEq, Value.int.injEq, Option.some.injEq, exists_eq_left', exists_eq_left, exists_and_left, exists_and_right, and_true, true_and, decide_eq_true_eq, decide_eq_false_iff_not, if_true, if_false, Bool.not_eq_true', beq_true, beq_false, ne_eq, not_true_eq_false, not_false_eq_true, reduceCtorEq, List.getD_cons_zero, List.getD_cons_succ, List.getD_nil, List.map_cons, List.map_nil, List.append_nil, Nat.reduceEqDiff, reduceIte, ite_true, ite_false, or_true, true_or, or_false, false_or, true_imp_iff, false_imp_iff, implies_true, imp_false, and_self, imp_self, and_false, false_and, forall_const, take_map_all, Nat.le_refl, Nat.reduceMul, Nat.reduceSub, List.length_cons, List.length_nil, List.length_map, List.length_set, List.all_cons, List.all_nil, Bool.and_self, Option.map_none, Option.map_some, List.set_cons_zero, List.set_cons_succ, Nat.lt_add_one, List.append_assoc, List.cons_append, List.nil_append, List.append_nil, List.length_append, List.take_zero, List.take_succ_cons, List.take_nil, List.drop_zero, List.drop_succ_cons, List.drop_nil, List.getElem?_cons_zero, List.getElem?_cons_succ, List.getElem?_map, Nat.reduceAdd, Nat.reduceLeDiff, Nat.add_eq_zero_iff, and_self, Nat.zero_add, Nat.add_zero, Nat.mul_one, Nat.one_mul, List.flatten_cons, List.flatten_nil, *]) | (simp only [zgoO, zgoG, zO_nil, zthen_normal, zgoC]) | (with_reducible apply And.intro) | (with_reducible intro _))
        all_goals first | exact ⟨_, rfl⟩ | exact ⟨fin, _, rfl⟩
    · rintro s' h' ⟨hnd, X, rfl⟩ ⟨f0, f3, f10, -⟩
      rw [List.take_of_length_le (Nat.le_refl _)] at hnd
      have HD := Lib.hid hnd
      clear hnd
      repeat' (first | (simp only [zmPack, zfree, owners, Nat.reduceLT, List.filter_cons, List.filter_nil, List.contains_cons, List.contains_nil, Nat.reduceBEq, Bool.or_false, Bool.or_true, Bool.false_or, Bool.true_or, BEq.rfl, chunk, setAt, List.lookup_cons, List.lookup_nil, ZV.val.injEq, ZV.ptr.injEq, ZV.own.injEq, ZV.fz.injEq, ZV.func.injEq, ZV.tuple.injEq, ZV.agg.injEq, ZB.box.injEq, ZB.grow.injEq, Bool.not_eq_false', Prod.mk.injEq, and_assoc, decide_false, decide_true, Bool.not_false, Bool.not_true, Bool.true_eq_false, Bool.false_eq_true, exists_false, Bool.not_eq_false, Bool.not_not, Value.bool.injEq, Value.int.injEq, Option.some.injEq, exists_eq_left', exists_eq_left, exists_and_left, exists_and_right, and_true, true_and, decide_eq_true_eq, decide_eq_false_iff_not, if_true, if_false, Bool.not_eq_true', beq_true, beq_false, ne_eq, not_true_eq_false, not_false_eq_true, reduceCtorEq, List.getD_cons_zero, List.getD_cons_succ, List.getD_nil, List.map_cons, List.map_nil, List.append_nil, Nat.reduceEqDiff, reduceIte, ite_true, ite_false, or_true, true_or, or_false, false_or, true_imp_iff, false_imp_iff, implies_true, imp_false, and_self, imp_self, and_false, false_and, forall_const, take_map_all, Nat.le_refl, Nat.reduceMul, Nat.reduceSub, List.length_cons, List.length_nil, List.length_map, List.length_set, List.all_cons, List.all_nil, Bool.and_self, Option.map_none, Option.map_some, List.set_cons_zero, List.set_cons_succ, Nat.lt_add_one, List.append_assoc, List.cons_append, List.nil_append, List.append_nil, List.length_append, List.take_zero, List.take_succ_cons, List.take_nil, List.drop_zero, List.drop_succ_cons, List.drop_nil, List.getElem?_cons_zero, List.getElem?_cons_succ, List.getElem?_map, Nat.reduceAdd, Nat.reduceLeDiff, Nat.add_eq_zero_iff, and_self, Nat.zero_add, Nat.add_zero, Nat.mul_one, Nat.one_mul, List.flatten_cons, List.flatten_nil, *]) | (simp only [zgoO, zgoG, zO_nil, zthen_normal, zgoC]) | (with_reducible apply And.intro) | (with_reducible intro _))
      refine conf_z (l := l) (p := fun x => decide (x.1 = s ∨ x.2 = s)) rows_fz HB.out (fun m _ K2 k2 => checkb_z (mv_at0 _ _) (by simp) k2) ?_
      cases hany : l.any fun x => decide (x.1 = s ∨ x.2 = s) with
      | true =>
        have hno : ¬ OkL l s := fun hok => by
          obtain ⟨x, hx, e⟩ := List.any_eq_true.1 hany
          have := hok.2.2 x hx
          simp at e
          rcases e with e | e
          · exact this.1 e
          · exact this.2 e
        have fin := fun X => FN.out 1 X (by simp [hno])
        clear hany hno
        repeat' (first | (simp only [zmPack, zfree, owners, Nat.reduceLT, List.filter_cons, List.filter_nil, List.contains_cons, List.contains_nil, Nat.reduceBEq, Bool.or_false, Bool.or_true, Bool.false_or, Bool.true_or, BEq.rfl, chunk, setAt, List.lookup_cons, List.lookup_nil, ZV.val.injEq, ZV.ptr.injEq, ZV.own.injEq, ZV.fz.injEq, ZV.func.injEq, ZV.tuple.injEq, ZV.agg.injEq, ZB.box.injEq, ZB.grow.injEq, Bool.not_eq_false', Prod.mk.injEq, and_assoc, decide_false, decide_true, Bool.not_false, Bool.not_true, Bool.true_eq_false, Bool.false_eq_true, exists_false, Bool.not_eq_false, Bool.not_not, Value.bool.injEq, Value.int.injEq, Option.some.injEq, exists_eq_left', exists_eq_left, exists_and_left, exists_and_right, and_true, true_and, decide_eq_true_eq, decide_eq_false_iff_not, if_true, if_false, Bool.not_eq_true', beq_true, beq_false, ne_eq, not_true_eq_false, not_false_eq_true, reduceCtorEq, List.getD_cons_zero, List.getD_cons_succ, List.getD_nil, List.map_cons, List.map_nil, List.append_nil, Nat.reduceEqDiff, reduceIte, ite_true, ite_false, or_true, true_or, or_false, false_or, true_imp_iff, false_imp_iff, implies_true, imp_false, and_self, imp_self, and_false, false_and, forall_const, take_map_all, Nat.le_refl, Nat.reduceMul, Nat.reduceSub, List.length_cons, List.length_nil, List.length_map, List.length_set, List.all_cons, List.all_nil, Bool.and_self, Option.map_none, Option.map_some, List.set_cons_zero, List.set_cons_succ, Nat.lt_add_one, List.append_assoc, List.cons_append, List.nil_append, List.append_nil, List.length_append, List.take_zero, List.take_succ_cons, List.take_nil, List.drop_zero, List.drop_succ_cons, List.drop_nil, List.getElem?_cons_zero, List.getElem?_cons_succ, List.getElem?_map, Nat.reduceAdd, Nat.reduceLeDiff, Nat.add_eq_zero_iff, and_self, Nat.zero_add, Nat.add_zero, Nat.mul_one, Nat.one_mul, List.flatten_cons, List.flatten_nil, *]) | (simp only [zgoO, zgoG, zO_nil, zthen_normal, zgoC]) | (with_reducible apply And.intro) | (with_reducible intro _))
      | false =>
        have hok : OkL l s := ⟨H60.out, HD.out, fun m hm => by
          have := List.any_eq_false.1 hany m hm
          simp at this; exact this⟩
        have fin := fun X => FN.out 0 X (by simp [hok])
        clear hany hok
        repeat' (first | (simp only [zmPack, zfree, owners, Nat.reduceLT, List.filter_cons, List.filter_nil, List.contains_cons, List.contains_nil, Nat.reduceBEq, Bool.or_false, Bool.or_true, Bool.false_or, Bool.true_or, BEq.rfl, chunk, setAt, List.lookup_cons, List.lookup_nil, ZV.val.injEq, ZV.ptr.injEq, ZV.own.injEq, ZV.fz.injEq, ZV.func.injEq, ZV.tuple.injEq, ZV.agg.injEq, ZB.box.injEq, ZB.grow.injEq, Bool.not_eq_false', Prod.mk.injEq, and_assoc, decide_false, decide_true, Bool.not_false, Bool.not_true, Bool.true_eq_false, Bool.false_eq_true, exists_false, Bool.not_eq_false, Bool.not_not, Value.bool.injEq, Value.int.injEq, Option.some.injEq, exists_eq_left', exists_eq_left, exists_and_left, exists_and_right, and_true, true_and, decide_eq_true_eq, decide_eq_false_iff_not, if_true, if_false, Bool.not_eq_true', beq_true, beq_false, ne_eq, not_true_eq_false, not_false_eq_true, reduceCtorEq, List.getD_cons_zero, List.getD_cons_succ, List.getD_nil, List.map_cons, List.map_nil, List.append_nil, Nat.reduceEqDiff, reduceIte, ite_true, ite_false, or_true, true_or, or_false, false_or, true_imp_iff, false_imp_iff, implies_true, imp_false, and_self, imp_self, and_false, false_and, forall_const, take_map_all, Nat.le_refl, Nat.reduceMul, Nat.reduceSub, List.length_cons, List.length_nil, List.length_map, List.length_set, List.all_cons, List.all_nil, Bool.and_self, Option.map_none, Option.map_some, List.set_cons_zero, List.set_cons_succ, Nat.lt_add_one, List.append_assoc, List.cons_append, List.nil_append, List.append_nil, List.length_append, List.take_zero, List.take_succ_cons, List.take_nil, List.drop_zero, List.drop_succ_cons, List.drop_nil, List.getElem?_cons_zero, List.getElem?_cons_succ, List.getElem?_map, Nat.reduceAdd, Nat.reduceLeDiff, Nat.add_eq_zero_iff, and_self, Nat.zero_add, Nat.add_zero, Nat.mul_one, Nat.one_mul, List.flatten_cons, List.flatten_nil, *]) | (simp only [zgoO, zgoG, zO_nil, zthen_normal, zgoC]) | (with_reducible apply And.intro) | (with_reducible intro _))
  · have g60 : (60 : Int) < (l.length : Int) := by omega
    have fin := fun X => FN.out 2 X (by simp [OkL, h60])
    clear h60 hb
    repeat' (first | (simp only [zmPack, zfree, owners, Nat.reduceLT, List.filter_cons, List.filter_nil, List.contains_cons, List.contains_nil, Nat.reduceBEq, Bool.or_false, Bool.or_true, Bool.false_or, Bool.true_or, BEq.rfl, chunk, setAt, List.lookup_cons, List.lookup_nil, ZV.val.injEq, ZV.ptr.injEq, ZV.own.injEq, ZV.fz.injEq, ZV.func.injEq, ZV.tuple.injEq, ZV.agg.injEq, ZB.box.injEq, ZB.grow.injEq, Bool.not_eq_false', Prod.mk.injEq, and_assoc, decide_false, decide_true, Bool.not_false, Bool.not_true, Bool.true_eq_false, Bool.false_eq_true, exists_false, Bool.not_eq_false, Bool.not_not, Value.bool.injEq, Value.int.injEq, Option.some.injEq, exists_eq_left', exists_eq_left, exists_and_left, exists_and_right, and_true, true_and, decide_eq_true_eq, decide_eq_false_iff_not, if_true, if_false, Bool.not_eq_true', beq_true, beq_false, ne_eq, not_true_eq_false, not_false_eq_true, reduceCtorEq, List.getD_cons_zero, List.getD_cons_succ, List.getD_nil, List.map_cons, List.map_nil, List.append_nil, Nat.reduceEqDiff, reduceIte, ite_true, ite_false, or_true, true_or, or_false, false_or, true_imp_iff, false_imp_iff, implies_true, imp_false, and_self, imp_self, and_false, false_and, forall_const, take_map_all, Nat.le_refl, Nat.reduceMul, Nat.reduceSub, List.length_cons, List.length_nil, List.length_map, List.length_set, List.all_cons, List.all_nil, Bool.and_self, Option.map_none, Option.map_some, List.set_cons_zero, List.set_cons_succ, Nat.lt_add_one, List.append_assoc, List.cons_append, List.nil_append, List.append_nil, List.length_append, List.take_zero, List.take_succ_cons, List.take_nil, List.drop_zero, List.drop_succ_cons, List.drop_nil, List.getElem?_cons_zero, List.getElem?_cons_succ, List.getElem?_map, Nat.reduceAdd, Nat.reduceLeDiff, Nat.add_eq_zero_iff, and_self, Nat.zero_add, Nat.add_zero, Nat.mul_one, Nat.one_mul, List.flatten_cons, List.flatten_nil, *]) | (simp only [zgoO, zgoG, zO_nil, zthen_normal, zgoC]) | (with_reducible apply And.intro) | (with_reducible intro _))
set_option maxHeartbeats 2000000 in
theorem freea_z {b g n i : Nat} {ex : Bool} {l : List MvT} {x : MvT} (hb : l.length ≤ 100000000000000) (hg : H[i]? = some (.box [.own b g 0 n ex])) (hr : ∀ X, rowsZ (H ++ X) 2 (.own b g 0 n ex) = some (l.map eMv)) (hK : K (ZBo (freeAt l x)) H) :
    ZC (constX tb) (cFunc Try.prog) 46 [zM x, .ptr i 0] L H K := by
  refine ZC.enterL Gh.no constX_none f_mv_freea (by simp) fun hL => ?_
  simp only [c_mv_freea]
  have fin : ∀ X, Fin H (ZBo (freeAt l x)) (H ++ X) K := fun X => Fin.trunc (Mods.ext H X) rfl (by rw [List.take_left]; exact hK)
  unfold freeAt at fin
  clear hK
  have hg2 : ∀ X, (H ++ X)[i]? = some (.box [.own b g 0 n ex]) := fun X => by rw [List.getElem?_append_left (lt_of_get hg)]; exact hg
  have hlt : ∀ n, i < H.length + n := fun n => by have := lt_of_get hg; omega
  have HR := Lib.hid hr
  have HB := Lib.hid hb
  clear hr hb
  obtain ⟨x1, x2⟩ := x
  repeat' (first | (simp only [zmPack, zfree, owners, Nat.reduceLT, List.filter_cons, List.filter_nil, List.contains_cons, List.contains_nil, Nat.reduceBEq, Bool.or_false, Bool.or_true, Bool.false_or, Bool.true_or, BEq.rfl, chunk, setAt, List.lookup_cons, List.lookup_nil, ZV.val.injEq, ZV.ptr.injEq, ZV.own.injEq, ZV.fz.injEq, ZV.func.injEq, ZV.tuple.injEq, ZV.agg.injEq, ZB.box.injEq, ZB.grow.injEq, Bool.not_eq_false', Prod.mk.injEq, and_assoc, decide_false, decide_true, Bool.not_false, Bool.not_true, Bool.true_eq_false, Bool.false_eq_true, exists_false, Bool.not_eq_false, Bool.not_not, Value.bool.injEq, Value.int.injEq, Option.some.injEq, exists_eq_left', exists_eq_left, exists_and_left, exists_and_right, and_true, true_and, decide_eq_true_eq, decide_eq_false_iff_not, if_true, if_false, Bool.not_eq_true', beq_true, beq_false, ne_eq, not_true_eq_false, not_false_eq_true, reduceCtorEq, List.getD_cons_zero, List.getD_cons_succ, List.getD_nil, List.map_cons, List.map_nil, List.append_nil, Nat.reduceEqDiff, reduceIte, ite_true, ite_false, or_true, true_or, or_false, false_or, true_imp_iff, false_imp_iff, implies_true, imp_false, and_self, imp_self, and_false, false_and, forall_const, take_map_all, Nat.le_refl, Nat.reduceMul, Nat.reduceSub, List.length_cons, List.length_nil, List.length_map, List.length_set, List.all_cons, List.all_nil, Bool.and_self, Option.map_none, Option.map_some, List.set_cons_zero, List.set_cons_succ, Nat.lt_add_one, List.append_assoc, List.cons_append, List.nil_append, List.append_nil, List.length_append, List.take_zero, List.take_succ_cons, List.take_nil, List.drop_zero, List.drop_succ_cons, List.drop_nil, List.getElem?_cons_zero, List.getElem?_cons_succ, List.getElem?_map, Nat.reduceAdd, Nat.reduceLeDiff, Nat.add_eq_zero_iff, and_self, Nat.zero_add, Nat.add_zero, Nat.mul_one, Nat.one_mul, List.flatten_cons, List.flatten_nil, hg, hg2, *]) | (simp only [zgoO, zgoG, zO_nil, zthen_normal, zgoC]) | (with_reducible apply And.intro) | (with_reducible intro _))
  refine conf_z (l := l) (p := fun y => decide (y ≠ (x1, x2) ∧ y.2 = x1)) (HR.out _) HB.out (fun m _ K2 k2 => freeb_z (m := (x1, x2)) (mv_at0 _ _) (by simp) k2) ?_
  repeat' (first | (simp only [zmPack, zfree, owners, Nat.reduceLT, List.filter_cons, List.filter_nil, List.contains_cons, List.contains_nil, Nat.reduceBEq, Bool.or_false, Bool.or_true, Bool.false_or, Bool.true_or, BEq.rfl, chunk, setAt, List.lookup_cons, List.lookup_nil, ZV.val.injEq, ZV.ptr.injEq, ZV.own.injEq, ZV.fz.injEq, ZV.func.injEq, ZV.tuple.injEq, ZV.agg.injEq, ZB.box.injEq, ZB.grow.injEq, Bool.not_eq_false', Prod.mk.injEq, and_assoc, decide_false, decide_true, Bool.not_false, Bool.not_true, Bool.true_eq_false, Bool.false_eq_true, exists_false, Bool.not_eq_false, Bool.not_not, Value.bool.injEq, Value.int.injEq, Option.some.injEq, exists_eq_left', exists_eq_left, exists_and_left, exists_and_right, and_true, true_and, decide_eq_true_eq, decide_eq_false_iff_not, if_true, if_false, Bool.not_eq_true', beq_true, beq_false, ne_eq, not_true_eq_false, not_false_eq_true, reduceCtorEq, List.getD_cons_zero, List.getD_cons_succ, List.getD_nil, List.map_cons, List.map_nil, List.append_nil, Nat.reduceEqDiff, reduceIte, ite_true, ite_false, or_true, true_or, or_false, false_or, true_imp_iff, false_imp_iff, implies_true, imp_false, and_self, imp_self, and_false, false_and, forall_const, take_map_all, Nat.le_refl, Nat.reduceMul, Nat.reduceSub, List.length_cons, List.length_nil, List.length_map, List.length_set, List.all_cons, List.all_nil, Bool.and_self, Option.map_none, Option.map_some, List.set_cons_zero, List.set_cons_succ, Nat.lt_add_one, List.append_assoc, List.cons_append, List.nil_append, List.append_nil, List.length_append, List.take_zero, List.take_succ_cons, List.take_nil, List.drop_zero, List.drop_succ_cons, List.drop_nil, List.getElem?_cons_zero, List.getElem?_cons_succ, List.getElem?_map, Nat.reduceAdd, Nat.reduceLeDiff, Nat.add_eq_zero_iff, and_self, Nat.zero_add, Nat.add_zero, Nat.mul_one, Nat.one_mul, List.flatten_cons, List.flatten_nil, *]) | (simp only [zgoO, zgoG, zO_nil, zthen_normal, zgoC]) | (with_reducible apply And.intro) | (with_reducible intro _))
set_option maxHeartbeats 2000000 in
theorem mv_free_z {b g n : Nat} {ex : Bool} {l : List MvT} (hb : l.length ≤ 100000000000000) (hr : ∀ X, rowsZ (H ++ X) 2 (.own b g 0 n ex) = some (l.map eMv)) (hK : K (Z64 (idxP (freeAt l) l)) H) :
    ZC (constX tb) (cFunc Try.prog) 37 [.own b g 0 n ex] L H K := by
  refine ZC.enterL Gh.no constX_none f_mv_free (by simp) fun hL => ?_
  simp only [c_mv_free]
  have fin : ∀ X, Fin H (Z64 (idxP (freeAt l) l)) (H ++ X) K := fun X => Fin.trunc (Mods.ext H X) rfl (by rw [List.take_left]; exact hK)
  clear hK
  have hld := fun X => rows_len (hr X)
  have HR := Lib.hid hr
  have HB := Lib.hid hb
  clear hr hb hld
  repeat' (first | (simp only [zmPack, zfree, owners, Nat.reduceLT, List.filter_cons, List.filter_nil, List.contains_cons, List.contains_nil, Nat.reduceBEq, Bool.or_false, Bool.or_true, Bool.false_or, Bool.true_or, BEq.rfl, chunk, setAt, List.lookup_cons, List.lookup_nil, ZV.val.injEq, ZV.ptr.injEq, ZV.own.injEq, ZV.fz.injEq, ZV.func.injEq, ZV.tuple.injEq, ZV.agg.injEq, ZB.box.injEq, ZB.grow.injEq, Bool.not_eq_false', Prod.mk.injEq, and_assoc, decide_false, decide_true, Bool.not_false, Bool.not_true, Bool.true_eq_false, Bool.false_eq_true, exists_false, Bool.not_eq_false, Bool.not_not, Value.bool.injEq, Value.int.injEq, Option.some.injEq, exists_eq_left', exists_eq_left, exists_and_left, exists_and_right, and_true, true_and, decide_eq_true_eq, decide_eq_false_iff_not, if_true, if_false, Bool.not_eq_true', beq_true, beq_false, ne_eq, not_true_eq_false, not_false_eq_true, reduceCtorEq, List.getD_cons_zero, List.getD_cons_succ, List.getD_nil, List.map_cons, List.map_nil, List.append_nil, Nat.reduceEqDiff, reduceIte, ite_true, ite_false, or_true, true_or, or_false, false_or, true_imp_iff, false_imp_iff, implies_true, imp_false, and_self, imp_self, and_false, false_and, forall_const, take_map_all, Nat.le_refl, Nat.reduceMul, Nat.reduceSub, List.length_cons, List.length_nil, List.length_map, List.length_set, List.all_cons, List.all_nil, Bool.and_self, Option.map_none, Option.map_some, List.set_cons_zero, List.set_cons_succ, Nat.lt_add_one, List.append_assoc, List.cons_append, List.nil_append, List.append_nil, List.length_append, List.take_zero, List.take_succ_cons, List.take_nil, List.drop_zero, List.drop_succ_cons, List.drop_nil, List.getElem?_cons_zero, List.getElem?_cons_succ, List.getElem?_map, Nat.reduceAdd, Nat.reduceLeDiff, Nat.add_eq_zero_iff, and_self, Nat.zero_add, Nat.add_zero, Nat.mul_one, Nat.one_mul, List.flatten_cons, List.flatten_nil, mv_at0, *]) | (simp only [zgoO, zgoG, zO_nil, zthen_normal, zgoC]) | (with_reducible apply And.intro) | (with_reducible intro _))
  refine idxf_z (l := l) (p := freeAt l) (HR.out _) HB.out (fun m _ K2 k2 => freea_z HB.out (mv_at0 _ _) (fun X => by rw [List.append_assoc]; exact HR.out _) k2) ?_
  repeat' (first | (simp only [zmPack, zfree, owners, Nat.reduceLT, List.filter_cons, List.filter_nil, List.contains_cons, List.contains_nil, Nat.reduceBEq, Bool.or_false, Bool.or_true, Bool.false_or, Bool.true_or, BEq.rfl, chunk, setAt, List.lookup_cons, List.lookup_nil, ZV.val.injEq, ZV.ptr.injEq, ZV.own.injEq, ZV.fz.injEq, ZV.func.injEq, ZV.tuple.injEq, ZV.agg.injEq, ZB.box.injEq, ZB.grow.injEq, Bool.not_eq_false', Prod.mk.injEq, and_assoc, decide_false, decide_true, Bool.not_false, Bool.not_true, Bool.true_eq_false, Bool.false_eq_true, exists_false, Bool.not_eq_false, Bool.not_not, Value.bool.injEq, Value.int.injEq, Option.some.injEq, exists_eq_left', exists_eq_left, exists_and_left, exists_and_right, and_true, true_and, decide_eq_true_eq, decide_eq_false_iff_not, if_true, if_false, Bool.not_eq_true', beq_true, beq_false, ne_eq, not_true_eq_false, not_false_eq_true, reduceCtorEq, List.getD_cons_zero, List.getD_cons_succ, List.getD_nil, List.map_cons, List.map_nil, List.append_nil, Nat.reduceEqDiff, reduceIte, ite_true, ite_false, or_true, true_or, or_false, false_or, true_imp_iff, false_imp_iff, implies_true, imp_false, and_self, imp_self, and_false, false_and, forall_const, take_map_all, Nat.le_refl, Nat.reduceMul, Nat.reduceSub, List.length_cons, List.length_nil, List.length_map, List.length_set, List.all_cons, List.all_nil, Bool.and_self, Option.map_none, Option.map_some, List.set_cons_zero, List.set_cons_succ, Nat.lt_add_one, List.append_assoc, List.cons_append, List.nil_append, List.append_nil, List.length_append, List.take_zero, List.take_succ_cons, List.take_nil, List.drop_zero, List.drop_succ_cons, List.drop_nil, List.getElem?_cons_zero, List.getElem?_cons_succ, List.getElem?_map, Nat.reduceAdd, Nat.reduceLeDiff, Nat.add_eq_zero_iff, and_self, Nat.zero_add, Nat.add_zero, Nat.mul_one, Nat.one_mul, List.flatten_cons, List.flatten_nil, *]) | (simp only [zgoO, zgoG, zO_nil, zthen_normal, zgoC]) | (with_reducible apply And.intro) | (with_reducible intro _))
theorem clmove_z {ex : Bool} {a : MvT} {r : List MvT} (hr : (a :: r).length * 16 ≤ reach) (hK : K (.own H.length 0 0 (a :: r).length false) (H ++ [.grow 0 2 ((a :: r).map eMv)])) : ZC (constX tb) (cFunc Try.prog) 35 [.fz 2 ex ((a :: r).map eMv)] L H K := by
  refine ZC.enter Gh.no constX_none f_s_clmove (by simp) ?_
  simp only [c_s_clmove]
  obtain ⟨rows, hrows⟩ : ∃ rows, rows = (a :: r).map eMv := ⟨_, rfl⟩
  have hl : rows.length = (a :: r).length := by rw [hrows]; simp
  have hnn : ∀ H, nilZ H 0 (.fz 2 ex rows) = some false := fun H => by rw [hrows]; rfl
  have hne : ∀ k ex2, (ZV.fz 2 ex rows = .fz k ex2 []) ↔ False := fun k ex2 => by rw [hrows]; simp
  have hap : ∀ L H v H', appZ L H 2 16 rows (.fz 2 true []) = some (v, H') ↔ .own H.length 0 0 (a :: r).length false = v ∧ H ++ [.grow 0 2 rows] = H' := fun L H v H' => by
    simp only [appZ]
    rw [if_pos ⟨trivial, by rw [hl]; simpa using hr⟩, if_neg (by rw [hrows]; simp)]
    simp [hl]
  rw [← hrows] at hK ⊢
  obtain ⟨n, hn⟩ : ∃ n, n = (a :: r).length := ⟨_, rfl⟩
  rw [← hn] at hap hK
  have fin := Fin.keep (H0 := H) hK
  clear hK hrows hl hr hn
  repeat' (first | (simp only [zmPack, zfree, owners, Nat.reduceLT, List.filter_cons, List.filter_nil, List.contains_cons, List.contains_nil, Nat.reduceBEq, Bool.or_false, Bool.or_true, Bool.false_or, Bool.true_or, BEq.rfl, chunk, setAt, List.lookup_cons, List.lookup_nil, ZV.val.injEq, ZV.ptr.injEq, ZV.own.injEq, ZV.fz.injEq, ZV.func.injEq, ZV.tuple.injEq, ZV.agg.injEq, ZB.box.injEq, ZB.grow.injEq, Bool.not_eq_false', Prod.mk.injEq, and_assoc, decide_false, decide_true, Bool.not_false, Bool.not_true, Bool.true_eq_false, Bool.false_eq_true, exists_false, Bool.not_eq_false, Bool.not_not, Value.bool.injEq, Value.int.injEq, Option.some.injEq, exists_eq_left', exists_eq_left, exists_and_left, exists_and_right, and_true, true_and, decide_eq_true_eq, decide_eq_false_iff_not, if_true, if_false, Bool.not_eq_true', beq_true, beq_false, ne_eq, not_true_eq_false, not_false_eq_true, reduceCtorEq, List.getD_cons_zero, List.getD_cons_succ, List.getD_nil, List.map_cons, List.map_nil, List.append_nil, Nat.reduceEqDiff, reduceIte, ite_true, ite_false, or_true, true_or, or_false, false_or, true_imp_iff, false_imp_iff, implies_true, imp_false, and_self, imp_self, and_false, false_and, forall_const, take_map_all, Nat.le_refl, Nat.reduceMul, Nat.reduceSub, List.length_cons, List.length_nil, List.length_map, List.length_set, List.all_cons, List.all_nil, Bool.and_self, Option.map_none, Option.map_some, List.set_cons_zero, List.set_cons_succ, Nat.lt_add_one, List.append_assoc, List.cons_append, List.nil_append, List.append_nil, List.length_append, List.take_zero, List.take_succ_cons, List.take_nil, List.drop_zero, List.drop_succ_cons, List.drop_nil, List.getElem?_cons_zero, List.getElem?_cons_succ, List.getElem?_map, Nat.reduceAdd, Nat.reduceLeDiff, Nat.add_eq_zero_iff, and_self, Nat.zero_add, Nat.add_zero, Nat.mul_one, Nat.one_mul, List.flatten_cons, List.flatten_nil, hnn, hap, hne, *]) | (simp only [zgoO, zgoG, zO_nil, zthen_normal, zgoC]) | (with_reducible apply And.intro) | (with_reducible intro _))
theorem clmove_0 {ex : Bool} (hK : K (.fz 2 false []) H) (hK2 : K .nil H) : ZC (constX tb) (cFunc Try.prog) 35 [.fz 2 ex []] L H K := by
  refine ZC.enter Gh.no constX_none f_s_clmove (by simp) ?_
  simp only [c_s_clmove]
  have fin1 : Fin H .nil H K := Fin.keep hK2
  have fin2 : Fin H (.fz 2 true []) H K := fun fl L w w' a r e r' e' he hz => Fin.keep hK fl L w w' a r e r' e' he (by
    have hf := hz.fz_inv
    refine .fr ?_
    cases hf with
    | fnil h => rcases h with rfl | ⟨rfl, _⟩; exact .fnil (.inl rfl); exact .fnil (.inr ⟨rfl, rfl⟩)
    | fz cell h1 h2 h3 h4 h5 h6 h7 h8 => exact .fz cell h1 h2 h3 h4 (fun h => by cases h) h6 h7 h8)
  have hnz : ∀ b, nilZ H 0 (.fz 2 ex []) = some b ↔ False := fun b => by simp [nilZ]
  have hap : ∀ L H v H', appZ L H 2 16 [] (.fz 2 true []) = some (v, H') ↔ .fz 2 true [] = v ∧ H = H' := fun L H v H' => by
    simp only [appZ]
    rw [if_pos ⟨trivial, by simp⟩]
    simp
  clear hK hK2
  repeat' (first | (simp only [zmPack, zfree, owners, Nat.reduceLT, List.filter_cons, List.filter_nil, List.contains_cons, List.contains_nil, Nat.reduceBEq, Bool.or_false, Bool.or_true, Bool.false_or, Bool.true_or, BEq.rfl, chunk, setAt, List.lookup_cons, List.lookup_nil, ZV.val.injEq, ZV.ptr.injEq, ZV.own.injEq, ZV.fz.injEq, ZV.func.injEq, ZV.tuple.injEq, ZV.agg.injEq, ZB.box.injEq, ZB.grow.injEq, Bool.not_eq_false', Prod.mk.injEq, and_assoc, decide_false, decide_true, Bool.not_false, Bool.not_true, Bool.true_eq_false, Bool.false_eq_true, exists_false, Bool.not_eq_false, Bool.not_not, Value.bool.injEq, Value.int.injEq, Option.some.injEq, exists_eq_left', exists_eq_left, exists_and_left, exists_and_right, and_true, true_and, decide_eq_true_eq, decide_eq_false_iff_not, if_true, if_false, Bool.not_eq_true', beq_true, beq_false, ne_eq, not_true_eq_false, not_false_eq_true, reduceCtorEq, List.getD_cons_zero, List.getD_cons_succ, List.getD_nil, List.map_cons, List.map_nil, List.append_nil, Nat.reduceEqDiff, reduceIte, ite_true, ite_false, or_true, true_or, or_false, false_or, true_imp_iff, false_imp_iff, implies_true, imp_false, and_self, imp_self, and_false, false_and, forall_const, take_map_all, Nat.le_refl, Nat.reduceMul, Nat.reduceSub, List.length_cons, List.length_nil, List.length_map, List.length_set, List.all_cons, List.all_nil, Bool.and_self, Option.map_none, Option.map_some, List.set_cons_zero, List.set_cons_succ, Nat.lt_add_one, List.append_assoc, List.cons_append, List.nil_append, List.append_nil, List.length_append, List.take_zero, List.take_succ_cons, List.take_nil, List.drop_zero, List.drop_succ_cons, List.drop_nil, List.getElem?_cons_zero, List.getElem?_cons_succ, List.getElem?_map, Nat.reduceAdd, Nat.reduceLeDiff, Nat.add_eq_zero_iff, and_self, Nat.zero_add, Nat.add_zero, Nat.mul_one, Nat.one_mul, List.flatten_cons, List.flatten_nil, hnz, hap, *]) | (simp only [zgoO, zgoG, zO_nil, zthen_normal, zgoC]) | (with_reducible apply And.intro) | (with_reducible intro _))
  exact ⟨_, rfl⟩
end Go.Proofs.Ytmecaddjeljliaa
