/-
  AM's code of functions, written by am/amprint.lean.
-/
import Derived.KernelRfl
import Derived.Test.YtoeppobpnhlebaaMrA4
import Derived.Test.YtoeppobpnhlebaaMrA6
namespace Go.Proofs.Ytoeppobpnhlebaa
open Go Go.RowKit
set_option linter.unusedVariables false
/-- backstitch/backstitchkeep3.LiveLoops: its code in AM. -/
def c_li_loops : ACode := .seq (.ops [⟨(some 1), .box 13 (.tmp 0), none, true⟩,
      ⟨(some 2), .mv (.av (.val (.bool false))), none, true⟩])
  (.seq (.seq (.ops [⟨(some 12), .call (.av (.func 9 [])) [], none, true⟩,
      ⟨(some 13), .un .not (.tmp 12), none, true⟩])
  (.cond (.tmp 13)
    (.seq (.ops [⟨(some 2), .mv (.av (.val (.bool false))), none, true⟩])
    (.ret))
    (.skip)))
  (.seq (.ops [⟨(some 15), .load (some 13) (.tmp 1), none, true⟩,
      ⟨(some 16), .call (.av (.func 10 [])) [(.tmp 15)], none, true⟩,
      ⟨(some 14), .mv (.tmp 16), none, true⟩,
      ⟨(some 17), .extract 0 (.tmp 14), none, true⟩,
      ⟨(some 18), .extract 1 (.tmp 14), none, true⟩,
      ⟨(some 3), .mv (.tmp 17), none, true⟩,
      ⟨(some 4), .mv (.tmp 18), none, true⟩])
  (.seq (.seq (.ops [⟨(some 19), .mv (.tmp 4), none, true⟩,
      ⟨(some 20), .bin .neq (.tmp 19) (.av (.val (.int .i64 0))), none, true⟩])
  (.cond (.tmp 20)
    (.seq (.ops [⟨(some 21), .call (.av (.func 9 [])) [], none, true⟩,
        ⟨(some 2), .mv (.tmp 21), none, true⟩])
    (.ret))
    (.skip)))
  (.seq (.seq (.ops [⟨(some 22), .fieldAddr 2 (.tmp 1), none, true⟩,
      ⟨(some 23), .load none (.tmp 22), none, true⟩,
      ⟨(some 5), .mv (.tmp 23), none, true⟩])
  (.block 0 (.loop (.seq (.seq (.ops [⟨(some 24), .mv (.tmp 5), none, true⟩,
        ⟨(some 25), .fieldAddr 3 (.tmp 1), none, true⟩,
        ⟨(some 26), .load none (.tmp 25), none, true⟩,
        ⟨(some 27), .len (.tmp 26), none, true⟩,
        ⟨(some 28), .bin .lss (.tmp 24) (.tmp 27), none, true⟩])
    (.cond (.tmp 28)
      (.skip)
      (.exit 0)))
    (.seq (.block 1 (.seq (.ops [⟨(some 31), .fieldAddr 3 (.tmp 1), none, true⟩,
         ⟨(some 32), .load none (.tmp 31), none, true⟩,
         ⟨(some 33), .mv (.tmp 5), none, true⟩,
         ⟨(some 34), .indexAddr 8 (.tmp 32) (.tmp 33), none, true⟩,
         ⟨(some 35), .load (some 8) (.tmp 34), none, true⟩,
         ⟨(some 36), .call (.av (.func 11 [])) [(.tmp 35)], none, true⟩,
         ⟨(some 37), .len (.tmp 36), none, true⟩,
         ⟨(some 38), .mv (.av (.val (.int .i64 0))), none, true⟩])
     (rangeCode 2 3 39 38 37 57
       (.seq (.ops [⟨(some 40), .indexAddr 1 (.tmp 36) (.tmp 38), none, true⟩,
           ⟨(some 41), .load none (.tmp 40), none, true⟩,
           ⟨(some 7), .mv (.tmp 41), none, true⟩])
       (.seq (.opsD [⟨(some 42), .mv (.tmp 7), none, true⟩,
           ⟨(some 43), .fieldAddr 2 (.tmp 1), none, true⟩,
           ⟨(some 44), .load none (.tmp 43), none, true⟩,
           ⟨(some 45), .bin .lss (.tmp 42) (.tmp 44), none, true⟩,
           ⟨(some 46), .mv (.tmp 45), none, true⟩,
           ⟨(some 47), .mv (.tmp 3), (some (46, true)), true⟩,
           ⟨(some 48), .mv (.tmp 7), (some (46, true)), true⟩,
           ⟨(some 49), .indexAddr 2 (.tmp 47) (.tmp 48), (some (46, true)), true⟩,
           ⟨(some 50), .fieldAddr 1 (.tmp 49), (some (46, true)), true⟩,
           ⟨(some 51), .load none (.tmp 50), (some (46, true)), true⟩,
           ⟨(some 52), .fieldAddr 3 (.tmp 1), (some (46, true)), true⟩,
           ⟨(some 53), .load none (.tmp 52), (some (46, true)), true⟩,
           ⟨(some 54), .len (.tmp 53), (some (46, true)), true⟩,
           ⟨(some 55), .bin .neq (.tmp 51) (.tmp 54), (some (46, true)), true⟩,
           ⟨(some 56), .pick (.tmp 46) (.tmp 55) (.av (.val (.bool false))), none, true⟩])
       (.cond (.tmp 56)
         (.seq (.ops [⟨(some 2), .mv (.av (.val (.bool false))), none, true⟩])
         (.ret))
         (.skip)))))))
    (.ops [⟨(some 29), .mv (.tmp 5), none, true⟩,
        ⟨(some 30), .bin .add (.tmp 29) (.av (.val (.int .i64 1))), none, true⟩,
        ⟨(some 5), .mv (.tmp 30), none, true⟩]))))))
  (.seq (.ops [⟨(some 58), .load (some 13) (.tmp 1), none, true⟩,
      ⟨(some 8), .zero [(.val (.int .i64 0)), (.val (.int .i64 0)), (.val (.int .i64 0)), (.val (.slice none 0 0)), (.val (.slice none 0 0)), (.val (.int .i64 0)), (.val (.int .i64 0)), (.val (.slice none 0 0)), (.val (.slice none 0 0)), (.val (.int .i64 0)), (.val (.int .i64 0)), (.val (.slice none 0 0)), (.val (.slice none 0 0))], none, true⟩,
      ⟨none, .store 13 (.tmp 8) (.tmp 58), none, true⟩])
  (.seq (.ops [⟨(some 59), .fieldAddr 2 (.tmp 8), none, true⟩,
      ⟨none, .store 1 (.tmp 59) (.av (.val (.int .i64 0))), none, true⟩])
  (.seq (.ops [⟨(some 61), .load (some 13) (.tmp 8), none, true⟩,
      ⟨(some 62), .call (.av (.func 10 [])) [(.tmp 61)], none, true⟩,
      ⟨(some 60), .mv (.tmp 62), none, true⟩,
      ⟨(some 63), .extract 0 (.tmp 60), none, true⟩,
      ⟨(some 64), .extract 1 (.tmp 60), none, true⟩,
      ⟨(some 9), .mv (.tmp 63), none, true⟩,
      ⟨(some 10), .mv (.tmp 64), none, true⟩])
  (.seq (.seq (.ops [⟨(some 65), .mv (.tmp 10), none, true⟩,
      ⟨(some 66), .bin .neq (.tmp 65) (.av (.val (.int .i64 0))), none, true⟩,
      ⟨(some 67), .mv (.tmp 66), none, true⟩,
      ⟨(some 68), .mv (.tmp 9), (some (67, false)), true⟩,
      ⟨(some 69), .len (.tmp 68), (some (67, false)), true⟩,
      ⟨(some 70), .mv (.tmp 3), (some (67, false)), true⟩,
      ⟨(some 71), .len (.tmp 70), (some (67, false)), true⟩,
      ⟨(some 72), .bin .neq (.tmp 69) (.tmp 71), (some (67, false)), true⟩,
      ⟨(some 73), .pick (.tmp 67) (.av (.val (.bool true))) (.tmp 72), none, true⟩])
  (.cond (.tmp 73)
    (.seq (.ops [⟨(some 2), .mv (.av (.val (.bool false))), none, true⟩])
    (.ret))
    (.skip)))
  (.seq (.seq (.ops [⟨(some 74), .mv (.tmp 3), none, true⟩,
      ⟨(some 75), .len (.tmp 74), none, true⟩,
      ⟨(some 76), .mv (.av (.val (.int .i64 0))), none, true⟩])
  (rangeCode 4 5 77 76 75 90
    (.seq (.ops [⟨(some 78), .mv (.tmp 76), none, true⟩,
        ⟨(some 11), .mv (.tmp 78), none, true⟩])
    (.seq (.opsD [⟨(some 79), .mv (.tmp 9), none, true⟩,
        ⟨(some 80), .mv (.tmp 11), none, true⟩,
        ⟨(some 81), .indexAddr 2 (.tmp 79) (.tmp 80), none, true⟩,
        ⟨(some 82), .fieldAddr 1 (.tmp 81), none, true⟩,
        ⟨(some 83), .load none (.tmp 82), none, true⟩,
        ⟨(some 84), .mv (.tmp 3), none, true⟩,
        ⟨(some 85), .mv (.tmp 11), none, true⟩,
        ⟨(some 86), .indexAddr 2 (.tmp 84) (.tmp 85), none, true⟩,
        ⟨(some 87), .fieldAddr 1 (.tmp 86), none, true⟩,
        ⟨(some 88), .load none (.tmp 87), none, true⟩,
        ⟨(some 89), .bin .gtr (.tmp 83) (.tmp 88), none, true⟩])
    (.cond (.tmp 89)
      (.seq (.ops [⟨(some 2), .mv (.av (.val (.bool false))), none, true⟩])
      (.ret))
      (.skip))))))
  (.seq (.ops [⟨(some 91), .call (.av (.func 9 [])) [], none, true⟩,
      ⟨(some 2), .mv (.tmp 91), none, true⟩])
  (.ret)))))))))))
theorem f_li_loops : cFunc Try.prog 3 = some ⟨92, c_li_loops, [.tmp 2]⟩ := by kernel_rfl
/-- backstitch/backstitchkeep3.LiveLast: its code in AM. -/
def c_li_last : ACode := .seq (.ops [⟨(some 1), .box 13 (.tmp 0), none, true⟩,
      ⟨(some 2), .mv (.av (.val (.bool false))), none, true⟩])
  (.seq (.seq (.ops [⟨(some 13), .call (.av (.func 9 [])) [], none, true⟩,
      ⟨(some 14), .un .not (.tmp 13), none, true⟩])
  (.cond (.tmp 14)
    (.seq (.ops [⟨(some 2), .mv (.av (.val (.bool false))), none, true⟩])
    (.ret))
    (.skip)))
  (.seq (.ops [⟨(some 16), .load (some 13) (.tmp 1), none, true⟩,
      ⟨(some 17), .call (.av (.func 10 [])) [(.tmp 16)], none, true⟩,
      ⟨(some 15), .mv (.tmp 17), none, true⟩,
      ⟨(some 18), .extract 0 (.tmp 15), none, true⟩,
      ⟨(some 19), .extract 1 (.tmp 15), none, true⟩,
      ⟨(some 3), .mv (.tmp 18), none, true⟩,
      ⟨(some 4), .mv (.tmp 19), none, true⟩])
  (.seq (.seq (.ops [⟨(some 20), .mv (.tmp 4), none, true⟩,
      ⟨(some 21), .bin .neq (.tmp 20) (.av (.val (.int .i64 0))), none, true⟩])
  (.cond (.tmp 21)
    (.seq (.ops [⟨(some 22), .call (.av (.func 9 [])) [], none, true⟩,
        ⟨(some 23), .mv (.tmp 22), none, true⟩,
        ⟨(some 24), .mv (.tmp 3), (some (23, true)), true⟩,
        ⟨(some 25), .len (.tmp 24), (some (23, true)), true⟩,
        ⟨(some 26), .bin .eql (.tmp 25) (.av (.val (.int .i64 0))), (some (23, true)), true⟩,
        ⟨(some 27), .pick (.tmp 23) (.tmp 26) (.av (.val (.bool false))), none, true⟩,
        ⟨(some 2), .mv (.tmp 27), none, true⟩])
    (.ret))
    (.skip)))
  (.seq (.ops [⟨(some 28), .mv (.tmp 3), none, true⟩,
      ⟨(some 29), .len (.tmp 28), none, true⟩,
      ⟨(some 30), .mkSlice 1 1 [(.val (.bool false))] (.tmp 29) (.tmp 29), none, true⟩,
      ⟨(some 5), .mv (.tmp 30), none, true⟩])
  (.seq (.seq (.ops [⟨(some 31), .fieldAddr 3 (.tmp 1), none, true⟩,
      ⟨(some 32), .load none (.tmp 31), none, true⟩,
      ⟨(some 33), .len (.tmp 32), none, true⟩,
      ⟨(some 34), .mv (.av (.val (.int .i64 0))), none, true⟩])
  (rangeCode 0 1 35 34 33 92
    (.seq (.ops [⟨(some 36), .mv (.tmp 34), none, true⟩,
        ⟨(some 37), .indexAddr 8 (.tmp 32) (.tmp 34), none, true⟩,
        ⟨(some 38), .load (some 8) (.tmp 37), none, true⟩,
        ⟨(some 7), .zero [(.val (.int .i64 0)), (.val (.int .i64 0)), (.val (.int .i64 0)), (.val (.int .i64 0)), (.val (.int .i64 0)), (.val (.int .i64 0)), (.val (.int .i64 0)), (.val (.int .i64 0))], none, true⟩,
        ⟨(some 6), .mv (.tmp 36), none, true⟩,
        ⟨none, .store 8 (.tmp 7) (.tmp 38), none, true⟩])
    (.seq (.ops [⟨(some 39), .load (some 8) (.tmp 7), none, true⟩,
        ⟨(some 40), .call (.av (.func 11 [])) [(.tmp 39)], none, true⟩,
        ⟨(some 8), .mv (.tmp 40), none, true⟩])
    (.seq (.seq (.ops [⟨(some 41), .fieldAddr 5 (.tmp 7), none, true⟩,
        ⟨(some 42), .load none (.tmp 41), none, true⟩,
        ⟨(some 43), .bin .geq (.tmp 42) (.av (.val (.int .i64 0))), none, true⟩])
    (.cond (.tmp 43)
      (.ops [⟨(some 44), .mv (.tmp 8), none, true⟩,
          ⟨(some 45), .fieldAddr 4 (.tmp 1), none, true⟩,
          ⟨(some 46), .load none (.tmp 45), none, true⟩,
          ⟨(some 47), .fieldAddr 5 (.tmp 7), none, true⟩,
          ⟨(some 48), .load none (.tmp 47), none, true⟩,
          ⟨(some 49), .indexAddr 4 (.tmp 46) (.tmp 48), none, true⟩,
          ⟨(some 50), .load (some 4) (.tmp 49), none, true⟩,
          ⟨(some 51), .call (.av (.func 12 [])) [(.tmp 50)], none, true⟩,
          ⟨(some 52), .append 1 8 (.tmp 44) (.tmp 51), none, true⟩,
          ⟨(some 8), .mv (.tmp 52), none, true⟩])
      (.skip)))
    (.seq (.ops [⟨(some 53), .mv (.tmp 8), none, true⟩,
        ⟨(some 54), .len (.tmp 53), none, true⟩,
        ⟨(some 55), .mv (.av (.val (.int .i64 0))), none, true⟩])
    (rangeCode 2 3 56 55 54 91
      (.seq (.ops [⟨(some 57), .indexAddr 1 (.tmp 53) (.tmp 55), none, true⟩,
          ⟨(some 58), .load none (.tmp 57), none, true⟩,
          ⟨(some 10), .mv (.tmp 58), none, true⟩])
      (.seq (.seq (.ops [⟨(some 59), .mv (.tmp 3), none, true⟩,
          ⟨(some 60), .mv (.tmp 10), none, true⟩,
          ⟨(some 61), .indexAddr 2 (.tmp 59) (.tmp 60), none, true⟩,
          ⟨(some 62), .fieldAddr 0 (.tmp 61), none, true⟩,
          ⟨(some 63), .load none (.tmp 62), none, true⟩,
          ⟨(some 64), .mv (.tmp 10), none, true⟩,
          ⟨(some 65), .bin .neq (.tmp 63) (.tmp 64), none, true⟩,
          ⟨(some 66), .mv (.tmp 65), none, true⟩,
          ⟨(some 67), .mv (.tmp 3), (some (66, false)), true⟩,
          ⟨(some 68), .mv (.tmp 10), (some (66, false)), true⟩,
          ⟨(some 69), .indexAddr 2 (.tmp 67) (.tmp 68), (some (66, false)), true⟩,
          ⟨(some 70), .fieldAddr 1 (.tmp 69), (some (66, false)), true⟩,
          ⟨(some 71), .load none (.tmp 70), (some (66, false)), true⟩,
          ⟨(some 72), .mv (.tmp 6), (some (66, false)), true⟩,
          ⟨(some 73), .bin .lss (.tmp 71) (.tmp 72), (some (66, false)), true⟩,
          ⟨(some 74), .pick (.tmp 66) (.av (.val (.bool true))) (.tmp 73), none, true⟩])
      (.cond (.tmp 74)
        (.seq (.ops [⟨(some 2), .mv (.av (.val (.bool false))), none, true⟩])
        (.ret))
        (.skip)))
      (.ops [⟨(some 75), .mv (.tmp 5), none, true⟩,
          ⟨(some 76), .mv (.tmp 10), none, true⟩,
          ⟨(some 77), .mv (.tmp 5), none, true⟩,
          ⟨(some 78), .mv (.tmp 10), none, true⟩,
          ⟨(some 79), .indexAddr 1 (.tmp 77) (.tmp 78), none, true⟩,
          ⟨(some 80), .load none (.tmp 79), none, true⟩,
          ⟨(some 81), .mv (.tmp 80), none, true⟩,
          ⟨(some 82), .mv (.tmp 3), (some (81, false)), true⟩,
          ⟨(some 83), .mv (.tmp 10), (some (81, false)), true⟩,
          ⟨(some 84), .indexAddr 2 (.tmp 82) (.tmp 83), (some (81, false)), true⟩,
          ⟨(some 85), .fieldAddr 1 (.tmp 84), (some (81, false)), true⟩,
          ⟨(some 86), .load none (.tmp 85), (some (81, false)), true⟩,
          ⟨(some 87), .mv (.tmp 6), (some (81, false)), true⟩,
          ⟨(some 88), .bin .eql (.tmp 86) (.tmp 87), (some (81, false)), true⟩,
          ⟨(some 89), .pick (.tmp 81) (.av (.val (.bool true))) (.tmp 88), none, true⟩,
          ⟨(some 90), .indexAddr 1 (.tmp 75) (.tmp 76), none, true⟩,
          ⟨none, .store 1 (.tmp 90) (.tmp 89), none, true⟩]))))))))))
  (.seq (.seq (.ops [⟨(some 93), .mv (.tmp 3), none, true⟩,
      ⟨(some 94), .len (.tmp 93), none, true⟩,
      ⟨(some 95), .mv (.av (.val (.int .i64 0))), none, true⟩])
  (rangeCode 4 5 96 95 94 124
    (.seq (.ops [⟨(some 97), .mv (.tmp 95), none, true⟩,
        ⟨(some 98), .indexAddr 2 (.tmp 93) (.tmp 95), none, true⟩,
        ⟨(some 99), .load (some 2) (.tmp 98), none, true⟩,
        ⟨(some 12), .zero [(.val (.int .i64 0)), (.val (.int .i64 0))], none, true⟩,
        ⟨(some 11), .mv (.tmp 97), none, true⟩,
        ⟨none, .store 2 (.tmp 12) (.tmp 99), none, true⟩])
    (.seq (.ops [⟨(some 100), .fieldAddr 0 (.tmp 12), none, true⟩,
        ⟨(some 101), .load none (.tmp 100), none, true⟩,
        ⟨(some 102), .bin .geq (.tmp 101) (.av (.val (.int .i64 0))), none, true⟩,
        ⟨(some 103), .mv (.tmp 102), none, true⟩,
        ⟨(some 104), .mv (.tmp 5), (some (103, true)), true⟩,
        ⟨(some 105), .mv (.tmp 11), (some (103, true)), true⟩,
        ⟨(some 106), .indexAddr 1 (.tmp 104) (.tmp 105), (some (103, true)), true⟩,
        ⟨(some 107), .load none (.tmp 106), (some (103, true)), true⟩,
        ⟨(some 108), .un .not (.tmp 107), (some (103, true)), true⟩,
        ⟨(some 109), .pick (.tmp 103) (.tmp 108) (.av (.val (.bool false))), none, true⟩,
        ⟨(some 110), .mv (.tmp 109), none, true⟩,
        ⟨(some 111), .fieldAddr 1 (.tmp 12), (some (110, true)), true⟩,
        ⟨(some 112), .load none (.tmp 111), (some (110, true)), true⟩,
        ⟨(some 113), .mv (.tmp 3), (some (110, true)), true⟩,
        ⟨(some 114), .len (.tmp 113), (some (110, true)), true⟩,
        ⟨(some 115), .bin .neq (.tmp 112) (.tmp 114), (some (110, true)), true⟩,
        ⟨(some 116), .pick (.tmp 110) (.tmp 115) (.av (.val (.bool false))), none, true⟩,
        ⟨(some 117), .mv (.tmp 116), none, true⟩,
        ⟨(some 118), .fieldAddr 1 (.tmp 12), (some (117, true)), true⟩,
        ⟨(some 119), .load none (.tmp 118), (some (117, true)), true⟩,
        ⟨(some 120), .fieldAddr 2 (.tmp 1), (some (117, true)), true⟩,
        ⟨(some 121), .load none (.tmp 120), (some (117, true)), true⟩,
        ⟨(some 122), .bin .neq (.tmp 119) (.tmp 121), (some (117, true)), true⟩,
        ⟨(some 123), .pick (.tmp 117) (.tmp 122) (.av (.val (.bool false))), none, true⟩])
    (.cond (.tmp 123)
      (.seq (.ops [⟨(some 2), .mv (.av (.val (.bool false))), none, true⟩])
      (.ret))
      (.skip))))))
  (.seq (.ops [⟨(some 125), .call (.av (.func 9 [])) [], none, true⟩,
      ⟨(some 2), .mv (.tmp 125), none, true⟩])
  (.ret))))))))
theorem f_li_last : cFunc Try.prog 4 = some ⟨126, c_li_last, [.tmp 2]⟩ := by kernel_rfl
/-- backstitch/live.Spans: its code in AM. -/
def c_li_spans : ACode := .seq (.ops [⟨(some 1), .box 13 (.tmp 0), none, true⟩,
      ⟨(some 2), .mv (.av (.val (.slice none 0 0))), none, true⟩,
      ⟨(some 3), .mv (.av (.val (.int .i64 0))), none, true⟩])
  (.seq (.seq (.ops [⟨(some 12), .load (some 13) (.tmp 1), none, true⟩,
      ⟨(some 13), .call (.av (.func 22 [])) [(.tmp 12)], none, true⟩,
      ⟨(some 4), .mv (.tmp 13), none, true⟩])
  (.seq (.ops [⟨(some 14), .mv (.tmp 4), none, true⟩,
      ⟨(some 15), .bin .neq (.tmp 14) (.av (.val (.int .i64 0))), none, true⟩])
  (.cond (.tmp 15)
    (.seq (.ops [⟨(some 16), .mv (.tmp 4), none, true⟩,
        ⟨(some 2), .mv (.av (.val (.slice none 0 0))), none, true⟩,
        ⟨(some 3), .mv (.tmp 16), none, true⟩])
    (.ret))
    (.skip))))
  (.seq (.ops [⟨(some 17), .fieldAddr 3 (.tmp 1), none, true⟩,
      ⟨(some 18), .load none (.tmp 17), none, true⟩,
      ⟨(some 19), .len (.tmp 18), none, true⟩,
      ⟨(some 5), .zero [(.val (.int .i64 0))], none, true⟩,
      ⟨none, .store 1 (.tmp 5) (.tmp 19), none, true⟩])
  (.seq (.ops [⟨(some 20), .build [(.val (.int .i64 0)), (.val (.int .i64 0))] [(0, 1, (.av (.val (.int .i64 (-1))))), (1, 1, (.av (.val (.int .i64 (-1)))))], none, true⟩,
      ⟨(some 21), .lits 2 1 [(.val (.int .i64 0)), (.val (.int .i64 0))] [(0, 2, (.tmp 20))], none, true⟩,
      ⟨(some 22), .load none (.tmp 5), none, true⟩,
      ⟨(some 23), .call (.av (.func 23 [])) [(.tmp 21), (.tmp 22)], none, true⟩,
      ⟨(some 6), .zero [(.val (.slice none 0 0))], none, true⟩,
      ⟨none, .store 1 (.tmp 6) (.tmp 23), none, true⟩])
  (.seq (.ops [⟨(some 24), .func 24 [(.tmp 1), (.tmp 5), (.tmp 6)], none, true⟩,
      ⟨(some 7), .mv (.tmp 24), none, true⟩])
  (.seq (.seq (.ops [⟨(some 25), .fieldAddr 3 (.tmp 1), none, true⟩,
      ⟨(some 26), .load none (.tmp 25), none, true⟩,
      ⟨(some 27), .len (.tmp 26), none, true⟩,
      ⟨(some 28), .mv (.av (.val (.int .i64 0))), none, true⟩])
  (rangeCode 0 1 29 28 27 51
    (.seq (.ops [⟨(some 30), .mv (.tmp 28), none, true⟩,
        ⟨(some 31), .indexAddr 8 (.tmp 26) (.tmp 28), none, true⟩,
        ⟨(some 32), .load (some 8) (.tmp 31), none, true⟩,
        ⟨(some 9), .zero [(.val (.int .i64 0)), (.val (.int .i64 0)), (.val (.int .i64 0)), (.val (.int .i64 0)), (.val (.int .i64 0)), (.val (.int .i64 0)), (.val (.int .i64 0)), (.val (.int .i64 0))], none, true⟩,
        ⟨(some 8), .mv (.tmp 30), none, true⟩,
        ⟨none, .store 8 (.tmp 9) (.tmp 32), none, true⟩])
    (.seq (.ops [⟨(some 33), .mv (.tmp 7), none, true⟩,
        ⟨(some 34), .mv (.tmp 8), none, true⟩,
        ⟨(some 35), .load (some 8) (.tmp 9), none, true⟩,
        ⟨(some 36), .call (.av (.func 25 [])) [(.tmp 35)], none, true⟩,
        ⟨(some 37), .call (.tmp 33) [(.tmp 34), (.tmp 36)], none, true⟩])
    (.seq (.ops [⟨(some 38), .fieldAddr 5 (.tmp 9), none, true⟩,
        ⟨(some 39), .load none (.tmp 38), none, true⟩,
        ⟨(some 40), .bin .geq (.tmp 39) (.av (.val (.int .i64 0))), none, true⟩])
    (.cond (.tmp 40)
      (.ops [⟨(some 41), .mv (.tmp 7), none, true⟩,
          ⟨(some 42), .mv (.tmp 8), none, true⟩,
          ⟨(some 43), .fieldAddr 4 (.tmp 1), none, true⟩,
          ⟨(some 44), .load none (.tmp 43), none, true⟩,
          ⟨(some 45), .fieldAddr 5 (.tmp 9), none, true⟩,
          ⟨(some 46), .load none (.tmp 45), none, true⟩,
          ⟨(some 47), .indexAddr 4 (.tmp 44) (.tmp 46), none, true⟩,
          ⟨(some 48), .load (some 4) (.tmp 47), none, true⟩,
          ⟨(some 49), .call (.av (.func 26 [])) [(.tmp 48)], none, true⟩,
          ⟨(some 50), .call (.tmp 41) [(.tmp 42), (.tmp 49)], none, true⟩])
      (.skip)))))))
  (.seq (.opsD [⟨(some 52), .mv (.tmp 7), none, true⟩,
      ⟨(some 53), .load none (.tmp 5), none, false⟩,
      ⟨(some 54), .fieldAddr 9 (.tmp 1), none, true⟩,
      ⟨(some 55), .load (some 4) (.tmp 54), none, true⟩,
      ⟨(some 56), .call (.av (.func 26 [])) [(.tmp 55)], none, false⟩,
      ⟨(some 57), .call (.tmp 52) [(.tmp 53), (.tmp 56)], none, true⟩])
  (.seq (.seq (.ops [⟨(some 58), .fieldAddr 2 (.tmp 1), none, true⟩,
      ⟨(some 59), .load none (.tmp 58), none, true⟩,
      ⟨(some 60), .bin .gtr (.tmp 59) (.av (.val (.int .i64 0))), none, true⟩])
  (.cond (.tmp 60)
    (.seq (.ops [⟨(some 61), .fieldAddr 5 (.tmp 1), none, true⟩,
        ⟨(some 62), .load (some 4) (.tmp 61), none, true⟩,
        ⟨(some 63), .call (.av (.func 26 [])) [(.tmp 62)], none, true⟩,
        ⟨(some 64), .len (.tmp 63), none, true⟩,
        ⟨(some 65), .mv (.av (.val (.int .i64 0))), none, true⟩])
    (rangeCode 2 3 66 65 64 82
      (.seq (.ops [⟨(some 67), .indexAddr 1 (.tmp 63) (.tmp 65), none, true⟩,
          ⟨(some 68), .load none (.tmp 67), none, true⟩,
          ⟨(some 11), .mv (.tmp 68), none, true⟩])
      (.opsD [⟨(some 69), .load none (.tmp 6), none, true⟩,
          ⟨(some 70), .mv (.tmp 11), none, true⟩,
          ⟨(some 71), .mv (.tmp 11), none, true⟩,
          ⟨(some 72), .load none (.tmp 6), none, true⟩,
          ⟨(some 73), .mv (.tmp 11), none, true⟩,
          ⟨(some 74), .indexAddr 2 (.tmp 72) (.tmp 73), none, true⟩,
          ⟨(some 75), .fieldAddr 1 (.tmp 74), none, true⟩,
          ⟨(some 76), .load none (.tmp 75), none, true⟩,
          ⟨(some 77), .fieldAddr 2 (.tmp 1), none, true⟩,
          ⟨(some 78), .load none (.tmp 77), none, true⟩,
          ⟨(some 79), .minmax true (.tmp 76) [(.tmp 78)], none, true⟩,
          ⟨(some 80), .build [(.val (.int .i64 0)), (.val (.int .i64 0))] [(0, 1, (.tmp 71)), (1, 1, (.tmp 79))], none, true⟩,
          ⟨(some 81), .indexAddr 2 (.tmp 69) (.tmp 70), none, true⟩,
          ⟨none, .store 2 (.tmp 81) (.tmp 80), none, true⟩]))))
    (.skip)))
  (.seq (.ops [⟨(some 83), .load none (.tmp 6), none, true⟩,
      ⟨(some 2), .mv (.tmp 83), none, true⟩,
      ⟨(some 3), .mv (.av (.val (.int .i64 0))), none, true⟩])
  (.ret)))))))))
theorem f_li_spans : cFunc Try.prog 10 = some ⟨84, c_li_spans, [.tmp 2, .tmp 3]⟩ := by kernel_rfl
/-- backstitch/backstitchref3.Asks: its code in AM. -/
def c_li_rasks : ACode := .seq (.ops [⟨(some 1), .box 8 (.tmp 0), none, true⟩,
      ⟨(some 2), .mv (.av (.val (.slice none 0 0))), none, true⟩])
  (.seq (.seq (.ops [⟨(some 3), .fieldAddr 0 (.tmp 1), none, true⟩,
      ⟨(some 4), .load none (.tmp 3), none, true⟩])
  (.block 0 (.seq (.seq (.ops [⟨(some 6), .bin .eql (.tmp 4) (.av (.val (.int .i64 4))), none, true⟩,
       ⟨(some 5), .mv (.tmp 6), none, true⟩])
   (.cond (.tmp 5)
     (.skip)
     (.seq (.ops [⟨(some 7), .bin .eql (.tmp 4) (.av (.val (.int .i64 5))), none, true⟩,
         ⟨(some 5), .mv (.tmp 7), none, true⟩])
     (.cond (.tmp 5)
       (.skip)
       (.seq (.ops [⟨(some 8), .bin .eql (.tmp 4) (.av (.val (.int .i64 6))), none, true⟩,
           ⟨(some 5), .mv (.tmp 8), none, true⟩])
       (.cond (.tmp 5)
         (.skip)
         (.seq (.ops [⟨(some 9), .bin .eql (.tmp 4) (.av (.val (.int .i64 8))), none, true⟩,
             ⟨(some 5), .mv (.tmp 9), none, true⟩])
         (.cond (.tmp 5)
           (.skip)
           (.seq (.ops [⟨(some 10), .bin .eql (.tmp 4) (.av (.val (.int .i64 9))), none, true⟩,
               ⟨(some 5), .mv (.tmp 10), none, true⟩])
           (.cond (.tmp 5)
             (.skip)
             (.seq (.ops [⟨(some 11), .bin .eql (.tmp 4) (.av (.val (.int .i64 10))), none, true⟩,
                 ⟨(some 5), .mv (.tmp 11), none, true⟩])
             (.cond (.tmp 5)
               (.skip)
               (.ops [⟨(some 12), .bin .eql (.tmp 4) (.av (.val (.int .i64 15))), none, true⟩,
                   ⟨(some 5), .mv (.tmp 12), none, true⟩])))))))))))))
   (.cond (.tmp 5)
     (.seq (.ops [⟨(some 13), .fieldAddr 1 (.tmp 1), none, true⟩,
         ⟨(some 14), .load none (.tmp 13), none, true⟩,
         ⟨(some 15), .lits 1 1 [(.val (.int .i64 0))] [(0, 1, (.tmp 14))], none, true⟩,
         ⟨(some 2), .mv (.tmp 15), none, true⟩])
     (.ret))
     (.seq (.seq (.ops [⟨(some 17), .bin .eql (.tmp 4) (.av (.val (.int .i64 7))), none, true⟩,
         ⟨(some 16), .mv (.tmp 17), none, true⟩])
     (.cond (.tmp 16)
       (.skip)
       (.seq (.ops [⟨(some 18), .bin .eql (.tmp 4) (.av (.val (.int .i64 11))), none, true⟩,
           ⟨(some 16), .mv (.tmp 18), none, true⟩])
       (.cond (.tmp 16)
         (.skip)
         (.seq (.ops [⟨(some 19), .bin .eql (.tmp 4) (.av (.val (.int .i64 12))), none, true⟩,
             ⟨(some 16), .mv (.tmp 19), none, true⟩])
         (.cond (.tmp 16)
           (.skip)
           (.seq (.ops [⟨(some 20), .bin .eql (.tmp 4) (.av (.val (.int .i64 13))), none, true⟩,
               ⟨(some 16), .mv (.tmp 20), none, true⟩])
           (.cond (.tmp 16)
             (.skip)
             (.ops [⟨(some 21), .bin .eql (.tmp 4) (.av (.val (.int .i64 17))), none, true⟩,
                 ⟨(some 16), .mv (.tmp 21), none, true⟩])))))))))
     (.cond (.tmp 16)
       (.seq (.ops [⟨(some 22), .fieldAddr 1 (.tmp 1), none, true⟩,
           ⟨(some 23), .load none (.tmp 22), none, true⟩,
           ⟨(some 24), .fieldAddr 2 (.tmp 1), none, true⟩,
           ⟨(some 25), .load none (.tmp 24), none, true⟩,
           ⟨(some 26), .lits 1 2 [(.val (.int .i64 0)), (.val (.int .i64 0))] [(0, 1, (.tmp 23)), (1, 1, (.tmp 25))], none, true⟩,
           ⟨(some 2), .mv (.tmp 26), none, true⟩])
       (.ret))
       (.seq (.ops [⟨(some 28), .bin .eql (.tmp 4) (.av (.val (.int .i64 14))), none, true⟩,
           ⟨(some 27), .mv (.tmp 28), none, true⟩])
       (.cond (.tmp 27)
         (.seq (.ops [⟨(some 29), .fieldAddr 1 (.tmp 1), none, true⟩,
             ⟨(some 30), .load none (.tmp 29), none, true⟩,
             ⟨(some 31), .fieldAddr 2 (.tmp 1), none, true⟩,
             ⟨(some 32), .load none (.tmp 31), none, true⟩,
             ⟨(some 33), .fieldAddr 3 (.tmp 1), none, true⟩,
             ⟨(some 34), .load none (.tmp 33), none, true⟩,
             ⟨(some 35), .lits 1 3 [(.val (.int .i64 0)), (.val (.int .i64 0)), (.val (.int .i64 0))] [(0, 1, (.tmp 30)), (1, 1, (.tmp 32)), (2, 1, (.tmp 34))], none, true⟩,
             ⟨(some 2), .mv (.tmp 35), none, true⟩])
         (.ret))
         (.skip)))))))))
  (.seq (.ops [⟨(some 2), .mv (.av (.val (.slice none 0 0))), none, true⟩])
  (.ret)))
theorem f_li_rasks : cFunc Try.prog 11 = some ⟨36, c_li_rasks, [.tmp 2]⟩ := by kernel_rfl
/-- backstitch/backstitchref3.Values: its code in AM. -/
def c_li_rvalues : ACode := .seq (.ops [⟨(some 1), .box 4 (.tmp 0), none, true⟩,
      ⟨(some 2), .mv (.av (.val (.slice none 0 0))), none, true⟩])
  (.seq (.ops [⟨(some 3), .mv (.av (.val (.slice none 0 0))), none, true⟩])
  (.seq (.seq (.ops [⟨(some 8), .fieldAddr 2 (.tmp 1), none, true⟩,
      ⟨(some 9), .load none (.tmp 8), none, true⟩,
      ⟨(some 10), .len (.tmp 9), none, true⟩,
      ⟨(some 11), .mv (.av (.val (.int .i64 0))), none, true⟩])
  (rangeCode 0 1 12 11 10 20
    (.seq (.ops [⟨(some 13), .indexAddr 2 (.tmp 9) (.tmp 11), none, true⟩,
        ⟨(some 14), .load (some 2) (.tmp 13), none, true⟩,
        ⟨(some 5), .zero [(.val (.int .i64 0)), (.val (.int .i64 0))], none, true⟩,
        ⟨none, .store 2 (.tmp 5) (.tmp 14), none, true⟩])
    (.ops [⟨(some 15), .mv (.tmp 3), none, true⟩,
        ⟨(some 16), .fieldAddr 1 (.tmp 5), none, true⟩,
        ⟨(some 17), .load none (.tmp 16), none, true⟩,
        ⟨(some 18), .lits 1 1 [(.val (.int .i64 0))] [(0, 1, (.tmp 17))], none, true⟩,
        ⟨(some 19), .append 1 8 (.tmp 15) (.tmp 18), none, true⟩,
        ⟨(some 3), .mv (.tmp 19), none, true⟩]))))
  (.seq (.seq (.ops [⟨(some 21), .fieldAddr 3 (.tmp 1), none, true⟩,
      ⟨(some 22), .load none (.tmp 21), none, true⟩,
      ⟨(some 23), .len (.tmp 22), none, true⟩,
      ⟨(some 24), .mv (.av (.val (.int .i64 0))), none, true⟩])
  (rangeCode 2 3 25 24 23 37
    (.seq (.ops [⟨(some 26), .indexAddr 4 (.tmp 22) (.tmp 24), none, true⟩,
        ⟨(some 27), .load (some 4) (.tmp 26), none, true⟩,
        ⟨(some 7), .zero [(.val (.int .i64 0)), (.val (.int .i64 0)), (.val (.int .i64 0)), (.val (.slice none 0 0))], none, true⟩,
        ⟨none, .store 4 (.tmp 7) (.tmp 27), none, true⟩])
    (.seq (.ops [⟨(some 28), .mv (.tmp 3), none, true⟩,
        ⟨(some 29), .fieldAddr 0 (.tmp 7), none, true⟩,
        ⟨(some 30), .load none (.tmp 29), none, true⟩,
        ⟨(some 31), .lits 1 1 [(.val (.int .i64 0))] [(0, 1, (.tmp 30))], none, true⟩,
        ⟨(some 32), .append 1 8 (.tmp 28) (.tmp 31), none, true⟩,
        ⟨(some 3), .mv (.tmp 32), none, true⟩])
    (.ops [⟨(some 33), .mv (.tmp 3), none, true⟩,
        ⟨(some 34), .fieldAddr 3 (.tmp 7), none, true⟩,
        ⟨(some 35), .load none (.tmp 34), none, true⟩,
        ⟨(some 36), .append 1 8 (.tmp 33) (.tmp 35), none, true⟩,
        ⟨(some 3), .mv (.tmp 36), none, true⟩])))))
  (.seq (.ops [⟨(some 38), .mv (.tmp 3), none, true⟩,
      ⟨(some 2), .mv (.tmp 38), none, true⟩])
  (.ret)))))
theorem f_li_rvalues : cFunc Try.prog 12 = some ⟨39, c_li_rvalues, [.tmp 2]⟩ := by kernel_rfl
/-- backstitch/live.Check: its code in AM. -/
def c_li_check : ACode := .seq (.ops [⟨(some 1), .box 13 (.tmp 0), none, true⟩,
      ⟨(some 2), .mv (.av (.val (.int .i64 0))), none, true⟩])
  (.seq (.ops [⟨(some 7), .fieldAddr 3 (.tmp 1), none, true⟩,
      ⟨(some 8), .load none (.tmp 7), none, true⟩,
      ⟨(some 9), .len (.tmp 8), none, true⟩,
      ⟨(some 3), .zero [(.val (.int .i64 0))], none, true⟩,
      ⟨none, .store 1 (.tmp 3) (.tmp 9), none, true⟩])
  (.seq (.seq (.ops [⟨(some 10), .load none (.tmp 3), none, true⟩,
      ⟨(some 11), .bin .gtr (.tmp 10) (.av (.val (.int .i64 300))), none, true⟩,
      ⟨(some 12), .mv (.tmp 11), none, true⟩,
      ⟨(some 13), .fieldAddr 4 (.tmp 1), (some (12, false)), true⟩,
      ⟨(some 14), .load none (.tmp 13), (some (12, false)), true⟩,
      ⟨(some 15), .len (.tmp 14), (some (12, false)), true⟩,
      ⟨(some 16), .bin .gtr (.tmp 15) (.av (.val (.int .i64 200))), (some (12, false)), true⟩,
      ⟨(some 17), .pick (.tmp 12) (.av (.val (.bool true))) (.tmp 16), none, true⟩])
  (.cond (.tmp 17)
    (.seq (.ops [⟨(some 2), .mv (.av (.val (.int .i64 2))), none, true⟩])
    (.ret))
    (.skip)))
  (.seq (.seq (.ops [⟨(some 18), .fieldAddr 2 (.tmp 1), none, true⟩,
      ⟨(some 19), .load none (.tmp 18), none, true⟩,
      ⟨(some 20), .bin .lss (.tmp 19) (.av (.val (.int .i64 0))), none, true⟩,
      ⟨(some 21), .mv (.tmp 20), none, true⟩,
      ⟨(some 22), .fieldAddr 2 (.tmp 1), (some (21, false)), true⟩,
      ⟨(some 23), .load none (.tmp 22), (some (21, false)), true⟩,
      ⟨(some 24), .load none (.tmp 3), (some (21, false)), true⟩,
      ⟨(some 25), .bin .gtr (.tmp 23) (.tmp 24), (some (21, false)), true⟩,
      ⟨(some 26), .pick (.tmp 21) (.av (.val (.bool true))) (.tmp 25), none, true⟩])
  (.cond (.tmp 26)
    (.seq (.ops [⟨(some 2), .mv (.av (.val (.int .i64 3))), none, true⟩])
    (.ret))
    (.skip)))
  (.seq (.seq (.ops [⟨(some 27), .fieldAddr 3 (.tmp 1), none, true⟩,
      ⟨(some 28), .load none (.tmp 27), none, true⟩,
      ⟨(some 29), .len (.tmp 28), none, true⟩,
      ⟨(some 30), .mv (.av (.val (.int .i64 0))), none, true⟩])
  (rangeCode 0 1 31 30 29 39
    (.seq (.ops [⟨(some 32), .mv (.tmp 30), none, true⟩,
        ⟨(some 4), .mv (.tmp 32), none, true⟩])
    (.seq (.ops [⟨(some 33), .load (some 13) (.tmp 1), none, true⟩,
        ⟨(some 34), .mv (.tmp 4), none, true⟩,
        ⟨(some 35), .call (.av (.func 38 [])) [(.tmp 33), (.tmp 34)], none, true⟩,
        ⟨(some 5), .mv (.tmp 35), none, true⟩])
    (.seq (.ops [⟨(some 36), .mv (.tmp 5), none, true⟩,
        ⟨(some 37), .bin .neq (.tmp 36) (.av (.val (.int .i64 0))), none, true⟩])
    (.cond (.tmp 37)
      (.seq (.ops [⟨(some 38), .mv (.tmp 5), none, true⟩,
          ⟨(some 2), .mv (.tmp 38), none, true⟩])
      (.ret))
      (.skip)))))))
  (.seq (.seq (.opsD [⟨(some 40), .fieldAddr 2 (.tmp 1), none, true⟩,
      ⟨(some 41), .load none (.tmp 40), none, true⟩,
      ⟨(some 42), .bin .gtr (.tmp 41) (.av (.val (.int .i64 0))), none, true⟩,
      ⟨(some 43), .mv (.tmp 42), none, true⟩,
      ⟨(some 44), .load (some 13) (.tmp 1), (some (43, true)), false⟩,
      ⟨(some 45), .fieldAddr 5 (.tmp 1), (some (43, true)), true⟩,
      ⟨(some 46), .load (some 4) (.tmp 45), (some (43, true)), true⟩,
      ⟨(some 47), .call (.av (.func 26 [])) [(.tmp 46)], (some (43, true)), false⟩,
      ⟨(some 48), .fieldAddr 2 (.tmp 1), (some (43, true)), true⟩,
      ⟨(some 49), .load none (.tmp 48), (some (43, true)), false⟩,
      ⟨(some 50), .call (.av (.func 39 [])) [(.tmp 44), (.tmp 47), (.tmp 49)], (some (43, true)), true⟩,
      ⟨(some 51), .un .not (.tmp 50), (some (43, true)), true⟩,
      ⟨(some 52), .pick (.tmp 43) (.tmp 51) (.av (.val (.bool false))), none, true⟩])
  (.cond (.tmp 52)
    (.seq (.ops [⟨(some 2), .mv (.av (.val (.int .i64 3))), none, true⟩])
    (.ret))
    (.skip)))
  (.seq (.ops [⟨(some 53), .fieldAddr 9 (.tmp 1), none, true⟩,
      ⟨(some 54), .load (some 4) (.tmp 53), none, true⟩,
      ⟨(some 55), .lits 4 1 [(.val (.int .i64 0)), (.val (.int .i64 0)), (.val (.slice none 0 0)), (.val (.slice none 0 0))] [(0, 4, (.tmp 54))], none, true⟩,
      ⟨(some 56), .fieldAddr 4 (.tmp 1), none, true⟩,
      ⟨(some 57), .load none (.tmp 56), none, true⟩,
      ⟨(some 58), .append 4 64 (.tmp 55) (.tmp 57), none, true⟩,
      ⟨(some 6), .mv (.tmp 58), none, true⟩])
  (.seq (.seq (.ops [⟨(some 59), .mv (.tmp 6), none, true⟩,
      ⟨(some 60), .func 41 [(.tmp 1), (.tmp 3)], none, true⟩,
      ⟨(some 61), .call (.av (.func 40 [])) [(.tmp 59), (.tmp 60)], none, true⟩])
  (.cond (.tmp 61)
    (.seq (.ops [⟨(some 2), .mv (.av (.val (.int .i64 3))), none, true⟩])
    (.ret))
    (.skip)))
  (.seq (.seq (.ops [⟨(some 62), .mv (.tmp 6), none, true⟩,
      ⟨(some 63), .fieldAddr 5 (.tmp 1), none, true⟩,
      ⟨(some 64), .load (some 4) (.tmp 63), none, true⟩,
      ⟨(some 65), .lits 4 1 [(.val (.int .i64 0)), (.val (.int .i64 0)), (.val (.slice none 0 0)), (.val (.slice none 0 0))] [(0, 4, (.tmp 64))], none, true⟩,
      ⟨(some 66), .append 4 64 (.tmp 62) (.tmp 65), none, true⟩,
      ⟨(some 67), .call (.av (.func 40 [])) [(.tmp 66), (.av (.func 42 []))], none, true⟩])
  (.cond (.tmp 67)
    (.seq (.ops [⟨(some 2), .mv (.av (.val (.int .i64 2))), none, true⟩])
    (.ret))
    (.skip)))
  (.seq (.ops [⟨(some 2), .mv (.av (.val (.int .i64 0))), none, true⟩])
  (.ret))))))))))
theorem f_li_check : cFunc Try.prog 22 = some ⟨68, c_li_check, [.tmp 2]⟩ := by kernel_rfl
/-- slices.Repeat[[]backstitch/api.RSpan,backstitch/api.RSpan]: its code in AM. -/
def c_li_repS : ACode := .seq (.ops [⟨(some 4), .mv (.av (.val (.slice none 0 0))), none, true⟩])
  (.seq (.seq (.ops [⟨(some 9), .mv (.tmp 1), none, true⟩,
      ⟨(some 10), .bin .lss (.tmp 9) (.av (.val (.int .i64 0))), none, true⟩])
  (.cond (.tmp 10)
    (.ops [⟨(some 11), .bad, none, true⟩,
        ⟨none, .bad, none, true⟩])
    (.skip)))
  (.seq (.ops [⟨(some 13), .mv (.tmp 0), none, true⟩,
      ⟨(some 14), .len (.tmp 13), none, true⟩,
      ⟨(some 15), .conv .u64 (.tmp 14), none, true⟩,
      ⟨(some 16), .mv (.tmp 1), none, true⟩,
      ⟨(some 17), .conv .u64 (.tmp 16), none, true⟩,
      ⟨(some 18), .call (.av (.func 43 [])) [(.tmp 15), (.tmp 17)], none, true⟩,
      ⟨(some 12), .mv (.tmp 18), none, true⟩,
      ⟨(some 19), .extract 0 (.tmp 12), none, true⟩,
      ⟨(some 20), .extract 1 (.tmp 12), none, true⟩,
      ⟨(some 5), .mv (.tmp 19), none, true⟩,
      ⟨(some 6), .mv (.tmp 20), none, true⟩])
  (.seq (.seq (.ops [⟨(some 21), .mv (.tmp 5), none, true⟩,
      ⟨(some 22), .bin .gtr (.tmp 21) (.av (.val (.int .u64 0))), none, true⟩,
      ⟨(some 23), .mv (.tmp 22), none, true⟩,
      ⟨(some 24), .mv (.tmp 6), (some (23, false)), true⟩,
      ⟨(some 25), .bin .gtr (.tmp 24) (.av (.val (.int .u64 9223372036854775807))), (some (23, false)), true⟩,
      ⟨(some 26), .pick (.tmp 23) (.av (.val (.bool true))) (.tmp 25), none, true⟩])
  (.cond (.tmp 26)
    (.ops [⟨(some 27), .bad, none, true⟩,
        ⟨none, .bad, none, true⟩])
    (.skip)))
  (.seq (.ops [⟨(some 28), .mv (.tmp 6), none, true⟩,
      ⟨(some 29), .conv .i64 (.tmp 28), none, true⟩,
      ⟨(some 30), .mkSlice 2 16 [(.val (.int .i64 0)), (.val (.int .i64 0))] (.tmp 29) (.tmp 29), none, true⟩,
      ⟨(some 7), .mv (.tmp 30), none, true⟩])
  (.seq (.ops [⟨(some 31), .mv (.tmp 7), none, true⟩,
      ⟨(some 32), .mv (.tmp 0), none, true⟩,
      ⟨(some 33), .copy 2 (.tmp 31) (.tmp 32), none, true⟩,
      ⟨(some 8), .mv (.tmp 33), none, true⟩])
  (.seq (.block 0 (.loop (.seq (.seq (.ops [⟨(some 34), .mv (.tmp 8), none, true⟩,
        ⟨(some 35), .mv (.tmp 7), none, true⟩,
        ⟨(some 36), .len (.tmp 35), none, true⟩,
        ⟨(some 37), .bin .lss (.tmp 34) (.tmp 36), none, true⟩])
    (.cond (.tmp 37)
      (.skip)
      (.exit 0)))
    (.block 1 (.opsD [⟨(some 38), .mv (.tmp 8), none, true⟩,
         ⟨(some 39), .mv (.tmp 7), none, true⟩,
         ⟨(some 40), .mv (.tmp 8), none, true⟩,
         ⟨(some 41), .slice 2 (.tmp 39) (some (.tmp 40)) none none, none, true⟩,
         ⟨(some 42), .mv (.tmp 7), none, true⟩,
         ⟨(some 43), .mv (.tmp 8), none, true⟩,
         ⟨(some 44), .slice 2 (.tmp 42) none (some (.tmp 43)) none, none, true⟩,
         ⟨(some 45), .copy 2 (.tmp 41) (.tmp 44), none, true⟩,
         ⟨(some 46), .bin .add (.tmp 38) (.tmp 45), none, true⟩,
         ⟨(some 8), .mv (.tmp 46), none, true⟩])))))
  (.seq (.ops [⟨(some 47), .mv (.tmp 7), none, true⟩,
      ⟨(some 4), .mv (.tmp 47), none, true⟩])
  (.ret))))))))
theorem f_li_repS : cFunc Try.prog 23 = some ⟨48, c_li_repS, [.tmp 4]⟩ := by kernel_rfl
/-- backstitch/live.Spans$1: its code in AM. -/
def c_li_spansa : ACode := .seq (.ops [⟨(some 10), .mv (.tmp 1), none, true⟩,
      ⟨(some 11), .len (.tmp 10), none, true⟩,
      ⟨(some 12), .mv (.av (.val (.int .i64 0))), none, true⟩])
  (rangeCode 0 1 13 12 11 40
    (.seq (.ops [⟨(some 14), .indexAddr 1 (.tmp 10) (.tmp 12), none, true⟩,
        ⟨(some 15), .load none (.tmp 14), none, true⟩,
        ⟨(some 8), .mv (.tmp 15), none, true⟩])
    (.seq (.ops [⟨(some 16), .mv (.tmp 0), none, true⟩,
        ⟨(some 9), .mv (.tmp 16), none, true⟩])
    (.seq (.seq (.ops [⟨(some 17), .mv (.tmp 8), none, true⟩,
        ⟨(some 18), .fieldAddr 2 (.tmp 2), none, true⟩,
        ⟨(some 19), .load none (.tmp 18), none, true⟩,
        ⟨(some 20), .bin .lss (.tmp 17) (.tmp 19), none, true⟩,
        ⟨(some 21), .mv (.tmp 20), none, true⟩,
        ⟨(some 22), .mv (.tmp 0), (some (21, true)), true⟩,
        ⟨(some 23), .fieldAddr 2 (.tmp 2), (some (21, true)), true⟩,
        ⟨(some 24), .load none (.tmp 23), (some (21, true)), true⟩,
        ⟨(some 25), .bin .geq (.tmp 22) (.tmp 24), (some (21, true)), true⟩,
        ⟨(some 26), .pick (.tmp 21) (.tmp 25) (.av (.val (.bool false))), none, true⟩])
    (.cond (.tmp 26)
      (.ops [⟨(some 27), .load none (.tmp 3), none, true⟩,
          ⟨(some 9), .mv (.tmp 27), none, true⟩])
      (.skip)))
    (.opsD [⟨(some 28), .load none (.tmp 4), none, true⟩,
        ⟨(some 29), .mv (.tmp 8), none, true⟩,
        ⟨(some 30), .mv (.tmp 8), none, true⟩,
        ⟨(some 31), .load none (.tmp 4), none, true⟩,
        ⟨(some 32), .mv (.tmp 8), none, true⟩,
        ⟨(some 33), .indexAddr 2 (.tmp 31) (.tmp 32), none, true⟩,
        ⟨(some 34), .fieldAddr 1 (.tmp 33), none, true⟩,
        ⟨(some 35), .load none (.tmp 34), none, true⟩,
        ⟨(some 36), .mv (.tmp 9), none, true⟩,
        ⟨(some 37), .minmax true (.tmp 35) [(.tmp 36)], none, true⟩,
        ⟨(some 38), .build [(.val (.int .i64 0)), (.val (.int .i64 0))] [(0, 1, (.tmp 30)), (1, 1, (.tmp 37))], none, true⟩,
        ⟨(some 39), .indexAddr 2 (.tmp 28) (.tmp 29), none, true⟩,
        ⟨none, .store 2 (.tmp 39) (.tmp 38), none, true⟩])))))
theorem f_li_spansa : cFunc Try.prog 24 = some ⟨41, c_li_spansa, []⟩ := by kernel_rfl
/-- backstitch/ir.Asks: its code in AM. -/
def c_li_asks : ACode := .seq (.ops [⟨(some 1), .box 8 (.tmp 0), none, true⟩,
      ⟨(some 2), .mv (.av (.val (.slice none 0 0))), none, true⟩])
  (.seq (.ops [⟨(some 7), .fieldAddr 0 (.tmp 1), none, true⟩,
      ⟨(some 8), .load none (.tmp 7), none, true⟩,
      ⟨(some 9), .call (.av (.func 44 [])) [(.tmp 8)], none, true⟩,
      ⟨(some 6), .mv (.tmp 9), none, true⟩,
      ⟨(some 10), .extract 0 (.tmp 6), none, true⟩,
      ⟨(some 11), .extract 1 (.tmp 6), none, true⟩,
      ⟨(some 3), .zero [(.val (.int .i64 0)), (.val (.int .i64 0)), (.val (.int .i64 0)), (.val (.bool false)), (.val (.bool false)), (.val (.int .i64 0))], none, true⟩,
      ⟨none, .store 6 (.tmp 3) (.tmp 10), none, true⟩,
      ⟨(some 4), .mv (.tmp 11), none, true⟩])
  (.seq (.seq (.ops [⟨(some 12), .mv (.tmp 4), none, true⟩,
      ⟨(some 13), .un .not (.tmp 12), none, true⟩])
  (.cond (.tmp 13)
    (.seq (.ops [⟨(some 2), .mv (.av (.val (.slice none 0 0))), none, true⟩])
    (.ret))
    (.skip)))
  (.seq (.ops [⟨(some 14), .fieldAddr 1 (.tmp 1), none, true⟩,
      ⟨(some 15), .load none (.tmp 14), none, true⟩,
      ⟨(some 16), .fieldAddr 2 (.tmp 1), none, true⟩,
      ⟨(some 17), .load none (.tmp 16), none, true⟩,
      ⟨(some 18), .fieldAddr 3 (.tmp 1), none, true⟩,
      ⟨(some 19), .load none (.tmp 18), none, true⟩,
      ⟨(some 20), .build [(.val (.int .i64 0)), (.val (.int .i64 0)), (.val (.int .i64 0))] [(0, 1, (.tmp 15)), (1, 1, (.tmp 17)), (2, 1, (.tmp 19))], none, true⟩,
      ⟨(some 5), .zero [(.val (.int .i64 0)), (.val (.int .i64 0)), (.val (.int .i64 0))], none, true⟩,
      ⟨none, .store 3 (.tmp 5) (.tmp 20), none, true⟩])
  (.seq (.ops [⟨(some 21), .fieldAddr 0 (.tmp 3), none, true⟩,
      ⟨(some 22), .load none (.tmp 21), none, true⟩,
      ⟨(some 23), .sliceArr 1 3 (.tmp 5) none (some (.tmp 22)) none, none, true⟩,
      ⟨(some 24), .append 1 8 (.av (.val (.slice none 0 0))) (.tmp 23), none, true⟩,
      ⟨(some 2), .mv (.tmp 24), none, true⟩])
  (.ret)))))
theorem f_li_asks : cFunc Try.prog 25 = some ⟨25, c_li_asks, [.tmp 2]⟩ := by kernel_rfl
/-- backstitch/live.Values: its code in AM. -/
def c_li_values : ACode := .seq (.ops [⟨(some 1), .box 4 (.tmp 0), none, true⟩,
      ⟨(some 2), .mv (.av (.val (.slice none 0 0))), none, true⟩])
  (.seq (.ops [⟨(some 3), .mv (.av (.val (.slice none 0 0))), none, true⟩])
  (.seq (.seq (.ops [⟨(some 8), .fieldAddr 2 (.tmp 1), none, true⟩,
      ⟨(some 9), .load none (.tmp 8), none, true⟩,
      ⟨(some 10), .len (.tmp 9), none, true⟩,
      ⟨(some 11), .mv (.av (.val (.int .i64 0))), none, true⟩])
  (rangeCode 0 1 12 11 10 20
    (.seq (.ops [⟨(some 13), .indexAddr 2 (.tmp 9) (.tmp 11), none, true⟩,
        ⟨(some 14), .load (some 2) (.tmp 13), none, true⟩,
        ⟨(some 5), .zero [(.val (.int .i64 0)), (.val (.int .i64 0))], none, true⟩,
        ⟨none, .store 2 (.tmp 5) (.tmp 14), none, true⟩])
    (.ops [⟨(some 15), .mv (.tmp 3), none, true⟩,
        ⟨(some 16), .fieldAddr 1 (.tmp 5), none, true⟩,
        ⟨(some 17), .load none (.tmp 16), none, true⟩,
        ⟨(some 18), .lits 1 1 [(.val (.int .i64 0))] [(0, 1, (.tmp 17))], none, true⟩,
        ⟨(some 19), .append 1 8 (.tmp 15) (.tmp 18), none, true⟩,
        ⟨(some 3), .mv (.tmp 19), none, true⟩]))))
  (.seq (.seq (.ops [⟨(some 21), .fieldAddr 3 (.tmp 1), none, true⟩,
      ⟨(some 22), .load none (.tmp 21), none, true⟩,
      ⟨(some 23), .len (.tmp 22), none, true⟩,
      ⟨(some 24), .mv (.av (.val (.int .i64 0))), none, true⟩])
  (rangeCode 2 3 25 24 23 36
    (.seq (.ops [⟨(some 26), .indexAddr 4 (.tmp 22) (.tmp 24), none, true⟩,
        ⟨(some 27), .load (some 4) (.tmp 26), none, true⟩,
        ⟨(some 7), .zero [(.val (.int .i64 0)), (.val (.int .i64 0)), (.val (.int .i64 0)), (.val (.slice none 0 0))], none, true⟩,
        ⟨none, .store 4 (.tmp 7) (.tmp 27), none, true⟩])
    (.opsD [⟨(some 28), .mv (.tmp 3), none, true⟩,
        ⟨(some 29), .fieldAddr 0 (.tmp 7), none, true⟩,
        ⟨(some 30), .load none (.tmp 29), none, true⟩,
        ⟨(some 31), .lits 1 1 [(.val (.int .i64 0))] [(0, 1, (.tmp 30))], none, true⟩,
        ⟨(some 32), .append 1 8 (.tmp 28) (.tmp 31), none, false⟩,
        ⟨(some 33), .fieldAddr 3 (.tmp 7), none, true⟩,
        ⟨(some 34), .load none (.tmp 33), none, false⟩,
        ⟨(some 35), .append 1 8 (.tmp 32) (.tmp 34), none, true⟩,
        ⟨(some 3), .mv (.tmp 35), none, true⟩]))))
  (.seq (.ops [⟨(some 37), .mv (.tmp 3), none, true⟩,
      ⟨(some 2), .mv (.tmp 37), none, true⟩])
  (.ret)))))
theorem f_li_values : cFunc Try.prog 26 = some ⟨38, c_li_values, [.tmp 2]⟩ := by kernel_rfl
/-- backstitch/live.one: its code in AM. -/
def c_li_one : ACode := .seq (.ops [⟨(some 2), .box 13 (.tmp 0), none, true⟩,
      ⟨(some 4), .mv (.av (.val (.int .i64 0))), none, true⟩])
  (.seq (.ops [⟨(some 6), .fieldAddr 3 (.tmp 2), none, true⟩,
      ⟨(some 7), .load none (.tmp 6), none, true⟩,
      ⟨(some 8), .mv (.tmp 1), none, true⟩,
      ⟨(some 9), .indexAddr 8 (.tmp 7) (.tmp 8), none, true⟩,
      ⟨(some 10), .load (some 8) (.tmp 9), none, true⟩,
      ⟨(some 5), .zero [(.val (.int .i64 0)), (.val (.int .i64 0)), (.val (.int .i64 0)), (.val (.int .i64 0)), (.val (.int .i64 0)), (.val (.int .i64 0)), (.val (.int .i64 0)), (.val (.int .i64 0))], none, true⟩,
      ⟨none, .store 8 (.tmp 5) (.tmp 10), none, true⟩])
  (.seq (.block 0 (.seq (.ops [⟨(some 12), .fieldAddr 0 (.tmp 5), none, true⟩,
       ⟨(some 13), .load none (.tmp 12), none, true⟩,
       ⟨(some 14), .call (.av (.func 49 [])) [(.tmp 13)], none, true⟩,
       ⟨(some 15), .un .not (.tmp 14), none, true⟩,
       ⟨(some 11), .mv (.tmp 15), none, true⟩])
   (.cond (.tmp 11)
     (.seq (.ops [⟨(some 4), .mv (.av (.val (.int .i64 7))), none, true⟩])
     (.ret))
     (.seq (.opsD [⟨(some 17), .load (some 13) (.tmp 2), none, false⟩,
         ⟨(some 18), .load (some 8) (.tmp 5), none, true⟩,
         ⟨(some 19), .call (.av (.func 25 [])) [(.tmp 18)], none, false⟩,
         ⟨(some 20), .mv (.tmp 1), none, true⟩,
         ⟨(some 21), .call (.av (.func 39 [])) [(.tmp 17), (.tmp 19), (.tmp 20)], none, true⟩,
         ⟨(some 22), .un .not (.tmp 21), none, true⟩,
         ⟨(some 23), .mv (.tmp 22), none, true⟩,
         ⟨(some 24), .fieldAddr 5 (.tmp 5), (some (23, false)), true⟩,
         ⟨(some 25), .load none (.tmp 24), (some (23, false)), true⟩,
         ⟨(some 26), .bin .lss (.tmp 25) (.av (.val (.int .i64 (-1)))), (some (23, false)), true⟩,
         ⟨(some 27), .pick (.tmp 23) (.av (.val (.bool true))) (.tmp 26), none, true⟩,
         ⟨(some 28), .mv (.tmp 27), none, true⟩,
         ⟨(some 29), .fieldAddr 5 (.tmp 5), (some (28, false)), true⟩,
         ⟨(some 30), .load none (.tmp 29), (some (28, false)), true⟩,
         ⟨(some 31), .fieldAddr 4 (.tmp 2), (some (28, false)), true⟩,
         ⟨(some 32), .load none (.tmp 31), (some (28, false)), true⟩,
         ⟨(some 33), .len (.tmp 32), (some (28, false)), true⟩,
         ⟨(some 34), .bin .geq (.tmp 30) (.tmp 33), (some (28, false)), true⟩,
         ⟨(some 35), .pick (.tmp 28) (.av (.val (.bool true))) (.tmp 34), none, true⟩,
         ⟨(some 16), .mv (.tmp 35), none, true⟩])
     (.cond (.tmp 16)
       (.seq (.ops [⟨(some 4), .mv (.av (.val (.int .i64 3))), none, true⟩])
       (.ret))
       (.seq (.opsD [⟨(some 37), .fieldAddr 5 (.tmp 5), none, true⟩,
           ⟨(some 38), .load none (.tmp 37), none, true⟩,
           ⟨(some 39), .bin .geq (.tmp 38) (.av (.val (.int .i64 0))), none, true⟩,
           ⟨(some 40), .mv (.tmp 39), none, true⟩,
           ⟨(some 41), .load (some 13) (.tmp 2), (some (40, true)), false⟩,
           ⟨(some 42), .fieldAddr 4 (.tmp 2), (some (40, true)), true⟩,
           ⟨(some 43), .load none (.tmp 42), (some (40, true)), true⟩,
           ⟨(some 44), .fieldAddr 5 (.tmp 5), (some (40, true)), true⟩,
           ⟨(some 45), .load none (.tmp 44), (some (40, true)), true⟩,
           ⟨(some 46), .indexAddr 4 (.tmp 43) (.tmp 45), (some (40, true)), true⟩,
           ⟨(some 47), .load (some 4) (.tmp 46), (some (40, true)), true⟩,
           ⟨(some 48), .call (.av (.func 26 [])) [(.tmp 47)], (some (40, true)), false⟩,
           ⟨(some 49), .mv (.tmp 1), (some (40, true)), true⟩,
           ⟨(some 50), .call (.av (.func 39 [])) [(.tmp 41), (.tmp 48), (.tmp 49)], (some (40, true)), true⟩,
           ⟨(some 51), .un .not (.tmp 50), (some (40, true)), true⟩,
           ⟨(some 52), .pick (.tmp 40) (.tmp 51) (.av (.val (.bool false))), none, true⟩,
           ⟨(some 36), .mv (.tmp 52), none, true⟩])
       (.cond (.tmp 36)
         (.seq (.ops [⟨(some 4), .mv (.av (.val (.int .i64 3))), none, true⟩])
         (.ret))
         (.skip))))))))
  (.seq (.ops [⟨(some 4), .mv (.av (.val (.int .i64 0))), none, true⟩])
  (.ret))))
theorem f_li_one : cFunc Try.prog 38 = some ⟨53, c_li_one, [.tmp 4]⟩ := by kernel_rfl
/-- backstitch/live.all: its code in AM. -/
def c_li_all : ACode := .seq (.ops [⟨(some 3), .box 13 (.tmp 0), none, true⟩,
      ⟨(some 5), .box 1 (.tmp 2), none, true⟩,
      ⟨(some 6), .mv (.av (.val (.bool false))), none, true⟩])
  (.seq (.ops [⟨(some 7), .mv (.tmp 1), none, true⟩,
      ⟨(some 8), .func 51 [(.tmp 5), (.tmp 3)], none, true⟩,
      ⟨(some 9), .call (.av (.func 50 [])) [(.tmp 7), (.tmp 8)], none, true⟩,
      ⟨(some 10), .un .not (.tmp 9), none, true⟩,
      ⟨(some 6), .mv (.tmp 10), none, true⟩])
  (.ret))
theorem f_li_all : cFunc Try.prog 39 = some ⟨11, c_li_all, [.tmp 6]⟩ := by kernel_rfl
/-- slices.ContainsFunc[[]backstitch/api.TExit,backstitch/api.TExit]: its code in AM. -/
def c_li_cfX : ACode := .seq (.ops [⟨(some 4), .mv (.av (.val (.bool false))), none, true⟩])
  (.seq (.ops [⟨(some 5), .mv (.tmp 0), none, true⟩,
      ⟨(some 6), .mv (.tmp 1), none, true⟩,
      ⟨(some 7), .call (.av (.func 53 [])) [(.tmp 5), (.tmp 6)], none, true⟩,
      ⟨(some 8), .bin .geq (.tmp 7) (.av (.val (.int .i64 0))), none, true⟩,
      ⟨(some 4), .mv (.tmp 8), none, true⟩])
  (.ret))
theorem f_li_cfX : cFunc Try.prog 40 = some ⟨9, c_li_cfX, [.tmp 4]⟩ := by kernel_rfl
/-- backstitch/live.Check$1: its code in AM. -/
def c_li_checka : ACode := .seq (.ops [⟨(some 3), .box 4 (.tmp 0), none, true⟩,
      ⟨(some 4), .mv (.av (.val (.bool false))), none, true⟩])
  (.seq (.opsD [⟨(some 5), .load (some 13) (.tmp 1), none, false⟩,
      ⟨(some 6), .load (some 4) (.tmp 3), none, true⟩,
      ⟨(some 7), .call (.av (.func 26 [])) [(.tmp 6)], none, false⟩,
      ⟨(some 8), .load none (.tmp 2), none, false⟩,
      ⟨(some 9), .call (.av (.func 39 [])) [(.tmp 5), (.tmp 7), (.tmp 8)], none, true⟩,
      ⟨(some 10), .un .not (.tmp 9), none, true⟩,
      ⟨(some 4), .mv (.tmp 10), none, true⟩])
  (.ret))
theorem f_li_checka : cFunc Try.prog 41 = some ⟨11, c_li_checka, [.tmp 4]⟩ := by kernel_rfl
/-- backstitch/live.large: its code in AM. -/
def c_li_large : ACode := .seq (.ops [⟨(some 1), .box 4 (.tmp 0), none, true⟩,
      ⟨(some 2), .mv (.av (.val (.bool false))), none, true⟩])
  (.seq (.ops [⟨(some 3), .fieldAddr 2 (.tmp 1), none, true⟩,
      ⟨(some 4), .load none (.tmp 3), none, true⟩,
      ⟨(some 5), .len (.tmp 4), none, true⟩,
      ⟨(some 6), .bin .gtr (.tmp 5) (.av (.val (.int .i64 60))), none, true⟩,
      ⟨(some 7), .mv (.tmp 6), none, true⟩,
      ⟨(some 8), .fieldAddr 3 (.tmp 1), (some (7, false)), true⟩,
      ⟨(some 9), .load none (.tmp 8), (some (7, false)), true⟩,
      ⟨(some 10), .len (.tmp 9), (some (7, false)), true⟩,
      ⟨(some 11), .bin .gtr (.tmp 10) (.av (.val (.int .i64 300))), (some (7, false)), true⟩,
      ⟨(some 12), .pick (.tmp 7) (.av (.val (.bool true))) (.tmp 11), none, true⟩,
      ⟨(some 13), .mv (.tmp 12), none, true⟩,
      ⟨(some 14), .fieldAddr 3 (.tmp 1), (some (13, false)), true⟩,
      ⟨(some 15), .load none (.tmp 14), (some (13, false)), true⟩,
      ⟨(some 16), .call (.av (.func 54 [])) [(.tmp 15), (.av (.func 55 []))], (some (13, false)), true⟩,
      ⟨(some 17), .pick (.tmp 13) (.av (.val (.bool true))) (.tmp 16), none, true⟩,
      ⟨(some 2), .mv (.tmp 17), none, true⟩])
  (.ret))
theorem f_li_large : cFunc Try.prog 42 = some ⟨18, c_li_large, [.tmp 2]⟩ := by kernel_rfl
/-- backstitch/ir.of: its code in AM. -/
def c_li_of : ACode := .seq (.ops [⟨(some 2), .zero [(.val (.int .i64 0)), (.val (.int .i64 0)), (.val (.int .i64 0)), (.val (.bool false)), (.val (.bool false)), (.val (.int .i64 0))], none, true⟩,
      ⟨(some 3), .mv (.av (.val (.bool false))), none, true⟩])
  (.seq (.seq (.ops [⟨(some 4), .mv (.tmp 0), none, true⟩])
  (.block 0 (.seq (.ops [⟨(some 6), .bin .eql (.tmp 4) (.av (.val (.int .i64 1))), none, true⟩,
       ⟨(some 5), .mv (.tmp 6), none, true⟩])
   (.cond (.tmp 5)
     (.seq (.ops [⟨(some 7), .build [(.val (.int .i64 0)), (.val (.int .i64 0)), (.val (.int .i64 0)), (.val (.bool false)), (.val (.bool false)), (.val (.int .i64 0))] [(0, 1, (.av (.val (.int .i64 0)))), (1, 1, (.av (.val (.int .i64 0)))), (2, 1, (.av (.val (.int .i64 1073741824)))), (3, 1, (.av (.val (.bool false)))), (4, 1, (.av (.val (.bool true)))), (5, 1, (.av (.val (.int .i64 0))))], none, true⟩,
         ⟨none, .store 6 (.tmp 2) (.tmp 7), none, true⟩,
         ⟨(some 3), .mv (.av (.val (.bool true))), none, true⟩])
     (.ret))
     (.seq (.ops [⟨(some 9), .bin .eql (.tmp 4) (.av (.val (.int .i64 2))), none, true⟩,
         ⟨(some 8), .mv (.tmp 9), none, true⟩])
     (.cond (.tmp 8)
       (.seq (.ops [⟨(some 10), .build [(.val (.int .i64 0)), (.val (.int .i64 0)), (.val (.int .i64 0)), (.val (.bool false)), (.val (.bool false)), (.val (.int .i64 0))] [(0, 1, (.av (.val (.int .i64 0)))), (1, 1, (.av (.val (.int .i64 0)))), (2, 1, (.av (.val (.int .i64 0)))), (3, 1, (.av (.val (.bool true)))), (4, 1, (.av (.val (.bool true)))), (5, 1, (.av (.val (.int .i64 0))))], none, true⟩,
           ⟨none, .store 6 (.tmp 2) (.tmp 10), none, true⟩,
           ⟨(some 3), .mv (.av (.val (.bool true))), none, true⟩])
       (.ret))
       (.seq (.ops [⟨(some 12), .bin .eql (.tmp 4) (.av (.val (.int .i64 3))), none, true⟩,
           ⟨(some 11), .mv (.tmp 12), none, true⟩])
       (.cond (.tmp 11)
         (.seq (.ops [⟨(some 13), .build [(.val (.int .i64 0)), (.val (.int .i64 0)), (.val (.int .i64 0)), (.val (.bool false)), (.val (.bool false)), (.val (.int .i64 0))] [(0, 1, (.av (.val (.int .i64 0)))), (1, 1, (.av (.val (.int .i64 0)))), (2, 1, (.av (.val (.int .i64 0)))), (3, 1, (.av (.val (.bool false)))), (4, 1, (.av (.val (.bool true)))), (5, 1, (.av (.val (.int .i64 0))))], none, true⟩,
             ⟨none, .store 6 (.tmp 2) (.tmp 13), none, true⟩,
             ⟨(some 3), .mv (.av (.val (.bool true))), none, true⟩])
         (.ret))
         (.seq (.ops [⟨(some 15), .bin .eql (.tmp 4) (.av (.val (.int .i64 4))), none, true⟩,
             ⟨(some 14), .mv (.tmp 15), none, true⟩])
         (.cond (.tmp 14)
           (.seq (.ops [⟨(some 16), .build [(.val (.int .i64 0)), (.val (.int .i64 0)), (.val (.int .i64 0)), (.val (.bool false)), (.val (.bool false)), (.val (.int .i64 0))] [(0, 1, (.av (.val (.int .i64 1)))), (1, 1, (.av (.val (.int .i64 0)))), (2, 1, (.av (.val (.int .i64 6)))), (3, 1, (.av (.val (.bool false)))), (4, 1, (.av (.val (.bool false)))), (5, 1, (.av (.val (.int .i64 2))))], none, true⟩,
               ⟨none, .store 6 (.tmp 2) (.tmp 16), none, true⟩,
               ⟨(some 3), .mv (.av (.val (.bool true))), none, true⟩])
           (.ret))
           (.seq (.ops [⟨(some 18), .bin .eql (.tmp 4) (.av (.val (.int .i64 5))), none, true⟩,
               ⟨(some 17), .mv (.tmp 18), none, true⟩])
           (.cond (.tmp 17)
             (.seq (.ops [⟨(some 19), .build [(.val (.int .i64 0)), (.val (.int .i64 0)), (.val (.int .i64 0)), (.val (.bool false)), (.val (.bool false)), (.val (.int .i64 0))] [(0, 1, (.av (.val (.int .i64 1)))), (1, 1, (.av (.val (.int .i64 0)))), (2, 1, (.av (.val (.int .i64 1)))), (3, 1, (.av (.val (.bool false)))), (4, 1, (.av (.val (.bool false)))), (5, 1, (.av (.val (.int .i64 2))))], none, true⟩,
                 ⟨none, .store 6 (.tmp 2) (.tmp 19), none, true⟩,
                 ⟨(some 3), .mv (.av (.val (.bool true))), none, true⟩])
             (.ret))
             (.seq (.ops [⟨(some 21), .bin .eql (.tmp 4) (.av (.val (.int .i64 6))), none, true⟩,
                 ⟨(some 20), .mv (.tmp 21), none, true⟩])
             (.cond (.tmp 20)
               (.seq (.ops [⟨(some 22), .build [(.val (.int .i64 0)), (.val (.int .i64 0)), (.val (.int .i64 0)), (.val (.bool false)), (.val (.bool false)), (.val (.int .i64 0))] [(0, 1, (.av (.val (.int .i64 1)))), (1, 1, (.av (.val (.int .i64 0)))), (2, 1, (.av (.val (.int .i64 0)))), (3, 1, (.av (.val (.bool true)))), (4, 1, (.av (.val (.bool false)))), (5, 1, (.av (.val (.int .i64 2))))], none, true⟩,
                   ⟨none, .store 6 (.tmp 2) (.tmp 22), none, true⟩,
                   ⟨(some 3), .mv (.av (.val (.bool true))), none, true⟩])
               (.ret))
               (.seq (.ops [⟨(some 24), .bin .eql (.tmp 4) (.av (.val (.int .i64 7))), none, true⟩,
                   ⟨(some 23), .mv (.tmp 24), none, true⟩])
               (.cond (.tmp 23)
                 (.seq (.ops [⟨(some 25), .build [(.val (.int .i64 0)), (.val (.int .i64 0)), (.val (.int .i64 0)), (.val (.bool false)), (.val (.bool false)), (.val (.int .i64 0))] [(0, 1, (.av (.val (.int .i64 2)))), (1, 1, (.av (.val (.int .i64 3)))), (2, 1, (.av (.val (.int .i64 10)))), (3, 1, (.av (.val (.bool false)))), (4, 1, (.av (.val (.bool true)))), (5, 1, (.av (.val (.int .i64 1))))], none, true⟩,
                     ⟨none, .store 6 (.tmp 2) (.tmp 25), none, true⟩,
                     ⟨(some 3), .mv (.av (.val (.bool true))), none, true⟩])
                 (.ret))
                 (.seq (.ops [⟨(some 27), .bin .eql (.tmp 4) (.av (.val (.int .i64 8))), none, true⟩,
                     ⟨(some 26), .mv (.tmp 27), none, true⟩])
                 (.cond (.tmp 26)
                   (.seq (.ops [⟨(some 28), .build [(.val (.int .i64 0)), (.val (.int .i64 0)), (.val (.int .i64 0)), (.val (.bool false)), (.val (.bool false)), (.val (.int .i64 0))] [(0, 1, (.av (.val (.int .i64 1)))), (1, 1, (.av (.val (.int .i64 11)))), (2, 1, (.av (.val (.int .i64 12)))), (3, 1, (.av (.val (.bool false)))), (4, 1, (.av (.val (.bool true)))), (5, 1, (.av (.val (.int .i64 1))))], none, true⟩,
                       ⟨none, .store 6 (.tmp 2) (.tmp 28), none, true⟩,
                       ⟨(some 3), .mv (.av (.val (.bool true))), none, true⟩])
                   (.ret))
                   (.seq (.ops [⟨(some 30), .bin .eql (.tmp 4) (.av (.val (.int .i64 9))), none, true⟩,
                       ⟨(some 29), .mv (.tmp 30), none, true⟩])
                   (.cond (.tmp 29)
                     (.seq (.ops [⟨(some 31), .build [(.val (.int .i64 0)), (.val (.int .i64 0)), (.val (.int .i64 0)), (.val (.bool false)), (.val (.bool false)), (.val (.int .i64 0))] [(0, 1, (.av (.val (.int .i64 1)))), (1, 1, (.av (.val (.int .i64 1)))), (2, 1, (.av (.val (.int .i64 7)))), (3, 1, (.av (.val (.bool false)))), (4, 1, (.av (.val (.bool false)))), (5, 1, (.av (.val (.int .i64 2))))], none, true⟩,
                         ⟨none, .store 6 (.tmp 2) (.tmp 31), none, true⟩,
                         ⟨(some 3), .mv (.av (.val (.bool true))), none, true⟩])
                     (.ret))
                     (.seq (.ops [⟨(some 33), .bin .eql (.tmp 4) (.av (.val (.int .i64 10))), none, true⟩,
                         ⟨(some 32), .mv (.tmp 33), none, true⟩])
                     (.cond (.tmp 32)
                       (.seq (.ops [⟨(some 34), .build [(.val (.int .i64 0)), (.val (.int .i64 0)), (.val (.int .i64 0)), (.val (.bool false)), (.val (.bool false)), (.val (.int .i64 0))] [(0, 1, (.av (.val (.int .i64 1)))), (1, 1, (.av (.val (.int .i64 0)))), (2, 1, (.av (.val (.int .i64 99)))), (3, 1, (.av (.val (.bool false)))), (4, 1, (.av (.val (.bool true)))), (5, 1, (.av (.val (.int .i64 0))))], none, true⟩,
                           ⟨none, .store 6 (.tmp 2) (.tmp 34), none, true⟩,
                           ⟨(some 3), .mv (.av (.val (.bool true))), none, true⟩])
                       (.ret))
                       (.seq (.ops [⟨(some 36), .bin .eql (.tmp 4) (.av (.val (.int .i64 11))), none, true⟩,
                           ⟨(some 35), .mv (.tmp 36), none, true⟩])
                       (.cond (.tmp 35)
                         (.seq (.ops [⟨(some 37), .build [(.val (.int .i64 0)), (.val (.int .i64 0)), (.val (.int .i64 0)), (.val (.bool false)), (.val (.bool false)), (.val (.int .i64 0))] [(0, 1, (.av (.val (.int .i64 2)))), (1, 1, (.av (.val (.int .i64 0)))), (2, 1, (.av (.val (.int .i64 99)))), (3, 1, (.av (.val (.bool false)))), (4, 1, (.av (.val (.bool false)))), (5, 1, (.av (.val (.int .i64 0))))], none, true⟩,
                             ⟨none, .store 6 (.tmp 2) (.tmp 37), none, true⟩,
                             ⟨(some 3), .mv (.av (.val (.bool true))), none, true⟩])
                         (.ret))
                         (.seq (.ops [⟨(some 39), .bin .eql (.tmp 4) (.av (.val (.int .i64 12))), none, true⟩,
                             ⟨(some 38), .mv (.tmp 39), none, true⟩])
                         (.cond (.tmp 38)
                           (.seq (.ops [⟨(some 40), .build [(.val (.int .i64 0)), (.val (.int .i64 0)), (.val (.int .i64 0)), (.val (.bool false)), (.val (.bool false)), (.val (.int .i64 0))] [(0, 1, (.av (.val (.int .i64 2)))), (1, 1, (.av (.val (.int .i64 1)))), (2, 1, (.av (.val (.int .i64 1073741824)))), (3, 1, (.av (.val (.bool false)))), (4, 1, (.av (.val (.bool false)))), (5, 1, (.av (.val (.int .i64 2))))], none, true⟩,
                               ⟨none, .store 6 (.tmp 2) (.tmp 40), none, true⟩,
                               ⟨(some 3), .mv (.av (.val (.bool true))), none, true⟩])
                           (.ret))
                           (.seq (.ops [⟨(some 42), .bin .eql (.tmp 4) (.av (.val (.int .i64 13))), none, true⟩,
                               ⟨(some 41), .mv (.tmp 42), none, true⟩])
                           (.cond (.tmp 41)
                             (.seq (.ops [⟨(some 43), .build [(.val (.int .i64 0)), (.val (.int .i64 0)), (.val (.int .i64 0)), (.val (.bool false)), (.val (.bool false)), (.val (.int .i64 0))] [(0, 1, (.av (.val (.int .i64 2)))), (1, 1, (.av (.val (.int .i64 0)))), (2, 1, (.av (.val (.int .i64 0)))), (3, 1, (.av (.val (.bool false)))), (4, 1, (.av (.val (.bool true)))), (5, 1, (.av (.val (.int .i64 2))))], none, true⟩,
                                 ⟨none, .store 6 (.tmp 2) (.tmp 43), none, true⟩,
                                 ⟨(some 3), .mv (.av (.val (.bool true))), none, true⟩])
                             (.ret))
                             (.seq (.ops [⟨(some 45), .bin .eql (.tmp 4) (.av (.val (.int .i64 14))), none, true⟩,
                                 ⟨(some 44), .mv (.tmp 45), none, true⟩])
                             (.cond (.tmp 44)
                               (.seq (.ops [⟨(some 46), .build [(.val (.int .i64 0)), (.val (.int .i64 0)), (.val (.int .i64 0)), (.val (.bool false)), (.val (.bool false)), (.val (.int .i64 0))] [(0, 1, (.av (.val (.int .i64 3)))), (1, 1, (.av (.val (.int .i64 0)))), (2, 1, (.av (.val (.int .i64 0)))), (3, 1, (.av (.val (.bool false)))), (4, 1, (.av (.val (.bool false)))), (5, 1, (.av (.val (.int .i64 2))))], none, true⟩,
                                   ⟨none, .store 6 (.tmp 2) (.tmp 46), none, true⟩,
                                   ⟨(some 3), .mv (.av (.val (.bool true))), none, true⟩])
                               (.ret))
                               (.seq (.ops [⟨(some 48), .bin .eql (.tmp 4) (.av (.val (.int .i64 15))), none, true⟩,
                                   ⟨(some 47), .mv (.tmp 48), none, true⟩])
                               (.cond (.tmp 47)
                                 (.seq (.ops [⟨(some 49), .build [(.val (.int .i64 0)), (.val (.int .i64 0)), (.val (.int .i64 0)), (.val (.bool false)), (.val (.bool false)), (.val (.int .i64 0))] [(0, 1, (.av (.val (.int .i64 1)))), (1, 1, (.av (.val (.int .i64 0)))), (2, 1, (.av (.val (.int .i64 0)))), (3, 1, (.av (.val (.bool false)))), (4, 1, (.av (.val (.bool true)))), (5, 1, (.av (.val (.int .i64 0))))], none, true⟩,
                                     ⟨none, .store 6 (.tmp 2) (.tmp 49), none, true⟩,
                                     ⟨(some 3), .mv (.av (.val (.bool true))), none, true⟩])
                                 (.ret))
                                 (.seq (.ops [⟨(some 51), .bin .eql (.tmp 4) (.av (.val (.int .i64 16))), none, true⟩,
                                     ⟨(some 50), .mv (.tmp 51), none, true⟩])
                                 (.cond (.tmp 50)
                                   (.seq (.ops [⟨(some 52), .build [(.val (.int .i64 0)), (.val (.int .i64 0)), (.val (.int .i64 0)), (.val (.bool false)), (.val (.bool false)), (.val (.int .i64 0))] [(0, 1, (.av (.val (.int .i64 0)))), (1, 1, (.av (.val (.int .i64 1)))), (2, 1, (.av (.val (.int .i64 3)))), (3, 1, (.av (.val (.bool false)))), (4, 1, (.av (.val (.bool true)))), (5, 1, (.av (.val (.int .i64 2))))], none, true⟩,
                                       ⟨none, .store 6 (.tmp 2) (.tmp 52), none, true⟩,
                                       ⟨(some 3), .mv (.av (.val (.bool true))), none, true⟩])
                                   (.ret))
                                   (.seq (.ops [⟨(some 54), .bin .eql (.tmp 4) (.av (.val (.int .i64 17))), none, true⟩,
                                       ⟨(some 53), .mv (.tmp 54), none, true⟩])
                                   (.cond (.tmp 53)
                                     (.seq (.ops [⟨(some 55), .build [(.val (.int .i64 0)), (.val (.int .i64 0)), (.val (.int .i64 0)), (.val (.bool false)), (.val (.bool false)), (.val (.int .i64 0))] [(0, 1, (.av (.val (.int .i64 2)))), (1, 1, (.av (.val (.int .i64 0)))), (2, 1, (.av (.val (.int .i64 0)))), (3, 1, (.av (.val (.bool false)))), (4, 1, (.av (.val (.bool false)))), (5, 1, (.av (.val (.int .i64 1))))], none, true⟩,
                                         ⟨none, .store 6 (.tmp 2) (.tmp 55), none, true⟩,
                                         ⟨(some 3), .mv (.av (.val (.bool true))), none, true⟩])
                                     (.ret))
                                     (.seq (.ops [⟨(some 57), .bin .eql (.tmp 4) (.av (.val (.int .i64 18))), none, true⟩,
                                         ⟨(some 56), .mv (.tmp 57), none, true⟩])
                                     (.cond (.tmp 56)
                                       (.seq (.ops [⟨(some 58), .build [(.val (.int .i64 0)), (.val (.int .i64 0)), (.val (.int .i64 0)), (.val (.bool false)), (.val (.bool false)), (.val (.int .i64 0))] [(0, 1, (.av (.val (.int .i64 0)))), (1, 1, (.av (.val (.int .i64 0)))), (2, 1, (.av (.val (.int .i64 0)))), (3, 1, (.av (.val (.bool false)))), (4, 1, (.av (.val (.bool true)))), (5, 1, (.av (.val (.int .i64 2))))], none, true⟩,
                                           ⟨none, .store 6 (.tmp 2) (.tmp 58), none, true⟩,
                                           ⟨(some 3), .mv (.av (.val (.bool true))), none, true⟩])
                                       (.ret))
                                       (.seq (.ops [⟨(some 60), .bin .eql (.tmp 4) (.av (.val (.int .i64 19))), none, true⟩,
                                           ⟨(some 59), .mv (.tmp 60), none, true⟩])
                                       (.cond (.tmp 59)
                                         (.seq (.ops [⟨(some 61), .build [(.val (.int .i64 0)), (.val (.int .i64 0)), (.val (.int .i64 0)), (.val (.bool false)), (.val (.bool false)), (.val (.int .i64 0))] [(0, 1, (.av (.val (.int .i64 0)))), (1, 1, (.av (.val (.int .i64 1)))), (2, 1, (.av (.val (.int .i64 1073741824)))), (3, 1, (.av (.val (.bool false)))), (4, 1, (.av (.val (.bool false)))), (5, 1, (.av (.val (.int .i64 2))))], none, true⟩,
                                             ⟨none, .store 6 (.tmp 2) (.tmp 61), none, true⟩,
                                             ⟨(some 3), .mv (.av (.val (.bool true))), none, true⟩])
                                         (.ret))
                                         (.skip)))))))))))))))))))))))))))))))))))))))))
  (.seq (.ops [⟨(some 62), .build [(.val (.int .i64 0)), (.val (.int .i64 0)), (.val (.int .i64 0)), (.val (.bool false)), (.val (.bool false)), (.val (.int .i64 0))] [], none, true⟩,
      ⟨none, .store 6 (.tmp 2) (.tmp 62), none, true⟩,
      ⟨(some 3), .mv (.av (.val (.bool false))), none, true⟩])
  (.ret)))
theorem f_li_of : cFunc Try.prog 44 = some ⟨63, c_li_of, [.cell 2 (some 6), .tmp 3]⟩ := by kernel_rfl
/-- backstitch/live.known: its code in AM. -/
def c_li_known : ACode := .seq (.ops [⟨(some 2), .mv (.av (.val (.bool false))), none, true⟩])
  (.seq (.ops [⟨(some 3), .mv (.tmp 0), none, true⟩,
      ⟨(some 4), .bin .geq (.tmp 3) (.av (.val (.int .i64 1))), none, true⟩,
      ⟨(some 5), .mv (.tmp 4), none, true⟩,
      ⟨(some 6), .mv (.tmp 0), (some (5, true)), true⟩,
      ⟨(some 7), .bin .lss (.tmp 6) (.av (.val (.int .i64 20))), (some (5, true)), true⟩,
      ⟨(some 8), .pick (.tmp 5) (.tmp 7) (.av (.val (.bool false))), none, true⟩,
      ⟨(some 2), .mv (.tmp 8), none, true⟩])
  (.ret))
theorem f_li_known : cFunc Try.prog 49 = some ⟨9, c_li_known, [.tmp 2]⟩ := by kernel_rfl
/-- slices.ContainsFunc[[]int,int]: its code in AM. -/
def c_li_cfI : ACode := .seq (.ops [⟨(some 4), .mv (.av (.val (.bool false))), none, true⟩])
  (.seq (.ops [⟨(some 5), .mv (.tmp 0), none, true⟩,
      ⟨(some 6), .mv (.tmp 1), none, true⟩,
      ⟨(some 7), .call (.av (.func 60 [])) [(.tmp 5), (.tmp 6)], none, true⟩,
      ⟨(some 8), .bin .geq (.tmp 7) (.av (.val (.int .i64 0))), none, true⟩,
      ⟨(some 4), .mv (.tmp 8), none, true⟩])
  (.ret))
theorem f_li_cfI : cFunc Try.prog 50 = some ⟨9, c_li_cfI, [.tmp 4]⟩ := by kernel_rfl
/-- backstitch/live.all$1: its code in AM. -/
def c_li_alla : ACode := .seq (.ops [⟨(some 4), .mv (.av (.val (.bool false))), none, true⟩])
  (.seq (.ops [⟨(some 5), .mv (.tmp 0), none, true⟩,
      ⟨(some 6), .bin .lss (.tmp 5) (.av (.val (.int .i64 0))), none, true⟩,
      ⟨(some 7), .mv (.tmp 6), none, true⟩,
      ⟨(some 8), .mv (.tmp 0), (some (7, false)), true⟩,
      ⟨(some 9), .load none (.tmp 1), (some (7, false)), true⟩,
      ⟨(some 10), .bin .geq (.tmp 8) (.tmp 9), (some (7, false)), true⟩,
      ⟨(some 11), .pick (.tmp 7) (.av (.val (.bool true))) (.tmp 10), none, true⟩,
      ⟨(some 12), .mv (.tmp 11), none, true⟩,
      ⟨(some 13), .mv (.tmp 0), (some (12, false)), true⟩,
      ⟨(some 14), .fieldAddr 3 (.tmp 2), (some (12, false)), true⟩,
      ⟨(some 15), .load none (.tmp 14), (some (12, false)), true⟩,
      ⟨(some 16), .len (.tmp 15), (some (12, false)), true⟩,
      ⟨(some 17), .bin .geq (.tmp 13) (.tmp 16), (some (12, false)), true⟩,
      ⟨(some 18), .pick (.tmp 12) (.av (.val (.bool true))) (.tmp 17), none, true⟩,
      ⟨(some 19), .mv (.tmp 18), none, true⟩,
      ⟨(some 20), .fieldAddr 3 (.tmp 2), (some (19, false)), true⟩,
      ⟨(some 21), .load none (.tmp 20), (some (19, false)), true⟩,
      ⟨(some 22), .mv (.tmp 0), (some (19, false)), true⟩,
      ⟨(some 23), .indexAddr 8 (.tmp 21) (.tmp 22), (some (19, false)), true⟩,
      ⟨(some 24), .fieldAddr 0 (.tmp 23), (some (19, false)), true⟩,
      ⟨(some 25), .load none (.tmp 24), (some (19, false)), true⟩,
      ⟨(some 26), .call (.av (.func 52 [])) [(.tmp 25)], (some (19, false)), true⟩,
      ⟨(some 27), .un .not (.tmp 26), (some (19, false)), true⟩,
      ⟨(some 28), .pick (.tmp 19) (.av (.val (.bool true))) (.tmp 27), none, true⟩,
      ⟨(some 4), .mv (.tmp 28), none, true⟩])
  (.ret))
theorem f_li_alla : cFunc Try.prog 51 = some ⟨29, c_li_alla, [.tmp 4]⟩ := by kernel_rfl
/-- backstitch/ir.Tells: its code in AM. -/
def c_li_tells : ACode := .seq (.ops [⟨(some 2), .mv (.av (.val (.bool false))), none, true⟩])
  (.seq (.ops [⟨(some 6), .mv (.tmp 0), none, true⟩,
      ⟨(some 7), .call (.av (.func 44 [])) [(.tmp 6)], none, true⟩,
      ⟨(some 5), .mv (.tmp 7), none, true⟩,
      ⟨(some 8), .extract 0 (.tmp 5), none, true⟩,
      ⟨(some 9), .extract 1 (.tmp 5), none, true⟩,
      ⟨(some 3), .zero [(.val (.int .i64 0)), (.val (.int .i64 0)), (.val (.int .i64 0)), (.val (.bool false)), (.val (.bool false)), (.val (.int .i64 0))], none, true⟩,
      ⟨none, .store 6 (.tmp 3) (.tmp 8), none, true⟩,
      ⟨(some 4), .mv (.tmp 9), none, true⟩])
  (.seq (.ops [⟨(some 10), .fieldAddr 4 (.tmp 3), none, true⟩,
      ⟨(some 11), .load none (.tmp 10), none, true⟩,
      ⟨(some 2), .mv (.tmp 11), none, true⟩])
  (.ret)))
theorem f_li_tells : cFunc Try.prog 52 = some ⟨12, c_li_tells, [.tmp 2]⟩ := by kernel_rfl
/-- slices.IndexFunc[[]backstitch/api.TExit,backstitch/api.TExit]: its code in AM. -/
def c_li_ifX : ACode := .seq (.ops [⟨(some 4), .mv (.av (.val (.int .i64 0))), none, true⟩])
  (.seq (.seq (.ops [⟨(some 6), .mv (.tmp 0), none, true⟩,
      ⟨(some 7), .len (.tmp 6), none, true⟩,
      ⟨(some 8), .mv (.av (.val (.int .i64 0))), none, true⟩])
  (rangeCode 0 1 9 8 7 18
    (.seq (.ops [⟨(some 10), .mv (.tmp 8), none, true⟩,
        ⟨(some 5), .mv (.tmp 10), none, true⟩])
    (.seq (.ops [⟨(some 11), .mv (.tmp 1), none, true⟩,
        ⟨(some 12), .mv (.tmp 0), none, true⟩,
        ⟨(some 13), .mv (.tmp 5), none, true⟩,
        ⟨(some 14), .indexAddr 4 (.tmp 12) (.tmp 13), none, true⟩,
        ⟨(some 15), .load (some 4) (.tmp 14), none, true⟩,
        ⟨(some 16), .call (.tmp 11) [(.tmp 15)], none, true⟩])
    (.cond (.tmp 16)
      (.seq (.ops [⟨(some 17), .mv (.tmp 5), none, true⟩,
          ⟨(some 4), .mv (.tmp 17), none, true⟩])
      (.ret))
      (.skip))))))
  (.seq (.ops [⟨(some 4), .mv (.av (.val (.int .i64 (-1)))), none, true⟩])
  (.ret)))
theorem f_li_ifX : cFunc Try.prog 53 = some ⟨19, c_li_ifX, [.tmp 4]⟩ := by kernel_rfl
/-- slices.ContainsFunc[[]backstitch/api.TMake,backstitch/api.TMake]: its code in AM. -/
def c_li_cfM : ACode := .seq (.ops [⟨(some 4), .mv (.av (.val (.bool false))), none, true⟩])
  (.seq (.ops [⟨(some 5), .mv (.tmp 0), none, true⟩,
      ⟨(some 6), .mv (.tmp 1), none, true⟩,
      ⟨(some 7), .call (.av (.func 61 [])) [(.tmp 5), (.tmp 6)], none, true⟩,
      ⟨(some 8), .bin .geq (.tmp 7) (.av (.val (.int .i64 0))), none, true⟩,
      ⟨(some 4), .mv (.tmp 8), none, true⟩])
  (.ret))
theorem f_li_cfM : cFunc Try.prog 54 = some ⟨9, c_li_cfM, [.tmp 4]⟩ := by kernel_rfl
/-- backstitch/live.large$1: its code in AM. -/
def c_li_largea : ACode := .seq (.ops [⟨(some 1), .box 4 (.tmp 0), none, true⟩,
      ⟨(some 2), .mv (.av (.val (.bool false))), none, true⟩])
  (.seq (.ops [⟨(some 3), .fieldAddr 3 (.tmp 1), none, true⟩,
      ⟨(some 4), .load none (.tmp 3), none, true⟩,
      ⟨(some 5), .len (.tmp 4), none, true⟩,
      ⟨(some 6), .bin .gtr (.tmp 5) (.av (.val (.int .i64 100))), none, true⟩,
      ⟨(some 2), .mv (.tmp 6), none, true⟩])
  (.ret))
theorem f_li_largea : cFunc Try.prog 55 = some ⟨7, c_li_largea, [.tmp 2]⟩ := by kernel_rfl
/-- slices.IndexFunc[[]int,int]: its code in AM. -/
def c_li_ifI : ACode := .seq (.ops [⟨(some 4), .mv (.av (.val (.int .i64 0))), none, true⟩])
  (.seq (.seq (.ops [⟨(some 6), .mv (.tmp 0), none, true⟩,
      ⟨(some 7), .len (.tmp 6), none, true⟩,
      ⟨(some 8), .mv (.av (.val (.int .i64 0))), none, true⟩])
  (rangeCode 0 1 9 8 7 18
    (.seq (.ops [⟨(some 10), .mv (.tmp 8), none, true⟩,
        ⟨(some 5), .mv (.tmp 10), none, true⟩])
    (.seq (.ops [⟨(some 11), .mv (.tmp 1), none, true⟩,
        ⟨(some 12), .mv (.tmp 0), none, true⟩,
        ⟨(some 13), .mv (.tmp 5), none, true⟩,
        ⟨(some 14), .indexAddr 1 (.tmp 12) (.tmp 13), none, true⟩,
        ⟨(some 15), .load none (.tmp 14), none, true⟩,
        ⟨(some 16), .call (.tmp 11) [(.tmp 15)], none, true⟩])
    (.cond (.tmp 16)
      (.seq (.ops [⟨(some 17), .mv (.tmp 5), none, true⟩,
          ⟨(some 4), .mv (.tmp 17), none, true⟩])
      (.ret))
      (.skip))))))
  (.seq (.ops [⟨(some 4), .mv (.av (.val (.int .i64 (-1)))), none, true⟩])
  (.ret)))
theorem f_li_ifI : cFunc Try.prog 60 = some ⟨19, c_li_ifI, [.tmp 4]⟩ := by kernel_rfl
/-- slices.IndexFunc[[]backstitch/api.TMake,backstitch/api.TMake]: its code in AM. -/
def c_li_ifM : ACode := .seq (.ops [⟨(some 4), .mv (.av (.val (.int .i64 0))), none, true⟩])
  (.seq (.seq (.ops [⟨(some 6), .mv (.tmp 0), none, true⟩,
      ⟨(some 7), .len (.tmp 6), none, true⟩,
      ⟨(some 8), .mv (.av (.val (.int .i64 0))), none, true⟩])
  (rangeCode 0 1 9 8 7 18
    (.seq (.ops [⟨(some 10), .mv (.tmp 8), none, true⟩,
        ⟨(some 5), .mv (.tmp 10), none, true⟩])
    (.seq (.ops [⟨(some 11), .mv (.tmp 1), none, true⟩,
        ⟨(some 12), .mv (.tmp 0), none, true⟩,
        ⟨(some 13), .mv (.tmp 5), none, true⟩,
        ⟨(some 14), .indexAddr 4 (.tmp 12) (.tmp 13), none, true⟩,
        ⟨(some 15), .load (some 4) (.tmp 14), none, true⟩,
        ⟨(some 16), .call (.tmp 11) [(.tmp 15)], none, true⟩])
    (.cond (.tmp 16)
      (.seq (.ops [⟨(some 17), .mv (.tmp 5), none, true⟩,
          ⟨(some 4), .mv (.tmp 17), none, true⟩])
      (.ret))
      (.skip))))))
  (.seq (.ops [⟨(some 4), .mv (.av (.val (.int .i64 (-1)))), none, true⟩])
  (.ret)))
theorem f_li_ifM : cFunc Try.prog 61 = some ⟨19, c_li_ifM, [.tmp 4]⟩ := by kernel_rfl
end Go.Proofs.Ytoeppobpnhlebaa

namespace Go.Proofs.Ytoeppobpnhlebaa
open Go Go.RowKit
set_option linter.unusedVariables false
set_option linter.unusedSimpArgs false
variable {tb : List (FuncId × Bool)} {L : Nat → Bool} {H : ZH} {K : ZV → ZH → Prop}
/-- Of an operation: how many values it asks, whether it tells one. -/
def opT : List (Int × Bool) := [(0, false), (0, true), (0, true), (0, true), (1, false), (1, false), (1, false), (2, true), (1, true), (1, false), (1, true), (2, false), (2, false), (2, true), (3, false), (1, true), (0, true), (2, false), (0, true), (0, false)]
def isOp (op : Int) : Bool := decide (1 ≤ op) && decide (op ≤ 19)
def opE (op : Int) : Int × Bool := if isOp op = true then opT.getD op.toNat (0, false) else (0, false)
theorem op_cases (op : Int) : op = 1 ∨ op = 2 ∨ op = 3 ∨ op = 4 ∨ op = 5 ∨ op = 6 ∨ op = 7 ∨ op = 8 ∨ op = 9 ∨ op = 10 ∨ op = 11 ∨ op = 12 ∨ op = 13 ∨ op = 14 ∨ op = 15 ∨ op = 16 ∨ op = 17 ∨ op = 18 ∨ op = 19 ∨ isOp op = false := by
  unfold isOp
  simp only [Bool.and_eq_false_iff, decide_eq_false_iff_not]
  omega
set_option maxHeartbeats 8000000 in
theorem of_z {op : Int} (hK : ∀ lo hi k e, K (.tuple [.agg [Z64 (opE op).1, Z64 lo, Z64 hi, ZBo k, ZBo (opE op).2, Z64 e], ZBo (isOp op)]) H) :
    ZC (constX tb) (cFunc Try.prog) 44 [Z64 op] L H K := by
  refine ZC.enterL Gh.no constX_none f_li_of (by simp) fun hL => ?_
  simp only [c_li_of]
  have fin : ∀ lo hi k e X, Fin H (.tuple [.agg [Z64 (opE op).1, Z64 lo, Z64 hi, ZBo k, ZBo (opE op).2, Z64 e], ZBo (isOp op)]) (H ++ X) K := fun lo hi k e X => Fin.trunc (Mods.ext H X) rfl (by rw [List.take_left]; exact hK lo hi k e)
  clear hK
  have l0 : L H.length = true := hL 0
  have g0 : ∀ A, (H ++ [A])[H.length]? = some A := fun A => by rw [List.getElem?_append_right (Nat.le_refl _), Nat.sub_self]; rfl
  have s0 : ∀ A C : ZB, (H ++ [A]).set H.length C = H ++ [C] := fun A C => by rw [List.set_append_right _ _ (Nat.le_refl _), Nat.sub_self]; rfl
  rcases op_cases op with rfl | rfl | rfl | rfl | rfl | rfl | rfl | rfl | rfl | rfl | rfl | rfl | rfl | rfl | rfl | rfl | rfl | rfl | rfl | h
  · simp only [show opE 1 = (0, true) from rfl, show isOp 1 = true from rfl] at fin
    repeat' (first | (simp only [zmPack, zxPack, ne_eq, zfree, owners, Nat.reduceLT, List.contains_cons, List.contains_nil, Nat.reduceBEq, BEq.rfl, chunk, setAt, List.lookup_cons, List.lookup_nil, reduceCtorEq, Nat.reduceEqDiff, reduceIte, implies_true, forall_const, Nat.reduceMul, Nat.reduceSub, Nat.reduceAdd, Nat.reduceLeDiff, l0, g0, s0, Int.reduceEq, *]) | (simp only [zgoO, zgoG, zO_nil, zthen_normal, zgoC]) | (with_reducible apply And.intro) | (with_reducible intro _))
  · simp only [show opE 2 = (0, true) from rfl, show isOp 2 = true from rfl] at fin
    repeat' (first | (simp only [zmPack, zxPack, ne_eq, zfree, owners, Nat.reduceLT, List.contains_cons, List.contains_nil, Nat.reduceBEq, BEq.rfl, chunk, setAt, List.lookup_cons, List.lookup_nil, reduceCtorEq, Nat.reduceEqDiff, reduceIte, implies_true, forall_const, Nat.reduceMul, Nat.reduceSub, Nat.reduceAdd, Nat.reduceLeDiff, l0, g0, s0, Int.reduceEq, *]) | (simp only [zgoO, zgoG, zO_nil, zthen_normal, zgoC]) | (with_reducible apply And.intro) | (with_reducible intro _))
  · simp only [show opE 3 = (0, true) from rfl, show isOp 3 = true from rfl] at fin
    repeat' (first | (simp only [zmPack, zxPack, ne_eq, zfree, owners, Nat.reduceLT, List.contains_cons, List.contains_nil, Nat.reduceBEq, BEq.rfl, chunk, setAt, List.lookup_cons, List.lookup_nil, reduceCtorEq, Nat.reduceEqDiff, reduceIte, implies_true, forall_const, Nat.reduceMul, Nat.reduceSub, Nat.reduceAdd, Nat.reduceLeDiff, l0, g0, s0, Int.reduceEq, *]) | (simp only [zgoO, zgoG, zO_nil, zthen_normal, zgoC]) | (with_reducible apply And.intro) | (with_reducible intro _))
  · simp only [show opE 4 = (1, false) from rfl, show isOp 4 = true from rfl] at fin
    repeat' (first | (simp only [zmPack, zxPack, ne_eq, zfree, owners, Nat.reduceLT, List.contains_cons, List.contains_nil, Nat.reduceBEq, BEq.rfl, chunk, setAt, List.lookup_cons, List.lookup_nil, reduceCtorEq, Nat.reduceEqDiff, reduceIte, implies_true, forall_const, Nat.reduceMul, Nat.reduceSub, Nat.reduceAdd, Nat.reduceLeDiff, l0, g0, s0, Int.reduceEq, *]) | (simp only [zgoO, zgoG, zO_nil, zthen_normal, zgoC]) | (with_reducible apply And.intro) | (with_reducible intro _))
  · simp only [show opE 5 = (1, false) from rfl, show isOp 5 = true from rfl] at fin
    repeat' (first | (simp only [zmPack, zxPack, ne_eq, zfree, owners, Nat.reduceLT, List.contains_cons, List.contains_nil, Nat.reduceBEq, BEq.rfl, chunk, setAt, List.lookup_cons, List.lookup_nil, reduceCtorEq, Nat.reduceEqDiff, reduceIte, implies_true, forall_const, Nat.reduceMul, Nat.reduceSub, Nat.reduceAdd, Nat.reduceLeDiff, l0, g0, s0, Int.reduceEq, *]) | (simp only [zgoO, zgoG, zO_nil, zthen_normal, zgoC]) | (with_reducible apply And.intro) | (with_reducible intro _))
  · simp only [show opE 6 = (1, false) from rfl, show isOp 6 = true from rfl] at fin
    repeat' (first | (simp only [zmPack, zxPack, ne_eq, zfree, owners, Nat.reduceLT, List.contains_cons, List.contains_nil, Nat.reduceBEq, BEq.rfl, chunk, setAt, List.lookup_cons, List.lookup_nil, reduceCtorEq, Nat.reduceEqDiff, reduceIte, implies_true, forall_const, Nat.reduceMul, Nat.reduceSub, Nat.reduceAdd, Nat.reduceLeDiff, l0, g0, s0, Int.reduceEq, *]) | (simp only [zgoO, zgoG, zO_nil, zthen_normal, zgoC]) | (with_reducible apply And.intro) | (with_reducible intro _))
  · simp only [show opE 7 = (2, true) from rfl, show isOp 7 = true from rfl] at fin
    repeat' (first | (simp only [zmPack, zxPack, ne_eq, zfree, owners, Nat.reduceLT, List.contains_cons, List.contains_nil, Nat.reduceBEq, BEq.rfl, chunk, setAt, List.lookup_cons, List.lookup_nil, reduceCtorEq, Nat.reduceEqDiff, reduceIte, implies_true, forall_const, Nat.reduceMul, Nat.reduceSub, Nat.reduceAdd, Nat.reduceLeDiff, l0, g0, s0, Int.reduceEq, *]) | (simp only [zgoO, zgoG, zO_nil, zthen_normal, zgoC]) | (with_reducible apply And.intro) | (with_reducible intro _))
  · simp only [show opE 8 = (1, true) from rfl, show isOp 8 = true from rfl] at fin
    repeat' (first | (simp only [zmPack, zxPack, ne_eq, zfree, owners, Nat.reduceLT, List.contains_cons, List.contains_nil, Nat.reduceBEq, BEq.rfl, chunk, setAt, List.lookup_cons, List.lookup_nil, reduceCtorEq, Nat.reduceEqDiff, reduceIte, implies_true, forall_const, Nat.reduceMul, Nat.reduceSub, Nat.reduceAdd, Nat.reduceLeDiff, l0, g0, s0, Int.reduceEq, *]) | (simp only [zgoO, zgoG, zO_nil, zthen_normal, zgoC]) | (with_reducible apply And.intro) | (with_reducible intro _))
  · simp only [show opE 9 = (1, false) from rfl, show isOp 9 = true from rfl] at fin
    repeat' (first | (simp only [zmPack, zxPack, ne_eq, zfree, owners, Nat.reduceLT, List.contains_cons, List.contains_nil, Nat.reduceBEq, BEq.rfl, chunk, setAt, List.lookup_cons, List.lookup_nil, reduceCtorEq, Nat.reduceEqDiff, reduceIte, implies_true, forall_const, Nat.reduceMul, Nat.reduceSub, Nat.reduceAdd, Nat.reduceLeDiff, l0, g0, s0, Int.reduceEq, *]) | (simp only [zgoO, zgoG, zO_nil, zthen_normal, zgoC]) | (with_reducible apply And.intro) | (with_reducible intro _))
  · simp only [show opE 10 = (1, true) from rfl, show isOp 10 = true from rfl] at fin
    repeat' (first | (simp only [zmPack, zxPack, ne_eq, zfree, owners, Nat.reduceLT, List.contains_cons, List.contains_nil, Nat.reduceBEq, BEq.rfl, chunk, setAt, List.lookup_cons, List.lookup_nil, reduceCtorEq, Nat.reduceEqDiff, reduceIte, implies_true, forall_const, Nat.reduceMul, Nat.reduceSub, Nat.reduceAdd, Nat.reduceLeDiff, l0, g0, s0, Int.reduceEq, *]) | (simp only [zgoO, zgoG, zO_nil, zthen_normal, zgoC]) | (with_reducible apply And.intro) | (with_reducible intro _))
  · simp only [show opE 11 = (2, false) from rfl, show isOp 11 = true from rfl] at fin
    repeat' (first | (simp only [zmPack, zxPack, ne_eq, zfree, owners, Nat.reduceLT, List.contains_cons, List.contains_nil, Nat.reduceBEq, BEq.rfl, chunk, setAt, List.lookup_cons, List.lookup_nil, reduceCtorEq, Nat.reduceEqDiff, reduceIte, implies_true, forall_const, Nat.reduceMul, Nat.reduceSub, Nat.reduceAdd, Nat.reduceLeDiff, l0, g0, s0, Int.reduceEq, *]) | (simp only [zgoO, zgoG, zO_nil, zthen_normal, zgoC]) | (with_reducible apply And.intro) | (with_reducible intro _))
  · simp only [show opE 12 = (2, false) from rfl, show isOp 12 = true from rfl] at fin
    repeat' (first | (simp only [zmPack, zxPack, ne_eq, zfree, owners, Nat.reduceLT, List.contains_cons, List.contains_nil, Nat.reduceBEq, BEq.rfl, chunk, setAt, List.lookup_cons, List.lookup_nil, reduceCtorEq, Nat.reduceEqDiff, reduceIte, implies_true, forall_const, Nat.reduceMul, Nat.reduceSub, Nat.reduceAdd, Nat.reduceLeDiff, l0, g0, s0, Int.reduceEq, *]) | (simp only [zgoO, zgoG, zO_nil, zthen_normal, zgoC]) | (with_reducible apply And.intro) | (with_reducible intro _))
  · simp only [show opE 13 = (2, true) from rfl, show isOp 13 = true from rfl] at fin
    repeat' (first | (simp only [zmPack, zxPack, ne_eq, zfree, owners, Nat.reduceLT, List.contains_cons, List.contains_nil, Nat.reduceBEq, BEq.rfl, chunk, setAt, List.lookup_cons, List.lookup_nil, reduceCtorEq, Nat.reduceEqDiff, reduceIte, implies_true, forall_const, Nat.reduceMul, Nat.reduceSub, Nat.reduceAdd, Nat.reduceLeDiff, l0, g0, s0, Int.reduceEq, *]) | (simp only [zgoO, zgoG, zO_nil, zthen_normal, zgoC]) | (with_reducible apply And.intro) | (with_reducible intro _))
  · simp only [show opE 14 = (3, false) from rfl, show isOp 14 = true from rfl] at fin
    repeat' (first | (simp only [zmPack, zxPack, ne_eq, zfree, owners, Nat.reduceLT, List.contains_cons, List.contains_nil, Nat.reduceBEq, BEq.rfl, chunk, setAt, List.lookup_cons, List.lookup_nil, reduceCtorEq, Nat.reduceEqDiff, reduceIte, implies_true, forall_const, Nat.reduceMul, Nat.reduceSub, Nat.reduceAdd, Nat.reduceLeDiff, l0, g0, s0, Int.reduceEq, *]) | (simp only [zgoO, zgoG, zO_nil, zthen_normal, zgoC]) | (with_reducible apply And.intro) | (with_reducible intro _))
  · simp only [show opE 15 = (1, true) from rfl, show isOp 15 = true from rfl] at fin
    repeat' (first | (simp only [zmPack, zxPack, ne_eq, zfree, owners, Nat.reduceLT, List.contains_cons, List.contains_nil, Nat.reduceBEq, BEq.rfl, chunk, setAt, List.lookup_cons, List.lookup_nil, reduceCtorEq, Nat.reduceEqDiff, reduceIte, implies_true, forall_const, Nat.reduceMul, Nat.reduceSub, Nat.reduceAdd, Nat.reduceLeDiff, l0, g0, s0, Int.reduceEq, *]) | (simp only [zgoO, zgoG, zO_nil, zthen_normal, zgoC]) | (with_reducible apply And.intro) | (with_reducible intro _))
  · simp only [show opE 16 = (0, true) from rfl, show isOp 16 = true from rfl] at fin
    repeat' (first | (simp only [zmPack, zxPack, ne_eq, zfree, owners, Nat.reduceLT, List.contains_cons, List.contains_nil, Nat.reduceBEq, BEq.rfl, chunk, setAt, List.lookup_cons, List.lookup_nil, reduceCtorEq, Nat.reduceEqDiff, reduceIte, implies_true, forall_const, Nat.reduceMul, Nat.reduceSub, Nat.reduceAdd, Nat.reduceLeDiff, l0, g0, s0, Int.reduceEq, *]) | (simp only [zgoO, zgoG, zO_nil, zthen_normal, zgoC]) | (with_reducible apply And.intro) | (with_reducible intro _))
  · simp only [show opE 17 = (2, false) from rfl, show isOp 17 = true from rfl] at fin
    repeat' (first | (simp only [zmPack, zxPack, ne_eq, zfree, owners, Nat.reduceLT, List.contains_cons, List.contains_nil, Nat.reduceBEq, BEq.rfl, chunk, setAt, List.lookup_cons, List.lookup_nil, reduceCtorEq, Nat.reduceEqDiff, reduceIte, implies_true, forall_const, Nat.reduceMul, Nat.reduceSub, Nat.reduceAdd, Nat.reduceLeDiff, l0, g0, s0, Int.reduceEq, *]) | (simp only [zgoO, zgoG, zO_nil, zthen_normal, zgoC]) | (with_reducible apply And.intro) | (with_reducible intro _))
  · simp only [show opE 18 = (0, true) from rfl, show isOp 18 = true from rfl] at fin
    repeat' (first | (simp only [zmPack, zxPack, ne_eq, zfree, owners, Nat.reduceLT, List.contains_cons, List.contains_nil, Nat.reduceBEq, BEq.rfl, chunk, setAt, List.lookup_cons, List.lookup_nil, reduceCtorEq, Nat.reduceEqDiff, reduceIte, implies_true, forall_const, Nat.reduceMul, Nat.reduceSub, Nat.reduceAdd, Nat.reduceLeDiff, l0, g0, s0, Int.reduceEq, *]) | (simp only [zgoO, zgoG, zO_nil, zthen_normal, zgoC]) | (with_reducible apply And.intro) | (with_reducible intro _))
  · simp only [show opE 19 = (0, false) from rfl, show isOp 19 = true from rfl] at fin
    repeat' (first | (simp only [zmPack, zxPack, ne_eq, zfree, owners, Nat.reduceLT, List.contains_cons, List.contains_nil, Nat.reduceBEq, BEq.rfl, chunk, setAt, List.lookup_cons, List.lookup_nil, reduceCtorEq, Nat.reduceEqDiff, reduceIte, implies_true, forall_const, Nat.reduceMul, Nat.reduceSub, Nat.reduceAdd, Nat.reduceLeDiff, l0, g0, s0, Int.reduceEq, *]) | (simp only [zgoO, zgoG, zO_nil, zthen_normal, zgoC]) | (with_reducible apply And.intro) | (with_reducible intro _))
  · have e1 : opE op = (0, false) := by unfold opE; rw [if_neg (by rw [h]; simp)]
    simp only [e1, h] at fin
    unfold isOp at h
    simp only [Bool.and_eq_false_iff, decide_eq_false_iff_not] at h
    have n1 : op ≠ 1 := by omega
    have n2 : op ≠ 2 := by omega
    have n3 : op ≠ 3 := by omega
    have n4 : op ≠ 4 := by omega
    have n5 : op ≠ 5 := by omega
    have n6 : op ≠ 6 := by omega
    have n7 : op ≠ 7 := by omega
    have n8 : op ≠ 8 := by omega
    have n9 : op ≠ 9 := by omega
    have n10 : op ≠ 10 := by omega
    have n11 : op ≠ 11 := by omega
    have n12 : op ≠ 12 := by omega
    have n13 : op ≠ 13 := by omega
    have n14 : op ≠ 14 := by omega
    have n15 : op ≠ 15 := by omega
    have n16 : op ≠ 16 := by omega
    have n17 : op ≠ 17 := by omega
    have n18 : op ≠ 18 := by omega
    have n19 : op ≠ 19 := by omega
    clear h e1
    repeat' (first | (simp only [zmPack, zxPack, ne_eq, zfree, owners, Nat.reduceLT, List.contains_cons, List.contains_nil, Nat.reduceBEq, BEq.rfl, chunk, setAt, List.lookup_cons, List.lookup_nil, reduceCtorEq, Nat.reduceEqDiff, reduceIte, implies_true, forall_const, Nat.reduceMul, Nat.reduceSub, Nat.reduceAdd, Nat.reduceLeDiff, l0, g0, s0, n1, n2, n3, n4, n5, n6, n7, n8, n9, n10, n11, n12, n13, n14, n15, n16, n17, n18, n19, *]) | (simp only [zgoO, zgoG, zO_nil, zthen_normal, zgoC]) | (with_reducible apply And.intro) | (with_reducible intro _))
theorem tells_z {op : Int} (hK : K (ZBo (opE op).2) H) : ZC (constX tb) (cFunc Try.prog) 52 [Z64 op] L H K := by
  refine ZC.enterL Gh.no constX_none f_li_tells (by simp) fun hL => ?_
  simp only [c_li_tells]
  have fin : ∀ X, Fin H (ZBo (opE op).2) (H ++ X) K := fun X => Fin.trunc (Mods.ext H X) rfl (by rw [List.take_left]; exact hK)
  clear hK
  have l0 : L H.length = true := hL 0
  have g0 : ∀ A, (H ++ [A])[H.length]? = some A := fun A => by rw [List.getElem?_append_right (Nat.le_refl _), Nat.sub_self]; rfl
  have s0 : ∀ A C : ZB, (H ++ [A]).set H.length C = H ++ [C] := fun A C => by rw [List.set_append_right _ _ (Nat.le_refl _), Nat.sub_self]; rfl
  repeat' (first | (simp only [zmPack, zxPack, ne_eq, zfree, owners, Nat.reduceLT, List.contains_cons, List.contains_nil, Nat.reduceBEq, BEq.rfl, chunk, setAt, List.lookup_cons, List.lookup_nil, reduceCtorEq, Nat.reduceEqDiff, reduceIte, implies_true, forall_const, Nat.reduceMul, Nat.reduceSub, Nat.reduceAdd, Nat.reduceLeDiff, *]) | (simp only [zgoO, zgoG, zO_nil, zthen_normal, zgoC]) | (with_reducible apply And.intro) | (with_reducible intro _))
  refine of_z fun lo hi k e => ?_
  repeat' (first | (simp only [zmPack, zxPack, ne_eq, zfree, owners, Nat.reduceLT, List.contains_cons, List.contains_nil, Nat.reduceBEq, BEq.rfl, chunk, setAt, List.lookup_cons, List.lookup_nil, reduceCtorEq, Nat.reduceEqDiff, reduceIte, implies_true, forall_const, Nat.reduceMul, Nat.reduceSub, Nat.reduceAdd, Nat.reduceLeDiff, l0, g0, s0, *]) | (simp only [zgoO, zgoG, zO_nil, zthen_normal, zgoC]) | (with_reducible apply And.intro) | (with_reducible intro _))
/-- An instruction of a trace. -/
abbrev In := Int × Int × Int × Int × Int × Int × Int × Int
abbrev eIn (x : In) : List ZV := [Z64 x.1, Z64 x.2.1, Z64 x.2.2.1, Z64 x.2.2.2.1, Z64 x.2.2.2.2.1, Z64 x.2.2.2.2.2.1, Z64 x.2.2.2.2.2.2.1, Z64 x.2.2.2.2.2.2.2]
/-- What it asks. -/
def asksI (x : In) : List Int := [x.2.1, x.2.2.1, x.2.2.2.1].take (opE x.1).1.toNat
theorem opE_lt (op : Int) : 0 ≤ (opE op).1 ∧ (opE op).1 ≤ 3 ∧ (isOp op = false → (opE op).1 = 0) := by
  rcases op_cases op with rfl | rfl | rfl | rfl | rfl | rfl | rfl | rfl | rfl | rfl | rfl | rfl | rfl | rfl | rfl | rfl | rfl | rfl | rfl | h
  all_goals first | (refine ⟨by decide, by decide, fun h => ?_⟩; cases h; done) | skip
  have e1 : opE op = (0, false) := by unfold opE; rw [if_neg (by rw [h]; simp)]
  rw [e1]; simp
end Go.Proofs.Ytoeppobpnhlebaa

namespace Go.Proofs.Ytoeppobpnhlebaa
open Go Go.RowKit
set_option linter.unusedVariables false
set_option linter.unusedSimpArgs false
variable {tb : List (FuncId × Bool)} {L : Nat → Bool} {H : ZH} {K : ZV → ZH → Prop}
abbrev Mk := Int × Int × Int × List Int
abbrev Xt := Int × Int × List (Int × Int) × List Mk
abbrev eP2 (p : Int × Int) : List ZV := [Z64 p.1, Z64 p.2]
abbrev eMk (m : Mk) : List ZV := [Z64 m.1, Z64 m.2.1, Z64 m.2.2.1, .fz 1 false (m.2.2.2.map eI)]
abbrev eXt (x : Xt) : List ZV := [Z64 x.1, Z64 x.2.1, .fz 2 false (x.2.2.1.map eP2), .fz 4 false (x.2.2.2.map eMk)]
def valsM (m : Mk) : List Int := m.1 :: m.2.2.2
def valsX (x : Xt) : List Int := x.2.2.1.map (·.2) ++ x.2.2.2.flatMap valsM
theorem num0_z {S : ZS} {d : Nat} : numZ S d none = some d := rfl
theorem num1_z {S : ZS} {d : Nat} {x : Opd} : numZ S d (some x) = (zev S x).bind natZ := by
  simp only [numZ]; cases zev S x <;> rfl
theorem nat_z {n : Nat} : natZ (Z64 (n : Nat)) = some n := natZ_nat
theorem asks_len (x : In) : (asksI x).length ≤ 3 := by unfold asksI; simp; omega
/-- What an instruction asks. -/
theorem asks_z {x : In} (hK : K (.fz 1 false ((asksI x).map eI)) H) : ZC (constX tb) (cFunc Try.prog) 25 [.agg (eIn x)] L H K := by
  obtain ⟨op, a, b, c, n, e, kk, kn⟩ := x
  refine ZC.enterL ⟨[], [5], []⟩ constX_none f_li_asks (by simp) fun hL => ?_
  simp only [c_li_asks]
  obtain ⟨q0, q3, qf⟩ := opE_lt op
  have l0 : ∀ n, L (H.length + n) = true := hL
  have l1 : L H.length = true := hL 0
  repeat' (first | (simp only [zmPack, zxPack, ne_eq, zfree, owners, Nat.reduceLT, List.contains_cons, List.contains_nil, Nat.reduceBEq, BEq.rfl, chunk, setAt, List.lookup_cons, List.lookup_nil, reduceCtorEq, Nat.reduceEqDiff, reduceIte, implies_true, forall_const, Nat.reduceMul, Nat.reduceSub, Nat.reduceAdd, Nat.reduceLeDiff, *]) | (simp only [zgoO, zgoG, zO_nil, zthen_normal, zgoC]) | (with_reducible apply And.intro) | (with_reducible intro _))
  refine of_z fun lo hi k e2 => ?_
  have a0 : ∀ A, (H ++ [A])[H.length]? = some A := fun A => atN0 rfl A []
  have a1 : ∀ A B Y, (H ++ (A :: B :: Y))[H.length + 1]? = some B := fun A B Y => atN1 rfl A B Y
  have s1 : ∀ A B C Y, (H ++ (A :: B :: Y)).set (H.length + 1) C = H ++ (A :: C :: Y) := fun A B C Y => stN1 rfl A B C Y
  have a00 : ∀ A Y, (H ++ (A :: Y))[H.length]? = some A := fun A Y => atN0 rfl A Y
  have a2 : ∀ A B C Y, (H ++ (A :: B :: C :: Y))[H.length + 2]? = some C := fun A B C Y => atN2 rfl A B C Y
  have s2 : ∀ A B C D Y, (H ++ (A :: B :: C :: Y)).set (H.length + 2) D = H ++ (A :: B :: D :: Y) := fun A B C D Y => stN2 rfl A B C D Y
  cases ho : isOp op with
  | false =>
    have hnil : asksI (op, a, b, c, n, e, kk, kn) = [] := by simp [asksI, qf ho]
    rw [hnil] at hK
    have fin : ∀ X, Fin H .nil (H ++ X) K := fun X => Fin.nilFz (Fin.trunc (Mods.ext H X) rfl (by rw [List.take_left]; exact hK))
    clear hK hnil q0 q3 qf ho
    repeat' (first | (simp only [zmPack, zxPack, ne_eq, zfree, owners, Nat.reduceLT, List.contains_cons, List.contains_nil, Nat.reduceBEq, BEq.rfl, chunk, setAt, List.lookup_cons, List.lookup_nil, reduceCtorEq, Nat.reduceEqDiff, reduceIte, implies_true, forall_const, Nat.reduceMul, Nat.reduceSub, Nat.reduceAdd, Nat.reduceLeDiff, l0, l1, a0, a00, a1, s1, *]) | (simp only [zgoO, zgoG, zO_nil, zthen_normal, zgoC]) | (with_reducible apply And.intro) | (with_reducible intro _))
  | true =>
    obtain ⟨m, hm, hm3⟩ : ∃ m : Nat, (opE op).1 = (m : Int) ∧ m ≤ 3 := ⟨(opE op).1.toNat, by omega, by omega⟩
    have hask : asksI (op, a, b, c, n, e, kk, kn) = [a, b, c].take m := by simp [asksI, hm]
    rw [hask] at hK
    rw [hm]
    have fin : ∀ A B C l, l = ([a, b, c].take m).map eI → Fin H (.own (H.length + 3) 0 0 l.length false) (H ++ [A, B, C, .grow 0 1 l]) K := fun A B C l hl => by
      subst hl
      refine Fin.frz (k := 1) (rows := ([a, b, c].take m).map eI) (g := 0) ?_ (by simp) (pure_mapI fun _ => rfl) ?_
      · rw [List.getElem?_append_right (by omega), Nat.add_sub_cancel_left]; rfl
      · refine Fin.trunc (H' := (H ++ [A, B, C, .grow 0 1 (([a, b, c].take m).map eI)]).set (H.length + 3) .dead) ?_ rfl ?_
        · rw [List.set_append_right _ _ (by omega)]; exact Mods.ext H _
        · rw [List.set_append_right _ _ (by omega), List.take_left, List.drop_zero, List.take_of_length_le (by simp)]; exact hK
    clear q0 q3 qf ho hask hK hm
    rcases (by omega : m = 0 ∨ m = 1 ∨ m = 2 ∨ m = 3) with rfl | rfl | rfl | rfl
    all_goals
      repeat' (first | (simp only [zmPack, zxPack, ne_eq, zfree, owners, Nat.reduceLT, List.contains_cons, List.contains_nil, Nat.reduceBEq, BEq.rfl, chunk, setAt, List.lookup_cons, List.lookup_nil, reduceCtorEq, Nat.reduceEqDiff, reduceIte, implies_true, forall_const, Nat.reduceMul, Nat.reduceSub, Nat.reduceAdd, Nat.reduceLeDiff, l0, l1, a0, a00, a1, s1, a2, s2, ZV.eptr.injEq, List.cons.injEq, List.all_cons, List.all_nil, List.length_cons, List.length_nil, num0_z, num1_z, Option.bind_some, nat_z, *]) | (simp only [zgoO, zgoG, zO_nil, zthen_normal, zgoC]) | (with_reducible apply And.intro) | (with_reducible intro _))
      all_goals first | (unfold reach; omega) | (exact fin _ _ _ _ rfl)
/-- An exit that is not too large. -/
def XtS (x : Xt) : Prop := (valsX x).length ≤ 2000000
theorem XtS.sets {x : Xt} (h : XtS x) : x.2.2.1.length ≤ 2000000 := by unfold XtS valsX at h; simp at h; omega
theorem len_fm : ∀ (l : List Mk), l.length ≤ (l.flatMap valsM).length
  | [] => by simp
  | m :: l => by
    have := len_fm l
    simp only [List.flatMap_cons, List.length_append, List.length_cons, valsM] at *
    omega
theorem XtS.makes {x : Xt} (h : XtS x) : x.2.2.2.length ≤ 2000000 := by
  have := len_fm x.2.2.2
  unfold XtS valsX at h; simp only [List.length_append, List.length_map] at h; omega
/-- A list of one's own in slot t, block n behind A: it has l; X was made behind it. -/
def VInv (H : ZH) (A : ZB) (t : Nat) (l : List Int) (s' : ZS) (h' : ZH) : Prop := ∃ g X, s' t = .own (H.length + 1) g 0 l.length false ∧ h' = H ++ (A :: .grow g 1 (l.map eI) :: X)
set_option maxHeartbeats 4000000 in
theorem rvalues_z {x : Xt} (hx : XtS x) (hK : K (.fz 1 false ((valsX x).map eI)) H) : ZC (constX tb) (cFunc Try.prog) 12 [.agg (eXt x)] L H K := by
  obtain ⟨xa, xb, sets, makes⟩ := x
  have hns := hx.sets
  have hnm := hx.makes
  have hX := Lib.hid hx
  clear hx
  simp only at hns hnm
  refine ZC.enterL ⟨[(3, [(0, 1)])], [], []⟩ constX_none f_li_rvalues (by simp) fun hL => ?_
  simp only [c_li_rvalues]
  have HK := Lib.hid hK
  clear hK
  have gA : ∀ A Y, (H ++ (A :: Y))[H.length]? = some A := fun A Y => atN0 rfl A Y
  have gB : ∀ A B Y, (H ++ (A :: B :: Y))[H.length + 1]? = some B := fun A B Y => atN1 rfl A B Y
  have sB : ∀ A B C Y, (H ++ (A :: B :: Y)).set (H.length + 1) C = H ++ (A :: C :: Y) := fun A B C Y => stN1 rfl A B C Y
  have lB : L (H.length + 1) = true := hL 1
  have hlen1 : sets.length < 9223372036854775807 := by omega
  have hlen2 : makes.length < 9223372036854775807 := by omega
  repeat' (first | (simp only [zmPack, zxPack, ne_eq, zfree, owners, Nat.reduceLT, List.contains_cons, List.contains_nil, Nat.reduceBEq, BEq.rfl, chunk, setAt, List.lookup_cons, List.lookup_nil, reduceCtorEq, Nat.reduceEqDiff, reduceIte, implies_true, forall_const, Nat.reduceMul, Nat.reduceSub, Nat.reduceAdd, Nat.reduceLeDiff, *]) | (simp only [zgoO, zgoG, zO_nil, zthen_normal, zgoC]) | (with_reducible apply And.intro) | (with_reducible intro _))
  refine zW_forK [(1, .ptr H.length 0), (9, .fz 2 false (sets.map eP2))] sets.length (fun k s' h' => VInv H (.box (eXt (xa, xb, sets, makes))) 3 ((sets.take k).map (·.2)) s' h') (by omega) ⟨rfl, rfl, rfl, rfl, rfl, rfl⟩ rfl rfl (by repeat' (first | exact trivial | (refine ⟨rfl, ?_⟩) | (refine ⟨by simp only [zupd_at, Nat.reduceEqDiff, reduceIte]; assumption, ?_⟩))) rfl rfl (by decide) ⟨0, [], rfl, rfl⟩ ?_ ?_
  · rintro k s' h' hk ⟨g, X, e3, rfl⟩ hi hl ⟨f1, f9, -⟩
    have hx : sets[k]? = some sets[k] := List.getElem?_eq_getElem hk
    obtain ⟨q, hq⟩ : ∃ q, q = sets[k] := ⟨_, rfl⟩
    rw [← hq] at hx
    have htake := Lib.hid (show (sets.take (k + 1)).map (·.2) = (sets.take k).map (·.2) ++ [q.2] by rw [List.take_succ_eq_append_getElem hk, hq, List.map_append]; rfl)
    obtain ⟨q1, q2⟩ := q
    have hle : (((sets.take k).map (·.2)).length + 1) * 8 ≤ reach := by unfold reach; simp; omega
    generalize (sets.take k).map (·.2) = l at e3 hle htake
    have aX : ∀ A B C, (H ++ (A :: B :: (X ++ [C])))[H.length + (X.length + 1 + 1)]? = some C := fun A B C => by rw [List.getElem?_append_right (by omega), Nat.add_sub_cancel_left, List.getElem?_cons_succ, List.getElem?_cons_succ, List.getElem?_append_right (Nat.le_refl _), Nat.sub_self]; rfl
    have sX : ∀ A B C D, (H ++ (A :: B :: (X ++ [C]))).set (H.length + (X.length + 1 + 1)) D = H ++ (A :: B :: (X ++ [D])) := fun A B C D => by rw [List.set_append_right _ _ (by omega), Nat.add_sub_cancel_left, List.set_cons_succ, List.set_cons_succ, List.set_append_right _ _ (Nat.le_refl _), Nat.sub_self]; rfl
    have lX : L (H.length + (X.length + 1 + 1)) = true := hL _
    have hkl : l.length ≤ (l.map eI).length := by simp
    clear hq
    repeat' (first | (simp only [zmPack, zxPack, ne_eq, zfree, owners, Nat.reduceLT, List.contains_cons, List.contains_nil, Nat.reduceBEq, BEq.rfl, chunk, setAt, List.lookup_cons, List.lookup_nil, reduceCtorEq, Nat.reduceEqDiff, reduceIte, implies_true, forall_const, Nat.reduceMul, Nat.reduceSub, Nat.reduceAdd, Nat.reduceLeDiff, hx, gA, gB, sB, lB, aX, sX, lX, hle, hkl, e3, *]) | (simp only [zgoO, zgoG, zO_nil, zthen_normal, zgoC]) | (with_reducible apply And.intro) | (with_reducible intro _))
    all_goals first | (simp; done) | skip
    rw [htake.out]
    exact ⟨g + 1, X ++ [.box [Z64 q1, Z64 q2]], by simp [zupd], by simp⟩
  · rintro s' h' ⟨g, X, e3, rfl⟩ ⟨f1, f9, -⟩
    rw [List.take_of_length_le (Nat.le_refl _)] at e3 ⊢
    have hT := Lib.hid (show ∀ n, (makes.take n).flatMap valsM = (makes.take n).flatMap valsM from fun _ => rfl)
    have fin : ∀ g X l, l = valsX (xa, xb, sets, makes) → Fin H (.own (H.length + 1) g 0 l.length false) (H ++ (.box (eXt (xa, xb, sets, makes)) :: .grow g 1 (l.map eI) :: X)) K := fun g X l hl => by
      subst hl
      refine Fin.frz (k := 1) (rows := (valsX (xa, xb, sets, makes)).map eI) (gB _ _ _) (by simp) (pure_mapI fun _ => rfl) ?_
      refine Fin.trunc ?_ rfl ?_
      · rw [sB]; exact Mods.ext H _
      · rw [sB, List.take_left, List.drop_zero, List.take_of_length_le (by simp)]; exact HK.out
    obtain ⟨l0, hl0⟩ : ∃ l0, l0 = sets.map (·.2) := ⟨_, rfl⟩
    rw [← hl0] at e3 ⊢
    have hl0' := Lib.hid hl0
    clear hl0
    repeat' (first | (simp only [zmPack, zxPack, ne_eq, zfree, owners, Nat.reduceLT, List.contains_cons, List.contains_nil, Nat.reduceBEq, BEq.rfl, chunk, setAt, List.lookup_cons, List.lookup_nil, reduceCtorEq, Nat.reduceEqDiff, reduceIte, implies_true, forall_const, Nat.reduceMul, Nat.reduceSub, Nat.reduceAdd, Nat.reduceLeDiff, gA, e3, *]) | (simp only [zgoO, zgoG, zO_nil, zthen_normal, zgoC]) | (with_reducible apply And.intro) | (with_reducible intro _))
    refine zW_forK [(1, .ptr H.length 0), (22, .fz 4 false (makes.map eMk))] makes.length (fun k s' h' => VInv H (.box (eXt (xa, xb, sets, makes))) 3 (l0 ++ (makes.take k).flatMap valsM) s' h') (by omega) ⟨rfl, rfl, rfl, rfl, rfl, rfl⟩ rfl rfl (by repeat' (first | exact trivial | (refine ⟨rfl, ?_⟩) | (refine ⟨by simp only [zupd_at, Nat.reduceEqDiff, reduceIte]; assumption, ?_⟩))) rfl rfl (by decide) ⟨g, X, by first | (simp [e3]; done) | (simp [zupd, e3]; done), by simp⟩ ?_ ?_
    · rintro k s' h' hk ⟨g, X, e3, rfl⟩ hi hl ⟨f1, f9, -⟩
      have hx : makes[k]? = some makes[k] := List.getElem?_eq_getElem hk
      obtain ⟨q, hq⟩ : ∃ q, q = makes[k] := ⟨_, rfl⟩
      rw [← hq] at hx
      have ht0 : l0 ++ (makes.take (k + 1)).flatMap valsM = (l0 ++ (makes.take k).flatMap valsM) ++ valsM q := by rw [List.take_succ_eq_append_getElem hk, hq, List.flatMap_append, List.append_assoc]; simp
      have hlen : (l0 ++ (makes.take (k + 1)).flatMap valsM).length ≤ 2000000 := by
        have h1 := hX.out
        unfold XtS valsX at h1
        simp only at h1
        rw [← hl0'.out] at h1
        have h2 : makes.flatMap valsM = (makes.take (k + 1)).flatMap valsM ++ (makes.drop (k + 1)).flatMap valsM := by rw [← List.flatMap_append, List.take_append_drop]
        rw [h2] at h1
        simp only [List.length_append] at h1 ⊢
        omega
      rw [ht0] at hlen
      have htake := Lib.hid ht0
      obtain ⟨q1, q2, q3, qv⟩ := q
      have hle : ((l0 ++ (makes.take k).flatMap valsM).length + 1) * 8 ≤ reach ∧ ((l0 ++ (makes.take k).flatMap valsM).length + 1 + qv.length) * 8 ≤ reach := by
        simp only [List.length_append, valsM, List.length_cons] at hlen ⊢
        unfold reach
        omega
      generalize l0 ++ (makes.take k).flatMap valsM = l at e3 hle htake
      obtain ⟨hle1, hle2⟩ := hle
      have aX : ∀ A B C, (H ++ (A :: B :: (X ++ [C])))[H.length + (X.length + 1 + 1)]? = some C := fun A B C => by rw [List.getElem?_append_right (by omega), Nat.add_sub_cancel_left, List.getElem?_cons_succ, List.getElem?_cons_succ, List.getElem?_append_right (Nat.le_refl _), Nat.sub_self]; rfl
      have sX : ∀ A B C D, (H ++ (A :: B :: (X ++ [C]))).set (H.length + (X.length + 1 + 1)) D = H ++ (A :: B :: (X ++ [D])) := fun A B C D => by rw [List.set_append_right _ _ (by omega), Nat.add_sub_cancel_left, List.set_cons_succ, List.set_cons_succ, List.set_append_right _ _ (Nat.le_refl _), Nat.sub_self]; rfl
      have lX : L (H.length + (X.length + 1 + 1)) = true := hL _
      have hkl : l.length ≤ (l.map eI).length := by simp
      have hkl2 : ∀ z : ZV, l.length + 1 ≤ (List.take l.length (l.map eI) ++ [[z]]).length := fun z => by simp
      have hql : (qv.map eI).length = qv.length := List.length_map ..
      clear hq ht0 hlen
      repeat' (first | (simp only [zmPack, zxPack, ne_eq, zfree, owners, Nat.reduceLT, List.contains_cons, List.contains_nil, Nat.reduceBEq, BEq.rfl, chunk, setAt, List.lookup_cons, List.lookup_nil, reduceCtorEq, Nat.reduceEqDiff, reduceIte, implies_true, forall_const, Nat.reduceMul, Nat.reduceSub, Nat.reduceAdd, Nat.reduceLeDiff, hx, gA, gB, sB, lB, aX, sX, lX, hle1, hle2, hkl, hkl2, hql, e3, *]) | (simp only [zgoO, zgoG, zO_nil, zthen_normal, zgoC]) | (with_reducible apply And.intro) | (with_reducible intro _))
      rw [htake.out]
      exact ⟨g + 1 + 1, X ++ [.box [Z64 q1, Z64 q2, Z64 q3, .fz 1 false (qv.map eI)]], by simp [zupd, valsM]; omega, by rw [List.take_of_length_le (by simp)]; simp [valsM]⟩
    · rintro s' h' ⟨g, X, e3, rfl⟩ ⟨f1, f9, -⟩
      rw [List.take_of_length_le (Nat.le_refl _)] at e3 ⊢
      have fin2 := fin g X _ (show l0 ++ makes.flatMap valsM = _ by rw [hl0'.out]; rfl)
      rw [List.length_append] at fin2
      clear fin
      repeat' (first | (simp only [zmPack, zxPack, ne_eq, zfree, owners, Nat.reduceLT, List.contains_cons, List.contains_nil, Nat.reduceBEq, BEq.rfl, chunk, setAt, List.lookup_cons, List.lookup_nil, reduceCtorEq, Nat.reduceEqDiff, reduceIte, implies_true, forall_const, Nat.reduceMul, Nat.reduceSub, Nat.reduceAdd, Nat.reduceLeDiff, gA, e3, *]) | (simp only [zgoO, zgoG, zO_nil, zthen_normal, zgoC]) | (with_reducible apply And.intro) | (with_reducible intro _))
/-- What slot 33 held speaks of no list of one's own. -/
def No33 (H : ZH) (z : ZV) : Prop := z = .no ∨ ∃ i, z = .ptr i 3 ∧ (H.length + 1 == i) = false
set_option maxHeartbeats 4000000 in
theorem values_z {x : Xt} (hx : XtS x) (hK : K (.fz 1 false ((valsX x).map eI)) H) : ZC (constX tb) (cFunc Try.prog) 26 [.agg (eXt x)] L H K := by
  obtain ⟨xa, xb, sets, makes⟩ := x
  have hns := hx.sets
  have hnm := hx.makes
  have hX := Lib.hid hx
  clear hx
  simp only at hns hnm
  refine ZC.enterL ⟨[(3, [(0, 1)])], [], []⟩ constX_none f_li_values (by simp) fun hL => ?_
  simp only [c_li_values]
  have HK := Lib.hid hK
  clear hK
  have gA : ∀ A Y, (H ++ (A :: Y))[H.length]? = some A := fun A Y => atN0 rfl A Y
  have gB : ∀ A B Y, (H ++ (A :: B :: Y))[H.length + 1]? = some B := fun A B Y => atN1 rfl A B Y
  have sB : ∀ A B C Y, (H ++ (A :: B :: Y)).set (H.length + 1) C = H ++ (A :: C :: Y) := fun A B C Y => stN1 rfl A B C Y
  have lB : L (H.length + 1) = true := hL 1
  have hlen1 : sets.length < 9223372036854775807 := by omega
  have hlen2 : makes.length < 9223372036854775807 := by omega
  repeat' (first | (simp only [zmPack, zxPack, ne_eq, zfree, owners, Nat.reduceLT, List.contains_cons, List.contains_nil, Nat.reduceBEq, BEq.rfl, chunk, setAt, List.lookup_cons, List.lookup_nil, reduceCtorEq, Nat.reduceEqDiff, reduceIte, implies_true, forall_const, Nat.reduceMul, Nat.reduceSub, Nat.reduceAdd, Nat.reduceLeDiff, *]) | (simp only [zgoO, zgoG, zO_nil, zthen_normal, zgoC]) | (with_reducible apply And.intro) | (with_reducible intro _))
  refine zW_forK [(1, .ptr H.length 0), (9, .fz 2 false (sets.map eP2)), (33, .no)] sets.length (fun k s' h' => VInv H (.box (eXt (xa, xb, sets, makes))) 3 ((sets.take k).map (·.2)) s' h') (by omega) ⟨rfl, rfl, rfl, rfl, rfl, rfl⟩ rfl rfl (by repeat' (first | exact trivial | (refine ⟨rfl, ?_⟩) | (refine ⟨by simp only [zupd_at, Nat.reduceEqDiff, reduceIte]; assumption, ?_⟩))) rfl rfl (by decide) ⟨0, [], rfl, rfl⟩ ?_ ?_
  · rintro k s' h' hk ⟨g, X, e3, rfl⟩ hi hl ⟨f1, f9, f33, -⟩
    have hx : sets[k]? = some sets[k] := List.getElem?_eq_getElem hk
    obtain ⟨q, hq⟩ : ∃ q, q = sets[k] := ⟨_, rfl⟩
    rw [← hq] at hx
    have htake := Lib.hid (show (sets.take (k + 1)).map (·.2) = (sets.take k).map (·.2) ++ [q.2] by rw [List.take_succ_eq_append_getElem hk, hq, List.map_append]; rfl)
    obtain ⟨q1, q2⟩ := q
    have hle : (((sets.take k).map (·.2)).length + 1) * 8 ≤ reach := by unfold reach; simp; omega
    generalize (sets.take k).map (·.2) = l at e3 hle htake
    have aX : ∀ A B C, (H ++ (A :: B :: (X ++ [C])))[H.length + (X.length + 1 + 1)]? = some C := fun A B C => by rw [List.getElem?_append_right (by omega), Nat.add_sub_cancel_left, List.getElem?_cons_succ, List.getElem?_cons_succ, List.getElem?_append_right (Nat.le_refl _), Nat.sub_self]; rfl
    have sX : ∀ A B C D, (H ++ (A :: B :: (X ++ [C]))).set (H.length + (X.length + 1 + 1)) D = H ++ (A :: B :: (X ++ [D])) := fun A B C D => by rw [List.set_append_right _ _ (by omega), Nat.add_sub_cancel_left, List.set_cons_succ, List.set_cons_succ, List.set_append_right _ _ (Nat.le_refl _), Nat.sub_self]; rfl
    have lX : L (H.length + (X.length + 1 + 1)) = true := hL _
    have hkl : l.length ≤ (l.map eI).length := by simp
    clear hq
    repeat' (first | (simp only [zmPack, zxPack, ne_eq, zfree, owners, Nat.reduceLT, List.contains_cons, List.contains_nil, Nat.reduceBEq, BEq.rfl, chunk, setAt, List.lookup_cons, List.lookup_nil, reduceCtorEq, Nat.reduceEqDiff, reduceIte, implies_true, forall_const, Nat.reduceMul, Nat.reduceSub, Nat.reduceAdd, Nat.reduceLeDiff, hx, gA, gB, sB, lB, aX, sX, lX, hle, hkl, e3, *]) | (simp only [zgoO, zgoG, zO_nil, zthen_normal, zgoC]) | (with_reducible apply And.intro) | (with_reducible intro _))
    all_goals first | (simp; done) | skip
    rw [htake.out]
    exact ⟨g + 1, X ++ [.box [Z64 q1, Z64 q2]], by simp [zupd], by simp⟩
  · rintro s' h' ⟨g, X, e3, rfl⟩ ⟨f1, f9, f33, -⟩
    rw [List.take_of_length_le (Nat.le_refl _)] at e3 ⊢
    have hT := Lib.hid (show ∀ n, (makes.take n).flatMap valsM = (makes.take n).flatMap valsM from fun _ => rfl)
    have fin : ∀ g X l, l = valsX (xa, xb, sets, makes) → Fin H (.own (H.length + 1) g 0 l.length false) (H ++ (.box (eXt (xa, xb, sets, makes)) :: .grow g 1 (l.map eI) :: X)) K := fun g X l hl => by
      subst hl
      refine Fin.frz (k := 1) (rows := (valsX (xa, xb, sets, makes)).map eI) (gB _ _ _) (by simp) (pure_mapI fun _ => rfl) ?_
      refine Fin.trunc ?_ rfl ?_
      · rw [sB]; exact Mods.ext H _
      · rw [sB, List.take_left, List.drop_zero, List.take_of_length_le (by simp)]; exact HK.out
    obtain ⟨l0, hl0⟩ : ∃ l0, l0 = sets.map (·.2) := ⟨_, rfl⟩
    rw [← hl0] at e3 ⊢
    have hl0' := Lib.hid hl0
    clear hl0
    repeat' (first | (simp only [zmPack, zxPack, ne_eq, zfree, owners, Nat.reduceLT, List.contains_cons, List.contains_nil, Nat.reduceBEq, BEq.rfl, chunk, setAt, List.lookup_cons, List.lookup_nil, reduceCtorEq, Nat.reduceEqDiff, reduceIte, implies_true, forall_const, Nat.reduceMul, Nat.reduceSub, Nat.reduceAdd, Nat.reduceLeDiff, gA, e3, *]) | (simp only [zgoO, zgoG, zO_nil, zthen_normal, zgoC]) | (with_reducible apply And.intro) | (with_reducible intro _))
    refine zW_forK [(1, .ptr H.length 0), (22, .fz 4 false (makes.map eMk))] makes.length (fun k s' h' => VInv H (.box (eXt (xa, xb, sets, makes))) 3 (l0 ++ (makes.take k).flatMap valsM) s' h' ∧ No33 H (s' 33)) (by omega) ⟨rfl, rfl, rfl, rfl, rfl, rfl⟩ rfl rfl (by repeat' (first | exact trivial | (refine ⟨rfl, ?_⟩) | (refine ⟨by simp only [zupd_at, Nat.reduceEqDiff, reduceIte]; assumption, ?_⟩))) rfl rfl (by decide) ⟨⟨g, X, by first | (simp [e3]; done) | (simp [zupd, e3]; done), by simp⟩, .inl (by first | rfl | (simp [zupd]; exact f33))⟩ ?_ ?_
    · rintro k s' h' hk ⟨⟨g, X, e3, rfl⟩, o33⟩ hi hl ⟨f1, f9, -⟩
      have hx : makes[k]? = some makes[k] := List.getElem?_eq_getElem hk
      obtain ⟨q, hq⟩ : ∃ q, q = makes[k] := ⟨_, rfl⟩
      rw [← hq] at hx
      have ht0 : l0 ++ (makes.take (k + 1)).flatMap valsM = (l0 ++ (makes.take k).flatMap valsM) ++ valsM q := by rw [List.take_succ_eq_append_getElem hk, hq, List.flatMap_append, List.append_assoc]; simp
      have hlen : (l0 ++ (makes.take (k + 1)).flatMap valsM).length ≤ 2000000 := by
        have h1 := hX.out
        unfold XtS valsX at h1
        simp only at h1
        rw [← hl0'.out] at h1
        have h2 : makes.flatMap valsM = (makes.take (k + 1)).flatMap valsM ++ (makes.drop (k + 1)).flatMap valsM := by rw [← List.flatMap_append, List.take_append_drop]
        rw [h2] at h1
        simp only [List.length_append] at h1 ⊢
        omega
      rw [ht0] at hlen
      have htake := Lib.hid ht0
      obtain ⟨q1, q2, q3, qv⟩ := q
      have hle : ((l0 ++ (makes.take k).flatMap valsM).length + 1) * 8 ≤ reach ∧ ((l0 ++ (makes.take k).flatMap valsM).length + 1 + qv.length) * 8 ≤ reach := by
        simp only [List.length_append, valsM, List.length_cons] at hlen ⊢
        unfold reach
        omega
      generalize l0 ++ (makes.take k).flatMap valsM = l at e3 hle htake
      obtain ⟨hle1, hle2⟩ := hle
      have aX : ∀ A B C, (H ++ (A :: B :: (X ++ [C])))[H.length + (X.length + 1 + 1)]? = some C := fun A B C => by rw [List.getElem?_append_right (by omega), Nat.add_sub_cancel_left, List.getElem?_cons_succ, List.getElem?_cons_succ, List.getElem?_append_right (Nat.le_refl _), Nat.sub_self]; rfl
      have sX : ∀ A B C D, (H ++ (A :: B :: (X ++ [C]))).set (H.length + (X.length + 1 + 1)) D = H ++ (A :: B :: (X ++ [D])) := fun A B C D => by rw [List.set_append_right _ _ (by omega), Nat.add_sub_cancel_left, List.set_cons_succ, List.set_cons_succ, List.set_append_right _ _ (Nat.le_refl _), Nat.sub_self]; rfl
      have lX : L (H.length + (X.length + 1 + 1)) = true := hL _
      have hkl : l.length ≤ (l.map eI).length := by simp
      have hkl2 : ∀ z : ZV, l.length + 1 ≤ (List.take l.length (l.map eI) ++ [[z]]).length := fun z => by simp
      have hql : (qv.map eI).length = qv.length := List.length_map ..
      clear hq ht0 hlen
      have hne1 : (H.length + 1 == H.length + (X.length + 1 + 1)) = false := by simp
      have hne2 : (H.length + (X.length + 1 + 1) == H.length + 1) = false := by simp
      have hlt2 : H.length + (X.length + 1 + 1) < H.length + (X.length + 1 + 1 + 1) := by omega
      rcases o33 with o33 | ⟨i33, o33, hi33⟩
      all_goals
        repeat' (first | (simp only [zmPack, zxPack, ne_eq, zfree, owners, Nat.reduceLT, List.contains_cons, List.contains_nil, Nat.reduceBEq, BEq.rfl, chunk, setAt, List.lookup_cons, List.lookup_nil, reduceCtorEq, Nat.reduceEqDiff, reduceIte, implies_true, forall_const, Nat.reduceMul, Nat.reduceSub, Nat.reduceAdd, Nat.reduceLeDiff, hx, gA, gB, sB, lB, aX, sX, lX, hle1, hle2, hkl, hkl2, hql, e3, o33, hne1, hne2, hlt2, *]) | (simp only [zgoO, zgoG, zO_nil, zthen_normal, zgoC]) | (with_reducible apply And.intro) | (with_reducible intro _))
        · rw [htake.out]
          exact ⟨g + 1 + 1, X ++ [.box [Z64 q1, Z64 q2, Z64 q3, .fz 1 false (qv.map eI)]], by simp [zupd, valsM]; omega, by rw [List.take_of_length_le (by simp)]; simp [valsM]⟩
        · exact .inr ⟨_, rfl, by simp⟩
    · rintro s' h' ⟨⟨g, X, e3, rfl⟩, -⟩ ⟨f1, f9, -⟩
      rw [List.take_of_length_le (Nat.le_refl _)] at e3 ⊢
      have fin2 := fin g X _ (show l0 ++ makes.flatMap valsM = _ by rw [hl0'.out]; rfl)
      rw [List.length_append] at fin2
      clear fin
      repeat' (first | (simp only [zmPack, zxPack, ne_eq, zfree, owners, Nat.reduceLT, List.contains_cons, List.contains_nil, Nat.reduceBEq, BEq.rfl, chunk, setAt, List.lookup_cons, List.lookup_nil, reduceCtorEq, Nat.reduceEqDiff, reduceIte, implies_true, forall_const, Nat.reduceMul, Nat.reduceSub, Nat.reduceAdd, Nat.reduceLeDiff, gA, e3, *]) | (simp only [zgoO, zgoG, zO_nil, zthen_normal, zgoC]) | (with_reducible apply And.intro) | (with_reducible intro _))
end Go.Proofs.Ytoeppobpnhlebaa
