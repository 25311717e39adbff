/-
  AM's code of functions, written by am/amprint.lean.
-/
import Derived.KernelRfl
import Derived.Test.YtpmmiaadfnildaaMrA4
import Derived.Test.YtpmmiaadfnildaaMrA7
namespace Go.Proofs.Ytpmmiaadfnildaa
open Go Go.RowKit
set_option linter.unusedVariables false
/-- backstitch/backstitchkeep3.WordsBack: its code in AM. -/
def c_l_wordsback : ACode := .seq (.ops [⟨(some 2), .box 4 (.tmp 0), none, true⟩,
      ⟨(some 4), .mv (.av (.val (.bool false))), none, true⟩])
  (.seq (.seq (.ops [⟨(some 10), .call (.av (.func 13 [])) [], none, true⟩,
      ⟨(some 11), .un .not (.tmp 10), none, true⟩])
  (.cond (.tmp 11)
    (.seq (.ops [⟨(some 4), .mv (.av (.val (.bool false))), none, true⟩])
    (.ret))
    (.skip)))
  (.seq (.ops [⟨(some 13), .load (some 4) (.tmp 2), none, true⟩,
      ⟨(some 14), .call (.av (.func 14 [])) [(.tmp 13)], none, true⟩,
      ⟨(some 12), .mv (.tmp 14), none, true⟩,
      ⟨(some 15), .extract 0 (.tmp 12), none, true⟩,
      ⟨(some 16), .extract 1 (.tmp 12), none, true⟩,
      ⟨(some 5), .mv (.tmp 15), none, true⟩,
      ⟨(some 6), .mv (.tmp 16), none, true⟩])
  (.seq (.seq (.ops [⟨(some 17), .mv (.tmp 6), none, true⟩,
      ⟨(some 18), .bin .neq (.tmp 17) (.av (.val (.int .i64 0))), none, true⟩,
      ⟨(some 19), .mv (.tmp 18), none, true⟩,
      ⟨(some 20), .load (some 4) (.tmp 2), (some (19, false)), true⟩,
      ⟨(some 21), .call (.av (.func 17 [])) [(.tmp 20)], (some (19, false)), true⟩,
      ⟨(some 22), .call (.av (.func 16 [])) [(.tmp 21)], (some (19, false)), true⟩,
      ⟨(some 23), .un .not (.tmp 22), (some (19, false)), true⟩,
      ⟨(some 24), .pick (.tmp 19) (.av (.val (.bool true))) (.tmp 23), none, true⟩])
  (.cond (.tmp 24)
    (.seq (.ops [⟨(some 25), .call (.av (.func 13 [])) [], none, true⟩,
        ⟨(some 4), .mv (.tmp 25), none, true⟩])
    (.ret))
    (.skip)))
  (.seq (.ops [⟨(some 27), .mv (.tmp 5), none, true⟩,
      ⟨(some 28), .call (.av (.func 19 [])) [(.tmp 27)], none, true⟩,
      ⟨(some 29), .mv (.tmp 1), none, true⟩,
      ⟨(some 30), .append 1 8 (.tmp 28) (.tmp 29), none, true⟩,
      ⟨(some 31), .call (.av (.func 18 [])) [(.tmp 30)], none, true⟩,
      ⟨(some 26), .mv (.tmp 31), none, true⟩,
      ⟨(some 32), .extract 0 (.tmp 26), none, true⟩,
      ⟨(some 33), .extract 1 (.tmp 26), none, true⟩,
      ⟨(some 34), .extract 2 (.tmp 26), none, true⟩,
      ⟨(some 7), .zero [(.val (.int .i64 0)), (.val (.int .i64 0)), (.val (.slice none 0 0)), (.val (.slice none 0 0))], none, true⟩,
      ⟨none, .store 4 (.tmp 7) (.tmp 32), none, true⟩,
      ⟨(some 8), .mv (.tmp 33), none, true⟩,
      ⟨(some 9), .mv (.tmp 34), none, true⟩])
  (.seq (.ops [⟨(some 35), .call (.av (.func 13 [])) [], none, true⟩,
      ⟨(some 36), .mv (.tmp 35), none, true⟩,
      ⟨(some 37), .mv (.tmp 9), (some (36, true)), true⟩,
      ⟨(some 38), .bin .eql (.tmp 37) (.av (.val (.int .i64 0))), (some (36, true)), true⟩,
      ⟨(some 39), .pick (.tmp 36) (.tmp 38) (.av (.val (.bool false))), none, true⟩,
      ⟨(some 40), .mv (.tmp 39), none, true⟩,
      ⟨(some 41), .mv (.tmp 8), (some (40, true)), true⟩,
      ⟨(some 42), .mv (.tmp 5), (some (40, true)), true⟩,
      ⟨(some 43), .len (.tmp 42), (some (40, true)), true⟩,
      ⟨(some 44), .bin .eql (.tmp 41) (.tmp 43), (some (40, true)), true⟩,
      ⟨(some 45), .pick (.tmp 40) (.tmp 44) (.av (.val (.bool false))), none, true⟩,
      ⟨(some 46), .mv (.tmp 45), none, true⟩,
      ⟨(some 47), .load (some 4) (.tmp 2), (some (46, true)), true⟩,
      ⟨(some 48), .load (some 4) (.tmp 7), (some (46, true)), true⟩,
      ⟨(some 49), .call (.av (.func 20 [])) [(.tmp 47), (.tmp 48)], (some (46, true)), true⟩,
      ⟨(some 50), .pick (.tmp 46) (.tmp 49) (.av (.val (.bool false))), none, true⟩,
      ⟨(some 4), .mv (.tmp 50), none, true⟩])
  (.ret))))))
theorem f_l_wordsback : cFunc Try.prog 4 = some ⟨51, c_l_wordsback, [.tmp 4]⟩ := by kernel_rfl
/-- backstitch/backstitchkeep3.WordsRead: its code in AM. -/
def c_l_wordsread : ACode := .seq (.ops [⟨(some 2), .mv (.av (.val (.bool false))), none, true⟩])
  (.seq (.seq (.ops [⟨(some 8), .call (.av (.func 13 [])) [], none, true⟩,
      ⟨(some 9), .un .not (.tmp 8), none, true⟩])
  (.cond (.tmp 9)
    (.seq (.ops [⟨(some 2), .mv (.av (.val (.bool false))), none, true⟩])
    (.ret))
    (.skip)))
  (.seq (.ops [⟨(some 11), .mv (.tmp 0), none, true⟩,
      ⟨(some 12), .call (.av (.func 18 [])) [(.tmp 11)], none, true⟩,
      ⟨(some 10), .mv (.tmp 12), none, true⟩,
      ⟨(some 13), .extract 0 (.tmp 10), none, true⟩,
      ⟨(some 14), .extract 1 (.tmp 10), none, true⟩,
      ⟨(some 15), .extract 2 (.tmp 10), none, true⟩,
      ⟨(some 3), .zero [(.val (.int .i64 0)), (.val (.int .i64 0)), (.val (.slice none 0 0)), (.val (.slice none 0 0))], none, true⟩,
      ⟨none, .store 4 (.tmp 3) (.tmp 13), none, true⟩,
      ⟨(some 4), .mv (.tmp 14), none, true⟩,
      ⟨(some 5), .mv (.tmp 15), none, true⟩])
  (.seq (.seq (.ops [⟨(some 16), .mv (.tmp 5), none, true⟩,
      ⟨(some 17), .bin .neq (.tmp 16) (.av (.val (.int .i64 0))), none, true⟩])
  (.cond (.tmp 17)
    (.seq (.ops [⟨(some 18), .call (.av (.func 13 [])) [], none, true⟩,
        ⟨(some 19), .mv (.tmp 18), none, true⟩,
        ⟨(some 20), .mv (.tmp 5), (some (19, true)), true⟩,
        ⟨(some 21), .bin .eql (.tmp 20) (.av (.val (.int .i64 3))), (some (19, true)), true⟩,
        ⟨(some 22), .pick (.tmp 19) (.tmp 21) (.av (.val (.bool false))), none, true⟩,
        ⟨(some 23), .mv (.tmp 22), none, true⟩,
        ⟨(some 24), .mv (.tmp 4), (some (23, true)), true⟩,
        ⟨(some 25), .bin .eql (.tmp 24) (.av (.val (.int .i64 0))), (some (23, true)), true⟩,
        ⟨(some 26), .pick (.tmp 23) (.tmp 25) (.av (.val (.bool false))), none, true⟩,
        ⟨(some 2), .mv (.tmp 26), none, true⟩])
    (.ret))
    (.skip)))
  (.seq (.ops [⟨(some 28), .load (some 4) (.tmp 3), none, true⟩,
      ⟨(some 29), .call (.av (.func 14 [])) [(.tmp 28)], none, true⟩,
      ⟨(some 27), .mv (.tmp 29), none, true⟩,
      ⟨(some 30), .extract 0 (.tmp 27), none, true⟩,
      ⟨(some 31), .extract 1 (.tmp 27), none, true⟩,
      ⟨(some 6), .mv (.tmp 30), none, true⟩,
      ⟨(some 7), .mv (.tmp 31), none, true⟩])
  (.seq (.ops [⟨(some 32), .call (.av (.func 13 [])) [], none, true⟩,
      ⟨(some 33), .mv (.tmp 32), none, true⟩,
      ⟨(some 34), .mv (.tmp 7), (some (33, true)), true⟩,
      ⟨(some 35), .bin .eql (.tmp 34) (.av (.val (.int .i64 0))), (some (33, true)), true⟩,
      ⟨(some 36), .pick (.tmp 33) (.tmp 35) (.av (.val (.bool false))), none, true⟩,
      ⟨(some 37), .mv (.tmp 36), none, true⟩,
      ⟨(some 38), .mv (.tmp 4), (some (37, true)), true⟩,
      ⟨(some 39), .mv (.tmp 0), (some (37, true)), true⟩,
      ⟨(some 40), .len (.tmp 39), (some (37, true)), true⟩,
      ⟨(some 41), .bin .leq (.tmp 38) (.tmp 40), (some (37, true)), true⟩,
      ⟨(some 42), .pick (.tmp 37) (.tmp 41) (.av (.val (.bool false))), none, true⟩,
      ⟨(some 43), .mv (.tmp 42), none, true⟩,
      ⟨(some 44), .mv (.tmp 6), (some (43, true)), true⟩,
      ⟨(some 45), .mv (.tmp 0), (some (43, true)), true⟩,
      ⟨(some 46), .mv (.tmp 4), (some (43, true)), true⟩,
      ⟨(some 47), .slice 1 (.tmp 45) none (some (.tmp 46)) none, (some (43, true)), true⟩,
      ⟨(some 48), .call (.av (.func 21 [])) [(.tmp 44), (.tmp 47)], (some (43, true)), true⟩,
      ⟨(some 49), .pick (.tmp 43) (.tmp 48) (.av (.val (.bool false))), none, true⟩,
      ⟨(some 2), .mv (.tmp 49), none, true⟩])
  (.ret))))))
theorem f_l_wordsread : cFunc Try.prog 5 = some ⟨50, c_l_wordsread, [.tmp 2]⟩ := by kernel_rfl
/-- backstitch/backstitchkeep3.WordsCut: its code in AM. -/
def c_l_wordscut : ACode := .seq (.ops [⟨(some 2), .box 4 (.tmp 0), none, true⟩,
      ⟨(some 4), .mv (.av (.val (.bool false))), none, true⟩])
  (.seq (.seq (.ops [⟨(some 10), .call (.av (.func 13 [])) [], none, true⟩,
      ⟨(some 11), .un .not (.tmp 10), none, true⟩])
  (.cond (.tmp 11)
    (.seq (.ops [⟨(some 4), .mv (.av (.val (.bool false))), none, true⟩])
    (.ret))
    (.skip)))
  (.seq (.ops [⟨(some 13), .load (some 4) (.tmp 2), none, true⟩,
      ⟨(some 14), .call (.av (.func 14 [])) [(.tmp 13)], none, true⟩,
      ⟨(some 12), .mv (.tmp 14), none, true⟩,
      ⟨(some 15), .extract 0 (.tmp 12), none, true⟩,
      ⟨(some 16), .extract 1 (.tmp 12), none, true⟩,
      ⟨(some 5), .mv (.tmp 15), none, true⟩,
      ⟨(some 6), .mv (.tmp 16), none, true⟩])
  (.seq (.seq (.ops [⟨(some 17), .mv (.tmp 6), none, true⟩,
      ⟨(some 18), .bin .neq (.tmp 17) (.av (.val (.int .i64 0))), none, true⟩])
  (.cond (.tmp 18)
    (.seq (.ops [⟨(some 19), .call (.av (.func 13 [])) [], none, true⟩,
        ⟨(some 4), .mv (.tmp 19), none, true⟩])
    (.ret))
    (.skip)))
  (.seq (.ops [⟨(some 21), .mv (.tmp 5), none, true⟩,
      ⟨(some 22), .mv (.tmp 1), none, true⟩,
      ⟨(some 23), .mv (.tmp 5), none, true⟩,
      ⟨(some 24), .len (.tmp 23), none, true⟩,
      ⟨(some 25), .call (.av (.func 22 [])) [(.tmp 22), (.tmp 24)], none, true⟩,
      ⟨(some 26), .slice 1 (.tmp 21) none (some (.tmp 25)) none, none, true⟩,
      ⟨(some 27), .call (.av (.func 18 [])) [(.tmp 26)], none, true⟩,
      ⟨(some 20), .mv (.tmp 27), none, true⟩,
      ⟨(some 28), .extract 0 (.tmp 20), none, true⟩,
      ⟨(some 29), .extract 1 (.tmp 20), none, true⟩,
      ⟨(some 30), .extract 2 (.tmp 20), none, true⟩,
      ⟨(some 7), .zero [(.val (.int .i64 0)), (.val (.int .i64 0)), (.val (.slice none 0 0)), (.val (.slice none 0 0))], none, true⟩,
      ⟨none, .store 4 (.tmp 7) (.tmp 28), none, true⟩,
      ⟨(some 8), .mv (.tmp 29), none, true⟩,
      ⟨(some 9), .mv (.tmp 30), none, true⟩])
  (.seq (.ops [⟨(some 31), .call (.av (.func 13 [])) [], none, true⟩,
      ⟨(some 32), .mv (.tmp 31), none, true⟩,
      ⟨(some 33), .mv (.tmp 9), (some (32, true)), true⟩,
      ⟨(some 34), .bin .eql (.tmp 33) (.av (.val (.int .i64 3))), (some (32, true)), true⟩,
      ⟨(some 35), .pick (.tmp 32) (.tmp 34) (.av (.val (.bool false))), none, true⟩,
      ⟨(some 4), .mv (.tmp 35), none, true⟩])
  (.ret))))))
theorem f_l_wordscut : cFunc Try.prog 6 = some ⟨36, c_l_wordscut, [.tmp 4]⟩ := by kernel_rfl
/-- backstitch/backstitchkeep3.WordsCells: its code in AM. -/
def c_l_wordscells : ACode := .seq (.ops [⟨(some 4), .mv (.av (.val (.bool false))), none, true⟩])
  (.seq (.seq (.ops [⟨(some 14), .call (.av (.func 13 [])) [], none, true⟩,
      ⟨(some 15), .un .not (.tmp 14), none, true⟩])
  (.cond (.tmp 15)
    (.seq (.ops [⟨(some 4), .mv (.av (.val (.bool false))), none, true⟩])
    (.ret))
    (.skip)))
  (.seq (.ops [⟨(some 16), .mv (.tmp 0), none, true⟩,
      ⟨(some 17), .mv (.tmp 0), none, true⟩,
      ⟨(some 18), .len (.tmp 17), none, true⟩,
      ⟨(some 19), .minmax false (.tmp 18) [(.av (.val (.int .i64 20)))], none, true⟩,
      ⟨(some 20), .slice 4 (.tmp 16) none (some (.tmp 19)) none, none, true⟩,
      ⟨(some 0), .mv (.tmp 20), none, true⟩])
  (.seq (.ops [⟨(some 22), .mv (.tmp 0), none, true⟩,
      ⟨(some 23), .call (.av (.func 23 [])) [(.tmp 22)], none, true⟩,
      ⟨(some 21), .mv (.tmp 23), none, true⟩,
      ⟨(some 24), .extract 0 (.tmp 21), none, true⟩,
      ⟨(some 25), .extract 1 (.tmp 21), none, true⟩,
      ⟨(some 5), .mv (.tmp 24), none, true⟩,
      ⟨(some 6), .mv (.tmp 25), none, true⟩])
  (.seq (.seq (.ops [⟨(some 26), .mv (.tmp 6), none, true⟩,
      ⟨(some 27), .bin .neq (.tmp 26) (.av (.val (.int .i64 0))), none, true⟩])
  (.cond (.tmp 27)
    (.seq (.ops [⟨(some 28), .call (.av (.func 13 [])) [], none, true⟩,
        ⟨(some 4), .mv (.tmp 28), none, true⟩])
    (.ret))
    (.skip)))
  (.seq (.ops [⟨(some 30), .mv (.tmp 5), none, true⟩,
      ⟨(some 31), .call (.av (.func 24 [])) [(.tmp 30)], none, true⟩,
      ⟨(some 29), .mv (.tmp 31), none, true⟩,
      ⟨(some 32), .extract 0 (.tmp 29), none, true⟩,
      ⟨(some 33), .extract 1 (.tmp 29), none, true⟩,
      ⟨(some 7), .mv (.tmp 32), none, true⟩,
      ⟨(some 8), .mv (.tmp 33), none, true⟩])
  (.seq (.ops [⟨(some 35), .mv (.tmp 5), none, true⟩,
      ⟨(some 36), .call (.av (.func 19 [])) [(.tmp 35)], none, true⟩,
      ⟨(some 37), .mv (.tmp 1), none, true⟩,
      ⟨(some 38), .lits 1 1 [(.val (.int .u64 0))] [(0, 1, (.tmp 37))], none, true⟩,
      ⟨(some 39), .append 1 8 (.tmp 36) (.tmp 38), none, true⟩,
      ⟨(some 40), .call (.av (.func 24 [])) [(.tmp 39)], none, true⟩,
      ⟨(some 34), .mv (.tmp 40), none, true⟩,
      ⟨(some 41), .extract 0 (.tmp 34), none, true⟩,
      ⟨(some 42), .extract 1 (.tmp 34), none, true⟩,
      ⟨(some 9), .mv (.tmp 41), none, true⟩,
      ⟨(some 10), .mv (.tmp 42), none, true⟩])
  (.seq (.ops [⟨(some 44), .mv (.tmp 5), none, true⟩,
      ⟨(some 45), .mv (.tmp 5), none, true⟩,
      ⟨(some 46), .len (.tmp 45), none, true⟩,
      ⟨(some 47), .bin .sub (.tmp 46) (.av (.val (.int .i64 1))), none, true⟩,
      ⟨(some 48), .slice 1 (.tmp 44) none (some (.tmp 47)) none, none, true⟩,
      ⟨(some 49), .call (.av (.func 24 [])) [(.tmp 48)], none, true⟩,
      ⟨(some 43), .mv (.tmp 49), none, true⟩,
      ⟨(some 50), .extract 0 (.tmp 43), none, true⟩,
      ⟨(some 51), .extract 1 (.tmp 43), none, true⟩,
      ⟨(some 11), .mv (.tmp 50), none, true⟩,
      ⟨(some 12), .mv (.tmp 51), none, true⟩])
  (.seq (.seq (.ops [⟨(some 52), .mv (.tmp 8), none, true⟩,
      ⟨(some 53), .bin .neq (.tmp 52) (.av (.val (.int .i64 0))), none, true⟩,
      ⟨(some 54), .mv (.tmp 53), none, true⟩,
      ⟨(some 55), .mv (.tmp 10), (some (54, false)), true⟩,
      ⟨(some 56), .bin .neq (.tmp 55) (.av (.val (.int .i64 3))), (some (54, false)), true⟩,
      ⟨(some 57), .pick (.tmp 54) (.av (.val (.bool true))) (.tmp 56), none, true⟩,
      ⟨(some 58), .mv (.tmp 57), none, true⟩,
      ⟨(some 59), .mv (.tmp 12), (some (58, false)), true⟩,
      ⟨(some 60), .bin .neq (.tmp 59) (.av (.val (.int .i64 3))), (some (58, false)), true⟩,
      ⟨(some 61), .pick (.tmp 58) (.av (.val (.bool true))) (.tmp 60), none, true⟩,
      ⟨(some 62), .mv (.tmp 61), none, true⟩,
      ⟨(some 63), .mv (.tmp 7), (some (62, false)), true⟩,
      ⟨(some 64), .len (.tmp 63), (some (62, false)), true⟩,
      ⟨(some 65), .mv (.tmp 0), (some (62, false)), true⟩,
      ⟨(some 66), .len (.tmp 65), (some (62, false)), true⟩,
      ⟨(some 67), .bin .neq (.tmp 64) (.tmp 66), (some (62, false)), true⟩,
      ⟨(some 68), .pick (.tmp 62) (.av (.val (.bool true))) (.tmp 67), none, true⟩])
  (.cond (.tmp 68)
    (.seq (.ops [⟨(some 4), .mv (.av (.val (.bool false))), none, true⟩])
    (.ret))
    (.skip)))
  (.seq (.seq (.ops [⟨(some 69), .mv (.tmp 0), none, true⟩,
      ⟨(some 70), .len (.tmp 69), none, true⟩,
      ⟨(some 71), .mv (.av (.val (.int .i64 0))), none, true⟩])
  (rangeCode 0 1 72 71 70 92
    (.seq (.ops [⟨(some 73), .mv (.tmp 71), none, true⟩,
        ⟨(some 13), .mv (.tmp 73), none, true⟩])
    (.seq (.ops [⟨(some 74), .mv (.tmp 0), none, true⟩,
        ⟨(some 75), .mv (.tmp 13), none, true⟩,
        ⟨(some 76), .indexAddr 4 (.tmp 74) (.tmp 75), none, true⟩,
        ⟨(some 77), .load (some 4) (.tmp 76), none, true⟩,
        ⟨(some 78), .call (.av (.func 17 [])) [(.tmp 77)], none, true⟩,
        ⟨(some 79), .call (.av (.func 16 [])) [(.tmp 78)], none, true⟩,
        ⟨(some 80), .mv (.tmp 79), none, true⟩,
        ⟨(some 81), .mv (.tmp 0), (some (80, true)), true⟩,
        ⟨(some 82), .mv (.tmp 13), (some (80, true)), true⟩,
        ⟨(some 83), .indexAddr 4 (.tmp 81) (.tmp 82), (some (80, true)), true⟩,
        ⟨(some 84), .load (some 4) (.tmp 83), (some (80, true)), true⟩,
        ⟨(some 85), .mv (.tmp 7), (some (80, true)), true⟩,
        ⟨(some 86), .mv (.tmp 13), (some (80, true)), true⟩,
        ⟨(some 87), .indexAddr 4 (.tmp 85) (.tmp 86), (some (80, true)), true⟩,
        ⟨(some 88), .load (some 4) (.tmp 87), (some (80, true)), true⟩,
        ⟨(some 89), .call (.av (.func 20 [])) [(.tmp 84), (.tmp 88)], (some (80, true)), true⟩,
        ⟨(some 90), .un .not (.tmp 89), (some (80, true)), true⟩,
        ⟨(some 91), .pick (.tmp 80) (.tmp 90) (.av (.val (.bool false))), none, true⟩])
    (.cond (.tmp 91)
      (.seq (.ops [⟨(some 4), .mv (.av (.val (.bool false))), none, true⟩])
      (.ret))
      (.skip))))))
  (.seq (.ops [⟨(some 93), .call (.av (.func 13 [])) [], none, true⟩,
      ⟨(some 4), .mv (.tmp 93), none, true⟩])
  (.ret)))))))))))
theorem f_l_wordscells : cFunc Try.prog 7 = some ⟨94, c_l_wordscells, [.tmp 4]⟩ := by kernel_rfl
/-- backstitch/backstitchkeep3.plain: its code in AM. -/
def c_l_plain : ACode := .seq (.ops [⟨(some 2), .mv (.av (.val (.bool false))), none, true⟩])
  (.seq (.seq (.ops [⟨(some 5), .mv (.tmp 0), none, true⟩,
      ⟨(some 6), .len (.tmp 5), none, true⟩,
      ⟨(some 7), .mv (.av (.val (.int .i64 0))), none, true⟩])
  (rangeCode 0 1 8 7 6 20
    (.seq (.ops [⟨(some 9), .indexAddr 2 (.tmp 5) (.tmp 7), none, true⟩,
        ⟨(some 10), .load (some 2) (.tmp 9), none, true⟩,
        ⟨(some 4), .zero [(.val (.int .i64 0)), (.val (.int .i64 0))], none, true⟩,
        ⟨none, .store 2 (.tmp 4) (.tmp 10), none, true⟩])
    (.seq (.ops [⟨(some 11), .fieldAddr 0 (.tmp 4), none, true⟩,
        ⟨(some 12), .load none (.tmp 11), none, true⟩,
        ⟨(some 13), .bin .eql (.tmp 12) (.av (.val (.int .i64 3))), none, true⟩,
        ⟨(some 14), .mv (.tmp 13), none, true⟩,
        ⟨(some 15), .fieldAddr 1 (.tmp 4), (some (14, true)), true⟩,
        ⟨(some 16), .load none (.tmp 15), (some (14, true)), true⟩,
        ⟨(some 17), .conv .u64 (.tmp 16), (some (14, true)), true⟩,
        ⟨(some 18), .call (.av (.func 34 [])) [(.tmp 17)], (some (14, true)), true⟩,
        ⟨(some 19), .pick (.tmp 14) (.tmp 18) (.av (.val (.bool false))), none, true⟩])
    (.cond (.tmp 19)
      (.seq (.ops [⟨(some 2), .mv (.av (.val (.bool false))), none, true⟩])
      (.ret))
      (.skip))))))
  (.seq (.ops [⟨(some 2), .mv (.av (.val (.bool true))), none, true⟩])
  (.ret)))
theorem f_l_plain : cFunc Try.prog 16 = some ⟨21, c_l_plain, [.tmp 2]⟩ := by kernel_rfl
/-- backstitch/backstitchref3.CellVals: its code in AM. -/
def c_r_cellvals : ACode := .seq (.ops [⟨(some 1), .box 4 (.tmp 0), none, true⟩,
      ⟨(some 2), .mv (.av (.val (.slice none 0 0))), none, true⟩])
  (.seq (.ops [⟨(some 6), .fieldAddr 2 (.tmp 1), none, true⟩,
      ⟨(some 7), .load none (.tmp 6), none, true⟩,
      ⟨(some 8), .call (.av (.func 15 [])) [(.tmp 7)], none, true⟩,
      ⟨(some 3), .mv (.tmp 8), none, true⟩])
  (.seq (.seq (.ops [⟨(some 9), .fieldAddr 3 (.tmp 1), none, true⟩,
      ⟨(some 10), .load none (.tmp 9), none, true⟩,
      ⟨(some 11), .len (.tmp 10), none, true⟩,
      ⟨(some 12), .mv (.av (.val (.int .i64 0))), none, true⟩])
  (rangeCode 0 1 13 12 11 24
    (.seq (.ops [⟨(some 14), .indexAddr 8 (.tmp 10) (.tmp 12), none, true⟩,
        ⟨(some 15), .load (some 8) (.tmp 14), none, true⟩,
        ⟨(some 5), .zero [(.val (.int .i64 0)), (.val (.int .i64 0)), (.val (.int .i64 0)), (.val (.int .i64 0)), (.val (.int .i64 0)), (.val (.int .i64 0)), (.val (.slice none 0 0)), (.val (.slice none 0 0))], none, true⟩,
        ⟨none, .store 8 (.tmp 5) (.tmp 15), none, true⟩])
    (.ops [⟨(some 16), .mv (.tmp 3), none, true⟩,
        ⟨(some 17), .fieldAddr 4 (.tmp 5), none, true⟩,
        ⟨(some 18), .load (some 2) (.tmp 17), none, true⟩,
        ⟨(some 19), .lits 2 1 [(.val (.int .i64 0)), (.val (.int .i64 0))] [(0, 2, (.tmp 18))], none, true⟩,
        ⟨(some 20), .append 2 16 (.tmp 16) (.tmp 19), none, false⟩,
        ⟨(some 21), .fieldAddr 6 (.tmp 5), none, true⟩,
        ⟨(some 22), .load none (.tmp 21), none, false⟩,
        ⟨(some 23), .append 2 16 (.tmp 20) (.tmp 22), none, true⟩,
        ⟨(some 3), .mv (.tmp 23), none, true⟩]))))
  (.seq (.ops [⟨(some 25), .mv (.tmp 3), none, true⟩,
      ⟨(some 2), .mv (.tmp 25), none, true⟩])
  (.ret))))
theorem f_r_cellvals : cFunc Try.prog 17 = some ⟨26, c_r_cellvals, [.tmp 2]⟩ := by kernel_rfl
/-- backstitch/backstitchref3.Copy[uint64]: its code in AM. -/
def c_r_copyu : ACode := .seq (.ops [⟨(some 2), .mv (.av (.val (.slice none 0 0))), none, true⟩])
  (.seq (.ops [⟨(some 3), .mv (.tmp 0), none, true⟩,
      ⟨(some 4), .append 1 8 (.av (.val (.slice none 0 0))) (.tmp 3), none, true⟩,
      ⟨(some 2), .mv (.tmp 4), none, true⟩])
  (.ret))
theorem f_r_copyu : cFunc Try.prog 19 = some ⟨5, c_r_copyu, [.tmp 2]⟩ := by kernel_rfl
/-- backstitch/backstitchkeep3.sameCell: its code in AM. -/
def c_l_samecell : ACode := .seq (.ops [⟨(some 2), .box 4 (.tmp 0), none, true⟩,
      ⟨(some 3), .box 4 (.tmp 1), none, true⟩,
      ⟨(some 4), .mv (.av (.val (.bool false))), none, true⟩])
  (.seq (.seq (.ops [⟨(some 6), .fieldAddr 0 (.tmp 2), none, true⟩,
      ⟨(some 7), .load none (.tmp 6), none, true⟩,
      ⟨(some 8), .fieldAddr 0 (.tmp 3), none, true⟩,
      ⟨(some 9), .load none (.tmp 8), none, true⟩,
      ⟨(some 10), .bin .neq (.tmp 7) (.tmp 9), none, true⟩,
      ⟨(some 11), .mv (.tmp 10), none, true⟩,
      ⟨(some 12), .fieldAddr 1 (.tmp 2), (some (11, false)), true⟩,
      ⟨(some 13), .load none (.tmp 12), (some (11, false)), true⟩,
      ⟨(some 14), .fieldAddr 1 (.tmp 3), (some (11, false)), true⟩,
      ⟨(some 15), .load none (.tmp 14), (some (11, false)), true⟩,
      ⟨(some 16), .bin .neq (.tmp 13) (.tmp 15), (some (11, false)), true⟩,
      ⟨(some 17), .pick (.tmp 11) (.av (.val (.bool true))) (.tmp 16), none, true⟩,
      ⟨(some 18), .mv (.tmp 17), none, true⟩,
      ⟨(some 19), .fieldAddr 2 (.tmp 2), (some (18, false)), true⟩,
      ⟨(some 20), .load none (.tmp 19), (some (18, false)), true⟩,
      ⟨(some 21), .fieldAddr 2 (.tmp 3), (some (18, false)), true⟩,
      ⟨(some 22), .load none (.tmp 21), (some (18, false)), true⟩,
      ⟨(some 23), .call (.av (.func 36 [])) [(.tmp 20), (.tmp 22)], (some (18, false)), true⟩,
      ⟨(some 24), .un .not (.tmp 23), (some (18, false)), true⟩,
      ⟨(some 25), .pick (.tmp 18) (.av (.val (.bool true))) (.tmp 24), none, true⟩,
      ⟨(some 26), .mv (.tmp 25), none, true⟩,
      ⟨(some 27), .fieldAddr 3 (.tmp 2), (some (26, false)), true⟩,
      ⟨(some 28), .load none (.tmp 27), (some (26, false)), true⟩,
      ⟨(some 29), .len (.tmp 28), (some (26, false)), true⟩,
      ⟨(some 30), .fieldAddr 3 (.tmp 3), (some (26, false)), true⟩,
      ⟨(some 31), .load none (.tmp 30), (some (26, false)), true⟩,
      ⟨(some 32), .len (.tmp 31), (some (26, false)), true⟩,
      ⟨(some 33), .bin .neq (.tmp 29) (.tmp 32), (some (26, false)), true⟩,
      ⟨(some 34), .pick (.tmp 26) (.av (.val (.bool true))) (.tmp 33), none, true⟩])
  (.cond (.tmp 34)
    (.seq (.ops [⟨(some 4), .mv (.av (.val (.bool false))), none, true⟩])
    (.ret))
    (.skip)))
  (.seq (.seq (.ops [⟨(some 35), .fieldAddr 3 (.tmp 2), none, true⟩,
      ⟨(some 36), .load none (.tmp 35), none, true⟩,
      ⟨(some 37), .len (.tmp 36), none, true⟩,
      ⟨(some 38), .mv (.av (.val (.int .i64 0))), none, true⟩])
  (rangeCode 0 1 39 38 37 53
    (.seq (.ops [⟨(some 40), .mv (.tmp 38), none, true⟩,
        ⟨(some 5), .mv (.tmp 40), none, true⟩])
    (.seq (.ops [⟨(some 41), .fieldAddr 3 (.tmp 2), none, true⟩,
        ⟨(some 42), .load none (.tmp 41), none, true⟩,
        ⟨(some 43), .mv (.tmp 5), none, true⟩,
        ⟨(some 44), .indexAddr 8 (.tmp 42) (.tmp 43), none, true⟩,
        ⟨(some 45), .load (some 8) (.tmp 44), none, true⟩,
        ⟨(some 46), .fieldAddr 3 (.tmp 3), none, true⟩,
        ⟨(some 47), .load none (.tmp 46), none, true⟩,
        ⟨(some 48), .mv (.tmp 5), none, true⟩,
        ⟨(some 49), .indexAddr 8 (.tmp 47) (.tmp 48), none, true⟩,
        ⟨(some 50), .load (some 8) (.tmp 49), none, true⟩,
        ⟨(some 51), .call (.av (.func 37 [])) [(.tmp 45), (.tmp 50)], none, true⟩,
        ⟨(some 52), .un .not (.tmp 51), none, true⟩])
    (.cond (.tmp 52)
      (.seq (.ops [⟨(some 4), .mv (.av (.val (.bool false))), none, true⟩])
      (.ret))
      (.skip))))))
  (.seq (.ops [⟨(some 4), .mv (.av (.val (.bool true))), none, true⟩])
  (.ret))))
theorem f_l_samecell : cFunc Try.prog 20 = some ⟨54, c_l_samecell, [.tmp 4]⟩ := by kernel_rfl
/-- backstitch/backstitchref3.Eq[uint64]: its code in AM. -/
def c_r_equ : ACode := .seq (.ops [⟨(some 4), .mv (.av (.val (.bool false))), none, true⟩])
  (.seq (.seq (.ops [⟨(some 7), .mv (.tmp 0), none, true⟩,
      ⟨(some 8), .len (.tmp 7), none, true⟩,
      ⟨(some 9), .mv (.tmp 1), none, true⟩,
      ⟨(some 10), .len (.tmp 9), none, true⟩,
      ⟨(some 11), .bin .neq (.tmp 8) (.tmp 10), none, true⟩])
  (.cond (.tmp 11)
    (.seq (.ops [⟨(some 4), .mv (.av (.val (.bool false))), none, true⟩])
    (.ret))
    (.skip)))
  (.seq (.seq (.ops [⟨(some 12), .mv (.tmp 0), none, true⟩,
      ⟨(some 13), .len (.tmp 12), none, true⟩,
      ⟨(some 14), .mv (.av (.val (.int .i64 0))), none, true⟩])
  (rangeCode 0 1 15 14 13 25
    (.seq (.ops [⟨(some 16), .mv (.tmp 14), none, true⟩,
        ⟨(some 17), .indexAddr 1 (.tmp 12) (.tmp 14), none, true⟩,
        ⟨(some 18), .load none (.tmp 17), none, true⟩,
        ⟨(some 5), .mv (.tmp 16), none, true⟩,
        ⟨(some 6), .mv (.tmp 18), none, true⟩])
    (.seq (.ops [⟨(some 19), .mv (.tmp 6), none, true⟩,
        ⟨(some 20), .mv (.tmp 1), none, true⟩,
        ⟨(some 21), .mv (.tmp 5), none, true⟩,
        ⟨(some 22), .indexAddr 1 (.tmp 20) (.tmp 21), none, true⟩,
        ⟨(some 23), .load none (.tmp 22), none, true⟩,
        ⟨(some 24), .bin .neq (.tmp 19) (.tmp 23), none, true⟩])
    (.cond (.tmp 24)
      (.seq (.ops [⟨(some 4), .mv (.av (.val (.bool false))), none, true⟩])
      (.ret))
      (.skip))))))
  (.seq (.ops [⟨(some 4), .mv (.av (.val (.bool true))), none, true⟩])
  (.ret))))
theorem f_r_equ : cFunc Try.prog 21 = some ⟨26, c_r_equ, [.tmp 4]⟩ := by kernel_rfl
/-- backstitch/backstitchref3.Rest: its code in AM. -/
def c_r_rest : ACode := .seq (.ops [⟨(some 4), .mv (.av (.val (.int .i64 0))), none, true⟩])
  (.seq (.ops [⟨(some 6), .mv (.tmp 0), none, true⟩,
      ⟨(some 7), .mv (.tmp 1), none, true⟩,
      ⟨(some 8), .bin .rem (.tmp 6) (.tmp 7), none, true⟩,
      ⟨(some 5), .mv (.tmp 8), none, true⟩])
  (.seq (.seq (.ops [⟨(some 9), .mv (.tmp 5), none, true⟩,
      ⟨(some 10), .bin .lss (.tmp 9) (.av (.val (.int .i64 0))), none, true⟩])
  (.cond (.tmp 10)
    (.ops [⟨(some 11), .mv (.tmp 5), none, true⟩,
        ⟨(some 12), .mv (.tmp 1), none, true⟩,
        ⟨(some 13), .bin .add (.tmp 11) (.tmp 12), none, true⟩,
        ⟨(some 5), .mv (.tmp 13), none, true⟩])
    (.skip)))
  (.seq (.ops [⟨(some 14), .mv (.tmp 5), none, true⟩,
      ⟨(some 4), .mv (.tmp 14), none, true⟩])
  (.ret))))
theorem f_r_rest : cFunc Try.prog 22 = some ⟨15, c_r_rest, [.tmp 4]⟩ := by kernel_rfl
/-- backstitch/words.All: its code in AM. -/
def c_wo_all : ACode := .seq (.ops [⟨(some 2), .mv (.av (.val (.slice none 0 0))), none, true⟩,
      ⟨(some 3), .mv (.av (.val (.int .i64 0))), none, true⟩])
  (.seq (.seq (.ops [⟨(some 9), .mv (.tmp 0), none, true⟩,
      ⟨(some 10), .len (.tmp 9), none, true⟩,
      ⟨(some 11), .bin .gtr (.tmp 10) (.av (.val (.int .i64 300))), none, true⟩])
  (.cond (.tmp 11)
    (.seq (.ops [⟨(some 2), .mv (.av (.val (.slice none 0 0))), none, true⟩,
        ⟨(some 3), .mv (.av (.val (.int .i64 2))), none, true⟩])
    (.ret))
    (.skip)))
  (.seq (.ops [⟨(some 12), .mv (.tmp 0), none, true⟩,
      ⟨(some 13), .len (.tmp 12), none, true⟩,
      ⟨(some 14), .conv .u64 (.tmp 13), none, true⟩,
      ⟨(some 15), .lits 1 1 [(.val (.int .u64 0))] [(0, 1, (.tmp 14))], none, true⟩,
      ⟨(some 4), .mv (.tmp 15), none, true⟩])
  (.seq (.seq (.ops [⟨(some 16), .mv (.tmp 0), none, true⟩,
      ⟨(some 17), .len (.tmp 16), none, true⟩,
      ⟨(some 18), .mv (.av (.val (.int .i64 0))), none, true⟩])
  (rangeCode 0 1 19 18 17 33
    (.seq (.ops [⟨(some 20), .indexAddr 4 (.tmp 16) (.tmp 18), none, true⟩,
        ⟨(some 21), .load (some 4) (.tmp 20), none, true⟩,
        ⟨(some 6), .zero [(.val (.int .i64 0)), (.val (.int .i64 0)), (.val (.slice none 0 0)), (.val (.slice none 0 0))], none, true⟩,
        ⟨none, .store 4 (.tmp 6) (.tmp 21), none, true⟩])
    (.seq (.ops [⟨(some 23), .load (some 4) (.tmp 6), none, true⟩,
        ⟨(some 24), .call (.av (.func 14 [])) [(.tmp 23)], none, true⟩,
        ⟨(some 22), .mv (.tmp 24), none, true⟩,
        ⟨(some 25), .extract 0 (.tmp 22), none, true⟩,
        ⟨(some 26), .extract 1 (.tmp 22), none, true⟩,
        ⟨(some 7), .mv (.tmp 25), none, true⟩,
        ⟨(some 8), .mv (.tmp 26), none, true⟩])
    (.seq (.seq (.ops [⟨(some 27), .mv (.tmp 8), none, true⟩,
        ⟨(some 28), .bin .neq (.tmp 27) (.av (.val (.int .i64 0))), none, true⟩])
    (.cond (.tmp 28)
      (.seq (.ops [⟨(some 29), .mv (.tmp 8), none, true⟩,
          ⟨(some 2), .mv (.av (.val (.slice none 0 0))), none, true⟩,
          ⟨(some 3), .mv (.tmp 29), none, true⟩])
      (.ret))
      (.skip)))
    (.ops [⟨(some 30), .mv (.tmp 4), none, true⟩,
        ⟨(some 31), .mv (.tmp 7), none, true⟩,
        ⟨(some 32), .append 1 8 (.tmp 30) (.tmp 31), none, true⟩,
        ⟨(some 4), .mv (.tmp 32), none, true⟩]))))))
  (.seq (.ops [⟨(some 34), .mv (.tmp 4), none, true⟩,
      ⟨(some 2), .mv (.tmp 34), none, true⟩,
      ⟨(some 3), .mv (.av (.val (.int .i64 0))), none, true⟩])
  (.ret)))))
theorem f_wo_all : cFunc Try.prog 23 = some ⟨35, c_wo_all, [.tmp 2, .tmp 3]⟩ := by kernel_rfl
/-- backstitch/words.Cells: its code in AM. -/
def c_wo_cells : ACode := .seq (.ops [⟨(some 2), .mv (.av (.val (.slice none 0 0))), none, true⟩,
      ⟨(some 3), .mv (.av (.val (.int .i64 0))), none, true⟩])
  (.seq (.ops [⟨(some 7), .mv (.tmp 0), none, true⟩,
      ⟨(some 8), .build [(.val (.slice none 0 0)), (.val (.int .i64 0)), (.val (.bool false))] [(0, 1, (.tmp 7))], none, true⟩,
      ⟨(some 9), .box 3 (.tmp 8), none, true⟩,
      ⟨(some 4), .mv (.tmp 9), none, true⟩])
  (.seq (.ops [⟨(some 5), .mv (.av (.val (.slice none 0 0))), none, true⟩])
  (.seq (.seq (.ops [⟨(some 10), .mv (.tmp 4), none, true⟩,
      ⟨(some 11), .call (.av (.func 38 [])) [(.tmp 10), (.av (.val (.int .i64 300)))], none, true⟩,
      ⟨(some 6), .mv (.tmp 11), none, true⟩])
  (.block 0 (.loop (.seq (.seq (.ops [⟨(some 12), .mv (.tmp 6), none, true⟩,
        ⟨(some 13), .bin .gtr (.tmp 12) (.av (.val (.int .i64 0))), none, true⟩,
        ⟨(some 14), .mv (.tmp 13), none, true⟩,
        ⟨(some 15), .mv (.tmp 4), (some (14, true)), true⟩,
        ⟨(some 16), .nilCheck (.tmp 15), (some (14, true)), true⟩,
        ⟨(some 17), .fieldAddr 2 (.tmp 16), (some (14, true)), true⟩,
        ⟨(some 18), .load none (.tmp 17), (some (14, true)), true⟩,
        ⟨(some 19), .un .not (.tmp 18), (some (14, true)), true⟩,
        ⟨(some 20), .pick (.tmp 14) (.tmp 19) (.av (.val (.bool false))), none, true⟩])
    (.cond (.tmp 20)
      (.skip)
      (.exit 0)))
    (.seq (.block 1 (.ops [⟨(some 23), .mv (.tmp 5), none, true⟩,
         ⟨(some 24), .mv (.tmp 4), none, true⟩,
         ⟨(some 25), .call (.av (.func 35 [])) [(.tmp 24)], none, true⟩,
         ⟨(some 26), .lits 4 1 [(.val (.int .i64 0)), (.val (.int .i64 0)), (.val (.slice none 0 0)), (.val (.slice none 0 0))] [(0, 4, (.tmp 25))], none, true⟩,
         ⟨(some 27), .append 4 64 (.tmp 23) (.tmp 26), none, true⟩,
         ⟨(some 5), .mv (.tmp 27), none, true⟩]))
    (.ops [⟨(some 21), .mv (.tmp 6), none, true⟩,
        ⟨(some 22), .bin .sub (.tmp 21) (.av (.val (.int .i64 1))), none, true⟩,
        ⟨(some 6), .mv (.tmp 22), none, true⟩]))))))
  (.seq (.seq (.ops [⟨(some 28), .mv (.tmp 4), none, true⟩,
      ⟨(some 29), .nilCheck (.tmp 28), none, true⟩,
      ⟨(some 30), .fieldAddr 2 (.tmp 29), none, true⟩,
      ⟨(some 31), .load none (.tmp 30), none, true⟩,
      ⟨(some 32), .mv (.tmp 31), none, true⟩,
      ⟨(some 33), .mv (.tmp 4), (some (32, false)), true⟩,
      ⟨(some 34), .nilCheck (.tmp 33), (some (32, false)), true⟩,
      ⟨(some 35), .fieldAddr 1 (.tmp 34), (some (32, false)), true⟩,
      ⟨(some 36), .load none (.tmp 35), (some (32, false)), true⟩,
      ⟨(some 37), .mv (.tmp 0), (some (32, false)), true⟩,
      ⟨(some 38), .len (.tmp 37), (some (32, false)), true⟩,
      ⟨(some 39), .bin .neq (.tmp 36) (.tmp 38), (some (32, false)), true⟩,
      ⟨(some 40), .pick (.tmp 32) (.av (.val (.bool true))) (.tmp 39), none, true⟩])
  (.cond (.tmp 40)
    (.seq (.ops [⟨(some 2), .mv (.av (.val (.slice none 0 0))), none, true⟩,
        ⟨(some 3), .mv (.av (.val (.int .i64 3))), none, true⟩])
    (.ret))
    (.skip)))
  (.seq (.ops [⟨(some 41), .mv (.tmp 5), none, true⟩,
      ⟨(some 2), .mv (.tmp 41), none, true⟩,
      ⟨(some 3), .mv (.av (.val (.int .i64 0))), none, true⟩])
  (.ret))))))
theorem f_wo_cells : cFunc Try.prog 24 = some ⟨42, c_wo_cells, [.tmp 2, .tmp 3]⟩ := by kernel_rfl
/-- backstitch/backstitchref3.Odd: its code in AM. -/
def c_r_odd : ACode := .seq (.ops [⟨(some 2), .mv (.av (.val (.bool false))), none, true⟩])
  (.seq (.ops [⟨(some 5), .mv (.tmp 0), none, true⟩,
      ⟨(some 6), .bin .shr (.tmp 5) (.av (.val (.int .u64 52))), none, true⟩,
      ⟨(some 7), .bin .rem (.tmp 6) (.av (.val (.int .u64 2048))), none, true⟩,
      ⟨(some 8), .mv (.tmp 0), none, true⟩,
      ⟨(some 9), .bin .shl (.tmp 8) (.av (.val (.int .u64 12))), none, true⟩,
      ⟨(some 3), .mv (.tmp 7), none, true⟩,
      ⟨(some 4), .mv (.tmp 9), none, true⟩])
  (.seq (.ops [⟨(some 10), .mv (.tmp 3), none, true⟩,
      ⟨(some 11), .bin .eql (.tmp 10) (.av (.val (.int .u64 2047))), none, true⟩,
      ⟨(some 12), .mv (.tmp 11), none, true⟩,
      ⟨(some 13), .mv (.tmp 4), (some (12, true)), true⟩,
      ⟨(some 14), .bin .neq (.tmp 13) (.av (.val (.int .u64 0))), (some (12, true)), true⟩,
      ⟨(some 15), .pick (.tmp 12) (.tmp 14) (.av (.val (.bool false))), none, true⟩,
      ⟨(some 2), .mv (.tmp 15), none, true⟩])
  (.ret)))
theorem f_r_odd : cFunc Try.prog 34 = some ⟨16, c_r_odd, [.tmp 2]⟩ := by kernel_rfl
/-- backstitch/backstitchref3.Eq[backstitch/api.Val]: its code in AM. -/
def c_r_eqval : ACode := .seq (.ops [⟨(some 4), .mv (.av (.val (.bool false))), none, true⟩])
  (.seq (.seq (.ops [⟨(some 7), .mv (.tmp 0), none, true⟩,
      ⟨(some 8), .len (.tmp 7), none, true⟩,
      ⟨(some 9), .mv (.tmp 1), none, true⟩,
      ⟨(some 10), .len (.tmp 9), none, true⟩,
      ⟨(some 11), .bin .neq (.tmp 8) (.tmp 10), none, true⟩])
  (.cond (.tmp 11)
    (.seq (.ops [⟨(some 4), .mv (.av (.val (.bool false))), none, true⟩])
    (.ret))
    (.skip)))
  (.seq (.seq (.ops [⟨(some 12), .mv (.tmp 0), none, true⟩,
      ⟨(some 13), .len (.tmp 12), none, true⟩,
      ⟨(some 14), .mv (.av (.val (.int .i64 0))), none, true⟩])
  (rangeCode 0 1 15 14 13 25
    (.seq (.ops [⟨(some 16), .mv (.tmp 14), none, true⟩,
        ⟨(some 17), .indexAddr 2 (.tmp 12) (.tmp 14), none, true⟩,
        ⟨(some 18), .load (some 2) (.tmp 17), none, true⟩,
        ⟨(some 6), .zero [(.val (.int .i64 0)), (.val (.int .i64 0))], none, true⟩,
        ⟨(some 5), .mv (.tmp 16), none, true⟩,
        ⟨none, .store 2 (.tmp 6) (.tmp 18), none, true⟩])
    (.seq (.ops [⟨(some 19), .load (some 2) (.tmp 6), none, true⟩,
        ⟨(some 20), .mv (.tmp 1), none, true⟩,
        ⟨(some 21), .mv (.tmp 5), none, true⟩,
        ⟨(some 22), .indexAddr 2 (.tmp 20) (.tmp 21), none, true⟩,
        ⟨(some 23), .load (some 2) (.tmp 22), none, true⟩,
        ⟨(some 24), .eqAgg true [0, 0] (.tmp 19) (.tmp 23), none, true⟩])
    (.cond (.tmp 24)
      (.seq (.ops [⟨(some 4), .mv (.av (.val (.bool false))), none, true⟩])
      (.ret))
      (.skip))))))
  (.seq (.ops [⟨(some 4), .mv (.av (.val (.bool true))), none, true⟩])
  (.ret))))
theorem f_r_eqval : cFunc Try.prog 36 = some ⟨26, c_r_eqval, [.tmp 4]⟩ := by kernel_rfl
/-- backstitch/backstitchkeep3.sameFrame: its code in AM. -/
def c_l_sameframe : ACode := .seq (.ops [⟨(some 2), .box 8 (.tmp 0), none, true⟩,
      ⟨(some 3), .box 8 (.tmp 1), none, true⟩,
      ⟨(some 4), .mv (.av (.val (.bool false))), none, true⟩])
  (.seq (.ops [⟨(some 5), .fieldAddr 0 (.tmp 2), none, true⟩,
      ⟨(some 6), .load none (.tmp 5), none, true⟩,
      ⟨(some 7), .fieldAddr 0 (.tmp 3), none, true⟩,
      ⟨(some 8), .load none (.tmp 7), none, true⟩,
      ⟨(some 9), .bin .eql (.tmp 6) (.tmp 8), none, true⟩,
      ⟨(some 10), .mv (.tmp 9), none, true⟩,
      ⟨(some 11), .fieldAddr 1 (.tmp 2), (some (10, true)), true⟩,
      ⟨(some 12), .load none (.tmp 11), (some (10, true)), true⟩,
      ⟨(some 13), .fieldAddr 1 (.tmp 3), (some (10, true)), true⟩,
      ⟨(some 14), .load none (.tmp 13), (some (10, true)), true⟩,
      ⟨(some 15), .bin .eql (.tmp 12) (.tmp 14), (some (10, true)), true⟩,
      ⟨(some 16), .pick (.tmp 10) (.tmp 15) (.av (.val (.bool false))), none, true⟩,
      ⟨(some 17), .mv (.tmp 16), none, true⟩,
      ⟨(some 18), .fieldAddr 2 (.tmp 2), (some (17, true)), true⟩,
      ⟨(some 19), .load none (.tmp 18), (some (17, true)), true⟩,
      ⟨(some 20), .fieldAddr 2 (.tmp 3), (some (17, true)), true⟩,
      ⟨(some 21), .load none (.tmp 20), (some (17, true)), true⟩,
      ⟨(some 22), .bin .eql (.tmp 19) (.tmp 21), (some (17, true)), true⟩,
      ⟨(some 23), .pick (.tmp 17) (.tmp 22) (.av (.val (.bool false))), none, true⟩,
      ⟨(some 24), .mv (.tmp 23), none, true⟩,
      ⟨(some 25), .fieldAddr 3 (.tmp 2), (some (24, true)), true⟩,
      ⟨(some 26), .load none (.tmp 25), (some (24, true)), true⟩,
      ⟨(some 27), .fieldAddr 3 (.tmp 3), (some (24, true)), true⟩,
      ⟨(some 28), .load none (.tmp 27), (some (24, true)), true⟩,
      ⟨(some 29), .bin .eql (.tmp 26) (.tmp 28), (some (24, true)), true⟩,
      ⟨(some 30), .pick (.tmp 24) (.tmp 29) (.av (.val (.bool false))), none, true⟩,
      ⟨(some 31), .mv (.tmp 30), none, true⟩,
      ⟨(some 32), .fieldAddr 4 (.tmp 2), (some (31, true)), true⟩,
      ⟨(some 33), .load (some 2) (.tmp 32), (some (31, true)), true⟩,
      ⟨(some 34), .fieldAddr 4 (.tmp 3), (some (31, true)), true⟩,
      ⟨(some 35), .load (some 2) (.tmp 34), (some (31, true)), true⟩,
      ⟨(some 36), .eqAgg false [0, 0] (.tmp 33) (.tmp 35), (some (31, true)), true⟩,
      ⟨(some 37), .pick (.tmp 31) (.tmp 36) (.av (.val (.bool false))), none, true⟩,
      ⟨(some 38), .mv (.tmp 37), none, true⟩,
      ⟨(some 39), .fieldAddr 6 (.tmp 2), (some (38, true)), true⟩,
      ⟨(some 40), .load none (.tmp 39), (some (38, true)), true⟩,
      ⟨(some 41), .fieldAddr 6 (.tmp 3), (some (38, true)), true⟩,
      ⟨(some 42), .load none (.tmp 41), (some (38, true)), true⟩,
      ⟨(some 43), .call (.av (.func 36 [])) [(.tmp 40), (.tmp 42)], (some (38, true)), true⟩,
      ⟨(some 44), .pick (.tmp 38) (.tmp 43) (.av (.val (.bool false))), none, true⟩,
      ⟨(some 45), .mv (.tmp 44), none, true⟩,
      ⟨(some 46), .fieldAddr 7 (.tmp 2), (some (45, true)), true⟩,
      ⟨(some 47), .load none (.tmp 46), (some (45, true)), true⟩,
      ⟨(some 48), .fieldAddr 7 (.tmp 3), (some (45, true)), true⟩,
      ⟨(some 49), .load none (.tmp 48), (some (45, true)), true⟩,
      ⟨(some 50), .call (.av (.func 55 [])) [(.tmp 47), (.tmp 49)], (some (45, true)), true⟩,
      ⟨(some 51), .pick (.tmp 45) (.tmp 50) (.av (.val (.bool false))), none, true⟩,
      ⟨(some 4), .mv (.tmp 51), none, true⟩])
  (.ret))
theorem f_l_sameframe : cFunc Try.prog 37 = some ⟨52, c_l_sameframe, [.tmp 4]⟩ := by kernel_rfl
/-- backstitch/backstitchref3.Eq[backstitch/api.Try]: its code in AM. -/
def c_r_eqtry : ACode := .seq (.ops [⟨(some 4), .mv (.av (.val (.bool false))), none, true⟩])
  (.seq (.seq (.ops [⟨(some 7), .mv (.tmp 0), none, true⟩,
      ⟨(some 8), .len (.tmp 7), none, true⟩,
      ⟨(some 9), .mv (.tmp 1), none, true⟩,
      ⟨(some 10), .len (.tmp 9), none, true⟩,
      ⟨(some 11), .bin .neq (.tmp 8) (.tmp 10), none, true⟩])
  (.cond (.tmp 11)
    (.seq (.ops [⟨(some 4), .mv (.av (.val (.bool false))), none, true⟩])
    (.ret))
    (.skip)))
  (.seq (.seq (.ops [⟨(some 12), .mv (.tmp 0), none, true⟩,
      ⟨(some 13), .len (.tmp 12), none, true⟩,
      ⟨(some 14), .mv (.av (.val (.int .i64 0))), none, true⟩])
  (rangeCode 0 1 15 14 13 25
    (.seq (.ops [⟨(some 16), .mv (.tmp 14), none, true⟩,
        ⟨(some 17), .indexAddr 2 (.tmp 12) (.tmp 14), none, true⟩,
        ⟨(some 18), .load (some 2) (.tmp 17), none, true⟩,
        ⟨(some 6), .zero [(.val (.int .i64 0)), (.val (.int .i64 0))], none, true⟩,
        ⟨(some 5), .mv (.tmp 16), none, true⟩,
        ⟨none, .store 2 (.tmp 6) (.tmp 18), none, true⟩])
    (.seq (.ops [⟨(some 19), .load (some 2) (.tmp 6), none, true⟩,
        ⟨(some 20), .mv (.tmp 1), none, true⟩,
        ⟨(some 21), .mv (.tmp 5), none, true⟩,
        ⟨(some 22), .indexAddr 2 (.tmp 20) (.tmp 21), none, true⟩,
        ⟨(some 23), .load (some 2) (.tmp 22), none, true⟩,
        ⟨(some 24), .eqAgg true [0, 0] (.tmp 19) (.tmp 23), none, true⟩])
    (.cond (.tmp 24)
      (.seq (.ops [⟨(some 4), .mv (.av (.val (.bool false))), none, true⟩])
      (.ret))
      (.skip))))))
  (.seq (.ops [⟨(some 4), .mv (.av (.val (.bool true))), none, true⟩])
  (.ret))))
theorem f_r_eqtry : cFunc Try.prog 55 = some ⟨26, c_r_eqtry, [.tmp 4]⟩ := by kernel_rfl
end Go.Proofs.Ytpmmiaadfnildaa

namespace Go.Proofs.Ytpmmiaadfnildaa
open Go Go.RowKit
set_option linter.unusedVariables false
set_option linter.unusedSimpArgs false
abbrev RS := Nat × Bool
def rWord (l : List Int) (s : RS) : Int × RS := match l[s.1]? with
  | some x => (x, (s.1 + 1, s.2))
  | none => (0, (s.1, true))
def rNum (l : List Int) (s : RS) : Int × RS := (IntKind.i64.wrap (rWord l s).1, (rWord l s).2)
def rMany (m : Int) (l : List Int) (s : RS) : Int × RS := if (rNum l s).1 < 0 ∨ m < (rNum l s).1 then (0, ((rNum l s).2.1, true)) else rNum l s
def rVal (l : List Int) (s : RS) : (Int × Int) × RS := ((unKind (rWord l s).1, unNum (rWord l s).1), ((rWord l s).2.1, (rWord l s).2.2 || !decide (unE (rWord l s).1 = 0)))
/-- The reader in block i. -/
def rdB (ex : Bool) (l : List Int) (s : RS) : ZB := .box [.fz 1 ex (l.map eU), Z64 s.1, ZBo s.2]
def rdH (H : ZH) (i : Nat) (ex : Bool) (l : List Int) (s : RS) : ZH := H.set i (rdB ex l s)
structure ROk (H : ZH) (L : Nat → Bool) (i : Nat) (l : List Int) : Prop where
  hi : i < H.length
  li : L i = true
  hl : l.length ≤ 1000000000000000
  hu : ∀ x ∈ l, 0 ≤ x ∧ x < 18446744073709551616
section
variable {H : ZH} {L : Nat → Bool} {i : Nat} {ex : Bool} {l : List Int} {s s' : RS}
theorem rd_len : (rdH H i ex l s).length = H.length := by simp [rdH]
theorem rd_at (w : ROk H L i l) : (rdH H i ex l s)[i]? = some (.box [.fz 1 ex (l.map eU), Z64 s.1, ZBo s.2]) := by
  unfold rdH; rw [List.getElem?_set]; simp [w.hi, rdB]
theorem rd_set : (rdH H i ex l s).set i (.box [.fz 1 ex (l.map eU), Z64 s'.1, ZBo s'.2]) = rdH H i ex l s' := by
  unfold rdH; rw [List.set_set]; rfl
theorem ROk.app (w : ROk H L i l) (X : ZH) : ROk (H ++ X) L i l := ⟨by have := w.hi; simp; omega, w.li, w.hl, w.hu⟩
theorem rd_app (w : ROk H L i l) (X : ZH) : rdH (H ++ X) i ex l s = rdH H i ex l s ++ X := by
  unfold rdH; rw [List.set_append_left _ _ w.hi]
theorem rWord_u (w : ROk H L i l) : 0 ≤ (rWord l s).1 ∧ (rWord l s).1 < 18446744073709551616 := by
  unfold rWord
  split
  · rename_i x hx; exact w.hu x (List.mem_of_getElem? hx)
  · constructor <;> simp
end
variable {tb : List (FuncId × Bool)} {L : Nat → Bool} {H : ZH} {K : ZV → ZH → Prop} {i : Nat} {ex : Bool} {l : List Int} {s : RS}
theorem fin_rd {s' : RS} {z : ZV} {X : ZH} (w : ROk H L i l) (hz : refs H.length z = true) (hK : K z (rdH H i ex l s')) : Fin (rdH H i ex l s) z (rdH H i ex l s' ++ X) K := by
  have hi : i < (rdH H i ex l s).length := by rw [rd_len]; exact w.hi
  have eq : rdH H i ex l s' ++ X = ((rdH H i ex l s) ++ X).set i (.box [.fz 1 ex (l.map eU), Z64 s'.1, ZBo s'.2]) := by
    rw [List.set_append_left _ _ hi, rd_set]
  refine Fin.trunc ?_ (by rw [rd_len]; exact hz) ?_
  · rw [eq]
    refine Mods.set (Mods.ext _ X) ?_
    rfl
  · rw [List.take_append_of_le_length (by rw [rd_len, rd_len]; exact Nat.le_refl _), List.take_of_length_le (by rw [rd_len, rd_len]; exact Nat.le_refl _)]
    exact hK
theorem word_z (w : ROk H L i l) (hK : K (.val (.int .u64 (rWord l s).1)) (rdH H i ex l (rWord l s).2)) :
    ZC (boxX tb) (cFunc Try.prog) 60 [.ptr i 0] L (rdH H i ex l s) K := by
  refine ZC.enter Gh.no (boxX_none (by decide)) f_wo_word (by simp) ?_
  simp only [c_wo_word]
  obtain ⟨a, b⟩ := s
  have h1 := rd_at (ex := ex) (s := (a, b)) w
  have li := w.li
  have hl := w.hl
  have hi := w.hi
  by_cases ha : a < l.length
  · have hx : l[a]? = some l[a] := List.getElem?_eq_getElem ha
    have e : rWord l (a, b) = (l[a], (a + 1, b)) := by unfold rWord; rw [hx]
    rw [e] at hK
    obtain ⟨x, hxx⟩ : ∃ x, x = l[a] := ⟨_, rfl⟩
    rw [← hxx] at hx hK
    clear e hxx
    have hn : ¬ ((l.length : Int) ≤ (a : Int)) := by omega
    have hw1 : IntKind.i64.wrap ((a : Int) + 1) = ((a + 1 : Nat) : Int) := by rw [IntWalk.i64_in _ (by omega)]; omega
    have hw2 : IntKind.i64.wrap (((a + 1 : Nat) : Int) - 1) = (a : Int) := by rw [IntWalk.i64_in _ (by omega)]; omega
    have hs := rd_set (H := H) (i := i) (ex := ex) (l := l) (s := (a, b)) (s' := (a + 1, b))
    have h2 := rd_at (ex := ex) (s := (a + 1, b)) w
    have fin := Fin.keep (H0 := rdH H i ex l (a, b)) hK
    clear hK w
    repeat' (first | (simp only [zmPack, zfree, owners, Nat.reduceLT, List.filter_cons, List.filter_nil, List.contains_cons, List.contains_nil, Nat.reduceBEq, Bool.or_false, Bool.or_true, Bool.false_or, Bool.true_or, BEq.rfl, chunk, setAt, List.lookup_cons, List.lookup_nil, ZV.val.injEq, ZV.ptr.injEq, ZV.own.injEq, ZV.fz.injEq, ZV.func.injEq, ZV.tuple.injEq, ZV.agg.injEq, ZB.box.injEq, ZB.grow.injEq, Bool.not_eq_false', Prod.mk.injEq, and_assoc, decide_false, decide_true, Bool.not_false, Bool.not_true, Bool.true_eq_false, Bool.false_eq_true, exists_false, Bool.not_eq_false, Bool.not_not, Value.bool.injEq, Value.int.injEq, Option.some.injEq, exists_eq_left', exists_eq_left, exists_and_left, exists_and_right, and_true, true_and, decide_eq_true_eq, decide_eq_false_iff_not, if_true, if_false, Bool.not_eq_true', beq_true, beq_false, ne_eq, not_true_eq_false, not_false_eq_true, reduceCtorEq, List.getD_cons_zero, List.getD_cons_succ, List.getD_nil, List.map_cons, List.map_nil, List.append_nil, Nat.reduceEqDiff, reduceIte, ite_true, ite_false, or_true, true_or, or_false, false_or, true_imp_iff, false_imp_iff, implies_true, imp_false, and_self, imp_self, and_false, false_and, forall_const, take_map_all, Nat.le_refl, Nat.reduceMul, Nat.reduceSub, List.length_cons, List.length_nil, List.length_map, List.length_set, List.all_cons, List.all_nil, Bool.and_self, Option.map_none, Option.map_some, List.set_cons_zero, List.set_cons_succ, Nat.lt_add_one, List.append_assoc, List.cons_append, List.nil_append, List.append_nil, List.length_append, List.take_zero, List.take_succ_cons, List.take_nil, List.drop_zero, List.drop_succ_cons, List.drop_nil, List.getElem?_cons_zero, List.getElem?_cons_succ, List.getElem?_map, Nat.reduceAdd, Nat.reduceLeDiff, Nat.add_eq_zero_iff, and_self, Nat.zero_add, Nat.add_zero, Nat.mul_one, Nat.one_mul, List.flatten_cons, List.flatten_nil, h1, h2, hs, hx, hn, hw1, hw2, li, fin, ha, *]) | (simp only [zgoO, zgoG, zO_nil, zthen_normal, zgoC]) | (with_reducible apply And.intro) | (with_reducible intro _))
  · have hx : l[a]? = none := List.getElem?_eq_none (by omega)
    have e : rWord l (a, b) = (0, (a, true)) := by unfold rWord; rw [hx]
    rw [e] at hK
    have hn : (l.length : Int) ≤ (a : Int) := by omega
    have hs := rd_set (H := H) (i := i) (ex := ex) (l := l) (s := (a, b)) (s' := (a, true))
    have fin := Fin.keep (H0 := rdH H i ex l (a, b)) hK
    clear hK w ha e
    repeat' (first | (simp only [zmPack, zfree, owners, Nat.reduceLT, List.filter_cons, List.filter_nil, List.contains_cons, List.contains_nil, Nat.reduceBEq, Bool.or_false, Bool.or_true, Bool.false_or, Bool.true_or, BEq.rfl, chunk, setAt, List.lookup_cons, List.lookup_nil, ZV.val.injEq, ZV.ptr.injEq, ZV.own.injEq, ZV.fz.injEq, ZV.func.injEq, ZV.tuple.injEq, ZV.agg.injEq, ZB.box.injEq, ZB.grow.injEq, Bool.not_eq_false', Prod.mk.injEq, and_assoc, decide_false, decide_true, Bool.not_false, Bool.not_true, Bool.true_eq_false, Bool.false_eq_true, exists_false, Bool.not_eq_false, Bool.not_not, Value.bool.injEq, Value.int.injEq, Option.some.injEq, exists_eq_left', exists_eq_left, exists_and_left, exists_and_right, and_true, true_and, decide_eq_true_eq, decide_eq_false_iff_not, if_true, if_false, Bool.not_eq_true', beq_true, beq_false, ne_eq, not_true_eq_false, not_false_eq_true, reduceCtorEq, List.getD_cons_zero, List.getD_cons_succ, List.getD_nil, List.map_cons, List.map_nil, List.append_nil, Nat.reduceEqDiff, reduceIte, ite_true, ite_false, or_true, true_or, or_false, false_or, true_imp_iff, false_imp_iff, implies_true, imp_false, and_self, imp_self, and_false, false_and, forall_const, take_map_all, Nat.le_refl, Nat.reduceMul, Nat.reduceSub, List.length_cons, List.length_nil, List.length_map, List.length_set, List.all_cons, List.all_nil, Bool.and_self, Option.map_none, Option.map_some, List.set_cons_zero, List.set_cons_succ, Nat.lt_add_one, List.append_assoc, List.cons_append, List.nil_append, List.append_nil, List.length_append, List.take_zero, List.take_succ_cons, List.take_nil, List.drop_zero, List.drop_succ_cons, List.drop_nil, List.getElem?_cons_zero, List.getElem?_cons_succ, List.getElem?_map, Nat.reduceAdd, Nat.reduceLeDiff, Nat.add_eq_zero_iff, and_self, Nat.zero_add, Nat.add_zero, Nat.mul_one, Nat.one_mul, List.flatten_cons, List.flatten_nil, h1, hs, hn, li, fin, *]) | (simp only [zgoO, zgoG, zO_nil, zthen_normal, zgoC]) | (with_reducible apply And.intro) | (with_reducible intro _))
theorem atN0 {W : ZH} {n : Nat} (h : W.length = n) (A : ZB) (X : ZH) : (W ++ (A :: X))[n]? = some A := by rw [← h, List.getElem?_append_right (Nat.le_refl _), Nat.sub_self]; rfl
theorem atN1 {W : ZH} {n : Nat} (h : W.length = n) (A B : ZB) (X : ZH) : (W ++ (A :: B :: X))[n + 1]? = some B := by rw [← h, List.getElem?_append_right (by omega), Nat.add_sub_cancel_left]; rfl
theorem atN2 {W : ZH} {n : Nat} (h : W.length = n) (A B C : ZB) (X : ZH) : (W ++ (A :: B :: C :: X))[n + 2]? = some C := by rw [← h, List.getElem?_append_right (by omega), Nat.add_sub_cancel_left]; rfl
theorem stN0 {W : ZH} {n : Nat} (h : W.length = n) (A C : ZB) (X : ZH) : (W ++ (A :: X)).set n C = W ++ (C :: X) := by rw [← h, List.set_append_right _ _ (Nat.le_refl _), Nat.sub_self]; rfl
theorem stN1 {W : ZH} {n : Nat} (h : W.length = n) (A B C : ZB) (X : ZH) : (W ++ (A :: B :: X)).set (n + 1) C = W ++ (A :: C :: X) := by rw [← h, List.set_append_right _ _ (by omega), Nat.add_sub_cancel_left]; rfl
theorem stN2 {W : ZH} {n : Nat} (h : W.length = n) (A B D C : ZB) (X : ZH) : (W ++ (A :: B :: D :: X)).set (n + 2) C = W ++ (A :: B :: C :: X) := by rw [← h, List.set_append_right _ _ (by omega), Nat.add_sub_cancel_left]; rfl
theorem number_z (w : ROk H L i l) (hK : K (Z64 (rNum l s).1) (rdH H i ex l (rNum l s).2)) :
    ZC (boxX tb) (cFunc Try.prog) 52 [.ptr i 0] L (rdH H i ex l s) K := by
  refine ZC.enter Gh.no (boxX_none (by decide)) f_wo_number (by simp) ?_
  simp only [c_wo_number]
  have hK' : K (Z64 (IntKind.i64.wrap (rWord l s).1)) (rdH H i ex l (rWord l s).2) := hK
  have fin := Fin.keep (H0 := rdH H i ex l s) hK'
  clear hK hK'
  repeat' (first | (simp only [zmPack, zfree, owners, Nat.reduceLT, List.filter_cons, List.filter_nil, List.contains_cons, List.contains_nil, Nat.reduceBEq, Bool.or_false, Bool.or_true, Bool.false_or, Bool.true_or, BEq.rfl, chunk, setAt, List.lookup_cons, List.lookup_nil, ZV.val.injEq, ZV.ptr.injEq, ZV.own.injEq, ZV.fz.injEq, ZV.func.injEq, ZV.tuple.injEq, ZV.agg.injEq, ZB.box.injEq, ZB.grow.injEq, Bool.not_eq_false', Prod.mk.injEq, and_assoc, decide_false, decide_true, Bool.not_false, Bool.not_true, Bool.true_eq_false, Bool.false_eq_true, exists_false, Bool.not_eq_false, Bool.not_not, Value.bool.injEq, Value.int.injEq, Option.some.injEq, exists_eq_left', exists_eq_left, exists_and_left, exists_and_right, and_true, true_and, decide_eq_true_eq, decide_eq_false_iff_not, if_true, if_false, Bool.not_eq_true', beq_true, beq_false, ne_eq, not_true_eq_false, not_false_eq_true, reduceCtorEq, List.getD_cons_zero, List.getD_cons_succ, List.getD_nil, List.map_cons, List.map_nil, List.append_nil, Nat.reduceEqDiff, reduceIte, ite_true, ite_false, or_true, true_or, or_false, false_or, true_imp_iff, false_imp_iff, implies_true, imp_false, and_self, imp_self, and_false, false_and, forall_const, take_map_all, Nat.le_refl, Nat.reduceMul, Nat.reduceSub, List.length_cons, List.length_nil, List.length_map, List.length_set, List.all_cons, List.all_nil, Bool.and_self, Option.map_none, Option.map_some, List.set_cons_zero, List.set_cons_succ, Nat.lt_add_one, List.append_assoc, List.cons_append, List.nil_append, List.append_nil, List.length_append, List.take_zero, List.take_succ_cons, List.take_nil, List.drop_zero, List.drop_succ_cons, List.drop_nil, List.getElem?_cons_zero, List.getElem?_cons_succ, List.getElem?_map, Nat.reduceAdd, Nat.reduceLeDiff, Nat.add_eq_zero_iff, and_self, Nat.zero_add, Nat.add_zero, Nat.mul_one, Nat.one_mul, List.flatten_cons, List.flatten_nil, *]) | (simp only [zgoO, zgoG, zO_nil, zthen_normal, zgoC]) | (with_reducible apply And.intro) | (with_reducible intro _))
  refine word_z w ?_
  repeat' (first | (simp only [zmPack, zfree, owners, Nat.reduceLT, List.filter_cons, List.filter_nil, List.contains_cons, List.contains_nil, Nat.reduceBEq, Bool.or_false, Bool.or_true, Bool.false_or, Bool.true_or, BEq.rfl, chunk, setAt, List.lookup_cons, List.lookup_nil, ZV.val.injEq, ZV.ptr.injEq, ZV.own.injEq, ZV.fz.injEq, ZV.func.injEq, ZV.tuple.injEq, ZV.agg.injEq, ZB.box.injEq, ZB.grow.injEq, Bool.not_eq_false', Prod.mk.injEq, and_assoc, decide_false, decide_true, Bool.not_false, Bool.not_true, Bool.true_eq_false, Bool.false_eq_true, exists_false, Bool.not_eq_false, Bool.not_not, Value.bool.injEq, Value.int.injEq, Option.some.injEq, exists_eq_left', exists_eq_left, exists_and_left, exists_and_right, and_true, true_and, decide_eq_true_eq, decide_eq_false_iff_not, if_true, if_false, Bool.not_eq_true', beq_true, beq_false, ne_eq, not_true_eq_false, not_false_eq_true, reduceCtorEq, List.getD_cons_zero, List.getD_cons_succ, List.getD_nil, List.map_cons, List.map_nil, List.append_nil, Nat.reduceEqDiff, reduceIte, ite_true, ite_false, or_true, true_or, or_false, false_or, true_imp_iff, false_imp_iff, implies_true, imp_false, and_self, imp_self, and_false, false_and, forall_const, take_map_all, Nat.le_refl, Nat.reduceMul, Nat.reduceSub, List.length_cons, List.length_nil, List.length_map, List.length_set, List.all_cons, List.all_nil, Bool.and_self, Option.map_none, Option.map_some, List.set_cons_zero, List.set_cons_succ, Nat.lt_add_one, List.append_assoc, List.cons_append, List.nil_append, List.append_nil, List.length_append, List.take_zero, List.take_succ_cons, List.take_nil, List.drop_zero, List.drop_succ_cons, List.drop_nil, List.getElem?_cons_zero, List.getElem?_cons_succ, List.getElem?_map, Nat.reduceAdd, Nat.reduceLeDiff, Nat.add_eq_zero_iff, and_self, Nat.zero_add, Nat.add_zero, Nat.mul_one, Nat.one_mul, List.flatten_cons, List.flatten_nil, fin, *]) | (simp only [zgoO, zgoG, zO_nil, zthen_normal, zgoC]) | (with_reducible apply And.intro) | (with_reducible intro _))
theorem many_z {m : Int} (w : ROk H L i l) (hK : K (Z64 (rMany m l s).1) (rdH H i ex l (rMany m l s).2)) :
    ZC (boxX tb) (cFunc Try.prog) 38 [.ptr i 0, Z64 m] L (rdH H i ex l s) K := by
  refine ZC.enter Gh.no (boxX_none (by decide)) f_wo_many (by simp) ?_
  simp only [c_wo_many]
  have HK := Lib.hid hK
  clear hK
  repeat' (first | (simp only [zmPack, zfree, owners, Nat.reduceLT, List.filter_cons, List.filter_nil, List.contains_cons, List.contains_nil, Nat.reduceBEq, Bool.or_false, Bool.or_true, Bool.false_or, Bool.true_or, BEq.rfl, chunk, setAt, List.lookup_cons, List.lookup_nil, ZV.val.injEq, ZV.ptr.injEq, ZV.own.injEq, ZV.fz.injEq, ZV.func.injEq, ZV.tuple.injEq, ZV.agg.injEq, ZB.box.injEq, ZB.grow.injEq, Bool.not_eq_false', Prod.mk.injEq, and_assoc, decide_false, decide_true, Bool.not_false, Bool.not_true, Bool.true_eq_false, Bool.false_eq_true, exists_false, Bool.not_eq_false, Bool.not_not, Value.bool.injEq, Value.int.injEq, Option.some.injEq, exists_eq_left', exists_eq_left, exists_and_left, exists_and_right, and_true, true_and, decide_eq_true_eq, decide_eq_false_iff_not, if_true, if_false, Bool.not_eq_true', beq_true, beq_false, ne_eq, not_true_eq_false, not_false_eq_true, reduceCtorEq, List.getD_cons_zero, List.getD_cons_succ, List.getD_nil, List.map_cons, List.map_nil, List.append_nil, Nat.reduceEqDiff, reduceIte, ite_true, ite_false, or_true, true_or, or_false, false_or, true_imp_iff, false_imp_iff, implies_true, imp_false, and_self, imp_self, and_false, false_and, forall_const, take_map_all, Nat.le_refl, Nat.reduceMul, Nat.reduceSub, List.length_cons, List.length_nil, List.length_map, List.length_set, List.all_cons, List.all_nil, Bool.and_self, Option.map_none, Option.map_some, List.set_cons_zero, List.set_cons_succ, Nat.lt_add_one, List.append_assoc, List.cons_append, List.nil_append, List.append_nil, List.length_append, List.take_zero, List.take_succ_cons, List.take_nil, List.drop_zero, List.drop_succ_cons, List.drop_nil, List.getElem?_cons_zero, List.getElem?_cons_succ, List.getElem?_map, Nat.reduceAdd, Nat.reduceLeDiff, Nat.add_eq_zero_iff, and_self, Nat.zero_add, Nat.add_zero, Nat.mul_one, Nat.one_mul, List.flatten_cons, List.flatten_nil, *]) | (simp only [zgoO, zgoG, zO_nil, zthen_normal, zgoC]) | (with_reducible apply And.intro) | (with_reducible intro _))
  refine number_z w ?_
  obtain ⟨n, s1⟩ : ∃ q, q = rNum l s := ⟨_, rfl⟩
  have hK := HK.out
  unfold rMany at hK
  rw [← s1] at hK ⊢
  clear s1 HK
  obtain ⟨n, a, b⟩ := n
  have h1 := rd_at (ex := ex) (s := (a, b)) w
  have li := w.li
  have hs := rd_set (H := H) (i := i) (ex := ex) (l := l) (s := (a, b)) (s' := (a, true))
  simp only at hK
  by_cases hc : n < 0 ∨ m < n
  · rw [if_pos hc] at hK
    have fin := Fin.keep (H0 := rdH H i ex l s) hK
    clear hK w
    by_cases hn : n < 0
    · clear hc
      repeat' (first | (simp only [zmPack, zfree, owners, Nat.reduceLT, List.filter_cons, List.filter_nil, List.contains_cons, List.contains_nil, Nat.reduceBEq, Bool.or_false, Bool.or_true, Bool.false_or, Bool.true_or, BEq.rfl, chunk, setAt, List.lookup_cons, List.lookup_nil, ZV.val.injEq, ZV.ptr.injEq, ZV.own.injEq, ZV.fz.injEq, ZV.func.injEq, ZV.tuple.injEq, ZV.agg.injEq, ZB.box.injEq, ZB.grow.injEq, Bool.not_eq_false', Prod.mk.injEq, and_assoc, decide_false, decide_true, Bool.not_false, Bool.not_true, Bool.true_eq_false, Bool.false_eq_true, exists_false, Bool.not_eq_false, Bool.not_not, Value.bool.injEq, Value.int.injEq, Option.some.injEq, exists_eq_left', exists_eq_left, exists_and_left, exists_and_right, and_true, true_and, decide_eq_true_eq, decide_eq_false_iff_not, if_true, if_false, Bool.not_eq_true', beq_true, beq_false, ne_eq, not_true_eq_false, not_false_eq_true, reduceCtorEq, List.getD_cons_zero, List.getD_cons_succ, List.getD_nil, List.map_cons, List.map_nil, List.append_nil, Nat.reduceEqDiff, reduceIte, ite_true, ite_false, or_true, true_or, or_false, false_or, true_imp_iff, false_imp_iff, implies_true, imp_false, and_self, imp_self, and_false, false_and, forall_const, take_map_all, Nat.le_refl, Nat.reduceMul, Nat.reduceSub, List.length_cons, List.length_nil, List.length_map, List.length_set, List.all_cons, List.all_nil, Bool.and_self, Option.map_none, Option.map_some, List.set_cons_zero, List.set_cons_succ, Nat.lt_add_one, List.append_assoc, List.cons_append, List.nil_append, List.append_nil, List.length_append, List.take_zero, List.take_succ_cons, List.take_nil, List.drop_zero, List.drop_succ_cons, List.drop_nil, List.getElem?_cons_zero, List.getElem?_cons_succ, List.getElem?_map, Nat.reduceAdd, Nat.reduceLeDiff, Nat.add_eq_zero_iff, and_self, Nat.zero_add, Nat.add_zero, Nat.mul_one, Nat.one_mul, List.flatten_cons, List.flatten_nil, h1, hs, hn, li, fin, *]) | (simp only [zgoO, zgoG, zO_nil, zthen_normal, zgoC]) | (with_reducible apply And.intro) | (with_reducible intro _))
    · have hm : m < n := by omega
      clear hc
      repeat' (first | (simp only [zmPack, zfree, owners, Nat.reduceLT, List.filter_cons, List.filter_nil, List.contains_cons, List.contains_nil, Nat.reduceBEq, Bool.or_false, Bool.or_true, Bool.false_or, Bool.true_or, BEq.rfl, chunk, setAt, List.lookup_cons, List.lookup_nil, ZV.val.injEq, ZV.ptr.injEq, ZV.own.injEq, ZV.fz.injEq, ZV.func.injEq, ZV.tuple.injEq, ZV.agg.injEq, ZB.box.injEq, ZB.grow.injEq, Bool.not_eq_false', Prod.mk.injEq, and_assoc, decide_false, decide_true, Bool.not_false, Bool.not_true, Bool.true_eq_false, Bool.false_eq_true, exists_false, Bool.not_eq_false, Bool.not_not, Value.bool.injEq, Value.int.injEq, Option.some.injEq, exists_eq_left', exists_eq_left, exists_and_left, exists_and_right, and_true, true_and, decide_eq_true_eq, decide_eq_false_iff_not, if_true, if_false, Bool.not_eq_true', beq_true, beq_false, ne_eq, not_true_eq_false, not_false_eq_true, reduceCtorEq, List.getD_cons_zero, List.getD_cons_succ, List.getD_nil, List.map_cons, List.map_nil, List.append_nil, Nat.reduceEqDiff, reduceIte, ite_true, ite_false, or_true, true_or, or_false, false_or, true_imp_iff, false_imp_iff, implies_true, imp_false, and_self, imp_self, and_false, false_and, forall_const, take_map_all, Nat.le_refl, Nat.reduceMul, Nat.reduceSub, List.length_cons, List.length_nil, List.length_map, List.length_set, List.all_cons, List.all_nil, Bool.and_self, Option.map_none, Option.map_some, List.set_cons_zero, List.set_cons_succ, Nat.lt_add_one, List.append_assoc, List.cons_append, List.nil_append, List.append_nil, List.length_append, List.take_zero, List.take_succ_cons, List.take_nil, List.drop_zero, List.drop_succ_cons, List.drop_nil, List.getElem?_cons_zero, List.getElem?_cons_succ, List.getElem?_map, Nat.reduceAdd, Nat.reduceLeDiff, Nat.add_eq_zero_iff, and_self, Nat.zero_add, Nat.add_zero, Nat.mul_one, Nat.one_mul, List.flatten_cons, List.flatten_nil, h1, hs, hn, hm, li, fin, *]) | (simp only [zgoO, zgoG, zO_nil, zthen_normal, zgoC]) | (with_reducible apply And.intro) | (with_reducible intro _))
  · rw [if_neg hc] at hK
    have fin := Fin.keep (H0 := rdH H i ex l s) hK
    have hn : ¬ n < 0 := by omega
    have hm : ¬ m < n := by omega
    clear hK w hc
    repeat' (first | (simp only [zmPack, zfree, owners, Nat.reduceLT, List.filter_cons, List.filter_nil, List.contains_cons, List.contains_nil, Nat.reduceBEq, Bool.or_false, Bool.or_true, Bool.false_or, Bool.true_or, BEq.rfl, chunk, setAt, List.lookup_cons, List.lookup_nil, ZV.val.injEq, ZV.ptr.injEq, ZV.own.injEq, ZV.fz.injEq, ZV.func.injEq, ZV.tuple.injEq, ZV.agg.injEq, ZB.box.injEq, ZB.grow.injEq, Bool.not_eq_false', Prod.mk.injEq, and_assoc, decide_false, decide_true, Bool.not_false, Bool.not_true, Bool.true_eq_false, Bool.false_eq_true, exists_false, Bool.not_eq_false, Bool.not_not, Value.bool.injEq, Value.int.injEq, Option.some.injEq, exists_eq_left', exists_eq_left, exists_and_left, exists_and_right, and_true, true_and, decide_eq_true_eq, decide_eq_false_iff_not, if_true, if_false, Bool.not_eq_true', beq_true, beq_false, ne_eq, not_true_eq_false, not_false_eq_true, reduceCtorEq, List.getD_cons_zero, List.getD_cons_succ, List.getD_nil, List.map_cons, List.map_nil, List.append_nil, Nat.reduceEqDiff, reduceIte, ite_true, ite_false, or_true, true_or, or_false, false_or, true_imp_iff, false_imp_iff, implies_true, imp_false, and_self, imp_self, and_false, false_and, forall_const, take_map_all, Nat.le_refl, Nat.reduceMul, Nat.reduceSub, List.length_cons, List.length_nil, List.length_map, List.length_set, List.all_cons, List.all_nil, Bool.and_self, Option.map_none, Option.map_some, List.set_cons_zero, List.set_cons_succ, Nat.lt_add_one, List.append_assoc, List.cons_append, List.nil_append, List.append_nil, List.length_append, List.take_zero, List.take_succ_cons, List.take_nil, List.drop_zero, List.drop_succ_cons, List.drop_nil, List.getElem?_cons_zero, List.getElem?_cons_succ, List.getElem?_map, Nat.reduceAdd, Nat.reduceLeDiff, Nat.add_eq_zero_iff, and_self, Nat.zero_add, Nat.add_zero, Nat.mul_one, Nat.one_mul, List.flatten_cons, List.flatten_nil, h1, hs, hn, hm, li, fin, *]) | (simp only [zgoO, zgoG, zO_nil, zthen_normal, zgoC]) | (with_reducible apply And.intro) | (with_reducible intro _))
theorem rvalue_z (w : ROk H L i l) (hL : ∀ k, L (H.length + k) = true) (hK : K (.agg [Z64 (rVal l s).1.1, Z64 (rVal l s).1.2]) (rdH H i ex l (rVal l s).2)) :
    ZC (boxX tb) (cFunc Try.prog) 61 [.ptr i 0] L (rdH H i ex l s) K := by
  refine ZC.enter Gh.no (boxX_none (by decide)) f_wo_rvalue (by simp) ?_
  simp only [c_wo_rvalue]
  have fin := fun (X : ZH) => fin_rd (X := X) (s := s) w rfl hK
  have HF := Lib.hid fin
  clear hK fin
  have hrl := rd_len (H := H) (i := i) (ex := ex) (l := l) (s := s)
  obtain ⟨W, hW⟩ : ∃ W, W = rdH H i ex l s := ⟨_, rfl⟩
  rw [← hW] at hrl HF ⊢
  have HW := Lib.hid hW
  clear hW
  repeat' (first | (simp only [zmPack, zfree, owners, Nat.reduceLT, List.filter_cons, List.filter_nil, List.contains_cons, List.contains_nil, Nat.reduceBEq, Bool.or_false, Bool.or_true, Bool.false_or, Bool.true_or, BEq.rfl, chunk, setAt, List.lookup_cons, List.lookup_nil, ZV.val.injEq, ZV.ptr.injEq, ZV.own.injEq, ZV.fz.injEq, ZV.func.injEq, ZV.tuple.injEq, ZV.agg.injEq, ZB.box.injEq, ZB.grow.injEq, Bool.not_eq_false', Prod.mk.injEq, and_assoc, decide_false, decide_true, Bool.not_false, Bool.not_true, Bool.true_eq_false, Bool.false_eq_true, exists_false, Bool.not_eq_false, Bool.not_not, Value.bool.injEq, Value.int.injEq, Option.some.injEq, exists_eq_left', exists_eq_left, exists_and_left, exists_and_right, and_true, true_and, decide_eq_true_eq, decide_eq_false_iff_not, if_true, if_false, Bool.not_eq_true', beq_true, beq_false, ne_eq, not_true_eq_false, not_false_eq_true, reduceCtorEq, List.getD_cons_zero, List.getD_cons_succ, List.getD_nil, List.map_cons, List.map_nil, List.append_nil, Nat.reduceEqDiff, reduceIte, ite_true, ite_false, or_true, true_or, or_false, false_or, true_imp_iff, false_imp_iff, implies_true, imp_false, and_self, imp_self, and_false, false_and, forall_const, take_map_all, Nat.le_refl, Nat.reduceMul, Nat.reduceSub, List.length_cons, List.length_nil, List.length_map, List.length_set, List.all_cons, List.all_nil, Bool.and_self, Option.map_none, Option.map_some, List.set_cons_zero, List.set_cons_succ, Nat.lt_add_one, List.append_assoc, List.cons_append, List.nil_append, List.append_nil, List.length_append, List.take_zero, List.take_succ_cons, List.take_nil, List.drop_zero, List.drop_succ_cons, List.drop_nil, List.getElem?_cons_zero, List.getElem?_cons_succ, List.getElem?_map, Nat.reduceAdd, Nat.reduceLeDiff, Nat.add_eq_zero_iff, and_self, Nat.zero_add, Nat.add_zero, Nat.mul_one, Nat.one_mul, List.flatten_cons, List.flatten_nil, *]) | (simp only [zgoO, zgoG, zO_nil, zthen_normal, zgoC]) | (with_reducible apply And.intro) | (with_reducible intro _))
  rw [HW.out, ← rd_app w]
  refine word_z (w.app _) ?_
  rw [rd_app w]
  have hu := rWord_u (s := s) w
  have hv : rVal l s = ((unKind (rWord l s).1, unNum (rWord l s).1), ((rWord l s).2.1, (rWord l s).2.2 || !decide (unE (rWord l s).1 = 0))) := rfl
  rw [hv] at HF
  obtain ⟨q, hq⟩ : ∃ q, q = rWord l s := ⟨_, rfl⟩
  rw [← hq] at HF hu ⊢
  obtain ⟨u, a, b⟩ := q
  clear hv hq
  simp only at HF hu ⊢
  have hrl1 := rd_len (H := H) (i := i) (ex := ex) (l := l) (s := (a, b))
  have ai := fun X => H_app (rd_at (ex := ex) (s := (a, b)) w) X
  have li := w.li
  obtain ⟨W1, hW1⟩ : ∃ W1, W1 = rdH H i ex l (a, b) := ⟨_, rfl⟩
  rw [← hW1] at hrl1 ai ⊢
  have si : ∀ X C, (W1 ++ X).set i C = W1.set i C ++ X := fun X C => List.set_append_left _ _ (by rw [hrl1]; exact w.hi)
  have ss : ∀ b', W1.set i (.box [.fz 1 ex (l.map eU), Z64 a, ZBo b']) = rdH H i ex l (a, b') := fun b' => by rw [hW1]; exact rd_set (s' := (a, b'))
  have a0 := atN0 hrl1
  have a1 := atN1 hrl1
  have s0 := stN0 hrl1
  have s1 := stN1 hrl1
  have b0 := fun b' => atN0 (rd_len (H := H) (i := i) (ex := ex) (l := l) (s := (a, b')))
  have b1 := fun b' => atN1 (rd_len (H := H) (i := i) (ex := ex) (l := l) (s := (a, b')))
  have t0 := fun b' => stN0 (rd_len (H := H) (i := i) (ex := ex) (l := l) (s := (a, b')))
  have L0 := hL 0
  have L1 := hL 1
  rw [Nat.add_zero] at L0
  clear hW1
  repeat' (first | (simp only [zmPack, zfree, owners, Nat.reduceLT, List.filter_cons, List.filter_nil, List.contains_cons, List.contains_nil, Nat.reduceBEq, Bool.or_false, Bool.or_true, Bool.false_or, Bool.true_or, BEq.rfl, chunk, setAt, List.lookup_cons, List.lookup_nil, ZV.val.injEq, ZV.ptr.injEq, ZV.own.injEq, ZV.fz.injEq, ZV.func.injEq, ZV.tuple.injEq, ZV.agg.injEq, ZB.box.injEq, ZB.grow.injEq, Bool.not_eq_false', Prod.mk.injEq, and_assoc, decide_false, decide_true, Bool.not_false, Bool.not_true, Bool.true_eq_false, Bool.false_eq_true, exists_false, Bool.not_eq_false, Bool.not_not, Value.bool.injEq, Value.int.injEq, Option.some.injEq, exists_eq_left', exists_eq_left, exists_and_left, exists_and_right, and_true, true_and, decide_eq_true_eq, decide_eq_false_iff_not, if_true, if_false, Bool.not_eq_true', beq_true, beq_false, ne_eq, not_true_eq_false, not_false_eq_true, reduceCtorEq, List.getD_cons_zero, List.getD_cons_succ, List.getD_nil, List.map_cons, List.map_nil, List.append_nil, Nat.reduceEqDiff, reduceIte, ite_true, ite_false, or_true, true_or, or_false, false_or, true_imp_iff, false_imp_iff, implies_true, imp_false, and_self, imp_self, and_false, false_and, forall_const, take_map_all, Nat.le_refl, Nat.reduceMul, Nat.reduceSub, List.length_cons, List.length_nil, List.length_map, List.length_set, List.all_cons, List.all_nil, Bool.and_self, Option.map_none, Option.map_some, List.set_cons_zero, List.set_cons_succ, Nat.lt_add_one, List.append_assoc, List.cons_append, List.nil_append, List.append_nil, List.length_append, List.take_zero, List.take_succ_cons, List.take_nil, List.drop_zero, List.drop_succ_cons, List.drop_nil, List.getElem?_cons_zero, List.getElem?_cons_succ, List.getElem?_map, Nat.reduceAdd, Nat.reduceLeDiff, Nat.add_eq_zero_iff, and_self, Nat.zero_add, Nat.add_zero, Nat.mul_one, Nat.one_mul, List.flatten_cons, List.flatten_nil, *]) | (simp only [zgoO, zgoG, zO_nil, zthen_normal, zgoC]) | (with_reducible apply And.intro) | (with_reducible intro _))
  refine unbox_z hu ?_
  have fin := HF.out
  rw [HW.out] at fin
  clear hu HF HW hL
  cases b with
  | false =>
    simp only [Bool.false_or] at fin
    repeat' (first | (simp only [zmPack, zfree, owners, Nat.reduceLT, List.filter_cons, List.filter_nil, List.contains_cons, List.contains_nil, Nat.reduceBEq, Bool.or_false, Bool.or_true, Bool.false_or, Bool.true_or, BEq.rfl, chunk, setAt, List.lookup_cons, List.lookup_nil, ZV.val.injEq, ZV.ptr.injEq, ZV.own.injEq, ZV.fz.injEq, ZV.func.injEq, ZV.tuple.injEq, ZV.agg.injEq, ZB.box.injEq, ZB.grow.injEq, Bool.not_eq_false', Prod.mk.injEq, and_assoc, decide_false, decide_true, Bool.not_false, Bool.not_true, Bool.true_eq_false, Bool.false_eq_true, exists_false, Bool.not_eq_false, Bool.not_not, Value.bool.injEq, Value.int.injEq, Option.some.injEq, exists_eq_left', exists_eq_left, exists_and_left, exists_and_right, and_true, true_and, decide_eq_true_eq, decide_eq_false_iff_not, if_true, if_false, Bool.not_eq_true', beq_true, beq_false, ne_eq, not_true_eq_false, not_false_eq_true, reduceCtorEq, List.getD_cons_zero, List.getD_cons_succ, List.getD_nil, List.map_cons, List.map_nil, List.append_nil, Nat.reduceEqDiff, reduceIte, ite_true, ite_false, or_true, true_or, or_false, false_or, true_imp_iff, false_imp_iff, implies_true, imp_false, and_self, imp_self, and_false, false_and, forall_const, take_map_all, Nat.le_refl, Nat.reduceMul, Nat.reduceSub, List.length_cons, List.length_nil, List.length_map, List.length_set, List.all_cons, List.all_nil, Bool.and_self, Option.map_none, Option.map_some, List.set_cons_zero, List.set_cons_succ, Nat.lt_add_one, List.append_assoc, List.cons_append, List.nil_append, List.append_nil, List.length_append, List.take_zero, List.take_succ_cons, List.take_nil, List.drop_zero, List.drop_succ_cons, List.drop_nil, List.getElem?_cons_zero, List.getElem?_cons_succ, List.getElem?_map, Nat.reduceAdd, Nat.reduceLeDiff, Nat.add_eq_zero_iff, and_self, Nat.zero_add, Nat.add_zero, Nat.mul_one, Nat.one_mul, List.flatten_cons, List.flatten_nil, zresults, zress, ai, si, ss, a0, a1, s0, s1, L0, L1, li, b0, b1, t0, *]) | (simp only [zgoO, zgoG, zO_nil, zthen_normal, zgoC]) | (with_reducible apply And.intro) | (with_reducible intro _))
  | true =>
    simp only [Bool.true_or] at fin
    repeat' (first | (simp only [zmPack, zfree, owners, Nat.reduceLT, List.filter_cons, List.filter_nil, List.contains_cons, List.contains_nil, Nat.reduceBEq, Bool.or_false, Bool.or_true, Bool.false_or, Bool.true_or, BEq.rfl, chunk, setAt, List.lookup_cons, List.lookup_nil, ZV.val.injEq, ZV.ptr.injEq, ZV.own.injEq, ZV.fz.injEq, ZV.func.injEq, ZV.tuple.injEq, ZV.agg.injEq, ZB.box.injEq, ZB.grow.injEq, Bool.not_eq_false', Prod.mk.injEq, and_assoc, decide_false, decide_true, Bool.not_false, Bool.not_true, Bool.true_eq_false, Bool.false_eq_true, exists_false, Bool.not_eq_false, Bool.not_not, Value.bool.injEq, Value.int.injEq, Option.some.injEq, exists_eq_left', exists_eq_left, exists_and_left, exists_and_right, and_true, true_and, decide_eq_true_eq, decide_eq_false_iff_not, if_true, if_false, Bool.not_eq_true', beq_true, beq_false, ne_eq, not_true_eq_false, not_false_eq_true, reduceCtorEq, List.getD_cons_zero, List.getD_cons_succ, List.getD_nil, List.map_cons, List.map_nil, List.append_nil, Nat.reduceEqDiff, reduceIte, ite_true, ite_false, or_true, true_or, or_false, false_or, true_imp_iff, false_imp_iff, implies_true, imp_false, and_self, imp_self, and_false, false_and, forall_const, take_map_all, Nat.le_refl, Nat.reduceMul, Nat.reduceSub, List.length_cons, List.length_nil, List.length_map, List.length_set, List.all_cons, List.all_nil, Bool.and_self, Option.map_none, Option.map_some, List.set_cons_zero, List.set_cons_succ, Nat.lt_add_one, List.append_assoc, List.cons_append, List.nil_append, List.append_nil, List.length_append, List.take_zero, List.take_succ_cons, List.take_nil, List.drop_zero, List.drop_succ_cons, List.drop_nil, List.getElem?_cons_zero, List.getElem?_cons_succ, List.getElem?_map, Nat.reduceAdd, Nat.reduceLeDiff, Nat.add_eq_zero_iff, and_self, Nat.zero_add, Nat.add_zero, Nat.mul_one, Nat.one_mul, List.flatten_cons, List.flatten_nil, zresults, zress, ai, si, ss, a0, a1, s0, s1, L0, L1, li, b0, b1, t0, *]) | (simp only [zgoO, zgoG, zO_nil, zthen_normal, zgoC]) | (with_reducible apply And.intro) | (with_reducible intro _))
end Go.Proofs.Ytpmmiaadfnildaa

namespace Go.Proofs.Ytpmmiaadfnildaa
open Go Go.RowKit
set_option linter.unusedVariables false
set_option linter.unusedSimpArgs false
/-- So many of a kind, as long as nothing is bad. -/
def rRep {α : Type} (r : RS → α × RS) : Nat → RS → List α × RS
  | 0, s => ([], s)
  | n + 1, s => if (rRep r n s).2.2 = true then rRep r n s else ((rRep r n s).1 ++ [(r (rRep r n s).2).1], (r (rRep r n s).2).2)
theorem rRep_len {α : Type} {r : RS → α × RS} {n : Nat} {s : RS} : (rRep r n s).1.length ≤ n := by
  induction n with
  | zero => simp [rRep]
  | succ n ih =>
    unfold rRep
    split
    · omega
    · simp; omega
theorem rRep_bad {α : Type} {r : RS → α × RS} {k n : Nat} {s : RS} (hk : k ≤ n) (h : (rRep r k s).2.2 = true) : rRep r n s = rRep r k s := by
  induction n with
  | zero => rw [show k = 0 by omega]
  | succ n ih =>
    by_cases e : k = n + 1
    · rw [e]
    · have := ih (by omega)
      rw [rRep, this, if_pos h]
theorem rRep_good {α : Type} {r : RS → α × RS} {n : Nat} {s : RS} {o : List α} {a : Nat} (h : rRep r n s = (o, (a, false))) : rRep r (n + 1) s = (o ++ [(r (a, false)).1], (r (a, false)).2) := by
  rw [rRep, h]; simp
theorem rMany_ok {m : Int} {l : List Int} {s : RS} (hm : 0 ≤ m) : (rMany m l s).1 = ((rMany m l s).1.toNat : Int) ∧ (rMany m l s).1.toNat ≤ m.toNat := by
  unfold rMany
  split
  · simp
  · omega
def rList {α : Type} (r : RS → α × RS) (m : Int) (l : List Int) (s : RS) : List α × RS := rRep r (rMany m l s).1.toNat (rMany m l s).2
abbrev rVals (m : Int) (l : List Int) (s : RS) : List (Int × Int) × RS := rList (rVal l) m l s
section
variable {tb : List (FuncId × Bool)} {L : Nat → Bool} {H : ZH} {K : ZV → ZH → Prop} {i : Nat} {ex : Bool} {l : List Int} {s : RS}
/-- A list that was read is handed back, written to no more. -/
theorem fin_rl {α : Type} {e : α → List ZV} {k g : Nat} {o : List α} {s' : RS} {X : ZH} (w : ROk H L i l) (hp : (o.map e).flatten.all pureZ = true) (hK : K (.fz k false (o.map e)) (rdH H i ex l s')) : Fin (rdH H i ex l s) (.own H.length g 0 o.length false) (rdH H i ex l s' ++ (.grow g k (o.map e) :: X)) K := by
  have hr := rd_len (H := H) (i := i) (ex := ex) (l := l) (s := s')
  refine Fin.frz (k := k) (rows := o.map e) (atN0 hr _ _) (by simp) hp ?_
  rw [stN0 hr, List.drop_zero, take_map_all]
  exact fin_rd w rfl hK
set_option maxHeartbeats 1000000 in
theorem rvalues_z {m : Int} (w : ROk H L i l) (hL : ∀ k, L (H.length + k) = true) (hm : 0 ≤ m ∧ m ≤ 1000000) (hK : K (.fz 2 false ((rVals m l s).1.map eP)) (rdH H i ex l (rVals m l s).2)) :
    ZC (boxX tb) (cFunc Try.prog) 53 [.ptr i 0, Z64 m] L (rdH H i ex l s) K := by
  refine ZC.enter ⟨[(5, [(0, 2)])], [], []⟩ (boxX_none (by decide)) f_wo_rvalues (by simp) ?_
  simp only [c_wo_rvalues]
  obtain ⟨r1, r2⟩ := rMany_ok (l := l) (s := s) hm.1
  have hK' : K (.fz 2 false ((rRep (rVal l) (rMany m l s).1.toNat (rMany m l s).2).1.map eP)) (rdH H i ex l (rRep (rVal l) (rMany m l s).1.toNat (rMany m l s).2).2) := hK
  obtain ⟨N, hN⟩ : ∃ N, N = (rMany m l s).1.toNat := ⟨_, rfl⟩
  obtain ⟨s1, hs1⟩ : ∃ s1, s1 = (rMany m l s).2 := ⟨_, rfl⟩
  have hNm : N ≤ 1000000 := by rw [hN]; omega
  rw [← hN, ← hs1] at hK'
  rw [← hN] at r1
  have FE : Hid (∀ g X, Fin (rdH H i ex l s) (.own H.length g 0 (rRep (rVal l) N s1).1.length false) (rdH H i ex l (rRep (rVal l) N s1).2 ++ (.grow g 2 ((rRep (rVal l) N s1).1.map eP) :: X)) K) := fun g X => fin_rl w pureP hK'
  have R1 := Lib.hid r1
  have HS := Lib.hid hs1
  clear hK hK' hN hs1 r1 r2
  have hrl := rd_len (H := H) (i := i) (ex := ex) (l := l) (s := s)
  obtain ⟨W, hW⟩ : ∃ W, W = rdH H i ex l s := ⟨_, rfl⟩
  rw [← hW] at hrl ⊢
  have HW := Lib.hid hW
  clear hW
  repeat' (first | (simp only [zmPack, zfree, owners, Nat.reduceLT, List.filter_cons, List.filter_nil, List.contains_cons, List.contains_nil, Nat.reduceBEq, Bool.or_false, Bool.or_true, Bool.false_or, Bool.true_or, BEq.rfl, chunk, setAt, List.lookup_cons, List.lookup_nil, ZV.val.injEq, ZV.ptr.injEq, ZV.own.injEq, ZV.fz.injEq, ZV.func.injEq, ZV.tuple.injEq, ZV.agg.injEq, ZB.box.injEq, ZB.grow.injEq, Bool.not_eq_false', Prod.mk.injEq, and_assoc, decide_false, decide_true, Bool.not_false, Bool.not_true, Bool.true_eq_false, Bool.false_eq_true, exists_false, Bool.not_eq_false, Bool.not_not, Value.bool.injEq, Value.int.injEq, Option.some.injEq, exists_eq_left', exists_eq_left, exists_and_left, exists_and_right, and_true, true_and, decide_eq_true_eq, decide_eq_false_iff_not, if_true, if_false, Bool.not_eq_true', beq_true, beq_false, ne_eq, not_true_eq_false, not_false_eq_true, reduceCtorEq, List.getD_cons_zero, List.getD_cons_succ, List.getD_nil, List.map_cons, List.map_nil, List.append_nil, Nat.reduceEqDiff, reduceIte, ite_true, ite_false, or_true, true_or, or_false, false_or, true_imp_iff, false_imp_iff, implies_true, imp_false, and_self, imp_self, and_false, false_and, forall_const, take_map_all, Nat.le_refl, Nat.reduceMul, Nat.reduceSub, List.length_cons, List.length_nil, List.length_map, List.length_set, List.all_cons, List.all_nil, Bool.and_self, Option.map_none, Option.map_some, List.set_cons_zero, List.set_cons_succ, Nat.lt_add_one, List.append_assoc, List.cons_append, List.nil_append, List.append_nil, List.length_append, List.take_zero, List.take_succ_cons, List.take_nil, List.drop_zero, List.drop_succ_cons, List.drop_nil, List.getElem?_cons_zero, List.getElem?_cons_succ, List.getElem?_map, Nat.reduceAdd, Nat.reduceLeDiff, Nat.add_eq_zero_iff, and_self, Nat.zero_add, Nat.add_zero, Nat.mul_one, Nat.one_mul, List.flatten_cons, List.flatten_nil, *]) | (simp only [zgoO, zgoG, zO_nil, zthen_normal, zgoC]) | (with_reducible apply And.intro) | (with_reducible intro _))
  rw [HW.out, ← rd_app w]
  refine many_z (w.app _) ?_
  rw [rd_app w, R1.out, ← HS.out]
  repeat' (first | (simp only [zmPack, zfree, owners, Nat.reduceLT, List.filter_cons, List.filter_nil, List.contains_cons, List.contains_nil, Nat.reduceBEq, Bool.or_false, Bool.or_true, Bool.false_or, Bool.true_or, BEq.rfl, chunk, setAt, List.lookup_cons, List.lookup_nil, ZV.val.injEq, ZV.ptr.injEq, ZV.own.injEq, ZV.fz.injEq, ZV.func.injEq, ZV.tuple.injEq, ZV.agg.injEq, ZB.box.injEq, ZB.grow.injEq, Bool.not_eq_false', Prod.mk.injEq, and_assoc, decide_false, decide_true, Bool.not_false, Bool.not_true, Bool.true_eq_false, Bool.false_eq_true, exists_false, Bool.not_eq_false, Bool.not_not, Value.bool.injEq, Value.int.injEq, Option.some.injEq, exists_eq_left', exists_eq_left, exists_and_left, exists_and_right, and_true, true_and, decide_eq_true_eq, decide_eq_false_iff_not, if_true, if_false, Bool.not_eq_true', beq_true, beq_false, ne_eq, not_true_eq_false, not_false_eq_true, reduceCtorEq, List.getD_cons_zero, List.getD_cons_succ, List.getD_nil, List.map_cons, List.map_nil, List.append_nil, Nat.reduceEqDiff, reduceIte, ite_true, ite_false, or_true, true_or, or_false, false_or, true_imp_iff, false_imp_iff, implies_true, imp_false, and_self, imp_self, and_false, false_and, forall_const, take_map_all, Nat.le_refl, Nat.reduceMul, Nat.reduceSub, List.length_cons, List.length_nil, List.length_map, List.length_set, List.all_cons, List.all_nil, Bool.and_self, Option.map_none, Option.map_some, List.set_cons_zero, List.set_cons_succ, Nat.lt_add_one, List.append_assoc, List.cons_append, List.nil_append, List.append_nil, List.length_append, List.take_zero, List.take_succ_cons, List.take_nil, List.drop_zero, List.drop_succ_cons, List.drop_nil, List.getElem?_cons_zero, List.getElem?_cons_succ, List.getElem?_map, Nat.reduceAdd, Nat.reduceLeDiff, Nat.add_eq_zero_iff, and_self, Nat.zero_add, Nat.add_zero, Nat.mul_one, Nat.one_mul, List.flatten_cons, List.flatten_nil, *]) | (simp only [zgoO, zgoG, zO_nil, zthen_normal, zgoC]) | (with_reducible apply And.intro) | (with_reducible intro _))
  refine zW_whileK [(0, .ptr i 0)] N (fun m s' h' => ∃ g X, m ≤ N ∧ s' 6 = Z64 (m : Nat) ∧ s' 5 = .own H.length g 0 (rRep (rVal l) (N - m) s1).1.length false ∧ h' = rdH H i ex l (rRep (rVal l) (N - m) s1).2 ++ (.grow g 2 ((rRep (rVal l) (N - m) s1).1.map eP) :: X)) (by repeat' (first | exact trivial | (refine ⟨rfl, ?_⟩) | (refine ⟨by simp only [zupd_at, Nat.reduceEqDiff, reduceIte]; assumption, ?_⟩))) rfl ⟨0, [], Nat.le_refl _, rfl, by rw [Nat.sub_self]; rfl, by rw [Nat.sub_self]; rfl⟩ ?_
  rintro m s' h' ⟨g, X, hmN, f6, f5, rfl⟩ ⟨f0, -⟩
  obtain ⟨q, hq⟩ : ∃ q, q = rRep (rVal l) (N - m) s1 := ⟨_, rfl⟩
  rw [← hq] at f5 ⊢
  obtain ⟨o, a, b⟩ := q
  have li := w.li
  have hr1 := rd_len (H := H) (i := i) (ex := ex) (l := l) (s := (a, b))
  have ai := fun X => H_app (rd_at (ex := ex) (s := (a, b)) w) X
  obtain ⟨W1, hW1⟩ : ∃ W1, W1 = rdH H i ex l (a, b) := ⟨_, rfl⟩
  simp only at f5 ⊢
  rw [← hW1] at hr1 ai ⊢
  have HW1 := Lib.hid hW1
  clear hW1
  cases m with
  | zero =>
    rw [Nat.sub_zero] at hq
    rw [← hq] at FE
    have fin := FE.out
    rw [← HW1.out] at fin
    have HQ := Lib.hid hq
    clear hq FE
    have c0 : ¬ (0 : Int) < ((0 : Nat) : Int) := by omega
    repeat' (first | (simp only [zmPack, zfree, owners, Nat.reduceLT, List.filter_cons, List.filter_nil, List.contains_cons, List.contains_nil, Nat.reduceBEq, Bool.or_false, Bool.or_true, Bool.false_or, Bool.true_or, BEq.rfl, chunk, setAt, List.lookup_cons, List.lookup_nil, ZV.val.injEq, ZV.ptr.injEq, ZV.own.injEq, ZV.fz.injEq, ZV.func.injEq, ZV.tuple.injEq, ZV.agg.injEq, ZB.box.injEq, ZB.grow.injEq, Bool.not_eq_false', Prod.mk.injEq, and_assoc, decide_false, decide_true, Bool.not_false, Bool.not_true, Bool.true_eq_false, Bool.false_eq_true, exists_false, Bool.not_eq_false, Bool.not_not, Value.bool.injEq, Value.int.injEq, Option.some.injEq, exists_eq_left', exists_eq_left, exists_and_left, exists_and_right, and_true, true_and, decide_eq_true_eq, decide_eq_false_iff_not, if_true, if_false, Bool.not_eq_true', beq_true, beq_false, ne_eq, not_true_eq_false, not_false_eq_true, reduceCtorEq, List.getD_cons_zero, List.getD_cons_succ, List.getD_nil, List.map_cons, List.map_nil, List.append_nil, Nat.reduceEqDiff, reduceIte, ite_true, ite_false, or_true, true_or, or_false, false_or, true_imp_iff, false_imp_iff, implies_true, imp_false, and_self, imp_self, and_false, false_and, forall_const, take_map_all, Nat.le_refl, Nat.reduceMul, Nat.reduceSub, List.length_cons, List.length_nil, List.length_map, List.length_set, List.all_cons, List.all_nil, Bool.and_self, Option.map_none, Option.map_some, List.set_cons_zero, List.set_cons_succ, Nat.lt_add_one, List.append_assoc, List.cons_append, List.nil_append, List.append_nil, List.length_append, List.take_zero, List.take_succ_cons, List.take_nil, List.drop_zero, List.drop_succ_cons, List.drop_nil, List.getElem?_cons_zero, List.getElem?_cons_succ, List.getElem?_map, Nat.reduceAdd, Nat.reduceLeDiff, Nat.add_eq_zero_iff, and_self, Nat.zero_add, Nat.add_zero, Nat.mul_one, Nat.one_mul, List.flatten_cons, List.flatten_nil, ai, c0, *]) | (simp only [zgoO, zgoG, zO_nil, zthen_normal, zgoC]) | (with_reducible apply And.intro) | (with_reducible intro _))
  | succ j =>
    have c0 : (0 : Int) < ((j + 1 : Nat) : Int) := by omega
    cases b with
    | true =>
      have hq2 : rRep (rVal l) N s1 = (o, (a, true)) := by rw [rRep_bad (k := N - (j + 1)) (by omega) (by rw [← hq]), ← hq]
      rw [hq2] at FE
      have fin := FE.out
      rw [← HW1.out] at fin
      clear hq FE hq2
      repeat' (first | (simp only [zmPack, zfree, owners, Nat.reduceLT, List.filter_cons, List.filter_nil, List.contains_cons, List.contains_nil, Nat.reduceBEq, Bool.or_false, Bool.or_true, Bool.false_or, Bool.true_or, BEq.rfl, chunk, setAt, List.lookup_cons, List.lookup_nil, ZV.val.injEq, ZV.ptr.injEq, ZV.own.injEq, ZV.fz.injEq, ZV.func.injEq, ZV.tuple.injEq, ZV.agg.injEq, ZB.box.injEq, ZB.grow.injEq, Bool.not_eq_false', Prod.mk.injEq, and_assoc, decide_false, decide_true, Bool.not_false, Bool.not_true, Bool.true_eq_false, Bool.false_eq_true, exists_false, Bool.not_eq_false, Bool.not_not, Value.bool.injEq, Value.int.injEq, Option.some.injEq, exists_eq_left', exists_eq_left, exists_and_left, exists_and_right, and_true, true_and, decide_eq_true_eq, decide_eq_false_iff_not, if_true, if_false, Bool.not_eq_true', beq_true, beq_false, ne_eq, not_true_eq_false, not_false_eq_true, reduceCtorEq, List.getD_cons_zero, List.getD_cons_succ, List.getD_nil, List.map_cons, List.map_nil, List.append_nil, Nat.reduceEqDiff, reduceIte, ite_true, ite_false, or_true, true_or, or_false, false_or, true_imp_iff, false_imp_iff, implies_true, imp_false, and_self, imp_self, and_false, false_and, forall_const, take_map_all, Nat.le_refl, Nat.reduceMul, Nat.reduceSub, List.length_cons, List.length_nil, List.length_map, List.length_set, List.all_cons, List.all_nil, Bool.and_self, Option.map_none, Option.map_some, List.set_cons_zero, List.set_cons_succ, Nat.lt_add_one, List.append_assoc, List.cons_append, List.nil_append, List.append_nil, List.length_append, List.take_zero, List.take_succ_cons, List.take_nil, List.drop_zero, List.drop_succ_cons, List.drop_nil, List.getElem?_cons_zero, List.getElem?_cons_succ, List.getElem?_map, Nat.reduceAdd, Nat.reduceLeDiff, Nat.add_eq_zero_iff, and_self, Nat.zero_add, Nat.add_zero, Nat.mul_one, Nat.one_mul, List.flatten_cons, List.flatten_nil, ai, c0, *]) | (simp only [zgoO, zgoG, zO_nil, zthen_normal, zgoC]) | (with_reducible apply And.intro) | (with_reducible intro _))
    | false =>
      have hq2 := rRep_good hq.symm
      rw [show N - (j + 1) + 1 = N - j by omega] at hq2
      have hol : o.length ≤ N - (j + 1) := by have := rRep_len (r := rVal l) (n := N - (j + 1)) (s := s1); rw [← hq] at this; exact this
      have HQ := Lib.hid hq2
      clear hq hq2 FE
      have L0 : L (H.length + (X.length + 1)) = true := hL _
      repeat' (first | (simp only [zmPack, zfree, owners, Nat.reduceLT, List.filter_cons, List.filter_nil, List.contains_cons, List.contains_nil, Nat.reduceBEq, Bool.or_false, Bool.or_true, Bool.false_or, Bool.true_or, BEq.rfl, chunk, setAt, List.lookup_cons, List.lookup_nil, ZV.val.injEq, ZV.ptr.injEq, ZV.own.injEq, ZV.fz.injEq, ZV.func.injEq, ZV.tuple.injEq, ZV.agg.injEq, ZB.box.injEq, ZB.grow.injEq, Bool.not_eq_false', Prod.mk.injEq, and_assoc, decide_false, decide_true, Bool.not_false, Bool.not_true, Bool.true_eq_false, Bool.false_eq_true, exists_false, Bool.not_eq_false, Bool.not_not, Value.bool.injEq, Value.int.injEq, Option.some.injEq, exists_eq_left', exists_eq_left, exists_and_left, exists_and_right, and_true, true_and, decide_eq_true_eq, decide_eq_false_iff_not, if_true, if_false, Bool.not_eq_true', beq_true, beq_false, ne_eq, not_true_eq_false, not_false_eq_true, reduceCtorEq, List.getD_cons_zero, List.getD_cons_succ, List.getD_nil, List.map_cons, List.map_nil, List.append_nil, Nat.reduceEqDiff, reduceIte, ite_true, ite_false, or_true, true_or, or_false, false_or, true_imp_iff, false_imp_iff, implies_true, imp_false, and_self, imp_self, and_false, false_and, forall_const, take_map_all, Nat.le_refl, Nat.reduceMul, Nat.reduceSub, List.length_cons, List.length_nil, List.length_map, List.length_set, List.all_cons, List.all_nil, Bool.and_self, Option.map_none, Option.map_some, List.set_cons_zero, List.set_cons_succ, Nat.lt_add_one, List.append_assoc, List.cons_append, List.nil_append, List.append_nil, List.length_append, List.take_zero, List.take_succ_cons, List.take_nil, List.drop_zero, List.drop_succ_cons, List.drop_nil, List.getElem?_cons_zero, List.getElem?_cons_succ, List.getElem?_map, Nat.reduceAdd, Nat.reduceLeDiff, Nat.add_eq_zero_iff, and_self, Nat.zero_add, Nat.add_zero, Nat.mul_one, Nat.one_mul, List.flatten_cons, List.flatten_nil, ai, c0, *]) | (simp only [zgoO, zgoG, zO_nil, zthen_normal, zgoC]) | (with_reducible apply And.intro) | (with_reducible intro _))
      rw [HW1.out, ← rd_app w]
      refine rvalue_z (w.app _) (fun k => by rw [List.length_append, Nat.add_assoc]; exact hL _) ?_
      rw [rd_app w]
      obtain ⟨q, hq⟩ : ∃ q, q = rVal l (a, false) := ⟨_, rfl⟩
      have HQ2 : Hid (rRep (rVal l) (N - j) s1 = (o ++ [q.1], q.2)) := by rw [hq]; exact HQ
      rw [← hq]
      obtain ⟨⟨v1, v2⟩, a2, b2⟩ := q
      simp only at HQ2 ⊢
      have hr2 := rd_len (H := H) (i := i) (ex := ex) (l := l) (s := (a2, b2))
      obtain ⟨W2, hW2⟩ : ∃ W2, W2 = rdH H i ex l (a2, b2) := ⟨_, rfl⟩
      rw [← hW2] at hr2 ⊢
      have HW2 := Lib.hid hW2
      have g0 := atN0 hr2
      have g1 := stN0 hr2
      have lg : L H.length = true := hL 0
      have hr : (o.length + 1) * 16 ≤ reach := by unfold reach; omega
      have hw : IntKind.i64.wrap (((j + 1 : Nat) : Int) - 1) = (j : Int) := by rw [IntWalk.i64_in _ (by omega)]; omega
      have HM := Lib.hid hmN
      clear hq hW2 HQ hol hmN hNm
      repeat' (first | (simp only [zmPack, zfree, owners, Nat.reduceLT, List.filter_cons, List.filter_nil, List.contains_cons, List.contains_nil, Nat.reduceBEq, Bool.or_false, Bool.or_true, Bool.false_or, Bool.true_or, BEq.rfl, chunk, setAt, List.lookup_cons, List.lookup_nil, ZV.val.injEq, ZV.ptr.injEq, ZV.own.injEq, ZV.fz.injEq, ZV.func.injEq, ZV.tuple.injEq, ZV.agg.injEq, ZB.box.injEq, ZB.grow.injEq, Bool.not_eq_false', Prod.mk.injEq, and_assoc, decide_false, decide_true, Bool.not_false, Bool.not_true, Bool.true_eq_false, Bool.false_eq_true, exists_false, Bool.not_eq_false, Bool.not_not, Value.bool.injEq, Value.int.injEq, Option.some.injEq, exists_eq_left', exists_eq_left, exists_and_left, exists_and_right, and_true, true_and, decide_eq_true_eq, decide_eq_false_iff_not, if_true, if_false, Bool.not_eq_true', beq_true, beq_false, ne_eq, not_true_eq_false, not_false_eq_true, reduceCtorEq, List.getD_cons_zero, List.getD_cons_succ, List.getD_nil, List.map_cons, List.map_nil, List.append_nil, Nat.reduceEqDiff, reduceIte, ite_true, ite_false, or_true, true_or, or_false, false_or, true_imp_iff, false_imp_iff, implies_true, imp_false, and_self, imp_self, and_false, false_and, forall_const, take_map_all, Nat.le_refl, Nat.reduceMul, Nat.reduceSub, List.length_cons, List.length_nil, List.length_map, List.length_set, List.all_cons, List.all_nil, Bool.and_self, Option.map_none, Option.map_some, List.set_cons_zero, List.set_cons_succ, Nat.lt_add_one, List.append_assoc, List.cons_append, List.nil_append, List.append_nil, List.length_append, List.take_zero, List.take_succ_cons, List.take_nil, List.drop_zero, List.drop_succ_cons, List.drop_nil, List.getElem?_cons_zero, List.getElem?_cons_succ, List.getElem?_map, Nat.reduceAdd, Nat.reduceLeDiff, Nat.add_eq_zero_iff, and_self, Nat.zero_add, Nat.add_zero, Nat.mul_one, Nat.one_mul, List.flatten_cons, List.flatten_nil, g0, g1, lg, hr, hw, *]) | (simp only [zgoO, zgoG, zO_nil, zthen_normal, zgoC]) | (with_reducible apply And.intro) | (with_reducible intro _))
      have hm := HM.out
      exact ⟨j, by omega, by omega, rfl, by rw [HQ2.out]; simp, X, by rw [HQ2.out, HW2.out, List.map_append]; rfl⟩
end
end Go.Proofs.Ytpmmiaadfnildaa

namespace Go.Proofs.Ytpmmiaadfnildaa
open Go Go.RowKit
set_option linter.unusedVariables false
set_option linter.unusedSimpArgs false
/-- A part of the result is written to no more. -/
theorem Fin.frzA {H0 : ZH} {i g off len : Nat} {ex : Bool} {H' : ZH} {K : ZV → ZH → Prop} {k : Nat} {rows : List (List ZV)} {vs : List ZV} {j : Nat} (hj : vs[j]? = some (.own i g off len ex)) (hb : H'[i]? = some (.grow g k rows)) (hle : off + len ≤ rows.length) (hp : rows.flatten.all pureZ = true) (hk : Fin H0 (.agg (vs.set j (.fz k ex ((rows.drop off).take len)))) (H'.set i .dead) K) : Fin H0 (.agg vs) H' K := fun fl L w w' a r e r' e' he hz => by
  subst he
  obtain ⟨ys, rfl, hys⟩ := hz.agg_inv
  obtain ⟨y, hy, hyz⟩ := hys.get hj
  obtain ⟨w2, e1, e2, e3, e4, e5⟩ := freeze_own r' hb hle hp hyz
  rw [← e1]
  refine hk fl L w w2 _ r e e3 (e'.trans e4) e2 (ZRs.toAgg ⟨by simp [hys.1], fun m z a hz' ha' => ?_⟩)
  have hjl : j < vs.length := (List.getElem?_eq_some_iff.1 hj).1
  by_cases hm : m = j
  · subst hm
    rw [List.getElem?_set] at hz'
    simp [hjl] at hz'
    rw [hy] at ha'; injection ha' with ha'
    subst hz'; subst ha'; exact e5
  · rw [List.getElem?_set, if_neg (Ne.symm hm)] at hz'
    exact (hys.2 m z a hz' ha').ext e4
theorem ROk.free {H : ZH} {L L' : Nat → Bool} {i : Nat} {l : List Int} (w : ROk H L i l) (h : L' i = true) : ROk H L' i l := ⟨w.hi, h, w.hl, w.hu⟩
def rTry (l : List Int) (s : RS) : (Int × Int) × RS := (((rNum l s).1, (rNum l (rNum l s).2).1), (rNum l (rNum l s).2).2)
def rFrame (l : List Int) (s : RS) : Fr × RS :=
  ((((rNum l s).1, (rNum l (rNum l s).2).1, (rNum l (rNum l (rNum l s).2).2).1, (rNum l (rNum l (rNum l (rNum l s).2).2).2).1, (rVal l (rNum l (rNum l (rNum l (rNum l s).2).2).2).2).1, (rVals 60 l (rVal l (rNum l (rNum l (rNum l (rNum l s).2).2).2).2).2).1, (rList (rTry l) 20 l (rVals 60 l (rVal l (rNum l (rNum l (rNum l (rNum l s).2).2).2).2).2).2).1)), (rList (rTry l) 20 l (rVals 60 l (rVal l (rNum l (rNum l (rNum l (rNum l s).2).2).2).2).2).2).2)
section
variable {tb : List (FuncId × Bool)} {L : Nat → Bool} {H : ZH} {K : ZV → ZH → Prop} {i : Nat} {ex : Bool} {l : List Int} {s : RS}
theorem fin_rA {α : Type} {e : α → List ZV} {k g j : Nat} {o : List α} {s' : RS} {B0 : ZB} {X : ZH} {vs : List ZV} (w : ROk H L i l) (hj : vs[j]? = some (.own (H.length + 1) g 0 o.length false)) (hp : (o.map e).flatten.all pureZ = true) (hz : refs H.length (.agg (vs.set j (.fz k false (o.map e)))) = true) (hK : K (.agg (vs.set j (.fz k false (o.map e)))) (rdH H i ex l s')) : Fin (rdH H i ex l s) (.agg vs) (rdH H i ex l s' ++ (B0 :: .grow g k (o.map e) :: X)) K := by
  have hr := rd_len (H := H) (i := i) (ex := ex) (l := l) (s := s')
  refine Fin.frzA hj (k := k) (rows := o.map e) (atN1 hr _ _ _) (by simp) hp ?_
  rw [stN1 hr, List.drop_zero, take_map_all]
  exact fin_rd w hz hK
set_option maxHeartbeats 4000000 in
theorem rframe_z (w : ROk H L i l) (hL : ∀ k, L (H.length + k) = true) (hK : K (.agg (eF (rFrame l s).1)) (rdH H i ex l (rFrame l s).2)) :
    ZC (boxX tb) (cFunc Try.prog) 54 [.ptr i 0] L (rdH H i ex l s) K := by
  refine ZC.enter ⟨[(13, [(7, 2)])], [], []⟩ (boxX_none (by decide)) f_wo_rframe (by simp) ?_
  simp only [c_wo_rframe]
  unfold rFrame at hK
  obtain ⟨q1, h1⟩ : ∃ q, q = rNum l s := ⟨_, rfl⟩
  rw [← h1] at hK
  obtain ⟨q2, h2⟩ : ∃ q, q = rNum l q1.2 := ⟨_, rfl⟩
  rw [← h2] at hK
  obtain ⟨q3, h3⟩ : ∃ q, q = rNum l q2.2 := ⟨_, rfl⟩
  rw [← h3] at hK
  obtain ⟨q4, h4⟩ : ∃ q, q = rNum l q3.2 := ⟨_, rfl⟩
  rw [← h4] at hK
  obtain ⟨q5, h5⟩ : ∃ q, q = rVal l q4.2 := ⟨_, rfl⟩
  rw [← h5] at hK
  obtain ⟨q6, h6⟩ : ∃ q, q = rVals 60 l q5.2 := ⟨_, rfl⟩
  rw [← h6] at hK
  have H1 := Lib.hid h1
  have H2 := Lib.hid h2
  have H3 := Lib.hid h3
  have H4 := Lib.hid h4
  have H5 := Lib.hid h5
  have H6 := Lib.hid h6
  have HK := Lib.hid hK
  clear h1 h2 h3 h4 h5 h6 hK
  have hrl : ∀ s, (rdH H i ex l s).length = H.length := fun s => rd_len
  repeat' (first | (simp only [zmPack, zfree, owners, Nat.reduceLT, List.filter_cons, List.filter_nil, List.contains_cons, List.contains_nil, Nat.reduceBEq, Bool.or_false, Bool.or_true, Bool.false_or, Bool.true_or, BEq.rfl, chunk, setAt, List.lookup_cons, List.lookup_nil, ZV.val.injEq, ZV.ptr.injEq, ZV.own.injEq, ZV.fz.injEq, ZV.func.injEq, ZV.tuple.injEq, ZV.agg.injEq, ZB.box.injEq, ZB.grow.injEq, Bool.not_eq_false', Prod.mk.injEq, and_assoc, decide_false, decide_true, Bool.not_false, Bool.not_true, Bool.true_eq_false, Bool.false_eq_true, exists_false, Bool.not_eq_false, Bool.not_not, Value.bool.injEq, Value.int.injEq, Option.some.injEq, exists_eq_left', exists_eq_left, exists_and_left, exists_and_right, and_true, true_and, decide_eq_true_eq, decide_eq_false_iff_not, if_true, if_false, Bool.not_eq_true', beq_true, beq_false, ne_eq, not_true_eq_false, not_false_eq_true, reduceCtorEq, List.getD_cons_zero, List.getD_cons_succ, List.getD_nil, List.map_cons, List.map_nil, List.append_nil, Nat.reduceEqDiff, reduceIte, ite_true, ite_false, or_true, true_or, or_false, false_or, true_imp_iff, false_imp_iff, implies_true, imp_false, and_self, imp_self, and_false, false_and, forall_const, take_map_all, Nat.le_refl, Nat.reduceMul, Nat.reduceSub, List.length_cons, List.length_nil, List.length_map, List.length_set, List.all_cons, List.all_nil, Bool.and_self, Option.map_none, Option.map_some, List.set_cons_zero, List.set_cons_succ, Nat.lt_add_one, List.append_assoc, List.cons_append, List.nil_append, List.append_nil, List.length_append, List.take_zero, List.take_succ_cons, List.take_nil, List.drop_zero, List.drop_succ_cons, List.drop_nil, List.getElem?_cons_zero, List.getElem?_cons_succ, List.getElem?_map, Nat.reduceAdd, Nat.reduceLeDiff, Nat.add_eq_zero_iff, and_self, Nat.zero_add, Nat.add_zero, Nat.mul_one, Nat.one_mul, List.flatten_cons, List.flatten_nil, hrl, *]) | (simp only [zgoO, zgoG, zO_nil, zthen_normal, zgoC]) | (with_reducible apply And.intro) | (with_reducible intro _))
  rw [← rd_app w]
  refine number_z (w.app _) ?_
  rw [rd_app w, ← H1.out]
  repeat' (first | (simp only [zmPack, zfree, owners, Nat.reduceLT, List.filter_cons, List.filter_nil, List.contains_cons, List.contains_nil, Nat.reduceBEq, Bool.or_false, Bool.or_true, Bool.false_or, Bool.true_or, BEq.rfl, chunk, setAt, List.lookup_cons, List.lookup_nil, ZV.val.injEq, ZV.ptr.injEq, ZV.own.injEq, ZV.fz.injEq, ZV.func.injEq, ZV.tuple.injEq, ZV.agg.injEq, ZB.box.injEq, ZB.grow.injEq, Bool.not_eq_false', Prod.mk.injEq, and_assoc, decide_false, decide_true, Bool.not_false, Bool.not_true, Bool.true_eq_false, Bool.false_eq_true, exists_false, Bool.not_eq_false, Bool.not_not, Value.bool.injEq, Value.int.injEq, Option.some.injEq, exists_eq_left', exists_eq_left, exists_and_left, exists_and_right, and_true, true_and, decide_eq_true_eq, decide_eq_false_iff_not, if_true, if_false, Bool.not_eq_true', beq_true, beq_false, ne_eq, not_true_eq_false, not_false_eq_true, reduceCtorEq, List.getD_cons_zero, List.getD_cons_succ, List.getD_nil, List.map_cons, List.map_nil, List.append_nil, Nat.reduceEqDiff, reduceIte, ite_true, ite_false, or_true, true_or, or_false, false_or, true_imp_iff, false_imp_iff, implies_true, imp_false, and_self, imp_self, and_false, false_and, forall_const, take_map_all, Nat.le_refl, Nat.reduceMul, Nat.reduceSub, List.length_cons, List.length_nil, List.length_map, List.length_set, List.all_cons, List.all_nil, Bool.and_self, Option.map_none, Option.map_some, List.set_cons_zero, List.set_cons_succ, Nat.lt_add_one, List.append_assoc, List.cons_append, List.nil_append, List.append_nil, List.length_append, List.take_zero, List.take_succ_cons, List.take_nil, List.drop_zero, List.drop_succ_cons, List.drop_nil, List.getElem?_cons_zero, List.getElem?_cons_succ, List.getElem?_map, Nat.reduceAdd, Nat.reduceLeDiff, Nat.add_eq_zero_iff, and_self, Nat.zero_add, Nat.add_zero, Nat.mul_one, Nat.one_mul, List.flatten_cons, List.flatten_nil, hrl, *]) | (simp only [zgoO, zgoG, zO_nil, zthen_normal, zgoC]) | (with_reducible apply And.intro) | (with_reducible intro _))
  rw [← rd_app w]
  refine number_z (w.app _) ?_
  rw [rd_app w, ← H2.out]
  repeat' (first | (simp only [zmPack, zfree, owners, Nat.reduceLT, List.filter_cons, List.filter_nil, List.contains_cons, List.contains_nil, Nat.reduceBEq, Bool.or_false, Bool.or_true, Bool.false_or, Bool.true_or, BEq.rfl, chunk, setAt, List.lookup_cons, List.lookup_nil, ZV.val.injEq, ZV.ptr.injEq, ZV.own.injEq, ZV.fz.injEq, ZV.func.injEq, ZV.tuple.injEq, ZV.agg.injEq, ZB.box.injEq, ZB.grow.injEq, Bool.not_eq_false', Prod.mk.injEq, and_assoc, decide_false, decide_true, Bool.not_false, Bool.not_true, Bool.true_eq_false, Bool.false_eq_true, exists_false, Bool.not_eq_false, Bool.not_not, Value.bool.injEq, Value.int.injEq, Option.some.injEq, exists_eq_left', exists_eq_left, exists_and_left, exists_and_right, and_true, true_and, decide_eq_true_eq, decide_eq_false_iff_not, if_true, if_false, Bool.not_eq_true', beq_true, beq_false, ne_eq, not_true_eq_false, not_false_eq_true, reduceCtorEq, List.getD_cons_zero, List.getD_cons_succ, List.getD_nil, List.map_cons, List.map_nil, List.append_nil, Nat.reduceEqDiff, reduceIte, ite_true, ite_false, or_true, true_or, or_false, false_or, true_imp_iff, false_imp_iff, implies_true, imp_false, and_self, imp_self, and_false, false_and, forall_const, take_map_all, Nat.le_refl, Nat.reduceMul, Nat.reduceSub, List.length_cons, List.length_nil, List.length_map, List.length_set, List.all_cons, List.all_nil, Bool.and_self, Option.map_none, Option.map_some, List.set_cons_zero, List.set_cons_succ, Nat.lt_add_one, List.append_assoc, List.cons_append, List.nil_append, List.append_nil, List.length_append, List.take_zero, List.take_succ_cons, List.take_nil, List.drop_zero, List.drop_succ_cons, List.drop_nil, List.getElem?_cons_zero, List.getElem?_cons_succ, List.getElem?_map, Nat.reduceAdd, Nat.reduceLeDiff, Nat.add_eq_zero_iff, and_self, Nat.zero_add, Nat.add_zero, Nat.mul_one, Nat.one_mul, List.flatten_cons, List.flatten_nil, hrl, *]) | (simp only [zgoO, zgoG, zO_nil, zthen_normal, zgoC]) | (with_reducible apply And.intro) | (with_reducible intro _))
  rw [← rd_app w]
  refine number_z (w.app _) ?_
  rw [rd_app w, ← H3.out]
  repeat' (first | (simp only [zmPack, zfree, owners, Nat.reduceLT, List.filter_cons, List.filter_nil, List.contains_cons, List.contains_nil, Nat.reduceBEq, Bool.or_false, Bool.or_true, Bool.false_or, Bool.true_or, BEq.rfl, chunk, setAt, List.lookup_cons, List.lookup_nil, ZV.val.injEq, ZV.ptr.injEq, ZV.own.injEq, ZV.fz.injEq, ZV.func.injEq, ZV.tuple.injEq, ZV.agg.injEq, ZB.box.injEq, ZB.grow.injEq, Bool.not_eq_false', Prod.mk.injEq, and_assoc, decide_false, decide_true, Bool.not_false, Bool.not_true, Bool.true_eq_false, Bool.false_eq_true, exists_false, Bool.not_eq_false, Bool.not_not, Value.bool.injEq, Value.int.injEq, Option.some.injEq, exists_eq_left', exists_eq_left, exists_and_left, exists_and_right, and_true, true_and, decide_eq_true_eq, decide_eq_false_iff_not, if_true, if_false, Bool.not_eq_true', beq_true, beq_false, ne_eq, not_true_eq_false, not_false_eq_true, reduceCtorEq, List.getD_cons_zero, List.getD_cons_succ, List.getD_nil, List.map_cons, List.map_nil, List.append_nil, Nat.reduceEqDiff, reduceIte, ite_true, ite_false, or_true, true_or, or_false, false_or, true_imp_iff, false_imp_iff, implies_true, imp_false, and_self, imp_self, and_false, false_and, forall_const, take_map_all, Nat.le_refl, Nat.reduceMul, Nat.reduceSub, List.length_cons, List.length_nil, List.length_map, List.length_set, List.all_cons, List.all_nil, Bool.and_self, Option.map_none, Option.map_some, List.set_cons_zero, List.set_cons_succ, Nat.lt_add_one, List.append_assoc, List.cons_append, List.nil_append, List.append_nil, List.length_append, List.take_zero, List.take_succ_cons, List.take_nil, List.drop_zero, List.drop_succ_cons, List.drop_nil, List.getElem?_cons_zero, List.getElem?_cons_succ, List.getElem?_map, Nat.reduceAdd, Nat.reduceLeDiff, Nat.add_eq_zero_iff, and_self, Nat.zero_add, Nat.add_zero, Nat.mul_one, Nat.one_mul, List.flatten_cons, List.flatten_nil, hrl, *]) | (simp only [zgoO, zgoG, zO_nil, zthen_normal, zgoC]) | (with_reducible apply And.intro) | (with_reducible intro _))
  rw [← rd_app w]
  refine number_z (w.app _) ?_
  rw [rd_app w, ← H4.out]
  obtain ⟨a1, s1⟩ := q1
  obtain ⟨a2, s2⟩ := q2
  obtain ⟨a3, s3⟩ := q3
  obtain ⟨a4, s4⟩ := q4
  obtain ⟨⟨v1, v2⟩, s5⟩ := q5
  obtain ⟨rg, s6⟩ := q6
  have at0 : ∀ s A X, (rdH H i ex l s ++ (A :: X))[H.length]? = some A := fun s => atN0 (hrl s)
  have at1 : ∀ s A B X, (rdH H i ex l s ++ (A :: B :: X))[H.length + 1]? = some B := fun s => atN1 (hrl s)
  have at2 : ∀ s A B C X, (rdH H i ex l s ++ (A :: B :: C :: X))[H.length + 2]? = some C := fun s => atN2 (hrl s)
  have st0 : ∀ s A C X, (rdH H i ex l s ++ (A :: X)).set H.length C = rdH H i ex l s ++ (C :: X) := fun s => stN0 (hrl s)
  have st1 : ∀ s A B C X, (rdH H i ex l s ++ (A :: B :: X)).set (H.length + 1) C = rdH H i ex l s ++ (A :: C :: X) := fun s => stN1 (hrl s)
  have st2 : ∀ s A B D C X, (rdH H i ex l s ++ (A :: B :: D :: X)).set (H.length + 2) C = rdH H i ex l s ++ (A :: B :: C :: X) := fun s => stN2 (hrl s)
  have L0 : L H.length = true := hL 0
  have L1 : L (H.length + 1) = true := hL 1
  have L2 : L (H.length + 2) = true := hL 2
  simp only at H2 H3 H4 H5 H6 HK ⊢
  repeat' (first | (simp only [zmPack, zfree, owners, Nat.reduceLT, List.filter_cons, List.filter_nil, List.contains_cons, List.contains_nil, Nat.reduceBEq, Bool.or_false, Bool.or_true, Bool.false_or, Bool.true_or, BEq.rfl, chunk, setAt, List.lookup_cons, List.lookup_nil, ZV.val.injEq, ZV.ptr.injEq, ZV.own.injEq, ZV.fz.injEq, ZV.func.injEq, ZV.tuple.injEq, ZV.agg.injEq, ZB.box.injEq, ZB.grow.injEq, Bool.not_eq_false', Prod.mk.injEq, and_assoc, decide_false, decide_true, Bool.not_false, Bool.not_true, Bool.true_eq_false, Bool.false_eq_true, exists_false, Bool.not_eq_false, Bool.not_not, Value.bool.injEq, Value.int.injEq, Option.some.injEq, exists_eq_left', exists_eq_left, exists_and_left, exists_and_right, and_true, true_and, decide_eq_true_eq, decide_eq_false_iff_not, if_true, if_false, Bool.not_eq_true', beq_true, beq_false, ne_eq, not_true_eq_false, not_false_eq_true, reduceCtorEq, List.getD_cons_zero, List.getD_cons_succ, List.getD_nil, List.map_cons, List.map_nil, List.append_nil, Nat.reduceEqDiff, reduceIte, ite_true, ite_false, or_true, true_or, or_false, false_or, true_imp_iff, false_imp_iff, implies_true, imp_false, and_self, imp_self, and_false, false_and, forall_const, take_map_all, Nat.le_refl, Nat.reduceMul, Nat.reduceSub, List.length_cons, List.length_nil, List.length_map, List.length_set, List.all_cons, List.all_nil, Bool.and_self, Option.map_none, Option.map_some, List.set_cons_zero, List.set_cons_succ, Nat.lt_add_one, List.append_assoc, List.cons_append, List.nil_append, List.append_nil, List.length_append, List.take_zero, List.take_succ_cons, List.take_nil, List.drop_zero, List.drop_succ_cons, List.drop_nil, List.getElem?_cons_zero, List.getElem?_cons_succ, List.getElem?_map, Nat.reduceAdd, Nat.reduceLeDiff, Nat.add_eq_zero_iff, and_self, Nat.zero_add, Nat.add_zero, Nat.mul_one, Nat.one_mul, List.flatten_cons, List.flatten_nil, hrl, at0, at1, at2, st0, st1, st2, L0, L1, L2, *]) | (simp only [zgoO, zgoG, zO_nil, zthen_normal, zgoC]) | (with_reducible apply And.intro) | (with_reducible intro _))
  rw [← rd_app w]
  refine rvalue_z (w.app _) (fun k => by rw [List.length_append, Nat.add_assoc]; exact hL _) ?_
  rw [rd_app w, ← H5.out]
  simp only
  repeat' (first | (simp only [zmPack, zfree, owners, Nat.reduceLT, List.filter_cons, List.filter_nil, List.contains_cons, List.contains_nil, Nat.reduceBEq, Bool.or_false, Bool.or_true, Bool.false_or, Bool.true_or, BEq.rfl, chunk, setAt, List.lookup_cons, List.lookup_nil, ZV.val.injEq, ZV.ptr.injEq, ZV.own.injEq, ZV.fz.injEq, ZV.func.injEq, ZV.tuple.injEq, ZV.agg.injEq, ZB.box.injEq, ZB.grow.injEq, Bool.not_eq_false', Prod.mk.injEq, and_assoc, decide_false, decide_true, Bool.not_false, Bool.not_true, Bool.true_eq_false, Bool.false_eq_true, exists_false, Bool.not_eq_false, Bool.not_not, Value.bool.injEq, Value.int.injEq, Option.some.injEq, exists_eq_left', exists_eq_left, exists_and_left, exists_and_right, and_true, true_and, decide_eq_true_eq, decide_eq_false_iff_not, if_true, if_false, Bool.not_eq_true', beq_true, beq_false, ne_eq, not_true_eq_false, not_false_eq_true, reduceCtorEq, List.getD_cons_zero, List.getD_cons_succ, List.getD_nil, List.map_cons, List.map_nil, List.append_nil, Nat.reduceEqDiff, reduceIte, ite_true, ite_false, or_true, true_or, or_false, false_or, true_imp_iff, false_imp_iff, implies_true, imp_false, and_self, imp_self, and_false, false_and, forall_const, take_map_all, Nat.le_refl, Nat.reduceMul, Nat.reduceSub, List.length_cons, List.length_nil, List.length_map, List.length_set, List.all_cons, List.all_nil, Bool.and_self, Option.map_none, Option.map_some, List.set_cons_zero, List.set_cons_succ, Nat.lt_add_one, List.append_assoc, List.cons_append, List.nil_append, List.append_nil, List.length_append, List.take_zero, List.take_succ_cons, List.take_nil, List.drop_zero, List.drop_succ_cons, List.drop_nil, List.getElem?_cons_zero, List.getElem?_cons_succ, List.getElem?_map, Nat.reduceAdd, Nat.reduceLeDiff, Nat.add_eq_zero_iff, and_self, Nat.zero_add, Nat.add_zero, Nat.mul_one, Nat.one_mul, List.flatten_cons, List.flatten_nil, hrl, at0, at1, at2, st0, st1, st2, L0, L1, L2, *]) | (simp only [zgoO, zgoG, zO_nil, zthen_normal, zgoC]) | (with_reducible apply And.intro) | (with_reducible intro _))
  rw [← rd_app w]
  refine rvalues_z (w.app _) (fun k => by rw [List.length_append, Nat.add_assoc]; exact hL _) (by omega) ?_
  rw [rd_app w, ← H6.out]
  simp only
  repeat' (first | (simp only [zmPack, zfree, owners, Nat.reduceLT, List.filter_cons, List.filter_nil, List.contains_cons, List.contains_nil, Nat.reduceBEq, Bool.or_false, Bool.or_true, Bool.false_or, Bool.true_or, BEq.rfl, chunk, setAt, List.lookup_cons, List.lookup_nil, ZV.val.injEq, ZV.ptr.injEq, ZV.own.injEq, ZV.fz.injEq, ZV.func.injEq, ZV.tuple.injEq, ZV.agg.injEq, ZB.box.injEq, ZB.grow.injEq, Bool.not_eq_false', Prod.mk.injEq, and_assoc, decide_false, decide_true, Bool.not_false, Bool.not_true, Bool.true_eq_false, Bool.false_eq_true, exists_false, Bool.not_eq_false, Bool.not_not, Value.bool.injEq, Value.int.injEq, Option.some.injEq, exists_eq_left', exists_eq_left, exists_and_left, exists_and_right, and_true, true_and, decide_eq_true_eq, decide_eq_false_iff_not, if_true, if_false, Bool.not_eq_true', beq_true, beq_false, ne_eq, not_true_eq_false, not_false_eq_true, reduceCtorEq, List.getD_cons_zero, List.getD_cons_succ, List.getD_nil, List.map_cons, List.map_nil, List.append_nil, Nat.reduceEqDiff, reduceIte, ite_true, ite_false, or_true, true_or, or_false, false_or, true_imp_iff, false_imp_iff, implies_true, imp_false, and_self, imp_self, and_false, false_and, forall_const, take_map_all, Nat.le_refl, Nat.reduceMul, Nat.reduceSub, List.length_cons, List.length_nil, List.length_map, List.length_set, List.all_cons, List.all_nil, Bool.and_self, Option.map_none, Option.map_some, List.set_cons_zero, List.set_cons_succ, Nat.lt_add_one, List.append_assoc, List.cons_append, List.nil_append, List.append_nil, List.length_append, List.take_zero, List.take_succ_cons, List.take_nil, List.drop_zero, List.drop_succ_cons, List.drop_nil, List.getElem?_cons_zero, List.getElem?_cons_succ, List.getElem?_map, Nat.reduceAdd, Nat.reduceLeDiff, Nat.add_eq_zero_iff, and_self, Nat.zero_add, Nat.add_zero, Nat.mul_one, Nat.one_mul, List.flatten_cons, List.flatten_nil, hrl, at0, at1, at2, st0, st1, st2, L0, L1, L2, *]) | (simp only [zgoO, zgoG, zO_nil, zthen_normal, zgoC]) | (with_reducible apply And.intro) | (with_reducible intro _))
  obtain ⟨r1, r2⟩ := rMany_ok (m := 20) (l := l) (s := s6) (by omega)
  unfold rList at HK
  obtain ⟨N, hN⟩ : ∃ N, N = (rMany 20 l s6).1.toNat := ⟨_, rfl⟩
  obtain ⟨s7, hs7⟩ : ∃ s7, s7 = (rMany 20 l s6).2 := ⟨_, rfl⟩
  rw [← hN, ← hs7] at HK
  rw [← hN] at r1 r2
  rw [← rd_app w]
  refine many_z (w.app _) ?_
  rw [rd_app w, r1, ← hs7]
  have HR2 := Lib.hid r2
  clear hs7 r1 r2 hN
  repeat' (first | (simp only [zmPack, zfree, owners, Nat.reduceLT, List.filter_cons, List.filter_nil, List.contains_cons, List.contains_nil, Nat.reduceBEq, Bool.or_false, Bool.or_true, Bool.false_or, Bool.true_or, BEq.rfl, chunk, setAt, List.lookup_cons, List.lookup_nil, ZV.val.injEq, ZV.ptr.injEq, ZV.own.injEq, ZV.fz.injEq, ZV.func.injEq, ZV.tuple.injEq, ZV.agg.injEq, ZB.box.injEq, ZB.grow.injEq, Bool.not_eq_false', Prod.mk.injEq, and_assoc, decide_false, decide_true, Bool.not_false, Bool.not_true, Bool.true_eq_false, Bool.false_eq_true, exists_false, Bool.not_eq_false, Bool.not_not, Value.bool.injEq, Value.int.injEq, Option.some.injEq, exists_eq_left', exists_eq_left, exists_and_left, exists_and_right, and_true, true_and, decide_eq_true_eq, decide_eq_false_iff_not, if_true, if_false, Bool.not_eq_true', beq_true, beq_false, ne_eq, not_true_eq_false, not_false_eq_true, reduceCtorEq, List.getD_cons_zero, List.getD_cons_succ, List.getD_nil, List.map_cons, List.map_nil, List.append_nil, Nat.reduceEqDiff, reduceIte, ite_true, ite_false, or_true, true_or, or_false, false_or, true_imp_iff, false_imp_iff, implies_true, imp_false, and_self, imp_self, and_false, false_and, forall_const, take_map_all, Nat.le_refl, Nat.reduceMul, Nat.reduceSub, List.length_cons, List.length_nil, List.length_map, List.length_set, List.all_cons, List.all_nil, Bool.and_self, Option.map_none, Option.map_some, List.set_cons_zero, List.set_cons_succ, Nat.lt_add_one, List.append_assoc, List.cons_append, List.nil_append, List.append_nil, List.length_append, List.take_zero, List.take_succ_cons, List.take_nil, List.drop_zero, List.drop_succ_cons, List.drop_nil, List.getElem?_cons_zero, List.getElem?_cons_succ, List.getElem?_map, Nat.reduceAdd, Nat.reduceLeDiff, Nat.add_eq_zero_iff, and_self, Nat.zero_add, Nat.add_zero, Nat.mul_one, Nat.one_mul, List.flatten_cons, List.flatten_nil, hrl, at0, at1, at2, st0, st1, st2, L0, L1, L2, *]) | (simp only [zgoO, zgoG, zO_nil, zthen_normal, zgoC]) | (with_reducible apply And.intro) | (with_reducible intro _))
  have FE : Hid (∀ g B0 X, Fin (rdH H i ex l s) (.agg [Z64 a1, Z64 a2, Z64 a3, Z64 a4, Z64 v1, Z64 v2, .fz 2 false (rg.map eP), .own (H.length + 1) g 0 (rRep (rTry l) N s7).1.length false]) (rdH H i ex l (rRep (rTry l) N s7).2 ++ (B0 :: .grow g 2 ((rRep (rTry l) N s7).1.map eP) :: X)) K) := fun g B0 X => fin_rA (j := 7) w rfl pureP rfl HK.out
  clear HK H1 H2 H3 H4 H5 H6
  obtain ⟨A0, hA0⟩ : ∃ A0, A0 = ZB.box [Z64 0, Z64 0, Z64 0, Z64 0, Z64 0, Z64 0, .nil, .nil] := ⟨_, rfl⟩
  rw [← hA0]
  refine zW_whileK [(0, .ptr i 0), (2, .ptr H.length 0), (3, .ptr (H.length + 2) 0)] N (fun m s' h' => ∃ g X, m ≤ N ∧ s' 4 = Z64 (m : Nat) ∧ h' = rdH H i ex l (rRep (rTry l) (N - m) s7).2 ++ (A0 :: .grow g 2 ((rRep (rTry l) (N - m) s7).1.map eP) :: .box [Z64 a1, Z64 a2, Z64 a3, Z64 a4, Z64 v1, Z64 v2, .fz 2 false (rg.map eP), .own (H.length + 1) g 0 (rRep (rTry l) (N - m) s7).1.length false] :: X)) (by repeat' (first | exact trivial | (refine ⟨rfl, ?_⟩) | (refine ⟨by simp only [zupd_at, Nat.reduceEqDiff, reduceIte]; assumption, ?_⟩))) rfl ⟨0, [], Nat.le_refl _, rfl, by rw [Nat.sub_self]; rfl⟩ ?_
  rintro m s' h' ⟨g, X, hmN, f4, rfl⟩ ⟨f0, f2, f3, -⟩
  obtain ⟨q, hq⟩ : ∃ q, q = rRep (rTry l) (N - m) s7 := ⟨_, rfl⟩
  rw [← hq]
  obtain ⟨o, a, b⟩ := q
  have li := w.li
  have ai : ∀ X, (rdH H i ex l (a, b) ++ X)[i]? = some (.box [.fz 1 ex (l.map eU), Z64 a, ZBo b]) := fun X => H_app (rd_at (ex := ex) (s := (a, b)) w) X
  cases m with
  | zero =>
    rw [Nat.sub_zero] at hq
    rw [← hq] at FE
    have fin := FE.out
    have HQ := Lib.hid hq
    have c0 : ¬ (0 : Int) < ((0 : Nat) : Int) := by omega
    subst hA0
    clear hq FE
    repeat' (first | (simp only [zmPack, zfree, owners, Nat.reduceLT, List.filter_cons, List.filter_nil, List.contains_cons, List.contains_nil, Nat.reduceBEq, Bool.or_false, Bool.or_true, Bool.false_or, Bool.true_or, BEq.rfl, chunk, setAt, List.lookup_cons, List.lookup_nil, ZV.val.injEq, ZV.ptr.injEq, ZV.own.injEq, ZV.fz.injEq, ZV.func.injEq, ZV.tuple.injEq, ZV.agg.injEq, ZB.box.injEq, ZB.grow.injEq, Bool.not_eq_false', Prod.mk.injEq, and_assoc, decide_false, decide_true, Bool.not_false, Bool.not_true, Bool.true_eq_false, Bool.false_eq_true, exists_false, Bool.not_eq_false, Bool.not_not, Value.bool.injEq, Value.int.injEq, Option.some.injEq, exists_eq_left', exists_eq_left, exists_and_left, exists_and_right, and_true, true_and, decide_eq_true_eq, decide_eq_false_iff_not, if_true, if_false, Bool.not_eq_true', beq_true, beq_false, ne_eq, not_true_eq_false, not_false_eq_true, reduceCtorEq, List.getD_cons_zero, List.getD_cons_succ, List.getD_nil, List.map_cons, List.map_nil, List.append_nil, Nat.reduceEqDiff, reduceIte, ite_true, ite_false, or_true, true_or, or_false, false_or, true_imp_iff, false_imp_iff, implies_true, imp_false, and_self, imp_self, and_false, false_and, forall_const, take_map_all, Nat.le_refl, Nat.reduceMul, Nat.reduceSub, List.length_cons, List.length_nil, List.length_map, List.length_set, List.all_cons, List.all_nil, Bool.and_self, Option.map_none, Option.map_some, List.set_cons_zero, List.set_cons_succ, Nat.lt_add_one, List.append_assoc, List.cons_append, List.nil_append, List.append_nil, List.length_append, List.take_zero, List.take_succ_cons, List.take_nil, List.drop_zero, List.drop_succ_cons, List.drop_nil, List.getElem?_cons_zero, List.getElem?_cons_succ, List.getElem?_map, Nat.reduceAdd, Nat.reduceLeDiff, Nat.add_eq_zero_iff, and_self, Nat.zero_add, Nat.add_zero, Nat.mul_one, Nat.one_mul, List.flatten_cons, List.flatten_nil, ai, c0, hrl, at0, at1, at2, st0, st1, st2, L0, L1, L2, *]) | (simp only [zgoO, zgoG, zO_nil, zthen_normal, zgoC]) | (with_reducible apply And.intro) | (with_reducible intro _))
  | succ j =>
    have c0 : (0 : Int) < ((j + 1 : Nat) : Int) := by omega
    cases b with
    | true =>
      have hq2 : rRep (rTry l) N s7 = (o, (a, true)) := by rw [rRep_bad (k := N - (j + 1)) (by omega) (by rw [← hq]), ← hq]
      rw [hq2] at FE
      have fin := FE.out
      subst hA0
      clear hq FE hq2
      repeat' (first | (simp only [zmPack, zfree, owners, Nat.reduceLT, List.filter_cons, List.filter_nil, List.contains_cons, List.contains_nil, Nat.reduceBEq, Bool.or_false, Bool.or_true, Bool.false_or, Bool.true_or, BEq.rfl, chunk, setAt, List.lookup_cons, List.lookup_nil, ZV.val.injEq, ZV.ptr.injEq, ZV.own.injEq, ZV.fz.injEq, ZV.func.injEq, ZV.tuple.injEq, ZV.agg.injEq, ZB.box.injEq, ZB.grow.injEq, Bool.not_eq_false', Prod.mk.injEq, and_assoc, decide_false, decide_true, Bool.not_false, Bool.not_true, Bool.true_eq_false, Bool.false_eq_true, exists_false, Bool.not_eq_false, Bool.not_not, Value.bool.injEq, Value.int.injEq, Option.some.injEq, exists_eq_left', exists_eq_left, exists_and_left, exists_and_right, and_true, true_and, decide_eq_true_eq, decide_eq_false_iff_not, if_true, if_false, Bool.not_eq_true', beq_true, beq_false, ne_eq, not_true_eq_false, not_false_eq_true, reduceCtorEq, List.getD_cons_zero, List.getD_cons_succ, List.getD_nil, List.map_cons, List.map_nil, List.append_nil, Nat.reduceEqDiff, reduceIte, ite_true, ite_false, or_true, true_or, or_false, false_or, true_imp_iff, false_imp_iff, implies_true, imp_false, and_self, imp_self, and_false, false_and, forall_const, take_map_all, Nat.le_refl, Nat.reduceMul, Nat.reduceSub, List.length_cons, List.length_nil, List.length_map, List.length_set, List.all_cons, List.all_nil, Bool.and_self, Option.map_none, Option.map_some, List.set_cons_zero, List.set_cons_succ, Nat.lt_add_one, List.append_assoc, List.cons_append, List.nil_append, List.append_nil, List.length_append, List.take_zero, List.take_succ_cons, List.take_nil, List.drop_zero, List.drop_succ_cons, List.drop_nil, List.getElem?_cons_zero, List.getElem?_cons_succ, List.getElem?_map, Nat.reduceAdd, Nat.reduceLeDiff, Nat.add_eq_zero_iff, and_self, Nat.zero_add, Nat.add_zero, Nat.mul_one, Nat.one_mul, List.flatten_cons, List.flatten_nil, ai, c0, hrl, at0, at1, at2, st0, st1, st2, L0, L1, L2, *]) | (simp only [zgoO, zgoG, zO_nil, zthen_normal, zgoC]) | (with_reducible apply And.intro) | (with_reducible intro _))
    | false =>
      have hq2 := rRep_good hq.symm
      rw [show N - (j + 1) + 1 = N - j by omega] at hq2
      have hol : o.length ≤ N - (j + 1) := by have := rRep_len (r := rTry l) (n := N - (j + 1)) (s := s7); rw [← hq] at this; exact this
      have HQ := Lib.hid hq2
      have HM := Lib.hid hmN
      have HA := Lib.hid hA0
      have HO := Lib.hid hol
      clear hq hq2 FE hmN hA0 hol
      have hne : ¬ i = H.length + 2 := by have := w.hi; omega
      have hlt : H.length + 2 < H.length + (X.length + 1 + 1 + 1) := by omega
      repeat' (first | (simp only [zmPack, zfree, owners, Nat.reduceLT, List.filter_cons, List.filter_nil, List.contains_cons, List.contains_nil, Nat.reduceBEq, Bool.or_false, Bool.or_true, Bool.false_or, Bool.true_or, BEq.rfl, chunk, setAt, List.lookup_cons, List.lookup_nil, ZV.val.injEq, ZV.ptr.injEq, ZV.own.injEq, ZV.fz.injEq, ZV.func.injEq, ZV.tuple.injEq, ZV.agg.injEq, ZB.box.injEq, ZB.grow.injEq, Bool.not_eq_false', Prod.mk.injEq, and_assoc, decide_false, decide_true, Bool.not_false, Bool.not_true, Bool.true_eq_false, Bool.false_eq_true, exists_false, Bool.not_eq_false, Bool.not_not, Value.bool.injEq, Value.int.injEq, Option.some.injEq, exists_eq_left', exists_eq_left, exists_and_left, exists_and_right, and_true, true_and, decide_eq_true_eq, decide_eq_false_iff_not, if_true, if_false, Bool.not_eq_true', beq_true, beq_false, ne_eq, not_true_eq_false, not_false_eq_true, reduceCtorEq, List.getD_cons_zero, List.getD_cons_succ, List.getD_nil, List.map_cons, List.map_nil, List.append_nil, Nat.reduceEqDiff, reduceIte, ite_true, ite_false, or_true, true_or, or_false, false_or, true_imp_iff, false_imp_iff, implies_true, imp_false, and_self, imp_self, and_false, false_and, forall_const, take_map_all, Nat.le_refl, Nat.reduceMul, Nat.reduceSub, List.length_cons, List.length_nil, List.length_map, List.length_set, List.all_cons, List.all_nil, Bool.and_self, Option.map_none, Option.map_some, List.set_cons_zero, List.set_cons_succ, Nat.lt_add_one, List.append_assoc, List.cons_append, List.nil_append, List.append_nil, List.length_append, List.take_zero, List.take_succ_cons, List.take_nil, List.drop_zero, List.drop_succ_cons, List.drop_nil, List.getElem?_cons_zero, List.getElem?_cons_succ, List.getElem?_map, Nat.reduceAdd, Nat.reduceLeDiff, Nat.add_eq_zero_iff, and_self, Nat.zero_add, Nat.add_zero, Nat.mul_one, Nat.one_mul, List.flatten_cons, List.flatten_nil, ai, c0, hrl, at0, at1, at2, st0, st1, st2, L0, L1, L2, hne, hlt, *]) | (simp only [zgoO, zgoG, zO_nil, zthen_normal, zgoC]) | (with_reducible apply And.intro) | (with_reducible intro _))
      rw [← rd_app w]
      refine number_z ((w.app _).free (by simp [li, hne])) ?_
      rw [rd_app w]
      obtain ⟨q, hq⟩ : ∃ q, q = rNum l (a, false) := ⟨_, rfl⟩
      have HQ2 : Hid (rRep (rTry l) (N - j) s7 = (o ++ [(q.1, (rNum l q.2).1)], (rNum l q.2).2)) := by rw [hq]; exact HQ
      rw [← hq]
      obtain ⟨n1, s8⟩ := q
      simp only at HQ2 ⊢
      clear hq HQ
      repeat' (first | (simp only [zmPack, zfree, owners, Nat.reduceLT, List.filter_cons, List.filter_nil, List.contains_cons, List.contains_nil, Nat.reduceBEq, Bool.or_false, Bool.or_true, Bool.false_or, Bool.true_or, BEq.rfl, chunk, setAt, List.lookup_cons, List.lookup_nil, ZV.val.injEq, ZV.ptr.injEq, ZV.own.injEq, ZV.fz.injEq, ZV.func.injEq, ZV.tuple.injEq, ZV.agg.injEq, ZB.box.injEq, ZB.grow.injEq, Bool.not_eq_false', Prod.mk.injEq, and_assoc, decide_false, decide_true, Bool.not_false, Bool.not_true, Bool.true_eq_false, Bool.false_eq_true, exists_false, Bool.not_eq_false, Bool.not_not, Value.bool.injEq, Value.int.injEq, Option.some.injEq, exists_eq_left', exists_eq_left, exists_and_left, exists_and_right, and_true, true_and, decide_eq_true_eq, decide_eq_false_iff_not, if_true, if_false, Bool.not_eq_true', beq_true, beq_false, ne_eq, not_true_eq_false, not_false_eq_true, reduceCtorEq, List.getD_cons_zero, List.getD_cons_succ, List.getD_nil, List.map_cons, List.map_nil, List.append_nil, Nat.reduceEqDiff, reduceIte, ite_true, ite_false, or_true, true_or, or_false, false_or, true_imp_iff, false_imp_iff, implies_true, imp_false, and_self, imp_self, and_false, false_and, forall_const, take_map_all, Nat.le_refl, Nat.reduceMul, Nat.reduceSub, List.length_cons, List.length_nil, List.length_map, List.length_set, List.all_cons, List.all_nil, Bool.and_self, Option.map_none, Option.map_some, List.set_cons_zero, List.set_cons_succ, Nat.lt_add_one, List.append_assoc, List.cons_append, List.nil_append, List.append_nil, List.length_append, List.take_zero, List.take_succ_cons, List.take_nil, List.drop_zero, List.drop_succ_cons, List.drop_nil, List.getElem?_cons_zero, List.getElem?_cons_succ, List.getElem?_map, Nat.reduceAdd, Nat.reduceLeDiff, Nat.add_eq_zero_iff, and_self, Nat.zero_add, Nat.add_zero, Nat.mul_one, Nat.one_mul, List.flatten_cons, List.flatten_nil, c0, hrl, at0, at1, at2, st0, st1, st2, L0, L1, L2, hne, hlt, *]) | (simp only [zgoO, zgoG, zO_nil, zthen_normal, zgoC]) | (with_reducible apply And.intro) | (with_reducible intro _))
      rw [← rd_app w]
      refine number_z ((w.app _).free (by simp [li, hne])) ?_
      rw [rd_app w]
      obtain ⟨q, hq⟩ : ∃ q, q = rNum l s8 := ⟨_, rfl⟩
      rw [← hq] at HQ2
      rw [← hq]
      obtain ⟨n2, s9⟩ := q
      simp only at HQ2 ⊢
      clear hq
      have hr : (o.length + 1) * 16 ≤ reach := by have := HO.out; have := HR2.out; unfold reach; omega
      have hw : IntKind.i64.wrap (((j + 1 : Nat) : Int) - 1) = (j : Int) := by have := HM.out; have := HR2.out; rw [IntWalk.i64_in _ (by omega)]; omega
      repeat' (first | (simp only [zmPack, zfree, owners, Nat.reduceLT, List.filter_cons, List.filter_nil, List.contains_cons, List.contains_nil, Nat.reduceBEq, Bool.or_false, Bool.or_true, Bool.false_or, Bool.true_or, BEq.rfl, chunk, setAt, List.lookup_cons, List.lookup_nil, ZV.val.injEq, ZV.ptr.injEq, ZV.own.injEq, ZV.fz.injEq, ZV.func.injEq, ZV.tuple.injEq, ZV.agg.injEq, ZB.box.injEq, ZB.grow.injEq, Bool.not_eq_false', Prod.mk.injEq, and_assoc, decide_false, decide_true, Bool.not_false, Bool.not_true, Bool.true_eq_false, Bool.false_eq_true, exists_false, Bool.not_eq_false, Bool.not_not, Value.bool.injEq, Value.int.injEq, Option.some.injEq, exists_eq_left', exists_eq_left, exists_and_left, exists_and_right, and_true, true_and, decide_eq_true_eq, decide_eq_false_iff_not, if_true, if_false, Bool.not_eq_true', beq_true, beq_false, ne_eq, not_true_eq_false, not_false_eq_true, reduceCtorEq, List.getD_cons_zero, List.getD_cons_succ, List.getD_nil, List.map_cons, List.map_nil, List.append_nil, Nat.reduceEqDiff, reduceIte, ite_true, ite_false, or_true, true_or, or_false, false_or, true_imp_iff, false_imp_iff, implies_true, imp_false, and_self, imp_self, and_false, false_and, forall_const, take_map_all, Nat.le_refl, Nat.reduceMul, Nat.reduceSub, List.length_cons, List.length_nil, List.length_map, List.length_set, List.all_cons, List.all_nil, Bool.and_self, Option.map_none, Option.map_some, List.set_cons_zero, List.set_cons_succ, Nat.lt_add_one, List.append_assoc, List.cons_append, List.nil_append, List.append_nil, List.length_append, List.take_zero, List.take_succ_cons, List.take_nil, List.drop_zero, List.drop_succ_cons, List.drop_nil, List.getElem?_cons_zero, List.getElem?_cons_succ, List.getElem?_map, Nat.reduceAdd, Nat.reduceLeDiff, Nat.add_eq_zero_iff, and_self, Nat.zero_add, Nat.add_zero, Nat.mul_one, Nat.one_mul, List.flatten_cons, List.flatten_nil, c0, hrl, at0, at1, at2, st0, st1, st2, L0, L1, L2, hne, hlt, hr, hw, *]) | (simp only [zgoO, zgoG, zO_nil, zthen_normal, zgoC]) | (with_reducible apply And.intro) | (with_reducible intro _))
      have hm := HM.out
      exact ⟨j, by omega, by omega, rfl, g + 1, X, by rw [HQ2.out, List.map_append, List.length_append]; rfl⟩
end
end Go.Proofs.Ytpmmiaadfnildaa

namespace Go.Proofs.Ytpmmiaadfnildaa
open Go Go.RowKit
set_option linter.unusedVariables false
set_option linter.unusedSimpArgs false
theorem Fin.truncT {H0 : ZH} {zs : List ZV} {H' : ZH} {K : ZV → ZH → Prop} (hm : Mods H0 H') (hz : zs.all (refs H0.length) = true) (k : K (.tuple zs) (H'.take H0.length)) : Fin H0 (.tuple zs) H' K := fun fl L w w' a r e r' e' he hzz => by
  subst e; subst he
  obtain ⟨r2, e2⟩ := trunc_w r r' e' hm
  obtain ⟨ys, rfl, hys⟩ := hzz.tuple_inv
  exact ⟨.tuple zs, truncW w' w.H.length, rfl, r2, e2, ZRs.toTuple ⟨hys.1, fun i z b h1 h2 => (hys.2 i z b h1 h2).ren (trunc_ren e'.Hl) (List.all_eq_true.1 hz z (List.mem_of_getElem? h1))⟩, k⟩
def rCell (l : List Int) (s : RS) : Cl × RS :=
  (((rNum l s).1, (rNum l (rNum l s).2).1, (rVals (mostI (rNum l s).1) l (rNum l (rNum l s).2).2).1, (rList (rFrame l) 30 l (rVals (mostI (rNum l s).1) l (rNum l (rNum l s).2).2).2).1), (rList (rFrame l) 30 l (rVals (mostI (rNum l s).1) l (rNum l (rNum l s).2).2).2).2)
theorem most_le {k : Int} : 0 ≤ mostI k ∧ mostI k ≤ 1000000 := by unfold mostI; split <;> omega
section
variable {tb : List (FuncId × Bool)} {L : Nat → Bool} {H : ZH} {K : ZV → ZH → Prop} {i : Nat} {ex : Bool} {l : List Int} {s : RS}
set_option maxHeartbeats 4000000 in
theorem rcell_z (w : ROk H L i l) (hL : ∀ k, L (H.length + k) = true) (hK : K (.agg (eC (rCell l s).1)) (rdH H i ex l (rCell l s).2)) :
    ZC (boxX tb) (cFunc Try.prog) 35 [.ptr i 0] L (rdH H i ex l s) K := by
  refine ZC.enter ⟨[(9, [(3, 8)])], [], []⟩ (boxX_none (by decide)) f_wo_rcell (by simp) ?_
  simp only [c_wo_rcell]
  unfold rCell at hK
  obtain ⟨q1, h1⟩ : ∃ q, q = rNum l s := ⟨_, rfl⟩
  rw [← h1] at hK
  obtain ⟨q2, h2⟩ : ∃ q, q = rNum l q1.2 := ⟨_, rfl⟩
  rw [← h2] at hK
  obtain ⟨q3, h3⟩ : ∃ q, q = rVals (mostI q1.1) l q2.2 := ⟨_, rfl⟩
  rw [← h3] at hK
  have H1 := Lib.hid h1
  have H2 := Lib.hid h2
  have H3 := Lib.hid h3
  have HK := Lib.hid hK
  clear h1 h2 h3 hK
  have hrl : ∀ s, (rdH H i ex l s).length = H.length := fun s => rd_len
  repeat' (first | (simp only [zmPack, zfree, owners, Nat.reduceLT, List.filter_cons, List.filter_nil, List.contains_cons, List.contains_nil, Nat.reduceBEq, Bool.or_false, Bool.or_true, Bool.false_or, Bool.true_or, BEq.rfl, chunk, setAt, List.lookup_cons, List.lookup_nil, ZV.val.injEq, ZV.ptr.injEq, ZV.own.injEq, ZV.fz.injEq, ZV.func.injEq, ZV.tuple.injEq, ZV.agg.injEq, ZB.box.injEq, ZB.grow.injEq, Bool.not_eq_false', Prod.mk.injEq, and_assoc, decide_false, decide_true, Bool.not_false, Bool.not_true, Bool.true_eq_false, Bool.false_eq_true, exists_false, Bool.not_eq_false, Bool.not_not, Value.bool.injEq, Value.int.injEq, Option.some.injEq, exists_eq_left', exists_eq_left, exists_and_left, exists_and_right, and_true, true_and, decide_eq_true_eq, decide_eq_false_iff_not, if_true, if_false, Bool.not_eq_true', beq_true, beq_false, ne_eq, not_true_eq_false, not_false_eq_true, reduceCtorEq, List.getD_cons_zero, List.getD_cons_succ, List.getD_nil, List.map_cons, List.map_nil, List.append_nil, Nat.reduceEqDiff, reduceIte, ite_true, ite_false, or_true, true_or, or_false, false_or, true_imp_iff, false_imp_iff, implies_true, imp_false, and_self, imp_self, and_false, false_and, forall_const, take_map_all, Nat.le_refl, Nat.reduceMul, Nat.reduceSub, List.length_cons, List.length_nil, List.length_map, List.length_set, List.all_cons, List.all_nil, Bool.and_self, Option.map_none, Option.map_some, List.set_cons_zero, List.set_cons_succ, Nat.lt_add_one, List.append_assoc, List.cons_append, List.nil_append, List.append_nil, List.length_append, List.take_zero, List.take_succ_cons, List.take_nil, List.drop_zero, List.drop_succ_cons, List.drop_nil, List.getElem?_cons_zero, List.getElem?_cons_succ, List.getElem?_map, Nat.reduceAdd, Nat.reduceLeDiff, Nat.add_eq_zero_iff, and_self, Nat.zero_add, Nat.add_zero, Nat.mul_one, Nat.one_mul, List.flatten_cons, List.flatten_nil, hrl, *]) | (simp only [zgoO, zgoG, zO_nil, zthen_normal, zgoC]) | (with_reducible apply And.intro) | (with_reducible intro _))
  rw [← rd_app w]
  refine number_z (w.app _) ?_
  rw [rd_app w, ← H1.out]
  repeat' (first | (simp only [zmPack, zfree, owners, Nat.reduceLT, List.filter_cons, List.filter_nil, List.contains_cons, List.contains_nil, Nat.reduceBEq, Bool.or_false, Bool.or_true, Bool.false_or, Bool.true_or, BEq.rfl, chunk, setAt, List.lookup_cons, List.lookup_nil, ZV.val.injEq, ZV.ptr.injEq, ZV.own.injEq, ZV.fz.injEq, ZV.func.injEq, ZV.tuple.injEq, ZV.agg.injEq, ZB.box.injEq, ZB.grow.injEq, Bool.not_eq_false', Prod.mk.injEq, and_assoc, decide_false, decide_true, Bool.not_false, Bool.not_true, Bool.true_eq_false, Bool.false_eq_true, exists_false, Bool.not_eq_false, Bool.not_not, Value.bool.injEq, Value.int.injEq, Option.some.injEq, exists_eq_left', exists_eq_left, exists_and_left, exists_and_right, and_true, true_and, decide_eq_true_eq, decide_eq_false_iff_not, if_true, if_false, Bool.not_eq_true', beq_true, beq_false, ne_eq, not_true_eq_false, not_false_eq_true, reduceCtorEq, List.getD_cons_zero, List.getD_cons_succ, List.getD_nil, List.map_cons, List.map_nil, List.append_nil, Nat.reduceEqDiff, reduceIte, ite_true, ite_false, or_true, true_or, or_false, false_or, true_imp_iff, false_imp_iff, implies_true, imp_false, and_self, imp_self, and_false, false_and, forall_const, take_map_all, Nat.le_refl, Nat.reduceMul, Nat.reduceSub, List.length_cons, List.length_nil, List.length_map, List.length_set, List.all_cons, List.all_nil, Bool.and_self, Option.map_none, Option.map_some, List.set_cons_zero, List.set_cons_succ, Nat.lt_add_one, List.append_assoc, List.cons_append, List.nil_append, List.append_nil, List.length_append, List.take_zero, List.take_succ_cons, List.take_nil, List.drop_zero, List.drop_succ_cons, List.drop_nil, List.getElem?_cons_zero, List.getElem?_cons_succ, List.getElem?_map, Nat.reduceAdd, Nat.reduceLeDiff, Nat.add_eq_zero_iff, and_self, Nat.zero_add, Nat.add_zero, Nat.mul_one, Nat.one_mul, List.flatten_cons, List.flatten_nil, hrl, *]) | (simp only [zgoO, zgoG, zO_nil, zthen_normal, zgoC]) | (with_reducible apply And.intro) | (with_reducible intro _))
  rw [← rd_app w]
  refine number_z (w.app _) ?_
  rw [rd_app w, ← H2.out]
  obtain ⟨a1, s1⟩ := q1
  obtain ⟨a2, s2⟩ := q2
  obtain ⟨vs, s3⟩ := q3
  have at0 : ∀ s A X, (rdH H i ex l s ++ (A :: X))[H.length]? = some A := fun s => atN0 (hrl s)
  have at1 : ∀ s A B X, (rdH H i ex l s ++ (A :: B :: X))[H.length + 1]? = some B := fun s => atN1 (hrl s)
  have at2 : ∀ s A B C X, (rdH H i ex l s ++ (A :: B :: C :: X))[H.length + 2]? = some C := fun s => atN2 (hrl s)
  have st0 : ∀ s A C X, (rdH H i ex l s ++ (A :: X)).set H.length C = rdH H i ex l s ++ (C :: X) := fun s => stN0 (hrl s)
  have st1 : ∀ s A B C X, (rdH H i ex l s ++ (A :: B :: X)).set (H.length + 1) C = rdH H i ex l s ++ (A :: C :: X) := fun s => stN1 (hrl s)
  have st2 : ∀ s A B D C X, (rdH H i ex l s ++ (A :: B :: D :: X)).set (H.length + 2) C = rdH H i ex l s ++ (A :: B :: C :: X) := fun s => stN2 (hrl s)
  have L0 : L H.length = true := hL 0
  have L1 : L (H.length + 1) = true := hL 1
  have L2 : L (H.length + 2) = true := hL 2
  simp only at H2 H3 HK ⊢
  repeat' (first | (simp only [zmPack, zfree, owners, Nat.reduceLT, List.filter_cons, List.filter_nil, List.contains_cons, List.contains_nil, Nat.reduceBEq, Bool.or_false, Bool.or_true, Bool.false_or, Bool.true_or, BEq.rfl, chunk, setAt, List.lookup_cons, List.lookup_nil, ZV.val.injEq, ZV.ptr.injEq, ZV.own.injEq, ZV.fz.injEq, ZV.func.injEq, ZV.tuple.injEq, ZV.agg.injEq, ZB.box.injEq, ZB.grow.injEq, Bool.not_eq_false', Prod.mk.injEq, and_assoc, decide_false, decide_true, Bool.not_false, Bool.not_true, Bool.true_eq_false, Bool.false_eq_true, exists_false, Bool.not_eq_false, Bool.not_not, Value.bool.injEq, Value.int.injEq, Option.some.injEq, exists_eq_left', exists_eq_left, exists_and_left, exists_and_right, and_true, true_and, decide_eq_true_eq, decide_eq_false_iff_not, if_true, if_false, Bool.not_eq_true', beq_true, beq_false, ne_eq, not_true_eq_false, not_false_eq_true, reduceCtorEq, List.getD_cons_zero, List.getD_cons_succ, List.getD_nil, List.map_cons, List.map_nil, List.append_nil, Nat.reduceEqDiff, reduceIte, ite_true, ite_false, or_true, true_or, or_false, false_or, true_imp_iff, false_imp_iff, implies_true, imp_false, and_self, imp_self, and_false, false_and, forall_const, take_map_all, Nat.le_refl, Nat.reduceMul, Nat.reduceSub, List.length_cons, List.length_nil, List.length_map, List.length_set, List.all_cons, List.all_nil, Bool.and_self, Option.map_none, Option.map_some, List.set_cons_zero, List.set_cons_succ, Nat.lt_add_one, List.append_assoc, List.cons_append, List.nil_append, List.append_nil, List.length_append, List.take_zero, List.take_succ_cons, List.take_nil, List.drop_zero, List.drop_succ_cons, List.drop_nil, List.getElem?_cons_zero, List.getElem?_cons_succ, List.getElem?_map, Nat.reduceAdd, Nat.reduceLeDiff, Nat.add_eq_zero_iff, and_self, Nat.zero_add, Nat.add_zero, Nat.mul_one, Nat.one_mul, List.flatten_cons, List.flatten_nil, hrl, at0, at1, at2, st0, st1, st2, L0, L1, L2, *]) | (simp only [zgoO, zgoG, zO_nil, zthen_normal, zgoC]) | (with_reducible apply And.intro) | (with_reducible intro _))
  refine most_z ?_
  repeat' (first | (simp only [zmPack, zfree, owners, Nat.reduceLT, List.filter_cons, List.filter_nil, List.contains_cons, List.contains_nil, Nat.reduceBEq, Bool.or_false, Bool.or_true, Bool.false_or, Bool.true_or, BEq.rfl, chunk, setAt, List.lookup_cons, List.lookup_nil, ZV.val.injEq, ZV.ptr.injEq, ZV.own.injEq, ZV.fz.injEq, ZV.func.injEq, ZV.tuple.injEq, ZV.agg.injEq, ZB.box.injEq, ZB.grow.injEq, Bool.not_eq_false', Prod.mk.injEq, and_assoc, decide_false, decide_true, Bool.not_false, Bool.not_true, Bool.true_eq_false, Bool.false_eq_true, exists_false, Bool.not_eq_false, Bool.not_not, Value.bool.injEq, Value.int.injEq, Option.some.injEq, exists_eq_left', exists_eq_left, exists_and_left, exists_and_right, and_true, true_and, decide_eq_true_eq, decide_eq_false_iff_not, if_true, if_false, Bool.not_eq_true', beq_true, beq_false, ne_eq, not_true_eq_false, not_false_eq_true, reduceCtorEq, List.getD_cons_zero, List.getD_cons_succ, List.getD_nil, List.map_cons, List.map_nil, List.append_nil, Nat.reduceEqDiff, reduceIte, ite_true, ite_false, or_true, true_or, or_false, false_or, true_imp_iff, false_imp_iff, implies_true, imp_false, and_self, imp_self, and_false, false_and, forall_const, take_map_all, Nat.le_refl, Nat.reduceMul, Nat.reduceSub, List.length_cons, List.length_nil, List.length_map, List.length_set, List.all_cons, List.all_nil, Bool.and_self, Option.map_none, Option.map_some, List.set_cons_zero, List.set_cons_succ, Nat.lt_add_one, List.append_assoc, List.cons_append, List.nil_append, List.append_nil, List.length_append, List.take_zero, List.take_succ_cons, List.take_nil, List.drop_zero, List.drop_succ_cons, List.drop_nil, List.getElem?_cons_zero, List.getElem?_cons_succ, List.getElem?_map, Nat.reduceAdd, Nat.reduceLeDiff, Nat.add_eq_zero_iff, and_self, Nat.zero_add, Nat.add_zero, Nat.mul_one, Nat.one_mul, List.flatten_cons, List.flatten_nil, hrl, at0, at1, at2, st0, st1, st2, L0, L1, L2, *]) | (simp only [zgoO, zgoG, zO_nil, zthen_normal, zgoC]) | (with_reducible apply And.intro) | (with_reducible intro _))
  rw [← rd_app w]
  refine rvalues_z (w.app _) (fun k => by rw [List.length_append, Nat.add_assoc]; exact hL _) most_le ?_
  rw [rd_app w, ← H3.out]
  simp only
  repeat' (first | (simp only [zmPack, zfree, owners, Nat.reduceLT, List.filter_cons, List.filter_nil, List.contains_cons, List.contains_nil, Nat.reduceBEq, Bool.or_false, Bool.or_true, Bool.false_or, Bool.true_or, BEq.rfl, chunk, setAt, List.lookup_cons, List.lookup_nil, ZV.val.injEq, ZV.ptr.injEq, ZV.own.injEq, ZV.fz.injEq, ZV.func.injEq, ZV.tuple.injEq, ZV.agg.injEq, ZB.box.injEq, ZB.grow.injEq, Bool.not_eq_false', Prod.mk.injEq, and_assoc, decide_false, decide_true, Bool.not_false, Bool.not_true, Bool.true_eq_false, Bool.false_eq_true, exists_false, Bool.not_eq_false, Bool.not_not, Value.bool.injEq, Value.int.injEq, Option.some.injEq, exists_eq_left', exists_eq_left, exists_and_left, exists_and_right, and_true, true_and, decide_eq_true_eq, decide_eq_false_iff_not, if_true, if_false, Bool.not_eq_true', beq_true, beq_false, ne_eq, not_true_eq_false, not_false_eq_true, reduceCtorEq, List.getD_cons_zero, List.getD_cons_succ, List.getD_nil, List.map_cons, List.map_nil, List.append_nil, Nat.reduceEqDiff, reduceIte, ite_true, ite_false, or_true, true_or, or_false, false_or, true_imp_iff, false_imp_iff, implies_true, imp_false, and_self, imp_self, and_false, false_and, forall_const, take_map_all, Nat.le_refl, Nat.reduceMul, Nat.reduceSub, List.length_cons, List.length_nil, List.length_map, List.length_set, List.all_cons, List.all_nil, Bool.and_self, Option.map_none, Option.map_some, List.set_cons_zero, List.set_cons_succ, Nat.lt_add_one, List.append_assoc, List.cons_append, List.nil_append, List.append_nil, List.length_append, List.take_zero, List.take_succ_cons, List.take_nil, List.drop_zero, List.drop_succ_cons, List.drop_nil, List.getElem?_cons_zero, List.getElem?_cons_succ, List.getElem?_map, Nat.reduceAdd, Nat.reduceLeDiff, Nat.add_eq_zero_iff, and_self, Nat.zero_add, Nat.add_zero, Nat.mul_one, Nat.one_mul, List.flatten_cons, List.flatten_nil, hrl, at0, at1, at2, st0, st1, st2, L0, L1, L2, *]) | (simp only [zgoO, zgoG, zO_nil, zthen_normal, zgoC]) | (with_reducible apply And.intro) | (with_reducible intro _))
  obtain ⟨r1, r2⟩ := rMany_ok (m := 30) (l := l) (s := s3) (by omega)
  unfold rList at HK
  obtain ⟨N, hN⟩ : ∃ N, N = (rMany 30 l s3).1.toNat := ⟨_, rfl⟩
  obtain ⟨s7, hs7⟩ : ∃ s7, s7 = (rMany 30 l s3).2 := ⟨_, rfl⟩
  rw [← hN, ← hs7] at HK
  rw [← hN] at r1 r2
  rw [← rd_app w]
  refine many_z (w.app _) ?_
  rw [rd_app w, r1, ← hs7]
  have HR2 := Lib.hid r2
  clear hs7 r1 r2 hN
  repeat' (first | (simp only [zmPack, zfree, owners, Nat.reduceLT, List.filter_cons, List.filter_nil, List.contains_cons, List.contains_nil, Nat.reduceBEq, Bool.or_false, Bool.or_true, Bool.false_or, Bool.true_or, BEq.rfl, chunk, setAt, List.lookup_cons, List.lookup_nil, ZV.val.injEq, ZV.ptr.injEq, ZV.own.injEq, ZV.fz.injEq, ZV.func.injEq, ZV.tuple.injEq, ZV.agg.injEq, ZB.box.injEq, ZB.grow.injEq, Bool.not_eq_false', Prod.mk.injEq, and_assoc, decide_false, decide_true, Bool.not_false, Bool.not_true, Bool.true_eq_false, Bool.false_eq_true, exists_false, Bool.not_eq_false, Bool.not_not, Value.bool.injEq, Value.int.injEq, Option.some.injEq, exists_eq_left', exists_eq_left, exists_and_left, exists_and_right, and_true, true_and, decide_eq_true_eq, decide_eq_false_iff_not, if_true, if_false, Bool.not_eq_true', beq_true, beq_false, ne_eq, not_true_eq_false, not_false_eq_true, reduceCtorEq, List.getD_cons_zero, List.getD_cons_succ, List.getD_nil, List.map_cons, List.map_nil, List.append_nil, Nat.reduceEqDiff, reduceIte, ite_true, ite_false, or_true, true_or, or_false, false_or, true_imp_iff, false_imp_iff, implies_true, imp_false, and_self, imp_self, and_false, false_and, forall_const, take_map_all, Nat.le_refl, Nat.reduceMul, Nat.reduceSub, List.length_cons, List.length_nil, List.length_map, List.length_set, List.all_cons, List.all_nil, Bool.and_self, Option.map_none, Option.map_some, List.set_cons_zero, List.set_cons_succ, Nat.lt_add_one, List.append_assoc, List.cons_append, List.nil_append, List.append_nil, List.length_append, List.take_zero, List.take_succ_cons, List.take_nil, List.drop_zero, List.drop_succ_cons, List.drop_nil, List.getElem?_cons_zero, List.getElem?_cons_succ, List.getElem?_map, Nat.reduceAdd, Nat.reduceLeDiff, Nat.add_eq_zero_iff, and_self, Nat.zero_add, Nat.add_zero, Nat.mul_one, Nat.one_mul, List.flatten_cons, List.flatten_nil, hrl, at0, at1, at2, st0, st1, st2, L0, L1, L2, *]) | (simp only [zgoO, zgoG, zO_nil, zthen_normal, zgoC]) | (with_reducible apply And.intro) | (with_reducible intro _))
  have FE : Hid (∀ g B0 X, Fin (rdH H i ex l s) (.agg [Z64 a1, Z64 a2, .fz 2 false (vs.map eP), .own (H.length + 1) g 0 (rRep (rFrame l) N s7).1.length false]) (rdH H i ex l (rRep (rFrame l) N s7).2 ++ (B0 :: .grow g 8 ((rRep (rFrame l) N s7).1.map eF) :: X)) K) := fun g B0 X => fin_rA (j := 3) w rfl pureF rfl HK.out
  clear HK H1 H2 H3
  obtain ⟨A0, hA0⟩ : ∃ A0, A0 = ZB.box [Z64 0, Z64 0, .nil, .nil] := ⟨_, rfl⟩
  rw [← hA0]
  refine zW_whileK [(0, .ptr i 0), (2, .ptr H.length 0), (3, .ptr (H.length + 2) 0)] N (fun m s' h' => ∃ g X, m ≤ N ∧ s' 4 = Z64 (m : Nat) ∧ h' = rdH H i ex l (rRep (rFrame l) (N - m) s7).2 ++ (A0 :: .grow g 8 ((rRep (rFrame l) (N - m) s7).1.map eF) :: .box [Z64 a1, Z64 a2, .fz 2 false (vs.map eP), .own (H.length + 1) g 0 (rRep (rFrame l) (N - m) s7).1.length false] :: X)) (by repeat' (first | exact trivial | (refine ⟨rfl, ?_⟩) | (refine ⟨by simp only [zupd_at, Nat.reduceEqDiff, reduceIte]; assumption, ?_⟩))) rfl ⟨0, [], Nat.le_refl _, rfl, by rw [Nat.sub_self]; rfl⟩ ?_
  rintro m s' h' ⟨g, X, hmN, f4, rfl⟩ ⟨f0, f2, f3, -⟩
  obtain ⟨q, hq⟩ : ∃ q, q = rRep (rFrame l) (N - m) s7 := ⟨_, rfl⟩
  rw [← hq]
  obtain ⟨o, a, b⟩ := q
  have li := w.li
  have ai : ∀ X, (rdH H i ex l (a, b) ++ X)[i]? = some (.box [.fz 1 ex (l.map eU), Z64 a, ZBo b]) := fun X => H_app (rd_at (ex := ex) (s := (a, b)) w) X
  cases m with
  | zero =>
    rw [Nat.sub_zero] at hq
    rw [← hq] at FE
    have fin := FE.out
    have HQ := Lib.hid hq
    have c0 : ¬ (0 : Int) < ((0 : Nat) : Int) := by omega
    subst hA0
    clear hq FE
    repeat' (first | (simp only [zmPack, zfree, owners, Nat.reduceLT, List.filter_cons, List.filter_nil, List.contains_cons, List.contains_nil, Nat.reduceBEq, Bool.or_false, Bool.or_true, Bool.false_or, Bool.true_or, BEq.rfl, chunk, setAt, List.lookup_cons, List.lookup_nil, ZV.val.injEq, ZV.ptr.injEq, ZV.own.injEq, ZV.fz.injEq, ZV.func.injEq, ZV.tuple.injEq, ZV.agg.injEq, ZB.box.injEq, ZB.grow.injEq, Bool.not_eq_false', Prod.mk.injEq, and_assoc, decide_false, decide_true, Bool.not_false, Bool.not_true, Bool.true_eq_false, Bool.false_eq_true, exists_false, Bool.not_eq_false, Bool.not_not, Value.bool.injEq, Value.int.injEq, Option.some.injEq, exists_eq_left', exists_eq_left, exists_and_left, exists_and_right, and_true, true_and, decide_eq_true_eq, decide_eq_false_iff_not, if_true, if_false, Bool.not_eq_true', beq_true, beq_false, ne_eq, not_true_eq_false, not_false_eq_true, reduceCtorEq, List.getD_cons_zero, List.getD_cons_succ, List.getD_nil, List.map_cons, List.map_nil, List.append_nil, Nat.reduceEqDiff, reduceIte, ite_true, ite_false, or_true, true_or, or_false, false_or, true_imp_iff, false_imp_iff, implies_true, imp_false, and_self, imp_self, and_false, false_and, forall_const, take_map_all, Nat.le_refl, Nat.reduceMul, Nat.reduceSub, List.length_cons, List.length_nil, List.length_map, List.length_set, List.all_cons, List.all_nil, Bool.and_self, Option.map_none, Option.map_some, List.set_cons_zero, List.set_cons_succ, Nat.lt_add_one, List.append_assoc, List.cons_append, List.nil_append, List.append_nil, List.length_append, List.take_zero, List.take_succ_cons, List.take_nil, List.drop_zero, List.drop_succ_cons, List.drop_nil, List.getElem?_cons_zero, List.getElem?_cons_succ, List.getElem?_map, Nat.reduceAdd, Nat.reduceLeDiff, Nat.add_eq_zero_iff, and_self, Nat.zero_add, Nat.add_zero, Nat.mul_one, Nat.one_mul, List.flatten_cons, List.flatten_nil, ai, c0, hrl, at0, at1, at2, st0, st1, st2, L0, L1, L2, *]) | (simp only [zgoO, zgoG, zO_nil, zthen_normal, zgoC]) | (with_reducible apply And.intro) | (with_reducible intro _))
  | succ j =>
    have c0 : (0 : Int) < ((j + 1 : Nat) : Int) := by omega
    cases b with
    | true =>
      have hq2 : rRep (rFrame l) N s7 = (o, (a, true)) := by rw [rRep_bad (k := N - (j + 1)) (by omega) (by rw [← hq]), ← hq]
      rw [hq2] at FE
      have fin := FE.out
      subst hA0
      clear hq FE hq2
      repeat' (first | (simp only [zmPack, zfree, owners, Nat.reduceLT, List.filter_cons, List.filter_nil, List.contains_cons, List.contains_nil, Nat.reduceBEq, Bool.or_false, Bool.or_true, Bool.false_or, Bool.true_or, BEq.rfl, chunk, setAt, List.lookup_cons, List.lookup_nil, ZV.val.injEq, ZV.ptr.injEq, ZV.own.injEq, ZV.fz.injEq, ZV.func.injEq, ZV.tuple.injEq, ZV.agg.injEq, ZB.box.injEq, ZB.grow.injEq, Bool.not_eq_false', Prod.mk.injEq, and_assoc, decide_false, decide_true, Bool.not_false, Bool.not_true, Bool.true_eq_false, Bool.false_eq_true, exists_false, Bool.not_eq_false, Bool.not_not, Value.bool.injEq, Value.int.injEq, Option.some.injEq, exists_eq_left', exists_eq_left, exists_and_left, exists_and_right, and_true, true_and, decide_eq_true_eq, decide_eq_false_iff_not, if_true, if_false, Bool.not_eq_true', beq_true, beq_false, ne_eq, not_true_eq_false, not_false_eq_true, reduceCtorEq, List.getD_cons_zero, List.getD_cons_succ, List.getD_nil, List.map_cons, List.map_nil, List.append_nil, Nat.reduceEqDiff, reduceIte, ite_true, ite_false, or_true, true_or, or_false, false_or, true_imp_iff, false_imp_iff, implies_true, imp_false, and_self, imp_self, and_false, false_and, forall_const, take_map_all, Nat.le_refl, Nat.reduceMul, Nat.reduceSub, List.length_cons, List.length_nil, List.length_map, List.length_set, List.all_cons, List.all_nil, Bool.and_self, Option.map_none, Option.map_some, List.set_cons_zero, List.set_cons_succ, Nat.lt_add_one, List.append_assoc, List.cons_append, List.nil_append, List.append_nil, List.length_append, List.take_zero, List.take_succ_cons, List.take_nil, List.drop_zero, List.drop_succ_cons, List.drop_nil, List.getElem?_cons_zero, List.getElem?_cons_succ, List.getElem?_map, Nat.reduceAdd, Nat.reduceLeDiff, Nat.add_eq_zero_iff, and_self, Nat.zero_add, Nat.add_zero, Nat.mul_one, Nat.one_mul, List.flatten_cons, List.flatten_nil, ai, c0, hrl, at0, at1, at2, st0, st1, st2, L0, L1, L2, *]) | (simp only [zgoO, zgoG, zO_nil, zthen_normal, zgoC]) | (with_reducible apply And.intro) | (with_reducible intro _))
    | false =>
      have hq2 := rRep_good hq.symm
      rw [show N - (j + 1) + 1 = N - j by omega] at hq2
      have hol : o.length ≤ N - (j + 1) := by have := rRep_len (r := rFrame l) (n := N - (j + 1)) (s := s7); rw [← hq] at this; exact this
      have HQ := Lib.hid hq2
      have HM := Lib.hid hmN
      have HA := Lib.hid hA0
      have HO := Lib.hid hol
      clear hq hq2 FE hmN hA0 hol
      have hne : ¬ i = H.length + 2 := by have := w.hi; omega
      have hlt : H.length + 2 < H.length + (X.length + 1 + 1 + 1) := by omega
      repeat' (first | (simp only [zmPack, zfree, owners, Nat.reduceLT, List.filter_cons, List.filter_nil, List.contains_cons, List.contains_nil, Nat.reduceBEq, Bool.or_false, Bool.or_true, Bool.false_or, Bool.true_or, BEq.rfl, chunk, setAt, List.lookup_cons, List.lookup_nil, ZV.val.injEq, ZV.ptr.injEq, ZV.own.injEq, ZV.fz.injEq, ZV.func.injEq, ZV.tuple.injEq, ZV.agg.injEq, ZB.box.injEq, ZB.grow.injEq, Bool.not_eq_false', Prod.mk.injEq, and_assoc, decide_false, decide_true, Bool.not_false, Bool.not_true, Bool.true_eq_false, Bool.false_eq_true, exists_false, Bool.not_eq_false, Bool.not_not, Value.bool.injEq, Value.int.injEq, Option.some.injEq, exists_eq_left', exists_eq_left, exists_and_left, exists_and_right, and_true, true_and, decide_eq_true_eq, decide_eq_false_iff_not, if_true, if_false, Bool.not_eq_true', beq_true, beq_false, ne_eq, not_true_eq_false, not_false_eq_true, reduceCtorEq, List.getD_cons_zero, List.getD_cons_succ, List.getD_nil, List.map_cons, List.map_nil, List.append_nil, Nat.reduceEqDiff, reduceIte, ite_true, ite_false, or_true, true_or, or_false, false_or, true_imp_iff, false_imp_iff, implies_true, imp_false, and_self, imp_self, and_false, false_and, forall_const, take_map_all, Nat.le_refl, Nat.reduceMul, Nat.reduceSub, List.length_cons, List.length_nil, List.length_map, List.length_set, List.all_cons, List.all_nil, Bool.and_self, Option.map_none, Option.map_some, List.set_cons_zero, List.set_cons_succ, Nat.lt_add_one, List.append_assoc, List.cons_append, List.nil_append, List.append_nil, List.length_append, List.take_zero, List.take_succ_cons, List.take_nil, List.drop_zero, List.drop_succ_cons, List.drop_nil, List.getElem?_cons_zero, List.getElem?_cons_succ, List.getElem?_map, Nat.reduceAdd, Nat.reduceLeDiff, Nat.add_eq_zero_iff, and_self, Nat.zero_add, Nat.add_zero, Nat.mul_one, Nat.one_mul, List.flatten_cons, List.flatten_nil, ai, c0, hrl, at0, at1, at2, st0, st1, st2, L0, L1, L2, hne, hlt, *]) | (simp only [zgoO, zgoG, zO_nil, zthen_normal, zgoC]) | (with_reducible apply And.intro) | (with_reducible intro _))
      rw [← rd_app w]
      refine rframe_z ((w.app _).free (by simp [li, hne])) (fun k => ?_) ?_
      · have := hL (X.length + 1 + 1 + 1 + k)
        have e : (H ++ (A0 :: .grow g 8 (o.map eF) :: .box [Z64 a1, Z64 a2, .fz 2 false (vs.map eP), .own (H.length + 1) g 0 o.length false] :: X)).length + k = H.length + (X.length + 1 + 1 + 1 + k) := by simp; omega
        rw [e, this]
        simp; omega
      rw [rd_app w]
      obtain ⟨q, hq⟩ : ∃ q, q = rFrame l (a, false) := ⟨_, rfl⟩
      have HQ2 : Hid (rRep (rFrame l) (N - j) s7 = (o ++ [q.1], q.2)) := by rw [hq]; exact HQ
      rw [← hq]
      obtain ⟨⟨b1, b2, b3, b4, ⟨b5, b6⟩, br, bt⟩, s8⟩ := q
      simp only at HQ2 ⊢
      clear hq HQ
      have hr : (o.length + 1) * 96 ≤ reach := by have := HO.out; have := HR2.out; unfold reach; omega
      have hw : IntKind.i64.wrap (((j + 1 : Nat) : Int) - 1) = (j : Int) := by have := HM.out; have := HR2.out; rw [IntWalk.i64_in _ (by omega)]; omega
      repeat' (first | (simp only [zmPack, zfree, owners, Nat.reduceLT, List.filter_cons, List.filter_nil, List.contains_cons, List.contains_nil, Nat.reduceBEq, Bool.or_false, Bool.or_true, Bool.false_or, Bool.true_or, BEq.rfl, chunk, setAt, List.lookup_cons, List.lookup_nil, ZV.val.injEq, ZV.ptr.injEq, ZV.own.injEq, ZV.fz.injEq, ZV.func.injEq, ZV.tuple.injEq, ZV.agg.injEq, ZB.box.injEq, ZB.grow.injEq, Bool.not_eq_false', Prod.mk.injEq, and_assoc, decide_false, decide_true, Bool.not_false, Bool.not_true, Bool.true_eq_false, Bool.false_eq_true, exists_false, Bool.not_eq_false, Bool.not_not, Value.bool.injEq, Value.int.injEq, Option.some.injEq, exists_eq_left', exists_eq_left, exists_and_left, exists_and_right, and_true, true_and, decide_eq_true_eq, decide_eq_false_iff_not, if_true, if_false, Bool.not_eq_true', beq_true, beq_false, ne_eq, not_true_eq_false, not_false_eq_true, reduceCtorEq, List.getD_cons_zero, List.getD_cons_succ, List.getD_nil, List.map_cons, List.map_nil, List.append_nil, Nat.reduceEqDiff, reduceIte, ite_true, ite_false, or_true, true_or, or_false, false_or, true_imp_iff, false_imp_iff, implies_true, imp_false, and_self, imp_self, and_false, false_and, forall_const, take_map_all, Nat.le_refl, Nat.reduceMul, Nat.reduceSub, List.length_cons, List.length_nil, List.length_map, List.length_set, List.all_cons, List.all_nil, Bool.and_self, Option.map_none, Option.map_some, List.set_cons_zero, List.set_cons_succ, Nat.lt_add_one, List.append_assoc, List.cons_append, List.nil_append, List.append_nil, List.length_append, List.take_zero, List.take_succ_cons, List.take_nil, List.drop_zero, List.drop_succ_cons, List.drop_nil, List.getElem?_cons_zero, List.getElem?_cons_succ, List.getElem?_map, Nat.reduceAdd, Nat.reduceLeDiff, Nat.add_eq_zero_iff, and_self, Nat.zero_add, Nat.add_zero, Nat.mul_one, Nat.one_mul, List.flatten_cons, List.flatten_nil, c0, hrl, at0, at1, at2, st0, st1, st2, L0, L1, L2, hne, hlt, hr, hw, *]) | (simp only [zgoO, zgoG, zO_nil, zthen_normal, zgoC]) | (with_reducible apply And.intro) | (with_reducible intro _))
      have hm := HM.out
      exact ⟨j, by omega, by omega, rfl, g + 1, X, by rw [HQ2.out, List.map_append, List.length_append]; rfl⟩
/-- What Back tells: the cell, how many words, the error. -/
def bkC (l : List Int) : Cl := if (rCell l (0, false)).2.2 = true then (0, 0, [], []) else (rCell l (0, false)).1
def bkN (l : List Int) : Nat := if (rCell l (0, false)).2.2 = true then 0 else (rCell l (0, false)).2.1
def bkE (l : List Int) : Int := if (rCell l (0, false)).2.2 = true then 3 else 0
theorem rd_two {A B : ZB} {l : List Int} {s : RS} {ex : Bool} : rdH (H ++ [A, B]) (H.length + 1) ex l s = H ++ [A, rdB ex l s] := by
  unfold rdH; rw [List.set_append_right _ _ (by omega), Nat.add_sub_cancel_left]; rfl
end
section
variable {tb : List (FuncId × Bool)} {L : Nat → Bool} {H : ZH} {K : ZV → ZH → Prop} {ex : Bool} {l : List Int}
set_option maxHeartbeats 1000000 in
theorem back_z (hl : l.length ≤ 1000000000000000) (hu : ∀ x ∈ l, 0 ≤ x ∧ x < 18446744073709551616) (hL : ∀ k, L (H.length + k) = true)
    (hK : K (.tuple [.agg [Z64 (bkC l).1, Z64 (bkC l).2.1, (if (rCell l (0, false)).2.2 = true then .nil else .fz 2 false ((bkC l).2.2.1.map eP)), (if (rCell l (0, false)).2.2 = true then .nil else .fz 8 false ((bkC l).2.2.2.map eF))], Z64 (bkN l), Z64 (bkE l)]) H) :
    ZC (boxX tb) (cFunc Try.prog) 18 [.fz 1 ex (l.map eU)] L H K := by
  refine ZC.enter Gh.no (boxX_none (by decide)) f_wo_back (by simp) ?_
  simp only [c_wo_back]
  have HK := Lib.hid hK
  clear hK
  repeat' (first | (simp only [zmPack, zfree, owners, Nat.reduceLT, List.filter_cons, List.filter_nil, List.contains_cons, List.contains_nil, Nat.reduceBEq, Bool.or_false, Bool.or_true, Bool.false_or, Bool.true_or, BEq.rfl, chunk, setAt, List.lookup_cons, List.lookup_nil, ZV.val.injEq, ZV.ptr.injEq, ZV.own.injEq, ZV.fz.injEq, ZV.func.injEq, ZV.tuple.injEq, ZV.agg.injEq, ZB.box.injEq, ZB.grow.injEq, Bool.not_eq_false', Prod.mk.injEq, and_assoc, decide_false, decide_true, Bool.not_false, Bool.not_true, Bool.true_eq_false, Bool.false_eq_true, exists_false, Bool.not_eq_false, Bool.not_not, Value.bool.injEq, Value.int.injEq, Option.some.injEq, exists_eq_left', exists_eq_left, exists_and_left, exists_and_right, and_true, true_and, decide_eq_true_eq, decide_eq_false_iff_not, if_true, if_false, Bool.not_eq_true', beq_true, beq_false, ne_eq, not_true_eq_false, not_false_eq_true, reduceCtorEq, List.getD_cons_zero, List.getD_cons_succ, List.getD_nil, List.map_cons, List.map_nil, List.append_nil, Nat.reduceEqDiff, reduceIte, ite_true, ite_false, or_true, true_or, or_false, false_or, true_imp_iff, false_imp_iff, implies_true, imp_false, and_self, imp_self, and_false, false_and, forall_const, take_map_all, Nat.le_refl, Nat.reduceMul, Nat.reduceSub, List.length_cons, List.length_nil, List.length_map, List.length_set, List.all_cons, List.all_nil, Bool.and_self, Option.map_none, Option.map_some, List.set_cons_zero, List.set_cons_succ, Nat.lt_add_one, List.append_assoc, List.cons_append, List.nil_append, List.append_nil, List.length_append, List.take_zero, List.take_succ_cons, List.take_nil, List.drop_zero, List.drop_succ_cons, List.drop_nil, List.getElem?_cons_zero, List.getElem?_cons_succ, List.getElem?_map, Nat.reduceAdd, Nat.reduceLeDiff, Nat.add_eq_zero_iff, and_self, Nat.zero_add, Nat.add_zero, Nat.mul_one, Nat.one_mul, List.flatten_cons, List.flatten_nil, *]) | (simp only [zgoO, zgoG, zO_nil, zthen_normal, zgoC]) | (with_reducible apply And.intro) | (with_reducible intro _))
  obtain ⟨A0, hA0⟩ : ∃ A0, A0 = ZB.box [Z64 0, Z64 0, .nil, .nil] := ⟨_, rfl⟩
  rw [← hA0]
  have e0 : H ++ [A0, ZB.box [.fz 1 ex (l.map eU), Z64 0, ZBo false]] = rdH (H ++ [A0, .dead]) (H.length + 1) ex l (0, false) := by rw [rd_two]; rfl
  rw [e0]
  have w : ROk (H ++ [A0, .dead]) L (H.length + 1) l := ⟨by simp, hL 1, hl, hu⟩
  refine rcell_z w (fun k => by rw [List.length_append, Nat.add_assoc]; exact hL _) ?_
  rw [rd_two]
  obtain ⟨q, hq⟩ : ∃ q, q = rCell l (0, false) := ⟨_, rfl⟩
  unfold bkC bkN bkE at HK
  rw [← hq] at HK ⊢
  obtain ⟨⟨k1, k2, k3, k4⟩, a, b⟩ := q
  have L0 : L H.length = true := hL 0
  have L1 : L (H.length + 1) = true := hL 1
  have L2 : L (H.length + 2) = true := hL 2
  clear hq w e0 hL hu
  subst hA0
  have fin0 := HK.out
  unfold rdB
  cases b with
  | true =>
    simp only [if_pos] at fin0
    have fin : ∀ X, Fin H (.tuple [.agg [Z64 0, Z64 0, .nil, .nil], Z64 0, Z64 3]) (H ++ X) K := fun X => Fin.truncT (Mods.ext H X) rfl (by rw [List.take_left]; exact fin0)
    clear fin0 HK
    repeat' (first | (simp only [zmPack, zfree, owners, Nat.reduceLT, List.filter_cons, List.filter_nil, List.contains_cons, List.contains_nil, Nat.reduceBEq, Bool.or_false, Bool.or_true, Bool.false_or, Bool.true_or, BEq.rfl, chunk, setAt, List.lookup_cons, List.lookup_nil, ZV.val.injEq, ZV.ptr.injEq, ZV.own.injEq, ZV.fz.injEq, ZV.func.injEq, ZV.tuple.injEq, ZV.agg.injEq, ZB.box.injEq, ZB.grow.injEq, Bool.not_eq_false', Prod.mk.injEq, and_assoc, decide_false, decide_true, Bool.not_false, Bool.not_true, Bool.true_eq_false, Bool.false_eq_true, exists_false, Bool.not_eq_false, Bool.not_not, Value.bool.injEq, Value.int.injEq, Option.some.injEq, exists_eq_left', exists_eq_left, exists_and_left, exists_and_right, and_true, true_and, decide_eq_true_eq, decide_eq_false_iff_not, if_true, if_false, Bool.not_eq_true', beq_true, beq_false, ne_eq, not_true_eq_false, not_false_eq_true, reduceCtorEq, List.getD_cons_zero, List.getD_cons_succ, List.getD_nil, List.map_cons, List.map_nil, List.append_nil, Nat.reduceEqDiff, reduceIte, ite_true, ite_false, or_true, true_or, or_false, false_or, true_imp_iff, false_imp_iff, implies_true, imp_false, and_self, imp_self, and_false, false_and, forall_const, take_map_all, Nat.le_refl, Nat.reduceMul, Nat.reduceSub, List.length_cons, List.length_nil, List.length_map, List.length_set, List.all_cons, List.all_nil, Bool.and_self, Option.map_none, Option.map_some, List.set_cons_zero, List.set_cons_succ, Nat.lt_add_one, List.append_assoc, List.cons_append, List.nil_append, List.append_nil, List.length_append, List.take_zero, List.take_succ_cons, List.take_nil, List.drop_zero, List.drop_succ_cons, List.drop_nil, List.getElem?_cons_zero, List.getElem?_cons_succ, List.getElem?_map, Nat.reduceAdd, Nat.reduceLeDiff, Nat.add_eq_zero_iff, and_self, Nat.zero_add, Nat.add_zero, Nat.mul_one, Nat.one_mul, List.flatten_cons, List.flatten_nil, L0, L1, L2, *]) | (simp only [zgoO, zgoG, zO_nil, zthen_normal, zgoC]) | (with_reducible apply And.intro) | (with_reducible intro _))
  | false =>
    simp only [Bool.false_eq_true, if_false] at fin0
    have fin : ∀ X, Fin H (.tuple [.agg [Z64 k1, Z64 k2, .fz 2 false (k3.map eP), .fz 8 false (k4.map eF)], Z64 a, Z64 0]) (H ++ X) K := fun X => Fin.truncT (Mods.ext H X) rfl (by rw [List.take_left]; exact fin0)
    clear fin0 HK
    have hlt : H.length + 1 < H.length + 3 := by omega
    have hb : (H.length == H.length + 1) = false := by simp
    repeat' (first | (simp only [zmPack, zfree, owners, Nat.reduceLT, List.filter_cons, List.filter_nil, List.contains_cons, List.contains_nil, Nat.reduceBEq, Bool.or_false, Bool.or_true, Bool.false_or, Bool.true_or, BEq.rfl, chunk, setAt, List.lookup_cons, List.lookup_nil, ZV.val.injEq, ZV.ptr.injEq, ZV.own.injEq, ZV.fz.injEq, ZV.func.injEq, ZV.tuple.injEq, ZV.agg.injEq, ZB.box.injEq, ZB.grow.injEq, Bool.not_eq_false', Prod.mk.injEq, and_assoc, decide_false, decide_true, Bool.not_false, Bool.not_true, Bool.true_eq_false, Bool.false_eq_true, exists_false, Bool.not_eq_false, Bool.not_not, Value.bool.injEq, Value.int.injEq, Option.some.injEq, exists_eq_left', exists_eq_left, exists_and_left, exists_and_right, and_true, true_and, decide_eq_true_eq, decide_eq_false_iff_not, if_true, if_false, Bool.not_eq_true', beq_true, beq_false, ne_eq, not_true_eq_false, not_false_eq_true, reduceCtorEq, List.getD_cons_zero, List.getD_cons_succ, List.getD_nil, List.map_cons, List.map_nil, List.append_nil, Nat.reduceEqDiff, reduceIte, ite_true, ite_false, or_true, true_or, or_false, false_or, true_imp_iff, false_imp_iff, implies_true, imp_false, and_self, imp_self, and_false, false_and, forall_const, take_map_all, Nat.le_refl, Nat.reduceMul, Nat.reduceSub, List.length_cons, List.length_nil, List.length_map, List.length_set, List.all_cons, List.all_nil, Bool.and_self, Option.map_none, Option.map_some, List.set_cons_zero, List.set_cons_succ, Nat.lt_add_one, List.append_assoc, List.cons_append, List.nil_append, List.append_nil, List.length_append, List.take_zero, List.take_succ_cons, List.take_nil, List.drop_zero, List.drop_succ_cons, List.drop_nil, List.getElem?_cons_zero, List.getElem?_cons_succ, List.getElem?_map, Nat.reduceAdd, Nat.reduceLeDiff, Nat.add_eq_zero_iff, and_self, Nat.zero_add, Nat.add_zero, Nat.mul_one, Nat.one_mul, List.flatten_cons, List.flatten_nil, L0, L1, L2, hlt, hb, *]) | (simp only [zgoO, zgoG, zO_nil, zthen_normal, zgoC]) | (with_reducible apply And.intro) | (with_reducible intro _))
end
end Go.Proofs.Ytpmmiaadfnildaa

namespace Go.Proofs.Ytpmmiaadfnildaa
open Go Go.RowKit
set_option linter.unusedVariables false
set_option linter.unusedSimpArgs false
variable {tb : List (FuncId × Bool)} {L : Nat → Bool} {H : ZH} {K : ZV → ZH → Prop}
theorem bin_nequ {a b : Int} : binV .neq (.int .u64 a) (.int .u64 b) = some (.bool (!decide (a = b))) := by simp [binV]
theorem same2 {a b c d : Int} : sameZ [0, 0] [Z64 a, Z64 b] [Z64 c, Z64 d] = some (decide (a = c) && decide (b = d)) := by simp [sameZ, sameV]
theorem copyu_z {z : ZV} {l : List Int} (hz : rowsZ H 1 z = some (l.map eU)) (hb : l.length ≤ 1000000000) (hK : K (.own H.length 0 0 l.length false) (H ++ [.grow 0 1 (l.map eU)])) : ZC (boxX tb) (cFunc Try.prog) 19 [z] L H K := by
  refine ZC.enter Gh.no (boxX_none (by decide)) f_r_copyu (by simp) ?_
  simp only [c_r_copyu]
  have hreach : l.length * 8 ≤ reach := by unfold reach; omega
  repeat' (first | (simp only [zmPack, zfree, owners, Nat.reduceLT, List.filter_cons, List.filter_nil, List.contains_cons, List.contains_nil, Nat.reduceBEq, Bool.or_false, Bool.or_true, Bool.false_or, Bool.true_or, BEq.rfl, chunk, setAt, List.lookup_cons, List.lookup_nil, ZV.val.injEq, ZV.ptr.injEq, ZV.own.injEq, ZV.fz.injEq, ZV.func.injEq, ZV.tuple.injEq, ZV.agg.injEq, ZB.box.injEq, ZB.grow.injEq, Bool.not_eq_false', Prod.mk.injEq, and_assoc, decide_false, decide_true, Bool.not_false, Bool.not_true, Bool.true_eq_false, Bool.false_eq_true, exists_false, Bool.not_eq_false, Bool.not_not, Value.bool.injEq, Value.int.injEq, Option.some.injEq, exists_eq_left', exists_eq_left, exists_and_left, exists_and_right, and_true, true_and, decide_eq_true_eq, decide_eq_false_iff_not, if_true, if_false, Bool.not_eq_true', beq_true, beq_false, ne_eq, not_true_eq_false, not_false_eq_true, reduceCtorEq, List.getD_cons_zero, List.getD_cons_succ, List.getD_nil, List.map_cons, List.map_nil, List.append_nil, Nat.reduceEqDiff, reduceIte, ite_true, ite_false, or_true, true_or, or_false, false_or, true_imp_iff, false_imp_iff, implies_true, imp_false, and_self, imp_self, and_false, false_and, forall_const, take_map_all, Nat.le_refl, Nat.reduceMul, Nat.reduceSub, List.length_cons, List.length_nil, List.length_map, List.length_set, List.all_cons, List.all_nil, Bool.and_self, Option.map_none, Option.map_some, List.set_cons_zero, List.set_cons_succ, Nat.lt_add_one, List.append_assoc, List.cons_append, List.nil_append, List.append_nil, List.length_append, List.take_zero, List.take_succ_cons, List.take_nil, List.drop_zero, List.drop_succ_cons, List.drop_nil, List.getElem?_cons_zero, List.getElem?_cons_succ, List.getElem?_map, Nat.reduceAdd, Nat.reduceLeDiff, Nat.add_eq_zero_iff, and_self, Nat.zero_add, Nat.add_zero, Nat.mul_one, Nat.one_mul, List.flatten_cons, List.flatten_nil, hz, hreach, *]) | (simp only [zgoO, zgoG, zO_nil, zthen_normal, zgoC]) | (with_reducible apply And.intro) | (with_reducible intro _))
  exact Fin.keep hK
theorem equ_z {y z : ZV} {a b : List Int} (ha : rowsZ H 1 y = some (a.map eU)) (hb : rowsZ H 1 z = some (b.map eU)) (hl1 : a.length ≤ 1000000000000000) (hl2 : b.length ≤ 1000000000000000) (hK : K (ZBo (decide (a = b))) H) :
    ZC (boxX tb) (cFunc Try.prog) 21 [y, z] L H K := by
  refine ZC.enter Gh.no (boxX_none (by decide)) f_r_equ (by simp) ?_
  simp only [c_r_equ]
  have ha' := rows_len ha
  have hb' := rows_len hb
  rw [List.length_map] at ha' hb'
  by_cases hlen : a.length = b.length
  · rw [hlen] at ha'
    have hlen := Lib.hid hlen
    repeat' (first | (simp only [zmPack, zfree, owners, Nat.reduceLT, List.filter_cons, List.filter_nil, List.contains_cons, List.contains_nil, Nat.reduceBEq, Bool.or_false, Bool.or_true, Bool.false_or, Bool.true_or, BEq.rfl, chunk, setAt, List.lookup_cons, List.lookup_nil, ZV.val.injEq, ZV.ptr.injEq, ZV.own.injEq, ZV.fz.injEq, ZV.func.injEq, ZV.tuple.injEq, ZV.agg.injEq, ZB.box.injEq, ZB.grow.injEq, Bool.not_eq_false', Prod.mk.injEq, and_assoc, decide_false, decide_true, Bool.not_false, Bool.not_true, Bool.true_eq_false, Bool.false_eq_true, exists_false, Bool.not_eq_false, Bool.not_not, Value.bool.injEq, Value.int.injEq, Option.some.injEq, exists_eq_left', exists_eq_left, exists_and_left, exists_and_right, and_true, true_and, decide_eq_true_eq, decide_eq_false_iff_not, if_true, if_false, Bool.not_eq_true', beq_true, beq_false, ne_eq, not_true_eq_false, not_false_eq_true, reduceCtorEq, List.getD_cons_zero, List.getD_cons_succ, List.getD_nil, List.map_cons, List.map_nil, List.append_nil, Nat.reduceEqDiff, reduceIte, ite_true, ite_false, or_true, true_or, or_false, false_or, true_imp_iff, false_imp_iff, implies_true, imp_false, and_self, imp_self, and_false, false_and, forall_const, take_map_all, Nat.le_refl, Nat.reduceMul, Nat.reduceSub, List.length_cons, List.length_nil, List.length_map, List.length_set, List.all_cons, List.all_nil, Bool.and_self, Option.map_none, Option.map_some, List.set_cons_zero, List.set_cons_succ, Nat.lt_add_one, List.append_assoc, List.cons_append, List.nil_append, List.append_nil, List.length_append, List.take_zero, List.take_succ_cons, List.take_nil, List.drop_zero, List.drop_succ_cons, List.drop_nil, List.getElem?_cons_zero, List.getElem?_cons_succ, List.getElem?_map, Nat.reduceAdd, Nat.reduceLeDiff, Nat.add_eq_zero_iff, and_self, Nat.zero_add, Nat.add_zero, Nat.mul_one, Nat.one_mul, List.flatten_cons, List.flatten_nil, ha', hb', *]) | (simp only [zgoO, zgoG, zO_nil, zthen_normal, zgoC]) | (with_reducible apply And.intro) | (with_reducible intro _))
    refine zW_forK [(1, z), (12, y)] b.length (fun k s' h' => h' = H ∧ a.take k = b.take k) (by omega) ⟨rfl, rfl, rfl, rfl, rfl, rfl⟩ rfl rfl (by repeat' (first | exact trivial | (refine ⟨rfl, ?_⟩) | (refine ⟨by simp only [zupd_at, Nat.reduceEqDiff, reduceIte]; assumption, ?_⟩))) rfl rfl (by decide) ⟨rfl, by simp⟩ ?_ ?_
    · rintro k s' h' hk ⟨rfl, hyes⟩ hi hl ⟨f1, f12, -⟩
      have hka : k < a.length := by rw [hlen.out]; exact hk
      obtain ⟨p, hp, hld⟩ := rows_at ha hka
      obtain ⟨q, hq, hlq⟩ := rows_at hb hk
      by_cases he : a[k] = b[k]
      · have fin : a.take (k + 1) = b.take (k + 1) := by
          rw [List.take_succ_eq_append_getElem hka, List.take_succ_eq_append_getElem hk, hyes, he]
        rw [he] at hld
        clear hyes he
        repeat' (first | (simp only [zmPack, zfree, owners, Nat.reduceLT, List.filter_cons, List.filter_nil, List.contains_cons, List.contains_nil, Nat.reduceBEq, Bool.or_false, Bool.or_true, Bool.false_or, Bool.true_or, BEq.rfl, chunk, setAt, List.lookup_cons, List.lookup_nil, ZV.val.injEq, ZV.ptr.injEq, ZV.own.injEq, ZV.fz.injEq, ZV.func.injEq, ZV.tuple.injEq, ZV.agg.injEq, ZB.box.injEq, ZB.grow.injEq, Bool.not_eq_false', Prod.mk.injEq, and_assoc, decide_false, decide_true, Bool.not_false, Bool.not_true, Bool.true_eq_false, Bool.false_eq_true, exists_false, Bool.not_eq_false, Bool.not_not, Value.bool.injEq, Value.int.injEq, Option.some.injEq, exists_eq_left', exists_eq_left, exists_and_left, exists_and_right, and_true, true_and, decide_eq_true_eq, decide_eq_false_iff_not, if_true, if_false, Bool.not_eq_true', beq_true, beq_false, ne_eq, not_true_eq_false, not_false_eq_true, reduceCtorEq, List.getD_cons_zero, List.getD_cons_succ, List.getD_nil, List.map_cons, List.map_nil, List.append_nil, Nat.reduceEqDiff, reduceIte, ite_true, ite_false, or_true, true_or, or_false, false_or, true_imp_iff, false_imp_iff, implies_true, imp_false, and_self, imp_self, and_false, false_and, forall_const, take_map_all, Nat.le_refl, Nat.reduceMul, Nat.reduceSub, List.length_cons, List.length_nil, List.length_map, List.length_set, List.all_cons, List.all_nil, Bool.and_self, Option.map_none, Option.map_some, List.set_cons_zero, List.set_cons_succ, Nat.lt_add_one, List.append_assoc, List.cons_append, List.nil_append, List.append_nil, List.length_append, List.take_zero, List.take_succ_cons, List.take_nil, List.drop_zero, List.drop_succ_cons, List.drop_nil, List.getElem?_cons_zero, List.getElem?_cons_succ, List.getElem?_map, Nat.reduceAdd, Nat.reduceLeDiff, Nat.add_eq_zero_iff, and_self, Nat.zero_add, Nat.add_zero, Nat.mul_one, Nat.one_mul, List.flatten_cons, List.flatten_nil, hp, hld, hq, hlq, bin_nequ, *]) | (simp only [zgoO, zgoG, zO_nil, zthen_normal, zgoC]) | (with_reducible apply And.intro) | (with_reducible intro _))
      · have hy : decide (a = b) = false := decide_eq_false fun e => he (by subst e; rfl)
        rw [hy] at hK
        have fin := Fin.keep (H0 := h') hK
        clear hyes hy
        repeat' (first | (simp only [zmPack, zfree, owners, Nat.reduceLT, List.filter_cons, List.filter_nil, List.contains_cons, List.contains_nil, Nat.reduceBEq, Bool.or_false, Bool.or_true, Bool.false_or, Bool.true_or, BEq.rfl, chunk, setAt, List.lookup_cons, List.lookup_nil, ZV.val.injEq, ZV.ptr.injEq, ZV.own.injEq, ZV.fz.injEq, ZV.func.injEq, ZV.tuple.injEq, ZV.agg.injEq, ZB.box.injEq, ZB.grow.injEq, Bool.not_eq_false', Prod.mk.injEq, and_assoc, decide_false, decide_true, Bool.not_false, Bool.not_true, Bool.true_eq_false, Bool.false_eq_true, exists_false, Bool.not_eq_false, Bool.not_not, Value.bool.injEq, Value.int.injEq, Option.some.injEq, exists_eq_left', exists_eq_left, exists_and_left, exists_and_right, and_true, true_and, decide_eq_true_eq, decide_eq_false_iff_not, if_true, if_false, Bool.not_eq_true', beq_true, beq_false, ne_eq, not_true_eq_false, not_false_eq_true, reduceCtorEq, List.getD_cons_zero, List.getD_cons_succ, List.getD_nil, List.map_cons, List.map_nil, List.append_nil, Nat.reduceEqDiff, reduceIte, ite_true, ite_false, or_true, true_or, or_false, false_or, true_imp_iff, false_imp_iff, implies_true, imp_false, and_self, imp_self, and_false, false_and, forall_const, take_map_all, Nat.le_refl, Nat.reduceMul, Nat.reduceSub, List.length_cons, List.length_nil, List.length_map, List.length_set, List.all_cons, List.all_nil, Bool.and_self, Option.map_none, Option.map_some, List.set_cons_zero, List.set_cons_succ, Nat.lt_add_one, List.append_assoc, List.cons_append, List.nil_append, List.append_nil, List.length_append, List.take_zero, List.take_succ_cons, List.take_nil, List.drop_zero, List.drop_succ_cons, List.drop_nil, List.getElem?_cons_zero, List.getElem?_cons_succ, List.getElem?_map, Nat.reduceAdd, Nat.reduceLeDiff, Nat.add_eq_zero_iff, and_self, Nat.zero_add, Nat.add_zero, Nat.mul_one, Nat.one_mul, List.flatten_cons, List.flatten_nil, hp, hld, hq, hlq, bin_nequ, *]) | (simp only [zgoO, zgoG, zO_nil, zthen_normal, zgoC]) | (with_reducible apply And.intro) | (with_reducible intro _))
    · rintro s' h' ⟨rfl, hyes⟩ ⟨f1, f12, -⟩
      rw [← hlen.out, List.take_of_length_le (Nat.le_refl _), hlen.out, List.take_of_length_le (Nat.le_refl _)] at hyes
      have hy : decide (a = b) = true := decide_eq_true hyes
      rw [hy] at hK
      have fin := Fin.keep (H0 := h') hK
      clear hyes hy
      repeat' (first | (simp only [zmPack, zfree, owners, Nat.reduceLT, List.filter_cons, List.filter_nil, List.contains_cons, List.contains_nil, Nat.reduceBEq, Bool.or_false, Bool.or_true, Bool.false_or, Bool.true_or, BEq.rfl, chunk, setAt, List.lookup_cons, List.lookup_nil, ZV.val.injEq, ZV.ptr.injEq, ZV.own.injEq, ZV.fz.injEq, ZV.func.injEq, ZV.tuple.injEq, ZV.agg.injEq, ZB.box.injEq, ZB.grow.injEq, Bool.not_eq_false', Prod.mk.injEq, and_assoc, decide_false, decide_true, Bool.not_false, Bool.not_true, Bool.true_eq_false, Bool.false_eq_true, exists_false, Bool.not_eq_false, Bool.not_not, Value.bool.injEq, Value.int.injEq, Option.some.injEq, exists_eq_left', exists_eq_left, exists_and_left, exists_and_right, and_true, true_and, decide_eq_true_eq, decide_eq_false_iff_not, if_true, if_false, Bool.not_eq_true', beq_true, beq_false, ne_eq, not_true_eq_false, not_false_eq_true, reduceCtorEq, List.getD_cons_zero, List.getD_cons_succ, List.getD_nil, List.map_cons, List.map_nil, List.append_nil, Nat.reduceEqDiff, reduceIte, ite_true, ite_false, or_true, true_or, or_false, false_or, true_imp_iff, false_imp_iff, implies_true, imp_false, and_self, imp_self, and_false, false_and, forall_const, take_map_all, Nat.le_refl, Nat.reduceMul, Nat.reduceSub, List.length_cons, List.length_nil, List.length_map, List.length_set, List.all_cons, List.all_nil, Bool.and_self, Option.map_none, Option.map_some, List.set_cons_zero, List.set_cons_succ, Nat.lt_add_one, List.append_assoc, List.cons_append, List.nil_append, List.append_nil, List.length_append, List.take_zero, List.take_succ_cons, List.take_nil, List.drop_zero, List.drop_succ_cons, List.drop_nil, List.getElem?_cons_zero, List.getElem?_cons_succ, List.getElem?_map, Nat.reduceAdd, Nat.reduceLeDiff, Nat.add_eq_zero_iff, and_self, Nat.zero_add, Nat.add_zero, Nat.mul_one, Nat.one_mul, List.flatten_cons, List.flatten_nil, *]) | (simp only [zgoO, zgoG, zO_nil, zthen_normal, zgoC]) | (with_reducible apply And.intro) | (with_reducible intro _))
  · have hN : (decide ((a.length : Int) = (b.length : Int))) = false := by simp; omega
    have hy : decide (a = b) = false := decide_eq_false fun e => hlen (by rw [e])
    rw [hy] at hK
    have fin := Fin.keep (H0 := H) hK
    clear hlen hy
    repeat' (first | (simp only [zmPack, zfree, owners, Nat.reduceLT, List.filter_cons, List.filter_nil, List.contains_cons, List.contains_nil, Nat.reduceBEq, Bool.or_false, Bool.or_true, Bool.false_or, Bool.true_or, BEq.rfl, chunk, setAt, List.lookup_cons, List.lookup_nil, ZV.val.injEq, ZV.ptr.injEq, ZV.own.injEq, ZV.fz.injEq, ZV.func.injEq, ZV.tuple.injEq, ZV.agg.injEq, ZB.box.injEq, ZB.grow.injEq, Bool.not_eq_false', Prod.mk.injEq, and_assoc, decide_false, decide_true, Bool.not_false, Bool.not_true, Bool.true_eq_false, Bool.false_eq_true, exists_false, Bool.not_eq_false, Bool.not_not, Value.bool.injEq, Value.int.injEq, Option.some.injEq, exists_eq_left', exists_eq_left, exists_and_left, exists_and_right, and_true, true_and, decide_eq_true_eq, decide_eq_false_iff_not, if_true, if_false, Bool.not_eq_true', beq_true, beq_false, ne_eq, not_true_eq_false, not_false_eq_true, reduceCtorEq, List.getD_cons_zero, List.getD_cons_succ, List.getD_nil, List.map_cons, List.map_nil, List.append_nil, Nat.reduceEqDiff, reduceIte, ite_true, ite_false, or_true, true_or, or_false, false_or, true_imp_iff, false_imp_iff, implies_true, imp_false, and_self, imp_self, and_false, false_and, forall_const, take_map_all, Nat.le_refl, Nat.reduceMul, Nat.reduceSub, List.length_cons, List.length_nil, List.length_map, List.length_set, List.all_cons, List.all_nil, Bool.and_self, Option.map_none, Option.map_some, List.set_cons_zero, List.set_cons_succ, Nat.lt_add_one, List.append_assoc, List.cons_append, List.nil_append, List.append_nil, List.length_append, List.take_zero, List.take_succ_cons, List.take_nil, List.drop_zero, List.drop_succ_cons, List.drop_nil, List.getElem?_cons_zero, List.getElem?_cons_succ, List.getElem?_map, Nat.reduceAdd, Nat.reduceLeDiff, Nat.add_eq_zero_iff, and_self, Nat.zero_add, Nat.add_zero, Nat.mul_one, Nat.one_mul, List.flatten_cons, List.flatten_nil, ha', hb', hN, *]) | (simp only [zgoO, zgoG, zO_nil, zthen_normal, zgoC]) | (with_reducible apply And.intro) | (with_reducible intro _))
set_option maxHeartbeats 1000000 in
theorem eqval_z {exa exb : Bool} {a b : List (Int × Int)} (hl1 : a.length ≤ 1000000000000000) (hl2 : b.length ≤ 1000000000000000) (hK : K (ZBo (decide (a = b))) H) :
    ZC (boxX tb) (cFunc Try.prog) 36 [.fz 2 exa (a.map eP), .fz 2 exb (b.map eP)] L H K := by
  refine ZC.enterL Gh.no (boxX_none (by decide)) f_r_eqval (by simp) fun hL => ?_
  simp only [c_r_eqval]
  by_cases hlen : a.length = b.length
  · have hN : ((a.length : Int) = (b.length : Int)) := by omega
    have hlen := Lib.hid hlen
    have fin0 : ∀ X z, refs H.length z = true → K z H → Fin H z (H ++ X) K := fun X z hz k2 => Fin.trunc (Mods.ext H X) hz (by rw [List.take_left]; exact k2)
    have F0 := Lib.hid fin0
    have HK := Lib.hid hK
    clear fin0 hK
    have hll : (a.length : Int) = b.length := hN
    repeat' (first | (simp only [zmPack, zfree, owners, Nat.reduceLT, List.filter_cons, List.filter_nil, List.contains_cons, List.contains_nil, Nat.reduceBEq, Bool.or_false, Bool.or_true, Bool.false_or, Bool.true_or, BEq.rfl, chunk, setAt, List.lookup_cons, List.lookup_nil, ZV.val.injEq, ZV.ptr.injEq, ZV.own.injEq, ZV.fz.injEq, ZV.func.injEq, ZV.tuple.injEq, ZV.agg.injEq, ZB.box.injEq, ZB.grow.injEq, Bool.not_eq_false', Prod.mk.injEq, and_assoc, decide_false, decide_true, Bool.not_false, Bool.not_true, Bool.true_eq_false, Bool.false_eq_true, exists_false, Bool.not_eq_false, Bool.not_not, Value.bool.injEq, Value.int.injEq, Option.some.injEq, exists_eq_left', exists_eq_left, exists_and_left, exists_and_right, and_true, true_and, decide_eq_true_eq, decide_eq_false_iff_not, if_true, if_false, Bool.not_eq_true', beq_true, beq_false, ne_eq, not_true_eq_false, not_false_eq_true, reduceCtorEq, List.getD_cons_zero, List.getD_cons_succ, List.getD_nil, List.map_cons, List.map_nil, List.append_nil, Nat.reduceEqDiff, reduceIte, ite_true, ite_false, or_true, true_or, or_false, false_or, true_imp_iff, false_imp_iff, implies_true, imp_false, and_self, imp_self, and_false, false_and, forall_const, take_map_all, Nat.le_refl, Nat.reduceMul, Nat.reduceSub, List.length_cons, List.length_nil, List.length_map, List.length_set, List.all_cons, List.all_nil, Bool.and_self, Option.map_none, Option.map_some, List.set_cons_zero, List.set_cons_succ, Nat.lt_add_one, List.append_assoc, List.cons_append, List.nil_append, List.append_nil, List.length_append, List.take_zero, List.take_succ_cons, List.take_nil, List.drop_zero, List.drop_succ_cons, List.drop_nil, List.getElem?_cons_zero, List.getElem?_cons_succ, List.getElem?_map, Nat.reduceAdd, Nat.reduceLeDiff, Nat.add_eq_zero_iff, and_self, Nat.zero_add, Nat.add_zero, Nat.mul_one, Nat.one_mul, List.flatten_cons, List.flatten_nil, hN, *]) | (simp only [zgoO, zgoG, zO_nil, zthen_normal, zgoC]) | (with_reducible apply And.intro) | (with_reducible intro _))
    refine zW_forK [(1, .fz 2 exb (b.map eP)), (12, .fz 2 exa (a.map eP))] b.length (fun k s' h' => ∃ X, h' = H ++ X ∧ a.take k = b.take k) (by omega) ⟨rfl, rfl, rfl, rfl, rfl, rfl⟩ rfl rfl (by repeat' (first | exact trivial | (refine ⟨rfl, ?_⟩) | (refine ⟨by simp only [zupd_at, Nat.reduceEqDiff, reduceIte]; assumption, ?_⟩))) rfl rfl (by decide) ⟨[], by simp, by simp⟩ ?_ ?_
    · rintro k s' h' hk ⟨X, rfl, hyes⟩ hi hl ⟨f1, f12, -⟩
      have hka : k < a.length := by rw [hlen.out]; exact hk
      have hxa : a[k]? = some a[k] := List.getElem?_eq_getElem hka
      have hxb : b[k]? = some b[k] := List.getElem?_eq_getElem hk
      have hya0 : a.take (k + 1) = b.take (k + 1) ↔ a[k] = b[k] := by
        rw [List.take_succ_eq_append_getElem hka, List.take_succ_eq_append_getElem hk, hyes, List.append_cancel_left_eq]; simp
      have hya := Lib.hid hya0
      have hno0 : a[k] ≠ b[k] → decide (a = b) = false := fun he => decide_eq_false fun e => he (by subst e; rfl)
      have hno := Lib.hid hno0
      clear hya0 hno0
      obtain ⟨p, hp⟩ : ∃ p, p = a[k] := ⟨_, rfl⟩
      obtain ⟨q, hq⟩ : ∃ q, q = b[k] := ⟨_, rfl⟩
      rw [← hp] at hxa hya hno
      rw [← hq] at hxb hya hno
      obtain ⟨p1, p2⟩ := p
      obtain ⟨q1, q2⟩ := q
      have a0 : ∀ A : ZB, (H ++ (X ++ [A]))[H.length + X.length]? = some A := fun A => by rw [← List.append_assoc, ← List.length_append]; exact H_at0 ..
      have s0 : ∀ A B : ZB, (H ++ (X ++ [A])).set (H.length + X.length) B = H ++ (X ++ [B]) := fun A B => by rw [← List.append_assoc, ← List.length_append, List.set_append_right _ _ (Nat.le_refl _), Nat.sub_self, List.append_assoc]; rfl
      have lx : L (H.length + X.length) = true := hL _
      clear hp hq hyes hll hN
      by_cases h1 : p1 = q1
      · by_cases h2 : p2 = q2
        · have fin : a.take (k + 1) = b.take (k + 1) := hya.out.2 (by rw [h1, h2])
          have HF := Lib.hid fin
          clear fin
          subst h1 h2
          have hs : sameZ [0, 0] [Z64 p1, Z64 p2] [Z64 p1, Z64 p2] = some true := by rw [same2]; simp
          repeat' (first | (simp only [zmPack, zfree, owners, Nat.reduceLT, List.filter_cons, List.filter_nil, List.contains_cons, List.contains_nil, Nat.reduceBEq, Bool.or_false, Bool.or_true, Bool.false_or, Bool.true_or, BEq.rfl, chunk, setAt, List.lookup_cons, List.lookup_nil, ZV.val.injEq, ZV.ptr.injEq, ZV.own.injEq, ZV.fz.injEq, ZV.func.injEq, ZV.tuple.injEq, ZV.agg.injEq, ZB.box.injEq, ZB.grow.injEq, Bool.not_eq_false', Prod.mk.injEq, and_assoc, decide_false, decide_true, Bool.not_false, Bool.not_true, Bool.true_eq_false, Bool.false_eq_true, exists_false, Bool.not_eq_false, Bool.not_not, Value.bool.injEq, Value.int.injEq, Option.some.injEq, exists_eq_left', exists_eq_left, exists_and_left, exists_and_right, and_true, true_and, decide_eq_true_eq, decide_eq_false_iff_not, if_true, if_false, Bool.not_eq_true', beq_true, beq_false, ne_eq, not_true_eq_false, not_false_eq_true, reduceCtorEq, List.getD_cons_zero, List.getD_cons_succ, List.getD_nil, List.map_cons, List.map_nil, List.append_nil, Nat.reduceEqDiff, reduceIte, ite_true, ite_false, or_true, true_or, or_false, false_or, true_imp_iff, false_imp_iff, implies_true, imp_false, and_self, imp_self, and_false, false_and, forall_const, take_map_all, Nat.le_refl, Nat.reduceMul, Nat.reduceSub, List.length_cons, List.length_nil, List.length_map, List.length_set, List.all_cons, List.all_nil, Bool.and_self, Option.map_none, Option.map_some, List.set_cons_zero, List.set_cons_succ, Nat.lt_add_one, List.append_assoc, List.cons_append, List.nil_append, List.append_nil, List.length_append, List.take_zero, List.take_succ_cons, List.take_nil, List.drop_zero, List.drop_succ_cons, List.drop_nil, List.getElem?_cons_zero, List.getElem?_cons_succ, List.getElem?_map, Nat.reduceAdd, Nat.reduceLeDiff, Nat.add_eq_zero_iff, and_self, Nat.zero_add, Nat.add_zero, Nat.mul_one, Nat.one_mul, List.flatten_cons, List.flatten_nil, hxa, hxb, a0, s0, lx, hs, *]) | (simp only [zgoO, zgoG, zO_nil, zthen_normal, zgoC]) | (with_reducible apply And.intro) | (with_reducible intro _))
          · exact ⟨_, rfl⟩
          · exact HF.out
        · have hy := hno.out (by simp [h2])
          have hk2 := HK.out
          rw [hy] at hk2
          have fin := fun X => F0.out X _ rfl hk2
          clear hk2 hy
          have hs : sameZ [0, 0] [Z64 p1, Z64 p2] [Z64 q1, Z64 q2] = some false := by rw [same2]; simp [h2]
          subst h1
          repeat' (first | (simp only [zmPack, zfree, owners, Nat.reduceLT, List.filter_cons, List.filter_nil, List.contains_cons, List.contains_nil, Nat.reduceBEq, Bool.or_false, Bool.or_true, Bool.false_or, Bool.true_or, BEq.rfl, chunk, setAt, List.lookup_cons, List.lookup_nil, ZV.val.injEq, ZV.ptr.injEq, ZV.own.injEq, ZV.fz.injEq, ZV.func.injEq, ZV.tuple.injEq, ZV.agg.injEq, ZB.box.injEq, ZB.grow.injEq, Bool.not_eq_false', Prod.mk.injEq, and_assoc, decide_false, decide_true, Bool.not_false, Bool.not_true, Bool.true_eq_false, Bool.false_eq_true, exists_false, Bool.not_eq_false, Bool.not_not, Value.bool.injEq, Value.int.injEq, Option.some.injEq, exists_eq_left', exists_eq_left, exists_and_left, exists_and_right, and_true, true_and, decide_eq_true_eq, decide_eq_false_iff_not, if_true, if_false, Bool.not_eq_true', beq_true, beq_false, ne_eq, not_true_eq_false, not_false_eq_true, reduceCtorEq, List.getD_cons_zero, List.getD_cons_succ, List.getD_nil, List.map_cons, List.map_nil, List.append_nil, Nat.reduceEqDiff, reduceIte, ite_true, ite_false, or_true, true_or, or_false, false_or, true_imp_iff, false_imp_iff, implies_true, imp_false, and_self, imp_self, and_false, false_and, forall_const, take_map_all, Nat.le_refl, Nat.reduceMul, Nat.reduceSub, List.length_cons, List.length_nil, List.length_map, List.length_set, List.all_cons, List.all_nil, Bool.and_self, Option.map_none, Option.map_some, List.set_cons_zero, List.set_cons_succ, Nat.lt_add_one, List.append_assoc, List.cons_append, List.nil_append, List.append_nil, List.length_append, List.take_zero, List.take_succ_cons, List.take_nil, List.drop_zero, List.drop_succ_cons, List.drop_nil, List.getElem?_cons_zero, List.getElem?_cons_succ, List.getElem?_map, Nat.reduceAdd, Nat.reduceLeDiff, Nat.add_eq_zero_iff, and_self, Nat.zero_add, Nat.add_zero, Nat.mul_one, Nat.one_mul, List.flatten_cons, List.flatten_nil, hxa, hxb, a0, s0, lx, hs, *]) | (simp only [zgoO, zgoG, zO_nil, zthen_normal, zgoC]) | (with_reducible apply And.intro) | (with_reducible intro _))
      · have hy := hno.out (by simp [h1])
        have hk2 := HK.out
        rw [hy] at hk2
        have fin := fun X => F0.out X _ rfl hk2
        clear hk2 hy
        have hs : sameZ [0, 0] [Z64 p1, Z64 p2] [Z64 q1, Z64 q2] = some false := by rw [same2]; simp [h1]
        repeat' (first | (simp only [zmPack, zfree, owners, Nat.reduceLT, List.filter_cons, List.filter_nil, List.contains_cons, List.contains_nil, Nat.reduceBEq, Bool.or_false, Bool.or_true, Bool.false_or, Bool.true_or, BEq.rfl, chunk, setAt, List.lookup_cons, List.lookup_nil, ZV.val.injEq, ZV.ptr.injEq, ZV.own.injEq, ZV.fz.injEq, ZV.func.injEq, ZV.tuple.injEq, ZV.agg.injEq, ZB.box.injEq, ZB.grow.injEq, Bool.not_eq_false', Prod.mk.injEq, and_assoc, decide_false, decide_true, Bool.not_false, Bool.not_true, Bool.true_eq_false, Bool.false_eq_true, exists_false, Bool.not_eq_false, Bool.not_not, Value.bool.injEq, Value.int.injEq, Option.some.injEq, exists_eq_left', exists_eq_left, exists_and_left, exists_and_right, and_true, true_and, decide_eq_true_eq, decide_eq_false_iff_not, if_true, if_false, Bool.not_eq_true', beq_true, beq_false, ne_eq, not_true_eq_false, not_false_eq_true, reduceCtorEq, List.getD_cons_zero, List.getD_cons_succ, List.getD_nil, List.map_cons, List.map_nil, List.append_nil, Nat.reduceEqDiff, reduceIte, ite_true, ite_false, or_true, true_or, or_false, false_or, true_imp_iff, false_imp_iff, implies_true, imp_false, and_self, imp_self, and_false, false_and, forall_const, take_map_all, Nat.le_refl, Nat.reduceMul, Nat.reduceSub, List.length_cons, List.length_nil, List.length_map, List.length_set, List.all_cons, List.all_nil, Bool.and_self, Option.map_none, Option.map_some, List.set_cons_zero, List.set_cons_succ, Nat.lt_add_one, List.append_assoc, List.cons_append, List.nil_append, List.append_nil, List.length_append, List.take_zero, List.take_succ_cons, List.take_nil, List.drop_zero, List.drop_succ_cons, List.drop_nil, List.getElem?_cons_zero, List.getElem?_cons_succ, List.getElem?_map, Nat.reduceAdd, Nat.reduceLeDiff, Nat.add_eq_zero_iff, and_self, Nat.zero_add, Nat.add_zero, Nat.mul_one, Nat.one_mul, List.flatten_cons, List.flatten_nil, hxa, hxb, a0, s0, lx, hs, *]) | (simp only [zgoO, zgoG, zO_nil, zthen_normal, zgoC]) | (with_reducible apply And.intro) | (with_reducible intro _))
    · rintro s' h' ⟨X, rfl, hyes⟩ ⟨f1, f12, -⟩
      rw [← hlen.out, List.take_of_length_le (Nat.le_refl _), hlen.out, List.take_of_length_le (Nat.le_refl _)] at hyes
      have hy : decide (a = b) = true := decide_eq_true hyes
      have hk2 := HK.out
      rw [hy] at hk2
      have fin := fun X => F0.out X _ rfl hk2
      clear hyes hy hk2
      repeat' (first | (simp only [zmPack, zfree, owners, Nat.reduceLT, List.filter_cons, List.filter_nil, List.contains_cons, List.contains_nil, Nat.reduceBEq, Bool.or_false, Bool.or_true, Bool.false_or, Bool.true_or, BEq.rfl, chunk, setAt, List.lookup_cons, List.lookup_nil, ZV.val.injEq, ZV.ptr.injEq, ZV.own.injEq, ZV.fz.injEq, ZV.func.injEq, ZV.tuple.injEq, ZV.agg.injEq, ZB.box.injEq, ZB.grow.injEq, Bool.not_eq_false', Prod.mk.injEq, and_assoc, decide_false, decide_true, Bool.not_false, Bool.not_true, Bool.true_eq_false, Bool.false_eq_true, exists_false, Bool.not_eq_false, Bool.not_not, Value.bool.injEq, Value.int.injEq, Option.some.injEq, exists_eq_left', exists_eq_left, exists_and_left, exists_and_right, and_true, true_and, decide_eq_true_eq, decide_eq_false_iff_not, if_true, if_false, Bool.not_eq_true', beq_true, beq_false, ne_eq, not_true_eq_false, not_false_eq_true, reduceCtorEq, List.getD_cons_zero, List.getD_cons_succ, List.getD_nil, List.map_cons, List.map_nil, List.append_nil, Nat.reduceEqDiff, reduceIte, ite_true, ite_false, or_true, true_or, or_false, false_or, true_imp_iff, false_imp_iff, implies_true, imp_false, and_self, imp_self, and_false, false_and, forall_const, take_map_all, Nat.le_refl, Nat.reduceMul, Nat.reduceSub, List.length_cons, List.length_nil, List.length_map, List.length_set, List.all_cons, List.all_nil, Bool.and_self, Option.map_none, Option.map_some, List.set_cons_zero, List.set_cons_succ, Nat.lt_add_one, List.append_assoc, List.cons_append, List.nil_append, List.append_nil, List.length_append, List.take_zero, List.take_succ_cons, List.take_nil, List.drop_zero, List.drop_succ_cons, List.drop_nil, List.getElem?_cons_zero, List.getElem?_cons_succ, List.getElem?_map, Nat.reduceAdd, Nat.reduceLeDiff, Nat.add_eq_zero_iff, and_self, Nat.zero_add, Nat.add_zero, Nat.mul_one, Nat.one_mul, List.flatten_cons, List.flatten_nil, *]) | (simp only [zgoO, zgoG, zO_nil, zthen_normal, zgoC]) | (with_reducible apply And.intro) | (with_reducible intro _))
  · have hN : (decide ((a.length : Int) = (b.length : Int))) = false := by simp; omega
    have hy : decide (a = b) = false := decide_eq_false fun e => hlen (by rw [e])
    have hK2 := hK
    rw [hy] at hK2
    have fin := Fin.keep (H0 := H) hK2
    clear hlen hy hK
    repeat' (first | (simp only [zmPack, zfree, owners, Nat.reduceLT, List.filter_cons, List.filter_nil, List.contains_cons, List.contains_nil, Nat.reduceBEq, Bool.or_false, Bool.or_true, Bool.false_or, Bool.true_or, BEq.rfl, chunk, setAt, List.lookup_cons, List.lookup_nil, ZV.val.injEq, ZV.ptr.injEq, ZV.own.injEq, ZV.fz.injEq, ZV.func.injEq, ZV.tuple.injEq, ZV.agg.injEq, ZB.box.injEq, ZB.grow.injEq, Bool.not_eq_false', Prod.mk.injEq, and_assoc, decide_false, decide_true, Bool.not_false, Bool.not_true, Bool.true_eq_false, Bool.false_eq_true, exists_false, Bool.not_eq_false, Bool.not_not, Value.bool.injEq, Value.int.injEq, Option.some.injEq, exists_eq_left', exists_eq_left, exists_and_left, exists_and_right, and_true, true_and, decide_eq_true_eq, decide_eq_false_iff_not, if_true, if_false, Bool.not_eq_true', beq_true, beq_false, ne_eq, not_true_eq_false, not_false_eq_true, reduceCtorEq, List.getD_cons_zero, List.getD_cons_succ, List.getD_nil, List.map_cons, List.map_nil, List.append_nil, Nat.reduceEqDiff, reduceIte, ite_true, ite_false, or_true, true_or, or_false, false_or, true_imp_iff, false_imp_iff, implies_true, imp_false, and_self, imp_self, and_false, false_and, forall_const, take_map_all, Nat.le_refl, Nat.reduceMul, Nat.reduceSub, List.length_cons, List.length_nil, List.length_map, List.length_set, List.all_cons, List.all_nil, Bool.and_self, Option.map_none, Option.map_some, List.set_cons_zero, List.set_cons_succ, Nat.lt_add_one, List.append_assoc, List.cons_append, List.nil_append, List.append_nil, List.length_append, List.take_zero, List.take_succ_cons, List.take_nil, List.drop_zero, List.drop_succ_cons, List.drop_nil, List.getElem?_cons_zero, List.getElem?_cons_succ, List.getElem?_map, Nat.reduceAdd, Nat.reduceLeDiff, Nat.add_eq_zero_iff, and_self, Nat.zero_add, Nat.add_zero, Nat.mul_one, Nat.one_mul, List.flatten_cons, List.flatten_nil, hN, *]) | (simp only [zgoO, zgoG, zO_nil, zthen_normal, zgoC]) | (with_reducible apply And.intro) | (with_reducible intro _))
set_option maxHeartbeats 1000000 in
theorem eqtry_z {exa exb : Bool} {a b : List (Int × Int)} (hl1 : a.length ≤ 1000000000000000) (hl2 : b.length ≤ 1000000000000000) (hK : K (ZBo (decide (a = b))) H) :
    ZC (boxX tb) (cFunc Try.prog) 55 [.fz 2 exa (a.map eP), .fz 2 exb (b.map eP)] L H K := by
  refine ZC.enterL Gh.no (boxX_none (by decide)) f_r_eqtry (by simp) fun hL => ?_
  simp only [c_r_eqtry]
  by_cases hlen : a.length = b.length
  · have hN : ((a.length : Int) = (b.length : Int)) := by omega
    have hlen := Lib.hid hlen
    have fin0 : ∀ X z, refs H.length z = true → K z H → Fin H z (H ++ X) K := fun X z hz k2 => Fin.trunc (Mods.ext H X) hz (by rw [List.take_left]; exact k2)
    have F0 := Lib.hid fin0
    have HK := Lib.hid hK
    clear fin0 hK
    have hll : (a.length : Int) = b.length := hN
    repeat' (first | (simp only [zmPack, zfree, owners, Nat.reduceLT, List.filter_cons, List.filter_nil, List.contains_cons, List.contains_nil, Nat.reduceBEq, Bool.or_false, Bool.or_true, Bool.false_or, Bool.true_or, BEq.rfl, chunk, setAt, List.lookup_cons, List.lookup_nil, ZV.val.injEq, ZV.ptr.injEq, ZV.own.injEq, ZV.fz.injEq, ZV.func.injEq, ZV.tuple.injEq, ZV.agg.injEq, ZB.box.injEq, ZB.grow.injEq, Bool.not_eq_false', Prod.mk.injEq, and_assoc, decide_false, decide_true, Bool.not_false, Bool.not_true, Bool.true_eq_false, Bool.false_eq_true, exists_false, Bool.not_eq_false, Bool.not_not, Value.bool.injEq, Value.int.injEq, Option.some.injEq, exists_eq_left', exists_eq_left, exists_and_left, exists_and_right, and_true, true_and, decide_eq_true_eq, decide_eq_false_iff_not, if_true, if_false, Bool.not_eq_true', beq_true, beq_false, ne_eq, not_true_eq_false, not_false_eq_true, reduceCtorEq, List.getD_cons_zero, List.getD_cons_succ, List.getD_nil, List.map_cons, List.map_nil, List.append_nil, Nat.reduceEqDiff, reduceIte, ite_true, ite_false, or_true, true_or, or_false, false_or, true_imp_iff, false_imp_iff, implies_true, imp_false, and_self, imp_self, and_false, false_and, forall_const, take_map_all, Nat.le_refl, Nat.reduceMul, Nat.reduceSub, List.length_cons, List.length_nil, List.length_map, List.length_set, List.all_cons, List.all_nil, Bool.and_self, Option.map_none, Option.map_some, List.set_cons_zero, List.set_cons_succ, Nat.lt_add_one, List.append_assoc, List.cons_append, List.nil_append, List.append_nil, List.length_append, List.take_zero, List.take_succ_cons, List.take_nil, List.drop_zero, List.drop_succ_cons, List.drop_nil, List.getElem?_cons_zero, List.getElem?_cons_succ, List.getElem?_map, Nat.reduceAdd, Nat.reduceLeDiff, Nat.add_eq_zero_iff, and_self, Nat.zero_add, Nat.add_zero, Nat.mul_one, Nat.one_mul, List.flatten_cons, List.flatten_nil, hN, *]) | (simp only [zgoO, zgoG, zO_nil, zthen_normal, zgoC]) | (with_reducible apply And.intro) | (with_reducible intro _))
    refine zW_forK [(1, .fz 2 exb (b.map eP)), (12, .fz 2 exa (a.map eP))] b.length (fun k s' h' => ∃ X, h' = H ++ X ∧ a.take k = b.take k) (by omega) ⟨rfl, rfl, rfl, rfl, rfl, rfl⟩ rfl rfl (by repeat' (first | exact trivial | (refine ⟨rfl, ?_⟩) | (refine ⟨by simp only [zupd_at, Nat.reduceEqDiff, reduceIte]; assumption, ?_⟩))) rfl rfl (by decide) ⟨[], by simp, by simp⟩ ?_ ?_
    · rintro k s' h' hk ⟨X, rfl, hyes⟩ hi hl ⟨f1, f12, -⟩
      have hka : k < a.length := by rw [hlen.out]; exact hk
      have hxa : a[k]? = some a[k] := List.getElem?_eq_getElem hka
      have hxb : b[k]? = some b[k] := List.getElem?_eq_getElem hk
      have hya0 : a.take (k + 1) = b.take (k + 1) ↔ a[k] = b[k] := by
        rw [List.take_succ_eq_append_getElem hka, List.take_succ_eq_append_getElem hk, hyes, List.append_cancel_left_eq]; simp
      have hya := Lib.hid hya0
      have hno0 : a[k] ≠ b[k] → decide (a = b) = false := fun he => decide_eq_false fun e => he (by subst e; rfl)
      have hno := Lib.hid hno0
      clear hya0 hno0
      obtain ⟨p, hp⟩ : ∃ p, p = a[k] := ⟨_, rfl⟩
      obtain ⟨q, hq⟩ : ∃ q, q = b[k] := ⟨_, rfl⟩
      rw [← hp] at hxa hya hno
      rw [← hq] at hxb hya hno
      obtain ⟨p1, p2⟩ := p
      obtain ⟨q1, q2⟩ := q
      have a0 : ∀ A : ZB, (H ++ (X ++ [A]))[H.length + X.length]? = some A := fun A => by rw [← List.append_assoc, ← List.length_append]; exact H_at0 ..
      have s0 : ∀ A B : ZB, (H ++ (X ++ [A])).set (H.length + X.length) B = H ++ (X ++ [B]) := fun A B => by rw [← List.append_assoc, ← List.length_append, List.set_append_right _ _ (Nat.le_refl _), Nat.sub_self, List.append_assoc]; rfl
      have lx : L (H.length + X.length) = true := hL _
      clear hp hq hyes hll hN
      by_cases h1 : p1 = q1
      · by_cases h2 : p2 = q2
        · have fin : a.take (k + 1) = b.take (k + 1) := hya.out.2 (by rw [h1, h2])
          have HF := Lib.hid fin
          clear fin
          subst h1 h2
          have hs : sameZ [0, 0] [Z64 p1, Z64 p2] [Z64 p1, Z64 p2] = some true := by rw [same2]; simp
          repeat' (first | (simp only [zmPack, zfree, owners, Nat.reduceLT, List.filter_cons, List.filter_nil, List.contains_cons, List.contains_nil, Nat.reduceBEq, Bool.or_false, Bool.or_true, Bool.false_or, Bool.true_or, BEq.rfl, chunk, setAt, List.lookup_cons, List.lookup_nil, ZV.val.injEq, ZV.ptr.injEq, ZV.own.injEq, ZV.fz.injEq, ZV.func.injEq, ZV.tuple.injEq, ZV.agg.injEq, ZB.box.injEq, ZB.grow.injEq, Bool.not_eq_false', Prod.mk.injEq, and_assoc, decide_false, decide_true, Bool.not_false, Bool.not_true, Bool.true_eq_false, Bool.false_eq_true, exists_false, Bool.not_eq_false, Bool.not_not, Value.bool.injEq, Value.int.injEq, Option.some.injEq, exists_eq_left', exists_eq_left, exists_and_left, exists_and_right, and_true, true_and, decide_eq_true_eq, decide_eq_false_iff_not, if_true, if_false, Bool.not_eq_true', beq_true, beq_false, ne_eq, not_true_eq_false, not_false_eq_true, reduceCtorEq, List.getD_cons_zero, List.getD_cons_succ, List.getD_nil, List.map_cons, List.map_nil, List.append_nil, Nat.reduceEqDiff, reduceIte, ite_true, ite_false, or_true, true_or, or_false, false_or, true_imp_iff, false_imp_iff, implies_true, imp_false, and_self, imp_self, and_false, false_and, forall_const, take_map_all, Nat.le_refl, Nat.reduceMul, Nat.reduceSub, List.length_cons, List.length_nil, List.length_map, List.length_set, List.all_cons, List.all_nil, Bool.and_self, Option.map_none, Option.map_some, List.set_cons_zero, List.set_cons_succ, Nat.lt_add_one, List.append_assoc, List.cons_append, List.nil_append, List.append_nil, List.length_append, List.take_zero, List.take_succ_cons, List.take_nil, List.drop_zero, List.drop_succ_cons, List.drop_nil, List.getElem?_cons_zero, List.getElem?_cons_succ, List.getElem?_map, Nat.reduceAdd, Nat.reduceLeDiff, Nat.add_eq_zero_iff, and_self, Nat.zero_add, Nat.add_zero, Nat.mul_one, Nat.one_mul, List.flatten_cons, List.flatten_nil, hxa, hxb, a0, s0, lx, hs, *]) | (simp only [zgoO, zgoG, zO_nil, zthen_normal, zgoC]) | (with_reducible apply And.intro) | (with_reducible intro _))
          · exact ⟨_, rfl⟩
          · exact HF.out
        · have hy := hno.out (by simp [h2])
          have hk2 := HK.out
          rw [hy] at hk2
          have fin := fun X => F0.out X _ rfl hk2
          clear hk2 hy
          have hs : sameZ [0, 0] [Z64 p1, Z64 p2] [Z64 q1, Z64 q2] = some false := by rw [same2]; simp [h2]
          subst h1
          repeat' (first | (simp only [zmPack, zfree, owners, Nat.reduceLT, List.filter_cons, List.filter_nil, List.contains_cons, List.contains_nil, Nat.reduceBEq, Bool.or_false, Bool.or_true, Bool.false_or, Bool.true_or, BEq.rfl, chunk, setAt, List.lookup_cons, List.lookup_nil, ZV.val.injEq, ZV.ptr.injEq, ZV.own.injEq, ZV.fz.injEq, ZV.func.injEq, ZV.tuple.injEq, ZV.agg.injEq, ZB.box.injEq, ZB.grow.injEq, Bool.not_eq_false', Prod.mk.injEq, and_assoc, decide_false, decide_true, Bool.not_false, Bool.not_true, Bool.true_eq_false, Bool.false_eq_true, exists_false, Bool.not_eq_false, Bool.not_not, Value.bool.injEq, Value.int.injEq, Option.some.injEq, exists_eq_left', exists_eq_left, exists_and_left, exists_and_right, and_true, true_and, decide_eq_true_eq, decide_eq_false_iff_not, if_true, if_false, Bool.not_eq_true', beq_true, beq_false, ne_eq, not_true_eq_false, not_false_eq_true, reduceCtorEq, List.getD_cons_zero, List.getD_cons_succ, List.getD_nil, List.map_cons, List.map_nil, List.append_nil, Nat.reduceEqDiff, reduceIte, ite_true, ite_false, or_true, true_or, or_false, false_or, true_imp_iff, false_imp_iff, implies_true, imp_false, and_self, imp_self, and_false, false_and, forall_const, take_map_all, Nat.le_refl, Nat.reduceMul, Nat.reduceSub, List.length_cons, List.length_nil, List.length_map, List.length_set, List.all_cons, List.all_nil, Bool.and_self, Option.map_none, Option.map_some, List.set_cons_zero, List.set_cons_succ, Nat.lt_add_one, List.append_assoc, List.cons_append, List.nil_append, List.append_nil, List.length_append, List.take_zero, List.take_succ_cons, List.take_nil, List.drop_zero, List.drop_succ_cons, List.drop_nil, List.getElem?_cons_zero, List.getElem?_cons_succ, List.getElem?_map, Nat.reduceAdd, Nat.reduceLeDiff, Nat.add_eq_zero_iff, and_self, Nat.zero_add, Nat.add_zero, Nat.mul_one, Nat.one_mul, List.flatten_cons, List.flatten_nil, hxa, hxb, a0, s0, lx, hs, *]) | (simp only [zgoO, zgoG, zO_nil, zthen_normal, zgoC]) | (with_reducible apply And.intro) | (with_reducible intro _))
      · have hy := hno.out (by simp [h1])
        have hk2 := HK.out
        rw [hy] at hk2
        have fin := fun X => F0.out X _ rfl hk2
        clear hk2 hy
        have hs : sameZ [0, 0] [Z64 p1, Z64 p2] [Z64 q1, Z64 q2] = some false := by rw [same2]; simp [h1]
        repeat' (first | (simp only [zmPack, zfree, owners, Nat.reduceLT, List.filter_cons, List.filter_nil, List.contains_cons, List.contains_nil, Nat.reduceBEq, Bool.or_false, Bool.or_true, Bool.false_or, Bool.true_or, BEq.rfl, chunk, setAt, List.lookup_cons, List.lookup_nil, ZV.val.injEq, ZV.ptr.injEq, ZV.own.injEq, ZV.fz.injEq, ZV.func.injEq, ZV.tuple.injEq, ZV.agg.injEq, ZB.box.injEq, ZB.grow.injEq, Bool.not_eq_false', Prod.mk.injEq, and_assoc, decide_false, decide_true, Bool.not_false, Bool.not_true, Bool.true_eq_false, Bool.false_eq_true, exists_false, Bool.not_eq_false, Bool.not_not, Value.bool.injEq, Value.int.injEq, Option.some.injEq, exists_eq_left', exists_eq_left, exists_and_left, exists_and_right, and_true, true_and, decide_eq_true_eq, decide_eq_false_iff_not, if_true, if_false, Bool.not_eq_true', beq_true, beq_false, ne_eq, not_true_eq_false, not_false_eq_true, reduceCtorEq, List.getD_cons_zero, List.getD_cons_succ, List.getD_nil, List.map_cons, List.map_nil, List.append_nil, Nat.reduceEqDiff, reduceIte, ite_true, ite_false, or_true, true_or, or_false, false_or, true_imp_iff, false_imp_iff, implies_true, imp_false, and_self, imp_self, and_false, false_and, forall_const, take_map_all, Nat.le_refl, Nat.reduceMul, Nat.reduceSub, List.length_cons, List.length_nil, List.length_map, List.length_set, List.all_cons, List.all_nil, Bool.and_self, Option.map_none, Option.map_some, List.set_cons_zero, List.set_cons_succ, Nat.lt_add_one, List.append_assoc, List.cons_append, List.nil_append, List.append_nil, List.length_append, List.take_zero, List.take_succ_cons, List.take_nil, List.drop_zero, List.drop_succ_cons, List.drop_nil, List.getElem?_cons_zero, List.getElem?_cons_succ, List.getElem?_map, Nat.reduceAdd, Nat.reduceLeDiff, Nat.add_eq_zero_iff, and_self, Nat.zero_add, Nat.add_zero, Nat.mul_one, Nat.one_mul, List.flatten_cons, List.flatten_nil, hxa, hxb, a0, s0, lx, hs, *]) | (simp only [zgoO, zgoG, zO_nil, zthen_normal, zgoC]) | (with_reducible apply And.intro) | (with_reducible intro _))
    · rintro s' h' ⟨X, rfl, hyes⟩ ⟨f1, f12, -⟩
      rw [← hlen.out, List.take_of_length_le (Nat.le_refl _), hlen.out, List.take_of_length_le (Nat.le_refl _)] at hyes
      have hy : decide (a = b) = true := decide_eq_true hyes
      have hk2 := HK.out
      rw [hy] at hk2
      have fin := fun X => F0.out X _ rfl hk2
      clear hyes hy hk2
      repeat' (first | (simp only [zmPack, zfree, owners, Nat.reduceLT, List.filter_cons, List.filter_nil, List.contains_cons, List.contains_nil, Nat.reduceBEq, Bool.or_false, Bool.or_true, Bool.false_or, Bool.true_or, BEq.rfl, chunk, setAt, List.lookup_cons, List.lookup_nil, ZV.val.injEq, ZV.ptr.injEq, ZV.own.injEq, ZV.fz.injEq, ZV.func.injEq, ZV.tuple.injEq, ZV.agg.injEq, ZB.box.injEq, ZB.grow.injEq, Bool.not_eq_false', Prod.mk.injEq, and_assoc, decide_false, decide_true, Bool.not_false, Bool.not_true, Bool.true_eq_false, Bool.false_eq_true, exists_false, Bool.not_eq_false, Bool.not_not, Value.bool.injEq, Value.int.injEq, Option.some.injEq, exists_eq_left', exists_eq_left, exists_and_left, exists_and_right, and_true, true_and, decide_eq_true_eq, decide_eq_false_iff_not, if_true, if_false, Bool.not_eq_true', beq_true, beq_false, ne_eq, not_true_eq_false, not_false_eq_true, reduceCtorEq, List.getD_cons_zero, List.getD_cons_succ, List.getD_nil, List.map_cons, List.map_nil, List.append_nil, Nat.reduceEqDiff, reduceIte, ite_true, ite_false, or_true, true_or, or_false, false_or, true_imp_iff, false_imp_iff, implies_true, imp_false, and_self, imp_self, and_false, false_and, forall_const, take_map_all, Nat.le_refl, Nat.reduceMul, Nat.reduceSub, List.length_cons, List.length_nil, List.length_map, List.length_set, List.all_cons, List.all_nil, Bool.and_self, Option.map_none, Option.map_some, List.set_cons_zero, List.set_cons_succ, Nat.lt_add_one, List.append_assoc, List.cons_append, List.nil_append, List.append_nil, List.length_append, List.take_zero, List.take_succ_cons, List.take_nil, List.drop_zero, List.drop_succ_cons, List.drop_nil, List.getElem?_cons_zero, List.getElem?_cons_succ, List.getElem?_map, Nat.reduceAdd, Nat.reduceLeDiff, Nat.add_eq_zero_iff, and_self, Nat.zero_add, Nat.add_zero, Nat.mul_one, Nat.one_mul, List.flatten_cons, List.flatten_nil, *]) | (simp only [zgoO, zgoG, zO_nil, zthen_normal, zgoC]) | (with_reducible apply And.intro) | (with_reducible intro _))
  · have hN : (decide ((a.length : Int) = (b.length : Int))) = false := by simp; omega
    have hy : decide (a = b) = false := decide_eq_false fun e => hlen (by rw [e])
    have hK2 := hK
    rw [hy] at hK2
    have fin := Fin.keep (H0 := H) hK2
    clear hlen hy hK
    repeat' (first | (simp only [zmPack, zfree, owners, Nat.reduceLT, List.filter_cons, List.filter_nil, List.contains_cons, List.contains_nil, Nat.reduceBEq, Bool.or_false, Bool.or_true, Bool.false_or, Bool.true_or, BEq.rfl, chunk, setAt, List.lookup_cons, List.lookup_nil, ZV.val.injEq, ZV.ptr.injEq, ZV.own.injEq, ZV.fz.injEq, ZV.func.injEq, ZV.tuple.injEq, ZV.agg.injEq, ZB.box.injEq, ZB.grow.injEq, Bool.not_eq_false', Prod.mk.injEq, and_assoc, decide_false, decide_true, Bool.not_false, Bool.not_true, Bool.true_eq_false, Bool.false_eq_true, exists_false, Bool.not_eq_false, Bool.not_not, Value.bool.injEq, Value.int.injEq, Option.some.injEq, exists_eq_left', exists_eq_left, exists_and_left, exists_and_right, and_true, true_and, decide_eq_true_eq, decide_eq_false_iff_not, if_true, if_false, Bool.not_eq_true', beq_true, beq_false, ne_eq, not_true_eq_false, not_false_eq_true, reduceCtorEq, List.getD_cons_zero, List.getD_cons_succ, List.getD_nil, List.map_cons, List.map_nil, List.append_nil, Nat.reduceEqDiff, reduceIte, ite_true, ite_false, or_true, true_or, or_false, false_or, true_imp_iff, false_imp_iff, implies_true, imp_false, and_self, imp_self, and_false, false_and, forall_const, take_map_all, Nat.le_refl, Nat.reduceMul, Nat.reduceSub, List.length_cons, List.length_nil, List.length_map, List.length_set, List.all_cons, List.all_nil, Bool.and_self, Option.map_none, Option.map_some, List.set_cons_zero, List.set_cons_succ, Nat.lt_add_one, List.append_assoc, List.cons_append, List.nil_append, List.append_nil, List.length_append, List.take_zero, List.take_succ_cons, List.take_nil, List.drop_zero, List.drop_succ_cons, List.drop_nil, List.getElem?_cons_zero, List.getElem?_cons_succ, List.getElem?_map, Nat.reduceAdd, Nat.reduceLeDiff, Nat.add_eq_zero_iff, and_self, Nat.zero_add, Nat.add_zero, Nat.mul_one, Nat.one_mul, List.flatten_cons, List.flatten_nil, hN, *]) | (simp only [zgoO, zgoG, zO_nil, zthen_normal, zgoC]) | (with_reducible apply And.intro) | (with_reducible intro _))
end Go.Proofs.Ytpmmiaadfnildaa

namespace Go.Proofs.Ytpmmiaadfnildaa
open Go Go.RowKit
set_option linter.unusedVariables false
set_option linter.unusedSimpArgs false

def oddB (u : Int) : Bool := decide (u / 4503599627370496 % 2048 = 2047 ∧ u % 4503599627370496 ≠ 0)
theorem odd_spoilt (u : Int) (h0 : 0 ≤ u) (h1 : u < 18446744073709551616) : spoiltB u = oddB u := by
  rw [Bool.eq_iff_iff]; simp [spoiltB, oddB]; omega

theorem boxE_3 (n : Int) : boxE 3 n = 0 := by simp [boxE]
theorem boxE_0 {k n : Int} (h : boxE k n = 0) : 0 ≤ k ∧ k ≤ 6 ∧ (k = 3 ∨ (loI k ≤ n ∧ n ≤ hiI k)) := by
  unfold boxE at h
  split at h
  · omega
  · split at h
    · omega
    · split at h <;> omega
theorem boxW_tag {k n : Int} (h : boxE k n = 0) (h3 : k ≠ 3) : boxW k n = tagI k + n % 4294967296 := by
  obtain ⟨h1, h2, h4⟩ := boxE_0 h
  unfold boxW
  rw [if_neg (by omega), if_neg h3, if_neg (by omega)]
theorem boxW_float (n : Int) : boxW 3 n = if spoiltB (IntKind.u64.wrap n) then 9221120237041090561 else IntKind.u64.wrap n := by simp [boxW]
theorem float_lt (n : Int) : boxW 3 n < 65529 * 281474976710656 + 0 ∨ 65529 * 281474976710656 + 1970324836974592 ≤ boxW 3 n := by
  rw [boxW_float]
  have := u64r n
  split
  · omega
  · rename_i h
    simp only [spoiltB, decide_eq_true_eq] at h
    omega
theorem tag_range {k n : Int} (h : boxE k n = 0) (h3 : k ≠ 3) : 65529 * 281474976710656 ≤ boxW k n ∧ boxW k n < 65529 * 281474976710656 + 1970324836974592 := by
  obtain ⟨h1, h2, _⟩ := boxE_0 h
  rw [boxW_tag h h3]
  unfold tagI
  split <;> omega
theorem boxW_range {k n : Int} : 0 ≤ boxW k n ∧ boxW k n < 18446744073709551616 := by
  have := u64r n
  unfold boxW tagI
  repeat' split
  all_goals omega
/-- A value that is no float: its word is one with a tag, and tells its kind. -/
theorem tag_word {k n : Int} (h : boxE k n = 0) (h3 : k ≠ 3) (hn : -9223372036854775808 ≤ n ∧ n ≤ 9223372036854775807) :
    unE (boxW k n) = 0 ∧ unKind (boxW k n) = k ∧ unNum (boxW k n) = n ∧ oddB (boxW k n) = true := by
  obtain ⟨h1, h2, h4⟩ := boxE_0 h
  have hb : loI k ≤ n ∧ n ≤ hiI k := by omega
  have hw := boxW_tag h h3
  have hm : 0 ≤ n % 4294967296 ∧ n % 4294967296 < 4294967296 := by omega
  have ht : isTag (boxW k n) = true := by
    rw [hw]; unfold isTag tagI; simp only [decide_eq_true_eq]; split <;> omega
  have hk : unK (boxW k n) = k := by
    rw [hw]; unfold unK unK0 tagI; split <;> split <;> omega
  have hnn : unN (boxW k n) = n := by
    unfold unN
    rw [hk, hw]
    have e : (tagI k + n % 4294967296) % 4294967296 = n % 4294967296 := by unfold tagI; split <;> omega
    rw [e]
    unfold loI hiI at hb
    split
    · rename_i h2'; subst h2'
      simp at hb
      have e2 : wrap32 (n % 4294967296) = n := by unfold wrap32; omega
      rw [e2]
      exact IntWalk.wrap64_in n hn
    · repeat' (split at hb)
      all_goals (simp_all; try omega)
  have he : unE (boxW k n) = 0 := by simp [unE, ht, hk, hnn, h]
  refine ⟨he, by simp [unKind, he, ht, hk], by simp [unNum, he, ht, hnn], ?_⟩
  rw [hw]; unfold oddB tagI; simp only [decide_eq_true_eq]; split <;> omega
theorem wrap64_u64 (n : Int) (hn : -9223372036854775808 ≤ n ∧ n ≤ 9223372036854775807) : wrap64 (IntKind.u64.wrap n) = n := by
  simp only [IntKind.wrap_u64]; unfold wrap64; omega
theorem u64_wrap64 (u : Int) (h0 : 0 ≤ u) (h1 : u < 18446744073709551616) : IntKind.u64.wrap (wrap64 u) = u := by
  simp only [IntKind.wrap_u64]; unfold wrap64; omega
theorem notTag_float (n : Int) : isTag (boxW 3 n) = false := by
  have := float_lt n
  unfold isTag
  simp only [decide_eq_false_iff_not]
  omega
theorem float_back (n : Int) (hn : -9223372036854775808 ≤ n ∧ n ≤ 9223372036854775807) : unE (boxW 3 n) = 0 ∧ unKind (boxW 3 n) = 3 ∧ (unNum (boxW 3 n) = n ∨ oddB (IntKind.u64.wrap n) = true) := by
  have ht := notTag_float n
  have hE : unE (boxW 3 n) = 0 := by
    have hx := boxW_float n
    unfold unE
    rw [ht]
    simp only [Bool.false_eq_true, if_false]
    rw [if_neg]
    rintro ⟨h1, h2⟩
    rw [hx] at h1 h2
    split at h1
    · rename_i h; rw [if_pos h] at h2; exact h2 rfl
    · rename_i h; exact h h1
  refine ⟨hE, by simp [unKind, hE, ht], ?_⟩
  cases ho : oddB (IntKind.u64.wrap n) with
  | true => exact .inr rfl
  | false =>
    left
    simp only [unNum, hE, ht, if_true]
    rw [boxW_float, odd_spoilt _ (u64r n).1 (u64r n).2, ho]
    simpa using wrap64_u64 n hn
theorem word_back (u : Int) (h0 : 0 ≤ u) (h1 : u < 18446744073709551616) (he : unE u = 0) : boxE (unKind u) (unNum u) = 0 ∧ boxW (unKind u) (unNum u) = u := by
  cases ht : isTag u with
  | true =>
    have e1 : unKind u = unK u := by simp [unKind, he, ht]
    have e2 : unNum u = unN u := by simp [unNum, he, ht]
    rw [e1, e2]
    unfold unE at he
    rw [ht] at he
    simp only [if_true] at he
    split at he
    · assumption
    · omega
  | false =>
    have e1 : unKind u = 3 := by simp [unKind, he, ht]
    have e2 : unNum u = wrap64 u := by simp [unNum, he, ht]
    rw [e1, e2]
    refine ⟨boxE_3 _, ?_⟩
    rw [boxW_float, u64_wrap64 u h0 h1]
    unfold unE at he
    rw [ht] at he
    simp only [Bool.false_eq_true, if_false] at he
    split at he
    · omega
    · rename_i h
      split
      · rename_i hs
        exact (Decidable.not_not.1 (fun hne => h ⟨hs, fun e => hne e.symm⟩))
      · rfl
theorem i64_bounds {n : Int} (h : (Lit.int .i64 n).wf = true) : -9223372036854775808 ≤ n ∧ n ≤ 9223372036854775807 := by
  simpa [Lit.wf, IntKind.min, IntKind.max, IntKind.signed, IntKind.bits] using h
theorem u64_bounds {n : Int} (h : (Lit.int .u64 n).wf = true) : 0 ≤ n ∧ n < 18446744073709551616 := by
  have : 0 ≤ n ∧ n ≤ 18446744073709551615 := by simpa [Lit.wf, IntKind.min, IntKind.max, IntKind.signed, IntKind.bits] using h
  omega
end Go.Proofs.Ytpmmiaadfnildaa

namespace Go.Proofs.Ytpmmiaadfnildaa
open Go Go.RowKit
set_option linter.unusedVariables false
set_option linter.unusedSimpArgs false
/-- From a on these words were read, and nothing else; nothing is bad. -/
def Rds (l o : List Int) (a : Nat) (s : RS) : Prop := s = (a + o.length, false) ∧ (l.drop a).take o.length = o
theorem Rds.nil {l : List Int} {a : Nat} : Rds l [] a (a, false) := ⟨rfl, rfl⟩
theorem Rds.app {l o1 o2 : List Int} {a : Nat} {s1 s2 : RS} (h1 : Rds l o1 a s1) (h2 : Rds l o2 s1.1 s2) : Rds l (o1 ++ o2) a s2 := by
  obtain ⟨rfl, e1⟩ := h1
  obtain ⟨rfl, e2⟩ := h2
  refine ⟨by simp; omega, ?_⟩
  simp only at e2
  rw [List.length_append, List.take_add, List.drop_drop, e1, e2]
theorem i64_u64 {x : Int} (h : 0 ≤ x ∧ x < 18446744073709551616) : u64 (IntKind.i64.wrap x) = x := by
  unfold u64; simp only [IntKind.wrap_u64, IntKind.wrap_i64]; omega
def nOk (n : Int) : Prop := -9223372036854775808 ≤ n ∧ n ≤ 9223372036854775807
def vOk (v : Int × Int) : Prop := boxE v.1 v.2 = 0 ∧ nOk v.2
theorem nOk_wrap {x : Int} : nOk (IntKind.i64.wrap x) := by unfold nOk; simp only [IntKind.wrap_i64]; omega
theorem nOk_un {u : Int} (h : 0 ≤ u ∧ u < 18446744073709551616) : nOk (unNum u) := by
  unfold unNum nOk
  split
  · split
    · unfold unN; repeat' split
      all_goals (try unfold wrap32); all_goals (try unfold wrap64)
      all_goals omega
    · unfold wrap64; omega
  · omega
section
variable {l : List Int} (hu : ∀ x ∈ l, 0 ≤ x ∧ x < 18446744073709551616)
include hu
theorem word_rd {s : RS} (h : (rWord l s).2.2 = false) : s.2 = false ∧ Rds l [(rWord l s).1] s.1 (rWord l s).2 ∧ 0 ≤ (rWord l s).1 ∧ (rWord l s).1 < 18446744073709551616 := by
  obtain ⟨a, b⟩ := s
  unfold rWord at h ⊢
  split at h
  · rename_i x hx
    simp only at h hx
    subst h
    refine ⟨rfl, ?_⟩
    simp only [hx]
    refine ⟨⟨rfl, ?_⟩, hu x (List.mem_of_getElem? hx)⟩
    have hlt := (List.getElem?_eq_some_iff.1 hx).1
    rw [List.drop_eq_getElem_cons hlt, ← (List.getElem?_eq_some_iff.1 hx).2]; rfl
  · simp at h
theorem num_rd {s : RS} (h : (rNum l s).2.2 = false) : s.2 = false ∧ Rds l [u64 (rNum l s).1] s.1 (rNum l s).2 ∧ nOk (rNum l s).1 := by
  obtain ⟨h1, h2, h3⟩ := word_rd hu (s := s) h
  refine ⟨h1, ?_⟩
  unfold rNum
  simp only
  rw [i64_u64 h3]
  exact ⟨h2, nOk_wrap⟩
theorem many_rd {m : Int} {s : RS} (h : (rMany m l s).2.2 = false) : s.2 = false ∧ Rds l [u64 (rMany m l s).1] s.1 (rMany m l s).2 ∧ 0 ≤ (rMany m l s).1 ∧ (rMany m l s).1 ≤ m := by
  unfold rMany at h ⊢
  split at h
  · simp at h
  · rename_i hc
    rw [if_neg hc]
    obtain ⟨h1, h2, _⟩ := num_rd hu h
    exact ⟨h1, h2, by omega, by omega⟩
theorem val_rd {s : RS} (h : (rVal l s).2.2 = false) : s.2 = false ∧ Rds l [bw (rVal l s).1] s.1 (rVal l s).2 ∧ vOk (rVal l s).1 := by
  unfold rVal at h ⊢
  simp only [Bool.or_eq_false_iff, Bool.not_eq_false', decide_eq_true_eq] at h
  obtain ⟨h0, h1⟩ := h
  obtain ⟨q1, q2, q3, q4⟩ := word_rd hu h0
  obtain ⟨w1, w2⟩ := word_back _ q3 q4 h1
  refine ⟨q1, ?_, w1, nOk_un ⟨q3, q4⟩⟩
  simp only [bw, w2, h1, decide_true, Bool.not_true, Bool.or_false]
  exact q2
omit hu in
theorem rep_rd {α : Type} {r : RS → α × RS} {o : α → List Int} {Q : α → Prop} (hr : ∀ s, (r s).2.2 = false → s.2 = false ∧ Rds l (o (r s).1) s.1 (r s).2 ∧ Q (r s).1) : ∀ (n : Nat) (s : RS), (rRep r n s).2.2 = false →
    s.2 = false ∧ Rds l ((rRep r n s).1.flatMap o) s.1 (rRep r n s).2 ∧ (rRep r n s).1.length = n ∧ ∀ x ∈ (rRep r n s).1, Q x
  | 0, s, h => by
    refine ⟨h, ⟨?_, rfl⟩, rfl, fun x hx => by cases hx⟩
    show s = (s.1 + 0, false)
    exact Prod.ext rfl h
  | n + 1, s, h => by
    rw [rRep] at h ⊢
    split at h
    · rename_i hb; rw [hb] at h; cases h
    · rename_i hb
      rw [if_neg hb]
      simp only at h ⊢
      obtain ⟨h1, h2, h3⟩ := hr _ h
      obtain ⟨q1, q2, q3, q4⟩ := rep_rd hr n s h1
      refine ⟨q1, ?_, by simp [q3], fun x hx => ?_⟩
      · rw [List.flatMap_append]
        refine q2.app ?_
        simpa using h2
      · rcases List.mem_append.1 hx with hx | hx
        · exact q4 x hx
        · rw [List.mem_singleton.1 hx]; exact h3
theorem list_rd {α : Type} {r : RS → α × RS} {o : α → List Int} {Q : α → Prop} {m : Int} (hr : ∀ s, (r s).2.2 = false → s.2 = false ∧ Rds l (o (r s).1) s.1 (r s).2 ∧ Q (r s).1) {s : RS} (h : (rList r m l s).2.2 = false) :
    s.2 = false ∧ Rds l ([u64 (rList r m l s).1.length] ++ (rList r m l s).1.flatMap o) s.1 (rList r m l s).2 ∧ ((rList r m l s).1.length : Int) ≤ m ∧ ∀ x ∈ (rList r m l s).1, Q x := by
  unfold rList at h ⊢
  obtain ⟨h1, h2, h3, h4⟩ := rep_rd hr _ _ h
  obtain ⟨q1, q2, q3, q4⟩ := many_rd hu h1
  have e : ((rRep r (rMany m l s).1.toNat (rMany m l s).2).1.length : Int) = (rMany m l s).1 := by rw [h3]; omega
  refine ⟨q1, ?_, by omega, h4⟩
  rw [e]
  exact q2.app h2
theorem try_rd (s : RS) (h : (rTry l s).2.2 = false) : s.2 = false ∧ Rds l ((fun t : Int × Int => [u64 t.1, u64 t.2]) (rTry l s).1) s.1 (rTry l s).2 ∧ (fun t : Int × Int => nOk t.1 ∧ nOk t.2) (rTry l s).1 := by
  unfold rTry at h ⊢
  simp only at h ⊢
  obtain ⟨h1, h2, h3⟩ := num_rd hu h
  obtain ⟨q1, q2, q3⟩ := num_rd hu h1
  exact ⟨q1, q2.app h2, q3, h3⟩
omit hu in
theorem flatMap_one {α : Type} {f : α → Int} {m : List α} : m.flatMap (fun x => [f x]) = m.map f := by
  induction m with
  | nil => rfl
  | cons x r ih => rw [List.flatMap_cons, ih]; rfl
theorem vals_rd {m : Int} {s : RS} (h : (rVals m l s).2.2 = false) :
    s.2 = false ∧ Rds l ([u64 (rVals m l s).1.length] ++ (rVals m l s).1.map bw) s.1 (rVals m l s).2 ∧ ((rVals m l s).1.length : Int) ≤ m ∧ ∀ x ∈ (rVals m l s).1, vOk x := by
  have := list_rd hu (r := rVal l) (o := fun v => [bw v]) (Q := vOk) (fun s h => val_rd hu h) h
  rw [flatMap_one] at this
  exact this
theorem tries_rd {m : Int} {s : RS} (h : (rList (rTry l) m l s).2.2 = false) :
    s.2 = false ∧ Rds l ([u64 (rList (rTry l) m l s).1.length] ++ tryO (rList (rTry l) m l s).1) s.1 (rList (rTry l) m l s).2 ∧ ((rList (rTry l) m l s).1.length : Int) ≤ m ∧ ∀ t ∈ (rList (rTry l) m l s).1, nOk t.1 ∧ nOk t.2 := by
  exact list_rd hu (o := fun t : Int × Int => [u64 t.1, u64 t.2]) (Q := fun t => nOk t.1 ∧ nOk t.2) (fun s h => try_rd hu s h) h
/-- A frame that Of takes. -/
structure frOk (f : Fr) : Prop where
  v : vOk f.2.2.2.2.1
  vs : ∀ x ∈ f.2.2.2.2.2.1, vOk x
  l1 : f.2.2.2.2.2.1.length ≤ 60
  l2 : f.2.2.2.2.2.2.length ≤ 20
  ts : ∀ t ∈ f.2.2.2.2.2.2, nOk t.1 ∧ nOk t.2
  ns : nOk f.1 ∧ nOk f.2.1 ∧ nOk f.2.2.1 ∧ nOk f.2.2.2.1
theorem frame_rd (s : RS) (h : (rFrame l s).2.2 = false) : s.2 = false ∧ Rds l (frO (rFrame l s).1) s.1 (rFrame l s).2 ∧ frOk (rFrame l s).1 := by
  unfold rFrame at h ⊢
  simp only at h ⊢
  obtain ⟨g7, r7, c7, d7⟩ := tries_rd hu h
  obtain ⟨g6, r6, c6, d6⟩ := vals_rd hu g7
  obtain ⟨g5, r5, c5⟩ := val_rd hu g6
  obtain ⟨g4, r4, c4⟩ := num_rd hu g5
  obtain ⟨g3, r3, c3⟩ := num_rd hu g4
  obtain ⟨g2, r2, c2⟩ := num_rd hu g3
  obtain ⟨g1, r1, c1⟩ := num_rd hu g2
  refine ⟨g1, ?_, c5, d6, (Int.ofNat_le (n := 60)).1 c6, (Int.ofNat_le (n := 20)).1 c7, d7, c1, c2, c3, c4⟩
  have := r1.app (r2.app (r3.app (r4.app (r5.app (r6.app r7)))))
  simpa [frO] using this
theorem frames_rd {m : Int} {s : RS} (h : (rList (rFrame l) m l s).2.2 = false) :
    s.2 = false ∧ Rds l ([u64 (rList (rFrame l) m l s).1.length] ++ frsO (rList (rFrame l) m l s).1) s.1 (rList (rFrame l) m l s).2 ∧ ((rList (rFrame l) m l s).1.length : Int) ≤ m ∧ ∀ f ∈ (rList (rFrame l) m l s).1, frOk f := list_rd hu (fun s h => frame_rd hu s h) h
/-- A cell that Of takes. -/
structure clOk (c : Cl) : Prop where
  vs : ∀ x ∈ c.2.2.1, vOk x
  l1 : (c.2.2.1.length : Int) ≤ mostI c.1
  l2 : c.2.2.2.length ≤ 30
  fs : ∀ f ∈ c.2.2.2, frOk f
  ns : nOk c.1 ∧ nOk c.2.1
theorem cell_rd (s : RS) (h : (rCell l s).2.2 = false) : s.2 = false ∧ Rds l (cellO (rCell l s).1) s.1 (rCell l s).2 ∧ clOk (rCell l s).1 := by
  unfold rCell at h ⊢
  simp only at h ⊢
  obtain ⟨g4, r4, c4, d4⟩ := frames_rd hu h
  obtain ⟨g3, r3, c3, d3⟩ := vals_rd hu g4
  obtain ⟨g2, r2, c2⟩ := num_rd hu g3
  obtain ⟨g1, r1, c1⟩ := num_rd hu g2
  refine ⟨g1, ?_, d3, c3, (Int.ofNat_le (n := 30)).1 c4, d4, c1, c2⟩
  have := r1.app (r2.app (r3.app r4))
  simpa [cellO] using this
end
theorem eAll_ok {e : Int} {l : List (Int × Int)} (h : ∀ x ∈ l, vOk x) : eAll e l = e := by
  induction l generalizing e with
  | nil => rfl
  | cons x r ih =>
    have : eAll e (x :: r) = eAll (eNext e x.1 x.2) r := rfl
    rw [this, ih fun y hy => h y (List.mem_cons_of_mem _ hy)]
    unfold eNext
    rw [(h x (List.mem_cons_self ..)).1]
    split
    · rename_i h; exact h.symm
    · rfl
theorem frE_ok {e : Int} {f : Fr} (h : frOk f) : frE e f = e := by
  unfold frE
  rw [eAll_ok h.vs]
  unfold eNext
  rw [h.v.1]
  split
  · rename_i h; exact h.symm
  · rfl
theorem frsE_ok {e : Int} {l : List Fr} (h : ∀ f ∈ l, frOk f) : frsE e l = e := by
  unfold frsE
  induction l generalizing e with
  | nil => rfl
  | cons x r ih => rw [List.foldl_cons, frE_ok (h x (List.mem_cons_self ..)), ih fun y hy => h y (List.mem_cons_of_mem _ hy)]
theorem cell_ok {c : Cl} (h : clOk c) : ofE c.1 c.2.2.1 c.2.2.2 = 0 := by
  obtain ⟨h1, h2, h3, h4, _⟩ := h
  have hb : largeB c.1 c.2.2.1 c.2.2.2 = false := by
    unfold largeB
    simp only [Bool.or_eq_false_iff, decide_eq_false_iff_not]
    refine ⟨List.any_eq_false.2 fun f hf => ?_, by omega, by omega⟩
    have q1 := (h4 f hf).l1
    have q2 := (h4 f hf).l2
    simp only [bigF, Bool.not_eq_true, Bool.or_eq_false_iff, decide_eq_false_iff_not]
    omega
  unfold ofE
  rw [hb]
  simp only [Bool.false_eq_true, if_false]
  rw [eAll_ok h1, frsE_ok h4]
/-- WORDS AGAIN. -/
theorem read_law {l : List Int} (hu : ∀ x ∈ l, 0 ≤ x ∧ x < 18446744073709551616) (h : (rCell l (0, false)).2.2 = false) :
    (rCell l (0, false)).2.1 ≤ l.length ∧ cellO (rCell l (0, false)).1 = l.take (rCell l (0, false)).2.1 ∧ ofE (rCell l (0, false)).1.1 (rCell l (0, false)).1.2.2.1 (rCell l (0, false)).1.2.2.2 = 0 := by
  obtain ⟨-, ⟨h1, h2⟩, h3⟩ := cell_rd hu (0, false) h
  rw [h1]
  simp only [Nat.zero_add, List.drop_zero] at h2 ⊢
  refine ⟨?_, h2.symm, cell_ok h3⟩
  have := congrArg List.length h2
  rw [List.length_take] at this
  omega
end Go.Proofs.Ytpmmiaadfnildaa

namespace Go.Proofs.Ytpmmiaadfnildaa
open Go Go.RowKit
set_option linter.unusedVariables false
set_option linter.unusedSimpArgs false
/-- At a stand the words o. -/
def At (l o : List Int) (a : Nat) : Prop := (l.drop a).take o.length = o
theorem At.app {l o1 o2 : List Int} {a : Nat} (h : At l (o1 ++ o2) a) : At l o1 a ∧ At l o2 (a + o1.length) := by
  unfold At at h ⊢
  rw [List.length_append, List.take_add, List.drop_drop] at h
  have hl := congrArg List.length h
  rw [List.length_append, List.length_append, List.length_take, List.length_take] at hl
  exact List.append_inj h (by rw [List.length_take]; omega)
theorem At.cons {l o : List Int} {x : Int} {a : Nat} (h : At l (x :: o) a) : At l [x] a ∧ At l o (a + 1) := At.app (o1 := [x]) h
/-- What becomes of a value. -/
def nv (v : Int × Int) : Int × Int := (unKind (bw v), unNum (bw v))
theorem u64_i64 {n : Int} (h : nOk n) : IntKind.i64.wrap (u64 n) = n := by
  unfold nOk at h; unfold u64; simp only [IntKind.wrap_u64, IntKind.wrap_i64]; omega
theorem unE_ok {v : Int × Int} (h : vOk v) : unE (bw v) = 0 := by
  obtain ⟨h1, h2⟩ := h
  by_cases h3 : v.1 = 3
  · have := (float_back v.2 h2).1
    unfold bw; rw [h3]; exact this
  · exact (tag_word h1 h3 h2).1
section
variable {l : List Int}
theorem word_at {x : Int} {a : Nat} (h : At l [x] a) : rWord l (a, false) = (x, (a + 1, false)) := by
  unfold At at h
  have hx : l[a]? = some x := by
    have h1 : ((l.drop a).take 1)[0]? = some x := by
      have : [x].length = 1 := rfl
      rw [this] at h; rw [h]; rfl
    rw [List.getElem?_take, if_pos (by omega), List.getElem?_drop, Nat.add_zero] at h1
    exact h1
  unfold rWord
  simp only [hx]
theorem num_at {n : Int} {a : Nat} (h : At l [u64 n] a) (hn : nOk n) : rNum l (a, false) = (n, (a + 1, false)) := by
  unfold rNum; rw [word_at h]; simp only; rw [u64_i64 hn]
theorem many_at {m n : Int} {a : Nat} (h : At l [u64 n] a) (hn : nOk n) (h0 : 0 ≤ n) (h1 : n ≤ m) : rMany m l (a, false) = (n, (a + 1, false)) := by
  unfold rMany; rw [num_at h hn]; simp only; rw [if_neg (by omega)]
theorem val_at {v : Int × Int} {a : Nat} (h : At l [bw v] a) (hv : vOk v) : rVal l (a, false) = (nv v, (a + 1, false)) := by
  unfold rVal; rw [word_at h]
  simp only [unE_ok hv, decide_true, Bool.not_true, Bool.or_false]
  rfl
theorem rep_at {α β : Type} {r : RS → β × RS} {o : α → List Int} {f : α → β} {vs : List α} {a : Nat} (hr : ∀ v ∈ vs, ∀ a, At l (o v) a → r (a, false) = (f v, (a + (o v).length, false))) (h : At l (vs.flatMap o) a) :
    ∀ n, n ≤ vs.length → rRep r n (a, false) = ((vs.take n).map f, (a + ((vs.take n).flatMap o).length, false))
  | 0, _ => by simp [rRep]
  | n + 1, hn => by
    have ih := rep_at hr h n (by omega)
    have hx : n < vs.length := by omega
    have e : vs.take (n + 1) = vs.take n ++ [vs[n]] := List.take_succ_eq_append_getElem hx
    have hs : vs = vs.take n ++ (vs[n] :: vs.drop (n + 1)) := by rw [← List.drop_eq_getElem_cons hx, List.take_append_drop]
    have hat : At l (o vs[n]) (a + ((vs.take n).flatMap o).length) := by
      rw [hs, List.flatMap_append, List.flatMap_cons] at h
      exact (h.app.2).app.1
    have hr1 := hr vs[n] (List.getElem_mem hx) _ hat
    rw [rRep, ih, e]
    simp only [Bool.false_eq_true, if_false, hr1, List.map_append, List.flatMap_append, List.length_append, List.map_cons, List.map_nil, List.flatMap_cons, List.flatMap_nil, List.append_nil, Nat.add_assoc]
theorem list_at {α β : Type} {r : RS → β × RS} {o : α → List Int} {f : α → β} {vs : List α} {a : Nat} {m : Int} (hr : ∀ v ∈ vs, ∀ a, At l (o v) a → r (a, false) = (f v, (a + (o v).length, false))) (hm : (vs.length : Int) ≤ m) (hm2 : m ≤ 1000000) (h : At l ([u64 vs.length] ++ vs.flatMap o) a) :
    rList r m l (a, false) = (vs.map f, (a + ([u64 vs.length] ++ vs.flatMap o).length, false)) := by
  obtain ⟨h1, h2⟩ := h.app
  simp only [List.length_cons, List.length_nil, Nat.zero_add] at h2
  unfold rList
  rw [many_at h1 (by unfold nOk; omega) (by omega) hm]
  simp only
  rw [show ((vs.length : Int)).toNat = vs.length by omega, rep_at hr h2 vs.length (Nat.le_refl _), List.take_of_length_le (Nat.le_refl _)]
  simp only [List.length_append, List.length_cons, List.length_nil]
  congr 2
  omega
theorem vals_at {vs : List (Int × Int)} {a : Nat} {m : Int} (hv : ∀ x ∈ vs, vOk x) (hm : (vs.length : Int) ≤ m) (hm2 : m ≤ 1000000) (h : At l ([u64 vs.length] ++ vs.map bw) a) :
    rVals m l (a, false) = (vs.map nv, (a + ([u64 vs.length] ++ vs.map bw).length, false)) := by
  rw [← flatMap_one] at h ⊢
  exact list_at (fun v hx a h => val_at h (hv v hx)) hm hm2 h
theorem tries_at {vs : List (Int × Int)} {a : Nat} {m : Int} (hv : ∀ t ∈ vs, nOk t.1 ∧ nOk t.2) (hm : (vs.length : Int) ≤ m) (hm2 : m ≤ 1000000) (h : At l ([u64 vs.length] ++ tryO vs) a) :
    rList (rTry l) m l (a, false) = (vs, (a + ([u64 vs.length] ++ tryO vs).length, false)) := by
  have := list_at (l := l) (r := rTry l) (o := fun t : Int × Int => [u64 t.1, u64 t.2]) (f := id) (fun v hx a h => by
    obtain ⟨h1, h2⟩ := h.cons
    unfold rTry
    rw [num_at h1 (hv v hx).1]
    simp only
    rw [num_at h2 (hv v hx).2]
    rfl) hm hm2 h
  rw [List.map_id] at this
  exact this
/-- What becomes of a frame, a cell. -/
def nf (f : Fr) : Fr := (f.1, f.2.1, f.2.2.1, f.2.2.2.1, nv f.2.2.2.2.1, f.2.2.2.2.2.1.map nv, f.2.2.2.2.2.2)
def nc (c : Cl) : Cl := (c.1, c.2.1, c.2.2.1.map nv, c.2.2.2.map nf)
theorem frame_at {f : Fr} {a : Nat} (hf : frOk f) (h : At l (frO f) a) : rFrame l (a, false) = (nf f, (a + (frO f).length, false)) := by
  obtain ⟨n1, n2, n3, n4⟩ := hf.ns
  have h' : At l ([u64 f.1] ++ ([u64 f.2.1] ++ ([u64 f.2.2.1] ++ ([u64 f.2.2.2.1] ++ ([bw f.2.2.2.2.1] ++ (([u64 f.2.2.2.2.2.1.length] ++ f.2.2.2.2.2.1.map bw) ++ ([u64 f.2.2.2.2.2.2.length] ++ tryO f.2.2.2.2.2.2))))))) a := h
  obtain ⟨h1, h'⟩ := h'.app
  obtain ⟨h2, h'⟩ := h'.app
  obtain ⟨h3, h'⟩ := h'.app
  obtain ⟨h4, h'⟩ := h'.app
  obtain ⟨h5, h'⟩ := h'.app
  obtain ⟨h6, h7⟩ := h'.app
  simp only [List.length_cons, List.length_nil, Nat.zero_add] at h2 h3 h4 h5
  have e1 := num_at h1 n1
  have e2 := num_at h2 n2
  have e3 := num_at h3 n3
  have e4 := num_at h4 n4
  have e5 := val_at h5 hf.v
  have e6 := vals_at (m := 60) hf.vs (by have := hf.l1; omega) (by omega) h6
  have e7 := tries_at (m := 20) hf.ts (by have := hf.l2; omega) (by omega) h7
  simp only [List.length_cons, List.length_nil, Nat.zero_add] at e6 e7
  unfold rFrame
  rw [e1]; simp only
  rw [e2]; simp only
  rw [e3]; simp only
  rw [e4]; simp only
  rw [e5]; simp only
  rw [e6]; simp only
  rw [e7]
  unfold nf frO
  simp only [List.length_append, List.length_cons, List.length_nil, List.length_map]
  congr 2
  omega
theorem frames_at {fs : List Fr} {a : Nat} {m : Int} (hv : ∀ f ∈ fs, frOk f) (hm : (fs.length : Int) ≤ m) (hm2 : m ≤ 1000000) (h : At l ([u64 fs.length] ++ frsO fs) a) :
    rList (rFrame l) m l (a, false) = (fs.map nf, (a + ([u64 fs.length] ++ frsO fs).length, false)) := list_at (fun v hx a h => frame_at (hv v hx) h) hm hm2 h
theorem cell_at {c : Cl} {a : Nat} (hc : clOk c) (h : At l (cellO c) a) : rCell l (a, false) = (nc c, (a + (cellO c).length, false)) := by
  obtain ⟨n1, n2⟩ := hc.ns
  have h' : At l ([u64 c.1] ++ ([u64 c.2.1] ++ (([u64 c.2.2.1.length] ++ c.2.2.1.map bw) ++ ([u64 c.2.2.2.length] ++ frsO c.2.2.2)))) a := h
  obtain ⟨h1, h'⟩ := h'.app
  obtain ⟨h2, h'⟩ := h'.app
  obtain ⟨h3, h4⟩ := h'.app
  simp only [List.length_cons, List.length_nil, Nat.zero_add] at h2 h3 h4
  have e1 := num_at h1 n1
  have e2 := num_at h2 n2
  have e3 := vals_at (m := mostI c.1) hc.vs hc.l1 (most_le).2 h3
  have e4 := frames_at (m := 30) hc.fs (by have := hc.l2; omega) (by omega) h4
  unfold rCell
  rw [e1]; simp only
  rw [e2]; simp only
  rw [e3]; simp only
  rw [e4]
  unfold nc cellO
  simp only [List.length_append, List.length_cons, List.length_nil, List.length_map, Nat.add_assoc]
  trace_state
  congr 2
  omega
end
theorem At.whole {l : List Int} : At l l 0 := by unfold At; rw [List.drop_zero, List.take_length]
theorem At.pre {o m : List Int} : At (o ++ m) o 0 := by unfold At; rw [List.drop_zero, List.take_left]
theorem vOk_of {v : Int × Int} (h : boxE v.1 v.2 = 0) (hn : nOk v.2) : vOk v := ⟨h, hn⟩
/-- Of took it: each value has a word. -/
theorem eNext_0 {e k n : Int} (h : eNext e k n = 0) : e = 0 ∧ boxE k n = 0 := by
  unfold eNext at h
  split at h
  · exact ⟨by assumption, h⟩
  · contradiction
theorem eAll_0 {e : Int} {l : List (Int × Int)} (h : eAll e l = 0) : e = 0 ∧ ∀ x ∈ l, boxE x.1 x.2 = 0 := by
  induction l generalizing e with
  | nil => exact ⟨h, fun x hx => by cases hx⟩
  | cons x r ih =>
    obtain ⟨h1, h2⟩ := ih (e := eNext e x.1 x.2) h
    obtain ⟨h3, h4⟩ := eNext_0 h1
    exact ⟨h3, fun y hy => by rcases List.mem_cons.1 hy with rfl | hy; exact h4; exact h2 y hy⟩
theorem frE_0 {e : Int} {f : Fr} (h : frE e f = 0) : e = 0 ∧ boxE f.2.2.2.2.1.1 f.2.2.2.2.1.2 = 0 ∧ ∀ x ∈ f.2.2.2.2.2.1, boxE x.1 x.2 = 0 := by
  obtain ⟨h1, h2⟩ := eAll_0 h
  obtain ⟨h3, h4⟩ := eNext_0 h1
  exact ⟨h3, h4, h2⟩
theorem frsE_0 {e : Int} {l : List Fr} (h : frsE e l = 0) : e = 0 ∧ ∀ f ∈ l, boxE f.2.2.2.2.1.1 f.2.2.2.2.1.2 = 0 ∧ ∀ x ∈ f.2.2.2.2.2.1, boxE x.1 x.2 = 0 := by
  induction l generalizing e with
  | nil => exact ⟨h, fun x hx => by cases hx⟩
  | cons x r ih =>
    obtain ⟨h1, h2⟩ := ih (e := frE e x) h
    obtain ⟨h3, h4⟩ := frE_0 h1
    exact ⟨h3, fun y hy => by rcases List.mem_cons.1 hy with rfl | hy; exact h4; exact h2 y hy⟩
/-- The numbers of a frame, of a cell, are the machine's. -/
structure frN (f : Fr) : Prop where
  v : nOk f.2.2.2.2.1.2
  vs : ∀ x ∈ f.2.2.2.2.2.1, nOk x.2
  ts : ∀ t ∈ f.2.2.2.2.2.2, nOk t.1 ∧ nOk t.2
  ns : nOk f.1 ∧ nOk f.2.1 ∧ nOk f.2.2.1 ∧ nOk f.2.2.2.1
structure clN (c : Cl) : Prop where
  vs : ∀ x ∈ c.2.2.1, nOk x.2
  fs : ∀ f ∈ c.2.2.2, frN f
  ns : nOk c.1 ∧ nOk c.2.1
theorem clOk_of {c : Cl} (h : ofE c.1 c.2.2.1 c.2.2.2 = 0) (n : clN c) : clOk c := by
  cases hb : largeB c.1 c.2.2.1 c.2.2.2 with
  | true => unfold ofE at h; rw [if_pos hb] at h; omega
  | false =>
    obtain ⟨hv, hf, hfr⟩ := large_no hb
    unfold ofE at h
    rw [hb] at h
    simp only [Bool.false_eq_true, if_false] at h
    obtain ⟨h1, h2⟩ := frsE_0 h
    obtain ⟨-, h3⟩ := eAll_0 h1
    refine ⟨fun x hx => ⟨h3 x hx, n.vs x hx⟩, ?_, by omega, fun f hf => ?_, n.ns⟩
    · unfold largeB at hb
      simp only [Bool.or_eq_false_iff, decide_eq_false_iff_not] at hb
      omega
    · obtain ⟨q1, q2⟩ := h2 f hf
      obtain ⟨q3, q4⟩ := hfr f hf
      have m := n.fs f hf
      exact ⟨⟨q1, m.v⟩, fun x hx => ⟨q2 x hx, m.vs x hx⟩, q3, q4, m.ts, m.ns⟩
theorem frO_u {f : Fr} : ∀ x ∈ frO f, 0 ≤ x ∧ x < 18446744073709551616 := by
  have hu : ∀ n, 0 ≤ u64 n ∧ u64 n < 18446744073709551616 := fun n => u64r n
  have hb : ∀ v, 0 ≤ bw v ∧ bw v < 18446744073709551616 := fun v => boxW_range
  intro x hx
  simp only [frO, tryO, List.mem_append, List.mem_cons, List.mem_map, List.mem_flatMap, List.not_mem_nil, or_false] at hx
  rcases hx with (h | h | h | h) | h | (h | ⟨v, _, h⟩) | h | ⟨v, _, h⟩ <;> (try subst h)
  all_goals first | exact hu _ | exact hb _ | skip
  rcases h with h | h <;> (subst h; exact hu _)
theorem cellO_u {c : Cl} : ∀ x ∈ cellO c, 0 ≤ x ∧ x < 18446744073709551616 := by
  have hu : ∀ n, 0 ≤ u64 n ∧ u64 n < 18446744073709551616 := fun n => u64r n
  have hb : ∀ v, 0 ≤ bw v ∧ bw v < 18446744073709551616 := fun v => boxW_range
  intro x hx
  simp only [cellO, frsO, List.mem_append, List.mem_cons, List.mem_map, List.mem_flatMap, List.not_mem_nil, or_false] at hx
  rcases hx with (h | h) | (h | ⟨v, _, h⟩) | h | ⟨f, _, h⟩
  · subst h; exact hu _
  · subst h; exact hu _
  · subst h; exact hu _
  · subst h; exact hb _
  · subst h; exact hu _
  · exact frO_u x h
/-- A WORD LESS IS NONE. -/
theorem cut_law {c : Cl} (hc : clOk c) {k : Nat} (hk : k < (cellO c).length) : (rCell ((cellO c).take k) (0, false)).2.2 = true := by
  cases hb : (rCell ((cellO c).take k) (0, false)).2.2 with
  | true => rfl
  | false =>
    have hu : ∀ x ∈ (cellO c).take k, 0 ≤ x ∧ x < 18446744073709551616 := fun x hx => cellO_u x (List.mem_of_mem_take hx)
    obtain ⟨-, ⟨h1, h2⟩, h3⟩ := cell_rd hu (0, false) hb
    obtain ⟨d, hd⟩ : ∃ d, d = (rCell ((cellO c).take k) (0, false)).1 := ⟨_, rfl⟩
    rw [← hd] at h2 h3
    simp only [List.drop_zero] at h2
    have hl : (cellO d).length ≤ k := by have := congrArg List.length h2; rw [List.length_take, List.length_take] at this; omega
    have hat : At (cellO c) (cellO d) 0 := by
      unfold At
      rw [List.drop_zero]
      rw [List.take_take, Nat.min_eq_left hl] at h2
      exact h2
    have e1 := cell_at h3 hat
    have e2 := cell_at hc (At.whole (l := cellO c))
    rw [e1] at e2
    simp only [Prod.mk.injEq, Nat.zero_add, and_true] at e2
    omega
end Go.Proofs.Ytpmmiaadfnildaa

namespace Go.Proofs.Ytpmmiaadfnildaa
open Go Go.RowKit Go.ChangeShapes Go.WideShapes Go.ChangeAt
set_option linter.unusedVariables false
set_option linter.unusedSimpArgs false
abbrev tyV : Ty := .prod (.int .i64) (.int .i64)
abbrev tyF : Ty := .prod (.int .i64) (.prod (.int .i64) (.prod (.int .i64) (.prod (.int .i64) (.prod tyV (.prod (.slice 16 tyV) (.slice 16 tyV))))))
abbrev tyC : Ty := .prod (.int .i64) (.prod (.int .i64) (.prod (.slice 16 tyV) (.slice 96 tyF)))
theorem u64_of {l : List Int} {by_ : Nat} (h : TOk (.slice by_ (.int .u64)) l) : ∀ x ∈ l, 0 ≤ x ∧ x < 18446744073709551616 := fun x hx => u64_bounds (h.2 x hx)
theorem frN_of {f : tyF.val} (h : TOk tyF f) : frN f := by
  obtain ⟨h1, h2, h3, h4, h5, h6, h7⟩ := h
  exact ⟨i64_bounds h5.2, fun x hx => i64_bounds (h6.2 x hx).2, fun t ht => ⟨i64_bounds (h7.2 t ht).1, i64_bounds (h7.2 t ht).2⟩, i64_bounds h1, i64_bounds h2, i64_bounds h3, i64_bounds h4⟩
theorem clN_of {c : tyC.val} (h : TOk tyC c) : clN c := by
  obtain ⟨h1, h2, h3, h4⟩ := h
  exact ⟨fun x hx => i64_bounds (h3.2 x hx).2, fun f hf => frN_of (h4.2 f hf), i64_bounds h1, i64_bounds h2⟩
end Go.Proofs.Ytpmmiaadfnildaa

namespace Go.Proofs.Ytpmmiaadfnildaa
open Go Go.RowKit
set_option linter.unusedVariables false
set_option linter.unusedSimpArgs false
section
variable {tb : List (FuncId × Bool)} {L : Nat → Bool} {H : ZH} {K : ZV → ZH → Prop} {ex : Bool} {l : List Int}
theorem back_bad (hl : l.length ≤ 1000000000000000) (hu : ∀ x ∈ l, 0 ≤ x ∧ x < 18446744073709551616) (hL : ∀ k, L (H.length + k) = true) (h : (rCell l (0, false)).2.2 = true) (hK : K (.tuple [.agg [Z64 0, Z64 0, .nil, .nil], Z64 0, Z64 3]) H) :
    ZC (boxX tb) (cFunc Try.prog) 18 [.fz 1 ex (l.map eU)] L H K := by
  refine back_z hl hu hL ?_
  unfold bkC bkN bkE
  simp only [h, if_true]
  exact hK
theorem back_ok (hl : l.length ≤ 1000000000000000) (hu : ∀ x ∈ l, 0 ≤ x ∧ x < 18446744073709551616) (hL : ∀ k, L (H.length + k) = true) (h : (rCell l (0, false)).2.2 = false) (hK : K (.tuple [.agg (eC (rCell l (0, false)).1), Z64 ((rCell l (0, false)).2.1 : Nat), Z64 0]) H) :
    ZC (boxX tb) (cFunc Try.prog) 18 [.fz 1 ex (l.map eU)] L H K := by
  refine back_z hl hu hL ?_
  unfold bkC bkN bkE
  simp only [h, Bool.false_eq_true, if_false]
  exact hK
end
theorem numZ_none {S : ZS} {d : Nat} : numZ S d none = some d := rfl
theorem numZ_some {S : ZS} {d : Nat} {x : Opd} : numZ S d (some x) = (zev S x).bind natZ := by
  simp only [numZ]; cases zev S x <;> rfl
theorem cut_take {α : Type} {e : α → List ZV} {k n : Nat} {ex : Bool} {l : List α} (h : n ≤ l.length) : ∃ ex2, ∀ H, cutZ H k 0 n l.length false (.fz k ex (l.map e)) = some (.fz k ex2 ((l.take n).map e)) := by
  by_cases hl : l = []
  · subst hl
    have : n = 0 := by simpa using h
    subst this
    exact ⟨false, fun H => by simp [cutZ]⟩
  · refine ⟨(ex || false) && n == l.length, fun H => ?_⟩
    simp only [cutZ]
    rw [if_pos ⟨trivial, by omega, h, by simp⟩, if_neg (by simpa using hl)]
    simp [List.map_take]
set_option maxHeartbeats 2000000 in
theorem wordsread_z {ex : Bool} {l : List Int} (hl : l.length ≤ 1000000000000000) (hu : ∀ x ∈ l, 0 ≤ x ∧ x < 18446744073709551616) :
    ZC (boxX tbO) (cFunc Try.prog) 5 [.fz 1 ex (l.map eU)] (fun _ => true) [] fun z _ => z = ZBo true := by
  refine ZC.enter Gh.no (boxX_none (by decide)) f_l_wordsread (by simp) ?_
  simp only [c_l_wordsread]
  have HU := Lib.hid hu
  clear hu
  repeat' (first | (simp only [zmPack, zfree, owners, Nat.reduceLT, List.filter_cons, List.filter_nil, List.contains_cons, List.contains_nil, Nat.reduceBEq, Bool.or_false, Bool.or_true, Bool.false_or, Bool.true_or, BEq.rfl, chunk, setAt, List.lookup_cons, List.lookup_nil, ZV.val.injEq, ZV.ptr.injEq, ZV.own.injEq, ZV.fz.injEq, ZV.func.injEq, ZV.tuple.injEq, ZV.agg.injEq, ZB.box.injEq, ZB.grow.injEq, Bool.not_eq_false', Prod.mk.injEq, and_assoc, decide_false, decide_true, Bool.not_false, Bool.not_true, Bool.true_eq_false, Bool.false_eq_true, exists_false, Bool.not_eq_false, Bool.not_not, Value.bool.injEq, Value.int.injEq, Option.some.injEq, exists_eq_left', exists_eq_left, exists_and_left, exists_and_right, and_true, true_and, decide_eq_true_eq, decide_eq_false_iff_not, if_true, if_false, Bool.not_eq_true', beq_true, beq_false, ne_eq, not_true_eq_false, not_false_eq_true, reduceCtorEq, List.getD_cons_zero, List.getD_cons_succ, List.getD_nil, List.map_cons, List.map_nil, List.append_nil, Nat.reduceEqDiff, reduceIte, ite_true, ite_false, or_true, true_or, or_false, false_or, true_imp_iff, false_imp_iff, implies_true, imp_false, and_self, imp_self, and_false, false_and, forall_const, take_map_all, Nat.le_refl, Nat.reduceMul, Nat.reduceSub, List.length_cons, List.length_nil, List.length_map, List.length_set, List.all_cons, List.all_nil, Bool.and_self, Option.map_none, Option.map_some, List.set_cons_zero, List.set_cons_succ, Nat.lt_add_one, List.append_assoc, List.cons_append, List.nil_append, List.append_nil, List.length_append, List.take_zero, List.take_succ_cons, List.take_nil, List.drop_zero, List.drop_succ_cons, List.drop_nil, List.getElem?_cons_zero, List.getElem?_cons_succ, List.getElem?_map, Nat.reduceAdd, Nat.reduceLeDiff, Nat.add_eq_zero_iff, and_self, Nat.zero_add, Nat.add_zero, Nat.mul_one, Nat.one_mul, List.flatten_cons, List.flatten_nil, *]) | (simp only [zgoO, zgoG, zO_nil, zthen_normal, zgoC]) | (with_reducible apply And.intro) | (with_reducible intro _))
  refine worded_z ?_
  repeat' (first | (simp only [zmPack, zfree, owners, Nat.reduceLT, List.filter_cons, List.filter_nil, List.contains_cons, List.contains_nil, Nat.reduceBEq, Bool.or_false, Bool.or_true, Bool.false_or, Bool.true_or, BEq.rfl, chunk, setAt, List.lookup_cons, List.lookup_nil, ZV.val.injEq, ZV.ptr.injEq, ZV.own.injEq, ZV.fz.injEq, ZV.func.injEq, ZV.tuple.injEq, ZV.agg.injEq, ZB.box.injEq, ZB.grow.injEq, Bool.not_eq_false', Prod.mk.injEq, and_assoc, decide_false, decide_true, Bool.not_false, Bool.not_true, Bool.true_eq_false, Bool.false_eq_true, exists_false, Bool.not_eq_false, Bool.not_not, Value.bool.injEq, Value.int.injEq, Option.some.injEq, exists_eq_left', exists_eq_left, exists_and_left, exists_and_right, and_true, true_and, decide_eq_true_eq, decide_eq_false_iff_not, if_true, if_false, Bool.not_eq_true', beq_true, beq_false, ne_eq, not_true_eq_false, not_false_eq_true, reduceCtorEq, List.getD_cons_zero, List.getD_cons_succ, List.getD_nil, List.map_cons, List.map_nil, List.append_nil, Nat.reduceEqDiff, reduceIte, ite_true, ite_false, or_true, true_or, or_false, false_or, true_imp_iff, false_imp_iff, implies_true, imp_false, and_self, imp_self, and_false, false_and, forall_const, take_map_all, Nat.le_refl, Nat.reduceMul, Nat.reduceSub, List.length_cons, List.length_nil, List.length_map, List.length_set, List.all_cons, List.all_nil, Bool.and_self, Option.map_none, Option.map_some, List.set_cons_zero, List.set_cons_succ, Nat.lt_add_one, List.append_assoc, List.cons_append, List.nil_append, List.append_nil, List.length_append, List.take_zero, List.take_succ_cons, List.take_nil, List.drop_zero, List.drop_succ_cons, List.drop_nil, List.getElem?_cons_zero, List.getElem?_cons_succ, List.getElem?_map, Nat.reduceAdd, Nat.reduceLeDiff, Nat.add_eq_zero_iff, and_self, Nat.zero_add, Nat.add_zero, Nat.mul_one, Nat.one_mul, List.flatten_cons, List.flatten_nil, *]) | (simp only [zgoO, zgoG, zO_nil, zthen_normal, zgoC]) | (with_reducible apply And.intro) | (with_reducible intro _))
  cases hb : (rCell l (0, false)).2.2 with
  | true =>
    refine back_bad hl HU.out (fun _ => rfl) hb ?_
    clear hb
    have n3 : ¬ (3 : Int) = 0 := by omega
    repeat' (first | (simp only [zmPack, zfree, owners, Nat.reduceLT, List.filter_cons, List.filter_nil, List.contains_cons, List.contains_nil, Nat.reduceBEq, Bool.or_false, Bool.or_true, Bool.false_or, Bool.true_or, BEq.rfl, chunk, setAt, List.lookup_cons, List.lookup_nil, ZV.val.injEq, ZV.ptr.injEq, ZV.own.injEq, ZV.fz.injEq, ZV.func.injEq, ZV.tuple.injEq, ZV.agg.injEq, ZB.box.injEq, ZB.grow.injEq, Bool.not_eq_false', Prod.mk.injEq, and_assoc, decide_false, decide_true, Bool.not_false, Bool.not_true, Bool.true_eq_false, Bool.false_eq_true, exists_false, Bool.not_eq_false, Bool.not_not, Value.bool.injEq, Value.int.injEq, Option.some.injEq, exists_eq_left', exists_eq_left, exists_and_left, exists_and_right, and_true, true_and, decide_eq_true_eq, decide_eq_false_iff_not, if_true, if_false, Bool.not_eq_true', beq_true, beq_false, ne_eq, not_true_eq_false, not_false_eq_true, reduceCtorEq, List.getD_cons_zero, List.getD_cons_succ, List.getD_nil, List.map_cons, List.map_nil, List.append_nil, Nat.reduceEqDiff, reduceIte, ite_true, ite_false, or_true, true_or, or_false, false_or, true_imp_iff, false_imp_iff, implies_true, imp_false, and_self, imp_self, and_false, false_and, forall_const, take_map_all, Nat.le_refl, Nat.reduceMul, Nat.reduceSub, List.length_cons, List.length_nil, List.length_map, List.length_set, List.all_cons, List.all_nil, Bool.and_self, Option.map_none, Option.map_some, List.set_cons_zero, List.set_cons_succ, Nat.lt_add_one, List.append_assoc, List.cons_append, List.nil_append, List.append_nil, List.length_append, List.take_zero, List.take_succ_cons, List.take_nil, List.drop_zero, List.drop_succ_cons, List.drop_nil, List.getElem?_cons_zero, List.getElem?_cons_succ, List.getElem?_map, Nat.reduceAdd, Nat.reduceLeDiff, Nat.add_eq_zero_iff, and_self, Nat.zero_add, Nat.add_zero, Nat.mul_one, Nat.one_mul, List.flatten_cons, List.flatten_nil, n3, *]) | (simp only [zgoO, zgoG, zO_nil, zthen_normal, zgoC]) | (with_reducible apply And.intro) | (with_reducible intro _))
    refine worded_z ?_
    have fin : ∀ X, Fin [] (ZBo true) X (fun z _ => z = ZBo true) := fun X => Fin.trunc (Mods.ext [] X) rfl rfl
    repeat' (first | (simp only [zmPack, zfree, owners, Nat.reduceLT, List.filter_cons, List.filter_nil, List.contains_cons, List.contains_nil, Nat.reduceBEq, Bool.or_false, Bool.or_true, Bool.false_or, Bool.true_or, BEq.rfl, chunk, setAt, List.lookup_cons, List.lookup_nil, ZV.val.injEq, ZV.ptr.injEq, ZV.own.injEq, ZV.fz.injEq, ZV.func.injEq, ZV.tuple.injEq, ZV.agg.injEq, ZB.box.injEq, ZB.grow.injEq, Bool.not_eq_false', Prod.mk.injEq, and_assoc, decide_false, decide_true, Bool.not_false, Bool.not_true, Bool.true_eq_false, Bool.false_eq_true, exists_false, Bool.not_eq_false, Bool.not_not, Value.bool.injEq, Value.int.injEq, Option.some.injEq, exists_eq_left', exists_eq_left, exists_and_left, exists_and_right, and_true, true_and, decide_eq_true_eq, decide_eq_false_iff_not, if_true, if_false, Bool.not_eq_true', beq_true, beq_false, ne_eq, not_true_eq_false, not_false_eq_true, reduceCtorEq, List.getD_cons_zero, List.getD_cons_succ, List.getD_nil, List.map_cons, List.map_nil, List.append_nil, Nat.reduceEqDiff, reduceIte, ite_true, ite_false, or_true, true_or, or_false, false_or, true_imp_iff, false_imp_iff, implies_true, imp_false, and_self, imp_self, and_false, false_and, forall_const, take_map_all, Nat.le_refl, Nat.reduceMul, Nat.reduceSub, List.length_cons, List.length_nil, List.length_map, List.length_set, List.all_cons, List.all_nil, Bool.and_self, Option.map_none, Option.map_some, List.set_cons_zero, List.set_cons_succ, Nat.lt_add_one, List.append_assoc, List.cons_append, List.nil_append, List.append_nil, List.length_append, List.take_zero, List.take_succ_cons, List.take_nil, List.drop_zero, List.drop_succ_cons, List.drop_nil, List.getElem?_cons_zero, List.getElem?_cons_succ, List.getElem?_map, Nat.reduceAdd, Nat.reduceLeDiff, Nat.add_eq_zero_iff, and_self, Nat.zero_add, Nat.add_zero, Nat.mul_one, Nat.one_mul, List.flatten_cons, List.flatten_nil, *]) | (simp only [zgoO, zgoG, zO_nil, zthen_normal, zgoC]) | (with_reducible apply And.intro) | (with_reducible intro _))
  | false =>
    refine back_ok hl HU.out (fun _ => rfl) hb ?_
    obtain ⟨h1, h2, h3⟩ := read_law HU.out hb
    have h4 := (cell_rd HU.out (0, false) hb).2.2.l2
    obtain ⟨q, hq⟩ : ∃ q, q = rCell l (0, false) := ⟨_, rfl⟩
    rw [← hq] at h1 h2 h3 h4 ⊢
    obtain ⟨⟨k1, k2, k3, k4⟩, n, b⟩ := q
    simp only at h1 h2 h3 h4 ⊢
    have H2 := Lib.hid h2
    have H3 := Lib.hid h3
    have H4 := Lib.hid h4
    clear hq h2 h3 h4 hb
    repeat' (first | (simp only [zmPack, zfree, owners, Nat.reduceLT, List.filter_cons, List.filter_nil, List.contains_cons, List.contains_nil, Nat.reduceBEq, Bool.or_false, Bool.or_true, Bool.false_or, Bool.true_or, BEq.rfl, chunk, setAt, List.lookup_cons, List.lookup_nil, ZV.val.injEq, ZV.ptr.injEq, ZV.own.injEq, ZV.fz.injEq, ZV.func.injEq, ZV.tuple.injEq, ZV.agg.injEq, ZB.box.injEq, ZB.grow.injEq, Bool.not_eq_false', Prod.mk.injEq, and_assoc, decide_false, decide_true, Bool.not_false, Bool.not_true, Bool.true_eq_false, Bool.false_eq_true, exists_false, Bool.not_eq_false, Bool.not_not, Value.bool.injEq, Value.int.injEq, Option.some.injEq, exists_eq_left', exists_eq_left, exists_and_left, exists_and_right, and_true, true_and, decide_eq_true_eq, decide_eq_false_iff_not, if_true, if_false, Bool.not_eq_true', beq_true, beq_false, ne_eq, not_true_eq_false, not_false_eq_true, reduceCtorEq, List.getD_cons_zero, List.getD_cons_succ, List.getD_nil, List.map_cons, List.map_nil, List.append_nil, Nat.reduceEqDiff, reduceIte, ite_true, ite_false, or_true, true_or, or_false, false_or, true_imp_iff, false_imp_iff, implies_true, imp_false, and_self, imp_self, and_false, false_and, forall_const, take_map_all, Nat.le_refl, Nat.reduceMul, Nat.reduceSub, List.length_cons, List.length_nil, List.length_map, List.length_set, List.all_cons, List.all_nil, Bool.and_self, Option.map_none, Option.map_some, List.set_cons_zero, List.set_cons_succ, Nat.lt_add_one, List.append_assoc, List.cons_append, List.nil_append, List.append_nil, List.length_append, List.take_zero, List.take_succ_cons, List.take_nil, List.drop_zero, List.drop_succ_cons, List.drop_nil, List.getElem?_cons_zero, List.getElem?_cons_succ, List.getElem?_map, Nat.reduceAdd, Nat.reduceLeDiff, Nat.add_eq_zero_iff, and_self, Nat.zero_add, Nat.add_zero, Nat.mul_one, Nat.one_mul, List.flatten_cons, List.flatten_nil, *]) | (simp only [zgoO, zgoG, zO_nil, zthen_normal, zgoC]) | (with_reducible apply And.intro) | (with_reducible intro _))
    refine of_z (kd := k1) (nm := k2) (vals := k3) (fs := k4) (by have := H4.out; omega) (fun h => absurd H3.out h) (fun _ _ => ?_)
    have e : ofO k1 k2 k3 k4 = l.take n := H2.out
    rw [e]
    clear e
    have hc : (n : Int) ≤ (l.length : Int) := by omega
    repeat' (first | (simp only [zmPack, zfree, owners, Nat.reduceLT, List.filter_cons, List.filter_nil, List.contains_cons, List.contains_nil, Nat.reduceBEq, Bool.or_false, Bool.or_true, Bool.false_or, Bool.true_or, BEq.rfl, chunk, setAt, List.lookup_cons, List.lookup_nil, ZV.val.injEq, ZV.ptr.injEq, ZV.own.injEq, ZV.fz.injEq, ZV.func.injEq, ZV.tuple.injEq, ZV.agg.injEq, ZB.box.injEq, ZB.grow.injEq, Bool.not_eq_false', Prod.mk.injEq, and_assoc, decide_false, decide_true, Bool.not_false, Bool.not_true, Bool.true_eq_false, Bool.false_eq_true, exists_false, Bool.not_eq_false, Bool.not_not, Value.bool.injEq, Value.int.injEq, Option.some.injEq, exists_eq_left', exists_eq_left, exists_and_left, exists_and_right, and_true, true_and, decide_eq_true_eq, decide_eq_false_iff_not, if_true, if_false, Bool.not_eq_true', beq_true, beq_false, ne_eq, not_true_eq_false, not_false_eq_true, reduceCtorEq, List.getD_cons_zero, List.getD_cons_succ, List.getD_nil, List.map_cons, List.map_nil, List.append_nil, Nat.reduceEqDiff, reduceIte, ite_true, ite_false, or_true, true_or, or_false, false_or, true_imp_iff, false_imp_iff, implies_true, imp_false, and_self, imp_self, and_false, false_and, forall_const, take_map_all, Nat.le_refl, Nat.reduceMul, Nat.reduceSub, List.length_cons, List.length_nil, List.length_map, List.length_set, List.all_cons, List.all_nil, Bool.and_self, Option.map_none, Option.map_some, List.set_cons_zero, List.set_cons_succ, Nat.lt_add_one, List.append_assoc, List.cons_append, List.nil_append, List.append_nil, List.length_append, List.take_zero, List.take_succ_cons, List.take_nil, List.drop_zero, List.drop_succ_cons, List.drop_nil, List.getElem?_cons_zero, List.getElem?_cons_succ, List.getElem?_map, Nat.reduceAdd, Nat.reduceLeDiff, Nat.add_eq_zero_iff, and_self, Nat.zero_add, Nat.add_zero, Nat.mul_one, Nat.one_mul, List.flatten_cons, List.flatten_nil, hc, *]) | (simp only [zgoO, zgoG, zO_nil, zthen_normal, zgoC]) | (with_reducible apply And.intro) | (with_reducible intro _))
    refine worded_z ?_
    obtain ⟨ex2, hcut⟩ := cut_take (e := eU) (k := 1) (ex := ex) h1
    repeat' (first | (simp only [zmPack, zfree, owners, Nat.reduceLT, List.filter_cons, List.filter_nil, List.contains_cons, List.contains_nil, Nat.reduceBEq, Bool.or_false, Bool.or_true, Bool.false_or, Bool.true_or, BEq.rfl, chunk, setAt, List.lookup_cons, List.lookup_nil, ZV.val.injEq, ZV.ptr.injEq, ZV.own.injEq, ZV.fz.injEq, ZV.func.injEq, ZV.tuple.injEq, ZV.agg.injEq, ZB.box.injEq, ZB.grow.injEq, Bool.not_eq_false', Prod.mk.injEq, and_assoc, decide_false, decide_true, Bool.not_false, Bool.not_true, Bool.true_eq_false, Bool.false_eq_true, exists_false, Bool.not_eq_false, Bool.not_not, Value.bool.injEq, Value.int.injEq, Option.some.injEq, exists_eq_left', exists_eq_left, exists_and_left, exists_and_right, and_true, true_and, decide_eq_true_eq, decide_eq_false_iff_not, if_true, if_false, Bool.not_eq_true', beq_true, beq_false, ne_eq, not_true_eq_false, not_false_eq_true, reduceCtorEq, List.getD_cons_zero, List.getD_cons_succ, List.getD_nil, List.map_cons, List.map_nil, List.append_nil, Nat.reduceEqDiff, reduceIte, ite_true, ite_false, or_true, true_or, or_false, false_or, true_imp_iff, false_imp_iff, implies_true, imp_false, and_self, imp_self, and_false, false_and, forall_const, take_map_all, Nat.le_refl, Nat.reduceMul, Nat.reduceSub, List.length_cons, List.length_nil, List.length_map, List.length_set, List.all_cons, List.all_nil, Bool.and_self, Option.map_none, Option.map_some, List.set_cons_zero, List.set_cons_succ, Nat.lt_add_one, List.append_assoc, List.cons_append, List.nil_append, List.append_nil, List.length_append, List.take_zero, List.take_succ_cons, List.take_nil, List.drop_zero, List.drop_succ_cons, List.drop_nil, List.getElem?_cons_zero, List.getElem?_cons_succ, List.getElem?_map, Nat.reduceAdd, Nat.reduceLeDiff, Nat.add_eq_zero_iff, and_self, Nat.zero_add, Nat.add_zero, Nat.mul_one, Nat.one_mul, List.flatten_cons, List.flatten_nil, hc, hcut, numZ_none, numZ_some, natZ_nat, Option.bind_some, Option.isSome_none, *]) | (simp only [zgoO, zgoG, zO_nil, zthen_normal, zgoC]) | (with_reducible apply And.intro) | (with_reducible intro _))
    refine equ_z (a := l.take n) (b := l.take n) (rows_whole rfl (by simp)) rows_fz (by simp; omega) (by simp; omega) ?_
    rw [show decide (l.take n = l.take n) = true from decide_eq_true rfl]
    have fin : ∀ X, Fin [] (ZBo true) X (fun z _ => z = ZBo true) := fun X => Fin.trunc (Mods.ext [] X) rfl rfl
    clear hcut
    repeat' (first | (simp only [zmPack, zfree, owners, Nat.reduceLT, List.filter_cons, List.filter_nil, List.contains_cons, List.contains_nil, Nat.reduceBEq, Bool.or_false, Bool.or_true, Bool.false_or, Bool.true_or, BEq.rfl, chunk, setAt, List.lookup_cons, List.lookup_nil, ZV.val.injEq, ZV.ptr.injEq, ZV.own.injEq, ZV.fz.injEq, ZV.func.injEq, ZV.tuple.injEq, ZV.agg.injEq, ZB.box.injEq, ZB.grow.injEq, Bool.not_eq_false', Prod.mk.injEq, and_assoc, decide_false, decide_true, Bool.not_false, Bool.not_true, Bool.true_eq_false, Bool.false_eq_true, exists_false, Bool.not_eq_false, Bool.not_not, Value.bool.injEq, Value.int.injEq, Option.some.injEq, exists_eq_left', exists_eq_left, exists_and_left, exists_and_right, and_true, true_and, decide_eq_true_eq, decide_eq_false_iff_not, if_true, if_false, Bool.not_eq_true', beq_true, beq_false, ne_eq, not_true_eq_false, not_false_eq_true, reduceCtorEq, List.getD_cons_zero, List.getD_cons_succ, List.getD_nil, List.map_cons, List.map_nil, List.append_nil, Nat.reduceEqDiff, reduceIte, ite_true, ite_false, or_true, true_or, or_false, false_or, true_imp_iff, false_imp_iff, implies_true, imp_false, and_self, imp_self, and_false, false_and, forall_const, take_map_all, Nat.le_refl, Nat.reduceMul, Nat.reduceSub, List.length_cons, List.length_nil, List.length_map, List.length_set, List.all_cons, List.all_nil, Bool.and_self, Option.map_none, Option.map_some, List.set_cons_zero, List.set_cons_succ, Nat.lt_add_one, List.append_assoc, List.cons_append, List.nil_append, List.append_nil, List.length_append, List.take_zero, List.take_succ_cons, List.take_nil, List.drop_zero, List.drop_succ_cons, List.drop_nil, List.getElem?_cons_zero, List.getElem?_cons_succ, List.getElem?_map, Nat.reduceAdd, Nat.reduceLeDiff, Nat.add_eq_zero_iff, and_self, Nat.zero_add, Nat.add_zero, Nat.mul_one, Nat.one_mul, List.flatten_cons, List.flatten_nil, *]) | (simp only [zgoO, zgoG, zO_nil, zthen_normal, zgoC]) | (with_reducible apply And.intro) | (with_reducible intro _))
    trace_state
end Go.Proofs.Ytpmmiaadfnildaa
