/-
  AM's code of functions, written by am/amprint.lean.
-/
import Derived.KernelRfl
import Derived.Test.YtfmllmcjinjfaaaMrS4
import Derived.Test.YtfmllmcjinjfaaaMrS7
namespace Go.Proofs.Ytfmllmcjinjfaaa
open Go Go.RowKit
set_option linter.unusedVariables false
def c_en_stay : ACode := .seq (.ops [⟨(some 2), .box 2 (.tmp 0), none, true⟩,
 ⟨(some 4), .mv (.av (.val (.bool false))), none, true⟩])
 (.seq (.seq (.ops [⟨(some 16), .call (.av (.func 16 [])) [], none, true⟩,
 ⟨(some 17), .un .not (.tmp 16), none, true⟩])
 (.cond (.tmp 17)
 (.seq (.ops [⟨(some 4), .mv (.av (.val (.bool false))), none, true⟩])
 (.ret))
 (.skip)))
 (.seq (.ops [⟨(some 19), .load (some 2) (.tmp 2), none, true⟩,
 ⟨(some 20), .mv (.tmp 1), none, true⟩,
 ⟨(some 21), .call (.av (.func 17 [])) [(.tmp 19), (.tmp 20)], none, true⟩,
 ⟨(some 18), .mv (.tmp 21), none, true⟩,
 ⟨(some 22), .extract 0 (.tmp 18), none, true⟩,
 ⟨(some 23), .extract 1 (.tmp 18), none, true⟩,
 ⟨(some 24), .extract 2 (.tmp 18), none, true⟩,
 ⟨(some 5), .mv (.tmp 22), none, true⟩,
 ⟨(some 6), .mv (.tmp 23), none, true⟩,
 ⟨(some 7), .mv (.tmp 24), none, true⟩])
 (.seq (.seq (.ops [⟨(some 25), .mv (.tmp 7), none, true⟩,
 ⟨(some 26), .bin .neq (.tmp 25) (.av (.val (.int .i64 0))), none, true⟩])
 (.cond (.tmp 26)
 (.seq (.ops [⟨(some 27), .call (.av (.func 16 [])) [], none, true⟩,
 ⟨(some 4), .mv (.tmp 27), none, true⟩])
 (.ret))
 (.skip)))
 (.seq (.opsD [⟨(some 28), .fieldAddr 0 (.tmp 2), none, true⟩,
 ⟨(some 29), .load none (.tmp 28), none, false⟩,
 ⟨(some 30), .fieldAddr 1 (.tmp 2), none, true⟩,
 ⟨(some 31), .load none (.tmp 30), none, true⟩,
 ⟨(some 32), .call (.av (.func 18 [])) [(.tmp 31)], none, false⟩,
 ⟨(some 33), .mv (.tmp 5), none, true⟩,
 ⟨(some 34), .append 1 8 (.tmp 32) (.tmp 33), none, false⟩,
 ⟨(some 35), .build [(.val (.slice none 0 0)), (.val (.slice none 0 0))] [(0, 1, (.tmp 29)), (1, 1, (.tmp 34))], none, true⟩,
 ⟨(some 8), .zero [(.val (.slice none 0 0)), (.val (.slice none 0 0))], none, true⟩,
 ⟨none, .store 2 (.tmp 8) (.tmp 35), none, true⟩])
 (.seq (.ops [⟨(some 37), .load (some 2) (.tmp 8), none, true⟩,
 ⟨(some 38), .mv (.tmp 5), none, true⟩,
 ⟨(some 39), .call (.av (.func 17 [])) [(.tmp 37), (.tmp 38)], none, true⟩,
 ⟨(some 36), .mv (.tmp 39), none, true⟩,
 ⟨(some 40), .extract 0 (.tmp 36), none, true⟩,
 ⟨(some 41), .extract 1 (.tmp 36), none, true⟩,
 ⟨(some 42), .extract 2 (.tmp 36), none, true⟩,
 ⟨(some 9), .mv (.tmp 40), none, true⟩,
 ⟨(some 10), .mv (.tmp 41), none, true⟩,
 ⟨(some 11), .mv (.tmp 42), none, true⟩])
 (.seq (.ops [⟨(some 44), .load (some 2) (.tmp 8), none, true⟩,
 ⟨(some 45), .call (.av (.func 13 [])) [(.tmp 44)], none, true⟩,
 ⟨(some 43), .mv (.tmp 45), none, true⟩,
 ⟨(some 46), .extract 0 (.tmp 43), none, true⟩,
 ⟨(some 47), .extract 1 (.tmp 43), none, true⟩,
 ⟨(some 12), .mv (.tmp 46), none, true⟩,
 ⟨(some 13), .mv (.tmp 47), none, true⟩])
 (.seq (.seq (.ops [⟨(some 48), .mv (.tmp 11), none, true⟩,
 ⟨(some 49), .bin .neq (.tmp 48) (.av (.val (.int .i64 0))), none, true⟩])
 (.cond (.tmp 49)
 (.seq (.ops [⟨(some 50), .call (.av (.func 16 [])) [], none, true⟩,
 ⟨(some 4), .mv (.tmp 50), none, true⟩])
 (.ret))
 (.skip)))
 (.seq (.seq (.ops [⟨(some 51), .mv (.tmp 6), none, true⟩,
 ⟨(some 52), .len (.tmp 51), none, true⟩,
 ⟨(some 53), .mv (.av (.val (.int .i64 0))), none, true⟩])
 (rangeCode 0 1 54 53 52 61
 (.seq (.ops [⟨(some 55), .indexAddr 1 (.tmp 51) (.tmp 53), none, true⟩,
 ⟨(some 56), .load none (.tmp 55), none, true⟩,
 ⟨(some 15), .mv (.tmp 56), none, true⟩])
 (.seq (.ops [⟨(some 57), .mv (.tmp 12), none, true⟩,
 ⟨(some 58), .mv (.tmp 15), none, true⟩,
 ⟨(some 59), .call (.av (.func 15 [])) [(.tmp 57), (.tmp 58)], none, true⟩,
 ⟨(some 60), .un .not (.tmp 59), none, true⟩])
 (.cond (.tmp 60)
 (.seq (.ops [⟨(some 4), .mv (.av (.val (.bool false))), none, true⟩])
 (.ret))
 (.skip))))))
 (.seq (.ops [⟨(some 62), .call (.av (.func 16 [])) [], none, true⟩,
 ⟨(some 63), .mv (.tmp 62), none, true⟩,
 ⟨(some 64), .mv (.tmp 13), (some (63, true)), true⟩,
 ⟨(some 65), .bin .eql (.tmp 64) (.av (.val (.int .i64 0))), (some (63, true)), true⟩,
 ⟨(some 66), .pick (.tmp 63) (.tmp 65) (.av (.val (.bool false))), none, true⟩,
 ⟨(some 67), .mv (.tmp 66), none, true⟩,
 ⟨(some 68), .mv (.tmp 9), (some (67, true)), true⟩,
 ⟨(some 69), .len (.tmp 68), (some (67, true)), true⟩,
 ⟨(some 70), .mv (.tmp 10), (some (67, true)), true⟩,
 ⟨(some 71), .len (.tmp 70), (some (67, true)), true⟩,
 ⟨(some 72), .bin .add (.tmp 69) (.tmp 71), (some (67, true)), true⟩,
 ⟨(some 73), .bin .eql (.tmp 72) (.av (.val (.int .i64 0))), (some (67, true)), true⟩,
 ⟨(some 74), .pick (.tmp 67) (.tmp 73) (.av (.val (.bool false))), none, true⟩,
 ⟨(some 4), .mv (.tmp 74), none, true⟩])
 (.ret))))))))))
theorem f_en_stay : cFunc Try.prog 6 = some ⟨75, c_en_stay, [.tmp 4]⟩ := by kernel_rfl
def c_en_duex : ACode := .seq (.ops [⟨(some 2), .box 2 (.tmp 0), none, true⟩,
 ⟨(some 4), .mv (.av (.val (.slice none 0 0))), none, true⟩,
 ⟨(some 5), .mv (.av (.val (.slice none 0 0))), none, true⟩,
 ⟨(some 6), .mv (.av (.val (.int .i64 0))), none, true⟩])
 (.seq (.ops [⟨(some 13), .load (some 2) (.tmp 2), none, true⟩,
 ⟨(some 14), .mv (.tmp 1), none, true⟩,
 ⟨(some 15), .call (.av (.func 28 [])) [(.tmp 13), (.tmp 14)], none, true⟩,
 ⟨(some 12), .mv (.tmp 15), none, true⟩,
 ⟨(some 16), .extract 0 (.tmp 12), none, true⟩,
 ⟨(some 17), .extract 1 (.tmp 12), none, true⟩,
 ⟨(some 18), .extract 2 (.tmp 12), none, true⟩,
 ⟨(some 7), .mv (.tmp 16), none, true⟩,
 ⟨(some 8), .mv (.tmp 17), none, true⟩,
 ⟨(some 9), .mv (.tmp 18), none, true⟩])
 (.seq (.seq (.ops [⟨(some 19), .mv (.tmp 9), none, true⟩,
 ⟨(some 20), .bin .neq (.tmp 19) (.av (.val (.int .i64 0))), none, true⟩])
 (.cond (.tmp 20)
 (.seq (.ops [⟨(some 21), .mv (.tmp 9), none, true⟩,
 ⟨(some 4), .mv (.av (.val (.slice none 0 0))), none, true⟩,
 ⟨(some 5), .mv (.av (.val (.slice none 0 0))), none, true⟩,
 ⟨(some 6), .mv (.tmp 21), none, true⟩])
 (.ret))
 (.skip)))
 (.seq (.ops [⟨(some 22), .load (some 2) (.tmp 2), none, true⟩,
 ⟨(some 23), .mv (.tmp 7), none, true⟩,
 ⟨(some 24), .call (.av (.func 26 [])) [(.tmp 22), (.tmp 23)], none, true⟩,
 ⟨(some 10), .mv (.tmp 24), none, true⟩])
 (.seq (.seq (.ops [⟨(some 25), .mv (.tmp 10), none, true⟩,
 ⟨(some 26), .len (.tmp 25), none, true⟩,
 ⟨(some 27), .mv (.av (.val (.int .i64 0))), none, true⟩])
 (rangeCode 0 1 28 27 26 44
 (.seq (.ops [⟨(some 29), .mv (.tmp 27), none, true⟩,
 ⟨(some 11), .mv (.tmp 29), none, true⟩])
 (.ops [⟨(some 30), .mv (.tmp 10), none, true⟩,
 ⟨(some 31), .mv (.tmp 11), none, true⟩,
 ⟨(some 32), .mv (.tmp 10), none, true⟩,
 ⟨(some 33), .mv (.tmp 11), none, true⟩,
 ⟨(some 34), .indexAddr 1 (.tmp 32) (.tmp 33), none, true⟩,
 ⟨(some 35), .load none (.tmp 34), none, true⟩,
 ⟨(some 36), .mv (.tmp 35), none, true⟩,
 ⟨(some 37), .mv (.tmp 8), (some (36, true)), true⟩,
 ⟨(some 38), .mv (.tmp 11), (some (36, true)), true⟩,
 ⟨(some 39), .indexAddr 1 (.tmp 37) (.tmp 38), (some (36, true)), true⟩,
 ⟨(some 40), .load none (.tmp 39), (some (36, true)), true⟩,
 ⟨(some 41), .un .not (.tmp 40), (some (36, true)), true⟩,
 ⟨(some 42), .pick (.tmp 36) (.tmp 41) (.av (.val (.bool false))), none, true⟩,
 ⟨(some 43), .indexAddr 1 (.tmp 30) (.tmp 31), none, true⟩,
 ⟨none, .store 1 (.tmp 43) (.tmp 42), none, true⟩]))))
 (.seq (.ops [⟨(some 45), .mv (.tmp 7), none, true⟩,
 ⟨(some 46), .mv (.tmp 10), none, true⟩,
 ⟨(some 47), .call (.av (.func 25 [])) [(.tmp 46)], none, true⟩,
 ⟨(some 4), .mv (.tmp 45), none, true⟩,
 ⟨(some 5), .mv (.tmp 47), none, true⟩,
 ⟨(some 6), .mv (.av (.val (.int .i64 0))), none, true⟩])
 (.ret))))))
theorem f_en_duex : cFunc Try.prog 17 = some ⟨48, c_en_duex, [.tmp 4, .tmp 5, .tmp 6]⟩ := by kernel_rfl
def c_en_due : ACode := .seq (.ops [⟨(some 2), .box 2 (.tmp 0), none, true⟩,
 ⟨(some 4), .mv (.av (.val (.slice none 0 0))), none, true⟩,
 ⟨(some 5), .mv (.av (.val (.slice none 0 0))), none, true⟩,
 ⟨(some 6), .mv (.av (.val (.int .i64 0))), none, true⟩])
 (.seq (.seq (.ops [⟨(some 12), .load (some 2) (.tmp 2), none, true⟩,
 ⟨(some 13), .call (.av (.func 22 [])) [(.tmp 12)], none, true⟩,
 ⟨(some 7), .mv (.tmp 13), none, true⟩])
 (.seq (.ops [⟨(some 14), .mv (.tmp 7), none, true⟩,
 ⟨(some 15), .bin .neq (.tmp 14) (.av (.val (.int .i64 0))), none, true⟩])
 (.cond (.tmp 15)
 (.seq (.ops [⟨(some 16), .mv (.tmp 7), none, true⟩,
 ⟨(some 4), .mv (.av (.val (.slice none 0 0))), none, true⟩,
 ⟨(some 5), .mv (.av (.val (.slice none 0 0))), none, true⟩,
 ⟨(some 6), .mv (.tmp 16), none, true⟩])
 (.ret))
 (.skip))))
 (.seq (.seq (.ops [⟨(some 17), .mv (.tmp 1), none, true⟩,
 ⟨(some 18), .len (.tmp 17), none, true⟩,
 ⟨(some 19), .bin .gtr (.tmp 18) (.av (.val (.int .i64 100))), none, true⟩])
 (.cond (.tmp 19)
 (.seq (.ops [⟨(some 4), .mv (.av (.val (.slice none 0 0))), none, true⟩,
 ⟨(some 5), .mv (.av (.val (.slice none 0 0))), none, true⟩,
 ⟨(some 6), .mv (.av (.val (.int .i64 2))), none, true⟩])
 (.ret))
 (.skip)))
 (.seq (.seq (.ops [⟨(some 20), .mv (.tmp 1), none, true⟩,
 ⟨(some 21), .len (.tmp 20), none, true⟩,
 ⟨(some 22), .mv (.av (.val (.int .i64 0))), none, true⟩])
 (rangeCode 0 1 23 22 21 35
 (.seq (.ops [⟨(some 24), .indexAddr 1 (.tmp 20) (.tmp 22), none, true⟩,
 ⟨(some 25), .load none (.tmp 24), none, true⟩,
 ⟨(some 9), .mv (.tmp 25), none, true⟩])
 (.seq (.ops [⟨(some 26), .mv (.tmp 9), none, true⟩,
 ⟨(some 27), .bin .lss (.tmp 26) (.av (.val (.int .i64 0))), none, true⟩,
 ⟨(some 28), .mv (.tmp 27), none, true⟩,
 ⟨(some 29), .mv (.tmp 9), (some (28, false)), true⟩,
 ⟨(some 30), .fieldAddr 0 (.tmp 2), (some (28, false)), true⟩,
 ⟨(some 31), .load none (.tmp 30), (some (28, false)), true⟩,
 ⟨(some 32), .len (.tmp 31), (some (28, false)), true⟩,
 ⟨(some 33), .bin .geq (.tmp 29) (.tmp 32), (some (28, false)), true⟩,
 ⟨(some 34), .pick (.tmp 28) (.av (.val (.bool true))) (.tmp 33), none, true⟩])
 (.cond (.tmp 34)
 (.seq (.ops [⟨(some 4), .mv (.av (.val (.slice none 0 0))), none, true⟩,
 ⟨(some 5), .mv (.av (.val (.slice none 0 0))), none, true⟩,
 ⟨(some 6), .mv (.av (.val (.int .i64 3))), none, true⟩])
 (.ret))
 (.skip))))))
 (.seq (.ops [⟨(some 36), .load (some 2) (.tmp 2), none, true⟩,
 ⟨(some 37), .fieldAddr 1 (.tmp 2), none, true⟩,
 ⟨(some 38), .load none (.tmp 37), none, true⟩,
 ⟨(some 39), .call (.av (.func 26 [])) [(.tmp 36), (.tmp 38)], none, true⟩,
 ⟨(some 10), .zero [(.val (.slice none 0 0))], none, true⟩,
 ⟨none, .store 1 (.tmp 10) (.tmp 39), none, true⟩])
 (.seq (.ops [⟨(some 40), .mv (.tmp 1), none, true⟩,
 ⟨(some 41), .call (.av (.func 30 [])) [(.tmp 40)], none, true⟩,
 ⟨(some 42), .func 45 [(.tmp 10)], none, true⟩,
 ⟨(some 43), .call (.av (.func 29 [])) [(.tmp 41), (.tmp 42)], none, true⟩,
 ⟨(some 11), .mv (.tmp 43), none, true⟩])
 (.seq (.ops [⟨(some 44), .mv (.tmp 11), none, true⟩,
 ⟨(some 45), .call (.av (.func 46 [])) [(.tmp 44)], none, true⟩])
 (.seq (.opsD [⟨(some 46), .mv (.tmp 11), none, true⟩,
 ⟨(some 47), .call (.av (.func 47 [])) [(.tmp 46)], none, false⟩,
 ⟨(some 48), .load none (.tmp 10), none, false⟩,
 ⟨(some 4), .mv (.tmp 47), none, true⟩,
 ⟨(some 5), .mv (.tmp 48), none, true⟩,
 ⟨(some 6), .mv (.av (.val (.int .i64 0))), none, true⟩])
 (.ret))))))))
theorem f_en_due : cFunc Try.prog 28 = some ⟨49, c_en_due, [.tmp 4, .tmp 5, .tmp 6]⟩ := by kernel_rfl
def c_mk_delf : ACode := .seq (.ops [⟨(some 4), .mv (.av (.val (.slice none 0 0))), none, true⟩])
 (.seq (.ops [⟨(some 8), .mv (.tmp 0), none, true⟩,
 ⟨(some 9), .mv (.tmp 1), none, true⟩,
 ⟨(some 10), .call (.av (.func 48 [])) [(.tmp 8), (.tmp 9)], none, true⟩,
 ⟨(some 5), .mv (.tmp 10), none, true⟩])
 (.seq (.seq (.ops [⟨(some 11), .mv (.tmp 5), none, true⟩,
 ⟨(some 12), .bin .eql (.tmp 11) (.av (.val (.int .i64 (-1)))), none, true⟩])
 (.cond (.tmp 12)
 (.seq (.ops [⟨(some 13), .mv (.tmp 0), none, true⟩,
 ⟨(some 4), .mv (.tmp 13), none, true⟩])
 (.ret))
 (.skip)))
 (.seq (.seq (.ops [⟨(some 14), .mv (.tmp 5), none, true⟩,
 ⟨(some 15), .bin .add (.tmp 14) (.av (.val (.int .i64 1))), none, true⟩,
 ⟨(some 6), .mv (.tmp 15), none, true⟩])
 (.block 0 (.loop (.seq (.seq (.ops [⟨(some 16), .mv (.tmp 6), none, true⟩,
 ⟨(some 17), .mv (.tmp 0), none, true⟩,
 ⟨(some 18), .len (.tmp 17), none, true⟩,
 ⟨(some 19), .bin .lss (.tmp 16) (.tmp 18), none, true⟩])
 (.cond (.tmp 19)
 (.skip)
 (.exit 0)))
 (.seq (.block 1 (.seq (.ops [⟨(some 22), .mv (.tmp 0), none, true⟩,
 ⟨(some 23), .mv (.tmp 6), none, true⟩,
 ⟨(some 24), .indexAddr 1 (.tmp 22) (.tmp 23), none, true⟩,
 ⟨(some 25), .load none (.tmp 24), none, true⟩,
 ⟨(some 7), .mv (.tmp 25), none, true⟩])
 (.seq (.ops [⟨(some 26), .mv (.tmp 1), none, true⟩,
 ⟨(some 27), .mv (.tmp 7), none, true⟩,
 ⟨(some 28), .call (.tmp 26) [(.tmp 27)], none, true⟩,
 ⟨(some 29), .un .not (.tmp 28), none, true⟩])
 (.cond (.tmp 29)
 (.seq (.ops [⟨(some 30), .mv (.tmp 0), none, true⟩,
 ⟨(some 31), .mv (.tmp 5), none, true⟩,
 ⟨(some 32), .mv (.tmp 7), none, true⟩,
 ⟨(some 33), .indexAddr 1 (.tmp 30) (.tmp 31), none, true⟩,
 ⟨none, .store 1 (.tmp 33) (.tmp 32), none, true⟩])
 (.ops [⟨(some 34), .mv (.tmp 5), none, true⟩,
 ⟨(some 35), .bin .add (.tmp 34) (.av (.val (.int .i64 1))), none, true⟩,
 ⟨(some 5), .mv (.tmp 35), none, true⟩]))
 (.skip)))))
 (.ops [⟨(some 20), .mv (.tmp 6), none, true⟩,
 ⟨(some 21), .bin .add (.tmp 20) (.av (.val (.int .i64 1))), none, true⟩,
 ⟨(some 6), .mv (.tmp 21), none, true⟩]))))))
 (.seq (.ops [⟨(some 36), .mv (.tmp 0), none, true⟩,
 ⟨(some 37), .mv (.tmp 5), none, true⟩,
 ⟨(some 38), .slice 1 (.tmp 36) (some (.tmp 37)) none none, none, true⟩,
 ⟨none, .clear 1 [(.val (.int .i64 0))] (.tmp 38), none, true⟩])
 (.seq (.ops [⟨(some 39), .mv (.tmp 0), none, true⟩,
 ⟨(some 40), .mv (.tmp 5), none, true⟩,
 ⟨(some 41), .slice 1 (.tmp 39) none (some (.tmp 40)) none, none, true⟩,
 ⟨(some 4), .mv (.tmp 41), none, true⟩])
 (.ret))))))
theorem f_mk_delf : cFunc Try.prog 29 = some ⟨42, c_mk_delf, [.tmp 4]⟩ := by kernel_rfl
def c_en_clone : ACode := .seq (.ops [⟨(some 2), .mv (.av (.val (.slice none 0 0))), none, true⟩])
 (.seq (.seq (.ops [⟨(some 3), .mv (.tmp 0), none, true⟩,
 ⟨(some 4), .eqNil false 0 (.tmp 3), none, true⟩])
 (.cond (.tmp 4)
 (.seq (.ops [⟨(some 2), .mv (.av (.val (.slice none 0 0))), none, true⟩])
 (.ret))
 (.skip)))
 (.seq (.ops [⟨(some 5), .lits 1 0 [] [], none, true⟩,
 ⟨(some 6), .mv (.tmp 0), none, true⟩,
 ⟨(some 7), .append 1 8 (.tmp 5) (.tmp 6), none, true⟩,
 ⟨(some 2), .mv (.tmp 7), none, true⟩])
 (.ret)))
theorem f_en_clone : cFunc Try.prog 30 = some ⟨8, c_en_clone, [.tmp 2]⟩ := by kernel_rfl
def c_en_duea : ACode := .seq (.ops [⟨(some 3), .mv (.av (.val (.bool false))), none, true⟩])
 (.seq (.ops [⟨(some 4), .load none (.tmp 1), none, true⟩,
 ⟨(some 5), .mv (.tmp 0), none, true⟩,
 ⟨(some 6), .indexAddr 1 (.tmp 4) (.tmp 5), none, true⟩,
 ⟨(some 7), .load none (.tmp 6), none, true⟩,
 ⟨(some 3), .mv (.tmp 7), none, true⟩])
 (.ret))
theorem f_en_duea : cFunc Try.prog 45 = some ⟨8, c_en_duea, [.tmp 3]⟩ := by kernel_rfl
def c_en_compact : ACode := .seq (.ops [⟨(some 2), .mv (.av (.val (.slice none 0 0))), none, true⟩])
 (.seq (.seq (.ops [⟨(some 6), .mv (.tmp 0), none, true⟩,
 ⟨(some 7), .len (.tmp 6), none, true⟩,
 ⟨(some 8), .bin .lss (.tmp 7) (.av (.val (.int .i64 2))), none, true⟩])
 (.cond (.tmp 8)
 (.seq (.ops [⟨(some 9), .mv (.tmp 0), none, true⟩,
 ⟨(some 2), .mv (.tmp 9), none, true⟩])
 (.ret))
 (.skip)))
 (.seq (.seq (.ops [⟨(some 3), .mv (.av (.val (.int .i64 1))), none, true⟩])
 (.block 0 (.loop (.seq (.seq (.ops [⟨(some 10), .mv (.tmp 3), none, true⟩,
 ⟨(some 11), .mv (.tmp 0), none, true⟩,
 ⟨(some 12), .len (.tmp 11), none, true⟩,
 ⟨(some 13), .bin .lss (.tmp 10) (.tmp 12), none, true⟩])
 (.cond (.tmp 13)
 (.skip)
 (.exit 0)))
 (.seq (.block 1 (.seq (.opsD [⟨(some 16), .mv (.tmp 0), none, true⟩,
 ⟨(some 17), .mv (.tmp 3), none, true⟩,
 ⟨(some 18), .indexAddr 1 (.tmp 16) (.tmp 17), none, true⟩,
 ⟨(some 19), .load none (.tmp 18), none, true⟩,
 ⟨(some 20), .mv (.tmp 0), none, true⟩,
 ⟨(some 21), .mv (.tmp 3), none, true⟩,
 ⟨(some 22), .bin .sub (.tmp 21) (.av (.val (.int .i64 1))), none, true⟩,
 ⟨(some 23), .indexAddr 1 (.tmp 20) (.tmp 22), none, true⟩,
 ⟨(some 24), .load none (.tmp 23), none, true⟩,
 ⟨(some 25), .bin .eql (.tmp 19) (.tmp 24), none, true⟩])
 (.cond (.tmp 25)
 (.seq (.ops [⟨(some 26), .mv (.tmp 0), none, true⟩,
 ⟨(some 27), .mv (.tmp 3), none, true⟩,
 ⟨(some 28), .slice 1 (.tmp 26) (some (.tmp 27)) none none, none, true⟩,
 ⟨(some 4), .mv (.tmp 28), none, true⟩])
 (.seq (.seq (.ops [⟨(some 5), .mv (.av (.val (.int .i64 1))), none, true⟩])
 (.block 2 (.loop (.seq (.seq (.ops [⟨(some 29), .mv (.tmp 5), none, true⟩,
 ⟨(some 30), .mv (.tmp 4), none, true⟩,
 ⟨(some 31), .len (.tmp 30), none, true⟩,
 ⟨(some 32), .bin .lss (.tmp 29) (.tmp 31), none, true⟩])
 (.cond (.tmp 32)
 (.skip)
 (.exit 2)))
 (.seq (.block 3 (.seq (.opsD [⟨(some 35), .mv (.tmp 4), none, true⟩,
 ⟨(some 36), .mv (.tmp 5), none, true⟩,
 ⟨(some 37), .indexAddr 1 (.tmp 35) (.tmp 36), none, true⟩,
 ⟨(some 38), .load none (.tmp 37), none, true⟩,
 ⟨(some 39), .mv (.tmp 4), none, true⟩,
 ⟨(some 40), .mv (.tmp 5), none, true⟩,
 ⟨(some 41), .bin .sub (.tmp 40) (.av (.val (.int .i64 1))), none, true⟩,
 ⟨(some 42), .indexAddr 1 (.tmp 39) (.tmp 41), none, true⟩,
 ⟨(some 43), .load none (.tmp 42), none, true⟩,
 ⟨(some 44), .bin .neq (.tmp 38) (.tmp 43), none, true⟩])
 (.cond (.tmp 44)
 (.seq (.ops [⟨(some 45), .mv (.tmp 0), none, true⟩,
 ⟨(some 46), .mv (.tmp 3), none, true⟩,
 ⟨(some 47), .mv (.tmp 4), none, true⟩,
 ⟨(some 48), .mv (.tmp 5), none, true⟩,
 ⟨(some 49), .indexAddr 1 (.tmp 47) (.tmp 48), none, true⟩,
 ⟨(some 50), .load none (.tmp 49), none, true⟩,
 ⟨(some 51), .indexAddr 1 (.tmp 45) (.tmp 46), none, true⟩,
 ⟨none, .store 1 (.tmp 51) (.tmp 50), none, true⟩])
 (.ops [⟨(some 52), .mv (.tmp 3), none, true⟩,
 ⟨(some 53), .bin .add (.tmp 52) (.av (.val (.int .i64 1))), none, true⟩,
 ⟨(some 3), .mv (.tmp 53), none, true⟩]))
 (.skip))))
 (.ops [⟨(some 33), .mv (.tmp 5), none, true⟩,
 ⟨(some 34), .bin .add (.tmp 33) (.av (.val (.int .i64 1))), none, true⟩,
 ⟨(some 5), .mv (.tmp 34), none, true⟩]))))))
 (.seq (.ops [⟨(some 54), .mv (.tmp 0), none, true⟩,
 ⟨(some 55), .mv (.tmp 3), none, true⟩,
 ⟨(some 56), .slice 1 (.tmp 54) (some (.tmp 55)) none none, none, true⟩,
 ⟨none, .clear 1 [(.val (.int .i64 0))] (.tmp 56), none, true⟩])
 (.seq (.ops [⟨(some 57), .mv (.tmp 0), none, true⟩,
 ⟨(some 58), .mv (.tmp 3), none, true⟩,
 ⟨(some 59), .slice 1 (.tmp 57) none (some (.tmp 58)) none, none, true⟩,
 ⟨(some 2), .mv (.tmp 59), none, true⟩])
 (.ret)))))
 (.skip))))
 (.ops [⟨(some 14), .mv (.tmp 3), none, true⟩,
 ⟨(some 15), .bin .add (.tmp 14) (.av (.val (.int .i64 1))), none, true⟩,
 ⟨(some 3), .mv (.tmp 15), none, true⟩]))))))
 (.seq (.ops [⟨(some 60), .mv (.tmp 0), none, true⟩,
 ⟨(some 2), .mv (.tmp 60), none, true⟩])
 (.ret))))
theorem f_en_compact : cFunc Try.prog 47 = some ⟨61, c_en_compact, [.tmp 2]⟩ := by kernel_rfl
def c_mk_idxf : ACode := .seq (.ops [⟨(some 4), .mv (.av (.val (.int .i64 0))), none, true⟩])
 (.seq (.seq (.ops [⟨(some 6), .mv (.tmp 0), none, true⟩,
 ⟨(some 7), .len (.tmp 6), none, true⟩,
 ⟨(some 8), .mv (.av (.val (.int .i64 0))), none, true⟩])
 (rangeCode 0 1 9 8 7 18
 (.seq (.ops [⟨(some 10), .mv (.tmp 8), none, true⟩,
 ⟨(some 5), .mv (.tmp 10), none, true⟩])
 (.seq (.ops [⟨(some 11), .mv (.tmp 1), none, true⟩,
 ⟨(some 12), .mv (.tmp 0), none, true⟩,
 ⟨(some 13), .mv (.tmp 5), none, true⟩,
 ⟨(some 14), .indexAddr 1 (.tmp 12) (.tmp 13), none, true⟩,
 ⟨(some 15), .load none (.tmp 14), none, true⟩,
 ⟨(some 16), .call (.tmp 11) [(.tmp 15)], none, true⟩])
 (.cond (.tmp 16)
 (.seq (.ops [⟨(some 17), .mv (.tmp 5), none, true⟩,
 ⟨(some 4), .mv (.tmp 17), none, true⟩])
 (.ret))
 (.skip))))))
 (.seq (.ops [⟨(some 4), .mv (.av (.val (.int .i64 (-1)))), none, true⟩])
 (.ret)))
theorem f_mk_idxf : cFunc Try.prog 48 = some ⟨19, c_mk_idxf, [.tmp 4]⟩ := by kernel_rfl
end Go.Proofs.Ytfmllmcjinjfaaa

namespace Go.Proofs.Ytfmllmcjinjfaaa
open Go Go.RowKit
set_option linter.unusedVariables false
set_option linter.unusedSimpArgs false
variable {tb : List (FuncId × Bool)} {L : Nat → Bool} {H : ZH} {K : ZV → ZH → Prop}
theorem mv_at0 {W : ZH} (A : ZB) (X : ZH) : (W ++ (A :: X))[W.length]? = some A := by rw [List.getElem?_append_right (Nat.le_refl _), Nat.sub_self]; rfl
theorem mv_at1 {W : ZH} (A B : ZB) (X : ZH) : (W ++ (A :: B :: X))[W.length + 1]? = some B := by rw [List.getElem?_append_right (by omega), Nat.add_sub_cancel_left]; rfl
theorem mv_st0 {W : ZH} (A C : ZB) (X : ZH) : (W ++ (A :: X)).set W.length C = W ++ (C :: X) := by rw [List.set_append_right _ _ (Nat.le_refl _), Nat.sub_self]; rfl
theorem mv_st1 {W : ZH} (A B C : ZB) (X : ZH) : (W ++ (A :: B :: X)).set (W.length + 1) C = W ++ (A :: C :: X) := by rw [List.set_append_right _ _ (by omega), Nat.add_sub_cancel_left]; rfl
theorem mv_atX {W X : ZH} (A B : ZB) : (W ++ (A :: (X ++ [B])))[W.length + (X.length + 1)]? = some B := by rw [List.getElem?_append_right (by omega), Nat.add_sub_cancel_left, List.getElem?_cons_succ, List.getElem?_append_right (Nat.le_refl _), Nat.sub_self]; rfl
theorem mv_stX {W X : ZH} (A B C : ZB) : (W ++ (A :: (X ++ [B]))).set (W.length + (X.length + 1)) C = W ++ (A :: (X ++ [C])) := by rw [List.set_append_right _ _ (by omega), Nat.add_sub_cancel_left, List.set_cons_succ, List.set_append_right _ _ (Nat.le_refl _), Nat.sub_self]; rfl
theorem mv_num0 {S : ZS} {d : Nat} : numZ S d none = some d := rfl
theorem mv_num1 {S : ZS} {d : Nat} {x : Opd} : numZ S d (some x) = (zev S x).bind natZ := by
  simp only [numZ]; cases zev S x <;> rfl
def idxP {α : Type} (p : α → Bool) (l : List α) : Int := match l.findIdx? p with
  | some i => (i : Int)
  | none => -1
def NoneYet {α : Type} (p : α → Bool) (l : List α) : Prop := ∀ x ∈ l, p x = false
theorem idxi_z {z : ZV} {l : List Int} {p : Int → Bool} {f : FuncId} {caps : List ZV} (hz : rowsZ H 1 z = some (l.map eI)) (hb : l.length ≤ 100000000000000) (hf : ∀ m ∈ l, ∀ K, K (ZBo (p m)) H → ZC (constX tb) (cFunc Try.prog) f (Z64 m :: caps) L H K) (hK : K (Z64 (idxP p l)) H) :
    ZC (constX tb) (cFunc Try.prog) 48 [z, .func f caps] L H K := by
  refine ZC.enter Gh.no constX_none f_mk_idxf (by simp) ?_
  simp only [c_mk_idxf]
  have hlen := rows_len hz
  rw [List.length_map] at hlen
  have HF := Lib.hid hf
  have HK := Lib.hid hK
  clear hf hK
  repeat' (first | (simp only [zmPack, zxPack, ne_eq, zfree, owners, Nat.reduceLT, List.contains_cons, List.contains_nil, Nat.reduceBEq, BEq.rfl, chunk, setAt, List.lookup_cons, List.lookup_nil, reduceCtorEq, Nat.reduceEqDiff, reduceIte, implies_true, forall_const, Nat.reduceMul, Nat.reduceSub, Nat.reduceAdd, Nat.reduceLeDiff, hlen, *]) | (simp only [zgoO, zgoG, zO_nil, zthen_normal, zgoC]) | (with_reducible apply And.intro) | (with_reducible intro _))
  refine zW_forK [(0, z), (1, .func f caps)] l.length (fun k s' h' => h' = H ∧ NoneYet p (l.take k)) (by omega) ⟨rfl, rfl, rfl, rfl, rfl, rfl⟩ rfl rfl (by repeat' (first | exact trivial | (refine ⟨rfl, ?_⟩) | (refine ⟨by simp only [zupd_at, Nat.reduceEqDiff, reduceIte]; assumption, ?_⟩))) rfl rfl (by decide) ⟨rfl, by simp [NoneYet]⟩ ?_ ?_
  · rintro k s' h' hk ⟨rfl, hno⟩ hi hl ⟨f0, f1, -⟩
    obtain ⟨q, hq, hld⟩ := rows_at hz hk
    have HN := Lib.hid hno
    clear hno
    repeat' (first | (simp only [zmPack, zxPack, ne_eq, zfree, owners, Nat.reduceLT, List.contains_cons, List.contains_nil, Nat.reduceBEq, BEq.rfl, chunk, setAt, List.lookup_cons, List.lookup_nil, reduceCtorEq, Nat.reduceEqDiff, reduceIte, implies_true, forall_const, Nat.reduceMul, Nat.reduceSub, Nat.reduceAdd, Nat.reduceLeDiff, hq, hld, *]) | (simp only [zgoO, zgoG, zO_nil, zthen_normal, zgoC]) | (with_reducible apply And.intro) | (with_reducible intro _))
    refine HF.out _ (List.getElem_mem hk) _ ?_
    cases hp : p l[k] with
    | true =>
      have hi : idxP p l = (k : Int) := by
        have : l.findIdx? p = some k := by
          rw [List.findIdx?_eq_some_iff_getElem]
          exact ⟨hk, hp, fun j hj => by simp only [Bool.not_eq_true]; exact HN.out _ (by rw [List.mem_take_iff_getElem]; exact ⟨j, by omega, rfl⟩)⟩
        simp only [idxP, this]
      have hK := HK.out
      rw [hi] at hK
      have fin := Fin.keep (H0 := h') hK
      clear hp hi hK hld
      repeat' (first | (simp only [zmPack, zxPack, ne_eq, zfree, owners, Nat.reduceLT, List.contains_cons, List.contains_nil, Nat.reduceBEq, BEq.rfl, chunk, setAt, List.lookup_cons, List.lookup_nil, reduceCtorEq, Nat.reduceEqDiff, reduceIte, implies_true, forall_const, Nat.reduceMul, Nat.reduceSub, Nat.reduceAdd, Nat.reduceLeDiff, *]) | (simp only [zgoO, zgoG, zO_nil, zthen_normal, zgoC]) | (with_reducible apply And.intro) | (with_reducible intro _))
    | false =>
      have fin : NoneYet p (l.take (k + 1)) := fun x hx => by
        rw [List.take_succ_eq_append_getElem hk] at hx
        rcases List.mem_append.1 hx with hx | hx
        · exact HN.out x hx
        · rw [List.mem_singleton.1 hx]; exact hp
      clear hp hld
      repeat' (first | (simp only [zmPack, zxPack, ne_eq, zfree, owners, Nat.reduceLT, List.contains_cons, List.contains_nil, Nat.reduceBEq, BEq.rfl, chunk, setAt, List.lookup_cons, List.lookup_nil, reduceCtorEq, Nat.reduceEqDiff, reduceIte, implies_true, forall_const, Nat.reduceMul, Nat.reduceSub, Nat.reduceAdd, Nat.reduceLeDiff, *]) | (simp only [zgoO, zgoG, zO_nil, zthen_normal, zgoC]) | (with_reducible apply And.intro) | (with_reducible intro _))
  · rintro s' h' ⟨rfl, hno⟩ ⟨f0, f1, -⟩
    rw [List.take_of_length_le (Nat.le_refl _)] at hno
    have hi : idxP p l = -1 := by
      have : l.findIdx? p = none := List.findIdx?_eq_none_iff.2 fun x hx => by rw [hno x hx]
      simp only [idxP, this]
    have hK := HK.out
    rw [hi] at hK
    have fin := Fin.keep (H0 := h') hK
    clear hno hi hK
    repeat' (first | (simp only [zmPack, zxPack, ne_eq, zfree, owners, Nat.reduceLT, List.contains_cons, List.contains_nil, Nat.reduceBEq, BEq.rfl, chunk, setAt, List.lookup_cons, List.lookup_nil, reduceCtorEq, Nat.reduceEqDiff, reduceIte, implies_true, forall_const, Nat.reduceMul, Nat.reduceSub, Nat.reduceAdd, Nat.reduceLeDiff, *]) | (simp only [zgoO, zgoG, zO_nil, zthen_normal, zgoC]) | (with_reducible apply And.intro) | (with_reducible intro _))
def keepP (p : Int → Bool) (l : List Int) : List Int := l.filter fun x => !p x
theorem mv_pure {R : List (List ZV)} (h : ∀ r ∈ R, r.all pureZ = true) : R.flatten.all pureZ = true := by
  rw [List.all_eq_true]
  intro z hz
  obtain ⟨r, hr, h1⟩ := List.mem_flatten.1 hz
  exact List.all_eq_true.1 (h r hr) z h1
theorem mv_refs {n : Nat} {R : List (List ZV)} (h : ∀ r ∈ R, r.all pureZ = true) : R.flatten.all (refs1 n) = true := by
  have h := mv_pure h
  rw [List.all_eq_true] at h ⊢
  intro z hz
  have := h z hz
  cases z <;> simp_all [pureZ, refs1]
structure DInv (p : Int → Bool) (l : List Int) (m j i : Nat) (R : List (List ZV)) : Prop where
  hj : j ≤ l.length
  hm : m = l.length - j
  hi : i = (keepP p (l.take j)).length
  hij : i < j
  hR : R.length = l.length
  ht : R.take i = (keepP p (l.take j)).map eI
  hd : ∀ t, i ≤ t → R[t]? = (l.map eI)[t]?
theorem keepP_next {p : Int → Bool} {l : List Int} {j : Nat} (hj : j < l.length) : keepP p (l.take (j + 1)) = keepP p (l.take j) ++ (if p l[j] = true then [] else [l[j]]) := by
  rw [List.take_succ_eq_append_getElem hj]
  unfold keepP
  rw [List.filter_append]
  congr 1
  by_cases h : p l[j] = true <;> simp [h]
theorem DInv.skip {p : Int → Bool} {l : List Int} {m j i : Nat} {R : List (List ZV)} (h : DInv p l m j i R) (hj : j < l.length) (he : p l[j] = true) : DInv p l (m - 1) (j + 1) i R := by
  have hn := keepP_next (p := p) hj
  rw [if_pos he, List.append_nil] at hn
  exact ⟨hj, by have := h.hm; omega, by rw [hn]; exact h.hi, by have := h.hij; omega, h.hR, by rw [hn]; exact h.ht, h.hd⟩
theorem DInv.keep {p : Int → Bool} {l : List Int} {m j i : Nat} {R : List (List ZV)} (h : DInv p l m j i R) (hj : j < l.length) (he : ¬ p l[j] = true) : DInv p l (m - 1) (j + 1) (i + 1) (R.set i (eI l[j])) := by
  have hn := keepP_next (p := p) hj
  rw [if_neg he] at hn
  have hiR : i < R.length := by have := h.hR; have := h.hij; omega
  refine ⟨hj, by have := h.hm; omega, by rw [hn, List.length_append, ← h.hi]; rfl, by have := h.hij; omega, by rw [List.length_set]; exact h.hR, ?_, fun t ht => ?_⟩
  · rw [List.take_succ_eq_append_getElem (by rw [List.length_set]; exact hiR), List.take_set_of_le (Nat.le_refl _), h.ht, hn, List.map_append, List.getElem_set_self]; rfl
  · rw [List.getElem?_set, if_neg (by omega)]; exact h.hd t (by omega)
theorem DInv.start {p : Int → Bool} {l : List Int} {i : Nat} (h : l.findIdx? p = some i) : DInv p l (l.length - (i + 1)) (i + 1) i (l.map eI) := by
  obtain ⟨h1, h2, h3⟩ := List.findIdx?_eq_some_iff_getElem.1 h
  have hn := keepP_next (p := p) h1
  rw [if_pos (by simpa using h2), List.append_nil] at hn
  have ht : keepP p (l.take i) = l.take i := by
    unfold keepP
    rw [List.filter_eq_self]
    intro x hx
    obtain ⟨j, hj, rfl⟩ := List.mem_take_iff_getElem.1 hx
    have := h3 j (by omega)
    simpa using this
  refine ⟨h1, rfl, by rw [hn, ht, List.length_take]; omega, by omega, by simp, ?_, fun _ _ => rfl⟩
  rw [hn, ht, List.map_take]
set_option maxHeartbeats 4000000 in
theorem delfn_z {g : Nat} {p : Int → Bool} {f : FuncId} {caps : List ZV} {l : List Int} (hb : l.length ≤ 1000) (hf : ∀ m ∈ l, ∀ (R : List (List ZV)) (X : ZH) (K : ZV → ZH → Prop), K (ZBo (p m)) (H ++ (.grow g 1 R :: X)) → ZC (constX tb) (cFunc Try.prog) f (Z64 m :: caps) L (H ++ (.grow g 1 R :: X)) K) (l0 : L H.length = true) (hK : ∀ R : List (List ZV), R.take (keepP p l).length = (keepP p l).map eI → (keepP p l).length ≤ R.length → (∀ r ∈ R, r.all pureZ = true) → K (.own H.length g 0 (keepP p l).length false) (H ++ [.grow g 1 R])) :
    ZC (constX tb) (cFunc Try.prog) 29 [.own H.length g 0 l.length false, .func f caps] L (H ++ [.grow g 1 (l.map eI)]) K := by
  refine ZC.enterL Gh.no constX_none f_mk_delf (by simp) fun hL => ?_
  simp only [c_mk_delf]
  have hL' : ∀ k, L (H.length + (k + 1)) = true := fun k => by
    have := hL k
    rw [List.length_append, List.length_singleton, Nat.add_assoc, Nat.add_comm 1 k] at this
    exact this
  have HK := Lib.hid hK
  have HB := Lib.hid hb
  have HF := Lib.hid hf
  clear hK hb hL hf
  repeat' (first | (simp only [zmPack, zxPack, ne_eq, zfree, owners, Nat.reduceLT, List.contains_cons, List.contains_nil, Nat.reduceBEq, BEq.rfl, chunk, setAt, List.lookup_cons, List.lookup_nil, reduceCtorEq, Nat.reduceEqDiff, reduceIte, implies_true, forall_const, Nat.reduceMul, Nat.reduceSub, Nat.reduceAdd, Nat.reduceLeDiff, *]) | (simp only [zgoO, zgoG, zO_nil, zthen_normal, zgoC]) | (with_reducible apply And.intro) | (with_reducible intro _))
  refine idxi_z (l := l) (p := p) (rows_whole (mv_at0 _ _) (by simp)) (by have := HB.out; omega) (fun m hm K2 k2 => HF.out m hm _ [] K2 k2) ?_
  cases hf : l.findIdx? p with
  | none =>
    have hi : idxP p l = -1 := by simp only [idxP, hf]
    have hl : keepP p l = l := by
      unfold keepP
      rw [List.filter_eq_self]
      intro x hx
      have := List.findIdx?_eq_none_iff.1 hf x hx
      simpa using this
    have hk := HK.out (l.map eI) (by rw [hl]; exact take_map_all) (by rw [hl]; simp) (fun r hr => by obtain ⟨x, _, rfl⟩ := List.mem_map.1 hr; rfl)
    rw [hl] at hk
    have fin := Fin.keep (H0 := H ++ [.grow g 1 (l.map eI)]) hk
    clear hk hl hf
    rw [hi]
    clear hi
    repeat' (first | (simp only [zmPack, zxPack, ne_eq, zfree, owners, Nat.reduceLT, List.contains_cons, List.contains_nil, Nat.reduceBEq, BEq.rfl, chunk, setAt, List.lookup_cons, List.lookup_nil, reduceCtorEq, Nat.reduceEqDiff, reduceIte, implies_true, forall_const, Nat.reduceMul, Nat.reduceSub, Nat.reduceAdd, Nat.reduceLeDiff, *]) | (simp only [zgoO, zgoG, zO_nil, zthen_normal, zgoC]) | (with_reducible apply And.intro) | (with_reducible intro _))
  | some i0 =>
    have hi : idxP p l = (i0 : Int) := by simp only [idxP, hf]
    have hD := DInv.start hf
    rw [hi]
    have hne : ¬ ((i0 : Int) = -1) := by omega
    have hi0 := hD.hj
    have e1 : IntKind.i64.wrap ((i0 : Int) + 1) = ((i0 + 1 : Nat) : Int) := by have := HB.out; rw [IntWalk.i64_in _ (by omega)]; omega
    clear hf hi
    repeat' (first | (simp only [zmPack, zxPack, ne_eq, zfree, owners, Nat.reduceLT, List.contains_cons, List.contains_nil, Nat.reduceBEq, BEq.rfl, chunk, setAt, List.lookup_cons, List.lookup_nil, reduceCtorEq, Nat.reduceEqDiff, reduceIte, implies_true, forall_const, Nat.reduceMul, Nat.reduceSub, Nat.reduceAdd, Nat.reduceLeDiff, e1, *]) | (simp only [zgoO, zgoG, zO_nil, zthen_normal, zgoC]) | (with_reducible apply And.intro) | (with_reducible intro _))
    refine zW_whileK [(0, .own H.length g 0 l.length false), (1, .func f caps)] (l.length - (i0 + 1)) (fun m s' h' => ∃ j i R X, s' 6 = Z64 (j : Nat) ∧ s' 5 = Z64 (i : Nat) ∧ h' = H ++ (.grow g 1 R :: X) ∧ DInv p l m j i R) (by repeat' (first | exact trivial | (refine ⟨rfl, ?_⟩) | (refine ⟨by simp only [zupd_at, Nat.reduceEqDiff, reduceIte]; assumption, ?_⟩))) rfl ⟨i0 + 1, i0, _, [], rfl, rfl, rfl, hD⟩ ?_
    clear hD hne hi0 e1
    rintro m s' h' ⟨j, i, R, X, f6, f5, rfl, hD⟩ ⟨f0, f1, -⟩
    have hjl := hD.hj
    have hij := hD.hij
    have hR := hD.hR
    have hle : l.length ≤ R.length := Nat.le_of_eq hR.symm
    have HD := Lib.hid hD
    have HR := Lib.hid hR
    clear hD hR
    by_cases hj : j < l.length
    · have g1 : (j : Int) < (l.length : Int) := by omega
      have hx : R[j]? = some (eI l[j]) := by rw [HD.out.hd j (by omega)]; simp [hj]
      have hy : R[i]? = some (eI (l[i]'(by omega))) := by rw [HD.out.hd i (by omega)]; simp [show i < l.length by omega]
      have hil : i < l.length := by omega
      have hiR : i < R.length := by omega
      have hjR : j < R.length := by omega
      have hm : m - 1 < m := by have := HD.out.hm; omega
      have wj : IntKind.i64.wrap ((j : Int) + 1) = ((j + 1 : Nat) : Int) := by have := HB.out; rw [IntWalk.i64_in _ (by omega)]; omega
      have wi : IntKind.i64.wrap ((i : Int) + 1) = ((i + 1 : Nat) : Int) := by have := HB.out; rw [IntWalk.i64_in _ (by omega)]; omega
      have sk := fun he => HD.out.skip hj he
      have kp := fun he => HD.out.keep hj he
      obtain ⟨q, hq⟩ : ∃ q, q = l[j] := ⟨_, rfl⟩
      have hqm : q ∈ l := by rw [hq]; exact List.getElem_mem hj
      have HQM := Lib.hid hqm
      clear hqm
      obtain ⟨q', hq'⟩ : ∃ q', q' = l[i]'(by omega) := ⟨_, rfl⟩
      rw [← hq] at hx sk kp
      rw [← hq'] at hy
      have SK := Lib.hid sk
      have KP := Lib.hid kp
      have g0 : ∀ A Y, (H ++ (A :: Y))[H.length]? = some A := fun A Y => mv_at0 A Y
      have gs : ∀ A C Y, (H ++ (A :: Y)).set H.length C = H ++ (C :: Y) := fun A C Y => mv_st0 A C Y
      have a0 : ∀ A C : ZB, (H ++ (A :: (X ++ [C])))[H.length + (X.length + 1)]? = some C := fun A C => mv_atX A C
      have s0 : ∀ A C D : ZB, (H ++ (A :: (X ++ [C]))).set (H.length + (X.length + 1)) D = H ++ (A :: (X ++ [D])) := fun A C D => mv_stX A C D
      have lx : L (H.length + (X.length + 1)) = true := hL' _
      clear hq hq' sk kp hjl hij
      have hj' : j < l.length := hj
      repeat' (first | (simp only [zmPack, zxPack, ne_eq, zfree, owners, Nat.reduceLT, List.contains_cons, List.contains_nil, Nat.reduceBEq, BEq.rfl, chunk, setAt, List.lookup_cons, List.lookup_nil, reduceCtorEq, Nat.reduceEqDiff, reduceIte, implies_true, forall_const, Nat.reduceMul, Nat.reduceSub, Nat.reduceAdd, Nat.reduceLeDiff, hx, hy, g0, gs, a0, s0, lx, wj, wi, *]) | (simp only [zgoO, zgoG, zO_nil, zthen_normal, zgoC]) | (with_reducible apply And.intro) | (with_reducible intro _))
      refine HF.out q HQM.out _ _ _ ?_
      by_cases he : p q = true
      · have hd : p q = true := he
        rw [hd]
        have fin := SK.out he
        clear hd he
        repeat' (first | (simp only [zmPack, zxPack, ne_eq, zfree, owners, Nat.reduceLT, List.contains_cons, List.contains_nil, Nat.reduceBEq, BEq.rfl, chunk, setAt, List.lookup_cons, List.lookup_nil, reduceCtorEq, Nat.reduceEqDiff, reduceIte, implies_true, forall_const, Nat.reduceMul, Nat.reduceSub, Nat.reduceAdd, Nat.reduceLeDiff, hx, hy, g0, gs, a0, s0, lx, wj, wi, *]) | (simp only [zgoO, zgoG, zO_nil, zthen_normal, zgoC]) | (with_reducible apply And.intro) | (with_reducible intro _))
        all_goals exact ⟨_, hm, _, rfl, _, rfl, _, ⟨_, rfl⟩, fin⟩
      · have hd : p q = false := by simpa using he
        rw [hd]
        have fin := KP.out he
        clear hd he
        repeat' (first | (simp only [zmPack, zxPack, ne_eq, zfree, owners, Nat.reduceLT, List.contains_cons, List.contains_nil, Nat.reduceBEq, BEq.rfl, chunk, setAt, List.lookup_cons, List.lookup_nil, reduceCtorEq, Nat.reduceEqDiff, reduceIte, implies_true, forall_const, Nat.reduceMul, Nat.reduceSub, Nat.reduceAdd, Nat.reduceLeDiff, hx, hy, g0, gs, a0, s0, lx, wj, wi, *]) | (simp only [zgoO, zgoG, zO_nil, zthen_normal, zgoC]) | (with_reducible apply And.intro) | (with_reducible intro _))
        all_goals exact ⟨_, hm, _, rfl, _, rfl, _, ⟨_, rfl⟩, fin⟩
    · have hjn : j = l.length := by omega
      have g1 : ((j : Int) < (l.length : Int)) = False := by simp; omega
      have hin : i < l.length := by omega
      have hlose : keepP p (l.take j) = keepP p l := by rw [hjn, List.take_length]
      have hil : i = (keepP p l).length := by rw [HD.out.hi, hlose]
      have hRt := HD.out.ht
      rw [hlose] at hRt
      obtain ⟨R2, hR2⟩ : ∃ R2, R2 = R.take i ++ (List.replicate (l.length - i) [Z64 (0 : Int)]).take (min (List.replicate (l.length - i) [Z64 (0 : Int)]).length (l.length - i)) ++ R.drop (i + min (List.replicate (l.length - i) [Z64 (0 : Int)]).length (l.length - i)) := ⟨_, rfl⟩
      have hiR : i ≤ R.length := by omega
      have c1 : ∀ Y, cutZ (H ++ (.grow g 1 R :: Y)) 1 i l.length l.length false (.own H.length g 0 l.length false) = some (.own H.length g i (l.length - i) false) := fun Y => by
        simp only [cutZ, mv_at0]
        rw [if_pos ⟨trivial, trivial, by omega, Nat.le_refl _, Nat.le_refl _, by omega⟩]; simp
      have c2 : ∀ Y, cutZ (H ++ (.grow g 1 R2 :: Y)) 1 0 i l.length false (.own H.length g 0 l.length false) = some (.own H.length g 0 i false) := fun Y => by
        simp only [cutZ, mv_at0]
        rw [if_pos ⟨trivial, trivial, Nat.zero_le _, by omega, Nat.le_refl _, by rw [hR2]; simp; omega⟩]; simp
      have c3 : ∀ Y, copyZ L (H ++ (.grow g 1 R :: Y)) 1 (List.replicate (l.length - i) [Z64 (0 : Int)]) (.own H.length g i (l.length - i) false) = some (l.length - i, H ++ (.grow g 1 R2 :: Y)) := fun Y => by
        simp only [copyZ, mv_at0]
        rw [if_pos ⟨trivial, trivial, by omega, l0, by omega⟩, hR2, mv_st0]; simp
      have fin : Fin (H ++ [.grow g 1 (l.map eI)]) (.own H.length g 0 i false) (H ++ (.grow g 1 R2 :: X)) K := by
        have hp : ∀ r ∈ R2, r.all pureZ = true := fun r hr => by
          rw [hR2] at hr
          simp only [List.mem_append] at hr
          rcases hr with (hr | hr) | hr
          · rw [hRt] at hr; obtain ⟨x, _, rfl⟩ := List.mem_map.1 hr; rfl
          · rw [(List.mem_replicate.1 (List.mem_of_mem_take hr)).2]; rfl
          · obtain ⟨t, ht, rfl⟩ := List.getElem_of_mem hr
            have ht2 : R[i + min (List.replicate (l.length - i) [Z64 (0 : Int)]).length (l.length - i) + t]? = some ((R.drop (i + min (List.replicate (l.length - i) [Z64 (0 : Int)]).length (l.length - i)))[t]) := by
              rw [← List.getElem?_drop, List.getElem?_eq_getElem ht]
            rw [HD.out.hd _ (by omega)] at ht2
            obtain ⟨x, _, h⟩ := List.mem_map.1 (List.mem_of_getElem? ht2)
            rw [← h]; rfl
        have hh : H ++ (.grow g 1 R2 :: X) = ((H ++ [ZB.grow g 1 (l.map eI)]) ++ X).set H.length (.grow g 1 R2) := by rw [List.append_assoc, List.singleton_append, mv_st0]
        refine Fin.trunc (by rw [hh]; exact Mods.set (Mods.ext _ _) (mv_refs hp)) (by simp [refs, refs1]) ?_
        have : (H ++ (.grow g 1 R2 :: X)).take (H ++ [ZB.grow g 1 (l.map eI)]).length = H ++ [.grow g 1 R2] := by
          rw [List.length_append, List.length_singleton, show H ++ (ZB.grow g 1 R2 :: X) = (H ++ [.grow g 1 R2]) ++ X by simp, List.take_left' (by simp)]
        rw [this, hil]
        refine HK.out R2 ?_ (by rw [hR2, ← hil]; simp; omega) hp
        rw [hR2, ← hil, List.append_assoc, List.take_left' (by simp; omega), hRt]
      clear hR2 hRt hlose hil hjl hij hjn
      have g0 : ∀ A Y, (H ++ (A :: Y))[H.length]? = some A := fun A Y => mv_at0 A Y
      repeat' (first | (simp only [zmPack, zxPack, ne_eq, zfree, owners, Nat.reduceLT, List.contains_cons, List.contains_nil, Nat.reduceBEq, BEq.rfl, chunk, setAt, List.lookup_cons, List.lookup_nil, reduceCtorEq, Nat.reduceEqDiff, reduceIte, implies_true, forall_const, Nat.reduceMul, Nat.reduceSub, Nat.reduceAdd, Nat.reduceLeDiff, c1, c2, c3, g0, mv_num0, mv_num1, Option.bind_some, Option.isSome_none, z_clear, zh_clear, zu_clear, zf_clear, zp0_clear, zp1_clear, zr_clear, List.length_replicate, *]) | (simp only [zgoO, zgoG, zO_nil, zthen_normal, zgoC]) | (with_reducible apply And.intro) | (with_reducible intro _))
end Go.Proofs.Ytfmllmcjinjfaaa

namespace Go.Proofs.Ytfmllmcjinjfaaa
open Go Go.RowKit
set_option linter.unusedVariables false
set_option linter.unusedSimpArgs false
variable {tb : List (FuncId × Bool)} {L : Nat → Bool} {H : ZH} {K : ZV → ZH → Prop}
theorem clone_z {ex : Bool} {l : List Int} (hb : l.length ≤ 1000000) (h1 : l ≠ [] → K (.own H.length 0 0 l.length false) (H ++ [.grow 0 1 (l.map eI)])) (h0 : l = [] → K (.fz 1 false []) H) :
    ZC (constX tb) (cFunc Try.prog) 30 [.fz 1 ex (l.map eI)] L H K := by
  refine ZC.enterL Gh.no constX_none f_en_clone (by simp) fun hL => ?_
  simp only [c_en_clone]
  have l0 : L H.length = true := hL 0
  cases l with
  | nil =>
    have fin1 : Fin H .nil H K := Fin.nilFz (Fin.keep (h0 rfl))
    have fin2 : ∀ b, Fin H (.fz 1 b []) H K := fun b => Fin.weak (Fin.keep (h0 rfl))
    have hap : ∀ b, appZ L H 1 8 [] (.fz 1 b []) = some (.fz 1 b [], H) := fun b => by simp [appZ]
    clear h1 h0 hL hb
    simp only [List.map_nil]
    repeat' (first | (simp only [zmPack, zxPack, ne_eq, zfree, owners, Nat.reduceLT, List.contains_cons, List.contains_nil, Nat.reduceBEq, BEq.rfl, chunk, setAt, List.lookup_cons, List.lookup_nil, reduceCtorEq, Nat.reduceEqDiff, reduceIte, implies_true, forall_const, Nat.reduceMul, Nat.reduceSub, Nat.reduceAdd, Nat.reduceLeDiff, hap, *]) | (simp only [zgoO, zgoG, zO_nil, zthen_normal, zgoC]) | (with_reducible apply And.intro) | (with_reducible intro _))
    all_goals first | exact fin1 | exact .inr ⟨_, rfl⟩ | fail
  | cons y l =>
    obtain ⟨o, ho⟩ : ∃ o, o = y :: l := ⟨_, rfl⟩
    have hne : o ≠ [] := by rw [ho]; simp
    rw [← ho] at h1 hb ⊢
    have hnil : ∀ (W : ZH), nilZ W 0 (.fz 1 ex (o.map eI)) = some false := fun W => by rw [ho]; rfl
    have hap : appZ L H 1 8 (o.map eI) (.fz 1 true []) = some (.own H.length 0 0 o.length false, H ++ [.grow 0 1 (o.map eI)]) := by
      have hre : o.length * 8 ≤ reach := by unfold reach; omega
      simp [appZ, hne, hre]
    have fin : Fin H (.own H.length 0 0 o.length false) (H ++ [.grow 0 1 (o.map eI)]) K := Fin.keep (h1 hne)
    clear h1 h0 hL ho
    repeat' (first | (simp only [zmPack, zxPack, ne_eq, zfree, owners, Nat.reduceLT, List.contains_cons, List.contains_nil, Nat.reduceBEq, BEq.rfl, chunk, setAt, List.lookup_cons, List.lookup_nil, reduceCtorEq, Nat.reduceEqDiff, reduceIte, implies_true, forall_const, Nat.reduceMul, Nat.reduceSub, Nat.reduceAdd, Nat.reduceLeDiff, hnil, hap, *]) | (simp only [zgoO, zgoG, zO_nil, zthen_normal, zgoC]) | (with_reducible apply And.intro) | (with_reducible intro _))
    all_goals first | exact .inl fin | fail
def cptTo (s : List Int) : Nat → List Int
  | 0 => []
  | k + 1 => cptTo s k ++ (if 0 < k ∧ s[k]? = s[k - 1]? then [] else [s.getD k 0])
def cpt (s : List Int) : List Int := cptTo s s.length
structure CInv (s : List Int) (R0 : List (List ZV)) (k0 k2 k : Nat) (R : List (List ZV)) : Prop where
  h2 : 1 ≤ k2 ∧ k0 + k2 ≤ s.length
  hk : k + 1 ≤ k0 + k2
  hl : k = (cptTo s (k0 + k2)).length
  hR : R.length = R0.length
  ht : R.take k = (cptTo s (k0 + k2)).map eI
  hd : ∀ t, k0 + k2 ≤ t + 1 → R[t]? = R0[t]?
  hv : ∀ t, t < s.length → ∃ x, R[t]? = some (eI x)
theorem CInv.start {s : List Int} {R0 : List (List ZV)} {k0 : Nat} (hk : 1 ≤ k0) (hs : k0 < s.length) (h0 : cptTo s k0 = s.take k0) (hR : R0.take s.length = s.map eI) (he : s[k0]? = s[k0 - 1]?) : CInv s R0 k0 1 k0 R0 := by
  have e : cptTo s (k0 + 1) = s.take k0 := by
    show cptTo s k0 ++ _ = _
    rw [if_pos ⟨by omega, he⟩, List.append_nil, h0]
  refine ⟨⟨Nat.le_refl _, by omega⟩, Nat.le_refl _, by rw [e, List.length_take]; omega, rfl, ?_, fun _ _ => rfl, fun t ht => ⟨s[t], by
    have : (R0.take s.length)[t]? = some (eI s[t]) := by rw [hR, List.getElem?_map, List.getElem?_eq_getElem ht]; rfl
    rwa [List.getElem?_take, if_pos ht] at this⟩⟩
  rw [e, List.map_take, ← hR, List.take_take, Nat.min_eq_left (by omega)]
theorem CInv.skip {s : List Int} {R0 R : List (List ZV)} {k0 k2 k : Nat} (h : CInv s R0 k0 k2 k R) (hs : k0 + k2 < s.length) (he : s[k0 + k2]? = s[k0 + k2 - 1]?) : CInv s R0 k0 (k2 + 1) k R := by
  have e : cptTo s (k0 + (k2 + 1)) = cptTo s (k0 + k2) := by
    show cptTo s (k0 + k2) ++ _ = _
    have h00 : 0 < k0 + k2 := by have := h.h2; omega
    rw [if_pos ⟨h00, he⟩, List.append_nil]
  have h22 := h.h2
  exact ⟨⟨by omega, by omega⟩, by have := h.hk; omega, by rw [e]; exact h.hl, h.hR, by rw [e]; exact h.ht, fun t ht => h.hd t (by omega), h.hv⟩
theorem CInv.put {s : List Int} {R0 R : List (List ZV)} {k0 k2 k : Nat} (h : CInv s R0 k0 k2 k R) (hs : k0 + k2 < s.length) (hR0 : s.length ≤ R0.length) (he : s[k0 + k2]? ≠ s[k0 + k2 - 1]?) : CInv s R0 k0 (k2 + 1) (k + 1) (R.set k (eI s[k0 + k2])) := by
  have e : cptTo s (k0 + (k2 + 1)) = cptTo s (k0 + k2) ++ [s[k0 + k2]] := by
    show cptTo s (k0 + k2) ++ _ = _
    rw [if_neg (fun q => he q.2)]; simp [List.getD, hs]
  have hkR : k < R.length := by have := h.hR; have := h.hk; have := h.h2; omega
  refine ⟨⟨by omega, by omega⟩, by have := h.hk; omega, by rw [e, List.length_append, ← h.hl]; rfl, by rw [List.length_set]; exact h.hR, ?_, fun t ht => ?_, fun t ht => ?_⟩
  · rw [List.take_succ_eq_append_getElem (by rw [List.length_set]; exact hkR), List.take_set_of_le (Nat.le_refl _), h.ht, e, List.map_append, List.getElem_set_self]; rfl
  · rw [List.getElem?_set, if_neg (by have := h.hk; omega)]; exact h.hd t (by omega)
  · by_cases hkt : k = t
    · subst hkt; exact ⟨_, List.getElem?_set_self hkR⟩
    · rw [List.getElem?_set_ne hkt]; exact h.hv t ht
theorem cpt_small {s : List Int} (h : s.length < 2) : cpt s = s := by
  match s, h with
  | [], _ => rfl
  | [x], _ => simp [cpt, cptTo]
theorem cpt_next {s : List Int} {k : Nat} (hk : 1 ≤ k) (hs : k < s.length) (h0 : cptTo s k = s.take k) (he : s[k]? ≠ s[k - 1]?) : cptTo s (k + 1) = s.take (k + 1) := by
  show cptTo s k ++ _ = _
  rw [if_neg (fun q => he q.2), h0, List.take_succ_eq_append_getElem hs]
  simp [List.getD, hs]
set_option maxHeartbeats 8000000 in
theorem compact_z {g : Nat} {s : List Int} {R : List (List ZV)} (hb : s.length ≤ 1000) (hR : R.take s.length = s.map eI) (hRl : s.length ≤ R.length) (hp : ∀ r ∈ R, r.all pureZ = true) (l0 : L H.length = true)
    (hK : ∀ R' : List (List ZV), R'.take (cpt s).length = (cpt s).map eI → (cpt s).length ≤ R'.length → (∀ r ∈ R', r.all pureZ = true) → K (.own H.length g 0 (cpt s).length false) (H ++ [.grow g 1 R'])) :
    ZC (constX tb) (cFunc Try.prog) 47 [.own H.length g 0 s.length false] L (H ++ [.grow g 1 R]) K := by
  refine ZC.enterL Gh.no constX_none f_en_compact (by simp) fun hL => ?_
  simp only [c_en_compact]
  have g0 : ∀ A Y, (H ++ (A :: Y))[H.length]? = some A := fun A Y => mv_at0 A Y
  have HK := Lib.hid hK
  have HB := Lib.hid hb
  have HR := Lib.hid hR
  have HP := Lib.hid hp
  have HRL := Lib.hid hRl
  clear hK hb hL hR hp
  have same : cpt s = s → Fin (H ++ [.grow g 1 R]) (.own H.length g 0 s.length false) (H ++ [.grow g 1 R]) K := fun e => by
    have hk := HK.out R (by rw [e]; exact HR.out) (by rw [e]; exact HRL.out) HP.out
    rw [e] at hk
    exact Fin.keep hk
  have SM := Lib.hid same
  clear same
  by_cases h2 : s.length < 2
  · have n2 : (s.length : Int) < 2 := by omega
    have fin := SM.out (cpt_small h2)
    clear h2
    repeat' (first | (simp only [zmPack, zxPack, ne_eq, zfree, owners, Nat.reduceLT, List.contains_cons, List.contains_nil, Nat.reduceBEq, BEq.rfl, chunk, setAt, List.lookup_cons, List.lookup_nil, reduceCtorEq, Nat.reduceEqDiff, reduceIte, implies_true, forall_const, Nat.reduceMul, Nat.reduceSub, Nat.reduceAdd, Nat.reduceLeDiff, g0, n2, *]) | (simp only [zgoO, zgoG, zO_nil, zthen_normal, zgoC]) | (with_reducible apply And.intro) | (with_reducible intro _))
  · have n2 : ¬ (s.length : Int) < 2 := by omega
    repeat' (first | (simp only [zmPack, zxPack, ne_eq, zfree, owners, Nat.reduceLT, List.contains_cons, List.contains_nil, Nat.reduceBEq, BEq.rfl, chunk, setAt, List.lookup_cons, List.lookup_nil, reduceCtorEq, Nat.reduceEqDiff, reduceIte, implies_true, forall_const, Nat.reduceMul, Nat.reduceSub, Nat.reduceAdd, Nat.reduceLeDiff, g0, n2, *]) | (simp only [zgoO, zgoG, zO_nil, zthen_normal, zgoC]) | (with_reducible apply And.intro) | (with_reducible intro _))
    refine zW_whileK [(0, .own H.length g 0 s.length false)] (s.length - 1) (fun n s' h' => ∃ k, s' 3 = Z64 (k : Nat) ∧ h' = H ++ [.grow g 1 R] ∧ 1 ≤ k ∧ k ≤ s.length ∧ cptTo s k = s.take k ∧ n = s.length - k) (by repeat' (first | exact trivial | (refine ⟨rfl, ?_⟩) | (refine ⟨by simp only [zupd_at, Nat.reduceEqDiff, reduceIte]; assumption, ?_⟩))) rfl ⟨1, rfl, rfl, Nat.le_refl _, by omega, by cases s with
      | nil => simp at h2
      | cons y s => simp [cptTo], rfl⟩ ?_
    rintro n s' h' ⟨k, f3, rfl, hk1, hk2, h0, rfl⟩ ⟨f0, -⟩
    by_cases hks : k < s.length
    · have g1 : (k : Int) < (s.length : Int) := by omega
      have hat : ∀ j, (hj : j < s.length) → R[j]? = some (eI s[j]) := fun j hj => by
        have : (R.take s.length)[j]? = some (eI s[j]) := by rw [HR.out, List.getElem?_map, List.getElem?_eq_getElem hj]; rfl
        rwa [List.getElem?_take, if_pos hj] at this
      have hx := hat k hks
      have hy := hat (k - 1) (by omega)
      have wk : IntKind.i64.wrap ((k : Int) - 1) = ((k - 1 : Nat) : Int) := by have := HB.out; rw [IntWalk.i64_in _ (by omega)]; omega
      have wk1 : IntKind.i64.wrap ((k : Int) + 1) = ((k + 1 : Nat) : Int) := by have := HB.out; rw [IntWalk.i64_in _ (by omega)]; omega
      have hkm : k - 1 < s.length := by omega
      have hm : s.length - (k + 1) < s.length - k := by omega
      have heq : s[k]? = s[k - 1]? ↔ s[k] = s[k - 1]'(by omega) := by rw [List.getElem?_eq_getElem hks, List.getElem?_eq_getElem hkm]; simp
      obtain ⟨q, hq⟩ : ∃ q, q = s[k] := ⟨_, rfl⟩
      obtain ⟨q', hq'⟩ : ∃ q', q' = s[k - 1]'(by omega) := ⟨_, rfl⟩
      rw [← hq] at hx heq
      rw [← hq'] at hy heq
      have HAT := Lib.hid hat
      have HEQ := Lib.hid heq
      have H0 := Lib.hid h0
      have HK1 := Lib.hid hk1
      have hxl : k < R.length := by have := HRL.out; omega
      have hyl : k - 1 < R.length := by have := HRL.out; omega
      clear hat hq hq' heq h0 h2 n2 hk2
      by_cases he : q = q'
      · subst he
        have hC := CInv.start HK1.out hks H0.out HR.out (HEQ.out.2 rfl)
        have HC := Lib.hid hC
        have c1 : ∀ Y, cutZ (H ++ (.grow g 1 R :: Y)) 1 k s.length s.length false (.own H.length g 0 s.length false) = some (.own H.length g k (s.length - k) false) := fun Y => by
          simp only [cutZ, mv_at0]
          rw [if_pos ⟨trivial, trivial, by omega, Nat.le_refl _, Nat.le_refl _, by have := HRL.out; omega⟩]; simp
        clear hC
        repeat' (first | (simp only [zmPack, zxPack, ne_eq, zfree, owners, Nat.reduceLT, List.contains_cons, List.contains_nil, Nat.reduceBEq, BEq.rfl, chunk, setAt, List.lookup_cons, List.lookup_nil, reduceCtorEq, Nat.reduceEqDiff, reduceIte, implies_true, forall_const, Nat.reduceMul, Nat.reduceSub, Nat.reduceAdd, Nat.reduceLeDiff, g0, g1, hx, hy, wk, c1, hkm, hxl, hyl, mv_num0, mv_num1, natZ_nat, Option.bind_some, Option.isSome_none, *]) | (simp only [zgoO, zgoG, zO_nil, zthen_normal, zgoC]) | (with_reducible apply And.intro) | (with_reducible intro _))
        refine zW_whileK [(0, .own H.length g 0 s.length false), (4, .own H.length g k (s.length - k) false)] (s.length - k) (fun n s2 h2 => ∃ k2 j R', s2 5 = Z64 (k2 : Nat) ∧ s2 3 = Z64 (j : Nat) ∧ h2 = H ++ [.grow g 1 R'] ∧ CInv s R k k2 j R' ∧ n = s.length - k - k2 + 1) (by repeat' (first | exact trivial | (refine ⟨rfl, ?_⟩) | (refine ⟨by simp only [zupd_at, Nat.reduceEqDiff, reduceIte]; assumption, ?_⟩))) rfl ⟨1, k, R, rfl, by simp [zupd, f3], rfl, HC.out, by omega⟩ ?_
        clear hx hy
        rintro n s2 h2 ⟨k2, j, R', e5, e3, rfl, hC, rfl⟩ ⟨e0, e4, -⟩
        have hR' := hC.hR
        have hh2 := hC.h2
        have hjk := hC.hk
        have HC2 := Lib.hid hC
        by_cases hk2 : k + k2 < s.length
        · have hbb : k + (k2 - 1) < s.length := by omega
          have g2 : (k2 : Int) < ((s.length - k : Nat) : Int) := by omega
          have hx : R'[k + k2]? = some (eI s[k + k2]) := by rw [hC.hd _ (by omega)]; exact HAT.out _ hk2
          have hy : R'[k + (k2 - 1)]? = some (eI (s[k + (k2 - 1)]'hbb)) := by rw [hC.hd _ (by omega)]; exact HAT.out _ (by omega)
          have wk2 : IntKind.i64.wrap ((k2 : Int) - 1) = ((k2 - 1 : Nat) : Int) := by have := HB.out; rw [IntWalk.i64_in _ (by omega)]; omega
          have wk3 : IntKind.i64.wrap ((k2 : Int) + 1) = ((k2 + 1 : Nat) : Int) := by have := HB.out; rw [IntWalk.i64_in _ (by omega)]; omega
          have wj : IntKind.i64.wrap ((j : Int) + 1) = ((j + 1 : Nat) : Int) := by have := HB.out; rw [IntWalk.i64_in _ (by omega)]; omega
          have b1 : k2 < s.length - k := by omega
          have b2 : k2 - 1 < s.length - k := by omega
          have b3 : j < s.length := by omega
          have b4 : j < R'.length := by have := HRL.out; omega
          have b5 : k + (s.length - k) ≤ R'.length := by have := HRL.out; omega
          have b6 : s.length ≤ R'.length := by have := HRL.out; omega
          have hm : s.length - k - (k2 + 1) + 1 < s.length - k - k2 + 1 := by omega
          obtain ⟨xj, hyj⟩ := hC.hv j b3
          have heq : s[k + k2]? = s[k + k2 - 1]? ↔ s[k + k2] = s[k + (k2 - 1)]'hbb := by
            rw [List.getElem?_eq_getElem hk2, show k + k2 - 1 = k + (k2 - 1) by omega, List.getElem?_eq_getElem (by omega)]; simp
          have sk : s[k + k2] = s[k + (k2 - 1)]'hbb → CInv s R k (k2 + 1) j R' := fun e => hC.skip hk2 (heq.2 e)
          have pt : ¬ s[k + k2] = s[k + (k2 - 1)]'hbb → CInv s R k (k2 + 1) (j + 1) (R'.set j (eI s[k + k2])) := fun e => hC.put hk2 HRL.out (fun q => e (heq.1 q))
          obtain ⟨a, ha⟩ : ∃ a, a = s[k + k2] := ⟨_, rfl⟩
          obtain ⟨a', ha'⟩ : ∃ a', a' = s[k + (k2 - 1)]'hbb := ⟨_, rfl⟩
          rw [← ha, ← ha'] at sk pt
          rw [← ha] at hx
          rw [← ha'] at hy
          have SK := Lib.hid sk
          have PT := Lib.hid pt
          have gs : ∀ A C Y, (H ++ (A :: Y)).set H.length C = H ++ (C :: Y) := fun A C Y => mv_st0 A C Y
          have hst : ∀ Y, stZ L (H ++ (.grow g 1 R' :: Y)) [Z64 a] (.eptr H.length g j 0) = some (H ++ (.grow g 1 (R'.set j (eI a)) :: Y)) := fun Y => by
            rw [st_eptr]
            exact ⟨1, _, _, mv_at0 _ _, hyj, l0, by simp, by rw [mv_st0]; rfl⟩
          clear hC hR' hh2 hjk heq sk pt ha ha' hyj
          by_cases he2 : a = a'
          · have fin := SK.out he2
            subst he2
            have FN := Lib.hid fin
            clear fin
            repeat' (first | (simp only [zmPack, zxPack, ne_eq, zfree, owners, Nat.reduceLT, List.contains_cons, List.contains_nil, Nat.reduceBEq, BEq.rfl, chunk, setAt, List.lookup_cons, List.lookup_nil, reduceCtorEq, Nat.reduceEqDiff, reduceIte, implies_true, forall_const, Nat.reduceMul, Nat.reduceSub, Nat.reduceAdd, Nat.reduceLeDiff, g0, g2, hx, hy, wk2, wk3, b1, b2, b5, *]) | (simp only [zgoO, zgoG, zO_nil, zthen_normal, zgoC]) | (with_reducible apply And.intro) | (with_reducible intro _))
            all_goals exact ⟨_, hm, _, rfl, _, rfl, _, rfl, FN.out, rfl⟩
          · have fin := PT.out he2
            have FN := Lib.hid fin
            clear fin
            repeat' (first | (simp only [zmPack, zxPack, ne_eq, zfree, owners, Nat.reduceLT, List.contains_cons, List.contains_nil, Nat.reduceBEq, BEq.rfl, chunk, setAt, List.lookup_cons, List.lookup_nil, reduceCtorEq, Nat.reduceEqDiff, reduceIte, implies_true, forall_const, Nat.reduceMul, Nat.reduceSub, Nat.reduceAdd, Nat.reduceLeDiff, g0, g2, hx, hy, wk2, wk3, wj, b1, b2, b3, b4, b5, b6, he2, hst, *]) | (simp only [zgoO, zgoG, zO_nil, zthen_normal, zgoC]) | (with_reducible apply And.intro) | (with_reducible intro _))
            all_goals exact ⟨_, hm, _, rfl, _, rfl, _, rfl, FN.out, rfl⟩
        · have hke : k + k2 = s.length := by omega
          have g2 : ¬ (k2 : Int) < ((s.length - k : Nat) : Int) := by omega
          have hcp : cptTo s (k + k2) = cpt s := by rw [hke]; rfl
          have hjl : j = (cpt s).length := by rw [hC.hl, hcp]
          have hRt := hC.ht
          rw [hcp] at hRt
          obtain ⟨R2, hR2⟩ : ∃ R2, R2 = R'.take j ++ (List.replicate (s.length - j) [Z64 (0 : Int)]).take (min (List.replicate (s.length - j) [Z64 (0 : Int)]).length (s.length - j)) ++ R'.drop (j + min (List.replicate (s.length - j) [Z64 (0 : Int)]).length (s.length - j)) := ⟨_, rfl⟩
          have hjs : j < s.length := by omega
          have hsR : s.length ≤ R'.length := by have := HRL.out; omega
          have hjR : j ≤ R'.length := by omega
          have c1 : ∀ Y, cutZ (H ++ (.grow g 1 R' :: Y)) 1 j s.length s.length false (.own H.length g 0 s.length false) = some (.own H.length g j (s.length - j) false) := fun Y => by
            simp only [cutZ, mv_at0]
            rw [if_pos ⟨trivial, trivial, by omega, Nat.le_refl _, Nat.le_refl _, by omega⟩]; simp
          have c2 : ∀ Y, cutZ (H ++ (.grow g 1 R2 :: Y)) 1 0 j s.length false (.own H.length g 0 s.length false) = some (.own H.length g 0 j false) := fun Y => by
            simp only [cutZ, mv_at0]
            rw [if_pos ⟨trivial, trivial, Nat.zero_le _, by omega, Nat.le_refl _, by rw [hR2]; simp; omega⟩]; simp
          have c3 : ∀ Y, copyZ L (H ++ (.grow g 1 R' :: Y)) 1 (List.replicate (s.length - j) [Z64 (0 : Int)]) (.own H.length g j (s.length - j) false) = some (s.length - j, H ++ (.grow g 1 R2 :: Y)) := fun Y => by
            simp only [copyZ, mv_at0]
            rw [if_pos ⟨trivial, trivial, by omega, l0, by omega⟩, hR2, mv_st0]; simp
          have fin : Fin (H ++ [.grow g 1 R]) (.own H.length g 0 j false) (H ++ [.grow g 1 R2]) K := by
            have hpv : ∀ t : Nat, ∀ r, R'[t]? = some r → r.all pureZ = true := fun t r ht => by
              by_cases hts : t < s.length
              · obtain ⟨x, hx⟩ := hC.hv t hts
                rw [hx] at ht; injection ht with ht; rw [← ht]; rfl
              · rw [hC.hd t (by omega)] at ht
                exact HP.out r (List.mem_of_getElem? ht)
            have hp : ∀ r ∈ R2, r.all pureZ = true := fun r hr => by
              rw [hR2] at hr
              simp only [List.mem_append] at hr
              rcases hr with (hr | hr) | hr
              · obtain ⟨t, ht, rfl⟩ := List.getElem_of_mem (List.mem_of_mem_take hr)
                exact hpv t _ (List.getElem?_eq_getElem ht)
              · rw [(List.mem_replicate.1 (List.mem_of_mem_take hr)).2]; rfl
              · obtain ⟨t, ht, rfl⟩ := List.getElem_of_mem (List.mem_of_mem_drop hr)
                exact hpv t _ (List.getElem?_eq_getElem ht)
            refine Fin.keep ?_
            rw [hjl]
            refine HK.out R2 ?_ (by rw [hR2, ← hjl]; simp; omega) hp
            rw [hR2, ← hjl, List.append_assoc, List.take_left' (by simp; omega), hRt]
          clear hR2 hRt hcp hjl hC hke hh2 hR' hjk
          repeat' (first | (simp only [zmPack, zxPack, ne_eq, zfree, owners, Nat.reduceLT, List.contains_cons, List.contains_nil, Nat.reduceBEq, BEq.rfl, chunk, setAt, List.lookup_cons, List.lookup_nil, reduceCtorEq, Nat.reduceEqDiff, reduceIte, implies_true, forall_const, Nat.reduceMul, Nat.reduceSub, Nat.reduceAdd, Nat.reduceLeDiff, g0, g2, c1, c2, c3, mv_num0, mv_num1, natZ_nat, Option.bind_some, Option.isSome_none, z_clear, zh_clear, zu_clear, zf_clear, zp0_clear, zp1_clear, zr_clear, List.length_replicate, *]) | (simp only [zgoO, zgoG, zO_nil, zthen_normal, zgoC]) | (with_reducible apply And.intro) | (with_reducible intro _))
      · have hn := cpt_next HK1.out hks H0.out (fun e => he (HEQ.out.1 e))
        have HN := Lib.hid hn
        have hk11 : k + 1 ≤ s.length := hks
        have h1k : 1 ≤ k + 1 := by omega
        clear hn
        repeat' (first | (simp only [zmPack, zxPack, ne_eq, zfree, owners, Nat.reduceLT, List.contains_cons, List.contains_nil, Nat.reduceBEq, BEq.rfl, chunk, setAt, List.lookup_cons, List.lookup_nil, reduceCtorEq, Nat.reduceEqDiff, reduceIte, implies_true, forall_const, Nat.reduceMul, Nat.reduceSub, Nat.reduceAdd, Nat.reduceLeDiff, g0, g1, hx, hy, wk, wk1, he, hkm, hxl, hyl, *]) | (simp only [zgoO, zgoG, zO_nil, zthen_normal, zgoC]) | (with_reducible apply And.intro) | (with_reducible intro _))
        all_goals exact ⟨_, hm, _, rfl, h1k, hk11, HN.out, rfl⟩
    · have hke : k = s.length := by omega
      subst hke
      have hcp : cpt s = s := by unfold cpt; rw [h0, List.take_length]
      have fin := SM.out hcp
      clear h0 hcp hk1 hk2 h2 n2 hks
      have g1 : ¬ ((s.length : Int) < (s.length : Int)) := by omega
      repeat' (first | (simp only [zmPack, zxPack, ne_eq, zfree, owners, Nat.reduceLT, List.contains_cons, List.contains_nil, Nat.reduceBEq, BEq.rfl, chunk, setAt, List.lookup_cons, List.lookup_nil, reduceCtorEq, Nat.reduceEqDiff, reduceIte, implies_true, forall_const, Nat.reduceMul, Nat.reduceSub, Nat.reduceAdd, Nat.reduceLeDiff, g0, g1, *]) | (simp only [zgoO, zgoG, zO_nil, zthen_normal, zgoC]) | (with_reducible apply And.intro) | (with_reducible intro _))
end Go.Proofs.Ytfmllmcjinjfaaa
