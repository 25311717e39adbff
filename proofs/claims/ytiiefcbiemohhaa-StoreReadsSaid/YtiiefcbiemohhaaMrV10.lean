/-
  AM's code of functions, written by am/amprint.lean.
-/
import Derived.KernelRfl
import Derived.Test.YtiiefcbiemohhaaMrV4
namespace Go.Proofs.Ytiiefcbiemohhaa
open Go Go.RowKit
set_option linter.unusedVariables false
def c_st_stored : ACode := .seq (.ops [⟨(some 0), .mv (.av (.val (.bool false))), none, true⟩])
 (.seq (.ops [⟨(some 6), .call (.av (.func 8 [])) [], none, true⟩,
 ⟨(some 1), .mv (.tmp 6), none, true⟩])
 (.seq (.seq (.ops [⟨(some 7), .mv (.tmp 1), none, true⟩,
 ⟨(some 8), .eqNil false 1 (.tmp 7), none, true⟩])
 (.cond (.tmp 8)
 (.seq (.ops [⟨(some 0), .mv (.av (.val (.bool false))), none, true⟩])
 (.ret))
 (.skip)))
 (.seq (.ops [⟨(some 10), .mv (.tmp 1), none, true⟩,
 ⟨(some 11), .call (.av (.func 9 [])) [(.tmp 10), (.av (.val (.int .i64 7)))], none, true⟩,
 ⟨(some 9), .mv (.tmp 11), none, true⟩,
 ⟨(some 12), .extract 0 (.tmp 9), none, true⟩,
 ⟨(some 13), .extract 1 (.tmp 9), none, true⟩,
 ⟨(some 2), .mv (.tmp 12), none, true⟩,
 ⟨(some 3), .mv (.tmp 13), none, true⟩])
 (.seq (.ops [⟨(some 15), .mv (.tmp 1), none, true⟩,
 ⟨(some 16), .call (.av (.func 21 [])) [(.tmp 15), (.av (.val (.int .i64 0)))], none, true⟩,
 ⟨(some 14), .mv (.tmp 16), none, true⟩,
 ⟨(some 17), .extract 0 (.tmp 14), none, true⟩,
 ⟨(some 18), .extract 1 (.tmp 14), none, true⟩,
 ⟨(some 4), .mv (.tmp 17), none, true⟩,
 ⟨(some 5), .mv (.tmp 18), none, true⟩])
 (.seq (.ops [⟨(some 19), .mv (.tmp 3), none, true⟩,
 ⟨(some 20), .bin .eql (.tmp 19) (.av (.val (.int .i64 0))), none, true⟩,
 ⟨(some 21), .mv (.tmp 20), none, true⟩,
 ⟨(some 22), .mv (.tmp 5), (some (21, true)), true⟩,
 ⟨(some 23), .bin .eql (.tmp 22) (.av (.val (.int .i64 0))), (some (21, true)), true⟩,
 ⟨(some 24), .pick (.tmp 21) (.tmp 23) (.av (.val (.bool false))), none, true⟩,
 ⟨(some 25), .mv (.tmp 24), none, true⟩,
 ⟨(some 26), .mv (.tmp 2), (some (25, true)), true⟩,
 ⟨(some 27), .bin .eql (.tmp 26) (.av (.val (.int .i64 0))), (some (25, true)), true⟩,
 ⟨(some 28), .pick (.tmp 25) (.tmp 27) (.av (.val (.bool false))), none, true⟩,
 ⟨(some 29), .mv (.tmp 28), none, true⟩,
 ⟨(some 30), .mv (.tmp 4), (some (29, true)), true⟩,
 ⟨(some 31), .bin .eql (.tmp 30) (.av (.val (.int .i64 7))), (some (29, true)), true⟩,
 ⟨(some 32), .pick (.tmp 29) (.tmp 31) (.av (.val (.bool false))), none, true⟩,
 ⟨(some 33), .mv (.tmp 32), none, true⟩,
 ⟨(some 34), .mv (.tmp 1), (some (33, true)), true⟩,
 ⟨(some 35), .call (.av (.func 15 [])) [(.tmp 34)], (some (33, true)), true⟩,
 ⟨(some 36), .bin .eql (.tmp 35) (.av (.val (.int .i64 1))), (some (33, true)), true⟩,
 ⟨(some 37), .pick (.tmp 33) (.tmp 36) (.av (.val (.bool false))), none, true⟩,
 ⟨(some 38), .mv (.tmp 37), none, true⟩,
 ⟨(some 39), .mv (.tmp 1), (some (38, true)), true⟩,
 ⟨(some 40), .build [(.val (.int .i64 0)), (.val (.int .i64 0))] [(0, 1, (.av (.val (.int .i64 5))))], (some (38, true)), true⟩,
 ⟨(some 41), .call (.av (.func 11 [])) [(.tmp 39), (.av (.val (.int .i64 0))), (.tmp 40)], (some (38, true)), true⟩,
 ⟨(some 42), .bin .eql (.tmp 41) (.av (.val (.int .i64 0))), (some (38, true)), true⟩,
 ⟨(some 43), .pick (.tmp 38) (.tmp 42) (.av (.val (.bool false))), none, true⟩,
 ⟨(some 0), .mv (.tmp 43), none, true⟩])
 (.ret))))))
theorem f_st_stored : cFunc Try.prog 7 = some ⟨44, c_st_stored, [.tmp 0]⟩ := by kernel_rfl
def c_st_new : ACode := .seq (.ops [⟨(some 0), .mv (.av (.val (.pointer none))), none, true⟩])
 (.seq (.ops [⟨(some 1), .build [(.val (.slice none 0 0)), (.val (.slice none 0 0)), (.val (.slice none 0 0))] [], none, true⟩,
 ⟨(some 2), .box 3 (.tmp 1), none, true⟩,
 ⟨(some 0), .mv (.tmp 2), none, true⟩])
 (.ret))
theorem f_st_new : cFunc Try.prog 8 = some ⟨3, c_st_new, [.tmp 0]⟩ := by kernel_rfl
def c_st_Push : ACode := .seq (.ops [⟨(some 5), .box 2 (.tmp 2), none, true⟩,
 ⟨(some 6), .mv (.av (.val (.int .i64 0))), none, true⟩])
 (.seq (.seq (.ops [⟨(some 10), .mv (.tmp 0), none, true⟩,
 ⟨(some 11), .mv (.tmp 1), none, true⟩,
 ⟨(some 12), .call (.av (.func 24 [])) [(.tmp 10), (.tmp 11)], none, true⟩,
 ⟨(some 7), .mv (.tmp 12), none, true⟩])
 (.seq (.ops [⟨(some 13), .mv (.tmp 7), none, true⟩,
 ⟨(some 14), .bin .neq (.tmp 13) (.av (.val (.int .i64 0))), none, true⟩])
 (.cond (.tmp 14)
 (.seq (.ops [⟨(some 15), .mv (.tmp 7), none, true⟩,
 ⟨(some 6), .mv (.tmp 15), none, true⟩])
 (.ret))
 (.skip))))
 (.seq (.seq (.ops [⟨(some 17), .mv (.tmp 0), none, true⟩,
 ⟨(some 18), .load (some 2) (.tmp 5), none, true⟩,
 ⟨(some 19), .call (.av (.func 25 [])) [(.tmp 17), (.tmp 18)], none, true⟩,
 ⟨(some 16), .mv (.tmp 19), none, true⟩,
 ⟨(some 20), .extract 0 (.tmp 16), none, true⟩,
 ⟨(some 21), .extract 1 (.tmp 16), none, true⟩,
 ⟨(some 8), .mv (.tmp 20), none, true⟩,
 ⟨(some 9), .mv (.tmp 21), none, true⟩])
 (.seq (.ops [⟨(some 22), .mv (.tmp 9), none, true⟩,
 ⟨(some 23), .bin .neq (.tmp 22) (.av (.val (.int .i64 0))), none, true⟩])
 (.cond (.tmp 23)
 (.seq (.ops [⟨(some 24), .mv (.tmp 9), none, true⟩,
 ⟨(some 6), .mv (.tmp 24), none, true⟩])
 (.ret))
 (.skip))))
 (.seq (.seq (.ops [⟨(some 25), .mv (.tmp 0), none, true⟩,
 ⟨(some 26), .mv (.tmp 0), none, true⟩,
 ⟨(some 27), .nilCheck (.tmp 26), none, true⟩,
 ⟨(some 28), .fieldAddr 1 (.tmp 27), none, true⟩,
 ⟨(some 29), .load none (.tmp 28), none, true⟩,
 ⟨(some 30), .mv (.tmp 1), none, true⟩,
 ⟨(some 31), .indexAddr 1 (.tmp 29) (.tmp 30), none, true⟩,
 ⟨(some 32), .load none (.tmp 31), none, true⟩,
 ⟨(some 33), .call (.av (.func 26 [])) [(.tmp 25), (.tmp 32)], none, true⟩,
 ⟨(some 34), .bin .geq (.tmp 33) (.av (.val (.int .i64 100))), none, true⟩,
 ⟨(some 35), .mv (.tmp 34), none, true⟩,
 ⟨(some 36), .mv (.tmp 0), (some (35, false)), true⟩,
 ⟨(some 37), .call (.av (.func 22 [])) [(.tmp 36)], (some (35, false)), true⟩,
 ⟨(some 38), .bin .add (.tmp 37) (.av (.val (.int .i64 1))), (some (35, false)), true⟩,
 ⟨(some 39), .bin .gtr (.tmp 38) (.av (.val (.int .i64 2000))), (some (35, false)), true⟩,
 ⟨(some 40), .pick (.tmp 35) (.av (.val (.bool true))) (.tmp 39), none, true⟩])
 (.cond (.tmp 40)
 (.seq (.ops [⟨(some 6), .mv (.av (.val (.int .i64 2))), none, true⟩])
 (.ret))
 (.skip)))
 (.seq (.ops [⟨(some 41), .mv (.tmp 0), none, true⟩,
 ⟨(some 42), .mv (.tmp 1), none, true⟩,
 ⟨(some 43), .load (some 2) (.tmp 5), none, true⟩,
 ⟨(some 44), .call (.av (.func 27 [])) [(.tmp 41), (.tmp 42), (.tmp 43)], none, true⟩])
 (.seq (.ops [⟨(some 6), .mv (.av (.val (.int .i64 0))), none, true⟩])
 (.ret))))))
theorem f_st_Push : cFunc Try.prog 11 = some ⟨45, c_st_Push, [.tmp 6]⟩ := by kernel_rfl
def c_st_drop : ACode := .seq (.ops [⟨(some 4), .mv (.av (.val (.int .i64 0))), none, true⟩])
 (.seq (.ops [⟨(some 6), .mv (.tmp 0), none, true⟩,
 ⟨(some 7), .mv (.tmp 1), none, true⟩,
 ⟨(some 8), .call (.av (.func 24 [])) [(.tmp 6), (.tmp 7)], none, true⟩,
 ⟨(some 5), .mv (.tmp 8), none, true⟩])
 (.seq (.block 0 (.seq (.ops [⟨(some 10), .mv (.tmp 5), none, true⟩,
 ⟨(some 11), .bin .neq (.tmp 10) (.av (.val (.int .i64 0))), none, true⟩,
 ⟨(some 9), .mv (.tmp 11), none, true⟩])
 (.cond (.tmp 9)
 (.seq (.ops [⟨(some 12), .mv (.tmp 5), none, true⟩,
 ⟨(some 4), .mv (.tmp 12), none, true⟩])
 (.ret))
 (.seq (.ops [⟨(some 14), .mv (.tmp 0), none, true⟩,
 ⟨(some 15), .nilCheck (.tmp 14), none, true⟩,
 ⟨(some 16), .fieldAddr 2 (.tmp 15), none, true⟩,
 ⟨(some 17), .load none (.tmp 16), none, true⟩,
 ⟨(some 18), .mv (.tmp 1), none, true⟩,
 ⟨(some 19), .indexAddr 1 (.tmp 17) (.tmp 18), none, true⟩,
 ⟨(some 20), .load none (.tmp 19), none, true⟩,
 ⟨(some 21), .un .not (.tmp 20), none, true⟩,
 ⟨(some 13), .mv (.tmp 21), none, true⟩])
 (.cond (.tmp 13)
 (.seq (.ops [⟨(some 4), .mv (.av (.val (.int .i64 8))), none, true⟩])
 (.ret))
 (.skip))))))
 (.seq (.ops [⟨(some 22), .mv (.tmp 0), none, true⟩,
 ⟨(some 23), .nilCheck (.tmp 22), none, true⟩,
 ⟨(some 24), .fieldAddr 2 (.tmp 23), none, true⟩,
 ⟨(some 25), .load none (.tmp 24), none, true⟩,
 ⟨(some 26), .mv (.tmp 1), none, true⟩,
 ⟨(some 27), .indexAddr 1 (.tmp 25) (.tmp 26), none, true⟩,
 ⟨none, .store 1 (.tmp 27) (.av (.val (.bool false))), none, true⟩])
 (.seq (.ops [⟨(some 4), .mv (.av (.val (.int .i64 0))), none, true⟩])
 (.ret)))))
theorem f_st_drop : cFunc Try.prog 12 = some ⟨28, c_st_drop, [.tmp 4]⟩ := by kernel_rfl
def c_st_coll : ACode := .seq (.ops [⟨(some 2), .mv (.av (.val (.int .i64 0))), none, true⟩])
 (.seq (.opsD [⟨(some 15), .mv (.tmp 0), none, true⟩,
 ⟨(some 16), .nilCheck (.tmp 15), none, true⟩,
 ⟨(some 17), .fieldAddr 0 (.tmp 16), none, true⟩,
 ⟨(some 18), .load none (.tmp 17), none, false⟩,
 ⟨(some 19), .mv (.tmp 0), none, true⟩,
 ⟨(some 20), .call (.av (.func 29 [])) [(.tmp 19)], none, false⟩,
 ⟨(some 21), .build [(.val (.slice none 0 0)), (.val (.slice none 0 0))] [(0, 1, (.tmp 18)), (1, 1, (.tmp 20))], none, true⟩,
 ⟨(some 22), .call (.av (.func 28 [])) [(.tmp 21)], none, true⟩,
 ⟨(some 14), .mv (.tmp 22), none, true⟩,
 ⟨(some 23), .extract 0 (.tmp 14), none, true⟩,
 ⟨(some 24), .extract 1 (.tmp 14), none, true⟩,
 ⟨(some 25), .extract 2 (.tmp 14), none, true⟩,
 ⟨(some 3), .zero [(.val (.slice none 0 0)), (.val (.slice none 0 0))], none, true⟩,
 ⟨none, .store 2 (.tmp 3) (.tmp 23), none, true⟩,
 ⟨(some 4), .mv (.tmp 24), none, true⟩,
 ⟨(some 5), .mv (.tmp 25), none, true⟩])
 (.seq (.ops [⟨(some 26), .mkMap, none, true⟩,
 ⟨(some 6), .mv (.tmp 26), none, true⟩])
 (.seq (.seq (.ops [⟨(some 27), .mv (.tmp 4), none, true⟩,
 ⟨(some 28), .len (.tmp 27), none, true⟩,
 ⟨(some 29), .mv (.av (.val (.int .i64 0))), none, true⟩])
 (rangeCode 0 1 30 29 28 38
 (.seq (.ops [⟨(some 31), .indexAddr 2 (.tmp 27) (.tmp 29), none, true⟩,
 ⟨(some 32), .load (some 2) (.tmp 31), none, true⟩,
 ⟨(some 8), .zero [(.val (.int .i64 0)), (.val (.int .i64 0))], none, true⟩,
 ⟨none, .store 2 (.tmp 8) (.tmp 32), none, true⟩])
 (.ops [⟨(some 33), .mv (.tmp 6), none, true⟩,
 ⟨(some 34), .fieldAddr 1 (.tmp 8), none, true⟩,
 ⟨(some 35), .load none (.tmp 34), none, true⟩,
 ⟨(some 36), .fieldAddr 0 (.tmp 8), none, true⟩,
 ⟨(some 37), .load none (.tmp 36), none, true⟩,
 ⟨none, .mapSet (.tmp 33) (.tmp 35) (.tmp 37), none, true⟩]))))
 (.seq (.seq (.ops [⟨(some 39), .mv (.tmp 0), none, true⟩,
 ⟨(some 40), .nilCheck (.tmp 39), none, true⟩,
 ⟨(some 41), .fieldAddr 1 (.tmp 40), none, true⟩,
 ⟨(some 42), .load none (.tmp 41), none, true⟩,
 ⟨(some 43), .len (.tmp 42), none, true⟩,
 ⟨(some 44), .mv (.av (.val (.int .i64 0))), none, true⟩])
 (rangeCode 2 3 45 44 43 64
 (.seq (.ops [⟨(some 46), .mv (.tmp 44), none, true⟩,
 ⟨(some 47), .indexAddr 1 (.tmp 42) (.tmp 44), none, true⟩,
 ⟨(some 48), .load none (.tmp 47), none, true⟩,
 ⟨(some 9), .mv (.tmp 46), none, true⟩,
 ⟨(some 10), .mv (.tmp 48), none, true⟩])
 (.seq (.ops [⟨(some 50), .mv (.tmp 6), none, true⟩,
 ⟨(some 51), .mv (.tmp 10), none, true⟩,
 ⟨(some 52), .mapGet true (.val (.int .i64 0)) (.tmp 50) (.tmp 51), none, true⟩,
 ⟨(some 49), .mv (.tmp 52), none, true⟩,
 ⟨(some 53), .extract 0 (.tmp 49), none, true⟩,
 ⟨(some 54), .extract 1 (.tmp 49), none, true⟩,
 ⟨(some 11), .mv (.tmp 53), none, true⟩,
 ⟨(some 12), .mv (.tmp 54), none, true⟩])
 (.seq (.seq (.ops [⟨(some 55), .mv (.tmp 12), none, true⟩,
 ⟨(some 56), .un .not (.tmp 55), none, true⟩])
 (.cond (.tmp 56)
 (.ops [⟨(some 11), .mv (.av (.val (.int .i64 (-1)))), none, true⟩])
 (.skip)))
 (.ops [⟨(some 57), .mv (.tmp 0), none, true⟩,
 ⟨(some 58), .nilCheck (.tmp 57), none, true⟩,
 ⟨(some 59), .fieldAddr 1 (.tmp 58), none, true⟩,
 ⟨(some 60), .load none (.tmp 59), none, true⟩,
 ⟨(some 61), .mv (.tmp 9), none, true⟩,
 ⟨(some 62), .mv (.tmp 11), none, true⟩,
 ⟨(some 63), .indexAddr 1 (.tmp 60) (.tmp 61), none, true⟩,
 ⟨none, .store 1 (.tmp 63) (.tmp 62), none, true⟩]))))))
 (.seq (.opsD [⟨(some 65), .mv (.tmp 0), none, true⟩,
 ⟨(some 66), .nilCheck (.tmp 65), none, true⟩,
 ⟨(some 67), .fieldAddr 0 (.tmp 66), none, true⟩,
 ⟨(some 68), .load none (.tmp 67), none, true⟩,
 ⟨(some 69), .len (.tmp 68), none, true⟩,
 ⟨(some 70), .fieldAddr 0 (.tmp 3), none, true⟩,
 ⟨(some 71), .load none (.tmp 70), none, true⟩,
 ⟨(some 72), .len (.tmp 71), none, true⟩,
 ⟨(some 73), .bin .sub (.tmp 69) (.tmp 72), none, true⟩,
 ⟨(some 13), .mv (.tmp 73), none, true⟩])
 (.seq (.ops [⟨(some 74), .mv (.tmp 0), none, true⟩,
 ⟨(some 75), .fieldAddr 0 (.tmp 3), none, true⟩,
 ⟨(some 76), .load none (.tmp 75), none, true⟩,
 ⟨(some 77), .nilCheck (.tmp 74), none, true⟩,
 ⟨(some 78), .fieldAddr 0 (.tmp 77), none, true⟩,
 ⟨none, .store 1 (.tmp 78) (.tmp 76), none, true⟩])
 (.seq (.ops [⟨(some 79), .mv (.tmp 13), none, true⟩,
 ⟨(some 2), .mv (.tmp 79), none, true⟩])
 (.ret))))))))
theorem f_st_coll : cFunc Try.prog 13 = some ⟨80, c_st_coll, [.tmp 2]⟩ := by kernel_rfl
def c_st_count : ACode := .seq (.ops [⟨(some 4), .mv (.av (.val (.int .i64 0))), none, true⟩,
 ⟨(some 5), .mv (.av (.val (.int .i64 0))), none, true⟩])
 (.seq (.seq (.ops [⟨(some 7), .mv (.tmp 0), none, true⟩,
 ⟨(some 8), .mv (.tmp 1), none, true⟩,
 ⟨(some 9), .call (.av (.func 24 [])) [(.tmp 7), (.tmp 8)], none, true⟩,
 ⟨(some 6), .mv (.tmp 9), none, true⟩])
 (.seq (.ops [⟨(some 10), .mv (.tmp 6), none, true⟩,
 ⟨(some 11), .bin .neq (.tmp 10) (.av (.val (.int .i64 0))), none, true⟩])
 (.cond (.tmp 11)
 (.seq (.ops [⟨(some 12), .mv (.tmp 6), none, true⟩,
 ⟨(some 4), .mv (.av (.val (.int .i64 0))), none, true⟩,
 ⟨(some 5), .mv (.tmp 12), none, true⟩])
 (.ret))
 (.skip))))
 (.seq (.ops [⟨(some 13), .mv (.tmp 0), none, true⟩,
 ⟨(some 14), .mv (.tmp 0), none, true⟩,
 ⟨(some 15), .nilCheck (.tmp 14), none, true⟩,
 ⟨(some 16), .fieldAddr 1 (.tmp 15), none, true⟩,
 ⟨(some 17), .load none (.tmp 16), none, true⟩,
 ⟨(some 18), .mv (.tmp 1), none, true⟩,
 ⟨(some 19), .indexAddr 1 (.tmp 17) (.tmp 18), none, true⟩,
 ⟨(some 20), .load none (.tmp 19), none, true⟩,
 ⟨(some 21), .call (.av (.func 26 [])) [(.tmp 13), (.tmp 20)], none, true⟩,
 ⟨(some 4), .mv (.tmp 21), none, true⟩,
 ⟨(some 5), .mv (.av (.val (.int .i64 0))), none, true⟩])
 (.ret)))
theorem f_st_count : cFunc Try.prog 14 = some ⟨22, c_st_count, [.tmp 4, .tmp 5]⟩ := by kernel_rfl
def c_st_used : ACode := .seq (.ops [⟨(some 2), .mv (.av (.val (.int .i64 0))), none, true⟩])
 (.seq (.ops [⟨(some 3), .mv (.tmp 0), none, true⟩,
 ⟨(some 4), .nilCheck (.tmp 3), none, true⟩,
 ⟨(some 5), .fieldAddr 0 (.tmp 4), none, true⟩,
 ⟨(some 6), .load none (.tmp 5), none, true⟩,
 ⟨(some 7), .len (.tmp 6), none, true⟩,
 ⟨(some 2), .mv (.tmp 7), none, true⟩])
 (.ret))
theorem f_st_used : cFunc Try.prog 15 = some ⟨8, c_st_used, [.tmp 2]⟩ := by kernel_rfl
def c_st_set : ACode := .seq (.ops [⟨(some 7), .box 2 (.tmp 3), none, true⟩,
 ⟨(some 8), .mv (.av (.val (.int .i64 0))), none, true⟩])
 (.seq (.seq (.ops [⟨(some 12), .mv (.tmp 0), none, true⟩,
 ⟨(some 13), .mv (.tmp 1), none, true⟩,
 ⟨(some 14), .call (.av (.func 24 [])) [(.tmp 12), (.tmp 13)], none, true⟩,
 ⟨(some 9), .mv (.tmp 14), none, true⟩])
 (.seq (.ops [⟨(some 15), .mv (.tmp 9), none, true⟩,
 ⟨(some 16), .bin .neq (.tmp 15) (.av (.val (.int .i64 0))), none, true⟩])
 (.cond (.tmp 16)
 (.seq (.ops [⟨(some 17), .mv (.tmp 9), none, true⟩,
 ⟨(some 8), .mv (.tmp 17), none, true⟩])
 (.ret))
 (.skip))))
 (.seq (.ops [⟨(some 19), .mv (.tmp 0), none, true⟩,
 ⟨(some 20), .load (some 2) (.tmp 7), none, true⟩,
 ⟨(some 21), .call (.av (.func 25 [])) [(.tmp 19), (.tmp 20)], none, true⟩,
 ⟨(some 18), .mv (.tmp 21), none, true⟩,
 ⟨(some 22), .extract 0 (.tmp 18), none, true⟩,
 ⟨(some 23), .extract 1 (.tmp 18), none, true⟩,
 ⟨(some 10), .mv (.tmp 22), none, true⟩,
 ⟨(some 11), .mv (.tmp 23), none, true⟩])
 (.seq (.block 0 (.seq (.ops [⟨(some 25), .mv (.tmp 11), none, true⟩,
 ⟨(some 26), .bin .neq (.tmp 25) (.av (.val (.int .i64 0))), none, true⟩,
 ⟨(some 24), .mv (.tmp 26), none, true⟩])
 (.cond (.tmp 24)
 (.seq (.ops [⟨(some 27), .mv (.tmp 11), none, true⟩,
 ⟨(some 8), .mv (.tmp 27), none, true⟩])
 (.ret))
 (.seq (.ops [⟨(some 29), .mv (.tmp 2), none, true⟩,
 ⟨(some 30), .bin .lss (.tmp 29) (.av (.val (.int .i64 0))), none, true⟩,
 ⟨(some 31), .mv (.tmp 30), none, true⟩,
 ⟨(some 32), .mv (.tmp 2), (some (31, false)), true⟩,
 ⟨(some 33), .mv (.tmp 0), (some (31, false)), true⟩,
 ⟨(some 34), .mv (.tmp 0), (some (31, false)), true⟩,
 ⟨(some 35), .nilCheck (.tmp 34), (some (31, false)), true⟩,
 ⟨(some 36), .fieldAddr 1 (.tmp 35), (some (31, false)), true⟩,
 ⟨(some 37), .load none (.tmp 36), (some (31, false)), true⟩,
 ⟨(some 38), .mv (.tmp 1), (some (31, false)), true⟩,
 ⟨(some 39), .indexAddr 1 (.tmp 37) (.tmp 38), (some (31, false)), true⟩,
 ⟨(some 40), .load none (.tmp 39), (some (31, false)), true⟩,
 ⟨(some 41), .call (.av (.func 26 [])) [(.tmp 33), (.tmp 40)], (some (31, false)), true⟩,
 ⟨(some 42), .bin .geq (.tmp 32) (.tmp 41), (some (31, false)), true⟩,
 ⟨(some 43), .pick (.tmp 31) (.av (.val (.bool true))) (.tmp 42), none, true⟩,
 ⟨(some 28), .mv (.tmp 43), none, true⟩])
 (.cond (.tmp 28)
 (.seq (.ops [⟨(some 8), .mv (.av (.val (.int .i64 1))), none, true⟩])
 (.ret))
 (.skip))))))
 (.seq (.opsD [⟨(some 44), .mv (.tmp 0), none, true⟩,
 ⟨(some 45), .nilCheck (.tmp 44), none, true⟩,
 ⟨(some 46), .fieldAddr 0 (.tmp 45), none, true⟩,
 ⟨(some 47), .load none (.tmp 46), none, true⟩,
 ⟨(some 48), .mv (.tmp 0), none, true⟩,
 ⟨(some 49), .nilCheck (.tmp 48), none, true⟩,
 ⟨(some 50), .fieldAddr 1 (.tmp 49), none, true⟩,
 ⟨(some 51), .load none (.tmp 50), none, true⟩,
 ⟨(some 52), .mv (.tmp 1), none, true⟩,
 ⟨(some 53), .indexAddr 1 (.tmp 51) (.tmp 52), none, true⟩,
 ⟨(some 54), .load none (.tmp 53), none, true⟩,
 ⟨(some 55), .bin .add (.tmp 54) (.av (.val (.int .i64 1))), none, true⟩,
 ⟨(some 56), .mv (.tmp 2), none, true⟩,
 ⟨(some 57), .bin .add (.tmp 55) (.tmp 56), none, true⟩,
 ⟨(some 58), .mv (.tmp 10), none, true⟩,
 ⟨(some 59), .indexAddr 1 (.tmp 47) (.tmp 57), none, true⟩,
 ⟨none, .store 1 (.tmp 59) (.tmp 58), none, true⟩])
 (.seq (.ops [⟨(some 8), .mv (.av (.val (.int .i64 0))), none, true⟩])
 (.ret))))))
theorem f_st_set : cFunc Try.prog 16 = some ⟨60, c_st_set, [.tmp 8]⟩ := by kernel_rfl
def c_st_hold : ACode := .seq (.ops [⟨(some 4), .mv (.av (.val (.int .i64 0))), none, true⟩])
 (.seq (.ops [⟨(some 6), .mv (.tmp 0), none, true⟩,
 ⟨(some 7), .mv (.tmp 1), none, true⟩,
 ⟨(some 8), .call (.av (.func 24 [])) [(.tmp 6), (.tmp 7)], none, true⟩,
 ⟨(some 5), .mv (.tmp 8), none, true⟩])
 (.seq (.seq (.ops [⟨(some 9), .mv (.tmp 5), none, true⟩,
 ⟨(some 10), .bin .eql (.tmp 9) (.av (.val (.int .i64 0))), none, true⟩])
 (.cond (.tmp 10)
 (.ops [⟨(some 11), .mv (.tmp 0), none, true⟩,
 ⟨(some 12), .nilCheck (.tmp 11), none, true⟩,
 ⟨(some 13), .fieldAddr 2 (.tmp 12), none, true⟩,
 ⟨(some 14), .load none (.tmp 13), none, true⟩,
 ⟨(some 15), .mv (.tmp 1), none, true⟩,
 ⟨(some 16), .indexAddr 1 (.tmp 14) (.tmp 15), none, true⟩,
 ⟨none, .store 1 (.tmp 16) (.av (.val (.bool true))), none, true⟩])
 (.skip)))
 (.seq (.ops [⟨(some 17), .mv (.tmp 5), none, true⟩,
 ⟨(some 4), .mv (.tmp 17), none, true⟩])
 (.ret))))
theorem f_st_hold : cFunc Try.prog 17 = some ⟨18, c_st_hold, [.tmp 4]⟩ := by kernel_rfl
def c_st_deed : ACode := .seq (.ops [⟨(some 4), .box 4 (.tmp 1), none, true⟩,
 ⟨(some 5), .box 2 (.tmp 2), none, true⟩,
 ⟨(some 6), .mv (.av (.val (.int .i64 0))), none, true⟩,
 ⟨(some 7), .zero [(.val (.int .i64 0)), (.val (.int .i64 0))], none, true⟩,
 ⟨(some 8), .mv (.av (.val (.int .i64 0))), none, true⟩])
 (.seq (.seq (.ops [⟨(some 15), .fieldAddr 0 (.tmp 4), none, true⟩,
 ⟨(some 16), .load none (.tmp 15), none, true⟩,
 ⟨(some 17), .call (.av (.func 10 [])) [(.tmp 16), (.av (.val (.int .i64 7)))], none, true⟩])
 (.block 0 (.seq (.ops [⟨(some 19), .bin .eql (.tmp 17) (.av (.val (.int .i64 0))), none, true⟩,
 ⟨(some 18), .mv (.tmp 19), none, true⟩])
 (.cond (.tmp 18)
 (.seq (.ops [⟨(some 21), .mv (.tmp 0), none, true⟩,
 ⟨(some 22), .fieldAddr 3 (.tmp 4), none, true⟩,
 ⟨(some 23), .load none (.tmp 22), none, true⟩,
 ⟨(some 24), .call (.av (.func 10 [])) [(.tmp 23), (.av (.val (.int .i64 100)))], none, true⟩,
 ⟨(some 25), .call (.av (.func 9 [])) [(.tmp 21), (.tmp 24)], none, true⟩,
 ⟨(some 20), .mv (.tmp 25), none, true⟩,
 ⟨(some 26), .extract 0 (.tmp 20), none, true⟩,
 ⟨(some 27), .extract 1 (.tmp 20), none, true⟩,
 ⟨(some 9), .mv (.tmp 26), none, true⟩,
 ⟨(some 10), .mv (.tmp 27), none, true⟩])
 (.seq (.ops [⟨(some 28), .mv (.tmp 9), none, true⟩,
 ⟨(some 29), .build [(.val (.int .i64 0)), (.val (.int .i64 0))] [], none, true⟩,
 ⟨(some 30), .mv (.tmp 10), none, true⟩,
 ⟨(some 6), .mv (.tmp 28), none, true⟩,
 ⟨none, .store 2 (.tmp 7) (.tmp 29), none, true⟩,
 ⟨(some 8), .mv (.tmp 30), none, true⟩])
 (.ret)))
 (.seq (.ops [⟨(some 32), .bin .eql (.tmp 17) (.av (.val (.int .i64 1))), none, true⟩,
 ⟨(some 31), .mv (.tmp 32), none, true⟩])
 (.cond (.tmp 31)
 (.seq (.ops [⟨(some 33), .build [(.val (.int .i64 0)), (.val (.int .i64 0))] [], none, true⟩,
 ⟨(some 34), .mv (.tmp 0), none, true⟩,
 ⟨(some 35), .fieldAddr 1 (.tmp 4), none, true⟩,
 ⟨(some 36), .load none (.tmp 35), none, true⟩,
 ⟨(some 37), .load (some 2) (.tmp 5), none, true⟩,
 ⟨(some 38), .call (.av (.func 11 [])) [(.tmp 34), (.tmp 36), (.tmp 37)], none, true⟩,
 ⟨(some 6), .mv (.av (.val (.int .i64 0))), none, true⟩,
 ⟨none, .store 2 (.tmp 7) (.tmp 33), none, true⟩,
 ⟨(some 8), .mv (.tmp 38), none, true⟩])
 (.ret))
 (.seq (.ops [⟨(some 40), .bin .eql (.tmp 17) (.av (.val (.int .i64 2))), none, true⟩,
 ⟨(some 39), .mv (.tmp 40), none, true⟩])
 (.cond (.tmp 39)
 (.seq (.ops [⟨(some 41), .build [(.val (.int .i64 0)), (.val (.int .i64 0))] [], none, true⟩,
 ⟨(some 42), .mv (.tmp 0), none, true⟩,
 ⟨(some 43), .fieldAddr 1 (.tmp 4), none, true⟩,
 ⟨(some 44), .load none (.tmp 43), none, true⟩,
 ⟨(some 45), .fieldAddr 3 (.tmp 4), none, true⟩,
 ⟨(some 46), .load none (.tmp 45), none, true⟩,
 ⟨(some 47), .load (some 2) (.tmp 5), none, true⟩,
 ⟨(some 48), .call (.av (.func 16 [])) [(.tmp 42), (.tmp 44), (.tmp 46), (.tmp 47)], none, true⟩,
 ⟨(some 6), .mv (.av (.val (.int .i64 0))), none, true⟩,
 ⟨none, .store 2 (.tmp 7) (.tmp 41), none, true⟩,
 ⟨(some 8), .mv (.tmp 48), none, true⟩])
 (.ret))
 (.seq (.ops [⟨(some 50), .bin .eql (.tmp 17) (.av (.val (.int .i64 3))), none, true⟩,
 ⟨(some 49), .mv (.tmp 50), none, true⟩])
 (.cond (.tmp 49)
 (.seq (.ops [⟨(some 52), .mv (.tmp 0), none, true⟩,
 ⟨(some 53), .fieldAddr 1 (.tmp 4), none, true⟩,
 ⟨(some 54), .load none (.tmp 53), none, true⟩,
 ⟨(some 55), .fieldAddr 3 (.tmp 4), none, true⟩,
 ⟨(some 56), .load none (.tmp 55), none, true⟩,
 ⟨(some 57), .call (.av (.func 19 [])) [(.tmp 52), (.tmp 54), (.tmp 56)], none, true⟩,
 ⟨(some 51), .mv (.tmp 57), none, true⟩,
 ⟨(some 58), .extract 0 (.tmp 51), none, true⟩,
 ⟨(some 59), .extract 1 (.tmp 51), none, true⟩,
 ⟨(some 11), .zero [(.val (.int .i64 0)), (.val (.int .i64 0))], none, true⟩,
 ⟨none, .store 2 (.tmp 11) (.tmp 58), none, true⟩,
 ⟨(some 12), .mv (.tmp 59), none, true⟩])
 (.seq (.opsD [⟨(some 60), .load (some 2) (.tmp 11), none, true⟩,
 ⟨(some 61), .mv (.tmp 12), none, true⟩,
 ⟨(some 6), .mv (.av (.val (.int .i64 0))), none, true⟩,
 ⟨none, .store 2 (.tmp 7) (.tmp 60), none, true⟩,
 ⟨(some 8), .mv (.tmp 61), none, true⟩])
 (.ret)))
 (.seq (.ops [⟨(some 63), .bin .eql (.tmp 17) (.av (.val (.int .i64 4))), none, true⟩,
 ⟨(some 62), .mv (.tmp 63), none, true⟩])
 (.cond (.tmp 62)
 (.seq (.ops [⟨(some 65), .mv (.tmp 0), none, true⟩,
 ⟨(some 66), .fieldAddr 1 (.tmp 4), none, true⟩,
 ⟨(some 67), .load none (.tmp 66), none, true⟩,
 ⟨(some 68), .call (.av (.func 14 [])) [(.tmp 65), (.tmp 67)], none, true⟩,
 ⟨(some 64), .mv (.tmp 68), none, true⟩,
 ⟨(some 69), .extract 0 (.tmp 64), none, true⟩,
 ⟨(some 70), .extract 1 (.tmp 64), none, true⟩,
 ⟨(some 13), .mv (.tmp 69), none, true⟩,
 ⟨(some 14), .mv (.tmp 70), none, true⟩])
 (.seq (.ops [⟨(some 71), .mv (.tmp 13), none, true⟩,
 ⟨(some 72), .build [(.val (.int .i64 0)), (.val (.int .i64 0))] [], none, true⟩,
 ⟨(some 73), .mv (.tmp 14), none, true⟩,
 ⟨(some 6), .mv (.tmp 71), none, true⟩,
 ⟨none, .store 2 (.tmp 7) (.tmp 72), none, true⟩,
 ⟨(some 8), .mv (.tmp 73), none, true⟩])
 (.ret)))
 (.seq (.ops [⟨(some 75), .bin .eql (.tmp 17) (.av (.val (.int .i64 5))), none, true⟩,
 ⟨(some 74), .mv (.tmp 75), none, true⟩])
 (.cond (.tmp 74)
 (.seq (.ops [⟨(some 76), .build [(.val (.int .i64 0)), (.val (.int .i64 0))] [], none, true⟩,
 ⟨(some 77), .mv (.tmp 0), none, true⟩,
 ⟨(some 78), .fieldAddr 1 (.tmp 4), none, true⟩,
 ⟨(some 79), .load none (.tmp 78), none, true⟩,
 ⟨(some 80), .call (.av (.func 17 [])) [(.tmp 77), (.tmp 79)], none, true⟩,
 ⟨(some 6), .mv (.av (.val (.int .i64 0))), none, true⟩,
 ⟨none, .store 2 (.tmp 7) (.tmp 76), none, true⟩,
 ⟨(some 8), .mv (.tmp 80), none, true⟩])
 (.ret))
 (.skip)))))))))))))))
 (.seq (.ops [⟨(some 81), .build [(.val (.int .i64 0)), (.val (.int .i64 0))] [], none, true⟩,
 ⟨(some 82), .mv (.tmp 0), none, true⟩,
 ⟨(some 83), .fieldAddr 1 (.tmp 4), none, true⟩,
 ⟨(some 84), .load none (.tmp 83), none, true⟩,
 ⟨(some 85), .call (.av (.func 12 [])) [(.tmp 82), (.tmp 84)], none, true⟩,
 ⟨(some 6), .mv (.av (.val (.int .i64 0))), none, true⟩,
 ⟨none, .store 2 (.tmp 7) (.tmp 81), none, true⟩,
 ⟨(some 8), .mv (.tmp 85), none, true⟩])
 (.ret)))
theorem f_st_deed : cFunc Try.prog 18 = some ⟨86, c_st_deed, [.tmp 6, .cell 7 (some 2), .tmp 8]⟩ := by kernel_rfl
def c_st_get : ACode := .seq (.ops [⟨(some 6), .zero [(.val (.int .i64 0)), (.val (.int .i64 0))], none, true⟩,
 ⟨(some 7), .mv (.av (.val (.int .i64 0))), none, true⟩])
 (.seq (.seq (.ops [⟨(some 11), .mv (.tmp 0), none, true⟩,
 ⟨(some 12), .mv (.tmp 1), none, true⟩,
 ⟨(some 13), .call (.av (.func 24 [])) [(.tmp 11), (.tmp 12)], none, true⟩,
 ⟨(some 8), .mv (.tmp 13), none, true⟩])
 (.seq (.ops [⟨(some 14), .mv (.tmp 8), none, true⟩,
 ⟨(some 15), .bin .neq (.tmp 14) (.av (.val (.int .i64 0))), none, true⟩])
 (.cond (.tmp 15)
 (.seq (.ops [⟨(some 16), .build [(.val (.int .i64 0)), (.val (.int .i64 0))] [], none, true⟩,
 ⟨(some 17), .mv (.tmp 8), none, true⟩,
 ⟨none, .store 2 (.tmp 6) (.tmp 16), none, true⟩,
 ⟨(some 7), .mv (.tmp 17), none, true⟩])
 (.ret))
 (.skip))))
 (.seq (.seq (.ops [⟨(some 18), .mv (.tmp 2), none, true⟩,
 ⟨(some 19), .bin .lss (.tmp 18) (.av (.val (.int .i64 0))), none, true⟩,
 ⟨(some 20), .mv (.tmp 19), none, true⟩,
 ⟨(some 21), .mv (.tmp 2), (some (20, false)), true⟩,
 ⟨(some 22), .mv (.tmp 0), (some (20, false)), true⟩,
 ⟨(some 23), .mv (.tmp 0), (some (20, false)), true⟩,
 ⟨(some 24), .nilCheck (.tmp 23), (some (20, false)), true⟩,
 ⟨(some 25), .fieldAddr 1 (.tmp 24), (some (20, false)), true⟩,
 ⟨(some 26), .load none (.tmp 25), (some (20, false)), true⟩,
 ⟨(some 27), .mv (.tmp 1), (some (20, false)), true⟩,
 ⟨(some 28), .indexAddr 1 (.tmp 26) (.tmp 27), (some (20, false)), true⟩,
 ⟨(some 29), .load none (.tmp 28), (some (20, false)), true⟩,
 ⟨(some 30), .call (.av (.func 26 [])) [(.tmp 22), (.tmp 29)], (some (20, false)), true⟩,
 ⟨(some 31), .bin .geq (.tmp 21) (.tmp 30), (some (20, false)), true⟩,
 ⟨(some 32), .pick (.tmp 20) (.av (.val (.bool true))) (.tmp 31), none, true⟩])
 (.cond (.tmp 32)
 (.seq (.ops [⟨(some 33), .build [(.val (.int .i64 0)), (.val (.int .i64 0))] [], none, true⟩,
 ⟨none, .store 2 (.tmp 6) (.tmp 33), none, true⟩,
 ⟨(some 7), .mv (.av (.val (.int .i64 1))), none, true⟩])
 (.ret))
 (.skip)))
 (.seq (.opsD [⟨(some 35), .mv (.tmp 0), none, true⟩,
 ⟨(some 36), .nilCheck (.tmp 35), none, true⟩,
 ⟨(some 37), .fieldAddr 0 (.tmp 36), none, true⟩,
 ⟨(some 38), .load none (.tmp 37), none, true⟩,
 ⟨(some 39), .mv (.tmp 0), none, true⟩,
 ⟨(some 40), .nilCheck (.tmp 39), none, true⟩,
 ⟨(some 41), .fieldAddr 1 (.tmp 40), none, true⟩,
 ⟨(some 42), .load none (.tmp 41), none, true⟩,
 ⟨(some 43), .mv (.tmp 1), none, true⟩,
 ⟨(some 44), .indexAddr 1 (.tmp 42) (.tmp 43), none, true⟩,
 ⟨(some 45), .load none (.tmp 44), none, true⟩,
 ⟨(some 46), .bin .add (.tmp 45) (.av (.val (.int .i64 1))), none, true⟩,
 ⟨(some 47), .mv (.tmp 2), none, true⟩,
 ⟨(some 48), .bin .add (.tmp 46) (.tmp 47), none, true⟩,
 ⟨(some 49), .indexAddr 1 (.tmp 38) (.tmp 48), none, true⟩,
 ⟨(some 50), .load none (.tmp 49), none, true⟩,
 ⟨(some 51), .call (.av (.func 30 [])) [(.tmp 50)], none, true⟩,
 ⟨(some 34), .mv (.tmp 51), none, true⟩,
 ⟨(some 52), .extract 0 (.tmp 34), none, true⟩,
 ⟨(some 53), .extract 1 (.tmp 34), none, true⟩,
 ⟨(some 9), .zero [(.val (.int .i64 0)), (.val (.int .i64 0))], none, true⟩,
 ⟨none, .store 2 (.tmp 9) (.tmp 52), none, true⟩,
 ⟨(some 10), .mv (.tmp 53), none, true⟩])
 (.seq (.seq (.ops [⟨(some 54), .fieldAddr 0 (.tmp 9), none, true⟩,
 ⟨(some 55), .load none (.tmp 54), none, true⟩,
 ⟨(some 56), .bin .eql (.tmp 55) (.av (.val (.int .i64 5))), none, true⟩])
 (.cond (.tmp 56)
 (.ops [⟨(some 57), .mv (.tmp 0), none, true⟩,
 ⟨(some 58), .fieldAddr 1 (.tmp 9), none, true⟩,
 ⟨(some 59), .load none (.tmp 58), none, true⟩,
 ⟨(some 60), .call (.av (.func 31 [])) [(.tmp 57), (.tmp 59)], none, true⟩,
 ⟨(some 61), .fieldAddr 1 (.tmp 9), none, true⟩,
 ⟨none, .store 1 (.tmp 61) (.tmp 60), none, true⟩])
 (.skip)))
 (.seq (.ops [⟨(some 62), .load (some 2) (.tmp 9), none, true⟩,
 ⟨none, .store 2 (.tmp 6) (.tmp 62), none, true⟩,
 ⟨(some 7), .mv (.av (.val (.int .i64 0))), none, true⟩])
 (.ret))))))
theorem f_st_get : cFunc Try.prog 19 = some ⟨63, c_st_get, [.cell 6 (some 2), .tmp 7]⟩ := by kernel_rfl
def c_st_mark : ACode := .seq (.ops [⟨(some 4), .mv (.av (.val (.int .i64 0))), none, true⟩,
 ⟨(some 5), .mv (.av (.val (.int .i64 0))), none, true⟩])
 (.seq (.seq (.ops [⟨(some 7), .mv (.tmp 0), none, true⟩,
 ⟨(some 8), .mv (.tmp 1), none, true⟩,
 ⟨(some 9), .call (.av (.func 24 [])) [(.tmp 7), (.tmp 8)], none, true⟩,
 ⟨(some 6), .mv (.tmp 9), none, true⟩])
 (.seq (.ops [⟨(some 10), .mv (.tmp 6), none, true⟩,
 ⟨(some 11), .bin .neq (.tmp 10) (.av (.val (.int .i64 0))), none, true⟩])
 (.cond (.tmp 11)
 (.seq (.ops [⟨(some 12), .mv (.tmp 6), none, true⟩,
 ⟨(some 4), .mv (.av (.val (.int .i64 0))), none, true⟩,
 ⟨(some 5), .mv (.tmp 12), none, true⟩])
 (.ret))
 (.skip))))
 (.seq (.opsD [⟨(some 13), .mv (.tmp 0), none, true⟩,
 ⟨(some 14), .nilCheck (.tmp 13), none, true⟩,
 ⟨(some 15), .fieldAddr 0 (.tmp 14), none, true⟩,
 ⟨(some 16), .load none (.tmp 15), none, true⟩,
 ⟨(some 17), .mv (.tmp 0), none, true⟩,
 ⟨(some 18), .nilCheck (.tmp 17), none, true⟩,
 ⟨(some 19), .fieldAddr 1 (.tmp 18), none, true⟩,
 ⟨(some 20), .load none (.tmp 19), none, true⟩,
 ⟨(some 21), .mv (.tmp 1), none, true⟩,
 ⟨(some 22), .indexAddr 1 (.tmp 20) (.tmp 21), none, true⟩,
 ⟨(some 23), .load none (.tmp 22), none, true⟩,
 ⟨(some 24), .indexAddr 1 (.tmp 16) (.tmp 23), none, true⟩,
 ⟨(some 25), .load none (.tmp 24), none, true⟩,
 ⟨(some 26), .bin .shr (.tmp 25) (.av (.val (.int .u64 32))), none, true⟩,
 ⟨(some 27), .conv .i64 (.tmp 26), none, true⟩,
 ⟨(some 4), .mv (.tmp 27), none, true⟩,
 ⟨(some 5), .mv (.av (.val (.int .i64 0))), none, true⟩])
 (.ret)))
theorem f_st_mark : cFunc Try.prog 21 = some ⟨28, c_st_mark, [.tmp 4, .tmp 5]⟩ := by kernel_rfl
def c_st_needs : ACode := .seq (.ops [⟨(some 2), .mv (.av (.val (.int .i64 0))), none, true⟩])
 (.seq (.ops [⟨(some 3), .mv (.av (.val (.int .i64 0))), none, true⟩])
 (.seq (.rng true (.tmp 6) 7 8 9 10 0 1 [⟨(some 5), .mv (.tmp 0), none, true⟩,
 ⟨(some 6), .call (.av (.func 32 [])) [(.tmp 5)], none, true⟩] [⟨(some 11), .extract 0 (.tmp 10), none, true⟩,
 ⟨(some 4), .mv (.tmp 11), none, true⟩]
 (.ops [⟨(some 12), .mv (.tmp 3), none, true⟩,
 ⟨(some 13), .mv (.tmp 0), none, true⟩,
 ⟨(some 14), .mv (.tmp 4), none, true⟩,
 ⟨(some 15), .call (.av (.func 26 [])) [(.tmp 13), (.tmp 14)], none, true⟩,
 ⟨(some 16), .bin .add (.av (.val (.int .i64 1))) (.tmp 15), none, true⟩,
 ⟨(some 17), .bin .add (.tmp 12) (.tmp 16), none, true⟩,
 ⟨(some 3), .mv (.tmp 17), none, true⟩]))
 (.seq (.ops [⟨(some 18), .mv (.tmp 3), none, true⟩,
 ⟨(some 2), .mv (.tmp 18), none, true⟩])
 (.ret))))
theorem f_st_needs : cFunc Try.prog 22 = some ⟨19, c_st_needs, [.tmp 2]⟩ := by kernel_rfl
def c_st_room : ACode := .seq (.ops [⟨(some 4), .mv (.av (.val (.bool false))), none, true⟩])
 (.seq (.seq (.ops [⟨(some 5), .mv (.tmp 0), none, true⟩,
 ⟨(some 6), .nilCheck (.tmp 5), none, true⟩,
 ⟨(some 7), .fieldAddr 0 (.tmp 6), none, true⟩,
 ⟨(some 8), .load none (.tmp 7), none, true⟩,
 ⟨(some 9), .len (.tmp 8), none, true⟩,
 ⟨(some 10), .mv (.tmp 1), none, true⟩,
 ⟨(some 11), .bin .add (.tmp 9) (.tmp 10), none, true⟩,
 ⟨(some 12), .bin .gtr (.tmp 11) (.av (.val (.int .i64 2000))), none, true⟩])
 (.cond (.tmp 12)
 (.ops [⟨(some 13), .mv (.tmp 0), none, true⟩,
 ⟨(some 14), .call (.av (.func 13 [])) [(.tmp 13)], none, true⟩])
 (.skip)))
 (.seq (.ops [⟨(some 15), .mv (.tmp 0), none, true⟩,
 ⟨(some 16), .nilCheck (.tmp 15), none, true⟩,
 ⟨(some 17), .fieldAddr 0 (.tmp 16), none, true⟩,
 ⟨(some 18), .load none (.tmp 17), none, true⟩,
 ⟨(some 19), .len (.tmp 18), none, true⟩,
 ⟨(some 20), .mv (.tmp 1), none, true⟩,
 ⟨(some 21), .bin .add (.tmp 19) (.tmp 20), none, true⟩,
 ⟨(some 22), .bin .leq (.tmp 21) (.av (.val (.int .i64 2000))), none, true⟩,
 ⟨(some 4), .mv (.tmp 22), none, true⟩])
 (.ret)))
theorem f_st_room : cFunc Try.prog 23 = some ⟨23, c_st_room, [.tmp 4]⟩ := by kernel_rfl
def c_st_named : ACode := .seq (.ops [⟨(some 4), .mv (.av (.val (.int .i64 0))), none, true⟩])
 (.seq (.seq (.ops [⟨(some 7), .mv (.tmp 1), none, true⟩,
 ⟨(some 8), .bin .lss (.tmp 7) (.av (.val (.int .i64 0))), none, true⟩,
 ⟨(some 9), .mv (.tmp 8), none, true⟩,
 ⟨(some 10), .mv (.tmp 1), (some (9, false)), true⟩,
 ⟨(some 11), .mv (.tmp 0), (some (9, false)), true⟩,
 ⟨(some 12), .nilCheck (.tmp 11), (some (9, false)), true⟩,
 ⟨(some 13), .fieldAddr 1 (.tmp 12), (some (9, false)), true⟩,
 ⟨(some 14), .load none (.tmp 13), (some (9, false)), true⟩,
 ⟨(some 15), .len (.tmp 14), (some (9, false)), true⟩,
 ⟨(some 16), .bin .geq (.tmp 10) (.tmp 15), (some (9, false)), true⟩,
 ⟨(some 17), .pick (.tmp 9) (.av (.val (.bool true))) (.tmp 16), none, true⟩])
 (.cond (.tmp 17)
 (.seq (.ops [⟨(some 4), .mv (.av (.val (.int .i64 5))), none, true⟩])
 (.ret))
 (.skip)))
 (.seq (.seq (.opsW [⟨(some 19), .mv (.tmp 0), none, true⟩,
 ⟨(some 20), .call (.av (.func 32 [])) [(.tmp 19)], none, false⟩,
 ⟨(some 21), .mv (.tmp 0), none, true⟩,
 ⟨(some 22), .nilCheck (.tmp 21), none, true⟩,
 ⟨(some 23), .fieldAddr 1 (.tmp 22), none, true⟩,
 ⟨(some 24), .load none (.tmp 23), none, false⟩,
 ⟨(some 25), .mv (.tmp 1), none, true⟩,
 ⟨(some 26), .indexAddr 1 (.tmp 24) (.tmp 25), none, true⟩,
 ⟨(some 27), .load none (.tmp 26), none, false⟩,
 ⟨(some 28), .mapGet true (.agg []) (.tmp 20) (.tmp 27), none, true⟩,
 ⟨(some 18), .mv (.tmp 28), none, true⟩,
 ⟨(some 29), .extract 0 (.tmp 18), none, true⟩,
 ⟨(some 30), .extract 1 (.tmp 18), none, true⟩,
 ⟨(some 5), .zero [], none, true⟩,
 ⟨none, .store 0 (.tmp 5) (.tmp 29), none, true⟩,
 ⟨(some 6), .mv (.tmp 30), none, true⟩])
 (.seq (.ops [⟨(some 31), .mv (.tmp 6), none, true⟩,
 ⟨(some 32), .un .not (.tmp 31), none, true⟩])
 (.cond (.tmp 32)
 (.seq (.ops [⟨(some 4), .mv (.av (.val (.int .i64 8))), none, true⟩])
 (.ret))
 (.skip))))
 (.seq (.ops [⟨(some 4), .mv (.av (.val (.int .i64 0))), none, true⟩])
 (.ret))))
theorem f_st_named : cFunc Try.prog 24 = some ⟨33, c_st_named, [.tmp 4]⟩ := by kernel_rfl
def c_st_boxed : ACode := .seq (.ops [⟨(some 3), .box 2 (.tmp 1), none, true⟩,
 ⟨(some 4), .mv (.av (.val (.int .u64 0))), none, true⟩,
 ⟨(some 5), .mv (.av (.val (.int .i64 0))), none, true⟩])
 (.seq (.ops [⟨(some 10), .load (some 2) (.tmp 3), none, true⟩,
 ⟨(some 11), .call (.av (.func 33 [])) [(.tmp 10)], none, true⟩,
 ⟨(some 9), .mv (.tmp 11), none, true⟩,
 ⟨(some 12), .extract 0 (.tmp 9), none, true⟩,
 ⟨(some 13), .extract 1 (.tmp 9), none, true⟩,
 ⟨(some 6), .mv (.tmp 12), none, true⟩,
 ⟨(some 7), .mv (.tmp 13), none, true⟩])
 (.seq (.seq (.ops [⟨(some 14), .mv (.tmp 7), none, true⟩,
 ⟨(some 15), .bin .neq (.tmp 14) (.av (.val (.int .i64 0))), none, true⟩,
 ⟨(some 16), .mv (.tmp 15), none, true⟩,
 ⟨(some 17), .fieldAddr 0 (.tmp 3), (some (16, false)), true⟩,
 ⟨(some 18), .load none (.tmp 17), (some (16, false)), true⟩,
 ⟨(some 19), .bin .neq (.tmp 18) (.av (.val (.int .i64 5))), (some (16, false)), true⟩,
 ⟨(some 20), .pick (.tmp 16) (.av (.val (.bool true))) (.tmp 19), none, true⟩])
 (.cond (.tmp 20)
 (.seq (.ops [⟨(some 21), .mv (.tmp 6), none, true⟩,
 ⟨(some 22), .mv (.tmp 7), none, true⟩,
 ⟨(some 4), .mv (.tmp 21), none, true⟩,
 ⟨(some 5), .mv (.tmp 22), none, true⟩])
 (.ret))
 (.skip)))
 (.seq (.seq (.ops [⟨(some 23), .mv (.tmp 0), none, true⟩,
 ⟨(some 24), .fieldAddr 1 (.tmp 3), none, true⟩,
 ⟨(some 25), .load none (.tmp 24), none, true⟩,
 ⟨(some 26), .call (.av (.func 24 [])) [(.tmp 23), (.tmp 25)], none, true⟩,
 ⟨(some 8), .mv (.tmp 26), none, true⟩])
 (.seq (.ops [⟨(some 27), .mv (.tmp 8), none, true⟩,
 ⟨(some 28), .bin .neq (.tmp 27) (.av (.val (.int .i64 0))), none, true⟩])
 (.cond (.tmp 28)
 (.seq (.ops [⟨(some 29), .mv (.tmp 8), none, true⟩,
 ⟨(some 4), .mv (.av (.val (.int .u64 0))), none, true⟩,
 ⟨(some 5), .mv (.tmp 29), none, true⟩])
 (.ret))
 (.skip))))
 (.seq (.opsD [⟨(some 30), .mv (.tmp 0), none, true⟩,
 ⟨(some 31), .nilCheck (.tmp 30), none, true⟩,
 ⟨(some 32), .fieldAddr 1 (.tmp 31), none, true⟩,
 ⟨(some 33), .load none (.tmp 32), none, true⟩,
 ⟨(some 34), .fieldAddr 1 (.tmp 3), none, true⟩,
 ⟨(some 35), .load none (.tmp 34), none, true⟩,
 ⟨(some 36), .indexAddr 1 (.tmp 33) (.tmp 35), none, true⟩,
 ⟨(some 37), .load none (.tmp 36), none, true⟩,
 ⟨(some 38), .build [(.val (.int .i64 0)), (.val (.int .i64 0))] [(0, 1, (.av (.val (.int .i64 5)))), (1, 1, (.tmp 37))], none, true⟩,
 ⟨(some 39), .call (.av (.func 33 [])) [(.tmp 38)], none, true⟩,
 ⟨(some 40), .extract 0 (.tmp 39), none, true⟩,
 ⟨(some 41), .extract 1 (.tmp 39), none, true⟩,
 ⟨(some 4), .mv (.tmp 40), none, true⟩,
 ⟨(some 5), .mv (.tmp 41), none, true⟩])
 (.ret)))))
theorem f_st_boxed : cFunc Try.prog 25 = some ⟨42, c_st_boxed, [.tmp 4, .tmp 5]⟩ := by kernel_rfl
def c_st_long : ACode := .seq (.ops [⟨(some 4), .mv (.av (.val (.int .i64 0))), none, true⟩])
 (.seq (.ops [⟨(some 5), .mv (.tmp 0), none, true⟩,
 ⟨(some 6), .nilCheck (.tmp 5), none, true⟩,
 ⟨(some 7), .fieldAddr 0 (.tmp 6), none, true⟩,
 ⟨(some 8), .load none (.tmp 7), none, true⟩,
 ⟨(some 9), .mv (.tmp 1), none, true⟩,
 ⟨(some 10), .indexAddr 1 (.tmp 8) (.tmp 9), none, true⟩,
 ⟨(some 11), .load none (.tmp 10), none, true⟩,
 ⟨(some 12), .conv .u32 (.tmp 11), none, true⟩,
 ⟨(some 13), .conv .i64 (.tmp 12), none, true⟩,
 ⟨(some 4), .mv (.tmp 13), none, true⟩])
 (.ret))
theorem f_st_long : cFunc Try.prog 26 = some ⟨14, c_st_long, [.tmp 4]⟩ := by kernel_rfl
def c_st_roots : ACode := .seq (.ops [⟨(some 2), .mv (.av (.val (.slice none 0 0))), none, true⟩])
 (.seq (.ops [⟨(some 3), .mv (.av (.val (.slice none 0 0))), none, true⟩])
 (.seq (.seq (.ops [⟨(some 8), .mv (.tmp 0), none, true⟩,
 ⟨(some 9), .nilCheck (.tmp 8), none, true⟩,
 ⟨(some 10), .fieldAddr 2 (.tmp 9), none, true⟩,
 ⟨(some 11), .load none (.tmp 10), none, true⟩,
 ⟨(some 12), .len (.tmp 11), none, true⟩,
 ⟨(some 13), .mv (.av (.val (.int .i64 0))), none, true⟩])
 (rangeCode 0 1 14 13 12 35
 (.seq (.ops [⟨(some 15), .mv (.tmp 13), none, true⟩,
 ⟨(some 16), .indexAddr 1 (.tmp 11) (.tmp 13), none, true⟩,
 ⟨(some 17), .load none (.tmp 16), none, true⟩,
 ⟨(some 4), .mv (.tmp 15), none, true⟩,
 ⟨(some 5), .mv (.tmp 17), none, true⟩])
 (.seq (.ops [⟨(some 18), .mv (.tmp 5), none, true⟩])
 (.cond (.tmp 18)
 (.seq (.ops [⟨(some 20), .mv (.tmp 0), none, true⟩,
 ⟨(some 21), .nilCheck (.tmp 20), none, true⟩,
 ⟨(some 22), .fieldAddr 1 (.tmp 21), none, true⟩,
 ⟨(some 23), .load none (.tmp 22), none, true⟩,
 ⟨(some 24), .mv (.tmp 4), none, true⟩,
 ⟨(some 25), .indexAddr 1 (.tmp 23) (.tmp 24), none, true⟩,
 ⟨(some 26), .load none (.tmp 25), none, true⟩,
 ⟨(some 27), .build [(.val (.int .i64 0)), (.val (.int .i64 0))] [(0, 1, (.av (.val (.int .i64 5)))), (1, 1, (.tmp 26))], none, true⟩,
 ⟨(some 28), .call (.av (.func 33 [])) [(.tmp 27)], none, true⟩,
 ⟨(some 19), .mv (.tmp 28), none, true⟩,
 ⟨(some 29), .extract 0 (.tmp 19), none, true⟩,
 ⟨(some 30), .extract 1 (.tmp 19), none, true⟩,
 ⟨(some 6), .mv (.tmp 29), none, true⟩,
 ⟨(some 7), .mv (.tmp 30), none, true⟩])
 (.ops [⟨(some 31), .mv (.tmp 3), none, true⟩,
 ⟨(some 32), .mv (.tmp 6), none, true⟩,
 ⟨(some 33), .lits 1 1 [(.val (.int .u64 0))] [(0, 1, (.tmp 32))], none, true⟩,
 ⟨(some 34), .append 1 8 (.tmp 31) (.tmp 33), none, true⟩,
 ⟨(some 3), .mv (.tmp 34), none, true⟩]))
 (.skip))))))
 (.seq (.ops [⟨(some 36), .mv (.tmp 3), none, true⟩,
 ⟨(some 2), .mv (.tmp 36), none, true⟩])
 (.ret))))
theorem f_st_roots : cFunc Try.prog 29 = some ⟨37, c_st_roots, [.tmp 2]⟩ := by kernel_rfl
def c_st_cell : ACode := .seq (.ops [⟨(some 4), .mv (.av (.val (.int .i64 0))), none, true⟩])
 (.seq (.ops [⟨(some 5), .mv (.tmp 0), none, true⟩,
 ⟨(some 6), .nilCheck (.tmp 5), none, true⟩,
 ⟨(some 7), .fieldAddr 1 (.tmp 6), none, true⟩,
 ⟨(some 8), .load none (.tmp 7), none, true⟩,
 ⟨(some 9), .mv (.tmp 1), none, true⟩,
 ⟨(some 10), .call (.av (.func 40 [])) [(.tmp 8), (.tmp 9)], none, true⟩,
 ⟨(some 4), .mv (.tmp 10), none, true⟩])
 (.ret))
theorem f_st_cell : cFunc Try.prog 31 = some ⟨11, c_st_cell, [.tmp 4]⟩ := by kernel_rfl
def c_st_needed : ACode := .seq (.ops [⟨(some 2), .mv (.av (.val (.map none))), none, true⟩])
 (.seq (.ops [⟨(some 9), .mkMap, none, true⟩,
 ⟨(some 3), .mv (.tmp 9), none, true⟩])
 (.seq (.opsD [⟨(some 11), .mv (.tmp 0), none, true⟩,
 ⟨(some 12), .nilCheck (.tmp 11), none, true⟩,
 ⟨(some 13), .fieldAddr 0 (.tmp 12), none, true⟩,
 ⟨(some 14), .load none (.tmp 13), none, false⟩,
 ⟨(some 15), .mv (.tmp 0), none, true⟩,
 ⟨(some 16), .call (.av (.func 29 [])) [(.tmp 15)], none, false⟩,
 ⟨(some 17), .build [(.val (.slice none 0 0)), (.val (.slice none 0 0))] [(0, 1, (.tmp 14)), (1, 1, (.tmp 16))], none, true⟩,
 ⟨(some 18), .call (.av (.func 28 [])) [(.tmp 17)], none, true⟩,
 ⟨(some 10), .mv (.tmp 18), none, true⟩,
 ⟨(some 19), .extract 0 (.tmp 10), none, true⟩,
 ⟨(some 20), .extract 1 (.tmp 10), none, true⟩,
 ⟨(some 21), .extract 2 (.tmp 10), none, true⟩,
 ⟨(some 4), .zero [(.val (.slice none 0 0)), (.val (.slice none 0 0))], none, true⟩,
 ⟨none, .store 2 (.tmp 4) (.tmp 19), none, true⟩,
 ⟨(some 5), .mv (.tmp 20), none, true⟩,
 ⟨(some 6), .mv (.tmp 21), none, true⟩])
 (.seq (.seq (.ops [⟨(some 22), .mv (.tmp 5), none, true⟩,
 ⟨(some 23), .len (.tmp 22), none, true⟩,
 ⟨(some 24), .mv (.av (.val (.int .i64 0))), none, true⟩])
 (rangeCode 0 1 25 24 23 32
 (.seq (.ops [⟨(some 26), .indexAddr 2 (.tmp 22) (.tmp 24), none, true⟩,
 ⟨(some 27), .load (some 2) (.tmp 26), none, true⟩,
 ⟨(some 8), .zero [(.val (.int .i64 0)), (.val (.int .i64 0))], none, true⟩,
 ⟨none, .store 2 (.tmp 8) (.tmp 27), none, true⟩])
 (.ops [⟨(some 28), .mv (.tmp 3), none, true⟩,
 ⟨(some 29), .fieldAddr 1 (.tmp 8), none, true⟩,
 ⟨(some 30), .load none (.tmp 29), none, true⟩,
 ⟨(some 31), .build [] [], none, true⟩,
 ⟨none, .mapSet (.tmp 28) (.tmp 30) (.tmp 31), none, true⟩]))))
 (.seq (.ops [⟨(some 33), .mv (.tmp 3), none, true⟩,
 ⟨(some 2), .mv (.tmp 33), none, true⟩])
 (.ret)))))
theorem f_st_needed : cFunc Try.prog 32 = some ⟨34, c_st_needed, [.tmp 2]⟩ := by kernel_rfl
def c_st_last : ACode := .seq (.ops [⟨(some 2), .box 1 (.tmp 0), none, true⟩])
 (.seq (.ops [⟨(some 7), .load none (.tmp 2), none, true⟩,
 ⟨(some 8), .nilCheck (.tmp 7), none, true⟩,
 ⟨(some 9), .fieldAddr 1 (.tmp 8), none, true⟩,
 ⟨(some 10), .load none (.tmp 9), none, true⟩,
 ⟨(some 11), .mv (.tmp 1), none, true⟩,
 ⟨(some 12), .indexAddr 1 (.tmp 10) (.tmp 11), none, true⟩,
 ⟨(some 13), .load none (.tmp 12), none, true⟩,
 ⟨(some 4), .zero [(.val (.int .i64 0))], none, true⟩,
 ⟨none, .store 1 (.tmp 4) (.tmp 13), none, true⟩])
 (.seq (.ops [⟨(some 14), .load none (.tmp 2), none, true⟩,
 ⟨(some 15), .load none (.tmp 4), none, true⟩,
 ⟨(some 16), .call (.av (.func 26 [])) [(.tmp 14), (.tmp 15)], none, true⟩,
 ⟨(some 17), .bin .add (.av (.val (.int .i64 1))) (.tmp 16), none, true⟩,
 ⟨(some 5), .zero [(.val (.int .i64 0))], none, true⟩,
 ⟨none, .store 1 (.tmp 5) (.tmp 17), none, true⟩])
 (.seq (.opsD [⟨(some 18), .load none (.tmp 2), none, true⟩,
 ⟨(some 19), .nilCheck (.tmp 18), none, true⟩,
 ⟨(some 20), .fieldAddr 0 (.tmp 19), none, true⟩,
 ⟨(some 21), .load none (.tmp 20), none, true⟩,
 ⟨(some 22), .load none (.tmp 4), none, true⟩,
 ⟨(some 23), .load none (.tmp 4), none, true⟩,
 ⟨(some 24), .load none (.tmp 5), none, true⟩,
 ⟨(some 25), .bin .add (.tmp 23) (.tmp 24), none, true⟩,
 ⟨(some 26), .slice 1 (.tmp 21) (some (.tmp 22)) (some (.tmp 25)) none, none, true⟩,
 ⟨(some 27), .call (.av (.func 43 [])) [(.tmp 26)], none, true⟩,
 ⟨(some 6), .mv (.tmp 27), none, true⟩])
 (.seq (.opsD [⟨(some 28), .load none (.tmp 2), none, false⟩,
 ⟨(some 29), .load none (.tmp 2), none, true⟩,
 ⟨(some 30), .nilCheck (.tmp 29), none, true⟩,
 ⟨(some 31), .fieldAddr 0 (.tmp 30), none, true⟩,
 ⟨(some 32), .load none (.tmp 31), none, true⟩,
 ⟨(some 33), .load none (.tmp 4), none, true⟩,
 ⟨(some 34), .load none (.tmp 4), none, true⟩,
 ⟨(some 35), .load none (.tmp 5), none, true⟩,
 ⟨(some 36), .bin .add (.tmp 34) (.tmp 35), none, true⟩,
 ⟨(some 37), .call (.av (.func 44 [])) [(.tmp 32), (.tmp 33), (.tmp 36)], none, false⟩,
 ⟨(some 38), .mv (.tmp 6), none, true⟩,
 ⟨(some 39), .append 1 8 (.tmp 37) (.tmp 38), none, false⟩,
 ⟨(some 40), .nilCheck (.tmp 28), none, true⟩,
 ⟨(some 41), .fieldAddr 0 (.tmp 40), none, true⟩,
 ⟨none, .store 1 (.tmp 41) (.tmp 39), none, true⟩])
 (.ops [⟨(some 42), .load none (.tmp 2), none, true⟩,
 ⟨(some 43), .func 46 [(.tmp 4), (.tmp 2), (.tmp 5)], none, true⟩,
 ⟨(some 44), .call (.av (.func 45 [])) [(.tmp 42), (.tmp 43)], none, true⟩])))))
theorem f_st_last : cFunc Try.prog 34 = some ⟨45, c_st_last, []⟩ := by kernel_rfl
def c_st_move : ACode := .seq (.opsD [⟨(some 6), .mv (.tmp 0), none, true⟩,
 ⟨(some 7), .nilCheck (.tmp 6), none, true⟩,
 ⟨(some 8), .fieldAddr 1 (.tmp 7), none, true⟩,
 ⟨(some 9), .load none (.tmp 8), none, true⟩,
 ⟨(some 10), .mv (.tmp 1), none, true⟩,
 ⟨(some 11), .indexAddr 1 (.tmp 9) (.tmp 10), none, true⟩,
 ⟨(some 12), .load none (.tmp 11), none, true⟩,
 ⟨(some 13), .mv (.tmp 0), none, true⟩,
 ⟨(some 14), .nilCheck (.tmp 13), none, true⟩,
 ⟨(some 15), .fieldAddr 0 (.tmp 14), none, true⟩,
 ⟨(some 16), .load none (.tmp 15), none, false⟩,
 ⟨(some 17), .len (.tmp 16), none, true⟩,
 ⟨(some 4), .zero [(.val (.int .i64 0))], none, true⟩,
 ⟨(some 5), .zero [(.val (.int .i64 0))], none, true⟩,
 ⟨none, .store 1 (.tmp 4) (.tmp 12), none, false⟩,
 ⟨none, .store 1 (.tmp 5) (.tmp 17), none, true⟩])
 (.seq (.opsD [⟨(some 18), .mv (.tmp 0), none, true⟩,
 ⟨(some 19), .mv (.tmp 0), none, true⟩,
 ⟨(some 20), .nilCheck (.tmp 19), none, true⟩,
 ⟨(some 21), .fieldAddr 0 (.tmp 20), none, true⟩,
 ⟨(some 22), .load none (.tmp 21), none, false⟩,
 ⟨(some 23), .mv (.tmp 0), none, true⟩,
 ⟨(some 24), .nilCheck (.tmp 23), none, true⟩,
 ⟨(some 25), .fieldAddr 0 (.tmp 24), none, true⟩,
 ⟨(some 26), .load none (.tmp 25), none, false⟩,
 ⟨(some 27), .load none (.tmp 4), none, false⟩,
 ⟨(some 28), .load none (.tmp 4), none, false⟩,
 ⟨(some 29), .bin .add (.tmp 28) (.av (.val (.int .i64 1))), none, true⟩,
 ⟨(some 30), .mv (.tmp 0), none, true⟩,
 ⟨(some 31), .load none (.tmp 4), none, true⟩,
 ⟨(some 32), .call (.av (.func 26 [])) [(.tmp 30), (.tmp 31)], none, false⟩,
 ⟨(some 33), .bin .add (.tmp 29) (.tmp 32), none, true⟩,
 ⟨(some 34), .slice 1 (.tmp 26) (some (.tmp 27)) (some (.tmp 33)) none, none, true⟩,
 ⟨(some 35), .append 1 8 (.tmp 22) (.tmp 34), none, true⟩,
 ⟨(some 36), .nilCheck (.tmp 18), none, true⟩,
 ⟨(some 37), .fieldAddr 0 (.tmp 36), none, true⟩,
 ⟨none, .store 1 (.tmp 37) (.tmp 35), none, true⟩])
 (.ops [⟨(some 38), .mv (.tmp 0), none, true⟩,
 ⟨(some 39), .func 47 [(.tmp 4), (.tmp 5)], none, true⟩,
 ⟨(some 40), .call (.av (.func 45 [])) [(.tmp 38), (.tmp 39)], none, true⟩]))
theorem f_st_move : cFunc Try.prog 35 = some ⟨41, c_st_move, []⟩ := by kernel_rfl
def c_sl_index : ACode := .seq (.ops [⟨(some 4), .mv (.av (.val (.int .i64 0))), none, true⟩])
 (.seq (.seq (.ops [⟨(some 6), .mv (.tmp 0), none, true⟩,
 ⟨(some 7), .len (.tmp 6), none, true⟩,
 ⟨(some 8), .mv (.av (.val (.int .i64 0))), none, true⟩])
 (rangeCode 0 1 9 8 7 18
 (.seq (.ops [⟨(some 10), .mv (.tmp 8), none, true⟩,
 ⟨(some 5), .mv (.tmp 10), none, true⟩])
 (.seq (.ops [⟨(some 11), .mv (.tmp 1), none, true⟩,
 ⟨(some 12), .mv (.tmp 0), none, true⟩,
 ⟨(some 13), .mv (.tmp 5), none, true⟩,
 ⟨(some 14), .indexAddr 1 (.tmp 12) (.tmp 13), none, true⟩,
 ⟨(some 15), .load none (.tmp 14), none, true⟩,
 ⟨(some 16), .bin .eql (.tmp 11) (.tmp 15), none, true⟩])
 (.cond (.tmp 16)
 (.seq (.ops [⟨(some 17), .mv (.tmp 5), none, true⟩,
 ⟨(some 4), .mv (.tmp 17), none, true⟩])
 (.ret))
 (.skip))))))
 (.seq (.ops [⟨(some 4), .mv (.av (.val (.int .i64 (-1)))), none, true⟩])
 (.ret)))
theorem f_sl_index : cFunc Try.prog 40 = some ⟨19, c_sl_index, [.tmp 4]⟩ := by kernel_rfl
def c_sl_clone : ACode := .seq (.ops [⟨(some 2), .mv (.av (.val (.slice none 0 0))), none, true⟩])
 (.seq (.seq (.ops [⟨(some 3), .mv (.tmp 0), none, true⟩,
 ⟨(some 4), .eqNil false 0 (.tmp 3), none, true⟩])
 (.cond (.tmp 4)
 (.seq (.ops [⟨(some 2), .mv (.av (.val (.slice none 0 0))), none, true⟩])
 (.ret))
 (.skip)))
 (.seq (.ops [⟨(some 5), .lits 1 0 [] [], none, true⟩,
 ⟨(some 6), .mv (.tmp 0), none, true⟩,
 ⟨(some 7), .append 1 8 (.tmp 5) (.tmp 6), none, true⟩,
 ⟨(some 2), .mv (.tmp 7), none, true⟩])
 (.ret)))
theorem f_sl_clone : cFunc Try.prog 43 = some ⟨8, c_sl_clone, [.tmp 2]⟩ := by kernel_rfl
def c_sl_del : ACode := .seq (.ops [⟨(some 6), .mv (.av (.val (.slice none 0 0))), none, true⟩])
 (.seq (.ops [⟨(some 8), .mv (.tmp 0), none, true⟩,
 ⟨(some 9), .mv (.tmp 1), none, true⟩,
 ⟨(some 10), .mv (.tmp 2), none, true⟩,
 ⟨(some 11), .mv (.tmp 0), none, true⟩,
 ⟨(some 12), .len (.tmp 11), none, true⟩,
 ⟨(some 13), .slice 1 (.tmp 8) (some (.tmp 9)) (some (.tmp 10)) (some (.tmp 12)), none, true⟩])
 (.seq (.seq (.ops [⟨(some 14), .mv (.tmp 1), none, true⟩,
 ⟨(some 15), .mv (.tmp 2), none, true⟩,
 ⟨(some 16), .bin .eql (.tmp 14) (.tmp 15), none, true⟩])
 (.cond (.tmp 16)
 (.seq (.ops [⟨(some 17), .mv (.tmp 0), none, true⟩,
 ⟨(some 6), .mv (.tmp 17), none, true⟩])
 (.ret))
 (.skip)))
 (.seq (.ops [⟨(some 18), .mv (.tmp 0), none, true⟩,
 ⟨(some 19), .len (.tmp 18), none, true⟩,
 ⟨(some 7), .mv (.tmp 19), none, true⟩])
 (.seq (.opsD [⟨(some 20), .mv (.tmp 0), none, true⟩,
 ⟨(some 21), .mv (.tmp 1), none, true⟩,
 ⟨(some 22), .slice 1 (.tmp 20) none (some (.tmp 21)) none, none, true⟩,
 ⟨(some 23), .mv (.tmp 0), none, true⟩,
 ⟨(some 24), .mv (.tmp 2), none, true⟩,
 ⟨(some 25), .slice 1 (.tmp 23) (some (.tmp 24)) none none, none, true⟩,
 ⟨(some 26), .append 1 8 (.tmp 22) (.tmp 25), none, true⟩,
 ⟨(some 0), .mv (.tmp 26), none, true⟩])
 (.seq (.ops [⟨(some 27), .mv (.tmp 0), none, true⟩,
 ⟨(some 28), .mv (.tmp 0), none, true⟩,
 ⟨(some 29), .len (.tmp 28), none, true⟩,
 ⟨(some 30), .mv (.tmp 7), none, true⟩,
 ⟨(some 31), .slice 1 (.tmp 27) (some (.tmp 29)) (some (.tmp 30)) none, none, true⟩,
 ⟨none, .clear 1 [(.val (.int .u64 0))] (.tmp 31), none, true⟩])
 (.seq (.ops [⟨(some 32), .mv (.tmp 0), none, true⟩,
 ⟨(some 6), .mv (.tmp 32), none, true⟩])
 (.ret)))))))
theorem f_sl_del : cFunc Try.prog 44 = some ⟨33, c_sl_del, [.tmp 6]⟩ := by kernel_rfl
def c_st_turn : ACode := .seq (.seq (.ops [⟨(some 9), .mv (.tmp 0), none, true⟩,
 ⟨(some 10), .nilCheck (.tmp 9), none, true⟩,
 ⟨(some 11), .fieldAddr 1 (.tmp 10), none, true⟩,
 ⟨(some 12), .load none (.tmp 11), none, true⟩,
 ⟨(some 13), .len (.tmp 12), none, true⟩,
 ⟨(some 14), .mv (.av (.val (.int .i64 0))), none, true⟩])
 (rangeCode 0 1 15 14 13 40
 (.seq (.ops [⟨(some 16), .mv (.tmp 14), none, true⟩,
 ⟨(some 4), .mv (.tmp 16), none, true⟩])
 (.seq (.ops [⟨(some 17), .mv (.tmp 0), none, true⟩,
 ⟨(some 18), .nilCheck (.tmp 17), none, true⟩,
 ⟨(some 19), .fieldAddr 1 (.tmp 18), none, true⟩,
 ⟨(some 20), .load none (.tmp 19), none, true⟩,
 ⟨(some 21), .mv (.tmp 4), none, true⟩,
 ⟨(some 22), .indexAddr 1 (.tmp 20) (.tmp 21), none, true⟩,
 ⟨(some 23), .load none (.tmp 22), none, true⟩,
 ⟨(some 24), .bin .geq (.tmp 23) (.av (.val (.int .i64 0))), none, true⟩])
 (.cond (.tmp 24)
 (.opsD [⟨(some 25), .mv (.tmp 0), none, true⟩,
 ⟨(some 26), .nilCheck (.tmp 25), none, true⟩,
 ⟨(some 27), .fieldAddr 1 (.tmp 26), none, true⟩,
 ⟨(some 28), .load none (.tmp 27), none, false⟩,
 ⟨(some 29), .mv (.tmp 4), none, true⟩,
 ⟨(some 30), .mv (.tmp 1), none, true⟩,
 ⟨(some 31), .mv (.tmp 0), none, true⟩,
 ⟨(some 32), .nilCheck (.tmp 31), none, true⟩,
 ⟨(some 33), .fieldAddr 1 (.tmp 32), none, true⟩,
 ⟨(some 34), .load none (.tmp 33), none, true⟩,
 ⟨(some 35), .mv (.tmp 4), none, true⟩,
 ⟨(some 36), .indexAddr 1 (.tmp 34) (.tmp 35), none, true⟩,
 ⟨(some 37), .load none (.tmp 36), none, true⟩,
 ⟨(some 38), .call (.tmp 30) [(.tmp 37)], none, false⟩,
 ⟨(some 39), .indexAddr 1 (.tmp 28) (.tmp 29), none, true⟩,
 ⟨none, .store 1 (.tmp 39) (.tmp 38), none, true⟩])
 (.skip))))))
 (.seq (.ops [⟨(some 5), .mv (.av (.val (.int .i64 0))), none, true⟩])
 (.block 2 (.loop (.seq (.seq (.ops [⟨(some 41), .mv (.tmp 5), none, true⟩,
 ⟨(some 42), .mv (.tmp 0), none, true⟩,
 ⟨(some 43), .nilCheck (.tmp 42), none, true⟩,
 ⟨(some 44), .fieldAddr 0 (.tmp 43), none, true⟩,
 ⟨(some 45), .load none (.tmp 44), none, true⟩,
 ⟨(some 46), .len (.tmp 45), none, true⟩,
 ⟨(some 47), .bin .lss (.tmp 41) (.tmp 46), none, true⟩])
 (.cond (.tmp 47)
 (.skip)
 (.exit 2)))
 (.seq (.block 3 (.seq (.ops [⟨(some 54), .mv (.tmp 5), none, true⟩,
 ⟨(some 55), .bin .add (.tmp 54) (.av (.val (.int .i64 1))), none, true⟩,
 ⟨(some 6), .mv (.tmp 55), none, true⟩])
 (.block 4 (.loop (.seq (.seq (.ops [⟨(some 56), .mv (.tmp 6), none, true⟩,
 ⟨(some 57), .mv (.tmp 5), none, true⟩,
 ⟨(some 58), .mv (.tmp 0), none, true⟩,
 ⟨(some 59), .mv (.tmp 5), none, true⟩,
 ⟨(some 60), .call (.av (.func 26 [])) [(.tmp 58), (.tmp 59)], none, true⟩,
 ⟨(some 61), .bin .add (.tmp 57) (.tmp 60), none, true⟩,
 ⟨(some 62), .bin .leq (.tmp 56) (.tmp 61), none, true⟩])
 (.cond (.tmp 62)
 (.skip)
 (.exit 4)))
 (.seq (.block 5 (.seq (.ops [⟨(some 66), .mv (.tmp 0), none, true⟩,
 ⟨(some 67), .nilCheck (.tmp 66), none, true⟩,
 ⟨(some 68), .fieldAddr 0 (.tmp 67), none, true⟩,
 ⟨(some 69), .load none (.tmp 68), none, true⟩,
 ⟨(some 70), .mv (.tmp 6), none, true⟩,
 ⟨(some 71), .indexAddr 1 (.tmp 69) (.tmp 70), none, true⟩,
 ⟨(some 72), .load none (.tmp 71), none, true⟩,
 ⟨(some 73), .call (.av (.func 30 [])) [(.tmp 72)], none, true⟩,
 ⟨(some 65), .mv (.tmp 73), none, true⟩,
 ⟨(some 74), .extract 0 (.tmp 65), none, true⟩,
 ⟨(some 75), .extract 1 (.tmp 65), none, true⟩,
 ⟨(some 7), .zero [(.val (.int .i64 0)), (.val (.int .i64 0))], none, true⟩,
 ⟨none, .store 2 (.tmp 7) (.tmp 74), none, true⟩,
 ⟨(some 8), .mv (.tmp 75), none, true⟩])
 (.seq (.ops [⟨(some 76), .mv (.tmp 8), none, true⟩,
 ⟨(some 77), .bin .eql (.tmp 76) (.av (.val (.int .i64 0))), none, true⟩,
 ⟨(some 78), .mv (.tmp 77), none, true⟩,
 ⟨(some 79), .fieldAddr 0 (.tmp 7), (some (78, true)), true⟩,
 ⟨(some 80), .load none (.tmp 79), (some (78, true)), true⟩,
 ⟨(some 81), .bin .eql (.tmp 80) (.av (.val (.int .i64 5))), (some (78, true)), true⟩,
 ⟨(some 82), .pick (.tmp 78) (.tmp 81) (.av (.val (.bool false))), none, true⟩])
 (.cond (.tmp 82)
 (.opsD [⟨(some 84), .mv (.tmp 0), none, true⟩,
 ⟨(some 85), .nilCheck (.tmp 84), none, true⟩,
 ⟨(some 86), .fieldAddr 0 (.tmp 85), none, true⟩,
 ⟨(some 87), .load none (.tmp 86), none, false⟩,
 ⟨(some 88), .mv (.tmp 6), none, true⟩,
 ⟨(some 89), .mv (.tmp 1), none, true⟩,
 ⟨(some 90), .fieldAddr 1 (.tmp 7), none, true⟩,
 ⟨(some 91), .load none (.tmp 90), none, true⟩,
 ⟨(some 92), .call (.tmp 89) [(.tmp 91)], none, false⟩,
 ⟨(some 93), .build [(.val (.int .i64 0)), (.val (.int .i64 0))] [(0, 1, (.av (.val (.int .i64 5)))), (1, 1, (.tmp 92))], none, true⟩,
 ⟨(some 94), .call (.av (.func 33 [])) [(.tmp 93)], none, false⟩,
 ⟨(some 83), .mv (.tmp 94), none, true⟩,
 ⟨(some 95), .extract 0 (.tmp 83), none, true⟩,
 ⟨(some 96), .extract 1 (.tmp 83), none, true⟩,
 ⟨(some 97), .indexAddr 1 (.tmp 87) (.tmp 88), none, true⟩,
 ⟨none, .store 1 (.tmp 97) (.tmp 95), none, true⟩])
 (.skip)))))
 (.ops [⟨(some 63), .mv (.tmp 6), none, true⟩,
 ⟨(some 64), .bin .add (.tmp 63) (.av (.val (.int .i64 1))), none, true⟩,
 ⟨(some 6), .mv (.tmp 64), none, true⟩])))))))
 (.ops [⟨(some 48), .mv (.tmp 5), none, true⟩,
 ⟨(some 49), .mv (.tmp 0), none, true⟩,
 ⟨(some 50), .mv (.tmp 5), none, true⟩,
 ⟨(some 51), .call (.av (.func 26 [])) [(.tmp 49), (.tmp 50)], none, true⟩,
 ⟨(some 52), .bin .add (.av (.val (.int .i64 1))) (.tmp 51), none, true⟩,
 ⟨(some 53), .bin .add (.tmp 48) (.tmp 52), none, true⟩,
 ⟨(some 5), .mv (.tmp 53), none, true⟩]))))))
theorem f_st_turn : cFunc Try.prog 45 = some ⟨98, c_st_turn, []⟩ := by kernel_rfl
def c_st_last1 : ACode := .seq (.ops [⟨(some 5), .mv (.av (.val (.int .i64 0))), none, true⟩])
 (.seq (.block 0 (.seq (.ops [⟨(some 7), .mv (.tmp 0), none, true⟩,
 ⟨(some 8), .load none (.tmp 1), none, true⟩,
 ⟨(some 9), .bin .eql (.tmp 7) (.tmp 8), none, true⟩,
 ⟨(some 6), .mv (.tmp 9), none, true⟩])
 (.cond (.tmp 6)
 (.seq (.opsD [⟨(some 10), .load none (.tmp 2), none, true⟩,
 ⟨(some 11), .nilCheck (.tmp 10), none, true⟩,
 ⟨(some 12), .fieldAddr 0 (.tmp 11), none, true⟩,
 ⟨(some 13), .load none (.tmp 12), none, true⟩,
 ⟨(some 14), .len (.tmp 13), none, true⟩,
 ⟨(some 15), .load none (.tmp 3), none, true⟩,
 ⟨(some 16), .bin .sub (.tmp 14) (.tmp 15), none, true⟩,
 ⟨(some 5), .mv (.tmp 16), none, true⟩])
 (.ret))
 (.seq (.ops [⟨(some 18), .mv (.tmp 0), none, true⟩,
 ⟨(some 19), .load none (.tmp 1), none, true⟩,
 ⟨(some 20), .bin .gtr (.tmp 18) (.tmp 19), none, true⟩,
 ⟨(some 17), .mv (.tmp 20), none, true⟩])
 (.cond (.tmp 17)
 (.seq (.ops [⟨(some 21), .mv (.tmp 0), none, true⟩,
 ⟨(some 22), .load none (.tmp 3), none, true⟩,
 ⟨(some 23), .bin .sub (.tmp 21) (.tmp 22), none, true⟩,
 ⟨(some 5), .mv (.tmp 23), none, true⟩])
 (.ret))
 (.skip))))))
 (.seq (.ops [⟨(some 24), .mv (.tmp 0), none, true⟩,
 ⟨(some 5), .mv (.tmp 24), none, true⟩])
 (.ret)))
theorem f_st_last1 : cFunc Try.prog 46 = some ⟨25, c_st_last1, [.tmp 5]⟩ := by kernel_rfl
def c_st_move1 : ACode := .seq (.ops [⟨(some 4), .mv (.av (.val (.int .i64 0))), none, true⟩])
 (.seq (.seq (.ops [⟨(some 5), .mv (.tmp 0), none, true⟩,
 ⟨(some 6), .load none (.tmp 1), none, true⟩,
 ⟨(some 7), .bin .eql (.tmp 5) (.tmp 6), none, true⟩])
 (.cond (.tmp 7)
 (.seq (.ops [⟨(some 8), .load none (.tmp 2), none, true⟩,
 ⟨(some 4), .mv (.tmp 8), none, true⟩])
 (.ret))
 (.skip)))
 (.seq (.ops [⟨(some 9), .mv (.tmp 0), none, true⟩,
 ⟨(some 4), .mv (.tmp 9), none, true⟩])
 (.ret)))
theorem f_st_move1 : cFunc Try.prog 47 = some ⟨10, c_st_move1, [.tmp 4]⟩ := by kernel_rfl
end Go.Proofs.Ytiiefcbiemohhaa

namespace Go.Proofs.Ytiiefcbiemohhaa
open Go Go.RowKit
set_option linter.unusedVariables false
def c_st_rest : ACode := .seq (.ops [⟨(some 4), .mv (.av (.val (.int .i64 0))), none, true⟩])
 (.seq (.ops [⟨(some 6), .mv (.tmp 0), none, true⟩,
 ⟨(some 7), .mv (.tmp 1), none, true⟩,
 ⟨(some 8), .bin .rem (.tmp 6) (.tmp 7), none, true⟩,
 ⟨(some 5), .mv (.tmp 8), none, true⟩])
 (.seq (.seq (.ops [⟨(some 9), .mv (.tmp 5), none, true⟩,
 ⟨(some 10), .bin .lss (.tmp 9) (.av (.val (.int .i64 0))), none, true⟩])
 (.cond (.tmp 10)
 (.ops [⟨(some 11), .mv (.tmp 5), none, true⟩,
 ⟨(some 12), .mv (.tmp 1), none, true⟩,
 ⟨(some 13), .bin .add (.tmp 11) (.tmp 12), none, true⟩,
 ⟨(some 5), .mv (.tmp 13), none, true⟩])
 (.skip)))
 (.seq (.ops [⟨(some 14), .mv (.tmp 5), none, true⟩,
 ⟨(some 4), .mv (.tmp 14), none, true⟩])
 (.ret))))
theorem f_st_rest : cFunc Try.prog 10 = some ⟨15, c_st_rest, [.tmp 4]⟩ := by kernel_rfl
def c_st_odd : ACode := .seq (.ops [⟨(some 2), .mv (.av (.val (.bool false))), none, true⟩])
 (.seq (.ops [⟨(some 5), .mv (.tmp 0), none, true⟩,
 ⟨(some 6), .bin .shr (.tmp 5) (.av (.val (.int .u64 52))), none, true⟩,
 ⟨(some 7), .bin .rem (.tmp 6) (.av (.val (.int .u64 2048))), none, true⟩,
 ⟨(some 8), .mv (.tmp 0), none, true⟩,
 ⟨(some 9), .bin .shl (.tmp 8) (.av (.val (.int .u64 12))), none, true⟩,
 ⟨(some 3), .mv (.tmp 7), none, true⟩,
 ⟨(some 4), .mv (.tmp 9), none, true⟩])
 (.seq (.ops [⟨(some 10), .mv (.tmp 3), none, true⟩,
 ⟨(some 11), .bin .eql (.tmp 10) (.av (.val (.int .u64 2047))), none, true⟩,
 ⟨(some 12), .mv (.tmp 11), none, true⟩,
 ⟨(some 13), .mv (.tmp 4), (some (12, true)), true⟩,
 ⟨(some 14), .bin .neq (.tmp 13) (.av (.val (.int .u64 0))), (some (12, true)), true⟩,
 ⟨(some 15), .pick (.tmp 12) (.tmp 14) (.av (.val (.bool false))), none, true⟩,
 ⟨(some 2), .mv (.tmp 15), none, true⟩])
 (.ret)))
theorem f_st_odd : cFunc Try.prog 20 = some ⟨16, c_st_odd, [.tmp 2]⟩ := by kernel_rfl
end Go.Proofs.Ytiiefcbiemohhaa
