/-
  AM's code of functions, written by am/amprint.lean.
-/
import Derived.KernelRfl
import Derived.Test.YtfmllmcjinjfaaaMrW10
import Derived.Test.YtfmllmcjinjfaaaMrW6
import Derived.Test.YtfmllmcjinjfaaaMrW9
namespace Go.Proofs.Ytfmllmcjinjfaaa
open Go Go.RowKit
set_option linter.unusedVariables false
def c_ow_doms : ACode := .seq (.ops [⟨(some 1), .box 2 (.tmp 0), none, true⟩,
 ⟨(some 2), .mv (.av (.val (.slice none 0 0))), none, true⟩,
 ⟨(some 3), .mv (.av (.val (.int .i64 0))), none, true⟩])
 (.seq (.seq (.ops [⟨(some 5), .load (some 2) (.tmp 1), none, true⟩,
 ⟨(some 6), .call (.av (.func 22 [])) [(.tmp 5)], none, true⟩,
 ⟨(some 4), .mv (.tmp 6), none, true⟩])
 (.seq (.ops [⟨(some 7), .mv (.tmp 4), none, true⟩,
 ⟨(some 8), .bin .neq (.tmp 7) (.av (.val (.int .i64 0))), none, true⟩])
 (.cond (.tmp 8)
 (.seq (.ops [⟨(some 9), .mv (.tmp 4), none, true⟩,
 ⟨(some 2), .mv (.av (.val (.slice none 0 0))), none, true⟩,
 ⟨(some 3), .mv (.tmp 9), none, true⟩])
 (.ret))
 (.skip))))
 (.seq (.ops [⟨(some 10), .load (some 2) (.tmp 1), none, true⟩,
 ⟨(some 11), .call (.av (.func 23 [])) [(.tmp 10)], none, true⟩,
 ⟨(some 12), .nilCheck (.tmp 11), none, true⟩,
 ⟨(some 13), .fieldAddr 5 (.tmp 12), none, true⟩,
 ⟨(some 14), .load none (.tmp 13), none, true⟩,
 ⟨(some 2), .mv (.tmp 14), none, true⟩,
 ⟨(some 3), .mv (.av (.val (.int .i64 0))), none, true⟩])
 (.ret)))
theorem f_ow_doms : cFunc Try.prog 10 = some ⟨15, c_ow_doms, [.tmp 2, .tmp 3]⟩ := by kernel_rfl
def c_ow_d : ACode := .seq (.ops [⟨(some 1), .box 2 (.tmp 0), none, true⟩,
 ⟨(some 2), .mv (.av (.val (.pointer none))), none, true⟩])
 (.seq (.ops [⟨(some 9), .fieldAddr 0 (.tmp 1), none, true⟩,
 ⟨(some 10), .load none (.tmp 9), none, true⟩,
 ⟨(some 11), .len (.tmp 10), none, true⟩,
 ⟨(some 3), .mv (.tmp 11), none, true⟩])
 (.seq (.opsD [⟨(some 12), .load (some 2) (.tmp 1), none, false⟩,
 ⟨(some 13), .lits 1 1 [(.val (.int .i64 0))] [(0, 1, (.av (.val (.int .i64 (-2)))))], none, true⟩,
 ⟨(some 14), .mv (.tmp 3), none, true⟩,
 ⟨(some 15), .call (.av (.func 38 [])) [(.tmp 13), (.tmp 14)], none, false⟩,
 ⟨(some 16), .mv (.tmp 3), none, true⟩,
 ⟨(some 17), .mkSlice 1 24 [(.val (.slice none 0 0))] (.tmp 16) (.tmp 16), none, true⟩,
 ⟨(some 18), .lits 1 1 [(.val (.int .i64 0))] [(0, 1, (.av (.val (.int .i64 (-2)))))], none, true⟩,
 ⟨(some 19), .mv (.tmp 3), none, true⟩,
 ⟨(some 20), .call (.av (.func 38 [])) [(.tmp 18), (.tmp 19)], none, false⟩,
 ⟨(some 21), .build [(.val (.slice none 0 0)), (.val (.slice none 0 0)), (.val (.slice none 0 0)), (.val (.slice none 0 0)), (.val (.slice none 0 0)), (.val (.slice none 0 0))] [(0, 2, (.tmp 12)), (2, 1, (.tmp 15)), (4, 1, (.tmp 17)), (5, 1, (.tmp 20))], none, true⟩,
 ⟨(some 22), .box 6 (.tmp 21), none, true⟩,
 ⟨(some 4), .mv (.tmp 22), none, true⟩])
 (.seq (.seq (.ops [⟨(some 23), .fieldAddr 1 (.tmp 1), none, true⟩,
 ⟨(some 24), .load none (.tmp 23), none, true⟩,
 ⟨(some 25), .len (.tmp 24), none, true⟩,
 ⟨(some 26), .mv (.av (.val (.int .i64 0))), none, true⟩])
 (rangeCode 0 1 27 26 25 48
 (.seq (.ops [⟨(some 28), .indexAddr 1 (.tmp 24) (.tmp 26), none, true⟩,
 ⟨(some 29), .load none (.tmp 28), none, true⟩,
 ⟨(some 6), .mv (.tmp 29), none, true⟩])
 (.seq (.ops [⟨(some 30), .mv (.tmp 4), none, true⟩,
 ⟨(some 31), .mv (.tmp 6), none, true⟩,
 ⟨(some 32), .call (.av (.func 39 [])) [(.tmp 30), (.tmp 31)], none, true⟩])
 (.opsD [⟨(some 33), .mv (.tmp 4), none, true⟩,
 ⟨(some 34), .nilCheck (.tmp 33), none, true⟩,
 ⟨(some 35), .fieldAddr 4 (.tmp 34), none, true⟩,
 ⟨(some 36), .load none (.tmp 35), none, false⟩,
 ⟨(some 37), .mv (.tmp 6), none, true⟩,
 ⟨(some 38), .mv (.tmp 4), none, true⟩,
 ⟨(some 39), .nilCheck (.tmp 38), none, true⟩,
 ⟨(some 40), .fieldAddr 4 (.tmp 39), none, true⟩,
 ⟨(some 41), .load none (.tmp 40), none, true⟩,
 ⟨(some 42), .mv (.tmp 6), none, true⟩,
 ⟨(some 43), .indexAddr 1 (.tmp 41) (.tmp 42), none, true⟩,
 ⟨(some 44), .load none (.tmp 43), none, true⟩,
 ⟨(some 45), .lits 1 1 [(.val (.int .i64 0))] [(0, 1, (.av (.val (.int .i64 (-1)))))], none, true⟩,
 ⟨(some 46), .append 1 8 (.tmp 44) (.tmp 45), none, false⟩,
 ⟨(some 47), .indexAddr 1 (.tmp 36) (.tmp 37), none, true⟩,
 ⟨none, .store 1 (.tmp 47) (.tmp 46), none, true⟩])))))
 (.seq (.ops [⟨(some 49), .mv (.tmp 4), none, true⟩,
 ⟨(some 50), .nilCheck (.tmp 49), none, true⟩,
 ⟨(some 51), .fieldAddr 3 (.tmp 50), none, true⟩,
 ⟨(some 52), .load none (.tmp 51), none, true⟩,
 ⟨(some 53), .call (.av (.func 40 [])) [(.tmp 52)], none, true⟩])
 (.seq (.seq (.ops [⟨(some 54), .mv (.tmp 4), none, true⟩,
 ⟨(some 55), .nilCheck (.tmp 54), none, true⟩,
 ⟨(some 56), .fieldAddr 3 (.tmp 55), none, true⟩,
 ⟨(some 57), .load none (.tmp 56), none, true⟩,
 ⟨(some 58), .len (.tmp 57), none, true⟩,
 ⟨(some 59), .mv (.av (.val (.int .i64 0))), none, true⟩])
 (rangeCode 2 3 60 59 58 71
 (.seq (.ops [⟨(some 61), .mv (.tmp 59), none, true⟩,
 ⟨(some 62), .indexAddr 1 (.tmp 57) (.tmp 59), none, true⟩,
 ⟨(some 63), .load none (.tmp 62), none, true⟩,
 ⟨(some 7), .mv (.tmp 61), none, true⟩,
 ⟨(some 8), .mv (.tmp 63), none, true⟩])
 (.ops [⟨(some 64), .mv (.tmp 4), none, true⟩,
 ⟨(some 65), .nilCheck (.tmp 64), none, true⟩,
 ⟨(some 66), .fieldAddr 2 (.tmp 65), none, true⟩,
 ⟨(some 67), .load none (.tmp 66), none, true⟩,
 ⟨(some 68), .mv (.tmp 8), none, true⟩,
 ⟨(some 69), .mv (.tmp 7), none, true⟩,
 ⟨(some 70), .indexAddr 1 (.tmp 67) (.tmp 68), none, true⟩,
 ⟨none, .store 1 (.tmp 70) (.tmp 69), none, true⟩]))))
 (.seq (.block 4 (.loop (.seq (.seq (.ops [⟨(some 72), .mv (.tmp 4), none, true⟩,
 ⟨(some 73), .call (.av (.func 41 [])) [(.tmp 72)], none, true⟩])
 (.cond (.tmp 73)
 (.skip)
 (.exit 4)))
 (.block 5 (.skip)))))
 (.seq (.ops [⟨(some 74), .mv (.tmp 4), none, true⟩,
 ⟨(some 2), .mv (.tmp 74), none, true⟩])
 (.ret))))))))
theorem f_ow_d : cFunc Try.prog 23 = some ⟨75, c_ow_d, [.tmp 2]⟩ := by kernel_rfl
def c_mk_repeat : ACode := .seq (.ops [⟨(some 4), .mv (.av (.val (.slice none 0 0))), none, true⟩])
 (.seq (.seq (.ops [⟨(some 9), .mv (.tmp 1), none, true⟩,
 ⟨(some 10), .bin .lss (.tmp 9) (.av (.val (.int .i64 0))), none, true⟩])
 (.cond (.tmp 10)
 (.ops [⟨(some 11), .bad, none, true⟩,
 ⟨none, .bad, none, true⟩])
 (.skip)))
 (.seq (.ops [⟨(some 13), .mv (.tmp 0), none, true⟩,
 ⟨(some 14), .len (.tmp 13), none, true⟩,
 ⟨(some 15), .conv .u64 (.tmp 14), none, true⟩,
 ⟨(some 16), .mv (.tmp 1), none, true⟩,
 ⟨(some 17), .conv .u64 (.tmp 16), none, true⟩,
 ⟨(some 18), .call (.av (.func 50 [])) [(.tmp 15), (.tmp 17)], none, true⟩,
 ⟨(some 12), .mv (.tmp 18), none, true⟩,
 ⟨(some 19), .extract 0 (.tmp 12), none, true⟩,
 ⟨(some 20), .extract 1 (.tmp 12), none, true⟩,
 ⟨(some 5), .mv (.tmp 19), none, true⟩,
 ⟨(some 6), .mv (.tmp 20), none, true⟩])
 (.seq (.seq (.ops [⟨(some 21), .mv (.tmp 5), none, true⟩,
 ⟨(some 22), .bin .gtr (.tmp 21) (.av (.val (.int .u64 0))), none, true⟩,
 ⟨(some 23), .mv (.tmp 22), none, true⟩,
 ⟨(some 24), .mv (.tmp 6), (some (23, false)), true⟩,
 ⟨(some 25), .bin .gtr (.tmp 24) (.av (.val (.int .u64 9223372036854775807))), (some (23, false)), true⟩,
 ⟨(some 26), .pick (.tmp 23) (.av (.val (.bool true))) (.tmp 25), none, true⟩])
 (.cond (.tmp 26)
 (.ops [⟨(some 27), .bad, none, true⟩,
 ⟨none, .bad, none, true⟩])
 (.skip)))
 (.seq (.ops [⟨(some 28), .mv (.tmp 6), none, true⟩,
 ⟨(some 29), .conv .i64 (.tmp 28), none, true⟩,
 ⟨(some 30), .mkSlice 1 8 [(.val (.int .i64 0))] (.tmp 29) (.tmp 29), none, true⟩,
 ⟨(some 7), .mv (.tmp 30), none, true⟩])
 (.seq (.ops [⟨(some 31), .mv (.tmp 7), none, true⟩,
 ⟨(some 32), .mv (.tmp 0), none, true⟩,
 ⟨(some 33), .copy 1 (.tmp 31) (.tmp 32), none, true⟩,
 ⟨(some 8), .mv (.tmp 33), none, true⟩])
 (.seq (.block 0 (.loop (.seq (.seq (.ops [⟨(some 34), .mv (.tmp 8), none, true⟩,
 ⟨(some 35), .mv (.tmp 7), none, true⟩,
 ⟨(some 36), .len (.tmp 35), none, true⟩,
 ⟨(some 37), .bin .lss (.tmp 34) (.tmp 36), none, true⟩])
 (.cond (.tmp 37)
 (.skip)
 (.exit 0)))
 (.block 1 (.opsD [⟨(some 38), .mv (.tmp 8), none, true⟩,
 ⟨(some 39), .mv (.tmp 7), none, true⟩,
 ⟨(some 40), .mv (.tmp 8), none, true⟩,
 ⟨(some 41), .slice 1 (.tmp 39) (some (.tmp 40)) none none, none, true⟩,
 ⟨(some 42), .mv (.tmp 7), none, true⟩,
 ⟨(some 43), .mv (.tmp 8), none, true⟩,
 ⟨(some 44), .slice 1 (.tmp 42) none (some (.tmp 43)) none, none, true⟩,
 ⟨(some 45), .copy 1 (.tmp 41) (.tmp 44), none, true⟩,
 ⟨(some 46), .bin .add (.tmp 38) (.tmp 45), none, true⟩,
 ⟨(some 8), .mv (.tmp 46), none, true⟩])))))
 (.seq (.ops [⟨(some 47), .mv (.tmp 7), none, true⟩,
 ⟨(some 4), .mv (.tmp 47), none, true⟩])
 (.ret))))))))
theorem f_mk_repeat : cFunc Try.prog 38 = some ⟨48, c_mk_repeat, [.tmp 4]⟩ := by kernel_rfl
def c_ow_walk : ACode := .seq (.seq (.ops [⟨(some 6), .mv (.tmp 0), none, true⟩,
 ⟨(some 7), .nilCheck (.tmp 6), none, true⟩,
 ⟨(some 8), .fieldAddr 2 (.tmp 7), none, true⟩,
 ⟨(some 9), .load none (.tmp 8), none, true⟩,
 ⟨(some 10), .mv (.tmp 1), none, true⟩,
 ⟨(some 11), .indexAddr 1 (.tmp 9) (.tmp 10), none, true⟩,
 ⟨(some 12), .load none (.tmp 11), none, true⟩,
 ⟨(some 13), .bin .neq (.tmp 12) (.av (.val (.int .i64 (-2)))), none, true⟩])
 (.cond (.tmp 13)
 (.ret)
 (.skip)))
 (.seq (.ops [⟨(some 14), .mv (.tmp 0), none, true⟩,
 ⟨(some 15), .nilCheck (.tmp 14), none, true⟩,
 ⟨(some 16), .fieldAddr 2 (.tmp 15), none, true⟩,
 ⟨(some 17), .load none (.tmp 16), none, true⟩,
 ⟨(some 18), .mv (.tmp 1), none, true⟩,
 ⟨(some 19), .indexAddr 1 (.tmp 17) (.tmp 18), none, true⟩,
 ⟨none, .store 1 (.tmp 19) (.av (.val (.int .i64 (-1)))), none, true⟩])
 (.seq (.seq (.ops [⟨(some 20), .mv (.tmp 0), none, true⟩,
 ⟨(some 21), .nilCheck (.tmp 20), none, true⟩,
 ⟨(some 22), .fieldAddr 0 (.tmp 21), none, true⟩,
 ⟨(some 23), .fieldAddr 0 (.tmp 22), none, true⟩,
 ⟨(some 24), .load none (.tmp 23), none, true⟩,
 ⟨(some 25), .mv (.tmp 1), none, true⟩,
 ⟨(some 26), .indexAddr 1 (.tmp 24) (.tmp 25), none, true⟩,
 ⟨(some 27), .load none (.tmp 26), none, true⟩,
 ⟨(some 28), .len (.tmp 27), none, true⟩,
 ⟨(some 29), .mv (.av (.val (.int .i64 0))), none, true⟩])
 (rangeCode 0 1 30 29 28 52
 (.seq (.ops [⟨(some 31), .indexAddr 1 (.tmp 27) (.tmp 29), none, true⟩,
 ⟨(some 32), .load none (.tmp 31), none, true⟩,
 ⟨(some 5), .mv (.tmp 32), none, true⟩])
 (.seq (.ops [⟨(some 33), .mv (.tmp 0), none, true⟩,
 ⟨(some 34), .mv (.tmp 5), none, true⟩,
 ⟨(some 35), .call (.av (.func 39 [])) [(.tmp 33), (.tmp 34)], none, true⟩])
 (.opsD [⟨(some 36), .mv (.tmp 0), none, true⟩,
 ⟨(some 37), .nilCheck (.tmp 36), none, true⟩,
 ⟨(some 38), .fieldAddr 4 (.tmp 37), none, true⟩,
 ⟨(some 39), .load none (.tmp 38), none, false⟩,
 ⟨(some 40), .mv (.tmp 5), none, true⟩,
 ⟨(some 41), .mv (.tmp 0), none, true⟩,
 ⟨(some 42), .nilCheck (.tmp 41), none, true⟩,
 ⟨(some 43), .fieldAddr 4 (.tmp 42), none, true⟩,
 ⟨(some 44), .load none (.tmp 43), none, true⟩,
 ⟨(some 45), .mv (.tmp 5), none, true⟩,
 ⟨(some 46), .indexAddr 1 (.tmp 44) (.tmp 45), none, true⟩,
 ⟨(some 47), .load none (.tmp 46), none, true⟩,
 ⟨(some 48), .mv (.tmp 1), none, true⟩,
 ⟨(some 49), .lits 1 1 [(.val (.int .i64 0))] [(0, 1, (.tmp 48))], none, true⟩,
 ⟨(some 50), .append 1 8 (.tmp 47) (.tmp 49), none, false⟩,
 ⟨(some 51), .indexAddr 1 (.tmp 39) (.tmp 40), none, true⟩,
 ⟨none, .store 1 (.tmp 51) (.tmp 50), none, true⟩])))))
 (.ops [⟨(some 53), .mv (.tmp 0), none, true⟩,
 ⟨(some 54), .mv (.tmp 0), none, true⟩,
 ⟨(some 55), .nilCheck (.tmp 54), none, true⟩,
 ⟨(some 56), .fieldAddr 3 (.tmp 55), none, true⟩,
 ⟨(some 57), .load none (.tmp 56), none, true⟩,
 ⟨(some 58), .mv (.tmp 1), none, true⟩,
 ⟨(some 59), .lits 1 1 [(.val (.int .i64 0))] [(0, 1, (.tmp 58))], none, true⟩,
 ⟨(some 60), .append 1 8 (.tmp 57) (.tmp 59), none, true⟩,
 ⟨(some 61), .nilCheck (.tmp 53), none, true⟩,
 ⟨(some 62), .fieldAddr 3 (.tmp 61), none, true⟩,
 ⟨none, .store 1 (.tmp 62) (.tmp 60), none, true⟩])))
theorem f_ow_walk : cFunc Try.prog 39 = some ⟨63, c_ow_walk, []⟩ := by kernel_rfl
def c_ow_reverse : ACode := .seq (.ops [⟨(some 4), .mv (.tmp 0), none, true⟩,
 ⟨(some 5), .len (.tmp 4), none, true⟩,
 ⟨(some 6), .bin .sub (.tmp 5) (.av (.val (.int .i64 1))), none, true⟩,
 ⟨(some 2), .mv (.av (.val (.int .i64 0))), none, true⟩,
 ⟨(some 3), .mv (.tmp 6), none, true⟩])
 (.block 0 (.loop (.seq (.seq (.ops [⟨(some 7), .mv (.tmp 2), none, true⟩,
 ⟨(some 8), .mv (.tmp 3), none, true⟩,
 ⟨(some 9), .bin .lss (.tmp 7) (.tmp 8), none, true⟩])
 (.cond (.tmp 9)
 (.skip)
 (.exit 0)))
 (.seq (.block 1 (.opsD [⟨(some 14), .mv (.tmp 0), none, true⟩,
 ⟨(some 15), .mv (.tmp 2), none, true⟩,
 ⟨(some 16), .mv (.tmp 0), none, true⟩,
 ⟨(some 17), .mv (.tmp 3), none, true⟩,
 ⟨(some 18), .mv (.tmp 0), none, true⟩,
 ⟨(some 19), .mv (.tmp 3), none, true⟩,
 ⟨(some 20), .indexAddr 1 (.tmp 18) (.tmp 19), none, true⟩,
 ⟨(some 21), .load none (.tmp 20), none, true⟩,
 ⟨(some 22), .mv (.tmp 0), none, true⟩,
 ⟨(some 23), .mv (.tmp 2), none, true⟩,
 ⟨(some 24), .indexAddr 1 (.tmp 22) (.tmp 23), none, true⟩,
 ⟨(some 25), .load none (.tmp 24), none, true⟩,
 ⟨(some 26), .indexAddr 1 (.tmp 14) (.tmp 15), none, true⟩,
 ⟨none, .store 1 (.tmp 26) (.tmp 21), none, true⟩,
 ⟨(some 27), .indexAddr 1 (.tmp 16) (.tmp 17), none, true⟩,
 ⟨none, .store 1 (.tmp 27) (.tmp 25), none, true⟩]))
 (.ops [⟨(some 10), .mv (.tmp 2), none, true⟩,
 ⟨(some 11), .bin .add (.tmp 10) (.av (.val (.int .i64 1))), none, true⟩,
 ⟨(some 12), .mv (.tmp 3), none, true⟩,
 ⟨(some 13), .bin .sub (.tmp 12) (.av (.val (.int .i64 1))), none, true⟩,
 ⟨(some 2), .mv (.tmp 11), none, true⟩,
 ⟨(some 3), .mv (.tmp 13), none, true⟩])))))
theorem f_ow_reverse : cFunc Try.prog 40 = some ⟨28, c_ow_reverse, []⟩ := by kernel_rfl
def c_ow_round : ACode := .seq (.ops [⟨(some 2), .mv (.av (.val (.bool false))), none, true⟩])
 (.seq (.ops [⟨(some 3), .mv (.av (.val (.bool false))), none, true⟩])
 (.seq (.seq (.ops [⟨(some 9), .mv (.tmp 0), none, true⟩,
 ⟨(some 10), .nilCheck (.tmp 9), none, true⟩,
 ⟨(some 11), .fieldAddr 3 (.tmp 10), none, true⟩,
 ⟨(some 12), .load none (.tmp 11), none, true⟩,
 ⟨(some 13), .len (.tmp 12), none, true⟩,
 ⟨(some 14), .mv (.av (.val (.int .i64 0))), none, true⟩])
 (rangeCode 0 1 15 14 13 72
 (.seq (.ops [⟨(some 16), .indexAddr 1 (.tmp 12) (.tmp 14), none, true⟩,
 ⟨(some 17), .load none (.tmp 16), none, true⟩,
 ⟨(some 5), .mv (.tmp 17), none, true⟩])
 (.seq (.ops [⟨(some 6), .mv (.av (.val (.int .i64 (-2)))), none, true⟩])
 (.seq (.seq (.ops [⟨(some 18), .mv (.tmp 0), none, true⟩,
 ⟨(some 19), .nilCheck (.tmp 18), none, true⟩,
 ⟨(some 20), .fieldAddr 4 (.tmp 19), none, true⟩,
 ⟨(some 21), .load none (.tmp 20), none, true⟩,
 ⟨(some 22), .mv (.tmp 5), none, true⟩,
 ⟨(some 23), .indexAddr 1 (.tmp 21) (.tmp 22), none, true⟩,
 ⟨(some 24), .load none (.tmp 23), none, true⟩,
 ⟨(some 25), .len (.tmp 24), none, true⟩,
 ⟨(some 26), .mv (.av (.val (.int .i64 0))), none, true⟩])
 (rangeCode 2 3 27 26 25 51
 (.seq (.ops [⟨(some 28), .indexAddr 1 (.tmp 24) (.tmp 26), none, true⟩,
 ⟨(some 29), .load none (.tmp 28), none, true⟩,
 ⟨(some 8), .mv (.tmp 29), none, true⟩])
 (.block 4 (.seq (.ops [⟨(some 35), .mv (.tmp 8), none, true⟩,
 ⟨(some 36), .bin .neq (.tmp 35) (.av (.val (.int .i64 (-1)))), none, true⟩,
 ⟨(some 37), .mv (.tmp 36), none, true⟩,
 ⟨(some 38), .mv (.tmp 0), (some (37, true)), true⟩,
 ⟨(some 39), .nilCheck (.tmp 38), (some (37, true)), true⟩,
 ⟨(some 40), .fieldAddr 5 (.tmp 39), (some (37, true)), true⟩,
 ⟨(some 41), .load none (.tmp 40), (some (37, true)), true⟩,
 ⟨(some 42), .mv (.tmp 8), (some (37, true)), true⟩,
 ⟨(some 43), .indexAddr 1 (.tmp 41) (.tmp 42), (some (37, true)), true⟩,
 ⟨(some 44), .load none (.tmp 43), (some (37, true)), true⟩,
 ⟨(some 45), .bin .eql (.tmp 44) (.av (.val (.int .i64 (-2)))), (some (37, true)), true⟩,
 ⟨(some 46), .pick (.tmp 37) (.tmp 45) (.av (.val (.bool false))), none, true⟩,
 ⟨(some 34), .mv (.tmp 46), none, true⟩])
 (.cond (.tmp 34)
 (.skip)
 (.seq (.ops [⟨(some 48), .mv (.tmp 6), none, true⟩,
 ⟨(some 49), .bin .eql (.tmp 48) (.av (.val (.int .i64 (-2)))), none, true⟩,
 ⟨(some 47), .mv (.tmp 49), none, true⟩])
 (.cond (.tmp 47)
 (.ops [⟨(some 50), .mv (.tmp 8), none, true⟩,
 ⟨(some 6), .mv (.tmp 50), none, true⟩])
 (.ops [⟨(some 30), .mv (.tmp 0), none, true⟩,
 ⟨(some 31), .mv (.tmp 6), none, true⟩,
 ⟨(some 32), .mv (.tmp 8), none, true⟩,
 ⟨(some 33), .call (.av (.func 51 [])) [(.tmp 30), (.tmp 31), (.tmp 32)], none, true⟩,
 ⟨(some 6), .mv (.tmp 33), none, true⟩])))))))))
 (.seq (.ops [⟨(some 52), .mv (.tmp 6), none, true⟩,
 ⟨(some 53), .bin .neq (.tmp 52) (.av (.val (.int .i64 (-2)))), none, true⟩,
 ⟨(some 54), .mv (.tmp 53), none, true⟩,
 ⟨(some 55), .mv (.tmp 6), (some (54, true)), true⟩,
 ⟨(some 56), .mv (.tmp 0), (some (54, true)), true⟩,
 ⟨(some 57), .nilCheck (.tmp 56), (some (54, true)), true⟩,
 ⟨(some 58), .fieldAddr 5 (.tmp 57), (some (54, true)), true⟩,
 ⟨(some 59), .load none (.tmp 58), (some (54, true)), true⟩,
 ⟨(some 60), .mv (.tmp 5), (some (54, true)), true⟩,
 ⟨(some 61), .indexAddr 1 (.tmp 59) (.tmp 60), (some (54, true)), true⟩,
 ⟨(some 62), .load none (.tmp 61), (some (54, true)), true⟩,
 ⟨(some 63), .bin .neq (.tmp 55) (.tmp 62), (some (54, true)), true⟩,
 ⟨(some 64), .pick (.tmp 54) (.tmp 63) (.av (.val (.bool false))), none, true⟩])
 (.cond (.tmp 64)
 (.seq (.ops [⟨(some 65), .mv (.tmp 0), none, true⟩,
 ⟨(some 66), .nilCheck (.tmp 65), none, true⟩,
 ⟨(some 67), .fieldAddr 5 (.tmp 66), none, true⟩,
 ⟨(some 68), .load none (.tmp 67), none, true⟩,
 ⟨(some 69), .mv (.tmp 5), none, true⟩,
 ⟨(some 70), .mv (.tmp 6), none, true⟩,
 ⟨(some 71), .indexAddr 1 (.tmp 68) (.tmp 69), none, true⟩,
 ⟨none, .store 1 (.tmp 71) (.tmp 70), none, true⟩])
 (.ops [⟨(some 3), .mv (.av (.val (.bool true))), none, true⟩]))
 (.skip))))))))
 (.seq (.ops [⟨(some 73), .mv (.tmp 3), none, true⟩,
 ⟨(some 2), .mv (.tmp 73), none, true⟩])
 (.ret))))
theorem f_ow_round : cFunc Try.prog 41 = some ⟨74, c_ow_round, [.tmp 2]⟩ := by kernel_rfl
def c_mk_mul : ACode := .seq (.ops [⟨(some 4), .mv (.av (.val (.int .u64 0))), none, true⟩,
 ⟨(some 5), .mv (.av (.val (.int .u64 0))), none, true⟩])
 (.seq (.cond (.av (.val (.bool false)))
 (.seq (.ops [⟨(some 11), .mv (.tmp 0), none, true⟩,
 ⟨(some 12), .conv .u32 (.tmp 11), none, true⟩,
 ⟨(some 13), .mv (.tmp 1), none, true⟩,
 ⟨(some 14), .conv .u32 (.tmp 13), none, true⟩,
 ⟨(some 15), .call (.av (.func 55 [])) [(.tmp 12), (.tmp 14)], none, true⟩,
 ⟨(some 10), .mv (.tmp 15), none, true⟩,
 ⟨(some 16), .extract 0 (.tmp 10), none, true⟩,
 ⟨(some 17), .extract 1 (.tmp 10), none, true⟩,
 ⟨(some 6), .mv (.tmp 16), none, true⟩,
 ⟨(some 7), .mv (.tmp 17), none, true⟩])
 (.seq (.ops [⟨(some 18), .mv (.tmp 6), none, true⟩,
 ⟨(some 19), .conv .u64 (.tmp 18), none, true⟩,
 ⟨(some 20), .mv (.tmp 7), none, true⟩,
 ⟨(some 21), .conv .u64 (.tmp 20), none, true⟩,
 ⟨(some 4), .mv (.tmp 19), none, true⟩,
 ⟨(some 5), .mv (.tmp 21), none, true⟩])
 (.ret)))
 (.skip))
 (.seq (.ops [⟨(some 23), .mv (.tmp 0), none, true⟩,
 ⟨(some 24), .mv (.tmp 1), none, true⟩,
 ⟨(some 25), .call (.av (.func 56 [])) [(.tmp 23), (.tmp 24)], none, true⟩,
 ⟨(some 22), .mv (.tmp 25), none, true⟩,
 ⟨(some 26), .extract 0 (.tmp 22), none, true⟩,
 ⟨(some 27), .extract 1 (.tmp 22), none, true⟩,
 ⟨(some 8), .mv (.tmp 26), none, true⟩,
 ⟨(some 9), .mv (.tmp 27), none, true⟩])
 (.seq (.ops [⟨(some 28), .mv (.tmp 8), none, true⟩,
 ⟨(some 29), .mv (.tmp 9), none, true⟩,
 ⟨(some 4), .mv (.tmp 28), none, true⟩,
 ⟨(some 5), .mv (.tmp 29), none, true⟩])
 (.ret))))
theorem f_mk_mul : cFunc Try.prog 50 = some ⟨30, c_mk_mul, [.tmp 4, .tmp 5]⟩ := by kernel_rfl
def c_ow_meet : ACode := .seq (.ops [⟨(some 6), .mv (.av (.val (.int .i64 0))), none, true⟩])
 (.seq (.block 0 (.loop (.seq (.seq (.ops [⟨(some 7), .mv (.tmp 1), none, true⟩,
 ⟨(some 8), .mv (.tmp 2), none, true⟩,
 ⟨(some 9), .bin .neq (.tmp 7) (.tmp 8), none, true⟩])
 (.cond (.tmp 9)
 (.skip)
 (.exit 0)))
 (.block 1 (.seq (.seq (.ops [⟨(some 10), .mv (.tmp 1), none, true⟩,
 ⟨(some 11), .bin .eql (.tmp 10) (.av (.val (.int .i64 (-1)))), none, true⟩,
 ⟨(some 12), .mv (.tmp 11), none, true⟩,
 ⟨(some 13), .mv (.tmp 2), (some (12, false)), true⟩,
 ⟨(some 14), .bin .eql (.tmp 13) (.av (.val (.int .i64 (-1)))), (some (12, false)), true⟩,
 ⟨(some 15), .pick (.tmp 12) (.av (.val (.bool true))) (.tmp 14), none, true⟩])
 (.cond (.tmp 15)
 (.seq (.ops [⟨(some 6), .mv (.av (.val (.int .i64 (-1)))), none, true⟩])
 (.ret))
 (.skip)))
 (.seq (.opsD [⟨(some 16), .mv (.tmp 0), none, true⟩,
 ⟨(some 17), .nilCheck (.tmp 16), none, true⟩,
 ⟨(some 18), .fieldAddr 2 (.tmp 17), none, true⟩,
 ⟨(some 19), .load none (.tmp 18), none, true⟩,
 ⟨(some 20), .mv (.tmp 1), none, true⟩,
 ⟨(some 21), .indexAddr 1 (.tmp 19) (.tmp 20), none, true⟩,
 ⟨(some 22), .load none (.tmp 21), none, true⟩,
 ⟨(some 23), .mv (.tmp 0), none, true⟩,
 ⟨(some 24), .nilCheck (.tmp 23), none, true⟩,
 ⟨(some 25), .fieldAddr 2 (.tmp 24), none, true⟩,
 ⟨(some 26), .load none (.tmp 25), none, true⟩,
 ⟨(some 27), .mv (.tmp 2), none, true⟩,
 ⟨(some 28), .indexAddr 1 (.tmp 26) (.tmp 27), none, true⟩,
 ⟨(some 29), .load none (.tmp 28), none, true⟩,
 ⟨(some 30), .bin .gtr (.tmp 22) (.tmp 29), none, true⟩])
 (.cond (.tmp 30)
 (.ops [⟨(some 31), .mv (.tmp 0), none, true⟩,
 ⟨(some 32), .nilCheck (.tmp 31), none, true⟩,
 ⟨(some 33), .fieldAddr 5 (.tmp 32), none, true⟩,
 ⟨(some 34), .load none (.tmp 33), none, true⟩,
 ⟨(some 35), .mv (.tmp 1), none, true⟩,
 ⟨(some 36), .indexAddr 1 (.tmp 34) (.tmp 35), none, true⟩,
 ⟨(some 37), .load none (.tmp 36), none, true⟩,
 ⟨(some 1), .mv (.tmp 37), none, true⟩])
 (.ops [⟨(some 38), .mv (.tmp 0), none, true⟩,
 ⟨(some 39), .nilCheck (.tmp 38), none, true⟩,
 ⟨(some 40), .fieldAddr 5 (.tmp 39), none, true⟩,
 ⟨(some 41), .load none (.tmp 40), none, true⟩,
 ⟨(some 42), .mv (.tmp 2), none, true⟩,
 ⟨(some 43), .indexAddr 1 (.tmp 41) (.tmp 42), none, true⟩,
 ⟨(some 44), .load none (.tmp 43), none, true⟩,
 ⟨(some 2), .mv (.tmp 44), none, true⟩]))))))))
 (.seq (.ops [⟨(some 45), .mv (.tmp 1), none, true⟩,
 ⟨(some 6), .mv (.tmp 45), none, true⟩])
 (.ret)))
theorem f_ow_meet : cFunc Try.prog 51 = some ⟨46, c_ow_meet, [.tmp 6]⟩ := by kernel_rfl
def c_mk_mul64 : ACode := .seq (.ops [⟨(some 4), .mv (.av (.val (.int .u64 0))), none, true⟩,
 ⟨(some 5), .mv (.av (.val (.int .u64 0))), none, true⟩])
 (.seq (.ops [⟨(some 14), .mv (.tmp 0), none, true⟩,
 ⟨(some 15), .bin .and (.tmp 14) (.av (.val (.int .u64 4294967295))), none, true⟩,
 ⟨(some 6), .mv (.tmp 15), none, true⟩])
 (.seq (.ops [⟨(some 16), .mv (.tmp 0), none, true⟩,
 ⟨(some 17), .bin .shr (.tmp 16) (.av (.val (.int .u64 32))), none, true⟩,
 ⟨(some 7), .mv (.tmp 17), none, true⟩])
 (.seq (.ops [⟨(some 18), .mv (.tmp 1), none, true⟩,
 ⟨(some 19), .bin .and (.tmp 18) (.av (.val (.int .u64 4294967295))), none, true⟩,
 ⟨(some 8), .mv (.tmp 19), none, true⟩])
 (.seq (.ops [⟨(some 20), .mv (.tmp 1), none, true⟩,
 ⟨(some 21), .bin .shr (.tmp 20) (.av (.val (.int .u64 32))), none, true⟩,
 ⟨(some 9), .mv (.tmp 21), none, true⟩])
 (.seq (.ops [⟨(some 22), .mv (.tmp 6), none, true⟩,
 ⟨(some 23), .mv (.tmp 8), none, true⟩,
 ⟨(some 24), .bin .mul (.tmp 22) (.tmp 23), none, true⟩,
 ⟨(some 10), .mv (.tmp 24), none, true⟩])
 (.seq (.ops [⟨(some 25), .mv (.tmp 7), none, true⟩,
 ⟨(some 26), .mv (.tmp 8), none, true⟩,
 ⟨(some 27), .bin .mul (.tmp 25) (.tmp 26), none, true⟩,
 ⟨(some 28), .mv (.tmp 10), none, true⟩,
 ⟨(some 29), .bin .shr (.tmp 28) (.av (.val (.int .u64 32))), none, true⟩,
 ⟨(some 30), .bin .add (.tmp 27) (.tmp 29), none, true⟩,
 ⟨(some 11), .mv (.tmp 30), none, true⟩])
 (.seq (.ops [⟨(some 31), .mv (.tmp 11), none, true⟩,
 ⟨(some 32), .bin .and (.tmp 31) (.av (.val (.int .u64 4294967295))), none, true⟩,
 ⟨(some 12), .mv (.tmp 32), none, true⟩])
 (.seq (.ops [⟨(some 33), .mv (.tmp 11), none, true⟩,
 ⟨(some 34), .bin .shr (.tmp 33) (.av (.val (.int .u64 32))), none, true⟩,
 ⟨(some 13), .mv (.tmp 34), none, true⟩])
 (.seq (.ops [⟨(some 35), .mv (.tmp 12), none, true⟩,
 ⟨(some 36), .mv (.tmp 6), none, true⟩,
 ⟨(some 37), .mv (.tmp 9), none, true⟩,
 ⟨(some 38), .bin .mul (.tmp 36) (.tmp 37), none, true⟩,
 ⟨(some 39), .bin .add (.tmp 35) (.tmp 38), none, true⟩,
 ⟨(some 12), .mv (.tmp 39), none, true⟩])
 (.seq (.ops [⟨(some 40), .mv (.tmp 7), none, true⟩,
 ⟨(some 41), .mv (.tmp 9), none, true⟩,
 ⟨(some 42), .bin .mul (.tmp 40) (.tmp 41), none, true⟩,
 ⟨(some 43), .mv (.tmp 13), none, true⟩,
 ⟨(some 44), .bin .add (.tmp 42) (.tmp 43), none, true⟩,
 ⟨(some 45), .mv (.tmp 12), none, true⟩,
 ⟨(some 46), .bin .shr (.tmp 45) (.av (.val (.int .u64 32))), none, true⟩,
 ⟨(some 47), .bin .add (.tmp 44) (.tmp 46), none, true⟩,
 ⟨(some 4), .mv (.tmp 47), none, true⟩])
 (.seq (.ops [⟨(some 48), .mv (.tmp 0), none, true⟩,
 ⟨(some 49), .mv (.tmp 1), none, true⟩,
 ⟨(some 50), .bin .mul (.tmp 48) (.tmp 49), none, true⟩,
 ⟨(some 5), .mv (.tmp 50), none, true⟩])
 (.ret))))))))))))
theorem f_mk_mul64 : cFunc Try.prog 56 = some ⟨51, c_mk_mul64, [.tmp 4, .tmp 5]⟩ := by kernel_rfl
end Go.Proofs.Ytfmllmcjinjfaaa

namespace Go.Proofs.Ytfmllmcjinjfaaa
open Go Go.RowKit
set_option linter.unusedVariables false
set_option linter.unusedSimpArgs false
abbrev Dm := Nat → Option (Option Nat)
inductive Up (D : Dm) : Nat → Nat → Prop
  | self {v : Nat} : (D v).isSome → Up D v v
  | step {v a d : Nat} : D v = some (some a) → Up D a d → Up D v d
structure Good (D : Dm) : Prop where
  lt : ∀ v a, D v = some (some a) → a < v ∧ (D a).isSome
variable {D : Dm}
theorem Up.le (g : Good D) {v d : Nat} (h : Up D v d) : d ≤ v := by
  induction h with
  | self _ => exact Nat.le_refl _
  | step e _ ih => have := (g.lt _ _ e).1; omega
theorem Up.some (g : Good D) {v d : Nat} (h : Up D v d) : (D v).isSome ∧ (D d).isSome := by
  induction h with
  | self h => exact ⟨h, h⟩
  | step e _ ih => exact ⟨by rw [e]; rfl, ih.2⟩
theorem Up.trans {v d e : Nat} (h1 : Up D v d) (h2 : Up D d e) : Up D v e := by
  induction h1 with
  | self _ => exact h2
  | step e _ ih => exact .step e (ih h2)
def UpO (D : Dm) : Option Nat → Nat → Prop
  | none, _ => False
  | some a, d => Up D a d
theorem UpO.up {v d : Nat} {o : Option Nat} (hv : D v = Option.some o) (h : Up D v d) : d = v ∨ UpO D o d := by
  cases h with
  | self _ => exact .inl rfl
  | @step _ a _ e h' =>
    rw [hv] at e; injection e with e; subst e
    exact .inr h'
theorem UpO.of {v d : Nat} {o : Option Nat} (hv : D v = Option.some o) (h : UpO D o d) : Up D v d := by
  cases o with
  | none => exact h.elim
  | some a => exact .step hv h
def meetF (D : Dm) : Nat → Option Nat → Option Nat → Option Nat
  | 0, _, _ => none
  | n + 1, a, b => if a = b then a else match a, b with
    | some x, some y => if x > y then meetF D n ((D x).getD none) (some y) else meetF D n (some x) ((D y).getD none)
    | _, _ => none
def szO : Option Nat → Nat
  | none => 0
  | some a => a + 1
theorem meet_iff (g : Good D) : ∀ (n : Nat) (a b : Option Nat), szO a + szO b < n → (∀ x, a = some x → (D x).isSome) → (∀ y, b = some y → (D y).isSome) →
    (∀ d, UpO D (meetF D n a b) d ↔ UpO D a d ∧ UpO D b d) ∧ (∀ x, meetF D n a b = some x → (D x).isSome) ∧ szO (meetF D n a b) ≤ szO a ∧ szO (meetF D n a b) ≤ szO b
  | 0, a, b, h, _, _ => by omega
  | n + 1, a, b, h, ha, hb => by
    unfold meetF
    split
    · rename_i e; subst e
      exact ⟨fun d => by simp, ha, Nat.le_refl _, Nat.le_refl _⟩
    · rename_i hne
      cases a with
      | none => exact ⟨fun d => by simp [UpO], fun x hx => by simp at hx, by simp [szO], by simp [szO]⟩
      | some x =>
        cases b with
        | none => exact ⟨fun d => by simp [UpO], fun x hx => by simp at hx, by simp [szO], by simp [szO]⟩
        | some y =>
          have hx := ha x rfl
          have hy := hb y rfl
          have key : ∀ x y, (D x).isSome → (D y).isSome → x > y → ∀ d, UpO D ((D x).getD none) d ∧ Up D y d ↔ Up D x d ∧ Up D y d := fun x y hx hy hxy d => by
            obtain ⟨o, ho⟩ := Option.isSome_iff_exists.1 hx
            rw [ho]
            show UpO D o d ∧ _ ↔ _
            constructor
            · exact fun ⟨h1, h2⟩ => ⟨UpO.of ho h1, h2⟩
            · rintro ⟨h1, h2⟩
              rcases UpO.up ho h1 with rfl | h1
              · have := h2.le g; omega
              · exact ⟨h1, h2⟩
          have next : ∀ x, (D x).isSome → (∀ z, (D x).getD none = some z → (D z).isSome ∧ z < x) ∧ szO ((D x).getD none) < szO (some x) := fun x hx => by
            obtain ⟨o, ho⟩ := Option.isSome_iff_exists.1 hx
            rw [ho]
            cases o with
            | none => exact ⟨fun z hz => by simp at hz, by simp [szO]⟩
            | some a =>
              have := g.lt _ _ ho
              refine ⟨fun z hz => ?_, ?_⟩
              · simp at hz; subst hz; exact ⟨this.2, this.1⟩
              · simp [szO]; exact this.1
          show (∀ d, UpO D (if x > y then _ else _) d ↔ _) ∧ _
          by_cases hxy : x > y
          · simp only [if_pos hxy]
            obtain ⟨n1, n2⟩ := next x hx
            obtain ⟨q1, q2, q3, q4⟩ := meet_iff g n ((D x).getD none) (some y) (by omega) (fun z hz => (n1 z hz).1) hb
            exact ⟨fun d => by rw [q1]; exact key x y hx hy hxy d, q2, by omega, q4⟩
          · simp only [if_neg hxy]
            obtain ⟨n1, n2⟩ := next y hy
            have hyx : y > x := by
              have : x ≠ y := fun e => hne (by rw [e])
              omega
            obtain ⟨q1, q2, q3, q4⟩ := meet_iff g n (some x) ((D y).getD none) (by omega) ha (fun z hz => (n1 z hz).1)
            refine ⟨fun d => ?_, q2, q3, by omega⟩
            rw [q1]
            have := key y x hy hx hyx d
            constructor
            · exact fun ⟨h1, h2⟩ => ⟨h1, (this.1 ⟨h2, h1⟩).1⟩
            · exact fun ⟨h1, h2⟩ => ⟨h1, (this.2 ⟨h2, h1⟩).1⟩
end Go.Proofs.Ytfmllmcjinjfaaa

namespace Go.Proofs.Ytfmllmcjinjfaaa
open Go Go.RowKit
set_option linter.unusedVariables false
set_option linter.unusedSimpArgs false
section
variable {E : Nat → Nat → Prop} {Rt : Nat → Prop}
inductive Pth (E : Nat → Nat → Prop) (Rt : Nat → Prop) : Nat → Nat → List Nat → Prop
  | root {v : Nat} : Rt v → Pth E Rt v 0 [v]
  | fwd {p v k : Nat} {l : List Nat} : Pth E Rt p k l → E p v → p < v → Pth E Rt v k (v :: l)
  | ret {p v k : Nat} {l : List Nat} : Pth E Rt p k l → E p v → v ≤ p → Pth E Rt v (k + 1) (v :: l)
theorem Pth.mem {v k : Nat} {l : List Nat} (h : Pth E Rt v k l) : v ∈ l := by cases h <;> simp
theorem Pth.edge {p v k : Nat} {l : List Nat} (h : Pth E Rt p k l) (e : E p v) : ∃ k', Pth E Rt v k' (v :: l) ∧ k' ≤ k + 1 := by
  by_cases hp : p < v
  · exact ⟨k, .fwd h e hp, by omega⟩
  · exact ⟨k + 1, .ret h e (by omega), Nat.le_refl _⟩
theorem Pth.pre {v k n : Nat} {l : List Nat} (h : Pth E Rt v k l) (hn : n ∈ l) : ∃ k1 l1, Pth E Rt n k1 l1 ∧ k1 ≤ k ∧ l1.length ≤ l.length ∧ (∀ x ∈ l1, x ∈ l) ∧ (l.Nodup → l1.Nodup) := by
  induction h with
  | @root v hr =>
    rw [List.mem_singleton.1 hn]
    exact ⟨0, [v], .root hr, Nat.le_refl _, Nat.le_refl _, fun _ h => h, fun h => h⟩
  | @fwd p v k l hp e lt ih =>
    rcases List.mem_cons.1 hn with rfl | hn
    · exact ⟨k, _, .fwd hp e lt, Nat.le_refl _, Nat.le_refl _, fun _ h => h, fun h => h⟩
    · obtain ⟨k1, l1, a, b, c, d, f⟩ := ih hn
      exact ⟨k1, l1, a, b, by simp; omega, fun x hx => List.mem_cons_of_mem _ (d x hx), fun h => f (List.nodup_cons.1 h).2⟩
  | @ret p v k l hp e lt ih =>
    rcases List.mem_cons.1 hn with rfl | hn
    · exact ⟨k + 1, _, .ret hp e lt, Nat.le_refl _, Nat.le_refl _, fun _ h => h, fun h => h⟩
    · obtain ⟨k1, l1, a, b, c, d, f⟩ := ih hn
      exact ⟨k1, l1, a, by omega, by simp; omega, fun x hx => List.mem_cons_of_mem _ (d x hx), fun h => f (List.nodup_cons.1 h).2⟩
theorem Pth.cnt {v k : Nat} {l : List Nat} (h : Pth E Rt v k l) : k < l.length := by
  induction h with
  | root _ => simp
  | fwd _ _ _ ih => simp; omega
  | ret _ _ _ ih => simp; omega
theorem Pth.pre_short {v k n : Nat} {l : List Nat} (h : Pth E Rt v k l) (hc : k < l.length) (hd : l.Nodup) (hn : n ∈ l) : ∃ k3 l3, Pth E Rt n k3 l3 ∧ (∀ x ∈ l3, x ∈ l) ∧ l3.Nodup ∧ k3 < l3.length := by
  obtain ⟨k1, l1, a, b, c, d, f⟩ := h.pre hn
  exact ⟨k1, l1, a, d, f hd, a.cnt⟩
theorem Pth.short {v k : Nat} {l : List Nat} (h : Pth E Rt v k l) : ∃ k1 l1, Pth E Rt v k1 l1 ∧ (∀ x ∈ l1, x ∈ l) ∧ l1.Nodup ∧ k1 < l1.length := by
  induction h with
  | @root v hr => exact ⟨0, [v], .root hr, fun _ h => h, by simp, by simp⟩
  | @fwd p v k l hp e lt ih =>
    obtain ⟨k1, l1, a, b, c, d⟩ := ih
    by_cases hv : v ∈ l1
    · obtain ⟨k3, l3, a3, b3, c3, d3⟩ : ∃ k3 l3, Pth E Rt v k3 l3 ∧ (∀ x ∈ l3, x ∈ l1) ∧ l3.Nodup ∧ k3 < l3.length := by
        exact Pth.pre_short a d c hv
      exact ⟨k3, l3, a3, fun x hx => List.mem_cons_of_mem _ (b x (b3 x hx)), c3, d3⟩
    · exact ⟨k1, v :: l1, .fwd a e lt, fun x hx => by
        rcases List.mem_cons.1 hx with rfl | hx
        · simp
        · exact List.mem_cons_of_mem _ (b x hx), List.nodup_cons.2 ⟨hv, c⟩, by simp; omega⟩
  | @ret p v k l hp e lt ih =>
    obtain ⟨k1, l1, a, b, c, d⟩ := ih
    by_cases hv : v ∈ l1
    · obtain ⟨k3, l3, a3, b3, c3, d3⟩ : ∃ k3 l3, Pth E Rt v k3 l3 ∧ (∀ x ∈ l3, x ∈ l1) ∧ l3.Nodup ∧ k3 < l3.length := by
        exact Pth.pre_short a d c hv
      exact ⟨k3, l3, a3, fun x hx => List.mem_cons_of_mem _ (b x (b3 x hx)), c3, d3⟩
    · exact ⟨k1 + 1, v :: l1, .ret a e lt, fun x hx => by
        rcases List.mem_cons.1 hx with rfl | hx
        · simp
        · exact List.mem_cons_of_mem _ (b x hx), List.nodup_cons.2 ⟨hv, c⟩, by simp; omega⟩
end
end Go.Proofs.Ytfmllmcjinjfaaa

namespace Go.Proofs.Ytfmllmcjinjfaaa
open Go Go.RowKit
set_option linter.unusedVariables false
set_option linter.unusedSimpArgs false
inductive Rch (E : Nat → Nat → Prop) (a : Nat) : Nat → Prop
  | self : Rch E a a
  | step {p v : Nat} : Rch E a p → E p v → a < v → Rch E a v
variable {E : Nat → Nat → Prop} {Rt : Nat → Prop} {D : Dm} {lev : Nat → Nat} {N n : Nat} {o : Option Nat}
theorem Rch.trans {a b c : Nat} (h1 : Rch E a b) (h2 : Rch E b c) (hab : a ≤ b) : Rch E a c := by
  induction h2 with
  | self => exact h1
  | step _ e lt ih => exact .step ih e (by omega)
theorem Rch.avoid {n v d k : Nat} {l : List Nat} (h : Rch E n v) (hp : Pth E Rt n k l) (hd : d ∉ l) (hdn : d < n) : ∃ k' l', Pth E Rt v k' l' ∧ d ∉ l' := by
  induction h with
  | self => exact ⟨k, l, hp, hd⟩
  | @step p v _ e lt ih =>
    obtain ⟨k', l', a, b⟩ := ih
    obtain ⟨k2, c, _⟩ := a.edge e
    exact ⟨k2, _, c, fun h => by rcases List.mem_cons.1 h with h | h; omega; exact b h⟩
structure DI (E : Nat → Nat → Prop) (Rt : Nat → Prop) (N : Nat) (D : Dm) (lev : Nat → Nat) : Prop where
  good : Good D
  asg : ∀ v, v < N → 1 ≤ lev v → (D v).isSome
  lm : ∀ v a, D v = some (some a) → lev v ≤ lev a
  rc : ∀ v a, D v = some (some a) → Rch E a v
  sf : ∀ v d, (D v).isSome → (∀ k l, Pth E Rt v k l → d ∈ l) → Up D v d
  lv : ∀ v d, Up D v d → ∀ k l, Pth E Rt v k l → k < lev v → d ∈ l
theorem DI.start : DI E Rt N (fun _ => none) (fun _ => 0) :=
  ⟨⟨fun v a h => (by cases h)⟩, fun v _ h => (by omega), fun v a h => (by cases h), fun v a h => (by cases h), fun v d h => (by cases h), fun v d h k l _ hk => (by omega)⟩
theorem DI.ulev (I : DI E Rt N D lev) {v d : Nat} (h : Up D v d) : lev v ≤ lev d := by
  induction h with
  | self _ => exact Nat.le_refl _
  | step e _ ih => exact Nat.le_trans (I.lm _ _ e) ih
theorem DI.urch (I : DI E Rt N D lev) {v d : Nat} (h : Up D v d) : Rch E d v := by
  induction h with
  | self _ => exact .self
  | @step v a d e h ih => exact ih.trans (I.rc _ _ e) (h.le I.good)
def updD (D : Dm) (n : Nat) (o : Option Nat) : Dm := fun v => if v = n then some o else D v
def updL (lev : Nat → Nat) (n : Nat) : Nat → Nat := fun v => if v = n then lev n + 1 else lev v
theorem updD_n : updD D n o n = some o := if_pos rfl
theorem updD_ne {v : Nat} (h : v ≠ n) : updD D n o v = D v := if_neg h
theorem up_to (g : Good D) (hoa : ∀ a, o = some a → a < n ∧ (D a).isSome) {v d : Nat} (h : Up (updD D n o) v d) : (v ≠ n ∧ Up D v d) ∨ ((v = n ∨ Up D v n) ∧ (d = n ∨ UpO D o d)) := by
  induction h with
  | @self v hs =>
    by_cases e : v = n
    · exact .inr ⟨.inl e, .inl e⟩
    · rw [updD_ne e] at hs; exact .inl ⟨e, .self hs⟩
  | @step v a d e h ih =>
    by_cases ev : v = n
    · subst ev
      rw [updD_n] at e
      injection e with e
      obtain ⟨h1, h2⟩ := hoa a e
      rcases ih with ⟨_, ih⟩ | ⟨ih | ih, _⟩
      · exact .inr ⟨.inl rfl, .inr (by rw [e]; exact ih)⟩
      · omega
      · have := ih.le g; omega
    · rw [updD_ne ev] at e
      rcases ih with ⟨_, ih⟩ | ⟨ih | ih, h2⟩
      · exact .inl ⟨ev, .step e ih⟩
      · subst ih; exact .inr ⟨.inr (.step e (.self (g.lt _ _ e).2)), h2⟩
      · exact .inr ⟨.inr (.step e ih), h2⟩
theorem up_lt (g : Good D) {v d : Nat} (h : Up D v d) (hv : v < n) : Up (updD D n o) v d := by
  induction h with
  | self hs => exact .self (by rw [updD_ne (by omega)]; exact hs)
  | step e _ ih =>
    have := (g.lt _ _ e).1
    exact .step (by rw [updD_ne (by omega)]; exact e) (ih (by omega))
theorem up_new (g : Good D) (hoa : ∀ a, o = some a → a < n ∧ (D a).isSome) {d : Nat} (h : UpO D o d) : Up (updD D n o) n d := by
  cases o with
  | none => exact h.elim
  | some a => exact .step updD_n (up_lt g h (hoa a rfl).1)
theorem up_ge (g : Good D) {v d : Nat} (h : Up D v d) (hd : n ≤ d) : Up (updD D n o) v d := by
  induction h with
  | @self v hs =>
    by_cases e : v = n
    · exact .self (by rw [e, updD_n]; rfl)
    · exact .self (by rw [updD_ne e]; exact hs)
  | @step v a d e h ih =>
    have h1 := (g.lt _ _ e).1
    have h2 := h.le g
    exact .step (by rw [updD_ne (by omega)]; exact e) (ih hd)
theorem up_no (g : Good D) {v d : Nat} (h : Up D v d) (hv : v ≠ n) (hn : ¬ Up D v n) : Up (updD D n o) v d := by
  induction h with
  | self hs => exact .self (by rw [updD_ne hv]; exact hs)
  | @step v a d e h ih =>
    exact .step (by rw [updD_ne hv]; exact e) (ih (fun q => hn (by subst q; exact .step e (.self (g.lt _ _ e).2))) (fun q => hn (.step e q)))
theorem DI.upd (I : DI E Rt N D lev) (hE : ∀ p v, E p v → p < N) (ho : ∀ d, UpO D o d ↔ ¬ Rt n ∧ ∀ p, E p n → (D p).isSome → Up D p d) (hoa : ∀ a, o = some a → a < n ∧ (D a).isSome)
    (hex : ∀ a, o = some a → ∃ p, E p n ∧ (D p).isSome) (hlf : ∀ p, p < n → lev n + 1 ≤ lev p) (hlr : ∀ p, E p n → n ≤ p → lev n ≤ lev p) : DI E Rt N (updD D n o) (updL lev n) := by
  have g := I.good
  -- who keeps n is ahead of it by the new way
  have domn : ∀ d, (∀ k l, Pth E Rt n k l → d ∈ l) → Up (updD D n o) n d := fun d hd => by
    by_cases e : d = n
    · subst e; exact .self (by rw [updD_n]; rfl)
    · refine up_new g hoa ((ho d).2 ⟨fun hr => e (List.mem_singleton.1 (hd 0 [n] (.root hr))), fun p hp hs => I.sf p d hs fun k l hk => ?_⟩)
      obtain ⟨k', h', _⟩ := hk.edge hp
      rcases List.mem_cons.1 (hd _ _ h') with h | h
      · exact absurd h e
      · exact h
  have newn : ∀ d, d = n ∨ UpO D o d → ∀ k l, Pth E Rt n k l → k < lev n + 1 → d ∈ l := fun d hd k l hp hk => by
    rcases hd with rfl | hd
    · exact hp.mem
    · obtain ⟨h1, h2⟩ := (ho d).1 hd
      cases hp with
      | root hr => exact absurd hr h1
      | @fwd p _ _ l hp e lt =>
        have := hlf p lt
        exact List.mem_cons_of_mem _ (I.lv p d (h2 p e (I.asg p (hE _ _ e) (by omega))) _ _ hp (by omega))
      | @ret p _ k l hp e lt =>
        have := hlr p e lt
        exact List.mem_cons_of_mem _ (I.lv p d (h2 p e (I.asg p (hE _ _ e) (by omega))) _ _ hp (by omega))
  refine ⟨⟨fun v a h => ?_⟩, fun v hv h => ?_, fun v a h => ?_, fun v a h => ?_, fun v d hs hd => ?_, fun v d hu k l hp hk => ?_⟩
  · have hsome : ∀ a, (D a).isSome → (updD D n o a).isSome := fun a ha => by
      by_cases e : a = n
      · rw [e, updD_n]; rfl
      · rw [updD_ne e]; exact ha
    by_cases e : v = n
    · subst e
      rw [updD_n] at h; injection h with h
      exact ⟨(hoa a h).1, hsome a (hoa a h).2⟩
    · rw [updD_ne e] at h
      exact ⟨(g.lt _ _ h).1, hsome a (g.lt _ _ h).2⟩
  · by_cases e : v = n
    · rw [e, updD_n]; rfl
    · rw [updD_ne e]; unfold updL at h; rw [if_neg e] at h; exact I.asg v hv h
  · by_cases e : v = n
    · subst e
      rw [updD_n] at h; injection h with h
      have h1 := (hoa a h).1
      unfold updL
      rw [if_pos rfl, if_neg (by omega)]; exact hlf a h1
    · rw [updD_ne e] at h
      have := I.lm _ _ h
      unfold updL
      rw [if_neg e]
      split
      · rename_i e2; subst e2; omega
      · exact this
  · by_cases e : v = n
    · subst e
      rw [updD_n] at h; injection h with h
      obtain ⟨p, hp, hs⟩ := hex a h
      have hu := ((ho a).1 (by rw [h]; exact Up.self (hoa a h).2)).2 p hp hs
      exact .step (I.urch hu) hp (hoa a h).1
    · rw [updD_ne e] at h; exact I.rc _ _ h
  · by_cases e : v = n
    · subst e; exact domn d hd
    · rw [updD_ne e] at hs
      have h1 := I.sf v d hs hd
      by_cases hdn : n ≤ d
      · exact up_ge g h1 hdn
      · by_cases hvn : Up D v n
        · refine (up_ge g hvn (Nat.le_refl _)).trans (domn d fun k l hp => ?_)
          apply Decidable.byContradiction
          intro hno
          obtain ⟨k', l', a, b⟩ := (I.urch hvn).avoid hp hno (by omega)
          exact b (hd _ _ a)
        · exact up_no g h1 e hvn
  · rcases up_to g hoa hu with ⟨e, h1⟩ | ⟨h1, h2⟩
    · unfold updL at hk; rw [if_neg e] at hk
      exact I.lv v d h1 k l hp hk
    · by_cases e : v = n
      · subst e
        unfold updL at hk; rw [if_pos rfl] at hk
        exact newn d h2 k l hp hk
      · rcases h1 with h1 | h1
        · exact absurd h1 e
        · unfold updL at hk; rw [if_neg e] at hk
          have hm := I.lv v n h1 k l hp hk
          obtain ⟨k1, l1, a, b, _, c, _⟩ := hp.pre hm
          have := I.ulev h1
          exact c _ (newn d h2 k1 l1 a (by omega))
end Go.Proofs.Ytfmllmcjinjfaaa

namespace Go.Proofs.Ytfmllmcjinjfaaa
open Go Go.RowKit
set_option linter.unusedVariables false
set_option linter.unusedSimpArgs false
variable {E : Nat → Nat → Prop} {Rt : Nat → Prop} {D : Dm} {lev : Nat → Nat} {N n : Nat} {o : Option Nat}
theorem nodN_le : ∀ {N : Nat} {l : List Nat}, l.Nodup → (∀ x ∈ l, x < N) → l.length ≤ N
  | 0, l, _, h => by
    cases l with
    | nil => simp
    | cons a l => have := h a (by simp); omega
  | N + 1, l, hn, h => by
    by_cases hm : N ∈ l
    · have h1 := nodN_le (N := N) (l := l.erase N) (hn.erase _) (fun x hx => by
        obtain ⟨q1, q2⟩ := hn.mem_erase_iff.1 hx
        have := h x q2; omega)
      rw [List.length_erase_of_mem hm] at h1
      omega
    · have h1 := nodN_le (N := N) (l := l) hn (fun x hx => by
        have := h x hx
        have : x ≠ N := fun e => hm (e ▸ hx)
        omega)
      omega
def Keep1 (E : Nat → Nat → Prop) (Rt : Nat → Prop) (v d : Nat) : Prop := ∀ k l, Pth E Rt v k l → d ∈ l
theorem Pth.inN (hE : ∀ p v, E p v → p < N ∧ v < N) (hR : ∀ v, Rt v → v < N) {v k : Nat} {l : List Nat} (h : Pth E Rt v k l) : ∀ x ∈ l, x < N := by
  induction h with
  | root hr => intro x hx; rw [List.mem_singleton.1 hx]; exact hR _ hr
  | fwd _ e _ ih => intro x hx; rcases List.mem_cons.1 hx with rfl | hx; exact (hE _ _ e).2; exact ih x hx
  | ret _ e _ ih => intro x hx; rcases List.mem_cons.1 hx with rfl | hx; exact (hE _ _ e).2; exact ih x hx
theorem DI.dom (I : DI E Rt N D lev) (hE : ∀ p v, E p v → p < N ∧ v < N) (hR : ∀ v, Rt v → v < N) {v d : Nat} (hv : v < N) (hl : N ≤ lev v) : Up D v d ↔ Keep1 E Rt v d := by
  constructor
  · intro hu k l hp
    obtain ⟨k1, l1, a, b, c, e⟩ := hp.short
    have := nodN_le c (a.inN hE hR)
    exact b d (I.lv v d hu k1 l1 a (by omega))
  · intro h
    exact I.sf v d (I.asg v hv (by omega)) h
theorem upO_le (g : Good D) {o : Option Nat} {d : Nat} (h : UpO D o d) : ∃ a, o = some a ∧ d ≤ a := by
  cases o with
  | none => exact h.elim
  | some a => exact ⟨a, rfl, h.le g⟩
theorem upO_eq (g : Good D) {o o2 : Option Nat} (h1 : ∀ a, o = some a → (D a).isSome) (h2 : ∀ a, o2 = some a → (D a).isSome) (h : ∀ d, UpO D o d ↔ UpO D o2 d) : o = o2 := by
  cases o with
  | none =>
    cases o2 with
    | none => rfl
    | some a => exact ((h a).2 (Up.self (h2 a rfl))).elim
  | some a =>
    have q1 := (h a).1 (Up.self (h1 a rfl))
    obtain ⟨b, e, hb⟩ := upO_le g q1
    subst e
    have q2 := (h b).2 (Up.self (h2 b rfl))
    obtain ⟨c, e, hc⟩ := upO_le g q2
    injection e with e
    have : a = b := by omega
    rw [this]
structure AtO (E : Nat → Nat → Prop) (Rt : Nat → Prop) (D : Dm) (n : Nat) (o : Option Nat) : Prop where
  up : ∀ d, UpO D o d ↔ ¬ Rt n ∧ ∀ p, E p n → (D p).isSome → Up D p d
  lt : ∀ a, o = some a → a < n ∧ (D a).isSome
theorem DI.same (I : DI E Rt N D lev) (hE : ∀ p v, E p v → p < N ∧ v < N) (hR : ∀ v, Rt v → v < N) (hn : n < N) (hl : ∀ v, v < N → N ≤ lev v) (ha : AtO E Rt D n o) : D n = some o := by
  obtain ⟨o2, ho2⟩ := Option.isSome_iff_exists.1 (I.asg n hn (by have := hl n hn; omega))
  rw [ho2]
  congr 1
  symm
  have hs : ∀ p, E p n → (D p).isSome := fun p hp => I.asg p (hE _ _ hp).1 (by have := hl p (hE _ _ hp).1; have := (hE _ _ hp).1; omega)
  have l2 : ∀ a, o2 = some a → a < n ∧ (D a).isSome := fun a e => I.good.lt n a (by rw [ho2, e])
  refine upO_eq I.good (fun a e => (ha.lt a e).2) (fun a e => (l2 a e).2) fun d => ?_
  constructor
  · intro h
    obtain ⟨h1, h2⟩ := (ha.up d).1 h
    have hk : Keep1 E Rt n d := fun k l hp => by
      cases hp with
      | root hr => exact absurd hr h1
      | fwd hp e lt => exact List.mem_cons_of_mem _ ((I.dom hE hR (hE _ _ e).1 (hl _ (hE _ _ e).1)).1 (h2 _ e (hs _ e)) _ _ hp)
      | ret hp e lt => exact List.mem_cons_of_mem _ ((I.dom hE hR (hE _ _ e).1 (hl _ (hE _ _ e).1)).1 (h2 _ e (hs _ e)) _ _ hp)
    rcases UpO.up ho2 ((I.dom hE hR hn (hl n hn)).2 hk) with e | h3
    · obtain ⟨a, e2, h4⟩ := upO_le I.good h
      have := (ha.lt a e2).1; omega
    · exact h3
  · intro h
    have hk := (I.dom hE hR hn (hl n hn)).1 (UpO.of ho2 h)
    have hdn : d < n := by
      obtain ⟨a, e2, h4⟩ := upO_le I.good h
      have := (l2 a e2).1; omega
    refine (ha.up d).2 ⟨fun hr => ?_, fun p hp _ => (I.dom hE hR (hE _ _ hp).1 (hl _ (hE _ _ hp).1)).2 fun k l hq => ?_⟩
    · have := List.mem_singleton.1 (hk 0 [n] (.root hr)); omega
    · obtain ⟨k', h', _⟩ := hq.edge hp
      rcases List.mem_cons.1 (hk _ _ h') with q | q
      · omega
      · exact q
structure FixO (E : Nat → Nat → Prop) (Rt : Nat → Prop) (N : Nat) (D : Dm) : Prop where
  at_ : ∀ n, n < N → ∃ o, D n = some o ∧ AtO E Rt D n o
theorem FixO.keep (F : FixO E Rt N D) (hE : ∀ p v, E p v → p < N ∧ v < N) (hR : ∀ v, Rt v → v < N) {v d : Nat} (h : Up D v d) : Keep1 E Rt v d := by
  intro k l hp
  induction hp generalizing d with
  | @root v hr =>
    obtain ⟨o, h1, h2⟩ := F.at_ v (hR _ hr)
    rcases UpO.up h1 h with rfl | h3
    · simp
    · exact absurd hr ((h2.up d).1 h3).1
  | @fwd p v k l _ e _ ih =>
    obtain ⟨o, h1, h2⟩ := F.at_ v (hE _ _ e).2
    rcases UpO.up h1 h with rfl | h3
    · simp
    · obtain ⟨o', h4, _⟩ := F.at_ p (hE _ _ e).1
      exact List.mem_cons_of_mem _ (ih (((h2.up d).1 h3).2 p e (by rw [h4]; rfl)))
  | @ret p v k l _ e _ ih =>
    obtain ⟨o, h1, h2⟩ := F.at_ v (hE _ _ e).2
    rcases UpO.up h1 h with rfl | h3
    · simp
    · obtain ⟨o', h4, _⟩ := F.at_ p (hE _ _ e).1
      exact List.mem_cons_of_mem _ (ih (((h2.up d).1 h3).2 p e (by rw [h4]; rfl)))
theorem FixO.iff (F : FixO E Rt N D) (I : DI E Rt N D lev) (hE : ∀ p v, E p v → p < N ∧ v < N) (hR : ∀ v, Rt v → v < N) {v d : Nat} (hv : v < N) : Up D v d ↔ Keep1 E Rt v d := by
  refine ⟨F.keep hE hR, fun h => I.sf v d ?_ h⟩
  obtain ⟨o, h1, _⟩ := F.at_ v hv
  rw [h1]; rfl
structure AtL (D : Dm) (N : Nat) (l : List (Option Nat)) (at_ : Option (Option Nat)) : Prop where
  no : at_ = none → ∀ q ∈ l, ∃ p, q = some p ∧ ¬ (D p).isSome
  up : ∀ o, at_ = some o → ∀ d, UpO D o d ↔ none ∉ l ∧ ∀ p, some p ∈ l → (D p).isSome → Up D p d
  sm : ∀ o, at_ = some o → (∀ a, o = some a → (D a).isSome ∧ a < N) ∧ (none ∈ l → o = none) ∧ (∀ p, some p ∈ l → (D p).isSome → szO o ≤ p + 1) ∧ (none ∈ l ∨ ∃ p, some p ∈ l ∧ (D p).isSome)
theorem AtL.start : AtL D N [] none := ⟨fun _ q h => (by cases h), fun o h => (by cases h), fun o h => (by cases h)⟩
theorem AtL.next {l : List (Option Nat)} {at_ : Option (Option Nat)} {fuel : Nat} (g : Good D) (hf : 2 * N + 2 < fuel) (h : AtL D N l at_) {q : Option Nat} (hq : ∀ p, q = some p → (D p).isSome ∧ p < N) :
    AtL D N (l ++ [q]) (match at_ with
      | none => some q
      | some a => some (meetF D fuel a q)) := by
  cases at_ with
  | none =>
    have hno := h.no rfl
    have hnn : none ∉ l := fun hm => by obtain ⟨p, e, _⟩ := hno _ hm; cases e
    have hns : ∀ p, some p ∈ l → ¬ (D p).isSome := fun p hm => by obtain ⟨p', e, h⟩ := hno _ hm; injection e with e; subst e; exact h
    refine ⟨fun e => (by cases e), fun o e d => ?_, fun o e => ?_⟩
    · injection e with e; subst e
      cases q with
      | none => exact ⟨fun h => h.elim, fun h => h.1 (by simp)⟩
      | some p =>
        refine ⟨fun hu => ⟨by simp [hnn], fun p' hm hs => ?_⟩, fun hh => hh.2 p (by simp) (hq p rfl).1⟩
        rcases List.mem_append.1 hm with hm | hm
        · exact absurd hs (hns p' hm)
        · have := List.mem_singleton.1 hm; injection this with this; subst this; exact hu
    · injection e with e; subst e
      refine ⟨fun a e => hq a e, fun hm => ?_, fun p hm hs => ?_, ?_⟩
      · rcases List.mem_append.1 hm with hm | hm
        · exact absurd hm hnn
        · exact (List.mem_singleton.1 hm).symm
      · rcases List.mem_append.1 hm with hm | hm
        · exact absurd hs (hns p hm)
        · rw [← List.mem_singleton.1 hm]; exact Nat.le_refl _
      · cases q with
        | none => exact .inl (by simp)
        | some p => exact .inr ⟨p, by simp, (hq p rfl).1⟩
  | some a =>
    obtain ⟨s1, s2, s3, s4⟩ := h.sm a rfl
    have hsz : szO a + szO q < fuel := by
      have h1 : szO a ≤ N := by
        cases a with
        | none => simp [szO]
        | some x => have := (s1 x rfl).2; simp [szO]; omega
      have h2 : szO q ≤ N := by
        cases q with
        | none => simp [szO]
        | some x => have := (hq x rfl).2; simp [szO]; omega
      omega
    obtain ⟨m1, m2, m3, m4⟩ := meet_iff g fuel a q hsz (fun x e => (s1 x e).1) (fun x e => (hq x e).1)
    refine ⟨fun e => (by cases e), fun o e d => ?_, fun o e => ?_⟩
    · injection e with e; subst e
      rw [m1, h.up a rfl]
      cases q with
      | none => exact ⟨fun h => h.2.elim, fun h => absurd (by simp) h.1⟩
      | some p =>
        constructor
        · rintro ⟨⟨h1, h2⟩, h3⟩
          refine ⟨by simp [h1], fun p' hm hs => ?_⟩
          rcases List.mem_append.1 hm with hm | hm
          · exact h2 p' hm hs
          · have := List.mem_singleton.1 hm; injection this with this; subst this; exact h3
        · rintro ⟨h1, h2⟩
          exact ⟨⟨fun hm => h1 (List.mem_append_left _ hm), fun p' hm hs => h2 p' (List.mem_append_left _ hm) hs⟩, h2 p (by simp) (hq p rfl).1⟩
    · injection e with e; subst e
      refine ⟨fun x e => ⟨m2 x e, ?_⟩, fun hm => ?_, fun p hm hs => ?_, ?_⟩
      · rw [e] at m3
        cases a with
        | none => simp [szO] at m3
        | some y => have := (s1 y rfl).2; simp [szO] at m3; omega
      · have : szO (meetF D fuel a q) = 0 := by
          rcases List.mem_append.1 hm with hm | hm
          · have h0 : szO a = 0 := by rw [s2 hm]; rfl
            omega
          · have h0 : szO q = 0 := by rw [← List.mem_singleton.1 hm]; rfl
            omega
        cases hmm : meetF D fuel a q with
        | none => rfl
        | some x => rw [hmm] at this; simp [szO] at this
      · rcases List.mem_append.1 hm with hm | hm
        · have := s3 p hm hs; omega
        · have h0 : szO q = p + 1 := by rw [← List.mem_singleton.1 hm]; rfl
          omega
      · rcases s4 with h4 | ⟨p, h4, h5⟩
        · exact .inl (List.mem_append_left _ h4)
        · exact .inr ⟨p, List.mem_append_left _ h4, h5⟩
theorem AtL.skip {l : List (Option Nat)} {at_ : Option (Option Nat)} (h : AtL D N l at_) {p : Nat} (hp : ¬ (D p).isSome) : AtL D N (l ++ [some p]) at_ := by
  have hm : ∀ p', some p' ∈ l ++ [some p] → (D p').isSome → some p' ∈ l := fun p' h1 h2 => by
    rcases List.mem_append.1 h1 with h1 | h1
    · exact h1
    · have := List.mem_singleton.1 h1; injection this with this; subst this; exact absurd h2 hp
  have hn : none ∈ l ++ [some p] ↔ none ∈ l := by simp
  refine ⟨fun e q hq => ?_, fun o e d => ?_, fun o e => ?_⟩
  · rcases List.mem_append.1 hq with hq | hq
    · exact h.no e q hq
    · exact ⟨p, List.mem_singleton.1 hq, hp⟩
  · rw [h.up o e, hn]
    exact ⟨fun ⟨h1, h2⟩ => ⟨h1, fun p' a b => h2 p' (hm p' a b) b⟩, fun ⟨h1, h2⟩ => ⟨h1, fun p' a b => h2 p' (List.mem_append_left _ a) b⟩⟩
  · obtain ⟨s1, s2, s3, s4⟩ := h.sm o e
    refine ⟨s1, fun a => s2 (hn.1 a), fun p' a b => s3 p' (hm p' a b) b, ?_⟩
    rcases s4 with h4 | ⟨p', h4, h5⟩
    · exact .inl (hn.2 h4)
    · exact .inr ⟨p', List.mem_append_left _ h4, h5⟩
end Go.Proofs.Ytfmllmcjinjfaaa

namespace Go.Proofs.Ytfmllmcjinjfaaa
open Go Go.RowKit
set_option linter.unusedVariables false
set_option linter.unusedSimpArgs false
variable {tb : List (FuncId × Bool)} {L : Nat → Bool} {H : ZH} {K : ZV → ZH → Prop}
abbrev Fr := Option (Nat × Nat) × List Int
def frZ (x : Fr) : ZV := match x.1 with
  | none => .nil
  | some (j, g) => .own j g 0 x.2.length false
structure TrA (H : ZH) (p : Nat) (zh zr : ZV) (pb ob go fb db : Nat) (ef : Bool) (PL OR : List Int) (FR : List Fr) (DM : List Int) : Prop where
  box : H[p]? = some (.box [zh, zr, .own pb 0 0 PL.length false, .own ob go 0 OR.length false, .own fb 0 0 FR.length ef, .own db 0 0 DM.length false])
  pl : H[pb]? = some (.grow 0 1 (PL.map eI))
  od : H[ob]? = some (.grow go 1 (OR.map eI))
  fr : H[fb]? = some (.grow 0 1 (FR.map fun x => [frZ x]))
  dm : H[db]? = some (.grow 0 1 (DM.map eI))
  fl : ∀ x ∈ FR, match x.1 with
    | none => x.2 = []
    | some (j, g) => H[j]? = some (.grow g 1 (x.2.map eI))
  ne : ob ≠ pb ∧ ob ≠ fb ∧ ob ≠ db ∧ pb ≠ fb ∧ pb ≠ db ∧ fb ≠ db
  fne : ∀ x ∈ FR, ∀ j g, x.1 = some (j, g) → j ≠ ob ∧ j ≠ pb ∧ j ≠ fb ∧ j ≠ db
  fin : ∀ (a b : Nat) x y j g1 g2, FR[a]? = some x → FR[b]? = some y → x.1 = some (j, g1) → y.1 = some (j, g2) → a = b
structure Tur (N : Nat) (PL OR DM : List Int) : Prop where
  orl : OR.length = N
  inj : OR.Nodup
  ent : ∀ (i : Nat) x, OR[i]? = some x → ∃ j : Nat, x = (j : Int) ∧ j < PL.length ∧ j < DM.length ∧ PL[j]? = some (i : Int)
  dom : ∀ (i : Nat) (j : Nat), OR[i]? = some (j : Int) → ∀ y, DM[j]? = some y → y = -2 ∨ y = -1 ∨ ∃ a : Nat, OR[a]? = some y
def idO (OR : List Int) : Option Nat → Int
  | none => -1
  | some a => OR.getD a 0
def dmP (PL OR DM : List Int) : Dm := fun i => match OR[i]? with
  | none => none
  | some x => match DM[x.toNat]? with
    | none => none
    | some y => if y = -2 then none else if y = -1 then some none else some (some (PL.getD y.toNat 0).toNat)
variable {p pb ob go fb db N : Nat} {zh zr : ZV} {ef : Bool} {PL OR DM : List Int} {FR : List Fr}
theorem Tur.at_ (T : Tur N PL OR DM) {a : Nat} (ha : a < N) : ∃ j : Nat, OR[a]? = some (j : Int) ∧ idO OR (some a) = (j : Int) ∧ j < PL.length ∧ j < DM.length ∧ PL[j]? = some (a : Int) := by
  have h : OR[a]? = some (OR[a]'(by rw [T.orl]; exact ha)) := List.getElem?_eq_getElem (by rw [T.orl]; exact ha)
  obtain ⟨j, e, h1, h2, h3⟩ := T.ent a _ h
  refine ⟨j, by rw [h, e], ?_, h1, h2, h3⟩
  show OR.getD a 0 = _
  rw [List.getD_eq_getElem?_getD, h, e]; rfl
theorem Tur.dm (T : Tur N PL OR DM) {a j : Nat} (ha : OR[a]? = some (j : Int)) {o : Option Nat} (hd : dmP PL OR DM a = some o) : DM[j]? = some (idO OR o) ∧ ∀ b, o = some b → b < N := by
  unfold dmP at hd
  rw [ha] at hd
  simp only [Int.toNat_natCast] at hd
  cases hy : DM[j]? with
  | none => rw [hy] at hd; cases hd
  | some y =>
    rw [hy] at hd
    simp only at hd
    split at hd
    · cases hd
    · rename_i h2
      split at hd
      · rename_i h1
        injection hd with hd; subst hd
        exact ⟨by rw [h1]; rfl, fun b e => by cases e⟩
      · rename_i h1
        injection hd with hd; subst hd
        rcases T.dom a j ha y hy with e | e | ⟨b, hb⟩
        · exact absurd e h2
        · exact absurd e h1
        · obtain ⟨j2, e2, q1, q2, q3⟩ := T.ent b y hb
          have hpl : (PL.getD y.toNat 0).toNat = b := by rw [e2, Int.toNat_natCast, List.getD_eq_getElem?_getD, q3]; simp
          rw [hpl]
          refine ⟨?_, fun b2 e => by injection e with e; subst e; have := (List.getElem?_eq_some_iff.1 hb).1; rw [T.orl] at this; exact this⟩
          show _ = some (OR.getD b 0)
          rw [List.getD_eq_getElem?_getD, hb]; rfl
theorem Tur.ne (T : Tur N PL OR DM) {a b : Option Nat} (ha : ∀ x, a = some x → x < N) (hb : ∀ x, b = some x → x < N) : idO OR a = idO OR b ↔ a = b := by
  refine ⟨fun h => ?_, fun h => by rw [h]⟩
  cases a with
  | none =>
    cases b with
    | none => rfl
    | some y => obtain ⟨j, _, e, _⟩ := T.at_ (hb y rfl); rw [e] at h; simp only [idO] at h; omega
  | some x =>
    cases b with
    | none => obtain ⟨j, _, e, _⟩ := T.at_ (ha x rfl); rw [e] at h; simp only [idO] at h; omega
    | some y =>
      obtain ⟨j, _, e, _, _, q⟩ := T.at_ (ha x rfl)
      obtain ⟨j2, _, e2, _, _, q2⟩ := T.at_ (hb y rfl)
      rw [e, e2] at h
      have : j = j2 := by omega
      subst this
      rw [q] at q2; injection q2 with q2
      have : x = y := by omega
      rw [this]
set_option maxHeartbeats 4000000 in
theorem meet_z {a b : Option Nat} {fuel : Nat} (hA : TrA H p zh zr pb ob go fb db ef PL OR FR DM) (T : Tur N PL OR DM) (g : Good (dmP PL OR DM)) (hN : N ≤ 100) (hf : szO a + szO b < fuel) (ha : ∀ x, a = some x → x < N ∧ (dmP PL OR DM x).isSome) (hb : ∀ x, b = some x → x < N ∧ (dmP PL OR DM x).isSome)
    (hK : K (Z64 (idO OR (meetF (dmP PL OR DM) fuel a b))) H) : ZC (constX tb) (cFunc Try.prog) 51 [.ptr p 0, Z64 (idO OR a), Z64 (idO OR b)] L H K := by
  refine ZC.enter Gh.no constX_none f_ow_meet (by simp) ?_
  simp only [c_ow_meet]
  have fin : Fin H (Z64 (idO OR (meetF (dmP PL OR DM) fuel a b))) H K := Fin.keep hK
  obtain ⟨r, hr⟩ : ∃ r, r = meetF (dmP PL OR DM) fuel a b := ⟨_, rfl⟩
  rw [← hr] at fin
  have FI := Lib.hid fin
  have HT := Lib.hid T
  have HG := Lib.hid g
  have hbx := hA.box
  have ep : ∀ j, j < PL.length → elemZ H 1 j (.own pb 0 0 PL.length false) = some (.eptr pb 0 j 0) := fun j hj => by rw [elem_own]; exact ⟨_, hA.pl, by simp, hj, by simp⟩
  have lp : ∀ (j : Nat) x, PL[j]? = some x → ldZ H none (.eptr pb 0 j 0) = some (Z64 x) := fun j x hx => by rw [ld_eptr]; exact ⟨_, _, _, hA.pl, by rw [List.getElem?_map, hx]; rfl, rfl⟩
  have ed : ∀ j, j < DM.length → elemZ H 1 j (.own db 0 0 DM.length false) = some (.eptr db 0 j 0) := fun j hj => by rw [elem_own]; exact ⟨_, hA.dm, by simp, hj, by simp⟩
  have ld : ∀ (j : Nat) x, DM[j]? = some x → ldZ H none (.eptr db 0 j 0) = some (Z64 x) := fun j x hx => by rw [ld_eptr]; exact ⟨_, _, _, hA.dm, by rw [List.getElem?_map, hx]; rfl, rfl⟩
  have HEL := Lib.hid (And.intro ep (And.intro lp (And.intro ed ld)))
  have h0 : ∃ a' b' fuel', Z64 (idO OR a) = Z64 (idO OR a') ∧ Z64 (idO OR b) = Z64 (idO OR b') ∧ H = H ∧ r = meetF (dmP PL OR DM) fuel' a' b' ∧ szO a' + szO b' < fuel' ∧ (∀ x, a' = some x → x < N ∧ (dmP PL OR DM x).isSome) ∧ (∀ x, b' = some x → x < N ∧ (dmP PL OR DM x).isSome) ∧ szO a + szO b = szO a' + szO b' := ⟨a, b, fuel, rfl, rfl, rfl, hr, hf, ha, hb, rfl⟩
  have HH0 := Lib.hid h0
  clear hK fin hA T g hr hf ha hb ep lp ed ld h0
  repeat' (first | (simp only [zmPack, zxPack, ne_eq, zfree, owners, Nat.reduceLT, List.contains_cons, List.contains_nil, Nat.reduceBEq, BEq.rfl, chunk, setAt, List.lookup_cons, List.lookup_nil, reduceCtorEq, Nat.reduceEqDiff, reduceIte, implies_true, forall_const, Nat.reduceMul, Nat.reduceSub, Nat.reduceAdd, Nat.reduceLeDiff, *]) | (simp only [zgoO, zgoG, zO_nil, zthen_normal, zgoC]) | (with_reducible apply And.intro) | (with_reducible intro _))
  refine zW_whileK [(0, .ptr p 0)] (szO a + szO b) (fun n s' h' => ∃ a' b' fuel', s' 1 = Z64 (idO OR a') ∧ s' 2 = Z64 (idO OR b') ∧ h' = H ∧ r = meetF (dmP PL OR DM) fuel' a' b' ∧ szO a' + szO b' < fuel' ∧ (∀ x, a' = some x → x < N ∧ (dmP PL OR DM x).isSome) ∧ (∀ x, b' = some x → x < N ∧ (dmP PL OR DM x).isSome) ∧ n = szO a' + szO b') (by repeat' (first | exact trivial | (refine ⟨rfl, ?_⟩) | (refine ⟨by simp only [zupd_at, Nat.reduceEqDiff, reduceIte]; assumption, ?_⟩))) rfl HH0.out ?_
  clear HH0
  rintro n s' h' ⟨a, b, fuel, f1, f2, rfl, hr, hf, ha, hb, rfl⟩ ⟨f0, -⟩
  obtain ⟨fu, rfl⟩ : ∃ fu, fuel = fu + 1 := ⟨fuel - 1, by omega⟩
  unfold meetF at hr
  by_cases e : a = b
  · subst e
    rw [if_pos rfl] at hr
    subst hr
    have fin := FI.out
    clear HEL HT HG FI hf ha hb hbx
    generalize idO OR r = x at f1 f2 fin
    repeat' (first | (simp only [zmPack, zxPack, ne_eq, zfree, owners, Nat.reduceLT, List.contains_cons, List.contains_nil, Nat.reduceBEq, BEq.rfl, chunk, setAt, List.lookup_cons, List.lookup_nil, reduceCtorEq, Nat.reduceEqDiff, reduceIte, implies_true, forall_const, Nat.reduceMul, Nat.reduceSub, Nat.reduceAdd, Nat.reduceLeDiff, *]) | (simp only [zgoO, zgoG, zO_nil, zthen_normal, zgoC]) | (with_reducible apply And.intro) | (with_reducible intro _))
  · have hne : ¬ idO OR a = idO OR b := fun h => e ((HT.out.ne (fun x hx => (ha x hx).1) (fun x hx => (hb x hx).1)).1 h)
    rw [if_neg e] at hr
    cases a with
    | none =>
      simp only at hr
      subst hr
      have fin := FI.out
      have e1 : idO OR none = -1 := rfl
      rw [e1] at f1 hne fin
      clear HEL HT HG FI hf ha hb hbx e e1
      generalize idO OR b = x at f2 hne
      repeat' (first | (simp only [zmPack, zxPack, ne_eq, zfree, owners, Nat.reduceLT, List.contains_cons, List.contains_nil, Nat.reduceBEq, BEq.rfl, chunk, setAt, List.lookup_cons, List.lookup_nil, reduceCtorEq, Nat.reduceEqDiff, reduceIte, implies_true, forall_const, Nat.reduceMul, Nat.reduceSub, Nat.reduceAdd, Nat.reduceLeDiff, *]) | (simp only [zgoO, zgoG, zO_nil, zthen_normal, zgoC]) | (with_reducible apply And.intro) | (with_reducible intro _))
    | some x =>
      obtain ⟨hxN, hxs⟩ := ha x rfl
      obtain ⟨jx, ox, ix, px, dx, plx⟩ := HT.out.at_ hxN
      rw [ix] at f1 hne
      cases b with
      | none =>
        simp only at hr
        subst hr
        have fin := FI.out
        have e1 : idO OR none = -1 := rfl
        rw [e1] at f2 hne fin
        clear HEL HT HG FI hf ha hb hbx e e1 ox ix px dx plx hxs hxN
        have hn1 : ¬ ((jx : Int) = -1) := by omega
        repeat' (first | (simp only [zmPack, zxPack, ne_eq, zfree, owners, Nat.reduceLT, List.contains_cons, List.contains_nil, Nat.reduceBEq, BEq.rfl, chunk, setAt, List.lookup_cons, List.lookup_nil, reduceCtorEq, Nat.reduceEqDiff, reduceIte, implies_true, forall_const, Nat.reduceMul, Nat.reduceSub, Nat.reduceAdd, Nat.reduceLeDiff, *]) | (simp only [zgoO, zgoG, zO_nil, zthen_normal, zgoC]) | (with_reducible apply And.intro) | (with_reducible intro _))
      | some y =>
        obtain ⟨hyN, hys⟩ := hb y rfl
        obtain ⟨jy, oy, iy, py, dy, ply⟩ := HT.out.at_ hyN
        rw [iy] at f2 hne
        have sx : szO (some x) = x + 1 := rfl
        have sy : szO (some y) = y + 1 := rfl
        simp only at hr
        have hn1 : ¬ ((jx : Int) = -1) := by omega
        have hn2 : ¬ ((jy : Int) = -1) := by omega
        have epx := HEL.out.1 jx px
        have epy := HEL.out.1 jy py
        have lpx := HEL.out.2.1 jx _ plx
        have lpy := HEL.out.2.1 jy _ ply
        by_cases hc : x > y
        · rw [if_pos hc] at hr
          obtain ⟨o, ho⟩ := Option.isSome_iff_exists.1 hxs
          rw [ho] at hr
          simp only [Option.getD_some] at hr
          obtain ⟨hdm, hob⟩ := HT.out.dm ox ho
          have edx := HEL.out.2.2.1 jx dx
          have ldx := HEL.out.2.2.2 jx _ hdm
          have hg : (y : Int) < (x : Int) := by omega
          have hgo : ∀ z, o = some z → z < x ∧ (dmP PL OR DM z).isSome := fun z hz => HG.out.lt x z (by rw [ho, hz])
          have hsz : szO o ≤ x := by cases o with
            | none => exact Nat.zero_le _
            | some z => exact (hgo z rfl).1
          have fin : ∃ a' b' fuel', idO OR o = idO OR a' ∧ (jy : Int) = idO OR b' ∧ r = meetF (dmP PL OR DM) fuel' a' b' ∧ szO a' + szO b' < fuel' ∧ (∀ x, a' = some x → x < N ∧ (dmP PL OR DM x).isSome) ∧ (∀ x, b' = some x → x < N ∧ (dmP PL OR DM x).isSome) ∧ szO o + szO (some y) = szO a' + szO b' := ⟨o, some y, fu, rfl, by rw [iy], hr, by omega, fun z hz => ⟨by have := (hgo z hz).1; omega, (hgo z hz).2⟩, fun z hz => by injection hz with hz; subst hz; exact ⟨hyN, hys⟩, rfl⟩
          have hms : szO o + szO (some y) < szO (some x) + szO (some y) := by omega
          have FF := Lib.hid fin
          have HM := Lib.hid hms
          clear HEL HT HG FI hf ha hb e ox ix px dx plx hxs hxN oy iy py dy ply hys hyN hr ho hdm hob hgo hsz fin hms hc sx sy
          generalize idO OR o = w at ldx FF
          repeat' (first | (simp only [zmPack, zxPack, ne_eq, zfree, owners, Nat.reduceLT, List.contains_cons, List.contains_nil, Nat.reduceBEq, BEq.rfl, chunk, setAt, List.lookup_cons, List.lookup_nil, reduceCtorEq, Nat.reduceEqDiff, reduceIte, implies_true, forall_const, Nat.reduceMul, Nat.reduceSub, Nat.reduceAdd, Nat.reduceLeDiff, epx, epy, lpx, lpy, edx, ldx, *]) | (simp only [zgoO, zgoG, zO_nil, zthen_normal, zgoC]) | (with_reducible apply And.intro) | (with_reducible intro _))
          all_goals (obtain ⟨a', b', u', q1, q2, q3, q4, q5, q6, q7⟩ := FF.out; exact ⟨_, HM.out, a', q1, b', q2, u', q3, q4, q5, q6, q7⟩)
        · rw [if_neg hc] at hr
          obtain ⟨o, ho⟩ := Option.isSome_iff_exists.1 hys
          rw [ho] at hr
          simp only [Option.getD_some] at hr
          obtain ⟨hdm, hob⟩ := HT.out.dm oy ho
          have edy := HEL.out.2.2.1 jy dy
          have ldy := HEL.out.2.2.2 jy _ hdm
          have hg : ¬ (y : Int) < (x : Int) := by omega
          have hgo : ∀ z, o = some z → z < y ∧ (dmP PL OR DM z).isSome := fun z hz => HG.out.lt y z (by rw [ho, hz])
          have hsz : szO o ≤ y := by cases o with
            | none => exact Nat.zero_le _
            | some z => exact (hgo z rfl).1
          have fin : ∃ a' b' fuel', (jx : Int) = idO OR a' ∧ idO OR o = idO OR b' ∧ r = meetF (dmP PL OR DM) fuel' a' b' ∧ szO a' + szO b' < fuel' ∧ (∀ x, a' = some x → x < N ∧ (dmP PL OR DM x).isSome) ∧ (∀ x, b' = some x → x < N ∧ (dmP PL OR DM x).isSome) ∧ szO (some x) + szO o = szO a' + szO b' := ⟨some x, o, fu, by rw [ix], rfl, hr, by omega, fun z hz => by injection hz with hz; subst hz; exact ⟨hxN, hxs⟩, fun z hz => ⟨by have := (hgo z hz).1; omega, (hgo z hz).2⟩, rfl⟩
          have hms : szO (some x) + szO o < szO (some x) + szO (some y) := by omega
          have FF := Lib.hid fin
          have HM := Lib.hid hms
          clear HEL HT HG FI hf ha hb e ox ix px dx plx hxs hxN oy iy py dy ply hys hyN hr ho hdm hob hgo hsz fin hms hc sx sy
          generalize idO OR o = w at ldy FF
          repeat' (first | (simp only [zmPack, zxPack, ne_eq, zfree, owners, Nat.reduceLT, List.contains_cons, List.contains_nil, Nat.reduceBEq, BEq.rfl, chunk, setAt, List.lookup_cons, List.lookup_nil, reduceCtorEq, Nat.reduceEqDiff, reduceIte, implies_true, forall_const, Nat.reduceMul, Nat.reduceSub, Nat.reduceAdd, Nat.reduceLeDiff, epx, epy, lpx, lpy, edy, ldy, *]) | (simp only [zgoO, zgoG, zO_nil, zthen_normal, zgoC]) | (with_reducible apply And.intro) | (with_reducible intro _))
          all_goals (obtain ⟨a', b', u', q1, q2, q3, q4, q5, q6, q7⟩ := FF.out; exact ⟨_, HM.out, a', q1, b', q2, u', q3, q4, q5, q6, q7⟩)
end Go.Proofs.Ytfmllmcjinjfaaa

namespace Go.Proofs.Ytfmllmcjinjfaaa
open Go Go.RowKit
set_option linter.unusedVariables false
set_option linter.unusedSimpArgs false
variable {L : Nat → Bool} {H : ZH} {p pb ob go fb db N r k n i j : Nat} {zh zr : ZV} {ef : Bool} {PL OR DM DM2 : List Int} {FR : List Fr} {Ls : Nat → List (Option Nat)} {D : Dm} {o : Option Nat}
def EL (N : Nat) (Ls : Nat → List (Option Nat)) (p v : Nat) : Prop := v < N ∧ p < N ∧ some p ∈ Ls v
def RL (N : Nat) (Ls : Nat → List (Option Nat)) (v : Nat) : Prop := v < N ∧ none ∈ Ls v
structure FrT (N : Nat) (OR : List Int) (FR : List Fr) (Ls : Nat → List (Option Nat)) : Prop where
  at_ : ∀ (i j : Nat), OR[i]? = some (j : Int) → ∃ x, FR[j]? = some x ∧ x.2 = (Ls i).map (idO OR)
  lt : ∀ i, i < N → ∀ p, some p ∈ Ls i → p < N
  par : ∀ i, i < N → none ∈ Ls i ∨ ∃ p, p < i ∧ some p ∈ Ls i
def levK (r k : Nat) : Nat → Nat := fun v => if v < k then r + 1 else r
theorem TrA.setD (A : TrA H p zh zr pb ob go fb db ef PL OR FR DM) (hl : DM2.length = DM.length) : TrA (H.set db (.grow 0 1 (DM2.map eI))) p zh zr pb ob go fb db ef PL OR FR DM2 := by
  obtain ⟨-, -, m3, -, m5, m6⟩ := A.ne
  have n4 : db ≠ p := fun e => by subst e; have := A.box; rw [A.dm] at this; cases this
  have hdb : db < H.length := (List.getElem?_eq_some_iff.1 A.dm).1
  refine ⟨?_, ?_, ?_, ?_, ?_, ?_, A.ne, A.fne, A.fin⟩
  · rw [List.getElem?_set_ne n4, A.box, hl]
  · rw [List.getElem?_set_ne (Ne.symm m5), A.pl]
  · rw [List.getElem?_set_ne (Ne.symm m3), A.od]
  · rw [List.getElem?_set_ne (Ne.symm m6), A.fr]
  · rw [List.getElem?_set_self hdb]
  · intro x hx
    have h := A.fl x hx
    have h2 := A.fne x hx
    rcases x with ⟨_ | ⟨j, g⟩, l⟩
    · exact h
    · simp only at h ⊢
      rw [List.getElem?_set_ne (Ne.symm (h2 j g rfl).2.2.2), h]
theorem dmP_set (T : Tur N PL OR DM) (hi : OR[i]? = some (j : Int)) (ho : ∀ a, o = some a → a < N) : dmP PL OR (DM.set j (idO OR o)) = updD (dmP PL OR DM) i o := by
  funext v
  obtain ⟨j', e', _, hj, _⟩ := T.ent i _ hi
  have : j = j' := by omega
  subst this
  by_cases hv : v = i
  · subst hv
    rw [updD_n]
    unfold dmP
    rw [hi]
    simp only [Int.toNat_natCast]
    rw [List.getElem?_set_self hj]
    simp only
    cases o with
    | none => rfl
    | some a =>
      obtain ⟨ja, _, ia, _, _, pa⟩ := T.at_ (ho a rfl)
      rw [ia, if_neg (by omega), if_neg (by omega), Int.toNat_natCast, List.getD_eq_getElem?_getD, pa]
      simp
  · rw [updD_ne hv]
    unfold dmP
    cases hx : OR[v]? with
    | none => rfl
    | some x =>
      obtain ⟨j2, e2, _, _, _⟩ := T.ent v x hx
      subst e2
      simp only [Int.toNat_natCast]
      have hne : j ≠ j2 := fun e => by
        subst e
        obtain ⟨j3, e3, _, _, q3⟩ := T.ent i _ hi
        obtain ⟨j4, e4, _, _, q4⟩ := T.ent v _ hx
        have : j3 = j4 := by omega
        subst this
        rw [q3] at q4
        injection q4 with q4
        omega
      rw [List.getElem?_set_ne hne]
theorem Tur.set (T : Tur N PL OR DM) (hi : OR[i]? = some (j : Int)) (ho : ∀ a, o = some a → a < N) : Tur N PL OR (DM.set j (idO OR o)) := by
  refine ⟨T.orl, T.inj, fun i x hx => by rw [List.length_set]; exact T.ent i x hx, fun i2 j2 h2 y hy => ?_⟩
  by_cases e : j = j2
  · subst e
    obtain ⟨j', e', _, hj, _⟩ := T.ent i _ hi
    have : j = j' := by omega
    subst this
    rw [List.getElem?_set_self hj] at hy
    injection hy with hy
    subst hy
    cases o with
    | none => exact .inr (.inl rfl)
    | some a =>
      obtain ⟨ja, oa, ia, _⟩ := T.at_ (ho a rfl)
      exact .inr (.inr ⟨a, by rw [ia]; exact oa⟩)
  · rw [List.getElem?_set_ne e] at hy
    exact T.dom i2 j2 h2 y hy
theorem Tur.said (T : Tur N PL OR DM) (hi : OR[i]? = some (j : Int)) (ho : ∀ a, o = some a → a < N) (hd : DM[j]? = some (idO OR o)) : dmP PL OR DM i = some o := by
  unfold dmP
  rw [hi]
  simp only [Int.toNat_natCast]
  rw [hd]
  simp only
  cases o with
  | none => rfl
  | some a =>
    obtain ⟨ja, _, ia, _, _, pa⟩ := T.at_ (ho a rfl)
    rw [ia, if_neg (by omega), if_neg (by omega), Int.toNat_natCast, List.getD_eq_getElem?_getD, pa]
    simp
theorem Tur.unset (T : Tur N PL OR DM) (hi : OR[i]? = some (j : Int)) : ¬ (dmP PL OR DM i).isSome ↔ DM[j]? = some (-2) := by
  obtain ⟨j', e', _, hj, _⟩ := T.ent i _ hi
  have : j = j' := by omega
  subst this
  unfold dmP
  rw [hi]
  simp only [Int.toNat_natCast]
  rw [List.getElem?_eq_getElem hj]
  simp only
  split
  · rename_i h; simp [h]
  · rename_i h
    split
    · simp [h]
    · simp [h]
def atZ (OR : List Int) : Option (Option Nat) → Int
  | none => -2
  | some o => idO OR o
theorem idO_ne (T : Tur N PL OR DM) (ho : ∀ a, o = some a → a < N) : ¬ idO OR o = -2 := by
  cases o with
  | none => simp [idO]
  | some a =>
    obtain ⟨ja, _, ia, _⟩ := T.at_ (ho a rfl)
    rw [ia]; omega
theorem FrT.met (F : FrT N OR FR Ls) (I : DI (EL N Ls) (RL N Ls) N D (levK r i)) (hi : i < N) {a : Option (Option Nat)} (h : AtL D N (Ls i) a) : ∃ o, a = some o ∧ AtO (EL N Ls) (RL N Ls) D i o ∧ (∀ x, o = some x → ∃ p, EL N Ls p i ∧ (D p).isSome) := by
  have hsm : ∀ p, p < i → (D p).isSome := fun p hp => I.asg p (by omega) (by unfold levK; rw [if_pos hp]; omega)
  cases a with
  | none =>
    exfalso
    rcases F.par i hi with h1 | ⟨p, h1, h2⟩
    · obtain ⟨p, e, _⟩ := h.no rfl _ h1; cases e
    · obtain ⟨p', e, h3⟩ := h.no rfl _ h2
      injection e with e; subst e
      exact h3 (hsm p h1)
  | some o =>
    obtain ⟨s1, s2, s3, s4⟩ := h.sm o rfl
    refine ⟨o, rfl, ⟨fun d => ?_, fun a e => ?_⟩, fun x e => ?_⟩
    · rw [h.up o rfl]
      constructor
      · rintro ⟨h1, h2⟩
        exact ⟨fun q => h1 q.2, fun p hp hs => h2 p hp.2.2 hs⟩
      · rintro ⟨h1, h2⟩
        exact ⟨fun q => h1 ⟨hi, q⟩, fun p hp hs => h2 p ⟨hi, F.lt i hi p hp, hp⟩ hs⟩
    · refine ⟨?_, (s1 a e).1⟩
      rcases F.par i hi with h1 | ⟨p, h1, h2⟩
      · rw [s2 h1] at e; cases e
      · have := s3 p h2 (hsm p h1)
        rw [e] at this
        simp only [szO] at this
        omega
    · rcases s4 with h4 | ⟨p, h4, h5⟩
      · rw [s2 h4] at e; cases e
      · exact ⟨p, ⟨hi, F.lt i hi p h4, h4⟩, h5⟩
theorem DI.step (I : DI (EL N Ls) (RL N Ls) N D (levK r i)) (hi : i < N) (hA : AtO (EL N Ls) (RL N Ls) D i o) (hx : ∀ x, o = some x → ∃ p, EL N Ls p i ∧ (D p).isSome) : DI (EL N Ls) (RL N Ls) N (updD D i o) (levK r (i + 1)) := by
  have h := I.upd (fun p v h => h.2.1) hA.up hA.lt hx (fun p hp => by unfold levK; rw [if_neg (by omega), if_pos hp]; exact Nat.le_refl _) (fun p _ hp => by unfold levK; rw [if_neg (by omega), if_neg (by omega)]; exact Nat.le_refl _)
  have e : updL (levK r i) i = levK r (i + 1) := by
    funext v
    unfold updL levK
    by_cases hv : v = i
    · subst hv; rw [if_pos rfl, if_neg (by omega), if_pos (by omega)]
    · rw [if_neg hv]
      by_cases h2 : v < i
      · rw [if_pos h2, if_pos (by omega)]
      · rw [if_neg h2, if_neg (by omega)]
  rw [e] at h
  exact h
theorem dmP_lt (T : Tur N PL OR DM) {v : Nat} (h : (dmP PL OR DM v).isSome) : v < N := by
  unfold dmP at h
  cases hx : OR[v]? with
  | none => rw [hx] at h; simp at h
  | some x => have := (List.getElem?_eq_some_iff.1 hx).1; rw [T.orl] at this; exact this
theorem DI.turn {E : Nat → Nat → Prop} {Rt : Nat → Prop} (T : Tur N PL OR DM) (I : DI E Rt N (dmP PL OR DM) (levK r N)) : DI E Rt N (dmP PL OR DM) (levK (r + 1) 0) := by
  have e : ∀ v, v < N → levK r N v = levK (r + 1) 0 v := fun v hv => by unfold levK; rw [if_pos hv, if_neg (by omega)]
  refine ⟨I.good, fun v hv h => I.asg v hv (by rw [e v hv]; exact h), fun v a h => ?_, I.rc, I.sf, fun v d h k l hp hk => I.lv v d h k l hp ?_⟩
  · have h1 := I.lm v a h
    have hv := dmP_lt T (v := v) (by rw [h]; rfl)
    have ha := (I.good.lt v a h).1
    rw [e v hv, e a (by omega)] at h1
    exact h1
  · rw [e v (dmP_lt T (h.some I.good).1)]; exact hk
structure RdI (H h' : ZH) (p : Nat) (zh zr : ZV) (pb ob go fb db : Nat) (ef : Bool) (PL OR : List Int) (FR : List Fr) (DM : List Int) (N r : Nat) (Ls : Nat → List (Option Nat)) (k : Nat) (DM2 : List Int) (ch : Bool) : Prop where
  tr : TrA h' p zh zr pb ob go fb db ef PL OR FR DM2
  he : h' = H.set db (.grow 0 1 (DM2.map eI))
  tu : Tur N PL OR DM2
  di : DI (EL N Ls) (RL N Ls) N (dmP PL OR DM2) (levK r k)
  len : DM2.length = DM.length
  nc : ch = false → DM2 = DM ∧ ∀ i, i < k → ∃ o, dmP PL OR DM2 i = some o ∧ AtO (EL N Ls) (RL N Ls) (dmP PL OR DM2) i o
  st : N ≤ r → ch = false
  ot : ∀ t : Nat, (t : Int) ∉ OR → DM2[t]? = DM[t]?
theorem RdI.start (A : TrA H p zh zr pb ob go fb db ef PL OR FR DM) (T : Tur N PL OR DM) (I : DI (EL N Ls) (RL N Ls) N (dmP PL OR DM) (levK r 0)) : RdI H H p zh zr pb ob go fb db ef PL OR FR DM N r Ls 0 DM false := by
  refine ⟨A, ?_, T, I, rfl, fun _ => ⟨rfl, fun i h => by omega⟩, fun _ => rfl, fun _ _ => rfl⟩
  have hdb : db < H.length := (List.getElem?_eq_some_iff.1 A.dm).1
  rw [← (List.getElem?_eq_some_iff.1 A.dm).2, List.set_getElem_self]
variable {h' : ZH} {ch : Bool}
theorem RdI.keep (R : RdI H h' p zh zr pb ob go fb db ef PL OR FR DM N r Ls i DM2 ch) (hi : i < N) (hA : AtO (EL N Ls) (RL N Ls) (dmP PL OR DM2) i o) (hx : ∀ x, o = some x → ∃ p, EL N Ls p i ∧ (dmP PL OR DM2 p).isSome) (hd : dmP PL OR DM2 i = some o) : RdI H h' p zh zr pb ob go fb db ef PL OR FR DM N r Ls (i + 1) DM2 ch := by
  have h := R.di.step hi hA hx
  have e : updD (dmP PL OR DM2) i o = dmP PL OR DM2 := by
    funext v
    by_cases hv : v = i
    · subst hv; rw [updD_n, hd]
    · rw [updD_ne hv]
  rw [e] at h
  refine ⟨R.tr, R.he, R.tu, h, R.len, fun hc => ⟨(R.nc hc).1, fun v hv => ?_⟩, R.st, R.ot⟩
  by_cases hv2 : v = i
  · subst hv2; exact ⟨o, hd, hA⟩
  · exact (R.nc hc).2 v (by omega)
theorem RdI.new (R : RdI H h' p zh zr pb ob go fb db ef PL OR FR DM N r Ls i DM2 ch) (hi : i < N) (ho : OR[i]? = some (j : Int)) (hA : AtO (EL N Ls) (RL N Ls) (dmP PL OR DM2) i o) (hx : ∀ x, o = some x → ∃ p, EL N Ls p i ∧ (dmP PL OR DM2 p).isSome) (hd : dmP PL OR DM2 i ≠ some o) (hL : ∀ v, v < N → ∀ w, some w ∈ Ls v → w < N) : RdI H (h'.set db (.grow 0 1 ((DM2.set j (idO OR o)).map eI))) p zh zr pb ob go fb db ef PL OR FR DM N r Ls (i + 1) (DM2.set j (idO OR o)) true := by
  have hoN : ∀ a, o = some a → a < N := fun a e => by have := (hA.lt a e).1; omega
  refine ⟨R.tr.setD (by simp), by rw [R.he, List.set_set], R.tu.set ho hoN, ?_, by rw [List.length_set, R.len], fun e => (by cases e), fun hr => ?_, fun t ht => by rw [List.getElem?_set_ne (show j ≠ t from fun e => by subst e; exact ht (List.mem_of_getElem? ho)), R.ot t ht]⟩
  · rw [dmP_set R.tu ho hoN]
    exact R.di.step hi hA hx
  · exfalso
    refine hd (R.di.same (fun p v h => ⟨h.2.1, h.1⟩) (fun v h => h.1) hi (fun v hv => ?_) hA)
    unfold levK; split <;> omega
end Go.Proofs.Ytfmllmcjinjfaaa

namespace Go.Proofs.Ytfmllmcjinjfaaa
open Go Go.RowKit
set_option linter.unusedVariables false
set_option linter.unusedSimpArgs false
variable {tb : List (FuncId × Bool)} {L : Nat → Bool} {H : ZH} {K : ZV → ZH → Prop}
variable {p pb ob go fb db N r : Nat} {zh zr : ZV} {ef : Bool} {PL OR DM : List Int} {FR : List Fr} {Ls : Nat → List (Option Nat)}
theorem meet_zi {a b : Option Nat} {x y : Int} (hx : x = idO OR a) (hy : y = idO OR b) (hA : TrA H p zh zr pb ob go fb db ef PL OR FR DM) (T : Tur N PL OR DM) (g : Good (dmP PL OR DM)) (hN : N ≤ 100) (ha : ∀ x, a = some x → (dmP PL OR DM x).isSome ∧ x < N) (hb : ∀ x, b = some x → (dmP PL OR DM x).isSome ∧ x < N)
    (hK : K (Z64 (idO OR (meetF (dmP PL OR DM) 300 a b))) H) : ZC (constX tb) (cFunc Try.prog) 51 [.ptr p 0, Z64 x, Z64 y] L H K := by
  subst hx hy
  have h1 : szO a ≤ N := by
    cases a with
    | none => exact Nat.zero_le _
    | some x => have := (ha x rfl).2; show x + 1 ≤ N; omega
  have h2 : szO b ≤ N := by
    cases b with
    | none => exact Nat.zero_le _
    | some x => have := (hb x rfl).2; show x + 1 ≤ N; omega
  exact meet_z hA T g hN (by omega) (fun x e => ⟨(ha x e).2, (ha x e).1⟩) (fun x e => ⟨(hb x e).2, (hb x e).1⟩) hK
set_option maxHeartbeats 8000000 in
theorem round_z (hA : TrA H p zh zr pb ob go fb db ef PL OR FR DM) (T : Tur N PL OR DM) (F : FrT N OR FR Ls) (I : DI (EL N Ls) (RL N Ls) N (dmP PL OR DM) (levK r 0)) (hN : N ≤ 100) (hl : ∀ x ∈ FR, x.2.length ≤ 1000000) (hL : L db = true)
    (hK : ∀ h' DM2 ch, RdI H h' p zh zr pb ob go fb db ef PL OR FR DM N r Ls N DM2 ch → K (ZBo ch) h') : ZC (constX tb) (cFunc Try.prog) 41 [.ptr p 0] L H K := by
  refine ZC.enter Gh.no constX_none f_ow_round (by simp) ?_
  simp only [c_ow_round]
  have orl := T.orl
  have FI := Lib.hid fun h' DM2 ch R => (Fin.keep (hK h' DM2 ch R) : Fin H (ZBo ch) h' K)
  have HF := Lib.hid F
  have HR := Lib.hid (RdI.start hA T I)
  have HL := Lib.hid hl
  have hbx := hA.box
  have hod := hA.od
  have ho1 : lenZ H (.own ob go 0 OR.length false) = some OR.length := by rw [len_own]; exact ⟨_, _, hod, rfl⟩
  clear hK hA T F I hl
  subst orl
  repeat' (first | (simp only [zmPack, zxPack, ne_eq, zfree, owners, Nat.reduceLT, List.contains_cons, List.contains_nil, Nat.reduceBEq, BEq.rfl, chunk, setAt, List.lookup_cons, List.lookup_nil, reduceCtorEq, Nat.reduceEqDiff, reduceIte, implies_true, forall_const, Nat.reduceMul, Nat.reduceSub, Nat.reduceAdd, Nat.reduceLeDiff, ho1, *]) | (simp only [zgoO, zgoG, zO_nil, zthen_normal, zgoC]) | (with_reducible apply And.intro) | (with_reducible intro _))
  clear hbx ho1 hod
  refine zW_forK [(0, .ptr p 0), (12, .own ob go 0 OR.length false)] OR.length (fun k s' h' => ∃ DM2 ch, s' 3 = ZBo ch ∧ RdI H h' p zh zr pb ob go fb db ef PL OR FR DM OR.length r Ls k DM2 ch) (by omega) ⟨rfl, rfl, rfl, rfl, rfl, rfl⟩ rfl rfl (by repeat' (first | exact trivial | (refine ⟨rfl, ?_⟩) | (refine ⟨by simp only [zupd_at, Nat.reduceEqDiff, reduceIte]; assumption, ?_⟩))) rfl rfl (by decide) ⟨DM, false, rfl, HR.out⟩ ?_ ?_
  · clear HR
    rintro k s' h' hk ⟨DM2, ch, f3, R⟩ hi hlk ⟨f0, f12, -⟩
    obtain ⟨j, oj, ij, pj, dj, plj⟩ := R.tu.at_ hk
    obtain ⟨x, hx, hxl⟩ := HF.out.at_ k j oj
    have hbx := R.tr.box
    have e1 : elemZ h' 1 k (.own ob go 0 OR.length false) = some (.eptr ob go k 0) := by rw [elem_own]; exact ⟨_, R.tr.od, by simp, hk, by simp⟩
    have l1 : ldZ h' none (.eptr ob go k 0) = some (Z64 (j : Int)) := by rw [ld_eptr]; exact ⟨_, _, _, R.tr.od, by rw [List.getElem?_map, oj]; rfl, rfl⟩
    have hjf : j < FR.length := (List.getElem?_eq_some_iff.1 hx).1
    have e2 : elemZ h' 1 j (.own fb 0 0 FR.length ef) = some (.eptr fb 0 j 0) := by rw [elem_own]; exact ⟨_, R.tr.fr, by simp, hjf, by simp⟩
    have l2 : ldZ h' none (.eptr fb 0 j 0) = some (frZ x) := by rw [ld_eptr]; exact ⟨_, _, _, R.tr.fr, by rw [List.getElem?_map, hx]; rfl, rfl⟩
    have hfl := R.tr.fl x (List.mem_of_getElem? hx)
    obtain ⟨jf, hz⟩ : ∃ jf : Nat × Nat, lenZ h' (frZ x) = some x.2.length ∧ (∀ k2, k2 < x.2.length → elemZ h' 1 k2 (frZ x) = some (.eptr jf.1 jf.2 k2 0)) ∧ ∀ (k2 : Nat) y, x.2[k2]? = some y → ldZ h' none (.eptr jf.1 jf.2 k2 0) = some (Z64 y) := by
      rcases x with ⟨_ | ⟨jb, g⟩, l⟩
      · simp only at hfl
        subst hfl
        exact ⟨(0, 0), rfl, fun k2 h => by simp at h, fun k2 y h => by simp at h⟩
      · simp only at hfl
        refine ⟨(jb, g), by unfold frZ; rw [len_own]; exact ⟨_, _, hfl, rfl⟩, fun k2 h => by unfold frZ; rw [elem_own]; exact ⟨_, hfl, by simp, h, by simp⟩, fun k2 y h => by rw [ld_eptr]; exact ⟨_, _, _, hfl, by rw [List.getElem?_map, h]; rfl, rfl⟩⟩
    have ed : ∀ j, j < DM2.length → elemZ h' 1 j (.own db 0 0 DM2.length false) = some (.eptr db 0 j 0) := fun j hj => by rw [elem_own]; exact ⟨_, R.tr.dm, by simp, hj, by simp⟩
    have ld : ∀ (j : Nat) x, DM2[j]? = some x → ldZ h' none (.eptr db 0 j 0) = some (Z64 x) := fun j x hx => by rw [ld_eptr]; exact ⟨_, _, _, R.tr.dm, by rw [List.getElem?_map, hx]; rfl, rfl⟩
    obtain ⟨hz1, hz2, hz3⟩ := hz
    have hxll := HL.out x (List.mem_of_getElem? hx)
    rw [hxl, List.length_map] at hz1 hz2 hxll
    rw [hxl] at hz3
    generalize frZ x = zf at l2 hz1 hz2
    obtain ⟨l, hll⟩ : ∃ l, l = Ls k := ⟨_, rfl⟩
    rw [← hll] at hz1 hz2 hz3 hxll
    have HZ := Lib.hid (And.intro hz2 (And.intro hz3 (And.intro ed ld)))
    have HRR := Lib.hid R
    have HP := Lib.hid (And.intro hk (And.intro oj (And.intro pj (And.intro dj plj))))
    have HLL := Lib.hid hll
    clear R oj ij pj dj plj hx hxl hfl hz2 hz3 ed ld hjf hll hk
    repeat' (first | (simp only [zmPack, zxPack, ne_eq, zfree, owners, Nat.reduceLT, List.contains_cons, List.contains_nil, Nat.reduceBEq, BEq.rfl, chunk, setAt, List.lookup_cons, List.lookup_nil, reduceCtorEq, Nat.reduceEqDiff, reduceIte, implies_true, forall_const, Nat.reduceMul, Nat.reduceSub, Nat.reduceAdd, Nat.reduceLeDiff, e1, l1, e2, l2, hz1, *]) | (simp only [zgoO, zgoG, zO_nil, zthen_normal, zgoC]) | (with_reducible apply And.intro) | (with_reducible intro _))
    clear e1 l1 e2 l2 hz1
    refine zW_forK [(0, .ptr p 0), (24, zf), (5, Z64 (j : Int)), (3, ZBo ch)] l.length (fun k2 s2 h2 => ∃ at_, h2 = h' ∧ s2 6 = Z64 (atZ OR at_) ∧ AtL (dmP PL OR DM2) OR.length (l.take k2) at_) (by omega) ⟨rfl, rfl, rfl, rfl, rfl, rfl⟩ rfl rfl (by repeat' (first | exact trivial | (refine ⟨rfl, ?_⟩) | (refine ⟨by simp only [zupd_at, Nat.reduceEqDiff, reduceIte]; assumption, ?_⟩))) rfl rfl (by decide) ⟨none, rfl, rfl, AtL.start⟩ ?_ ?_
    · rintro k2 s2 h2 hk2 ⟨at_, rfl, f6, A⟩ hi2 hl2 ⟨f0, f24, f5, f3, -⟩
      obtain ⟨q, hq⟩ : ∃ q, l[k2]? = some q := ⟨_, List.getElem?_eq_getElem hk2⟩
      have hnx : l.take (k2 + 1) = l.take k2 ++ [q] := by rw [List.take_add_one, hq]; rfl
      have e1 := HZ.out.1 k2 hk2
      have l1 := HZ.out.2.1 k2 (idO OR q) (by rw [List.getElem?_map, hq]; rfl)
      have hqN : ∀ w, q = some w → w < OR.length := fun w e => HF.out.lt k HP.out.1 w (by rw [← HLL.out, ← e]; exact List.mem_of_getElem? hq)
      have hat : ∀ o, at_ = some o → ∀ a, o = some a → (dmP PL OR DM2 a).isSome ∧ a < OR.length := fun o e => (A.sm o e).1
      rw [hnx]
      have hbx := HRR.out.tr.box
      have HA := Lib.hid A
      have HQ := Lib.hid hqN
      have HT := Lib.hid hat
      clear A hqN hat hnx hq
      by_cases hsk : ∃ w, q = some w ∧ ¬ (dmP PL OR DM2 w).isSome
      · obtain ⟨w, rfl, hw⟩ := hsk
        obtain ⟨jq, oq, iq, pq, dq, plq⟩ := HRR.out.tu.at_ (HQ.out w rfl)
        have ld := HZ.out.2.2.2 jq _ ((HRR.out.tu.unset oq).1 hw)
        have ed := HZ.out.2.2.1 jq dq
        rw [iq] at l1
        have hn1 : ¬ ((jq : Int) = -1) := by omega
        have fin : ∃ a2, atZ OR at_ = atZ OR a2 ∧ AtL (dmP PL OR DM2) OR.length (l.take k2 ++ [some w]) a2 := ⟨_, rfl, HA.out.skip hw⟩
        have FF := Lib.hid fin
        clear fin hw oq iq pq dq plq HA HQ HT HZ HRR HF HL HP HLL FI
        generalize atZ OR at_ = v at f6 FF
        repeat' (first | (simp only [zmPack, zxPack, ne_eq, zfree, owners, Nat.reduceLT, List.contains_cons, List.contains_nil, Nat.reduceBEq, BEq.rfl, chunk, setAt, List.lookup_cons, List.lookup_nil, reduceCtorEq, Nat.reduceEqDiff, reduceIte, implies_true, forall_const, Nat.reduceMul, Nat.reduceSub, Nat.reduceAdd, Nat.reduceLeDiff, e1, l1, ed, ld, *]) | (simp only [zgoO, zgoG, zO_nil, zthen_normal, zgoC]) | (with_reducible apply And.intro) | (with_reducible intro _))
        all_goals exact FF.out
      · have hqs : ∀ w, q = some w → (dmP PL OR DM2 w).isSome ∧ w < OR.length := fun w e => ⟨Classical.byContradiction fun h => hsk ⟨w, e, h⟩, HQ.out w e⟩
        have hN2 : 2 * OR.length + 2 < 300 := by omega
        have nx := AtL.next (fuel := 300) HRR.out.di.good hN2 HA.out hqs
        have hqv : (q = none ∧ idO OR q = -1) ∨ ∃ jq y : _, idO OR q = ((jq : Nat) : Int) ∧ jq < DM2.length ∧ DM2[jq]? = some (y : Int) ∧ ¬ y = -2 := by
          cases q with
          | none => exact .inl ⟨rfl, rfl⟩
          | some w =>
            obtain ⟨jq, oq, iq, pq, dq, plq⟩ := HRR.out.tu.at_ (HQ.out w rfl)
            refine .inr ⟨jq, DM2[jq], iq, dq, List.getElem?_eq_getElem dq, fun h => ?_⟩
            exact (HRR.out.tu.unset oq).2 (by rw [List.getElem?_eq_getElem dq, h]) (hqs w rfl).1
        obtain ⟨y, hy⟩ : ∃ y, y = idO OR q := ⟨_, rfl⟩
        have HY := Lib.hid hy
        have HQS := Lib.hid hqs
        rw [← hy] at l1 hqv
        cases at_ with
        | none =>
          have fin : ∃ a2, y = atZ OR a2 ∧ AtL (dmP PL OR DM2) OR.length (l.take k2 ++ [q]) a2 := ⟨some q, hy, nx⟩
          have FF := Lib.hid fin
          have e0 : atZ OR none = -2 := rfl
          rw [e0] at f6
          clear fin nx hy HY hqs HQS hsk e0
          rcases hqv with ⟨-, rfl⟩ | ⟨jq, y0, rfl, hd, hy0, hn⟩
          · clear HA HQ HT HZ HRR HF HL HP HLL FI
            repeat' (first | (simp only [zmPack, zxPack, ne_eq, zfree, owners, Nat.reduceLT, List.contains_cons, List.contains_nil, Nat.reduceBEq, BEq.rfl, chunk, setAt, List.lookup_cons, List.lookup_nil, reduceCtorEq, Nat.reduceEqDiff, reduceIte, implies_true, forall_const, Nat.reduceMul, Nat.reduceSub, Nat.reduceAdd, Nat.reduceLeDiff, e1, l1, *]) | (simp only [zgoO, zgoG, zO_nil, zthen_normal, zgoC]) | (with_reducible apply And.intro) | (with_reducible intro _))
            all_goals exact FF.out
          · have ld := HZ.out.2.2.2 jq _ hy0
            have ed := HZ.out.2.2.1 jq hd
            have hn1 : ¬ ((jq : Int) = -1) := by omega
            clear HA HQ HT HZ HRR HF HL HP HLL FI hy0 hd
            repeat' (first | (simp only [zmPack, zxPack, ne_eq, zfree, owners, Nat.reduceLT, List.contains_cons, List.contains_nil, Nat.reduceBEq, BEq.rfl, chunk, setAt, List.lookup_cons, List.lookup_nil, reduceCtorEq, Nat.reduceEqDiff, reduceIte, implies_true, forall_const, Nat.reduceMul, Nat.reduceSub, Nat.reduceAdd, Nat.reduceLeDiff, e1, l1, ed, ld, *]) | (simp only [zgoO, zgoG, zO_nil, zthen_normal, zgoC]) | (with_reducible apply And.intro) | (with_reducible intro _))
            all_goals exact FF.out
        | some o =>
          have fin : ∃ a2, idO OR (meetF (dmP PL OR DM2) 300 o q) = atZ OR a2 ∧ AtL (dmP PL OR DM2) OR.length (l.take k2 ++ [q]) a2 := ⟨_, rfl, nx⟩
          have FF := Lib.hid fin
          have e0 : atZ OR (some o) = idO OR o := rfl
          rw [e0] at f6
          have hno := idO_ne HRR.out.tu (fun a e => (HT.out o rfl a e).2)
          obtain ⟨x, hx⟩ : ∃ x, x = idO OR o := ⟨_, rfl⟩
          have HX := Lib.hid hx
          rw [← hx] at f6 hno
          clear fin nx hy hqs hsk e0 hx
          obtain ⟨v, hv⟩ : ∃ v, v = idO OR (meetF (dmP PL OR DM2) 300 o q) := ⟨_, rfl⟩
          have HV := Lib.hid hv
          rw [← hv] at FF
          clear hv
          rcases hqv with ⟨-, rfl⟩ | ⟨jq, y0, rfl, hd, hy0, hn⟩
          · repeat' (first | (simp only [zmPack, zxPack, ne_eq, zfree, owners, Nat.reduceLT, List.contains_cons, List.contains_nil, Nat.reduceBEq, BEq.rfl, chunk, setAt, List.lookup_cons, List.lookup_nil, reduceCtorEq, Nat.reduceEqDiff, reduceIte, implies_true, forall_const, Nat.reduceMul, Nat.reduceSub, Nat.reduceAdd, Nat.reduceLeDiff, e1, l1, *]) | (simp only [zgoO, zgoG, zO_nil, zthen_normal, zgoC]) | (with_reducible apply And.intro) | (with_reducible intro _))
            refine meet_zi (a := o) (b := q) HX.out HY.out HRR.out.tr HRR.out.tu HRR.out.di.good hN (HT.out o rfl) HQS.out ?_
            rw [← HV.out]
            clear HA HQ HT HZ HRR HF HL HP HLL FI HX HY HQS HV
            repeat' (first | (simp only [zmPack, zxPack, ne_eq, zfree, owners, Nat.reduceLT, List.contains_cons, List.contains_nil, Nat.reduceBEq, BEq.rfl, chunk, setAt, List.lookup_cons, List.lookup_nil, reduceCtorEq, Nat.reduceEqDiff, reduceIte, implies_true, forall_const, Nat.reduceMul, Nat.reduceSub, Nat.reduceAdd, Nat.reduceLeDiff, *]) | (simp only [zgoO, zgoG, zO_nil, zthen_normal, zgoC]) | (with_reducible apply And.intro) | (with_reducible intro _))
            all_goals exact FF.out
          · have ld := HZ.out.2.2.2 jq _ hy0
            have ed := HZ.out.2.2.1 jq hd
            have hn1 : ¬ ((jq : Int) = -1) := by omega
            clear hy0 hd
            repeat' (first | (simp only [zmPack, zxPack, ne_eq, zfree, owners, Nat.reduceLT, List.contains_cons, List.contains_nil, Nat.reduceBEq, BEq.rfl, chunk, setAt, List.lookup_cons, List.lookup_nil, reduceCtorEq, Nat.reduceEqDiff, reduceIte, implies_true, forall_const, Nat.reduceMul, Nat.reduceSub, Nat.reduceAdd, Nat.reduceLeDiff, e1, l1, ed, ld, *]) | (simp only [zgoO, zgoG, zO_nil, zthen_normal, zgoC]) | (with_reducible apply And.intro) | (with_reducible intro _))
            refine meet_zi (a := o) (b := q) HX.out HY.out HRR.out.tr HRR.out.tu HRR.out.di.good hN (HT.out o rfl) HQS.out ?_
            rw [← HV.out]
            clear HA HQ HT HZ HRR HF HL HP HLL FI HX HY HQS HV
            repeat' (first | (simp only [zmPack, zxPack, ne_eq, zfree, owners, Nat.reduceLT, List.contains_cons, List.contains_nil, Nat.reduceBEq, BEq.rfl, chunk, setAt, List.lookup_cons, List.lookup_nil, reduceCtorEq, Nat.reduceEqDiff, reduceIte, implies_true, forall_const, Nat.reduceMul, Nat.reduceSub, Nat.reduceAdd, Nat.reduceLeDiff, *]) | (simp only [zgoO, zgoG, zO_nil, zthen_normal, zgoC]) | (with_reducible apply And.intro) | (with_reducible intro _))
            all_goals exact FF.out
    · rintro s2 h2 ⟨at_, rfl, f6, A⟩ ⟨f0, f24, f5, f3, -⟩
      rw [List.take_length, HLL.out] at A
      obtain ⟨hk, oj, pj, dj, plj⟩ := HP.out
      obtain ⟨o, rfl, hao, hex⟩ := HF.out.met HRR.out.di hk A
      have hoN : ∀ a, o = some a → a < OR.length := fun a e => by have := (hao.lt a e).1; omega
      have e0 : atZ OR (some o) = idO OR o := rfl
      rw [e0] at f6
      have hno := idO_ne HRR.out.tu hoN
      have hbx := HRR.out.tr.box
      have ed := HZ.out.2.2.1 j dj
      obtain ⟨y, hdj⟩ : ∃ y, DM2[j]? = some y := ⟨_, List.getElem?_eq_getElem dj⟩
      have ld := HZ.out.2.2.2 j _ hdj
      by_cases hs : idO OR o = y
      · rw [← hs] at hdj ld
        have R2 := HRR.out.keep hk hao hex (HRR.out.tu.said oj hoN hdj)
        have fin : ∃ D2, RdI H h2 p zh zr pb ob go fb db ef PL OR FR DM OR.length r Ls (k + 1) D2 ch := ⟨_, R2⟩
        have FF := Lib.hid fin
        clear fin R2 hs hdj hoN hao hex A e0 HZ HRR HF HL HP HLL FI hk oj pj dj plj
        generalize idO OR o = w at f6 hno ld
        repeat' (first | (simp only [zmPack, zxPack, ne_eq, zfree, owners, Nat.reduceLT, List.contains_cons, List.contains_nil, Nat.reduceBEq, BEq.rfl, chunk, setAt, List.lookup_cons, List.lookup_nil, reduceCtorEq, Nat.reduceEqDiff, reduceIte, implies_true, forall_const, Nat.reduceMul, Nat.reduceSub, Nat.reduceAdd, Nat.reduceLeDiff, ed, ld, *]) | (simp only [zgoO, zgoG, zO_nil, zthen_normal, zgoC]) | (with_reducible apply And.intro) | (with_reducible intro _))
        all_goals exact FF.out
      · have st : stZ L h2 [Z64 (idO OR o)] (.eptr db 0 j 0) = some (h2.set db (.grow 0 1 ((DM2.set j (idO OR o)).map eI))) := by
          rw [st_eptr]
          exact ⟨1, _, eI y, HRR.out.tr.dm, by rw [List.getElem?_map, hdj]; rfl, hL, by simp [eI], by rw [List.map_set]; rfl⟩
        have R2 := HRR.out.new hk oj hao hex (fun h => hs (by have := (HRR.out.tu.dm oj h).1; rw [hdj] at this; injection this with this; exact this.symm)) HF.out.lt
        have fin : ∃ D2, RdI H (h2.set db (.grow 0 1 ((DM2.set j (idO OR o)).map eI))) p zh zr pb ob go fb db ef PL OR FR DM OR.length r Ls (k + 1) D2 true := ⟨_, R2⟩
        obtain ⟨h3, hh3⟩ : ∃ h3, h3 = h2.set db (.grow 0 1 ((DM2.set j (idO OR o)).map eI)) := ⟨_, rfl⟩
        rw [← hh3] at st fin
        have FF := Lib.hid fin
        clear fin R2 hdj hoN hao hex A e0 HZ HRR HF HL HP HLL FI hk oj pj dj plj hh3
        generalize idO OR o = w at f6 hno hs st
        repeat' (first | (simp only [zmPack, zxPack, ne_eq, zfree, owners, Nat.reduceLT, List.contains_cons, List.contains_nil, Nat.reduceBEq, BEq.rfl, chunk, setAt, List.lookup_cons, List.lookup_nil, reduceCtorEq, Nat.reduceEqDiff, reduceIte, implies_true, forall_const, Nat.reduceMul, Nat.reduceSub, Nat.reduceAdd, Nat.reduceLeDiff, ed, ld, st, *]) | (simp only [zgoO, zgoG, zO_nil, zthen_normal, zgoC]) | (with_reducible apply And.intro) | (with_reducible intro _))
        all_goals exact FF.out
  · rintro s' h' ⟨DM2, ch, f3, R⟩ ⟨f0, f12, -⟩
    have fin := FI.out h' DM2 ch R
    repeat' (first | (simp only [zmPack, zxPack, ne_eq, zfree, owners, Nat.reduceLT, List.contains_cons, List.contains_nil, Nat.reduceBEq, BEq.rfl, chunk, setAt, List.lookup_cons, List.lookup_nil, reduceCtorEq, Nat.reduceEqDiff, reduceIte, implies_true, forall_const, Nat.reduceMul, Nat.reduceSub, Nat.reduceAdd, Nat.reduceLeDiff, f3, *]) | (simp only [zgoO, zgoG, zO_nil, zthen_normal, zgoC]) | (with_reducible apply And.intro) | (with_reducible intro _))
end Go.Proofs.Ytfmllmcjinjfaaa
