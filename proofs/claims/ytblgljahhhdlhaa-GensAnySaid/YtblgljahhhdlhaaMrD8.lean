/-
  AM's code of functions, written by am/amprint.lean.
-/
import Derived.KernelRfl
import Derived.Test.YtblgljahhhdlhaaMrD4
import Derived.Test.YtblgljahhhdlhaaMrD6
import Derived.Test.YtblgljahhhdlhaaMrD7
namespace Go.Proofs.Ytblgljahhhdlhaa
open Go Go.RowKit
set_option linter.unusedVariables false
def c_ge_any : ACode := .seq (.ops [⟨(some 6), .mv (.av (.val (.bool false))), none, true⟩])
 (.seq (.seq (.ops [⟨(some 21), .call (.av (.func 7 [])) [], none, true⟩,
 ⟨(some 22), .un .not (.tmp 21), none, true⟩])
 (.cond (.tmp 22)
 (.seq (.ops [⟨(some 6), .mv (.av (.val (.bool false))), none, true⟩])
 (.ret))
 (.skip)))
 (.seq (.ops [⟨(some 24), .mv (.tmp 0), none, true⟩,
 ⟨(some 25), .call (.av (.func 9 [])) [(.tmp 24), (.av (.val (.int .i64 10)))], none, true⟩,
 ⟨(some 26), .bin .add (.av (.val (.int .i64 1))) (.tmp 25), none, true⟩,
 ⟨(some 27), .call (.av (.func 8 [])) [(.tmp 26)], none, true⟩,
 ⟨(some 23), .mv (.tmp 27), none, true⟩,
 ⟨(some 28), .extract 0 (.tmp 23), none, true⟩,
 ⟨(some 29), .extract 1 (.tmp 23), none, true⟩,
 ⟨(some 7), .mv (.tmp 28), none, true⟩,
 ⟨(some 8), .mv (.tmp 29), none, true⟩])
 (.seq (.ops [⟨(some 31), .mv (.tmp 1), none, true⟩,
 ⟨(some 32), .call (.av (.func 9 [])) [(.tmp 31), (.av (.val (.int .i64 10)))], none, true⟩,
 ⟨(some 33), .bin .add (.av (.val (.int .i64 1))) (.tmp 32), none, true⟩,
 ⟨(some 34), .call (.av (.func 8 [])) [(.tmp 33)], none, true⟩,
 ⟨(some 30), .mv (.tmp 34), none, true⟩,
 ⟨(some 35), .extract 0 (.tmp 30), none, true⟩,
 ⟨(some 36), .extract 1 (.tmp 30), none, true⟩,
 ⟨(some 9), .mv (.tmp 35), none, true⟩,
 ⟨(some 10), .mv (.tmp 36), none, true⟩])
 (.seq (.seq (.ops [⟨(some 37), .mv (.tmp 8), none, true⟩,
 ⟨(some 38), .bin .neq (.tmp 37) (.av (.val (.int .i64 0))), none, true⟩,
 ⟨(some 39), .mv (.tmp 38), none, true⟩,
 ⟨(some 40), .mv (.tmp 10), (some (39, false)), true⟩,
 ⟨(some 41), .bin .neq (.tmp 40) (.av (.val (.int .i64 0))), (some (39, false)), true⟩,
 ⟨(some 42), .pick (.tmp 39) (.av (.val (.bool true))) (.tmp 41), none, true⟩,
 ⟨(some 43), .mv (.tmp 42), none, true⟩,
 ⟨(some 44), .mv (.tmp 7), (some (43, false)), true⟩,
 ⟨(some 45), .eqNil false 1 (.tmp 44), (some (43, false)), true⟩,
 ⟨(some 46), .pick (.tmp 43) (.av (.val (.bool true))) (.tmp 45), none, true⟩,
 ⟨(some 47), .mv (.tmp 46), none, true⟩,
 ⟨(some 48), .mv (.tmp 9), (some (47, false)), true⟩,
 ⟨(some 49), .eqNil false 1 (.tmp 48), (some (47, false)), true⟩,
 ⟨(some 50), .pick (.tmp 47) (.av (.val (.bool true))) (.tmp 49), none, true⟩,
 ⟨(some 51), .mv (.tmp 50), none, true⟩,
 ⟨(some 52), .call (.av (.func 7 [])) [], (some (51, false)), true⟩,
 ⟨(some 53), .un .not (.tmp 52), (some (51, false)), true⟩,
 ⟨(some 54), .pick (.tmp 51) (.av (.val (.bool true))) (.tmp 53), none, true⟩])
 (.cond (.tmp 54)
 (.seq (.ops [⟨(some 6), .mv (.av (.val (.bool false))), none, true⟩])
 (.ret))
 (.skip)))
 (.seq (.seq (.ops [⟨(some 55), .mv (.tmp 2), none, true⟩,
 ⟨(some 56), .mv (.tmp 2), none, true⟩,
 ⟨(some 57), .len (.tmp 56), none, true⟩,
 ⟨(some 58), .minmax false (.tmp 57) [(.av (.val (.int .i64 80)))], none, true⟩,
 ⟨(some 59), .slice 4 (.tmp 55) none (some (.tmp 58)) none, none, true⟩,
 ⟨(some 60), .len (.tmp 59), none, true⟩,
 ⟨(some 61), .mv (.av (.val (.int .i64 0))), none, true⟩])
 (rangeCode 0 1 62 61 60 103
 (.seq (.ops [⟨(some 63), .mv (.tmp 61), none, true⟩,
 ⟨(some 64), .indexAddr 4 (.tmp 59) (.tmp 61), none, true⟩,
 ⟨(some 65), .load (some 4) (.tmp 64), none, true⟩,
 ⟨(some 12), .zero [(.val (.int .i64 0)), (.val (.int .i64 0)), (.val (.int .i64 0)), (.val (.int .i64 0))], none, true⟩,
 ⟨(some 11), .mv (.tmp 63), none, true⟩,
 ⟨none, .store 4 (.tmp 12) (.tmp 65), none, true⟩])
 (.seq (.seq (.ops [⟨(some 66), .fieldAddr 0 (.tmp 12), none, true⟩,
 ⟨(some 67), .load none (.tmp 66), none, true⟩,
 ⟨(some 68), .bin .eql (.tmp 67) (.av (.val (.int .i64 6))), none, true⟩,
 ⟨(some 69), .mv (.tmp 68), none, true⟩,
 ⟨(some 70), .fieldAddr 0 (.tmp 12), (some (69, false)), true⟩,
 ⟨(some 71), .load none (.tmp 70), (some (69, false)), true⟩,
 ⟨(some 72), .bin .eql (.tmp 71) (.av (.val (.int .i64 7))), (some (69, false)), true⟩,
 ⟨(some 73), .pick (.tmp 69) (.av (.val (.bool true))) (.tmp 72), none, true⟩])
 (.cond (.tmp 73)
 (.seq (.ops [⟨(some 74), .mv (.tmp 7), none, true⟩,
 ⟨(some 75), .load (some 4) (.tmp 12), none, true⟩,
 ⟨(some 76), .call (.av (.func 11 [])) [(.tmp 74), (.tmp 75)], none, true⟩])
 (.exit 1))
 (.skip)))
 (.seq (.ops [⟨(some 78), .mv (.tmp 7), none, true⟩,
 ⟨(some 79), .load (some 4) (.tmp 12), none, true⟩,
 ⟨(some 80), .call (.av (.func 11 [])) [(.tmp 78), (.tmp 79)], none, true⟩,
 ⟨(some 77), .mv (.tmp 80), none, true⟩,
 ⟨(some 81), .extract 0 (.tmp 77), none, true⟩,
 ⟨(some 82), .extract 1 (.tmp 77), none, true⟩,
 ⟨(some 13), .mv (.tmp 81), none, true⟩,
 ⟨(some 14), .mv (.tmp 82), none, true⟩])
 (.seq (.ops [⟨(some 84), .mv (.tmp 9), none, true⟩,
 ⟨(some 85), .load (some 4) (.tmp 12), none, true⟩,
 ⟨(some 86), .call (.av (.func 11 [])) [(.tmp 84), (.tmp 85)], none, true⟩,
 ⟨(some 83), .mv (.tmp 86), none, true⟩,
 ⟨(some 87), .extract 0 (.tmp 83), none, true⟩,
 ⟨(some 88), .extract 1 (.tmp 83), none, true⟩,
 ⟨(some 15), .mv (.tmp 87), none, true⟩,
 ⟨(some 16), .mv (.tmp 88), none, true⟩])
 (.seq (.seq (.ops [⟨(some 89), .mv (.tmp 13), none, true⟩,
 ⟨(some 90), .mv (.tmp 15), none, true⟩,
 ⟨(some 91), .bin .neq (.tmp 89) (.tmp 90), none, true⟩,
 ⟨(some 92), .mv (.tmp 91), none, true⟩,
 ⟨(some 93), .mv (.tmp 14), (some (92, false)), true⟩,
 ⟨(some 94), .mv (.tmp 16), (some (92, false)), true⟩,
 ⟨(some 95), .bin .neq (.tmp 93) (.tmp 94), (some (92, false)), true⟩,
 ⟨(some 96), .pick (.tmp 92) (.av (.val (.bool true))) (.tmp 95), none, true⟩])
 (.cond (.tmp 96)
 (.seq (.ops [⟨(some 6), .mv (.av (.val (.bool false))), none, true⟩])
 (.ret))
 (.skip)))
 (.seq (.ops [⟨(some 97), .mv (.tmp 11), none, true⟩,
 ⟨(some 98), .bin .rem (.tmp 97) (.av (.val (.int .i64 3))), none, true⟩,
 ⟨(some 99), .bin .eql (.tmp 98) (.av (.val (.int .i64 0))), none, true⟩])
 (.cond (.tmp 99)
 (.ops [⟨(some 100), .mv (.tmp 9), none, true⟩,
 ⟨(some 101), .build [(.val (.int .i64 0)), (.val (.int .i64 0)), (.val (.int .i64 0)), (.val (.int .i64 0))] [(0, 1, (.av (.val (.int .i64 6))))], none, true⟩,
 ⟨(some 102), .call (.av (.func 11 [])) [(.tmp 100), (.tmp 101)], none, true⟩])
 (.skip))))))))))
 (.seq (.ops [⟨(some 104), .mv (.tmp 7), none, true⟩,
 ⟨(some 105), .call (.av (.func 13 [])) [(.tmp 104)], none, true⟩,
 ⟨(some 106), .mv (.tmp 9), none, true⟩,
 ⟨(some 107), .call (.av (.func 13 [])) [(.tmp 106)], none, true⟩,
 ⟨(some 17), .zero [(.val (.slice none 0 0)), (.val (.slice none 0 0))], none, true⟩,
 ⟨(some 18), .zero [(.val (.slice none 0 0)), (.val (.slice none 0 0))], none, true⟩,
 ⟨none, .store 2 (.tmp 17) (.tmp 105), none, true⟩,
 ⟨none, .store 2 (.tmp 18) (.tmp 107), none, true⟩])
 (.seq (.seq (.ops [⟨(some 108), .load (some 2) (.tmp 17), none, true⟩,
 ⟨(some 109), .call (.av (.func 14 [])) [(.tmp 108)], none, true⟩,
 ⟨(some 110), .len (.tmp 109), none, true⟩,
 ⟨(some 111), .mv (.av (.val (.int .i64 0))), none, true⟩])
 (rangeCode 2 3 112 111 110 134
 (.seq (.ops [⟨(some 113), .indexAddr 1 (.tmp 109) (.tmp 111), none, true⟩,
 ⟨(some 114), .load none (.tmp 113), none, true⟩,
 ⟨(some 20), .mv (.tmp 114), none, true⟩])
 (.seq (.opsD [⟨(some 115), .mv (.tmp 20), none, true⟩,
 ⟨(some 116), .fieldAddr 0 (.tmp 18), none, true⟩,
 ⟨(some 117), .load none (.tmp 116), none, true⟩,
 ⟨(some 118), .len (.tmp 117), none, true⟩,
 ⟨(some 119), .bin .geq (.tmp 115) (.tmp 118), none, true⟩,
 ⟨(some 120), .mv (.tmp 119), none, true⟩,
 ⟨(some 121), .fieldAddr 0 (.tmp 17), (some (120, false)), true⟩,
 ⟨(some 122), .load none (.tmp 121), (some (120, false)), true⟩,
 ⟨(some 123), .mv (.tmp 20), (some (120, false)), true⟩,
 ⟨(some 124), .indexAddr 1 (.tmp 122) (.tmp 123), (some (120, false)), true⟩,
 ⟨(some 125), .load none (.tmp 124), (some (120, false)), true⟩,
 ⟨(some 126), .fieldAddr 0 (.tmp 18), (some (120, false)), true⟩,
 ⟨(some 127), .load none (.tmp 126), (some (120, false)), true⟩,
 ⟨(some 128), .mv (.tmp 20), (some (120, false)), true⟩,
 ⟨(some 129), .indexAddr 1 (.tmp 127) (.tmp 128), (some (120, false)), true⟩,
 ⟨(some 130), .load none (.tmp 129), (some (120, false)), true⟩,
 ⟨(some 131), .call (.av (.func 15 [])) [(.tmp 125), (.tmp 130)], (some (120, false)), true⟩,
 ⟨(some 132), .un .not (.tmp 131), (some (120, false)), true⟩,
 ⟨(some 133), .pick (.tmp 120) (.av (.val (.bool true))) (.tmp 132), none, true⟩])
 (.cond (.tmp 133)
 (.seq (.ops [⟨(some 6), .mv (.av (.val (.bool false))), none, true⟩])
 (.ret))
 (.skip))))))
 (.seq (.opsD [⟨(some 135), .load (some 2) (.tmp 17), none, true⟩,
 ⟨(some 136), .call (.av (.func 14 [])) [(.tmp 135)], none, false⟩,
 ⟨(some 137), .load (some 2) (.tmp 18), none, false⟩,
 ⟨(some 138), .call (.av (.func 14 [])) [(.tmp 137)], none, true⟩,
 ⟨(some 139), .call (.av (.func 15 [])) [(.tmp 136), (.tmp 138)], none, true⟩,
 ⟨(some 6), .mv (.tmp 139), none, true⟩])
 (.ret)))))))))
theorem f_ge_any : cFunc Try.prog 4 = some ⟨140, c_ge_any, [.tmp 6]⟩ := by kernel_rfl
def c_ge_new : ACode := .seq (.ops [⟨(some 2), .mv (.av (.val (.pointer none))), none, true⟩,
 ⟨(some 3), .mv (.av (.val (.int .i64 0))), none, true⟩])
 (.seq (.seq (.ops [⟨(some 4), .mv (.tmp 0), none, true⟩,
 ⟨(some 5), .bin .lss (.tmp 4) (.av (.val (.int .i64 1))), none, true⟩,
 ⟨(some 6), .mv (.tmp 5), none, true⟩,
 ⟨(some 7), .mv (.tmp 0), (some (6, false)), true⟩,
 ⟨(some 8), .bin .gtr (.tmp 7) (.av (.val (.int .i64 100))), (some (6, false)), true⟩,
 ⟨(some 9), .pick (.tmp 6) (.av (.val (.bool true))) (.tmp 8), none, true⟩])
 (.cond (.tmp 9)
 (.seq (.ops [⟨(some 2), .mv (.av (.val (.pointer none))), none, true⟩,
 ⟨(some 3), .mv (.av (.val (.int .i64 1))), none, true⟩])
 (.ret))
 (.skip)))
 (.seq (.ops [⟨(some 10), .mv (.tmp 0), none, true⟩,
 ⟨(some 11), .mkMap, none, true⟩,
 ⟨(some 12), .build [(.val (.int .i64 0)), (.val (.slice none 0 0)), (.val (.map none))] [(0, 1, (.tmp 10)), (2, 1, (.tmp 11))], none, true⟩,
 ⟨(some 13), .box 3 (.tmp 12), none, true⟩,
 ⟨(some 2), .mv (.tmp 13), none, true⟩,
 ⟨(some 3), .mv (.av (.val (.int .i64 0))), none, true⟩])
 (.ret)))
theorem f_ge_new : cFunc Try.prog 8 = some ⟨14, c_ge_new, [.tmp 2, .tmp 3]⟩ := by kernel_rfl
def c_mk_rest : ACode := .seq (.ops [⟨(some 4), .mv (.av (.val (.int .i64 0))), none, true⟩])
 (.seq (.ops [⟨(some 6), .mv (.tmp 0), none, true⟩,
 ⟨(some 7), .mv (.tmp 1), none, true⟩,
 ⟨(some 8), .bin .rem (.tmp 6) (.tmp 7), none, true⟩,
 ⟨(some 5), .mv (.tmp 8), none, true⟩])
 (.seq (.seq (.ops [⟨(some 9), .mv (.tmp 5), none, true⟩,
 ⟨(some 10), .bin .lss (.tmp 9) (.av (.val (.int .i64 0))), none, true⟩])
 (.cond (.tmp 10)
 (.ops [⟨(some 11), .mv (.tmp 5), none, true⟩,
 ⟨(some 12), .mv (.tmp 1), none, true⟩,
 ⟨(some 13), .bin .add (.tmp 11) (.tmp 12), none, true⟩,
 ⟨(some 5), .mv (.tmp 13), none, true⟩])
 (.skip)))
 (.seq (.ops [⟨(some 14), .mv (.tmp 5), none, true⟩,
 ⟨(some 4), .mv (.tmp 14), none, true⟩])
 (.ret))))
theorem f_mk_rest : cFunc Try.prog 9 = some ⟨15, c_mk_rest, [.tmp 4]⟩ := by kernel_rfl
def c_ge_young : ACode := .seq (.ops [⟨(some 2), .mv (.av (.val (.slice none 0 0))), none, true⟩])
 (.seq (.ops [⟨(some 3), .mv (.tmp 0), none, true⟩,
 ⟨(some 4), .call (.av (.func 17 [])) [(.tmp 3), (.av (.val (.int .i64 0)))], none, true⟩,
 ⟨(some 2), .mv (.tmp 4), none, true⟩])
 (.ret))
theorem f_ge_young : cFunc Try.prog 10 = some ⟨5, c_ge_young, [.tmp 2]⟩ := by kernel_rfl
def c_ge_do : ACode := .seq (.ops [⟨(some 3), .box 4 (.tmp 1), none, true⟩,
 ⟨(some 4), .mv (.av (.val (.int .i64 0))), none, true⟩,
 ⟨(some 5), .mv (.av (.val (.int .i64 0))), none, true⟩])
 (.seq (.seq (.ops [⟨(some 6), .fieldAddr 0 (.tmp 3), none, true⟩,
 ⟨(some 7), .load none (.tmp 6), none, true⟩])
 (.block 0 (.seq (.ops [⟨(some 9), .bin .eql (.tmp 7) (.av (.val (.int .i64 1))), none, true⟩,
 ⟨(some 8), .mv (.tmp 9), none, true⟩])
 (.cond (.tmp 8)
 (.seq (.ops [⟨(some 10), .mv (.tmp 0), none, true⟩,
 ⟨(some 11), .fieldAddr 3 (.tmp 3), none, true⟩,
 ⟨(some 12), .load none (.tmp 11), none, true⟩,
 ⟨(some 13), .call (.av (.func 18 [])) [(.tmp 10), (.tmp 12)], none, true⟩,
 ⟨(some 14), .extract 0 (.tmp 13), none, true⟩,
 ⟨(some 15), .extract 1 (.tmp 13), none, true⟩,
 ⟨(some 4), .mv (.tmp 14), none, true⟩,
 ⟨(some 5), .mv (.tmp 15), none, true⟩])
 (.ret))
 (.seq (.ops [⟨(some 17), .bin .eql (.tmp 7) (.av (.val (.int .i64 2))), none, true⟩,
 ⟨(some 16), .mv (.tmp 17), none, true⟩])
 (.cond (.tmp 16)
 (.seq (.ops [⟨(some 18), .mv (.tmp 0), none, true⟩,
 ⟨(some 19), .load (some 4) (.tmp 3), none, true⟩,
 ⟨(some 20), .call (.av (.func 19 [])) [(.tmp 18), (.tmp 19)], none, true⟩,
 ⟨(some 4), .mv (.av (.val (.int .i64 0))), none, true⟩,
 ⟨(some 5), .mv (.tmp 20), none, true⟩])
 (.ret))
 (.seq (.seq (.ops [⟨(some 22), .bin .eql (.tmp 7) (.av (.val (.int .i64 4))), none, true⟩,
 ⟨(some 21), .mv (.tmp 22), none, true⟩])
 (.cond (.tmp 21)
 (.skip)
 (.ops [⟨(some 23), .bin .eql (.tmp 7) (.av (.val (.int .i64 3))), none, true⟩,
 ⟨(some 21), .mv (.tmp 23), none, true⟩])))
 (.cond (.tmp 21)
 (.seq (.ops [⟨(some 24), .mv (.tmp 0), none, true⟩,
 ⟨(some 25), .fieldAddr 1 (.tmp 3), none, true⟩,
 ⟨(some 26), .load none (.tmp 25), none, true⟩,
 ⟨(some 27), .fieldAddr 0 (.tmp 3), none, true⟩,
 ⟨(some 28), .load none (.tmp 27), none, true⟩,
 ⟨(some 29), .bin .eql (.tmp 28) (.av (.val (.int .i64 4))), none, true⟩,
 ⟨(some 30), .call (.av (.func 20 [])) [(.tmp 24), (.tmp 26), (.tmp 29)], none, true⟩,
 ⟨(some 4), .mv (.av (.val (.int .i64 0))), none, true⟩,
 ⟨(some 5), .mv (.tmp 30), none, true⟩])
 (.ret))
 (.seq (.ops [⟨(some 32), .bin .eql (.tmp 7) (.av (.val (.int .i64 6))), none, true⟩,
 ⟨(some 31), .mv (.tmp 32), none, true⟩])
 (.cond (.tmp 31)
 (.seq (.ops [⟨(some 33), .mv (.tmp 0), none, true⟩,
 ⟨(some 34), .call (.av (.func 21 [])) [(.tmp 33)], none, true⟩,
 ⟨(some 4), .mv (.tmp 34), none, true⟩,
 ⟨(some 5), .mv (.av (.val (.int .i64 0))), none, true⟩])
 (.ret))
 (.seq (.ops [⟨(some 36), .bin .eql (.tmp 7) (.av (.val (.int .i64 7))), none, true⟩,
 ⟨(some 35), .mv (.tmp 36), none, true⟩])
 (.cond (.tmp 35)
 (.seq (.ops [⟨(some 37), .mv (.tmp 0), none, true⟩,
 ⟨(some 38), .call (.av (.func 22 [])) [(.tmp 37)], none, true⟩,
 ⟨(some 4), .mv (.tmp 38), none, true⟩,
 ⟨(some 5), .mv (.av (.val (.int .i64 0))), none, true⟩])
 (.ret))
 (.skip)))))))))))))
 (.seq (.ops [⟨(some 4), .mv (.av (.val (.int .i64 0))), none, true⟩,
 ⟨(some 5), .mv (.av (.val (.int .i64 7))), none, true⟩])
 (.ret)))
theorem f_ge_do : cFunc Try.prog 11 = some ⟨39, c_ge_do, [.tmp 4, .tmp 5]⟩ := by kernel_rfl
def c_ge_graph : ACode := .seq (.ops [⟨(some 2), .zero [(.val (.slice none 0 0)), (.val (.slice none 0 0))], none, true⟩])
 (.seq (.ops [⟨(some 3), .zero [(.val (.slice none 0 0)), (.val (.slice none 0 0))], none, true⟩])
 (.seq (.seq (.ops [⟨(some 9), .mv (.tmp 0), none, true⟩,
 ⟨(some 10), .nilCheck (.tmp 9), none, true⟩,
 ⟨(some 11), .fieldAddr 1 (.tmp 10), none, true⟩,
 ⟨(some 12), .load none (.tmp 11), none, true⟩,
 ⟨(some 13), .len (.tmp 12), none, true⟩,
 ⟨(some 14), .mv (.av (.val (.int .i64 0))), none, true⟩])
 (rangeCode 0 1 15 14 13 47
 (.seq (.ops [⟨(some 16), .mv (.tmp 14), none, true⟩,
 ⟨(some 17), .indexAddr 3 (.tmp 12) (.tmp 14), none, true⟩,
 ⟨(some 18), .load (some 3) (.tmp 17), none, true⟩,
 ⟨(some 5), .zero [(.val (.slice none 0 0)), (.val (.int .i64 0)), (.val (.bool false))], none, true⟩,
 ⟨(some 4), .mv (.tmp 16), none, true⟩,
 ⟨none, .store 3 (.tmp 5) (.tmp 18), none, true⟩])
 (.seq (.ops [⟨(some 6), .mv (.av (.val (.slice none 0 0))), none, true⟩])
 (.seq (.seq (.ops [⟨(some 19), .fieldAddr 0 (.tmp 5), none, true⟩,
 ⟨(some 20), .load none (.tmp 19), none, true⟩,
 ⟨(some 21), .len (.tmp 20), none, true⟩,
 ⟨(some 22), .mv (.av (.val (.int .i64 0))), none, true⟩])
 (rangeCode 2 3 23 22 21 32
 (.seq (.ops [⟨(some 24), .indexAddr 1 (.tmp 20) (.tmp 22), none, true⟩,
 ⟨(some 25), .load none (.tmp 24), none, true⟩,
 ⟨(some 8), .mv (.tmp 25), none, true⟩])
 (.seq (.ops [⟨(some 26), .mv (.tmp 8), none, true⟩,
 ⟨(some 27), .bin .geq (.tmp 26) (.av (.val (.int .i64 0))), none, true⟩])
 (.cond (.tmp 27)
 (.ops [⟨(some 28), .mv (.tmp 6), none, true⟩,
 ⟨(some 29), .mv (.tmp 8), none, true⟩,
 ⟨(some 30), .lits 1 1 [(.val (.int .i64 0))] [(0, 1, (.tmp 29))], none, true⟩,
 ⟨(some 31), .append 1 8 (.tmp 28) (.tmp 30), none, true⟩,
 ⟨(some 6), .mv (.tmp 31), none, true⟩])
 (.skip))))))
 (.seq (.ops [⟨(some 33), .fieldAddr 0 (.tmp 3), none, true⟩,
 ⟨(some 34), .load none (.tmp 33), none, true⟩,
 ⟨(some 35), .mv (.tmp 6), none, true⟩,
 ⟨(some 36), .lits 1 1 [(.val (.slice none 0 0))] [(0, 1, (.tmp 35))], none, true⟩,
 ⟨(some 37), .append 1 24 (.tmp 34) (.tmp 36), none, true⟩,
 ⟨(some 38), .fieldAddr 0 (.tmp 3), none, true⟩,
 ⟨none, .store 1 (.tmp 38) (.tmp 37), none, true⟩])
 (.seq (.ops [⟨(some 39), .fieldAddr 2 (.tmp 5), none, true⟩,
 ⟨(some 40), .load none (.tmp 39), none, true⟩])
 (.cond (.tmp 40)
 (.ops [⟨(some 41), .fieldAddr 1 (.tmp 3), none, true⟩,
 ⟨(some 42), .load none (.tmp 41), none, true⟩,
 ⟨(some 43), .mv (.tmp 4), none, true⟩,
 ⟨(some 44), .lits 1 1 [(.val (.int .i64 0))] [(0, 1, (.tmp 43))], none, true⟩,
 ⟨(some 45), .append 1 8 (.tmp 42) (.tmp 44), none, true⟩,
 ⟨(some 46), .fieldAddr 1 (.tmp 3), none, true⟩,
 ⟨none, .store 1 (.tmp 46) (.tmp 45), none, true⟩])
 (.skip)))))))))
 (.seq (.ops [⟨(some 48), .load (some 2) (.tmp 3), none, true⟩,
 ⟨none, .store 2 (.tmp 2) (.tmp 48), none, true⟩])
 (.ret))))
theorem f_ge_graph : cFunc Try.prog 13 = some ⟨49, c_ge_graph, [.cell 2 (some 2)]⟩ := by kernel_rfl
def c_mk_neededin : ACode := .seq (.ops [⟨(some 1), .box 2 (.tmp 0), none, true⟩,
 ⟨(some 2), .mv (.av (.val (.slice none 0 0))), none, true⟩])
 (.seq (.ops [⟨(some 3), .load (some 2) (.tmp 1), none, true⟩,
 ⟨(some 4), .fieldAddr 1 (.tmp 1), none, true⟩,
 ⟨(some 5), .load none (.tmp 4), none, true⟩,
 ⟨(some 6), .call (.av (.func 24 [])) [(.tmp 3), (.tmp 5), (.av (.val (.slice none 0 0)))], none, true⟩,
 ⟨(some 7), .call (.av (.func 23 [])) [(.tmp 6)], none, true⟩,
 ⟨(some 2), .mv (.tmp 7), none, true⟩])
 (.ret))
theorem f_mk_neededin : cFunc Try.prog 14 = some ⟨8, c_mk_neededin, [.tmp 2]⟩ := by kernel_rfl
def c_ge_are : ACode := .seq (.ops [⟨(some 4), .mv (.av (.val (.slice none 0 0))), none, true⟩])
 (.seq (.ops [⟨(some 5), .mv (.av (.val (.slice none 0 0))), none, true⟩])
 (.seq (.seq (.ops [⟨(some 8), .mv (.tmp 0), none, true⟩,
 ⟨(some 9), .nilCheck (.tmp 8), none, true⟩,
 ⟨(some 10), .fieldAddr 1 (.tmp 9), none, true⟩,
 ⟨(some 11), .load none (.tmp 10), none, true⟩,
 ⟨(some 12), .len (.tmp 11), none, true⟩,
 ⟨(some 13), .mv (.av (.val (.int .i64 0))), none, true⟩])
 (rangeCode 0 1 14 13 12 26
 (.seq (.ops [⟨(some 15), .mv (.tmp 13), none, true⟩,
 ⟨(some 16), .indexAddr 3 (.tmp 11) (.tmp 13), none, true⟩,
 ⟨(some 17), .load (some 3) (.tmp 16), none, true⟩,
 ⟨(some 7), .zero [(.val (.slice none 0 0)), (.val (.int .i64 0)), (.val (.bool false))], none, true⟩,
 ⟨(some 6), .mv (.tmp 15), none, true⟩,
 ⟨none, .store 3 (.tmp 7) (.tmp 17), none, true⟩])
 (.seq (.ops [⟨(some 18), .fieldAddr 1 (.tmp 7), none, true⟩,
 ⟨(some 19), .load none (.tmp 18), none, true⟩,
 ⟨(some 20), .mv (.tmp 1), none, true⟩,
 ⟨(some 21), .bin .eql (.tmp 19) (.tmp 20), none, true⟩])
 (.cond (.tmp 21)
 (.ops [⟨(some 22), .mv (.tmp 5), none, true⟩,
 ⟨(some 23), .mv (.tmp 6), none, true⟩,
 ⟨(some 24), .lits 1 1 [(.val (.int .i64 0))] [(0, 1, (.tmp 23))], none, true⟩,
 ⟨(some 25), .append 1 8 (.tmp 22) (.tmp 24), none, true⟩,
 ⟨(some 5), .mv (.tmp 25), none, true⟩])
 (.skip))))))
 (.seq (.ops [⟨(some 27), .mv (.tmp 5), none, true⟩,
 ⟨(some 4), .mv (.tmp 27), none, true⟩])
 (.ret))))
theorem f_ge_are : cFunc Try.prog 17 = some ⟨28, c_ge_are, [.tmp 4]⟩ := by kernel_rfl
def c_ge_make : ACode := .seq (.ops [⟨(some 4), .mv (.av (.val (.int .i64 0))), none, true⟩,
 ⟨(some 5), .mv (.av (.val (.int .i64 0))), none, true⟩])
 (.seq (.block 0 (.seq (.ops [⟨(some 7), .mv (.tmp 1), none, true⟩,
 ⟨(some 8), .bin .lss (.tmp 7) (.av (.val (.int .i64 0))), none, true⟩,
 ⟨(some 9), .mv (.tmp 8), none, true⟩,
 ⟨(some 10), .mv (.tmp 1), (some (9, false)), true⟩,
 ⟨(some 11), .bin .gtr (.tmp 10) (.av (.val (.int .i64 10))), (some (9, false)), true⟩,
 ⟨(some 12), .pick (.tmp 9) (.av (.val (.bool true))) (.tmp 11), none, true⟩,
 ⟨(some 6), .mv (.tmp 12), none, true⟩])
 (.cond (.tmp 6)
 (.seq (.ops [⟨(some 4), .mv (.av (.val (.int .i64 0))), none, true⟩,
 ⟨(some 5), .mv (.av (.val (.int .i64 1))), none, true⟩])
 (.ret))
 (.seq (.ops [⟨(some 14), .mv (.tmp 0), none, true⟩,
 ⟨(some 15), .nilCheck (.tmp 14), none, true⟩,
 ⟨(some 16), .fieldAddr 1 (.tmp 15), none, true⟩,
 ⟨(some 17), .load none (.tmp 16), none, true⟩,
 ⟨(some 18), .len (.tmp 17), none, true⟩,
 ⟨(some 19), .bin .geq (.tmp 18) (.av (.val (.int .i64 100))), none, true⟩,
 ⟨(some 13), .mv (.tmp 19), none, true⟩])
 (.cond (.tmp 13)
 (.seq (.ops [⟨(some 4), .mv (.av (.val (.int .i64 0))), none, true⟩,
 ⟨(some 5), .mv (.av (.val (.int .i64 2))), none, true⟩])
 (.ret))
 (.seq (.opsD [⟨(some 21), .mv (.tmp 0), none, true⟩,
 ⟨(some 22), .call (.av (.func 10 [])) [(.tmp 21)], none, false⟩,
 ⟨(some 23), .len (.tmp 22), none, true⟩,
 ⟨(some 24), .mv (.tmp 0), none, true⟩,
 ⟨(some 25), .nilCheck (.tmp 24), none, true⟩,
 ⟨(some 26), .fieldAddr 0 (.tmp 25), none, true⟩,
 ⟨(some 27), .load none (.tmp 26), none, false⟩,
 ⟨(some 28), .bin .geq (.tmp 23) (.tmp 27), none, true⟩,
 ⟨(some 20), .mv (.tmp 28), none, true⟩])
 (.cond (.tmp 20)
 (.ops [⟨(some 29), .mv (.tmp 0), none, true⟩,
 ⟨(some 30), .call (.av (.func 21 [])) [(.tmp 29)], none, true⟩])
 (.skip))))))))
 (.seq (.opsD [⟨(some 31), .mv (.tmp 0), none, true⟩,
 ⟨(some 32), .mv (.tmp 0), none, true⟩,
 ⟨(some 33), .nilCheck (.tmp 32), none, true⟩,
 ⟨(some 34), .fieldAddr 1 (.tmp 33), none, true⟩,
 ⟨(some 35), .load none (.tmp 34), none, false⟩,
 ⟨(some 36), .lits 1 1 [(.val (.int .i64 0))] [(0, 1, (.av (.val (.int .i64 (-1)))))], none, true⟩,
 ⟨(some 37), .mv (.tmp 1), none, true⟩,
 ⟨(some 38), .call (.av (.func 28 [])) [(.tmp 36), (.tmp 37)], none, false⟩,
 ⟨(some 39), .build [(.val (.slice none 0 0)), (.val (.int .i64 0)), (.val (.bool false))] [(0, 1, (.tmp 38)), (2, 1, (.av (.val (.bool true))))], none, true⟩,
 ⟨(some 40), .lits 3 1 [(.val (.slice none 0 0)), (.val (.int .i64 0)), (.val (.bool false))] [(0, 3, (.tmp 39))], none, true⟩,
 ⟨(some 41), .append 3 40 (.tmp 35) (.tmp 40), none, true⟩,
 ⟨(some 42), .nilCheck (.tmp 31), none, true⟩,
 ⟨(some 43), .fieldAddr 1 (.tmp 42), none, true⟩,
 ⟨none, .store 1 (.tmp 43) (.tmp 41), none, true⟩])
 (.seq (.ops [⟨(some 44), .mv (.tmp 0), none, true⟩,
 ⟨(some 45), .nilCheck (.tmp 44), none, true⟩,
 ⟨(some 46), .fieldAddr 1 (.tmp 45), none, true⟩,
 ⟨(some 47), .load none (.tmp 46), none, true⟩,
 ⟨(some 48), .len (.tmp 47), none, true⟩,
 ⟨(some 49), .bin .sub (.tmp 48) (.av (.val (.int .i64 1))), none, true⟩,
 ⟨(some 4), .mv (.tmp 49), none, true⟩,
 ⟨(some 5), .mv (.av (.val (.int .i64 0))), none, true⟩])
 (.ret))))
theorem f_ge_make : cFunc Try.prog 18 = some ⟨50, c_ge_make, [.tmp 4, .tmp 5]⟩ := by kernel_rfl
def c_ge_set : ACode := .seq (.ops [⟨(some 3), .box 4 (.tmp 1), none, true⟩,
 ⟨(some 4), .mv (.av (.val (.int .i64 0))), none, true⟩])
 (.seq (.ops [⟨(some 8), .fieldAddr 1 (.tmp 3), none, true⟩,
 ⟨(some 9), .load none (.tmp 8), none, true⟩,
 ⟨(some 10), .fieldAddr 2 (.tmp 3), none, true⟩,
 ⟨(some 11), .load none (.tmp 10), none, true⟩,
 ⟨(some 12), .lits 1 2 [(.val (.int .i64 0)), (.val (.int .i64 0))] [(0, 1, (.tmp 9)), (1, 1, (.tmp 11))], none, true⟩,
 ⟨(some 5), .mv (.tmp 12), none, true⟩])
 (.seq (.seq (.ops [⟨(some 13), .fieldAddr 2 (.tmp 3), none, true⟩,
 ⟨(some 14), .load none (.tmp 13), none, true⟩,
 ⟨(some 15), .bin .eql (.tmp 14) (.av (.val (.int .i64 (-1)))), none, true⟩])
 (.cond (.tmp 15)
 (.ops [⟨(some 16), .mv (.tmp 5), none, true⟩,
 ⟨(some 17), .slice 1 (.tmp 16) none (some (.av (.val (.int .i64 1)))) none, none, true⟩,
 ⟨(some 5), .mv (.tmp 17), none, true⟩])
 (.skip)))
 (.seq (.seq (.ops [⟨(some 18), .mv (.tmp 0), none, true⟩,
 ⟨(some 19), .mv (.tmp 5), none, true⟩,
 ⟨(some 20), .call (.av (.func 29 [])) [(.tmp 18), (.tmp 19)], none, true⟩,
 ⟨(some 6), .mv (.tmp 20), none, true⟩])
 (.seq (.ops [⟨(some 21), .mv (.tmp 6), none, true⟩,
 ⟨(some 22), .bin .neq (.tmp 21) (.av (.val (.int .i64 0))), none, true⟩])
 (.cond (.tmp 22)
 (.seq (.ops [⟨(some 23), .mv (.tmp 6), none, true⟩,
 ⟨(some 4), .mv (.tmp 23), none, true⟩])
 (.ret))
 (.skip))))
 (.seq (.opsD [⟨(some 24), .mv (.tmp 0), none, true⟩,
 ⟨(some 25), .nilCheck (.tmp 24), none, true⟩,
 ⟨(some 26), .fieldAddr 1 (.tmp 25), none, true⟩,
 ⟨(some 27), .load none (.tmp 26), none, true⟩,
 ⟨(some 28), .fieldAddr 1 (.tmp 3), none, true⟩,
 ⟨(some 29), .load none (.tmp 28), none, true⟩,
 ⟨(some 30), .indexAddr 3 (.tmp 27) (.tmp 29), none, true⟩,
 ⟨(some 31), .load (some 3) (.tmp 30), none, true⟩,
 ⟨(some 7), .zero [(.val (.slice none 0 0)), (.val (.int .i64 0)), (.val (.bool false))], none, true⟩,
 ⟨none, .store 3 (.tmp 7) (.tmp 31), none, true⟩])
 (.seq (.seq (.ops [⟨(some 32), .fieldAddr 3 (.tmp 3), none, true⟩,
 ⟨(some 33), .load none (.tmp 32), none, true⟩,
 ⟨(some 34), .bin .lss (.tmp 33) (.av (.val (.int .i64 0))), none, true⟩,
 ⟨(some 35), .mv (.tmp 34), none, true⟩,
 ⟨(some 36), .fieldAddr 3 (.tmp 3), (some (35, false)), true⟩,
 ⟨(some 37), .load none (.tmp 36), (some (35, false)), true⟩,
 ⟨(some 38), .fieldAddr 0 (.tmp 7), (some (35, false)), true⟩,
 ⟨(some 39), .load none (.tmp 38), (some (35, false)), true⟩,
 ⟨(some 40), .len (.tmp 39), (some (35, false)), true⟩,
 ⟨(some 41), .bin .geq (.tmp 37) (.tmp 40), (some (35, false)), true⟩,
 ⟨(some 42), .pick (.tmp 35) (.av (.val (.bool true))) (.tmp 41), none, true⟩])
 (.cond (.tmp 42)
 (.seq (.ops [⟨(some 4), .mv (.av (.val (.int .i64 1))), none, true⟩])
 (.ret))
 (.skip)))
 (.seq (.ops [⟨(some 43), .fieldAddr 0 (.tmp 7), none, true⟩,
 ⟨(some 44), .load none (.tmp 43), none, true⟩,
 ⟨(some 45), .fieldAddr 3 (.tmp 3), none, true⟩,
 ⟨(some 46), .load none (.tmp 45), none, true⟩,
 ⟨(some 47), .fieldAddr 2 (.tmp 3), none, true⟩,
 ⟨(some 48), .load none (.tmp 47), none, true⟩,
 ⟨(some 49), .indexAddr 1 (.tmp 44) (.tmp 46), none, true⟩,
 ⟨none, .store 1 (.tmp 49) (.tmp 48), none, true⟩])
 (.seq (.seq (.ops [⟨(some 50), .fieldAddr 1 (.tmp 7), none, true⟩,
 ⟨(some 51), .load none (.tmp 50), none, true⟩,
 ⟨(some 52), .bin .eql (.tmp 51) (.av (.val (.int .i64 1))), none, true⟩,
 ⟨(some 53), .mv (.tmp 52), none, true⟩,
 ⟨(some 54), .mv (.tmp 0), (some (53, true)), true⟩,
 ⟨(some 55), .fieldAddr 2 (.tmp 3), (some (53, true)), true⟩,
 ⟨(some 56), .load none (.tmp 55), (some (53, true)), true⟩,
 ⟨(some 57), .call (.av (.func 26 [])) [(.tmp 54), (.tmp 56)], (some (53, true)), true⟩,
 ⟨(some 58), .pick (.tmp 53) (.tmp 57) (.av (.val (.bool false))), none, true⟩])
 (.cond (.tmp 58)
 (.opsD [⟨(some 59), .mv (.tmp 0), none, true⟩,
 ⟨(some 60), .nilCheck (.tmp 59), none, true⟩,
 ⟨(some 61), .fieldAddr 2 (.tmp 60), none, true⟩,
 ⟨(some 62), .load none (.tmp 61), none, true⟩,
 ⟨(some 63), .fieldAddr 1 (.tmp 3), none, true⟩,
 ⟨(some 64), .load none (.tmp 63), none, true⟩,
 ⟨(some 65), .build [] [], none, true⟩,
 ⟨none, .mapSet (.tmp 62) (.tmp 64) (.tmp 65), none, true⟩])
 (.skip)))
 (.seq (.ops [⟨(some 4), .mv (.av (.val (.int .i64 0))), none, true⟩])
 (.ret)))))))))
theorem f_ge_set : cFunc Try.prog 19 = some ⟨66, c_ge_set, [.tmp 4]⟩ := by kernel_rfl
def c_ge_hold : ACode := .seq (.ops [⟨(some 6), .mv (.av (.val (.int .i64 0))), none, true⟩])
 (.seq (.seq (.ops [⟨(some 8), .mv (.tmp 0), none, true⟩,
 ⟨(some 9), .mv (.tmp 1), none, true⟩,
 ⟨(some 10), .lits 1 1 [(.val (.int .i64 0))] [(0, 1, (.tmp 9))], none, true⟩,
 ⟨(some 11), .call (.av (.func 29 [])) [(.tmp 8), (.tmp 10)], none, true⟩,
 ⟨(some 7), .mv (.tmp 11), none, true⟩])
 (.seq (.ops [⟨(some 12), .mv (.tmp 7), none, true⟩,
 ⟨(some 13), .bin .neq (.tmp 12) (.av (.val (.int .i64 0))), none, true⟩])
 (.cond (.tmp 13)
 (.seq (.ops [⟨(some 14), .mv (.tmp 7), none, true⟩,
 ⟨(some 6), .mv (.tmp 14), none, true⟩])
 (.ret))
 (.skip))))
 (.seq (.seq (.ops [⟨(some 15), .mv (.tmp 2), none, true⟩,
 ⟨(some 16), .un .not (.tmp 15), none, true⟩,
 ⟨(some 17), .mv (.tmp 16), none, true⟩,
 ⟨(some 18), .mv (.tmp 0), (some (17, true)), true⟩,
 ⟨(some 19), .nilCheck (.tmp 18), (some (17, true)), true⟩,
 ⟨(some 20), .fieldAddr 1 (.tmp 19), (some (17, true)), true⟩,
 ⟨(some 21), .load none (.tmp 20), (some (17, true)), true⟩,
 ⟨(some 22), .mv (.tmp 1), (some (17, true)), true⟩,
 ⟨(some 23), .indexAddr 3 (.tmp 21) (.tmp 22), (some (17, true)), true⟩,
 ⟨(some 24), .fieldAddr 2 (.tmp 23), (some (17, true)), true⟩,
 ⟨(some 25), .load none (.tmp 24), (some (17, true)), true⟩,
 ⟨(some 26), .un .not (.tmp 25), (some (17, true)), true⟩,
 ⟨(some 27), .pick (.tmp 17) (.tmp 26) (.av (.val (.bool false))), none, true⟩])
 (.cond (.tmp 27)
 (.seq (.ops [⟨(some 6), .mv (.av (.val (.int .i64 8))), none, true⟩])
 (.ret))
 (.skip)))
 (.seq (.ops [⟨(some 28), .mv (.tmp 0), none, true⟩,
 ⟨(some 29), .nilCheck (.tmp 28), none, true⟩,
 ⟨(some 30), .fieldAddr 1 (.tmp 29), none, true⟩,
 ⟨(some 31), .load none (.tmp 30), none, true⟩,
 ⟨(some 32), .mv (.tmp 1), none, true⟩,
 ⟨(some 33), .mv (.tmp 2), none, true⟩,
 ⟨(some 34), .indexAddr 3 (.tmp 31) (.tmp 32), none, true⟩,
 ⟨(some 35), .fieldAddr 2 (.tmp 34), none, true⟩,
 ⟨none, .store 1 (.tmp 35) (.tmp 33), none, true⟩])
 (.seq (.ops [⟨(some 6), .mv (.av (.val (.int .i64 0))), none, true⟩])
 (.ret)))))
theorem f_ge_hold : cFunc Try.prog 20 = some ⟨36, c_ge_hold, [.tmp 6]⟩ := by kernel_rfl
def c_ge_minor : ACode := .seq (.ops [⟨(some 1), .box 1 (.tmp 0), none, true⟩,
 ⟨(some 2), .mv (.av (.val (.int .i64 0))), none, true⟩])
 (.seq (.ops [⟨(some 10), .load none (.tmp 1), none, true⟩,
 ⟨(some 11), .nilCheck (.tmp 10), none, true⟩,
 ⟨(some 12), .fieldAddr 1 (.tmp 11), none, true⟩,
 ⟨(some 13), .load none (.tmp 12), none, true⟩,
 ⟨(some 14), .len (.tmp 13), none, true⟩,
 ⟨(some 15), .mkSlice 1 1 [(.val (.bool false))] (.tmp 14) (.tmp 14), none, true⟩,
 ⟨(some 3), .zero [(.val (.slice none 0 0))], none, true⟩,
 ⟨none, .store 1 (.tmp 3) (.tmp 15), none, true⟩])
 (.seq (.ops [⟨(some 4), .zero [(.val (.slice none 0 0))], none, true⟩])
 (.seq (.ops [⟨(some 16), .func 30 [(.tmp 1), (.tmp 3), (.tmp 4)], none, true⟩,
 ⟨(some 5), .mv (.tmp 16), none, true⟩])
 (.seq (.seq (.ops [⟨(some 17), .load none (.tmp 1), none, true⟩,
 ⟨(some 18), .nilCheck (.tmp 17), none, true⟩,
 ⟨(some 19), .fieldAddr 1 (.tmp 18), none, true⟩,
 ⟨(some 20), .load none (.tmp 19), none, true⟩,
 ⟨(some 21), .len (.tmp 20), none, true⟩,
 ⟨(some 22), .mv (.av (.val (.int .i64 0))), none, true⟩])
 (rangeCode 0 1 23 22 21 33
 (.seq (.ops [⟨(some 24), .mv (.tmp 22), none, true⟩,
 ⟨(some 25), .indexAddr 3 (.tmp 20) (.tmp 22), none, true⟩,
 ⟨(some 26), .load (some 3) (.tmp 25), none, true⟩,
 ⟨(some 7), .zero [(.val (.slice none 0 0)), (.val (.int .i64 0)), (.val (.bool false))], none, true⟩,
 ⟨(some 6), .mv (.tmp 24), none, true⟩,
 ⟨none, .store 3 (.tmp 7) (.tmp 26), none, true⟩])
 (.seq (.ops [⟨(some 27), .fieldAddr 2 (.tmp 7), none, true⟩,
 ⟨(some 28), .load none (.tmp 27), none, true⟩])
 (.cond (.tmp 28)
 (.ops [⟨(some 29), .mv (.tmp 5), none, true⟩,
 ⟨(some 30), .mv (.tmp 6), none, true⟩,
 ⟨(some 31), .lits 1 1 [(.val (.int .i64 0))] [(0, 1, (.tmp 30))], none, true⟩,
 ⟨(some 32), .call (.tmp 29) [(.tmp 31)], none, true⟩])
 (.skip))))))
 (.seq (.rng true (.tmp 37) 38 39 40 41 2 3 [⟨(some 34), .load none (.tmp 1), none, true⟩,
 ⟨(some 35), .nilCheck (.tmp 34), none, true⟩,
 ⟨(some 36), .fieldAddr 2 (.tmp 35), none, true⟩,
 ⟨(some 37), .load none (.tmp 36), none, true⟩] [⟨(some 42), .extract 0 (.tmp 41), none, true⟩,
 ⟨(some 8), .mv (.tmp 42), none, true⟩]
 (.ops [⟨(some 43), .mv (.tmp 5), none, true⟩,
 ⟨(some 44), .load none (.tmp 1), none, true⟩,
 ⟨(some 45), .nilCheck (.tmp 44), none, true⟩,
 ⟨(some 46), .fieldAddr 1 (.tmp 45), none, true⟩,
 ⟨(some 47), .load none (.tmp 46), none, true⟩,
 ⟨(some 48), .mv (.tmp 8), none, true⟩,
 ⟨(some 49), .indexAddr 3 (.tmp 47) (.tmp 48), none, true⟩,
 ⟨(some 50), .fieldAddr 0 (.tmp 49), none, true⟩,
 ⟨(some 51), .load none (.tmp 50), none, true⟩,
 ⟨(some 52), .call (.tmp 43) [(.tmp 51)], none, true⟩]))
 (.seq (.block 4 (.loop (.seq (.seq (.ops [⟨(some 53), .load none (.tmp 4), none, true⟩,
 ⟨(some 54), .len (.tmp 53), none, true⟩,
 ⟨(some 55), .bin .gtr (.tmp 54) (.av (.val (.int .i64 0))), none, true⟩])
 (.cond (.tmp 55)
 (.skip)
 (.exit 4)))
 (.block 5 (.seq (.ops [⟨(some 56), .load none (.tmp 4), none, true⟩,
 ⟨(some 57), .indexAddr 1 (.tmp 56) (.av (.val (.int .i64 0))), none, true⟩,
 ⟨(some 58), .load none (.tmp 57), none, true⟩,
 ⟨(some 9), .mv (.tmp 58), none, true⟩])
 (.seq (.ops [⟨(some 59), .load none (.tmp 4), none, true⟩,
 ⟨(some 60), .slice 1 (.tmp 59) (some (.av (.val (.int .i64 1)))) none none, none, true⟩,
 ⟨none, .store 1 (.tmp 4) (.tmp 60), none, true⟩])
 (.ops [⟨(some 61), .mv (.tmp 5), none, true⟩,
 ⟨(some 62), .load none (.tmp 1), none, true⟩,
 ⟨(some 63), .nilCheck (.tmp 62), none, true⟩,
 ⟨(some 64), .fieldAddr 1 (.tmp 63), none, true⟩,
 ⟨(some 65), .load none (.tmp 64), none, true⟩,
 ⟨(some 66), .mv (.tmp 9), none, true⟩,
 ⟨(some 67), .indexAddr 3 (.tmp 65) (.tmp 66), none, true⟩,
 ⟨(some 68), .fieldAddr 0 (.tmp 67), none, true⟩,
 ⟨(some 69), .load none (.tmp 68), none, true⟩,
 ⟨(some 70), .call (.tmp 61) [(.tmp 69)], none, true⟩])))))))
 (.seq (.ops [⟨(some 71), .load none (.tmp 1), none, true⟩,
 ⟨(some 72), .load none (.tmp 3), none, true⟩,
 ⟨(some 73), .lits 1 1 [(.val (.int .i64 0))] [(0, 1, (.av (.val (.int .i64 0))))], none, true⟩,
 ⟨(some 74), .call (.av (.func 31 [])) [(.tmp 71), (.tmp 72), (.tmp 73)], none, true⟩,
 ⟨(some 2), .mv (.tmp 74), none, true⟩])
 (.ret))))))))
theorem f_ge_minor : cFunc Try.prog 21 = some ⟨75, c_ge_minor, [.tmp 2]⟩ := by kernel_rfl
def c_ge_major : ACode := .seq (.ops [⟨(some 2), .mv (.av (.val (.int .i64 0))), none, true⟩])
 (.seq (.ops [⟨(some 4), .mv (.tmp 0), none, true⟩,
 ⟨(some 5), .call (.av (.func 13 [])) [(.tmp 4)], none, true⟩,
 ⟨(some 3), .zero [(.val (.slice none 0 0)), (.val (.slice none 0 0))], none, true⟩,
 ⟨none, .store 2 (.tmp 3) (.tmp 5), none, true⟩])
 (.seq (.ops [⟨(some 6), .mv (.tmp 0), none, true⟩,
 ⟨(some 7), .load (some 2) (.tmp 3), none, true⟩,
 ⟨(some 8), .fieldAddr 1 (.tmp 3), none, true⟩,
 ⟨(some 9), .load none (.tmp 8), none, true⟩,
 ⟨(some 10), .call (.av (.func 32 [])) [(.tmp 7), (.tmp 9)], none, true⟩,
 ⟨(some 11), .lits 1 2 [(.val (.int .i64 0)), (.val (.int .i64 0))] [(0, 1, (.av (.val (.int .i64 0)))), (1, 1, (.av (.val (.int .i64 1))))], none, true⟩,
 ⟨(some 12), .call (.av (.func 31 [])) [(.tmp 6), (.tmp 10), (.tmp 11)], none, true⟩,
 ⟨(some 2), .mv (.tmp 12), none, true⟩])
 (.ret)))
theorem f_ge_major : cFunc Try.prog 22 = some ⟨13, c_ge_major, [.tmp 2]⟩ := by kernel_rfl
def c_mk_rising : ACode := .seq (.ops [⟨(some 2), .mv (.av (.val (.slice none 0 0))), none, true⟩])
 (.seq (.ops [⟨(some 3), .mv (.av (.val (.slice none 0 0))), none, true⟩])
 (.seq (.seq (.ops [⟨(some 6), .mv (.tmp 0), none, true⟩,
 ⟨(some 7), .len (.tmp 6), none, true⟩,
 ⟨(some 8), .mv (.av (.val (.int .i64 0))), none, true⟩])
 (rangeCode 0 1 9 8 7 18
 (.seq (.ops [⟨(some 10), .mv (.tmp 8), none, true⟩,
 ⟨(some 11), .indexAddr 1 (.tmp 6) (.tmp 8), none, true⟩,
 ⟨(some 12), .load none (.tmp 11), none, true⟩,
 ⟨(some 4), .mv (.tmp 10), none, true⟩,
 ⟨(some 5), .mv (.tmp 12), none, true⟩])
 (.seq (.ops [⟨(some 13), .mv (.tmp 5), none, true⟩])
 (.cond (.tmp 13)
 (.ops [⟨(some 14), .mv (.tmp 3), none, true⟩,
 ⟨(some 15), .mv (.tmp 4), none, true⟩,
 ⟨(some 16), .lits 1 1 [(.val (.int .i64 0))] [(0, 1, (.tmp 15))], none, true⟩,
 ⟨(some 17), .append 1 8 (.tmp 14) (.tmp 16), none, true⟩,
 ⟨(some 3), .mv (.tmp 17), none, true⟩])
 (.skip))))))
 (.seq (.ops [⟨(some 19), .mv (.tmp 3), none, true⟩,
 ⟨(some 2), .mv (.tmp 19), none, true⟩])
 (.ret))))
theorem f_mk_rising : cFunc Try.prog 23 = some ⟨20, c_mk_rising, [.tmp 2]⟩ := by kernel_rfl
def c_mk_from : ACode := .seq (.ops [⟨(some 3), .box 2 (.tmp 0), none, true⟩,
 ⟨(some 6), .mv (.av (.val (.slice none 0 0))), none, true⟩])
 (.seq (.ops [⟨(some 18), .fieldAddr 0 (.tmp 3), none, true⟩,
 ⟨(some 19), .load none (.tmp 18), none, true⟩,
 ⟨(some 20), .len (.tmp 19), none, true⟩,
 ⟨(some 21), .mkSlice 1 1 [(.val (.bool false))] (.tmp 20) (.tmp 20), none, true⟩,
 ⟨(some 7), .zero [(.val (.slice none 0 0))], none, true⟩,
 ⟨none, .store 1 (.tmp 7) (.tmp 21), none, true⟩])
 (.seq (.seq (.ops [⟨(some 22), .mv (.tmp 1), none, true⟩,
 ⟨(some 23), .len (.tmp 22), none, true⟩,
 ⟨(some 24), .mv (.av (.val (.int .i64 0))), none, true⟩])
 (rangeCode 0 1 25 24 23 31
 (.seq (.ops [⟨(some 26), .indexAddr 1 (.tmp 22) (.tmp 24), none, true⟩,
 ⟨(some 27), .load none (.tmp 26), none, true⟩,
 ⟨(some 9), .mv (.tmp 27), none, true⟩])
 (.ops [⟨(some 28), .load none (.tmp 7), none, true⟩,
 ⟨(some 29), .mv (.tmp 9), none, true⟩,
 ⟨(some 30), .indexAddr 1 (.tmp 28) (.tmp 29), none, true⟩,
 ⟨none, .store 1 (.tmp 30) (.av (.val (.bool true))), none, true⟩]))))
 (.seq (.seq (.ops [⟨(some 10), .zero [(.val (.bool false))], none, true⟩,
 ⟨none, .store 1 (.tmp 10) (.av (.val (.bool true))), none, true⟩])
 (.block 2 (.loop (.seq (.seq (.ops [⟨(some 32), .load none (.tmp 10), none, true⟩])
 (.cond (.tmp 32)
 (.skip)
 (.exit 2)))
 (.seq (.block 3 (.seq (.ops [⟨none, .store 1 (.tmp 10) (.av (.val (.bool false))), none, true⟩])
 (.seq (.ops [⟨(some 33), .func 33 [(.tmp 10), (.tmp 7)], none, true⟩,
 ⟨(some 11), .mv (.tmp 33), none, true⟩])
 (.seq (.seq (.ops [⟨(some 34), .fieldAddr 0 (.tmp 3), none, true⟩,
 ⟨(some 35), .load none (.tmp 34), none, true⟩,
 ⟨(some 36), .len (.tmp 35), none, true⟩,
 ⟨(some 37), .mv (.av (.val (.int .i64 0))), none, true⟩])
 (rangeCode 4 5 38 37 36 56
 (.seq (.ops [⟨(some 39), .mv (.tmp 37), none, true⟩,
 ⟨(some 40), .indexAddr 1 (.tmp 35) (.tmp 37), none, true⟩,
 ⟨(some 41), .load none (.tmp 40), none, true⟩,
 ⟨(some 12), .mv (.tmp 39), none, true⟩,
 ⟨(some 13), .mv (.tmp 41), none, true⟩])
 (.seq (.ops [⟨(some 42), .mv (.tmp 13), none, true⟩,
 ⟨(some 43), .len (.tmp 42), none, true⟩,
 ⟨(some 44), .mv (.av (.val (.int .i64 0))), none, true⟩])
 (rangeCode 6 7 45 44 43 55
 (.seq (.ops [⟨(some 46), .indexAddr 1 (.tmp 42) (.tmp 44), none, true⟩,
 ⟨(some 47), .load none (.tmp 46), none, true⟩,
 ⟨(some 15), .mv (.tmp 47), none, true⟩])
 (.seq (.ops [⟨(some 48), .load none (.tmp 7), none, true⟩,
 ⟨(some 49), .mv (.tmp 12), none, true⟩,
 ⟨(some 50), .indexAddr 1 (.tmp 48) (.tmp 49), none, true⟩,
 ⟨(some 51), .load none (.tmp 50), none, true⟩])
 (.cond (.tmp 51)
 (.ops [⟨(some 52), .mv (.tmp 11), none, true⟩,
 ⟨(some 53), .mv (.tmp 15), none, true⟩,
 ⟨(some 54), .call (.tmp 52) [(.tmp 53)], none, true⟩])
 (.skip)))))))))
 (.seq (.ops [⟨(some 57), .mv (.tmp 2), none, true⟩,
 ⟨(some 58), .len (.tmp 57), none, true⟩,
 ⟨(some 59), .mv (.av (.val (.int .i64 0))), none, true⟩])
 (rangeCode 8 9 60 59 58 72
 (.seq (.ops [⟨(some 61), .indexAddr 2 (.tmp 57) (.tmp 59), none, true⟩,
 ⟨(some 62), .load (some 2) (.tmp 61), none, true⟩,
 ⟨(some 17), .zero [(.val (.int .i64 0)), (.val (.int .i64 0))], none, true⟩,
 ⟨none, .store 2 (.tmp 17) (.tmp 62), none, true⟩])
 (.seq (.ops [⟨(some 63), .load none (.tmp 7), none, true⟩,
 ⟨(some 64), .fieldAddr 0 (.tmp 17), none, true⟩,
 ⟨(some 65), .load none (.tmp 64), none, true⟩,
 ⟨(some 66), .indexAddr 1 (.tmp 63) (.tmp 65), none, true⟩,
 ⟨(some 67), .load none (.tmp 66), none, true⟩])
 (.cond (.tmp 67)
 (.ops [⟨(some 68), .mv (.tmp 11), none, true⟩,
 ⟨(some 69), .fieldAddr 1 (.tmp 17), none, true⟩,
 ⟨(some 70), .load none (.tmp 69), none, true⟩,
 ⟨(some 71), .call (.tmp 68) [(.tmp 70)], none, true⟩])
 (.skip))))))))))
 (.seq (.ops [⟨(some 73), .load none (.tmp 10), none, true⟩])
 (.ops [⟨(some 10), .zero [(.val (.bool false))], none, true⟩,
 ⟨none, .store 1 (.tmp 10) (.tmp 73), none, true⟩])))))))
 (.seq (.ops [⟨(some 74), .load none (.tmp 7), none, true⟩,
 ⟨(some 6), .mv (.tmp 74), none, true⟩])
 (.ret)))))
theorem f_mk_from : cFunc Try.prog 24 = some ⟨75, c_mk_from, [.tmp 6]⟩ := by kernel_rfl
def c_ge_isyoung : ACode := .seq (.ops [⟨(some 4), .mv (.av (.val (.bool false))), none, true⟩])
 (.seq (.ops [⟨(some 5), .mv (.tmp 1), none, true⟩,
 ⟨(some 6), .bin .geq (.tmp 5) (.av (.val (.int .i64 0))), none, true⟩,
 ⟨(some 7), .mv (.tmp 6), none, true⟩,
 ⟨(some 8), .mv (.tmp 0), (some (7, true)), true⟩,
 ⟨(some 9), .nilCheck (.tmp 8), (some (7, true)), true⟩,
 ⟨(some 10), .fieldAddr 1 (.tmp 9), (some (7, true)), true⟩,
 ⟨(some 11), .load none (.tmp 10), (some (7, true)), true⟩,
 ⟨(some 12), .mv (.tmp 1), (some (7, true)), true⟩,
 ⟨(some 13), .indexAddr 3 (.tmp 11) (.tmp 12), (some (7, true)), true⟩,
 ⟨(some 14), .fieldAddr 1 (.tmp 13), (some (7, true)), true⟩,
 ⟨(some 15), .load none (.tmp 14), (some (7, true)), true⟩,
 ⟨(some 16), .bin .eql (.tmp 15) (.av (.val (.int .i64 0))), (some (7, true)), true⟩,
 ⟨(some 17), .pick (.tmp 7) (.tmp 16) (.av (.val (.bool false))), none, true⟩,
 ⟨(some 4), .mv (.tmp 17), none, true⟩])
 (.ret))
theorem f_ge_isyoung : cFunc Try.prog 26 = some ⟨18, c_ge_isyoung, [.tmp 4]⟩ := by kernel_rfl
def c_mk_repeat : ACode := .seq (.ops [⟨(some 4), .mv (.av (.val (.slice none 0 0))), none, true⟩])
 (.seq (.seq (.ops [⟨(some 9), .mv (.tmp 1), none, true⟩,
 ⟨(some 10), .bin .lss (.tmp 9) (.av (.val (.int .i64 0))), none, true⟩])
 (.cond (.tmp 10)
 (.ops [⟨(some 11), .bad, none, true⟩,
 ⟨none, .bad, none, true⟩])
 (.skip)))
 (.seq (.ops [⟨(some 13), .mv (.tmp 0), none, true⟩,
 ⟨(some 14), .len (.tmp 13), none, true⟩,
 ⟨(some 15), .conv .u64 (.tmp 14), none, true⟩,
 ⟨(some 16), .mv (.tmp 1), none, true⟩,
 ⟨(some 17), .conv .u64 (.tmp 16), none, true⟩,
 ⟨(some 18), .call (.av (.func 37 [])) [(.tmp 15), (.tmp 17)], none, true⟩,
 ⟨(some 12), .mv (.tmp 18), none, true⟩,
 ⟨(some 19), .extract 0 (.tmp 12), none, true⟩,
 ⟨(some 20), .extract 1 (.tmp 12), none, true⟩,
 ⟨(some 5), .mv (.tmp 19), none, true⟩,
 ⟨(some 6), .mv (.tmp 20), none, true⟩])
 (.seq (.seq (.ops [⟨(some 21), .mv (.tmp 5), none, true⟩,
 ⟨(some 22), .bin .gtr (.tmp 21) (.av (.val (.int .u64 0))), none, true⟩,
 ⟨(some 23), .mv (.tmp 22), none, true⟩,
 ⟨(some 24), .mv (.tmp 6), (some (23, false)), true⟩,
 ⟨(some 25), .bin .gtr (.tmp 24) (.av (.val (.int .u64 9223372036854775807))), (some (23, false)), true⟩,
 ⟨(some 26), .pick (.tmp 23) (.av (.val (.bool true))) (.tmp 25), none, true⟩])
 (.cond (.tmp 26)
 (.ops [⟨(some 27), .bad, none, true⟩,
 ⟨none, .bad, none, true⟩])
 (.skip)))
 (.seq (.ops [⟨(some 28), .mv (.tmp 6), none, true⟩,
 ⟨(some 29), .conv .i64 (.tmp 28), none, true⟩,
 ⟨(some 30), .mkSlice 1 8 [(.val (.int .i64 0))] (.tmp 29) (.tmp 29), none, true⟩,
 ⟨(some 7), .mv (.tmp 30), none, true⟩])
 (.seq (.ops [⟨(some 31), .mv (.tmp 7), none, true⟩,
 ⟨(some 32), .mv (.tmp 0), none, true⟩,
 ⟨(some 33), .copy 1 (.tmp 31) (.tmp 32), none, true⟩,
 ⟨(some 8), .mv (.tmp 33), none, true⟩])
 (.seq (.block 0 (.loop (.seq (.seq (.ops [⟨(some 34), .mv (.tmp 8), none, true⟩,
 ⟨(some 35), .mv (.tmp 7), none, true⟩,
 ⟨(some 36), .len (.tmp 35), none, true⟩,
 ⟨(some 37), .bin .lss (.tmp 34) (.tmp 36), none, true⟩])
 (.cond (.tmp 37)
 (.skip)
 (.exit 0)))
 (.block 1 (.opsD [⟨(some 38), .mv (.tmp 8), none, true⟩,
 ⟨(some 39), .mv (.tmp 7), none, true⟩,
 ⟨(some 40), .mv (.tmp 8), none, true⟩,
 ⟨(some 41), .slice 1 (.tmp 39) (some (.tmp 40)) none none, none, true⟩,
 ⟨(some 42), .mv (.tmp 7), none, true⟩,
 ⟨(some 43), .mv (.tmp 8), none, true⟩,
 ⟨(some 44), .slice 1 (.tmp 42) none (some (.tmp 43)) none, none, true⟩,
 ⟨(some 45), .copy 1 (.tmp 41) (.tmp 44), none, true⟩,
 ⟨(some 46), .bin .add (.tmp 38) (.tmp 45), none, true⟩,
 ⟨(some 8), .mv (.tmp 46), none, true⟩])))))
 (.seq (.ops [⟨(some 47), .mv (.tmp 7), none, true⟩,
 ⟨(some 4), .mv (.tmp 47), none, true⟩])
 (.ret))))))))
theorem f_mk_repeat : cFunc Try.prog 28 = some ⟨48, c_mk_repeat, [.tmp 4]⟩ := by kernel_rfl
def c_ge_named : ACode := .seq (.ops [⟨(some 4), .mv (.av (.val (.int .i64 0))), none, true⟩])
 (.seq (.seq (.ops [⟨(some 11), .mv (.tmp 1), none, true⟩,
 ⟨(some 12), .len (.tmp 11), none, true⟩,
 ⟨(some 13), .mv (.av (.val (.int .i64 0))), none, true⟩])
 (rangeCode 0 1 14 13 12 28
 (.seq (.ops [⟨(some 15), .indexAddr 1 (.tmp 11) (.tmp 13), none, true⟩,
 ⟨(some 16), .load none (.tmp 15), none, true⟩,
 ⟨(some 6), .mv (.tmp 16), none, true⟩])
 (.seq (.ops [⟨(some 17), .mv (.tmp 6), none, true⟩,
 ⟨(some 18), .bin .lss (.tmp 17) (.av (.val (.int .i64 0))), none, true⟩,
 ⟨(some 19), .mv (.tmp 18), none, true⟩,
 ⟨(some 20), .mv (.tmp 6), (some (19, false)), true⟩,
 ⟨(some 21), .mv (.tmp 0), (some (19, false)), true⟩,
 ⟨(some 22), .nilCheck (.tmp 21), (some (19, false)), true⟩,
 ⟨(some 23), .fieldAddr 1 (.tmp 22), (some (19, false)), true⟩,
 ⟨(some 24), .load none (.tmp 23), (some (19, false)), true⟩,
 ⟨(some 25), .len (.tmp 24), (some (19, false)), true⟩,
 ⟨(some 26), .bin .geq (.tmp 20) (.tmp 25), (some (19, false)), true⟩,
 ⟨(some 27), .pick (.tmp 19) (.av (.val (.bool true))) (.tmp 26), none, true⟩])
 (.cond (.tmp 27)
 (.seq (.ops [⟨(some 4), .mv (.av (.val (.int .i64 5))), none, true⟩])
 (.ret))
 (.skip))))))
 (.seq (.ops [⟨(some 29), .mv (.tmp 0), none, true⟩,
 ⟨(some 30), .call (.av (.func 13 [])) [(.tmp 29)], none, true⟩,
 ⟨(some 7), .zero [(.val (.slice none 0 0)), (.val (.slice none 0 0))], none, true⟩,
 ⟨none, .store 2 (.tmp 7) (.tmp 30), none, true⟩])
 (.seq (.ops [⟨(some 31), .load (some 2) (.tmp 7), none, true⟩,
 ⟨(some 32), .fieldAddr 1 (.tmp 7), none, true⟩,
 ⟨(some 33), .load none (.tmp 32), none, true⟩,
 ⟨(some 34), .call (.av (.func 32 [])) [(.tmp 31), (.tmp 33)], none, true⟩,
 ⟨(some 8), .mv (.tmp 34), none, true⟩])
 (.seq (.seq (.ops [⟨(some 35), .mv (.tmp 1), none, true⟩,
 ⟨(some 36), .len (.tmp 35), none, true⟩,
 ⟨(some 37), .mv (.av (.val (.int .i64 0))), none, true⟩])
 (rangeCode 2 3 38 37 36 46
 (.seq (.ops [⟨(some 39), .indexAddr 1 (.tmp 35) (.tmp 37), none, true⟩,
 ⟨(some 40), .load none (.tmp 39), none, true⟩,
 ⟨(some 10), .mv (.tmp 40), none, true⟩])
 (.seq (.ops [⟨(some 41), .mv (.tmp 8), none, true⟩,
 ⟨(some 42), .mv (.tmp 10), none, true⟩,
 ⟨(some 43), .indexAddr 1 (.tmp 41) (.tmp 42), none, true⟩,
 ⟨(some 44), .load none (.tmp 43), none, true⟩,
 ⟨(some 45), .un .not (.tmp 44), none, true⟩])
 (.cond (.tmp 45)
 (.seq (.ops [⟨(some 4), .mv (.av (.val (.int .i64 8))), none, true⟩])
 (.ret))
 (.skip))))))
 (.seq (.ops [⟨(some 4), .mv (.av (.val (.int .i64 0))), none, true⟩])
 (.ret))))))
theorem f_ge_named : cFunc Try.prog 29 = some ⟨47, c_ge_named, [.tmp 4]⟩ := by kernel_rfl
def c_ge_minora : ACode := .seq (.ops [⟨(some 7), .mv (.tmp 0), none, true⟩,
 ⟨(some 8), .len (.tmp 7), none, true⟩,
 ⟨(some 9), .mv (.av (.val (.int .i64 0))), none, true⟩])
 (rangeCode 0 1 10 9 8 30
 (.seq (.ops [⟨(some 11), .indexAddr 1 (.tmp 7) (.tmp 9), none, true⟩,
 ⟨(some 12), .load none (.tmp 11), none, true⟩,
 ⟨(some 6), .mv (.tmp 12), none, true⟩])
 (.seq (.ops [⟨(some 13), .load none (.tmp 1), none, true⟩,
 ⟨(some 14), .mv (.tmp 6), none, true⟩,
 ⟨(some 15), .call (.av (.func 26 [])) [(.tmp 13), (.tmp 14)], none, true⟩,
 ⟨(some 16), .mv (.tmp 15), none, true⟩,
 ⟨(some 17), .load none (.tmp 2), (some (16, true)), true⟩,
 ⟨(some 18), .mv (.tmp 6), (some (16, true)), true⟩,
 ⟨(some 19), .indexAddr 1 (.tmp 17) (.tmp 18), (some (16, true)), true⟩,
 ⟨(some 20), .load none (.tmp 19), (some (16, true)), true⟩,
 ⟨(some 21), .un .not (.tmp 20), (some (16, true)), true⟩,
 ⟨(some 22), .pick (.tmp 16) (.tmp 21) (.av (.val (.bool false))), none, true⟩])
 (.cond (.tmp 22)
 (.seq (.ops [⟨(some 23), .load none (.tmp 2), none, true⟩,
 ⟨(some 24), .mv (.tmp 6), none, true⟩,
 ⟨(some 25), .indexAddr 1 (.tmp 23) (.tmp 24), none, true⟩,
 ⟨none, .store 1 (.tmp 25) (.av (.val (.bool true))), none, true⟩])
 (.ops [⟨(some 26), .load none (.tmp 3), none, true⟩,
 ⟨(some 27), .mv (.tmp 6), none, true⟩,
 ⟨(some 28), .lits 1 1 [(.val (.int .i64 0))] [(0, 1, (.tmp 27))], none, true⟩,
 ⟨(some 29), .append 1 8 (.tmp 26) (.tmp 28), none, true⟩,
 ⟨none, .store 1 (.tmp 3) (.tmp 29), none, true⟩]))
 (.skip)))))
theorem f_ge_minora : cFunc Try.prog 30 = some ⟨31, c_ge_minora, []⟩ := by kernel_rfl
def c_ge_collect : ACode := .seq (.ops [⟨(some 6), .mv (.av (.val (.int .i64 0))), none, true⟩])
 (.seq (.ops [⟨(some 7), .mv (.av (.val (.int .i64 0))), none, true⟩])
 (.seq (.seq (.ops [⟨(some 13), .mv (.tmp 0), none, true⟩,
 ⟨(some 14), .nilCheck (.tmp 13), none, true⟩,
 ⟨(some 15), .fieldAddr 1 (.tmp 14), none, true⟩,
 ⟨(some 16), .load none (.tmp 15), none, true⟩,
 ⟨(some 17), .len (.tmp 16), none, true⟩,
 ⟨(some 18), .mv (.av (.val (.int .i64 0))), none, true⟩])
 (rangeCode 0 1 19 18 17 52
 (.seq (.ops [⟨(some 20), .mv (.tmp 18), none, true⟩,
 ⟨(some 8), .mv (.tmp 20), none, true⟩])
 (.seq (.ops [⟨(some 21), .mv (.tmp 0), none, true⟩,
 ⟨(some 22), .nilCheck (.tmp 21), none, true⟩,
 ⟨(some 23), .fieldAddr 1 (.tmp 22), none, true⟩,
 ⟨(some 24), .load none (.tmp 23), none, true⟩,
 ⟨(some 25), .mv (.tmp 8), none, true⟩,
 ⟨(some 26), .indexAddr 3 (.tmp 24) (.tmp 25), none, true⟩,
 ⟨(some 9), .mv (.tmp 26), none, true⟩])
 (.seq (.seq (.ops [⟨(some 27), .mv (.tmp 2), none, true⟩,
 ⟨(some 28), .mv (.tmp 9), none, true⟩,
 ⟨(some 29), .nilCheck (.tmp 28), none, true⟩,
 ⟨(some 30), .fieldAddr 1 (.tmp 29), none, true⟩,
 ⟨(some 31), .load none (.tmp 30), none, true⟩,
 ⟨(some 32), .call (.av (.func 38 [])) [(.tmp 27), (.tmp 31)], none, true⟩,
 ⟨(some 33), .un .not (.tmp 32), none, true⟩])
 (.cond (.tmp 33)
 (.exit 1)
 (.skip)))
 (.seq (.ops [⟨(some 34), .mv (.tmp 9), none, true⟩,
 ⟨(some 35), .nilCheck (.tmp 34), none, true⟩,
 ⟨(some 36), .fieldAddr 1 (.tmp 35), none, true⟩,
 ⟨none, .store 1 (.tmp 36) (.av (.val (.int .i64 1))), none, true⟩])
 (.seq (.ops [⟨(some 37), .mv (.tmp 1), none, true⟩,
 ⟨(some 38), .mv (.tmp 8), none, true⟩,
 ⟨(some 39), .indexAddr 1 (.tmp 37) (.tmp 38), none, true⟩,
 ⟨(some 40), .load none (.tmp 39), none, true⟩,
 ⟨(some 41), .un .not (.tmp 40), none, true⟩])
 (.cond (.tmp 41)
 (.seq (.ops [⟨(some 42), .mv (.tmp 9), none, true⟩,
 ⟨(some 43), .build [(.val (.slice none 0 0)), (.val (.int .i64 0)), (.val (.bool false))] [(1, 1, (.av (.val (.int .i64 2))))], none, true⟩,
 ⟨(some 44), .nilCheck (.tmp 42), none, true⟩,
 ⟨none, .store 3 (.tmp 44) (.tmp 43), none, true⟩])
 (.seq (.ops [⟨(some 45), .mv (.tmp 0), none, true⟩,
 ⟨(some 46), .nilCheck (.tmp 45), none, true⟩,
 ⟨(some 47), .fieldAddr 2 (.tmp 46), none, true⟩,
 ⟨(some 48), .load none (.tmp 47), none, true⟩,
 ⟨(some 49), .mv (.tmp 8), none, true⟩,
 ⟨none, .mapDel (.tmp 48) (.tmp 49), none, true⟩])
 (.ops [⟨(some 50), .mv (.tmp 7), none, true⟩,
 ⟨(some 51), .bin .add (.tmp 50) (.av (.val (.int .i64 1))), none, true⟩,
 ⟨(some 7), .mv (.tmp 51), none, true⟩])))
 (.skip)))))))))
 (.seq (.seq (.ops [⟨(some 53), .mv (.tmp 0), none, true⟩,
 ⟨(some 54), .nilCheck (.tmp 53), none, true⟩,
 ⟨(some 55), .fieldAddr 1 (.tmp 54), none, true⟩,
 ⟨(some 56), .load none (.tmp 55), none, true⟩,
 ⟨(some 57), .len (.tmp 56), none, true⟩,
 ⟨(some 58), .mv (.av (.val (.int .i64 0))), none, true⟩])
 (rangeCode 2 3 59 58 57 99
 (.seq (.ops [⟨(some 60), .mv (.tmp 58), none, true⟩,
 ⟨(some 10), .mv (.tmp 60), none, true⟩])
 (.seq (.ops [⟨(some 61), .mv (.tmp 0), none, true⟩,
 ⟨(some 62), .nilCheck (.tmp 61), none, true⟩,
 ⟨(some 63), .fieldAddr 1 (.tmp 62), none, true⟩,
 ⟨(some 64), .load none (.tmp 63), none, true⟩,
 ⟨(some 65), .mv (.tmp 10), none, true⟩,
 ⟨(some 66), .indexAddr 3 (.tmp 64) (.tmp 65), none, true⟩,
 ⟨(some 67), .fieldAddr 0 (.tmp 66), none, true⟩,
 ⟨(some 68), .load none (.tmp 67), none, true⟩,
 ⟨(some 69), .len (.tmp 68), none, true⟩,
 ⟨(some 70), .mv (.av (.val (.int .i64 0))), none, true⟩])
 (rangeCode 4 5 71 70 69 98
 (.seq (.ops [⟨(some 72), .mv (.tmp 70), none, true⟩,
 ⟨(some 73), .indexAddr 1 (.tmp 68) (.tmp 70), none, true⟩,
 ⟨(some 74), .load none (.tmp 73), none, true⟩,
 ⟨(some 11), .mv (.tmp 72), none, true⟩,
 ⟨(some 12), .mv (.tmp 74), none, true⟩])
 (.seq (.ops [⟨(some 75), .mv (.tmp 12), none, true⟩,
 ⟨(some 76), .bin .geq (.tmp 75) (.av (.val (.int .i64 0))), none, true⟩,
 ⟨(some 77), .mv (.tmp 76), none, true⟩,
 ⟨(some 78), .mv (.tmp 0), (some (77, true)), true⟩,
 ⟨(some 79), .nilCheck (.tmp 78), (some (77, true)), true⟩,
 ⟨(some 80), .fieldAddr 1 (.tmp 79), (some (77, true)), true⟩,
 ⟨(some 81), .load none (.tmp 80), (some (77, true)), true⟩,
 ⟨(some 82), .mv (.tmp 12), (some (77, true)), true⟩,
 ⟨(some 83), .indexAddr 3 (.tmp 81) (.tmp 82), (some (77, true)), true⟩,
 ⟨(some 84), .fieldAddr 1 (.tmp 83), (some (77, true)), true⟩,
 ⟨(some 85), .load none (.tmp 84), (some (77, true)), true⟩,
 ⟨(some 86), .bin .eql (.tmp 85) (.av (.val (.int .i64 2))), (some (77, true)), true⟩,
 ⟨(some 87), .pick (.tmp 77) (.tmp 86) (.av (.val (.bool false))), none, true⟩])
 (.cond (.tmp 87)
 (.ops [⟨(some 88), .mv (.tmp 0), none, true⟩,
 ⟨(some 89), .nilCheck (.tmp 88), none, true⟩,
 ⟨(some 90), .fieldAddr 1 (.tmp 89), none, true⟩,
 ⟨(some 91), .load none (.tmp 90), none, true⟩,
 ⟨(some 92), .mv (.tmp 10), none, true⟩,
 ⟨(some 93), .indexAddr 3 (.tmp 91) (.tmp 92), none, true⟩,
 ⟨(some 94), .fieldAddr 0 (.tmp 93), none, true⟩,
 ⟨(some 95), .load none (.tmp 94), none, true⟩,
 ⟨(some 96), .mv (.tmp 11), none, true⟩,
 ⟨(some 97), .indexAddr 1 (.tmp 95) (.tmp 96), none, true⟩,
 ⟨none, .store 1 (.tmp 97) (.av (.val (.int .i64 (-1)))), none, true⟩])
 (.skip)))))))))
 (.seq (.ops [⟨(some 100), .mv (.tmp 0), none, true⟩,
 ⟨(some 101), .nilCheck (.tmp 100), none, true⟩,
 ⟨(some 102), .fieldAddr 2 (.tmp 101), none, true⟩,
 ⟨(some 103), .load none (.tmp 102), none, true⟩,
 ⟨none, .mapClear (.tmp 103), none, true⟩])
 (.seq (.ops [⟨(some 104), .mv (.tmp 7), none, true⟩,
 ⟨(some 6), .mv (.tmp 104), none, true⟩])
 (.ret))))))
theorem f_ge_collect : cFunc Try.prog 31 = some ⟨105, c_ge_collect, [.tmp 6]⟩ := by kernel_rfl
def c_mk_froma : ACode := .seq (.ops [⟨(some 4), .load none (.tmp 1), none, true⟩,
 ⟨(some 5), .mv (.tmp 4), none, true⟩,
 ⟨(some 6), .load none (.tmp 2), (some (5, false)), true⟩,
 ⟨(some 7), .mv (.tmp 0), (some (5, false)), true⟩,
 ⟨(some 8), .indexAddr 1 (.tmp 6) (.tmp 7), (some (5, false)), true⟩,
 ⟨(some 9), .load none (.tmp 8), (some (5, false)), true⟩,
 ⟨(some 10), .un .not (.tmp 9), (some (5, false)), true⟩,
 ⟨(some 11), .pick (.tmp 5) (.av (.val (.bool true))) (.tmp 10), none, true⟩,
 ⟨none, .store 1 (.tmp 1) (.tmp 11), none, true⟩])
 (.ops [⟨(some 12), .load none (.tmp 2), none, true⟩,
 ⟨(some 13), .mv (.tmp 0), none, true⟩,
 ⟨(some 14), .indexAddr 1 (.tmp 12) (.tmp 13), none, true⟩,
 ⟨none, .store 1 (.tmp 14) (.av (.val (.bool true))), none, true⟩])
theorem f_mk_froma : cFunc Try.prog 33 = some ⟨15, c_mk_froma, []⟩ := by kernel_rfl
def c_mk_mul : ACode := .seq (.ops [⟨(some 4), .mv (.av (.val (.int .u64 0))), none, true⟩,
 ⟨(some 5), .mv (.av (.val (.int .u64 0))), none, true⟩])
 (.seq (.cond (.av (.val (.bool false)))
 (.seq (.ops [⟨(some 11), .mv (.tmp 0), none, true⟩,
 ⟨(some 12), .conv .u32 (.tmp 11), none, true⟩,
 ⟨(some 13), .mv (.tmp 1), none, true⟩,
 ⟨(some 14), .conv .u32 (.tmp 13), none, true⟩,
 ⟨(some 15), .call (.av (.func 52 [])) [(.tmp 12), (.tmp 14)], none, true⟩,
 ⟨(some 10), .mv (.tmp 15), none, true⟩,
 ⟨(some 16), .extract 0 (.tmp 10), none, true⟩,
 ⟨(some 17), .extract 1 (.tmp 10), none, true⟩,
 ⟨(some 6), .mv (.tmp 16), none, true⟩,
 ⟨(some 7), .mv (.tmp 17), none, true⟩])
 (.seq (.ops [⟨(some 18), .mv (.tmp 6), none, true⟩,
 ⟨(some 19), .conv .u64 (.tmp 18), none, true⟩,
 ⟨(some 20), .mv (.tmp 7), none, true⟩,
 ⟨(some 21), .conv .u64 (.tmp 20), none, true⟩,
 ⟨(some 4), .mv (.tmp 19), none, true⟩,
 ⟨(some 5), .mv (.tmp 21), none, true⟩])
 (.ret)))
 (.skip))
 (.seq (.ops [⟨(some 23), .mv (.tmp 0), none, true⟩,
 ⟨(some 24), .mv (.tmp 1), none, true⟩,
 ⟨(some 25), .call (.av (.func 53 [])) [(.tmp 23), (.tmp 24)], none, true⟩,
 ⟨(some 22), .mv (.tmp 25), none, true⟩,
 ⟨(some 26), .extract 0 (.tmp 22), none, true⟩,
 ⟨(some 27), .extract 1 (.tmp 22), none, true⟩,
 ⟨(some 8), .mv (.tmp 26), none, true⟩,
 ⟨(some 9), .mv (.tmp 27), none, true⟩])
 (.seq (.ops [⟨(some 28), .mv (.tmp 8), none, true⟩,
 ⟨(some 29), .mv (.tmp 9), none, true⟩,
 ⟨(some 4), .mv (.tmp 28), none, true⟩,
 ⟨(some 5), .mv (.tmp 29), none, true⟩])
 (.ret))))
theorem f_mk_mul : cFunc Try.prog 37 = some ⟨30, c_mk_mul, [.tmp 4, .tmp 5]⟩ := by kernel_rfl
def c_ge_contains : ACode := .seq (.ops [⟨(some 4), .mv (.av (.val (.bool false))), none, true⟩])
 (.seq (.ops [⟨(some 5), .mv (.tmp 0), none, true⟩,
 ⟨(some 6), .mv (.tmp 1), none, true⟩,
 ⟨(some 7), .call (.av (.func 54 [])) [(.tmp 5), (.tmp 6)], none, true⟩,
 ⟨(some 8), .bin .geq (.tmp 7) (.av (.val (.int .i64 0))), none, true⟩,
 ⟨(some 4), .mv (.tmp 8), none, true⟩])
 (.ret))
theorem f_ge_contains : cFunc Try.prog 38 = some ⟨9, c_ge_contains, [.tmp 4]⟩ := by kernel_rfl
def c_mk_mul64 : ACode := .seq (.ops [⟨(some 4), .mv (.av (.val (.int .u64 0))), none, true⟩,
 ⟨(some 5), .mv (.av (.val (.int .u64 0))), none, true⟩])
 (.seq (.ops [⟨(some 14), .mv (.tmp 0), none, true⟩,
 ⟨(some 15), .bin .and (.tmp 14) (.av (.val (.int .u64 4294967295))), none, true⟩,
 ⟨(some 6), .mv (.tmp 15), none, true⟩])
 (.seq (.ops [⟨(some 16), .mv (.tmp 0), none, true⟩,
 ⟨(some 17), .bin .shr (.tmp 16) (.av (.val (.int .u64 32))), none, true⟩,
 ⟨(some 7), .mv (.tmp 17), none, true⟩])
 (.seq (.ops [⟨(some 18), .mv (.tmp 1), none, true⟩,
 ⟨(some 19), .bin .and (.tmp 18) (.av (.val (.int .u64 4294967295))), none, true⟩,
 ⟨(some 8), .mv (.tmp 19), none, true⟩])
 (.seq (.ops [⟨(some 20), .mv (.tmp 1), none, true⟩,
 ⟨(some 21), .bin .shr (.tmp 20) (.av (.val (.int .u64 32))), none, true⟩,
 ⟨(some 9), .mv (.tmp 21), none, true⟩])
 (.seq (.ops [⟨(some 22), .mv (.tmp 6), none, true⟩,
 ⟨(some 23), .mv (.tmp 8), none, true⟩,
 ⟨(some 24), .bin .mul (.tmp 22) (.tmp 23), none, true⟩,
 ⟨(some 10), .mv (.tmp 24), none, true⟩])
 (.seq (.ops [⟨(some 25), .mv (.tmp 7), none, true⟩,
 ⟨(some 26), .mv (.tmp 8), none, true⟩,
 ⟨(some 27), .bin .mul (.tmp 25) (.tmp 26), none, true⟩,
 ⟨(some 28), .mv (.tmp 10), none, true⟩,
 ⟨(some 29), .bin .shr (.tmp 28) (.av (.val (.int .u64 32))), none, true⟩,
 ⟨(some 30), .bin .add (.tmp 27) (.tmp 29), none, true⟩,
 ⟨(some 11), .mv (.tmp 30), none, true⟩])
 (.seq (.ops [⟨(some 31), .mv (.tmp 11), none, true⟩,
 ⟨(some 32), .bin .and (.tmp 31) (.av (.val (.int .u64 4294967295))), none, true⟩,
 ⟨(some 12), .mv (.tmp 32), none, true⟩])
 (.seq (.ops [⟨(some 33), .mv (.tmp 11), none, true⟩,
 ⟨(some 34), .bin .shr (.tmp 33) (.av (.val (.int .u64 32))), none, true⟩,
 ⟨(some 13), .mv (.tmp 34), none, true⟩])
 (.seq (.ops [⟨(some 35), .mv (.tmp 12), none, true⟩,
 ⟨(some 36), .mv (.tmp 6), none, true⟩,
 ⟨(some 37), .mv (.tmp 9), none, true⟩,
 ⟨(some 38), .bin .mul (.tmp 36) (.tmp 37), none, true⟩,
 ⟨(some 39), .bin .add (.tmp 35) (.tmp 38), none, true⟩,
 ⟨(some 12), .mv (.tmp 39), none, true⟩])
 (.seq (.ops [⟨(some 40), .mv (.tmp 7), none, true⟩,
 ⟨(some 41), .mv (.tmp 9), none, true⟩,
 ⟨(some 42), .bin .mul (.tmp 40) (.tmp 41), none, true⟩,
 ⟨(some 43), .mv (.tmp 13), none, true⟩,
 ⟨(some 44), .bin .add (.tmp 42) (.tmp 43), none, true⟩,
 ⟨(some 45), .mv (.tmp 12), none, true⟩,
 ⟨(some 46), .bin .shr (.tmp 45) (.av (.val (.int .u64 32))), none, true⟩,
 ⟨(some 47), .bin .add (.tmp 44) (.tmp 46), none, true⟩,
 ⟨(some 4), .mv (.tmp 47), none, true⟩])
 (.seq (.ops [⟨(some 48), .mv (.tmp 0), none, true⟩,
 ⟨(some 49), .mv (.tmp 1), none, true⟩,
 ⟨(some 50), .bin .mul (.tmp 48) (.tmp 49), none, true⟩,
 ⟨(some 5), .mv (.tmp 50), none, true⟩])
 (.ret))))))))))))
theorem f_mk_mul64 : cFunc Try.prog 53 = some ⟨51, c_mk_mul64, [.tmp 4, .tmp 5]⟩ := by kernel_rfl
def c_ge_index : ACode := .seq (.ops [⟨(some 4), .mv (.av (.val (.int .i64 0))), none, true⟩])
 (.seq (.seq (.ops [⟨(some 6), .mv (.tmp 0), none, true⟩,
 ⟨(some 7), .len (.tmp 6), none, true⟩,
 ⟨(some 8), .mv (.av (.val (.int .i64 0))), none, true⟩])
 (rangeCode 0 1 9 8 7 18
 (.seq (.ops [⟨(some 10), .mv (.tmp 8), none, true⟩,
 ⟨(some 5), .mv (.tmp 10), none, true⟩])
 (.seq (.ops [⟨(some 11), .mv (.tmp 1), none, true⟩,
 ⟨(some 12), .mv (.tmp 0), none, true⟩,
 ⟨(some 13), .mv (.tmp 5), none, true⟩,
 ⟨(some 14), .indexAddr 1 (.tmp 12) (.tmp 13), none, true⟩,
 ⟨(some 15), .load none (.tmp 14), none, true⟩,
 ⟨(some 16), .bin .eql (.tmp 11) (.tmp 15), none, true⟩])
 (.cond (.tmp 16)
 (.seq (.ops [⟨(some 17), .mv (.tmp 5), none, true⟩,
 ⟨(some 4), .mv (.tmp 17), none, true⟩])
 (.ret))
 (.skip))))))
 (.seq (.ops [⟨(some 4), .mv (.av (.val (.int .i64 (-1)))), none, true⟩])
 (.ret)))
theorem f_ge_index : cFunc Try.prog 54 = some ⟨19, c_ge_index, [.tmp 4]⟩ := by kernel_rfl
end Go.Proofs.Ytblgljahhhdlhaa

namespace Go.Proofs.Ytblgljahhhdlhaa
open Go Go.RowKit
set_option linter.unusedVariables false
set_option linter.unusedSimpArgs false
variable {U : Nat → Prop}
abbrev XG (tb : List (FuncId × Bool)) (nd : Bool) : XT := ⟨constX tb, nd⟩
section
variable {tb : List (FuncId × Bool)} {nd : Bool} {L : Nat → Bool} {H : ZH} {K : ZV → ZH → Prop}
theorem ZC.up {F : FuncId → Option AFunc} {f : FuncId} {zs : List ZV} (h : ZC (constX tb) F f zs L H K) : ZC (XG tb nd) F f zs L H K := fun fl w args r e ha => AC.lift (X := XG tb nd) (h fl w args r e ha)
theorem mv_at0 {W : ZH} (A : ZB) (X : ZH) : (W ++ (A :: X))[W.length]? = some A := by rw [List.getElem?_append_right (Nat.le_refl _), Nat.sub_self]; rfl
theorem mv_at1 {W : ZH} (A B : ZB) (X : ZH) : (W ++ (A :: B :: X))[W.length + 1]? = some B := by rw [List.getElem?_append_right (by omega), Nat.add_sub_cancel_left]; rfl
theorem mv_st0 {W : ZH} (A C : ZB) (X : ZH) : (W ++ (A :: X)).set W.length C = W ++ (C :: X) := by rw [List.set_append_right _ _ (Nat.le_refl _), Nat.sub_self]; rfl
theorem mv_st1 {W : ZH} (A B C : ZB) (X : ZH) : (W ++ (A :: B :: X)).set (W.length + 1) C = W ++ (A :: C :: X) := by rw [List.set_append_right _ _ (by omega), Nat.add_sub_cancel_left]; rfl
theorem mv_atX {W X : ZH} (A B : ZB) : (W ++ (A :: (X ++ [B])))[W.length + (X.length + 1)]? = some B := by rw [List.getElem?_append_right (by omega), Nat.add_sub_cancel_left, List.getElem?_cons_succ, List.getElem?_append_right (Nat.le_refl _), Nat.sub_self]; rfl
theorem mv_stX {W X : ZH} (A B C : ZB) : (W ++ (A :: (X ++ [B]))).set (W.length + (X.length + 1)) C = W ++ (A :: (X ++ [C])) := by rw [List.set_append_right _ _ (by omega), Nat.add_sub_cancel_left, List.set_cons_succ, List.set_append_right _ _ (Nat.le_refl _), Nat.sub_self]; rfl
theorem mv_num0 {S : ZS} {d : Nat} : numZ S d none = some d := rfl
theorem mv_num1 {S : ZS} {d : Nat} {x : Opd} : numZ S d (some x) = (zev S x).bind natZ := by
  simp only [numZ]; cases zev S x <;> rfl
theorem mv_pure {R : List (List ZV)} (h : ∀ r ∈ R, r.all pureZ = true) : R.flatten.all pureZ = true := by
  rw [List.all_eq_true]
  intro z hz
  obtain ⟨r, hr, h1⟩ := List.mem_flatten.1 hz
  exact List.all_eq_true.1 (h r hr) z h1
def keepN (l : List Int) : List Int := l.filter fun x => !decide (x < 0)
end
abbrev Th := List Int × Int × Bool
abbrev TB := Option Nat × Th
abbrev plZ (x : TB) : ZV := match x.1 with
  | none => .fz 1 false []
  | some j => .own j 0 0 x.2.1.length false
def eT (x : TB) : List ZV := [plZ x, Z64 x.2.2.1, ZBo x.2.2.2]
def rE (R : List Int) : List (Int × ZV) := R.map fun k => (k, .agg [])
structure GeAt (U : Nat → Prop) (H : ZH) (p t g m : Nat) (nu : Int) (T : List TB) (R : List Int) : Prop where
  box : H[p]? = some (.box [Z64 nu, .own t g 0 T.length false, .mp m])
  arr : H[t]? = some (.grow g 3 (T.map eT))
  rem : H[m]? = some (.box ((rE R).map ent))
  pm : p ≠ m
  pl : ∀ x ∈ T, match x.1 with
    | none => x.2.1 = []
    | some j => x.2.1 ≠ [] ∧ H[j]? = some (.grow 0 1 (x.2.1.map eI))
  nod : (T.filterMap Prod.fst).Nodup
  len : T.length ≤ 100
  sm : ∀ x ∈ T, x.2.1.length ≤ 10
  un : ¬ U p ∧ ¬ U m ∧ ¬ U t ∧ ∀ x ∈ T, ∀ j, x.1 = some j → ¬ U j
  ub : ∀ i, U i → i < H.length
theorem GeAt.ext {H : ZH} {p t g m : Nat} {nu : Int} {T : List TB} {R : List Int} (h : GeAt U H p t g m nu T R) (X : ZH) : GeAt U (H ++ X) p t g m nu T R := by
  refine ⟨by rw [List.getElem?_append_left (lt_of_get h.box)]; exact h.box, by rw [List.getElem?_append_left (lt_of_get h.arr)]; exact h.arr, by rw [List.getElem?_append_left (lt_of_get h.rem)]; exact h.rem, h.pm, fun x hx => ?_, h.nod, h.len, h.sm, h.un, fun i hi => by have := h.ub i hi; rw [List.length_append]; omega⟩
  have := h.pl x hx
  obtain ⟨o, y⟩ := x
  cases o with
  | none => exact this
  | some j => exact ⟨this.1, (List.getElem?_append_left (lt_of_get this.2)).trans this.2⟩
theorem GeAt.rows {H : ZH} {p t g m : Nat} {nu : Int} {T : List TB} {R : List Int} (h : GeAt U H p t g m nu T R) {x : TB} (hx : x ∈ T) : rowsZ H 1 (plZ x) = some (x.2.1.map eI) := by
  have := h.pl x hx
  obtain ⟨o, y⟩ := x
  cases o with
  | none => simp only at this; simp [plZ, this, rowsZ]
  | some j => exact rows_whole this.2 (by simp)
variable {tb : List (FuncId × Bool)} {nd : Bool} {L : Nat → Bool} {H : ZH} {K : ZV → ZH → Prop} {p t g m : Nat} {nu : Int} {T : List TB} {R : List Int}
theorem plz_cell {x : TB} : (plZ x).isCell = true := by obtain ⟨o, y⟩ := x; cases o <;> rfl
def ageB (T : List TB) (a : Int) : List Bool := T.map fun x => decide (x.2.2.1 = a)
theorem age_next {a : Int} {k : Nat} (hk : k < T.length) : riseTo (ageB T a) (k + 1) = riseTo (ageB T a) k ++ (if T[k].2.2.1 = a then [(k : Int)] else []) := by
  rw [riseTo_succ]
  have : (ageB T a).getD k false = decide (T[k].2.2.1 = a) := by simp [ageB, List.getD, hk]
  rw [this]
  by_cases h : T[k].2.2.1 = a <;> simp [h]
set_option maxHeartbeats 2000000 in
theorem are_z {a : Int} (h : GeAt U H p t g m nu T R) (hK : K (.fz 1 false ((rising (ageB T a)).map eI)) H) : ZC (XG tb nd) (cFunc Try.prog) 17 [.ptr p 0, Z64 a] L H K := by
  refine ZC.enterL ⟨[(5, [(0, 1)])], [], []⟩ constX_none f_ge_are (by simp) fun hL => ?_
  simp only [c_ge_are]
  have hb : ∀ X, (H ++ X)[p]? = some (.box [Z64 nu, .own t g 0 T.length false, .mp m]) := fun X => (h.ext X).box
  have ha : ∀ X, (H ++ X)[t]? = some (.grow g 3 (T.map eT)) := fun X => (h.ext X).arr
  have hlen := h.len
  have F : ∀ g' X, Fin H (.own H.length g' 0 (riseTo (ageB T a) T.length).length false) (H ++ (.grow g' 1 ((riseTo (ageB T a) T.length).map eI) :: X)) K := fun g' X => by
    have e : riseTo (ageB T a) T.length = rising (ageB T a) := by unfold rising; rw [show (ageB T a).length = T.length by simp [ageB]]
    rw [e]
    refine Fin.frz (k := 1) (rows := (rising (ageB T a)).map eI) (mv_at0 _ _) (by simp) (mv_pure (fun r hr => by obtain ⟨x, _, rfl⟩ := List.mem_map.1 hr; rfl)) ?_
    rw [mv_st0, List.drop_zero, List.take_of_length_le (by simp)]
    exact Fin.trunc (Mods.ext H _) rfl (by rw [List.take_left]; exact hK)
  have FF := Lib.hid F
  have HL := Lib.hid hlen
  have hl3 : ∀ X, lenZ (H ++ X) (.own t g 0 T.length false) = some T.length := fun X => by
    have h3 : rowsZ (H ++ X) 3 (.own t g 0 T.length false) = some (T.map eT) := rows_whole (ha _) (by simp)
    have := rows_len h3; rwa [List.length_map] at this
  clear h hK F hlen
  have hTl : T.length < 9223372036854775807 := by have := HL.out; omega
  repeat' (first | (simp only [zmPack, zxPack, ne_eq, zfree, owners, Nat.reduceLT, List.contains_cons, List.contains_nil, Nat.reduceBEq, BEq.rfl, chunk, setAt, List.lookup_cons, List.lookup_nil, reduceCtorEq, Nat.reduceEqDiff, reduceIte, implies_true, forall_const, Nat.reduceMul, Nat.reduceSub, Nat.reduceAdd, Nat.reduceLeDiff, hb, hl3, *]) | (simp only [zgoO, zgoG, zO_nil, zthen_normal, zgoC]) | (with_reducible apply And.intro) | (with_reducible intro _))
  refine zW_forK [(1, Z64 a), (11, .own t g 0 T.length false)] T.length (fun k s' h' => ∃ g' X, s' 5 = .own H.length g' 0 (riseTo (ageB T a) k).length false ∧ h' = H ++ (.grow g' 1 ((riseTo (ageB T a) k).map eI) :: X)) (by omega) ⟨rfl, rfl, rfl, rfl, rfl, rfl⟩ rfl rfl (by repeat' (first | exact trivial | (refine ⟨rfl, ?_⟩) | (refine ⟨by simp only [zupd_at, Nat.reduceEqDiff, reduceIte]; assumption, ?_⟩))) rfl rfl (by decide) ⟨0, [], rfl, rfl⟩ ?_ ?_
  · rintro k s' h' hk ⟨g', X, f5, rfl⟩ hi hl ⟨f1, f11, -⟩
    have hx : T[k]? = some T[k] := List.getElem?_eq_getElem hk
    have hn := age_next (a := a) hk
    have hrl := riseTo_length (ageB T a) k
    obtain ⟨y, hy⟩ : ∃ y, y = T[k] := ⟨_, rfl⟩
    rw [← hy] at hx hn
    have he : ∀ Y, elemZ (H ++ Y) 3 k (.own t g 0 T.length false) = some (.eptr t g k 0) := fun Y => by
      rw [elem_own]; exact ⟨_, ha _, by simp, hk, by simp⟩
    obtain ⟨o, pl, co, he2⟩ := y
    have hld : ∀ Y, ldZ (H ++ Y) (some 3) (.eptr t g k 0) = some (.agg (eT (o, pl, co, he2))) := fun Y => by
      rw [ld_eptr]; exact ⟨_, _, eT (o, pl, co, he2), ha _, by rw [List.getElem?_map, hx]; rfl, rfl⟩
    have het : eT (o, pl, co, he2) = [plZ (o, pl, co, he2), Z64 co, ZBo he2] := rfl
    have hcl : (plZ (o, pl, co, he2)).isCell = true := plz_cell
    obtain ⟨pz, hpz⟩ : ∃ pz, pz = plZ (o, pl, co, he2) := ⟨_, rfl⟩
    rw [← hpz] at het hcl
    rw [het] at hld
    have lx : ∀ n, L (H.length + n) = true := hL
    have l0 : L H.length = true := hL 0
    obtain ⟨l, hle⟩ : ∃ l, l = riseTo (ageB T a) k := ⟨_, rfl⟩
    rw [← hle] at hn hrl f5
    rw [← hle]
    have hap : ∀ Y, appZ L (H ++ (.grow g' 1 (l.map eI) :: Y)) 1 8 [[Z64 k]] (.own H.length g' 0 l.length false) = some (.own H.length (g' + 1) 0 (l.length + 1) false, H ++ (.grow (g' + 1) 1 ((l ++ [(k : Int)]).map eI) :: Y)) := fun Y => by
      rw [app_own]
      refine ⟨_, mv_at0 _ _, by simp, by have := HL.out; unfold reach; simp; omega, l0, rfl, ?_⟩
      rw [mv_st0, List.drop_zero, List.take_of_length_le (by simp), List.map_append]; rfl
    have a0 : ∀ A C : ZB, (H ++ (A :: (X ++ [C])))[H.length + (X.length + 1)]? = some C := fun A C => mv_atX A C
    have s0 : ∀ A C D : ZB, (H ++ (A :: (X ++ [C]))).set (H.length + (X.length + 1)) D = H ++ (A :: (X ++ [D])) := fun A C D => mv_stX A C D
    have l9 : L (H.length + (X.length + 1)) = true := lx _
    have HN := Lib.hid hn
    clear hx hn hy hpz hl3 hb hle hrl
    by_cases hc : co = a
    · repeat' (first | (simp only [zmPack, zxPack, ne_eq, zfree, owners, Nat.reduceLT, List.contains_cons, List.contains_nil, Nat.reduceBEq, BEq.rfl, chunk, setAt, List.lookup_cons, List.lookup_nil, reduceCtorEq, Nat.reduceEqDiff, reduceIte, implies_true, forall_const, Nat.reduceMul, Nat.reduceSub, Nat.reduceAdd, Nat.reduceLeDiff, he, hld, hcl, hap, a0, s0, l9, f5, hc, *]) | (simp only [zgoO, zgoG, zO_nil, zthen_normal, zgoC]) | (with_reducible apply And.intro) | (with_reducible intro _))
      all_goals (rw [HN.out, if_pos hc]; first | exact ⟨_, rfl⟩ | (rw [List.length_append]; rfl) | simp)
    · repeat' (first | (simp only [zmPack, zxPack, ne_eq, zfree, owners, Nat.reduceLT, List.contains_cons, List.contains_nil, Nat.reduceBEq, BEq.rfl, chunk, setAt, List.lookup_cons, List.lookup_nil, reduceCtorEq, Nat.reduceEqDiff, reduceIte, implies_true, forall_const, Nat.reduceMul, Nat.reduceSub, Nat.reduceAdd, Nat.reduceLeDiff, he, hld, hcl, hap, a0, s0, l9, f5, hc, *]) | (simp only [zgoO, zgoG, zO_nil, zthen_normal, zgoC]) | (with_reducible apply And.intro) | (with_reducible intro _))
      all_goals (rw [HN.out, if_neg hc]; first | exact ⟨_, by rw [List.append_nil]⟩ | (rw [List.append_nil]; done) | (rw [List.append_nil]; rfl) | (simp; exact ⟨_, rfl⟩))
  · rintro s' h' ⟨g', X, f5, rfl⟩ ⟨f1, f11, -⟩
    have fin := FF.out g' X
    clear hl3 hb ha
    repeat' (first | (simp only [zmPack, zxPack, ne_eq, zfree, owners, Nat.reduceLT, List.contains_cons, List.contains_nil, Nat.reduceBEq, BEq.rfl, chunk, setAt, List.lookup_cons, List.lookup_nil, reduceCtorEq, Nat.reduceEqDiff, reduceIte, implies_true, forall_const, Nat.reduceMul, Nat.reduceSub, Nat.reduceAdd, Nat.reduceLeDiff, f5, *]) | (simp only [zgoO, zgoG, zO_nil, zthen_normal, zgoC]) | (with_reducible apply And.intro) | (with_reducible intro _))
theorem young_z (h : GeAt U H p t g m nu T R) (hK : K (.fz 1 false ((rising (ageB T 0)).map eI)) H) : ZC (XG tb nd) (cFunc Try.prog) 10 [.ptr p 0] L H K := by
  refine ZC.enter Gh.no constX_none f_ge_young (by simp) ?_
  simp only [c_ge_young]
  have fin := Fin.keep (H0 := H) hK
  clear hK
  have HG := Lib.hid h
  clear h
  repeat' (first | (simp only [zmPack, zxPack, ne_eq, zfree, owners, Nat.reduceLT, List.contains_cons, List.contains_nil, Nat.reduceBEq, BEq.rfl, chunk, setAt, List.lookup_cons, List.lookup_nil, reduceCtorEq, Nat.reduceEqDiff, reduceIte, implies_true, forall_const, Nat.reduceMul, Nat.reduceSub, Nat.reduceAdd, Nat.reduceLeDiff, *]) | (simp only [zgoO, zgoG, zO_nil, zthen_normal, zgoC]) | (with_reducible apply And.intro) | (with_reducible intro _))
  refine are_z HG.out ?_
  repeat' (first | (simp only [zmPack, zxPack, ne_eq, zfree, owners, Nat.reduceLT, List.contains_cons, List.contains_nil, Nat.reduceBEq, BEq.rfl, chunk, setAt, List.lookup_cons, List.lookup_nil, reduceCtorEq, Nat.reduceEqDiff, reduceIte, implies_true, forall_const, Nat.reduceMul, Nat.reduceSub, Nat.reduceAdd, Nat.reduceLeDiff, *]) | (simp only [zgoO, zgoG, zO_nil, zthen_normal, zgoC]) | (with_reducible apply And.intro) | (with_reducible intro _))
def yngB (T : List TB) (n : Int) : Bool := decide (0 ≤ n) && (ageB T 0).getD n.toNat false
theorem isyoung_z {n : Int} (h : GeAt U H p t g m nu T R) (hn : n < (T.length : Int)) (hK : K (ZBo (yngB T n)) H) : ZC (XG tb nd) (cFunc Try.prog) 26 [.ptr p 0, Z64 n] L H K := by
  refine ZC.enter Gh.no constX_none f_ge_isyoung (by simp) ?_
  simp only [c_ge_isyoung]
  have hb := h.box
  by_cases h0 : 0 ≤ n
  · obtain ⟨k, rfl⟩ := Int.eq_ofNat_of_zero_le h0
    have hk : k < T.length := by omega
    have he : elemZ H 3 k (.own t g 0 T.length false) = some (.eptr t g k 0) := by rw [elem_own]; exact ⟨_, h.arr, by simp, hk, by simp⟩
    have hld : ldZ H none (.eptr t g k 1) = some (Z64 T[k].2.2.1) := by rw [ld_eptr]; exact ⟨_, _, eT T[k], h.arr, by rw [List.getElem?_map, List.getElem?_eq_getElem hk]; rfl, rfl⟩
    have hv : yngB T (k : Int) = decide (T[k].2.2.1 = 0) := by simp [yngB, ageB, List.getD, hk]
    have fin := Fin.keep (H0 := H) hK
    rw [hv] at fin
    generalize T[k].2.2.1 = c at hld fin
    clear hK hv hn h
    repeat' (first | (simp only [zmPack, zxPack, ne_eq, zfree, owners, Nat.reduceLT, List.contains_cons, List.contains_nil, Nat.reduceBEq, BEq.rfl, chunk, setAt, List.lookup_cons, List.lookup_nil, reduceCtorEq, Nat.reduceEqDiff, reduceIte, implies_true, forall_const, Nat.reduceMul, Nat.reduceSub, Nat.reduceAdd, Nat.reduceLeDiff, hb, he, hld, h0, *]) | (simp only [zgoO, zgoG, zO_nil, zthen_normal, zgoC]) | (with_reducible apply And.intro) | (with_reducible intro _))
  · have fin := Fin.keep (H0 := H) hK
    have hv : yngB T n = false := by unfold yngB; rw [decide_eq_false h0]; rfl
    rw [hv] at fin
    clear hK hv hn h
    repeat' (first | (simp only [zmPack, zxPack, ne_eq, zfree, owners, Nat.reduceLT, List.contains_cons, List.contains_nil, Nat.reduceBEq, BEq.rfl, chunk, setAt, List.lookup_cons, List.lookup_nil, reduceCtorEq, Nat.reduceEqDiff, reduceIte, implies_true, forall_const, Nat.reduceMul, Nat.reduceSub, Nat.reduceAdd, Nat.reduceLeDiff, h0, *]) | (simp only [zgoO, zgoG, zO_nil, zthen_normal, zgoC]) | (with_reducible apply And.intro) | (with_reducible intro _))
theorem zcells_mp {i : Nat} : (ZV.mp i).cells = [.mp i] := rfl
theorem zcell_mp {i : Nat} : (ZV.mp i).isCell = true := rfl
theorem new_z2 {k : Int} (hU : ∀ i, U i → i < H.length) (h1 : 1 ≤ k) (h2 : k ≤ 100) (hK : ∀ X p t m, GeAt U (H ++ X) p t 0 m k [] [] → K (.tuple [.ptr p 0, Z64 0]) (H ++ X)) :
    ZC (XG tb nd) (cFunc Try.prog) 8 [Z64 k] L H K := by
  refine ZC.enter ⟨[(12, [(1, 3)])], [], []⟩ constX_none f_ge_new (by simp) ?_
  simp only [c_ge_new]
  have q1 : ¬ (k < 1) := by omega
  have q2 : ¬ (100 < k) := by omega
  have fin : Fin H (.tuple [.ptr (H.length + 2) 0, Z64 0]) (H ++ [.box [], .grow 0 3 [], .box [Z64 k, .own (H.length + 1) 0 0 0 false, .mp H.length]]) K := by
    refine Fin.keep (hK _ _ (H.length + 1) H.length ⟨atN2 rfl _ _ _ _, atN1 rfl _ _ _, atN0 rfl _ _, by omega, fun x hx => by simp at hx, by simp, by simp, fun x hx => by simp at hx, ⟨fun h => by have := hU _ h; omega, fun h => by have := hU _ h; omega, fun h => by have := hU _ h; omega, fun x hx => by simp at hx⟩, fun i hi => by have := hU i hi; rw [List.length_append]; omega⟩)
  clear hK h1 h2 hU
  repeat' (first | (simp only [zmPack, zxPack, ne_eq, zfree, owners, Nat.reduceLT, List.contains_cons, List.contains_nil, Nat.reduceBEq, BEq.rfl, chunk, setAt, List.lookup_cons, List.lookup_nil, reduceCtorEq, Nat.reduceEqDiff, reduceIte, implies_true, forall_const, Nat.reduceMul, Nat.reduceSub, Nat.reduceAdd, Nat.reduceLeDiff, q1, q2, z_mkMap, zcells_mp, zcell_mp, *]) | (simp only [zgoO, zgoG, zO_nil, zthen_normal, zgoC]) | (with_reducible apply And.intro) | (with_reducible intro _))
theorem new_z {k : Int} (hU : ∀ i, U i → i < H.length) (h1 : 1 ≤ k) (h2 : k ≤ 100) (hK : ∀ H' p t m, GeAt U H' p t 0 m k [] [] → K (.tuple [.ptr p 0, Z64 0]) H') :
    ZC (XG tb nd) (cFunc Try.prog) 8 [Z64 k] L H K := new_z2 hU h1 h2 fun X p t m h => hK _ p t m h
end Go.Proofs.Ytblgljahhhdlhaa

namespace Go.Proofs.Ytblgljahhhdlhaa
open Go Go.RowKit
set_option linter.unusedVariables false
set_option linter.unusedSimpArgs false
variable {U : Nat → Prop}
abbrev eL (l : List Int) : List ZV := [zI l]
variable {tb : List (FuncId × Bool)} {nd : Bool} {L : Nat → Bool} {H : ZH} {K : ZV → ZH → Prop} {p t g m : Nat} {nu : Int} {T : List TB} {R : List Int}
theorem app_ownN {W : ZH} {k bytes i g n : Nat} {rows new : List (List ZV)} (hb : W[i]? = some (.grow g k rows)) (hn : rows.length = n) (hr : (n + new.length) * bytes ≤ reach) (hL : L i = true) : appZ L W k bytes new (.own i g 0 n false) = some (.own i (g + 1) 0 (n + new.length) false, W.set i (.grow (g + 1) k (rows ++ new))) := by
  rw [app_own]
  exact ⟨rows, hb, by omega, hr, hL, rfl, by rw [List.drop_zero, List.take_of_length_le (by omega)]⟩
def hasOf (T : List TB) : List (List Int) := T.map fun x => keepN x.2.1
def heldB (T : List TB) : List Bool := T.map fun x => x.2.2.2
theorem hasOf_next {k : Nat} (hk : k < T.length) : hasOf (T.take (k + 1)) = hasOf (T.take k) ++ [keepN T[k].2.1] := by
  unfold hasOf; rw [List.take_succ_eq_append_getElem hk, List.map_append]; rfl
theorem held_next {k : Nat} (hk : k < T.length) : riseTo (heldB T) (k + 1) = riseTo (heldB T) k ++ (if T[k].2.2.2 = true then [(k : Int)] else []) := by
  rw [riseTo_succ]
  have : (heldB T).getD k false = T[k].2.2.2 := by simp [heldB, List.getD, hk]
  rw [this]
  split <;> simp
theorem keepN_next {l : List Int} {k : Nat} (hk : k < l.length) : keepN (l.take (k + 1)) = keepN (l.take k) ++ (if 0 ≤ l[k] then [l[k]] else []) := by
  unfold keepN
  rw [List.take_succ_eq_append_getElem hk, List.filter_append]
  by_cases h : 0 ≤ l[k]
  · rw [if_pos h]; simp [show ¬ (l[k] < 0) by omega]
  · rw [if_neg h]; simp [show l[k] < 0 by omega]
theorem keepN_len {l : List Int} : (keepN l).length ≤ l.length := List.length_filter_le _ _
set_option maxHeartbeats 8000000 in
theorem graph_z (h : GeAt U H p t g m nu T R) (hK : K (.agg [.fz 1 false ((hasOf T).map eL), .fz 1 false ((rising (heldB T)).map eI)]) H) : ZC (XG tb nd) (cFunc Try.prog) 13 [.ptr p 0] L H K := by
  refine ZC.enterL ⟨[(3, [(0, 1), (1, 1)]), (6, [(0, 1)])], [], [35]⟩ constX_none f_ge_graph (by simp) fun hL => ?_
  simp only [c_ge_graph]
  have hb : ∀ X, (H ++ X)[p]? = some (.box [Z64 nu, .own t g 0 T.length false, .mp m]) := fun X => (h.ext X).box
  have ha : ∀ X, (H ++ X)[t]? = some (.grow g 3 (T.map eT)) := fun X => (h.ext X).arr
  have hlen := h.len
  have HL := Lib.hid hlen
  have HM := Lib.hid h
  have HK := Lib.hid hK
  have h3 : ∀ X, rowsZ (H ++ X) 3 (.own t g 0 T.length false) = some (T.map eT) := fun X => rows_whole (ha _) (by simp)
  have hl3 : ∀ X, lenZ (H ++ X) (.own t g 0 T.length false) = some T.length := fun X => by have := rows_len (h3 X); rwa [List.length_map] at this
  have hTl : T.length < 9223372036854775807 := by omega
  clear hK hlen h3 h
  repeat' (first | (simp only [zmPack, zxPack, ne_eq, zfree, owners, Nat.reduceLT, List.contains_cons, List.contains_nil, Nat.reduceBEq, BEq.rfl, chunk, setAt, List.lookup_cons, List.lookup_nil, reduceCtorEq, Nat.reduceEqDiff, reduceIte, implies_true, forall_const, Nat.reduceMul, Nat.reduceSub, Nat.reduceAdd, Nat.reduceLeDiff, hb, hl3, *]) | (simp only [zgoO, zgoG, zO_nil, zthen_normal, zgoC]) | (with_reducible apply And.intro) | (with_reducible intro _))
  refine zW_forK [(12, .own t g 0 T.length false), (2, .ptr H.length 0), (3, .ptr (H.length + 1) 0)] T.length (fun k s' h' => ∃ g1 g2 X, h' = H ++ (.box [.nil, .nil] :: .box [.own (H.length + 2) g1 0 k false, .own (H.length + 3) g2 0 (riseTo (heldB T) k).length false] :: .grow g1 1 ((hasOf (T.take k)).map eL) :: .grow g2 1 ((riseTo (heldB T) k).map eI) :: X)) (by omega) ⟨rfl, rfl, rfl, rfl, rfl, rfl⟩ rfl rfl (by repeat' (first | exact trivial | (refine ⟨rfl, ?_⟩) | (refine ⟨by simp only [zupd_at, Nat.reduceEqDiff, reduceIte]; assumption, ?_⟩))) rfl rfl (by decide) ⟨0, 0, [], rfl⟩ ?_ ?_
  · rintro k s' h' hk ⟨g1, g2, X, rfl⟩ hi hl ⟨f12, f2, f3, -⟩
    have hx : T[k]? = some T[k] := List.getElem?_eq_getElem hk
    have hmem : T[k] ∈ T := List.getElem_mem hk
    have hn := hasOf_next hk
    have hr := held_next hk
    obtain ⟨y, hy⟩ : ∃ y, y = T[k] := ⟨_, rfl⟩
    rw [← hy] at hx hn hr hmem
    obtain ⟨o, pl, co, he2⟩ := y
    simp only at hn hr
    have he : ∀ Y, elemZ (H ++ Y) 3 k (.own t g 0 T.length false) = some (.eptr t g k 0) := fun Y => by
      rw [elem_own]; exact ⟨_, ha _, by simp, hk, by simp⟩
    have hld : ∀ Y, ldZ (H ++ Y) (some 3) (.eptr t g k 0) = some (.agg (eT (o, pl, co, he2))) := fun Y => by
      rw [ld_eptr]; exact ⟨_, _, eT (o, pl, co, he2), ha _, by rw [List.getElem?_map, hx]; rfl, rfl⟩
    have het : eT (o, pl, co, he2) = [plZ (o, pl, co, he2), Z64 co, ZBo he2] := rfl
    have hcl : (plZ (o, pl, co, he2)).isCell = true := plz_cell
    have hsm := HM.out.sm _ hmem
    simp only at hsm
    have hrow : ∀ Y, rowsZ (H ++ Y) 1 (plZ (o, pl, co, he2)) = some (pl.map eI) := fun Y => (HM.out.ext Y).rows hmem
    obtain ⟨pz, hpz⟩ : ∃ pz, pz = plZ (o, pl, co, he2) := ⟨_, rfl⟩
    rw [← hpz] at het hcl hrow
    rw [het] at hld
    have hlz : ∀ Y, lenZ (H ++ Y) pz = some pl.length := fun Y => by have := rows_len (hrow Y); rwa [List.length_map] at this
    clear hx hmem hy
    have HSM := Lib.hid hsm
    have HN := Lib.hid hn
    have HR := Lib.hid hr
    have HRW := Lib.hid hrow
    clear hpz hsm hn hr het hrow
    have a0 : ∀ A B C D E : ZB, (H ++ (A :: B :: C :: D :: (X ++ [E])))[H.length + (X.length + 4)]? = some E := fun A B C D E => by
      rw [List.getElem?_append_right (by omega), Nat.add_sub_cancel_left]; simp
    have s0 : ∀ A B C D E E2 : ZB, (H ++ (A :: B :: C :: D :: (X ++ [E]))).set (H.length + (X.length + 4)) E2 = H ++ (A :: B :: C :: D :: (X ++ [E2])) := fun A B C D E E2 => by
      rw [List.set_append_right _ _ (by omega), Nat.add_sub_cancel_left]; simp
    have a5 : ∀ A B C D E F : ZB, (H ++ (A :: B :: C :: D :: (X ++ [E, F])))[H.length + (X.length + 4)]? = some E := fun A B C D E F => by
      rw [List.getElem?_append_right (by omega), Nat.add_sub_cancel_left]; simp
    have a6 : ∀ A B C D E F : ZB, (H ++ (A :: B :: C :: D :: (X ++ [E, F])))[H.length + (X.length + 5)]? = some F := fun A B C D E F => by
      rw [List.getElem?_append_right (by omega), Nat.add_sub_cancel_left]; simp
    have s6 : ∀ A B C D E F F2 : ZB, (H ++ (A :: B :: C :: D :: (X ++ [E, F]))).set (H.length + (X.length + 5)) F2 = H ++ (A :: B :: C :: D :: (X ++ [E, F2])) := fun A B C D E F F2 => by
      rw [List.set_append_right _ _ (by omega), Nat.add_sub_cancel_left]; simp
    have lx : ∀ n, L (H.length + n) = true := hL
    have l6 : L (H.length + (X.length + 5)) = true := hL _
    have hpl : pl.length < 9223372036854775807 := by have := HSM.out; omega
    repeat' (first | (simp only [zmPack, zxPack, ne_eq, zfree, owners, Nat.reduceLT, List.contains_cons, List.contains_nil, Nat.reduceBEq, BEq.rfl, chunk, setAt, List.lookup_cons, List.lookup_nil, reduceCtorEq, Nat.reduceEqDiff, reduceIte, implies_true, forall_const, Nat.reduceMul, Nat.reduceSub, Nat.reduceAdd, Nat.reduceLeDiff, he, hld, hcl, a0, s0, lx, hlz, *]) | (simp only [zgoO, zgoG, zO_nil, zthen_normal, zgoC]) | (with_reducible apply And.intro) | (with_reducible intro _))
    refine zW_forK [(20, pz), (12, .own t g 0 T.length false), (2, .ptr H.length 0), (3, .ptr (H.length + 1) 0), (4, Z64 (k : Nat)), (5, .ptr (H.length + (X.length + 4)) 0)] pl.length (fun j s2 h2 => ∃ g', s2 6 = .own (H.length + (X.length + 5)) g' 0 (keepN (pl.take j)).length false ∧ h2 = H ++ (.box [.nil, .nil] :: .box [.own (H.length + 2) g1 0 k false, .own (H.length + 3) g2 0 (riseTo (heldB T) k).length false] :: .grow g1 1 ((hasOf (T.take k)).map eL) :: .grow g2 1 ((riseTo (heldB T) k).map eI) :: (X ++ [.box [pz, Z64 co, ZBo he2], .grow g' 1 ((keepN (pl.take j)).map eI)]))) (by omega) ⟨rfl, rfl, rfl, rfl, rfl, rfl⟩ rfl rfl (by repeat' (first | exact trivial | (refine ⟨rfl, ?_⟩) | (refine ⟨by simp only [zupd_at, Nat.reduceEqDiff, reduceIte]; assumption, ?_⟩))) rfl rfl (by decide) ⟨0, by first | rfl | (simp [zupd]; rfl), rfl⟩ ?_ ?_
    · rintro j s2 h2 hj ⟨g', f6, rfl⟩ hi2 hl2 ⟨f20, -⟩
      obtain ⟨pp, hp, hld2⟩ := rows_at (HRW.out (.box [.nil, .nil] :: .box [.own (H.length + 2) g1 0 k false, .own (H.length + 3) g2 0 (riseTo (heldB T) k).length false] :: .grow g1 1 ((hasOf (T.take k)).map eL) :: .grow g2 1 ((riseTo (heldB T) k).map eI) :: (X ++ [.box [pz, Z64 co, ZBo he2], .grow g' 1 ((keepN (pl.take j)).map eI)]))) hj
      have hkn := keepN_next hj
      have hkl := keepN_len (l := pl.take j)
      rw [List.length_take] at hkl
      obtain ⟨q, hq⟩ : ∃ q, q = pl[j] := ⟨_, rfl⟩
      rw [← hq] at hld2 hkn
      have hle : ((keepN (pl.take j)).length + 1) * 8 ≤ reach := by have := HSM.out; unfold reach; omega
      generalize keepN (pl.take j) = l at f6 hp hld2 hkn hle ⊢
      have HKN := Lib.hid hkn
      have hll : l.length ≤ (l.map eI).length := by simp
      clear hkn hq hkl he hld hb hl3 ha hlz
      by_cases h0 : 0 ≤ q
      · repeat' (first | (simp only [zmPack, zxPack, ne_eq, zfree, owners, Nat.reduceLT, List.contains_cons, List.contains_nil, Nat.reduceBEq, BEq.rfl, chunk, setAt, List.lookup_cons, List.lookup_nil, reduceCtorEq, Nat.reduceEqDiff, reduceIte, implies_true, forall_const, Nat.reduceMul, Nat.reduceSub, Nat.reduceAdd, Nat.reduceLeDiff, hp, hld2, h0, f6, f20, a6, s6, l6, hle, hll, *]) | (simp only [zgoO, zgoG, zO_nil, zthen_normal, zgoC]) | (with_reducible apply And.intro) | (with_reducible intro _))
        all_goals (rw [HKN.out, if_pos h0]; first | (rw [List.length_append]; rfl) | (rw [List.map_append]; rfl) | simp)
      · repeat' (first | (simp only [zmPack, zxPack, ne_eq, zfree, owners, Nat.reduceLT, List.contains_cons, List.contains_nil, Nat.reduceBEq, BEq.rfl, chunk, setAt, List.lookup_cons, List.lookup_nil, reduceCtorEq, Nat.reduceEqDiff, reduceIte, implies_true, forall_const, Nat.reduceMul, Nat.reduceSub, Nat.reduceAdd, Nat.reduceLeDiff, hp, hld2, h0, f6, f20, *]) | (simp only [zgoO, zgoG, zO_nil, zthen_normal, zgoC]) | (with_reducible apply And.intro) | (with_reducible intro _))
        all_goals (rw [HKN.out, if_neg h0]; first | (rw [List.append_nil]; done) | (rw [List.append_nil]; rfl) | simp)
    · rintro s2 h2 ⟨g', f6, rfl⟩ ⟨f20, f12', f2', f3', f4', f5', -⟩
      rw [List.take_of_length_le (Nat.le_refl _)] at f6 ⊢
      have hpp : ((keepN pl).map eI).flatten.all pureZ = true := mv_pure (fun r hr => by obtain ⟨x, _, rfl⟩ := List.mem_map.1 hr; rfl)
      have htk : List.take (keepN pl).length ((keepN pl).map eI) = (keepN pl).map eI := List.take_of_length_le (by simp)
      have hll : (keepN pl).length ≤ ((keepN pl).map eI).length := by simp
      have hap1 : ∀ A B C Y, appZ L (H ++ (A :: B :: .grow g1 1 ((hasOf (T.take k)).map eL) :: C :: Y)) 1 24 [[.fz 1 false ((keepN pl).map eI)]] (.own (H.length + 2) g1 0 k false) = some (.own (H.length + 2) (g1 + 1) 0 (k + 1) false, H ++ (A :: B :: .grow (g1 + 1) 1 ((hasOf (T.take (k + 1))).map eL) :: C :: Y)) := fun A B C Y => by
        have hln : (hasOf (T.take k)).length = k := by simp [hasOf]; omega
        rw [app_ownN (by rw [List.getElem?_append_right (by omega), Nat.add_sub_cancel_left]; rfl) (by rw [List.length_map]; exact hln) (by have := HL.out; unfold reach; simp; omega) (lx 2), List.set_append_right _ _ (by omega), Nat.add_sub_cancel_left, HN.out, List.map_append]; rfl
      have hap2 : ∀ A B C Y, appZ L (H ++ (A :: B :: C :: .grow g2 1 ((riseTo (heldB T) k).map eI) :: Y)) 1 8 [[Z64 k]] (.own (H.length + 3) g2 0 (riseTo (heldB T) k).length false) = some (.own (H.length + 3) (g2 + 1) 0 ((riseTo (heldB T) k).length + 1) false, H ++ (A :: B :: C :: .grow (g2 + 1) 1 ((riseTo (heldB T) k ++ [(k : Int)]).map eI) :: Y)) := fun A B C Y => by
        have hln := riseTo_length (heldB T) k
        rw [app_ownN (by rw [List.getElem?_append_right (by omega), Nat.add_sub_cancel_left]; rfl) (by rw [List.length_map]) (by have := HL.out; unfold reach; simp; omega) (lx 3), List.set_append_right _ _ (by omega), Nat.add_sub_cancel_left, List.map_append]; rfl
      clear he hld hb hl3 ha hlz a0 s0
      generalize keepN pl = kp at f6 hpp htk hll hap1 ⊢
      cases he2 with
      | true =>
        repeat' (first | (simp only [zmPack, zxPack, ne_eq, zfree, owners, Nat.reduceLT, List.contains_cons, List.contains_nil, Nat.reduceBEq, BEq.rfl, chunk, setAt, List.lookup_cons, List.lookup_nil, reduceCtorEq, Nat.reduceEqDiff, reduceIte, implies_true, forall_const, Nat.reduceMul, Nat.reduceSub, Nat.reduceAdd, Nat.reduceLeDiff, f6, f3', f5', f4', a5, a6, s6, l6, hpp, htk, hll, hap1, hap2, lx, *]) | (simp only [zgoO, zgoG, zO_nil, zthen_normal, zgoC]) | (with_reducible apply And.intro) | (with_reducible intro _))
        all_goals (rw [HR.out, if_pos rfl, List.length_append]; exact ⟨_, _, _, rfl⟩)
      | false =>
        repeat' (first | (simp only [zmPack, zxPack, ne_eq, zfree, owners, Nat.reduceLT, List.contains_cons, List.contains_nil, Nat.reduceBEq, BEq.rfl, chunk, setAt, List.lookup_cons, List.lookup_nil, reduceCtorEq, Nat.reduceEqDiff, reduceIte, implies_true, forall_const, Nat.reduceMul, Nat.reduceSub, Nat.reduceAdd, Nat.reduceLeDiff, f6, f3', f5', f4', a5, a6, s6, l6, hpp, htk, hll, hap1, hap2, lx, *]) | (simp only [zgoO, zgoG, zO_nil, zthen_normal, zgoC]) | (with_reducible apply And.intro) | (with_reducible intro _))
        all_goals (rw [HR.out, if_neg (by decide), List.append_nil]; exact ⟨_, _, _, rfl⟩)
  · rintro s' h' ⟨g1, g2, X, rfl⟩ ⟨f12, f2, f3, -⟩
    have fin : Fin H (.agg [.own (H.length + 2) g1 0 T.length false, .own (H.length + 3) g2 0 (riseTo (heldB T) T.length).length false]) (H ++ (.box [.own (H.length + 2) g1 0 T.length false, .own (H.length + 3) g2 0 (riseTo (heldB T) T.length).length false] :: .box [.own (H.length + 2) g1 0 T.length false, .own (H.length + 3) g2 0 (riseTo (heldB T) T.length).length false] :: .grow g1 1 ((hasOf (T.take T.length)).map eL) :: .grow g2 1 ((riseTo (heldB T) T.length).map eI) :: X)) K := by
      rw [List.take_of_length_le (Nat.le_refl _)]
      have e : riseTo (heldB T) T.length = rising (heldB T) := by unfold rising; rw [show (heldB T).length = T.length by simp [heldB]]
      rw [e]
      refine Fin.frzA (j := 0) (k := 1) (rows := (hasOf T).map eL) rfl (by rw [List.getElem?_append_right (by omega), Nat.add_sub_cancel_left]; rfl) (by simp [hasOf]) (mv_pure (fun r hr => by obtain ⟨x, _, rfl⟩ := List.mem_map.1 hr; rfl)) ?_
      rw [List.set_append_right _ _ (by omega), Nat.add_sub_cancel_left]
      refine Fin.frzA (j := 1) (k := 1) (rows := (rising (heldB T)).map eI) rfl (by rw [List.getElem?_append_right (by omega), Nat.add_sub_cancel_left]; rfl) (by simp) (mv_pure (fun r hr => by obtain ⟨x, _, rfl⟩ := List.mem_map.1 hr; rfl)) ?_
      rw [List.set_append_right _ _ (by omega), Nat.add_sub_cancel_left]
      rw [List.drop_zero, List.take_of_length_le (by simp [hasOf]), List.drop_zero, List.take_of_length_le (by simp)]
      exact Fin.trunc (Mods.ext H _) rfl (by rw [List.take_left]; exact HK.out)
    clear hl3 hb ha
    have l0 : L H.length = true := hL 0
    repeat' (first | (simp only [zmPack, zxPack, ne_eq, zfree, owners, Nat.reduceLT, List.contains_cons, List.contains_nil, Nat.reduceBEq, BEq.rfl, chunk, setAt, List.lookup_cons, List.lookup_nil, reduceCtorEq, Nat.reduceEqDiff, reduceIte, implies_true, forall_const, Nat.reduceMul, Nat.reduceSub, Nat.reduceAdd, Nat.reduceLeDiff, l0, *]) | (simp only [zgoO, zgoG, zO_nil, zthen_normal, zgoC]) | (with_reducible apply And.intro) | (with_reducible intro _))
end Go.Proofs.Ytblgljahhhdlhaa
