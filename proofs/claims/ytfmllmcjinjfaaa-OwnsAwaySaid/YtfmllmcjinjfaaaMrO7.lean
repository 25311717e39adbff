/-
  AM's code of functions, written by am/amprint.lean.
-/
import Derived.KernelRfl
import Derived.Lib.Hide
import Derived.Test.YtfmllmcjinjfaaaMrO4
import Derived.Test.YtfmllmcjinjfaaaMrO6
namespace Go.Proofs.Ytfmllmcjinjfaaa
open Go Go.RowKit
set_option linter.unusedVariables false
def c_wk_needed : ACode := .seq (.ops [⟨(some 1), .box 2 (.tmp 0), none, true⟩,
 ⟨(some 2), .mv (.av (.val (.slice none 0 0))), none, true⟩,
 ⟨(some 3), .mv (.av (.val (.int .i64 0))), none, true⟩])
 (.seq (.seq (.ops [⟨(some 5), .load (some 2) (.tmp 1), none, true⟩,
 ⟨(some 6), .call (.av (.func 22 [])) [(.tmp 5)], none, true⟩,
 ⟨(some 4), .mv (.tmp 6), none, true⟩])
 (.seq (.ops [⟨(some 7), .mv (.tmp 4), none, true⟩,
 ⟨(some 8), .bin .neq (.tmp 7) (.av (.val (.int .i64 0))), none, true⟩])
 (.cond (.tmp 8)
 (.seq (.ops [⟨(some 9), .mv (.tmp 4), none, true⟩,
 ⟨(some 2), .mv (.av (.val (.slice none 0 0))), none, true⟩,
 ⟨(some 3), .mv (.tmp 9), none, true⟩])
 (.ret))
 (.skip))))
 (.seq (.ops [⟨(some 10), .load (some 2) (.tmp 1), none, true⟩,
 ⟨(some 11), .fieldAddr 1 (.tmp 1), none, true⟩,
 ⟨(some 12), .load none (.tmp 11), none, true⟩,
 ⟨(some 13), .call (.av (.func 26 [])) [(.tmp 10), (.tmp 12)], none, true⟩,
 ⟨(some 14), .call (.av (.func 25 [])) [(.tmp 13)], none, true⟩,
 ⟨(some 2), .mv (.tmp 14), none, true⟩,
 ⟨(some 3), .mv (.av (.val (.int .i64 0))), none, true⟩])
 (.ret)))
theorem f_wk_needed : cFunc Try.prog 13 = some ⟨15, c_wk_needed, [.tmp 2, .tmp 3]⟩ := by kernel_rfl
def c_r_hasint : ACode := .seq (.ops [⟨(some 4), .mv (.av (.val (.bool false))), none, true⟩])
 (.seq (.seq (.ops [⟨(some 7), .mv (.tmp 0), none, true⟩,
 ⟨(some 8), .len (.tmp 7), none, true⟩,
 ⟨(some 9), .mv (.av (.val (.int .i64 0))), none, true⟩])
 (rangeCode 0 1 10 9 8 16
 (.seq (.ops [⟨(some 11), .indexAddr 1 (.tmp 7) (.tmp 9), none, true⟩,
 ⟨(some 12), .load none (.tmp 11), none, true⟩,
 ⟨(some 6), .mv (.tmp 12), none, true⟩])
 (.seq (.ops [⟨(some 13), .mv (.tmp 1), none, true⟩,
 ⟨(some 14), .mv (.tmp 6), none, true⟩,
 ⟨(some 15), .bin .eql (.tmp 13) (.tmp 14), none, true⟩])
 (.cond (.tmp 15)
 (.seq (.ops [⟨(some 4), .mv (.av (.val (.bool true))), none, true⟩])
 (.ret))
 (.skip))))))
 (.seq (.ops [⟨(some 4), .mv (.av (.val (.bool false))), none, true⟩])
 (.ret)))
theorem f_r_hasint : cFunc Try.prog 15 = some ⟨17, c_r_hasint, [.tmp 4]⟩ := by kernel_rfl
def c_wk_check : ACode := .seq (.ops [⟨(some 1), .box 2 (.tmp 0), none, true⟩,
 ⟨(some 2), .mv (.av (.val (.int .i64 0))), none, true⟩])
 (.seq (.ops [⟨(some 10), .fieldAddr 0 (.tmp 1), none, true⟩,
 ⟨(some 11), .load none (.tmp 10), none, true⟩,
 ⟨(some 12), .len (.tmp 11), none, true⟩,
 ⟨(some 3), .mv (.tmp 12), none, true⟩])
 (.seq (.seq (.ops [⟨(some 13), .mv (.tmp 3), none, true⟩,
 ⟨(some 14), .bin .gtr (.tmp 13) (.av (.val (.int .i64 100))), none, true⟩,
 ⟨(some 15), .mv (.tmp 14), none, true⟩,
 ⟨(some 16), .fieldAddr 1 (.tmp 1), (some (15, false)), true⟩,
 ⟨(some 17), .load none (.tmp 16), (some (15, false)), true⟩,
 ⟨(some 18), .len (.tmp 17), (some (15, false)), true⟩,
 ⟨(some 19), .bin .gtr (.tmp 18) (.av (.val (.int .i64 100))), (some (15, false)), true⟩,
 ⟨(some 20), .pick (.tmp 15) (.av (.val (.bool true))) (.tmp 19), none, true⟩])
 (.cond (.tmp 20)
 (.seq (.ops [⟨(some 2), .mv (.av (.val (.int .i64 2))), none, true⟩])
 (.ret))
 (.skip)))
 (.seq (.seq (.ops [⟨(some 21), .fieldAddr 0 (.tmp 1), none, true⟩,
 ⟨(some 22), .load none (.tmp 21), none, true⟩,
 ⟨(some 23), .len (.tmp 22), none, true⟩,
 ⟨(some 24), .mv (.av (.val (.int .i64 0))), none, true⟩])
 (rangeCode 0 1 25 24 23 31
 (.seq (.ops [⟨(some 26), .indexAddr 1 (.tmp 22) (.tmp 24), none, true⟩,
 ⟨(some 27), .load none (.tmp 26), none, true⟩,
 ⟨(some 5), .mv (.tmp 27), none, true⟩])
 (.seq (.ops [⟨(some 28), .mv (.tmp 5), none, true⟩,
 ⟨(some 29), .len (.tmp 28), none, true⟩,
 ⟨(some 30), .bin .gtr (.tmp 29) (.av (.val (.int .i64 10))), none, true⟩])
 (.cond (.tmp 30)
 (.seq (.ops [⟨(some 2), .mv (.av (.val (.int .i64 2))), none, true⟩])
 (.ret))
 (.skip))))))
 (.seq (.seq (.ops [⟨(some 32), .fieldAddr 1 (.tmp 1), none, true⟩,
 ⟨(some 33), .load none (.tmp 32), none, true⟩,
 ⟨(some 34), .lits 1 1 [(.val (.slice none 0 0))] [(0, 1, (.tmp 33))], none, true⟩,
 ⟨(some 35), .fieldAddr 0 (.tmp 1), none, true⟩,
 ⟨(some 36), .load none (.tmp 35), none, true⟩,
 ⟨(some 37), .append 1 24 (.tmp 34) (.tmp 36), none, true⟩,
 ⟨(some 38), .len (.tmp 37), none, true⟩,
 ⟨(some 39), .mv (.av (.val (.int .i64 0))), none, true⟩])
 (rangeCode 2 3 40 39 38 54
 (.seq (.ops [⟨(some 41), .indexAddr 1 (.tmp 37) (.tmp 39), none, true⟩,
 ⟨(some 42), .load none (.tmp 41), none, true⟩,
 ⟨(some 7), .mv (.tmp 42), none, true⟩])
 (.seq (.ops [⟨(some 43), .mv (.tmp 7), none, true⟩,
 ⟨(some 44), .len (.tmp 43), none, true⟩,
 ⟨(some 45), .mv (.av (.val (.int .i64 0))), none, true⟩])
 (rangeCode 4 5 46 45 44 53
 (.seq (.ops [⟨(some 47), .indexAddr 1 (.tmp 43) (.tmp 45), none, true⟩,
 ⟨(some 48), .load none (.tmp 47), none, true⟩,
 ⟨(some 9), .mv (.tmp 48), none, true⟩])
 (.seq (.ops [⟨(some 49), .mv (.tmp 9), none, true⟩,
 ⟨(some 50), .mv (.tmp 3), none, true⟩,
 ⟨(some 51), .call (.av (.func 37 [])) [(.tmp 49), (.tmp 50)], none, true⟩,
 ⟨(some 52), .un .not (.tmp 51), none, true⟩])
 (.cond (.tmp 52)
 (.seq (.ops [⟨(some 2), .mv (.av (.val (.int .i64 3))), none, true⟩])
 (.ret))
 (.skip)))))))))
 (.seq (.ops [⟨(some 2), .mv (.av (.val (.int .i64 0))), none, true⟩])
 (.ret))))))
theorem f_wk_check : cFunc Try.prog 22 = some ⟨55, c_wk_check, [.tmp 2]⟩ := by kernel_rfl
def c_wk_rising : ACode := .seq (.ops [⟨(some 2), .mv (.av (.val (.slice none 0 0))), none, true⟩])
 (.seq (.ops [⟨(some 3), .mv (.av (.val (.slice none 0 0))), none, true⟩])
 (.seq (.seq (.ops [⟨(some 6), .mv (.tmp 0), none, true⟩,
 ⟨(some 7), .len (.tmp 6), none, true⟩,
 ⟨(some 8), .mv (.av (.val (.int .i64 0))), none, true⟩])
 (rangeCode 0 1 9 8 7 18
 (.seq (.ops [⟨(some 10), .mv (.tmp 8), none, true⟩,
 ⟨(some 11), .indexAddr 1 (.tmp 6) (.tmp 8), none, true⟩,
 ⟨(some 12), .load none (.tmp 11), none, true⟩,
 ⟨(some 4), .mv (.tmp 10), none, true⟩,
 ⟨(some 5), .mv (.tmp 12), none, true⟩])
 (.seq (.ops [⟨(some 13), .mv (.tmp 5), none, true⟩])
 (.cond (.tmp 13)
 (.ops [⟨(some 14), .mv (.tmp 3), none, true⟩,
 ⟨(some 15), .mv (.tmp 4), none, true⟩,
 ⟨(some 16), .lits 1 1 [(.val (.int .i64 0))] [(0, 1, (.tmp 15))], none, true⟩,
 ⟨(some 17), .append 1 8 (.tmp 14) (.tmp 16), none, true⟩,
 ⟨(some 3), .mv (.tmp 17), none, true⟩])
 (.skip))))))
 (.seq (.ops [⟨(some 19), .mv (.tmp 3), none, true⟩,
 ⟨(some 2), .mv (.tmp 19), none, true⟩])
 (.ret))))
theorem f_wk_rising : cFunc Try.prog 25 = some ⟨20, c_wk_rising, [.tmp 2]⟩ := by kernel_rfl
def c_wk_from : ACode := .seq (.ops [⟨(some 2), .box 2 (.tmp 0), none, true⟩,
 ⟨(some 4), .mv (.av (.val (.slice none 0 0))), none, true⟩])
 (.seq (.opsD [⟨(some 6), .load (some 2) (.tmp 2), none, true⟩,
 ⟨(some 7), .fieldAddr 0 (.tmp 2), none, true⟩,
 ⟨(some 8), .load none (.tmp 7), none, true⟩,
 ⟨(some 9), .len (.tmp 8), none, true⟩,
 ⟨(some 10), .mkSlice 1 1 [(.val (.bool false))] (.tmp 9) (.tmp 9), none, true⟩,
 ⟨(some 11), .build [(.val (.slice none 0 0)), (.val (.slice none 0 0)), (.val (.slice none 0 0)), (.val (.slice none 0 0))] [(0, 2, (.tmp 6)), (2, 1, (.tmp 10))], none, true⟩,
 ⟨(some 12), .box 4 (.tmp 11), none, true⟩,
 ⟨(some 5), .mv (.tmp 12), none, true⟩])
 (.seq (.ops [⟨(some 13), .mv (.tmp 5), none, true⟩,
 ⟨(some 14), .mv (.tmp 1), none, true⟩,
 ⟨(some 15), .call (.av (.func 43 [])) [(.tmp 13), (.tmp 14)], none, true⟩])
 (.seq (.ops [⟨(some 16), .mv (.tmp 5), none, true⟩,
 ⟨(some 17), .call (.av (.func 44 [])) [(.tmp 16)], none, true⟩])
 (.seq (.ops [⟨(some 18), .mv (.tmp 5), none, true⟩,
 ⟨(some 19), .nilCheck (.tmp 18), none, true⟩,
 ⟨(some 20), .fieldAddr 2 (.tmp 19), none, true⟩,
 ⟨(some 21), .load none (.tmp 20), none, true⟩,
 ⟨(some 4), .mv (.tmp 21), none, true⟩])
 (.ret)))))
theorem f_wk_from : cFunc Try.prog 26 = some ⟨22, c_wk_from, [.tmp 4]⟩ := by kernel_rfl
def c_wk_in : ACode := .seq (.ops [⟨(some 4), .mv (.av (.val (.bool false))), none, true⟩])
 (.seq (.ops [⟨(some 5), .mv (.tmp 0), none, true⟩,
 ⟨(some 6), .bin .geq (.tmp 5) (.av (.val (.int .i64 0))), none, true⟩,
 ⟨(some 7), .mv (.tmp 6), none, true⟩,
 ⟨(some 8), .mv (.tmp 0), (some (7, true)), true⟩,
 ⟨(some 9), .mv (.tmp 1), (some (7, true)), true⟩,
 ⟨(some 10), .bin .lss (.tmp 8) (.tmp 9), (some (7, true)), true⟩,
 ⟨(some 11), .pick (.tmp 7) (.tmp 10) (.av (.val (.bool false))), none, true⟩,
 ⟨(some 4), .mv (.tmp 11), none, true⟩])
 (.ret))
theorem f_wk_in : cFunc Try.prog 37 = some ⟨12, c_wk_in, [.tmp 4]⟩ := by kernel_rfl
def c_wk_reach : ACode := .seq (.ops [⟨(some 6), .mv (.tmp 1), none, true⟩,
 ⟨(some 7), .len (.tmp 6), none, true⟩,
 ⟨(some 8), .mv (.av (.val (.int .i64 0))), none, true⟩])
 (rangeCode 0 1 9 8 7 36
 (.seq (.ops [⟨(some 10), .indexAddr 1 (.tmp 6) (.tmp 8), none, true⟩,
 ⟨(some 11), .load none (.tmp 10), none, true⟩,
 ⟨(some 5), .mv (.tmp 11), none, true⟩])
 (.seq (.ops [⟨(some 12), .mv (.tmp 0), none, true⟩,
 ⟨(some 13), .nilCheck (.tmp 12), none, true⟩,
 ⟨(some 14), .fieldAddr 2 (.tmp 13), none, true⟩,
 ⟨(some 15), .load none (.tmp 14), none, true⟩,
 ⟨(some 16), .mv (.tmp 5), none, true⟩,
 ⟨(some 17), .indexAddr 1 (.tmp 15) (.tmp 16), none, true⟩,
 ⟨(some 18), .load none (.tmp 17), none, true⟩,
 ⟨(some 19), .un .not (.tmp 18), none, true⟩])
 (.cond (.tmp 19)
 (.seq (.ops [⟨(some 20), .mv (.tmp 0), none, true⟩,
 ⟨(some 21), .nilCheck (.tmp 20), none, true⟩,
 ⟨(some 22), .fieldAddr 2 (.tmp 21), none, true⟩,
 ⟨(some 23), .load none (.tmp 22), none, true⟩,
 ⟨(some 24), .mv (.tmp 5), none, true⟩,
 ⟨(some 25), .indexAddr 1 (.tmp 23) (.tmp 24), none, true⟩,
 ⟨none, .store 1 (.tmp 25) (.av (.val (.bool true))), none, true⟩])
 (.ops [⟨(some 26), .mv (.tmp 0), none, true⟩,
 ⟨(some 27), .mv (.tmp 0), none, true⟩,
 ⟨(some 28), .nilCheck (.tmp 27), none, true⟩,
 ⟨(some 29), .fieldAddr 3 (.tmp 28), none, true⟩,
 ⟨(some 30), .load none (.tmp 29), none, true⟩,
 ⟨(some 31), .mv (.tmp 5), none, true⟩,
 ⟨(some 32), .lits 1 1 [(.val (.int .i64 0))] [(0, 1, (.tmp 31))], none, true⟩,
 ⟨(some 33), .append 1 8 (.tmp 30) (.tmp 32), none, true⟩,
 ⟨(some 34), .nilCheck (.tmp 26), none, true⟩,
 ⟨(some 35), .fieldAddr 3 (.tmp 34), none, true⟩,
 ⟨none, .store 1 (.tmp 35) (.tmp 33), none, true⟩]))
 (.skip)))))
theorem f_wk_reach : cFunc Try.prog 43 = some ⟨37, c_wk_reach, []⟩ := by kernel_rfl
def c_wk_all : ACode := .block 0 (.loop (.seq (.seq (.ops [⟨(some 3), .mv (.tmp 0), none, true⟩,
 ⟨(some 4), .nilCheck (.tmp 3), none, true⟩,
 ⟨(some 5), .fieldAddr 3 (.tmp 4), none, true⟩,
 ⟨(some 6), .load none (.tmp 5), none, true⟩,
 ⟨(some 7), .len (.tmp 6), none, true⟩,
 ⟨(some 8), .bin .gtr (.tmp 7) (.av (.val (.int .i64 0))), none, true⟩])
 (.cond (.tmp 8)
 (.skip)
 (.exit 0)))
 (.block 1 (.seq (.opsD [⟨(some 9), .mv (.tmp 0), none, true⟩,
 ⟨(some 10), .nilCheck (.tmp 9), none, true⟩,
 ⟨(some 11), .fieldAddr 3 (.tmp 10), none, true⟩,
 ⟨(some 12), .load none (.tmp 11), none, true⟩,
 ⟨(some 13), .mv (.tmp 0), none, true⟩,
 ⟨(some 14), .nilCheck (.tmp 13), none, true⟩,
 ⟨(some 15), .fieldAddr 3 (.tmp 14), none, true⟩,
 ⟨(some 16), .load none (.tmp 15), none, true⟩,
 ⟨(some 17), .len (.tmp 16), none, true⟩,
 ⟨(some 18), .bin .sub (.tmp 17) (.av (.val (.int .i64 1))), none, true⟩,
 ⟨(some 19), .indexAddr 1 (.tmp 12) (.tmp 18), none, true⟩,
 ⟨(some 20), .load none (.tmp 19), none, true⟩,
 ⟨(some 2), .mv (.tmp 20), none, true⟩])
 (.seq (.opsD [⟨(some 21), .mv (.tmp 0), none, true⟩,
 ⟨(some 22), .mv (.tmp 0), none, true⟩,
 ⟨(some 23), .nilCheck (.tmp 22), none, true⟩,
 ⟨(some 24), .fieldAddr 3 (.tmp 23), none, true⟩,
 ⟨(some 25), .load none (.tmp 24), none, true⟩,
 ⟨(some 26), .mv (.tmp 0), none, true⟩,
 ⟨(some 27), .nilCheck (.tmp 26), none, true⟩,
 ⟨(some 28), .fieldAddr 3 (.tmp 27), none, true⟩,
 ⟨(some 29), .load none (.tmp 28), none, true⟩,
 ⟨(some 30), .len (.tmp 29), none, true⟩,
 ⟨(some 31), .bin .sub (.tmp 30) (.av (.val (.int .i64 1))), none, true⟩,
 ⟨(some 32), .slice 1 (.tmp 25) none (some (.tmp 31)) none, none, true⟩,
 ⟨(some 33), .nilCheck (.tmp 21), none, true⟩,
 ⟨(some 34), .fieldAddr 3 (.tmp 33), none, true⟩,
 ⟨none, .store 1 (.tmp 34) (.tmp 32), none, true⟩])
 (.ops [⟨(some 35), .mv (.tmp 0), none, true⟩,
 ⟨(some 36), .mv (.tmp 0), none, true⟩,
 ⟨(some 37), .nilCheck (.tmp 36), none, true⟩,
 ⟨(some 38), .fieldAddr 0 (.tmp 37), none, true⟩,
 ⟨(some 39), .fieldAddr 0 (.tmp 38), none, true⟩,
 ⟨(some 40), .load none (.tmp 39), none, true⟩,
 ⟨(some 41), .mv (.tmp 2), none, true⟩,
 ⟨(some 42), .indexAddr 1 (.tmp 40) (.tmp 41), none, true⟩,
 ⟨(some 43), .load none (.tmp 42), none, true⟩,
 ⟨(some 44), .call (.av (.func 43 [])) [(.tmp 35), (.tmp 43)], none, true⟩]))))))
theorem f_wk_all : cFunc Try.prog 44 = some ⟨45, c_wk_all, []⟩ := by kernel_rfl
end Go.Proofs.Ytfmllmcjinjfaaa

namespace Go.Proofs.Ytfmllmcjinjfaaa
open Go Go.RowKit
set_option linter.unusedVariables false
set_option linter.unusedSimpArgs false
variable {tb : List (FuncId × Bool)} {fl : Nat → Bool} {h : Heap} {K : AV → Heap → Prop}

instance (N : Nat) (x : Int) : Decidable (0 ≤ x ∧ x < (N : Int)) := inferInstanceAs (Decidable (_ ∧ _))
def checkE (has : List (List Int)) (roots : List Int) : Int :=
  if has.length > 100 ∨ roots.length > 100 then 2 else if ∃ l ∈ has, l.length > 10 then 2 else if ∀ l ∈ roots :: has, ∀ x ∈ l, 0 ≤ x ∧ x < (has.length : Int) then 0 else 3

def PreIn (N : Nat) (l : List Int) (j : Nat) : Prop := ∀ i (hi : i < l.length), i < j → 0 ≤ l[i] ∧ l[i] < (N : Int)
theorem PreIn.zero {N : Nat} {l : List Int} : PreIn N l 0 := fun i _ h => absurd h (by omega)
theorem PreIn.succ {N : Nat} {l : List Int} {j : Nat} (h : PreIn N l j) (hj : j < l.length) (hx : 0 ≤ l[j] ∧ l[j] < (N : Int)) : PreIn N l (j + 1) := fun i hi hij => by
  by_cases e : i = j
  · subst e; exact hx
  · exact h i hi (by omega)
theorem PreIn.all {N : Nat} {l : List Int} (h : PreIn N l l.length) : ∀ x ∈ l, 0 ≤ x ∧ x < (N : Int) := fun x hx => by
  obtain ⟨i, hi, rfl⟩ := List.getElem_of_mem hx
  exact h i hi hi
def PreShort (ls : List (List Int)) (j : Nat) : Prop := ∀ i (hi : i < ls.length), i < j → ls[i].length ≤ 10
def PreAll (N : Nat) (ls : List (List Int)) (j : Nat) : Prop := ∀ i (hi : i < ls.length), i < j → ∀ x ∈ ls[i], 0 ≤ x ∧ x < (N : Int)
theorem PreAll.succ {N : Nat} {ls : List (List Int)} {j : Nat} (h : PreAll N ls j) (hj : j < ls.length) (hx : PreIn N ls[j] ls[j].length) : PreAll N ls (j + 1) := fun i hi hij => by
  by_cases e : i = j
  · subst e; exact hx.all
  · exact h i hi (by omega)
theorem in_am {n many : Int} (hK : K (BV (decide (0 ≤ n ∧ n < many))) h) : AC (constX tb) (cFunc Try.prog) 37 [I64 n, I64 many] fl h K := by
  refine AC.enter rfl f_wk_in (by simp) ?_
  simp only [c_wk_in]
  repeat' (first | (simp only [AW_next, AW_ops, AW_opsD, AW_cond, AW_block, AW_exit, AW_ret, AW_skip, AW_scope, AO_nil, AO_next, AO_nextW, wantB_bool, wantK_some, then_normal, then_exit, then_ret, inBlk_normal, inBlk_exit, inBlk_ret, A1_mv, A1_pick, A1_box, A1_zero, A1_build, A1_lits, A1_load, shallow_none, A1_store, A1_nilCheckI, nilOk_ptr, nilOk_func, A1_bin, A1_eqNil, A1_eqBool, A1_eqAgg, A1_un, A1_conv, A1_field, A1_fieldAddr, A1_indexAddr, A1_indexArr, A1_index, A1_slice, A1_mkSlice, A1_extract, A1_func, A1_call, callee_func, callee_bfunc, A1_append, A1_len, A1_minmax, put_some, put_none, upd_at, ev_tmp, ev_av, bin_lss, bin_leq, bin_gtr, bin_geq, bin_eql, bin_neq, bin_add, bin_sub, bin_mul, un_not, natOf_nat, Bool.not_eq_false', Prod.mk.injEq, and_assoc, decide_false, decide_true, Bool.not_false, Bool.not_true, Bool.true_eq_false, Bool.false_eq_true, exists_false, Bool.not_eq_false, Bool.not_not, AV.val.injEq, AV.ptr.injEq, AV.slice.injEq, AV.func.injEq, AV.tuple.injEq, AV.agg.injEq, Value.bool.injEq, Value.int.injEq, Option.some.injEq, exists_eq_left', exists_eq_left, exists_and_left, exists_and_right, and_true, true_and, decide_eq_true_eq, decide_eq_false_iff_not, if_true, if_false, Bool.not_eq_true', beq_true, beq_false, ne_eq, not_true_eq_false, not_false_eq_true, reduceCtorEq, List.getD_cons_zero, List.getD_cons_succ, List.map_cons, List.map_nil, List.append_nil, Nat.reduceEqDiff, reduceIte, ite_true, ite_false, or_true, true_or, or_false, false_or, resA, resultsA, true_imp_iff, false_imp_iff, implies_true, imp_false, and_self, imp_self, and_false, false_and, forall_const, cell_val, cell_ptr, cell_slice, cell_func, cell_hole, cells_agg, cells_val, cells_ptr, cells_slice, cells_func, cells_hole, cells_cell, List.length_cons, List.length_nil, List.all_cons, List.all_nil, Bool.and_self, ldA, List.mapM_cons, List.mapM_nil, Option.bind_eq_bind, Option.bind_some, Option.pure_def, Option.map_none, Option.map_some, List.set_cons_zero, List.set_cons_succ, Nat.lt_add_one, List.append_assoc, List.cons_append, List.nil_append, List.append_nil, List.length_append, rd1_n0, rd1_nK, rd1_c0, rd1_cS, rd_n0, rd_nK, rd_c0, rd_cS, fillA, List.take_zero, List.take_succ_cons, List.take_nil, List.drop_zero, List.drop_succ_cons, List.drop_nil, List.getElem?_cons_zero, List.getElem?_cons_succ, Nat.reduceAdd, Nat.reduceLeDiff, Nat.add_eq_zero_iff, and_self, Nat.zero_add, Nat.add_zero, Nat.mul_one, *]) | (simp only [goO, AO_nil, then_normal, goC]) | (with_reducible apply And.intro) | (with_reducible intro _))
  all_goals (simp_all)

theorem check_am {v1 v2 : AV} {has : List (List Int)} {roots : List Int} (h1 : LL h v1 has) (h2 : IL h v2 roots) (hK : ∀ e, K (I64 (checkE has roots)) (h ++ e)) :
    AC (constX tb) (cFunc Try.prog) 22 [.agg [v1, v2]] fl h K := by
  refine AC.enter rfl f_wk_check (by simp) ?_
  have hl1 := h1.len
  have hl2 := h2.len
  have hc1 := h1.cell
  have hc2 := h2.cell
  by_cases hL : has.length > 100 ∨ roots.length > 100
  · have hC : checkE has roots = 2 := if_pos hL
    have hK := hK [some [v1, v2]]
    rw [hC] at hK
    simp only [c_wk_check]
    repeat' (first | (simp only [AW_next, AW_ops, AW_opsD, AW_cond, AW_block, AW_exit, AW_ret, AW_skip, AW_scope, AO_nil, AO_next, AO_nextW, wantB_bool, wantK_some, then_normal, then_exit, then_ret, inBlk_normal, inBlk_exit, inBlk_ret, A1_mv, A1_pick, A1_box, A1_zero, A1_build, A1_lits, A1_load, shallow_none, A1_store, A1_nilCheckI, nilOk_ptr, nilOk_func, A1_bin, A1_eqNil, A1_eqBool, A1_eqAgg, A1_un, A1_conv, A1_field, A1_fieldAddr, A1_indexAddr, A1_indexArr, A1_index, A1_slice, A1_mkSlice, A1_extract, A1_func, A1_call, callee_func, callee_bfunc, A1_append, A1_len, A1_minmax, put_some, put_none, upd_at, ev_tmp, ev_av, bin_lss, bin_leq, bin_gtr, bin_geq, bin_eql, bin_neq, bin_add, bin_sub, bin_mul, un_not, natOf_nat, Bool.not_eq_false', Prod.mk.injEq, and_assoc, decide_false, decide_true, Bool.not_false, Bool.not_true, Bool.true_eq_false, Bool.false_eq_true, exists_false, Bool.not_eq_false, Bool.not_not, AV.val.injEq, AV.ptr.injEq, AV.slice.injEq, AV.func.injEq, AV.tuple.injEq, AV.agg.injEq, Value.bool.injEq, Value.int.injEq, Option.some.injEq, exists_eq_left', exists_eq_left, exists_and_left, exists_and_right, and_true, true_and, decide_eq_true_eq, decide_eq_false_iff_not, if_true, if_false, Bool.not_eq_true', beq_true, beq_false, ne_eq, not_true_eq_false, not_false_eq_true, reduceCtorEq, List.getD_cons_zero, List.getD_cons_succ, List.map_cons, List.map_nil, List.append_nil, Nat.reduceEqDiff, reduceIte, ite_true, ite_false, or_true, true_or, or_false, false_or, resA, resultsA, true_imp_iff, false_imp_iff, implies_true, imp_false, and_self, imp_self, and_false, false_and, forall_const, cell_val, cell_ptr, cell_slice, cell_func, cell_hole, cells_agg, cells_val, cells_ptr, cells_slice, cells_func, cells_hole, cells_cell, List.length_cons, List.length_nil, List.all_cons, List.all_nil, Bool.and_self, ldA, List.mapM_cons, List.mapM_nil, Option.bind_eq_bind, Option.bind_some, Option.pure_def, Option.map_none, Option.map_some, List.set_cons_zero, List.set_cons_succ, Nat.lt_add_one, List.append_assoc, List.cons_append, List.nil_append, List.append_nil, List.length_append, rd1_n0, rd1_nK, rd1_c0, rd1_cS, rd_n0, rd_nK, rd_c0, rd_cS, fillA, List.take_zero, List.take_succ_cons, List.take_nil, List.drop_zero, List.drop_succ_cons, List.drop_nil, List.getElem?_cons_zero, List.getElem?_cons_succ, Nat.reduceAdd, Nat.reduceLeDiff, Nat.add_eq_zero_iff, and_self, Nat.zero_add, Nat.add_zero, Nat.mul_one, hl1, hl2, *]) | (simp only [goO, AO_nil, then_normal, goC]) | (with_reducible apply And.intro) | (with_reducible intro _))
    all_goals (exfalso; omega)
  · have b0 : blk (h ++ [some [v1, v2]]) h.length = some [v1, v2] := blk_app_new
    have e1 : ¬ (100 : Int) < (has.length : Int) := by omega
    have e2 : ¬ (100 : Int) < (roots.length : Int) := by omega
    clear hL
    simp only [c_wk_check]
    repeat' (first | (simp only [AW_next, AW_ops, AW_opsD, AW_cond, AW_block, AW_exit, AW_ret, AW_skip, AW_scope, AO_nil, AO_next, AO_nextW, wantB_bool, wantK_some, then_normal, then_exit, then_ret, inBlk_normal, inBlk_exit, inBlk_ret, A1_mv, A1_pick, A1_box, A1_zero, A1_build, A1_lits, A1_load, shallow_none, A1_store, A1_nilCheckI, nilOk_ptr, nilOk_func, A1_bin, A1_eqNil, A1_eqBool, A1_eqAgg, A1_un, A1_conv, A1_field, A1_fieldAddr, A1_indexAddr, A1_indexArr, A1_index, A1_slice, A1_mkSlice, A1_extract, A1_func, A1_call, callee_func, callee_bfunc, A1_append, A1_len, A1_minmax, put_some, put_none, upd_at, ev_tmp, ev_av, bin_lss, bin_leq, bin_gtr, bin_geq, bin_eql, bin_neq, bin_add, bin_sub, bin_mul, un_not, natOf_nat, Bool.not_eq_false', Prod.mk.injEq, and_assoc, decide_false, decide_true, Bool.not_false, Bool.not_true, Bool.true_eq_false, Bool.false_eq_true, exists_false, Bool.not_eq_false, Bool.not_not, AV.val.injEq, AV.ptr.injEq, AV.slice.injEq, AV.func.injEq, AV.tuple.injEq, AV.agg.injEq, Value.bool.injEq, Value.int.injEq, Option.some.injEq, exists_eq_left', exists_eq_left, exists_and_left, exists_and_right, and_true, true_and, decide_eq_true_eq, decide_eq_false_iff_not, if_true, if_false, Bool.not_eq_true', beq_true, beq_false, ne_eq, not_true_eq_false, not_false_eq_true, reduceCtorEq, List.getD_cons_zero, List.getD_cons_succ, List.map_cons, List.map_nil, List.append_nil, Nat.reduceEqDiff, reduceIte, ite_true, ite_false, or_true, true_or, or_false, false_or, resA, resultsA, true_imp_iff, false_imp_iff, implies_true, imp_false, and_self, imp_self, and_false, false_and, forall_const, cell_val, cell_ptr, cell_slice, cell_func, cell_hole, cells_agg, cells_val, cells_ptr, cells_slice, cells_func, cells_hole, cells_cell, List.length_cons, List.length_nil, List.all_cons, List.all_nil, Bool.and_self, ldA, List.mapM_cons, List.mapM_nil, Option.bind_eq_bind, Option.bind_some, Option.pure_def, Option.map_none, Option.map_some, List.set_cons_zero, List.set_cons_succ, Nat.lt_add_one, List.append_assoc, List.cons_append, List.nil_append, List.append_nil, List.length_append, rd1_n0, rd1_nK, rd1_c0, rd1_cS, rd_n0, rd_nK, rd_c0, rd_cS, fillA, List.take_zero, List.take_succ_cons, List.take_nil, List.drop_zero, List.drop_succ_cons, List.drop_nil, List.getElem?_cons_zero, List.getElem?_cons_succ, Nat.reduceAdd, Nat.reduceLeDiff, Nat.add_eq_zero_iff, and_self, Nat.zero_add, Nat.add_zero, Nat.mul_one, rd1_of b0, hl1, hl2, List.getElem?_cons_zero, List.getElem?_cons_succ, *]) | (simp only [goO, AO_nil, then_normal, goC]) | (with_reducible apply And.intro) | (with_reducible intro _))
    have hLB : has.length < 1000 := by omega
    have hRB : roots.length < 1000 := by omega
    refine AW.named fun S hS => ?_
    have g1 : S 1 = .ptr h.length 0 := by rw [hS]; rfl
    have g3 : S 3 = I64 has.length := by rw [hS]; rfl
    have g22 : S 22 = v1 := by rw [hS]; rfl
    have g23 : S 23 = I64 has.length := by rw [hS]; rfl
    have g24 : S 24 = I64 (0 : Nat) := by rw [hS]; rfl
    clear hS
    refine AW_for has.length (by omega) g24 g23 rfl rfl (by decide) (fun k s' h' => h' = h ++ [some [v1, v2]] ∧ PreShort has k) ⟨rfl, fun i hi hk => by omega⟩ ?_ ?_
    · rintro k s' h' hk ⟨rfl, hle⟩ hi hl hs
      have f22 := (hs 22 rfl).trans g22
      clear hs g1 g3 g22 g23 g24
      obtain ⟨id, off, lb, ex, u, rfl, hrd, hu⟩ := h1.atE hk
      have hul := hu.len
      repeat' (first | (simp only [AW_next, AW_ops, AW_opsD, AW_cond, AW_block, AW_exit, AW_ret, AW_skip, AW_scope, AO_nil, AO_next, AO_nextW, wantB_bool, wantK_some, then_normal, then_exit, then_ret, inBlk_normal, inBlk_exit, inBlk_ret, A1_mv, A1_pick, A1_box, A1_zero, A1_build, A1_lits, A1_load, shallow_none, A1_store, A1_nilCheckI, nilOk_ptr, nilOk_func, A1_bin, A1_eqNil, A1_eqBool, A1_eqAgg, A1_un, A1_conv, A1_field, A1_fieldAddr, A1_indexAddr, A1_indexArr, A1_index, A1_slice, A1_mkSlice, A1_extract, A1_func, A1_call, callee_func, callee_bfunc, A1_append, A1_len, A1_minmax, put_some, put_none, upd_at, ev_tmp, ev_av, bin_lss, bin_leq, bin_gtr, bin_geq, bin_eql, bin_neq, bin_add, bin_sub, bin_mul, un_not, natOf_nat, Bool.not_eq_false', Prod.mk.injEq, and_assoc, decide_false, decide_true, Bool.not_false, Bool.not_true, Bool.true_eq_false, Bool.false_eq_true, exists_false, Bool.not_eq_false, Bool.not_not, AV.val.injEq, AV.ptr.injEq, AV.slice.injEq, AV.func.injEq, AV.tuple.injEq, AV.agg.injEq, Value.bool.injEq, Value.int.injEq, Option.some.injEq, exists_eq_left', exists_eq_left, exists_and_left, exists_and_right, and_true, true_and, decide_eq_true_eq, decide_eq_false_iff_not, if_true, if_false, Bool.not_eq_true', beq_true, beq_false, ne_eq, not_true_eq_false, not_false_eq_true, reduceCtorEq, List.getD_cons_zero, List.getD_cons_succ, List.map_cons, List.map_nil, List.append_nil, Nat.reduceEqDiff, reduceIte, ite_true, ite_false, or_true, true_or, or_false, false_or, resA, resultsA, true_imp_iff, false_imp_iff, implies_true, imp_false, and_self, imp_self, and_false, false_and, forall_const, cell_val, cell_ptr, cell_slice, cell_func, cell_hole, cells_agg, cells_val, cells_ptr, cells_slice, cells_func, cells_hole, cells_cell, List.length_cons, List.length_nil, List.all_cons, List.all_nil, Bool.and_self, ldA, List.mapM_cons, List.mapM_nil, Option.bind_eq_bind, Option.bind_some, Option.pure_def, Option.map_none, Option.map_some, List.set_cons_zero, List.set_cons_succ, Nat.lt_add_one, List.append_assoc, List.cons_append, List.nil_append, List.append_nil, List.length_append, rd1_n0, rd1_nK, rd1_c0, rd1_cS, rd_n0, rd_nK, rd_c0, rd_cS, fillA, List.take_zero, List.take_succ_cons, List.take_nil, List.drop_zero, List.drop_succ_cons, List.drop_nil, List.getElem?_cons_zero, List.getElem?_cons_succ, Nat.reduceAdd, Nat.reduceLeDiff, Nat.add_eq_zero_iff, and_self, Nat.zero_add, Nat.add_zero, Nat.mul_one, hrd, hul, *]) | (simp only [goO, AO_nil, then_normal, goC]) | (with_reducible apply And.intro) | (with_reducible intro _))
      · rename_i h10
        have := hK [some [.slice id off has.length lb ex 1, v2]]
        have hC : checkE has roots = 2 := by
          unfold checkE
          rw [if_neg (by omega), if_pos ⟨has[k], List.getElem_mem _, by omega⟩]
        rw [hC] at this; exact this
      · rename_i h10
        intro i hi' hik
        by_cases e : i = k
        · subst e; omega
        · exact hle i hi' (by omega)
    · rintro s' h' ⟨rfl, hle⟩ hs
      have f1 := (hs 1 rfl).trans g1
      have f3 := (hs 3 rfl).trans g3
      clear hs g1 g3 g22 g23 g24
      obtain ⟨vs, hvl, hvs, hvi⟩ := h1
      have hrow : ∀ e, rowOf (h ++ e) 1 v1 = some (has.length, vs) := fun e => (hvs.ext e).row
      have hc0 : LL (h ++ [some [v1, v2], some [v2]]) v1 has := LL.ext _ ⟨vs, hvl, hvs, hvi⟩
      obtain ⟨va, ea, happ, hsa, _⟩ := append_full (fl := fl) (h := h ++ [some [v1, v2], some [v2]]) (k := 1) (bytes := 24) (x := .slice (h.length + 1) 0 1 1 true 1) (old := [v2]) (n0 := 1) (n := has.length) (cs := vs)
        ⟨rfl, .inr ⟨h.length + 1, 0, 1, true, [v2], rfl, Nat.le_refl _, by rw [blk_atK]; rfl, by simp, by simp⟩⟩ (.inr ⟨_, _, rfl⟩) (by omega) (by unfold reach; omega)
      have hall : LL (h ++ [some [v1, v2], some [v2]] ++ ea) va (roots :: has) := by
        refine ⟨v2 :: vs, by simp [hvl], by simpa [Nat.add_comm] using hsa, fun i hi hv => ?_⟩
        cases i with
        | zero => exact (h2.ext _).ext _
        | succ i =>
          simp only [List.getElem_cons_succ]
          exact ((hvi i (by simpa using hi) (by simpa using hv)).ext _).ext _
      obtain ⟨all, hal⟩ : ∃ all, all = roots :: has := ⟨_, rfl⟩
      rw [← hal] at hall
      have hL := hall.len
      have hN : all.length < 1000 := by rw [hal]; simp; omega
      obtain ⟨H, hH⟩ : ∃ H, H = h ++ [some [v1, v2], some [v2]] ++ ea := ⟨_, rfl⟩
      rw [← hH] at happ hall hsa
      have hKH : K (I64 (checkE has roots)) H := by rw [hH, List.append_assoc]; exact hK _
      clear hH
      have HAL := Lib.hid hal
      clear hal
      repeat' (first | (simp only [AW_next, AW_ops, AW_opsD, AW_cond, AW_block, AW_exit, AW_ret, AW_skip, AW_scope, AO_nil, AO_next, AO_nextW, wantB_bool, wantK_some, then_normal, then_exit, then_ret, inBlk_normal, inBlk_exit, inBlk_ret, A1_mv, A1_pick, A1_box, A1_zero, A1_build, A1_lits, A1_load, shallow_none, A1_store, A1_nilCheckI, nilOk_ptr, nilOk_func, A1_bin, A1_eqNil, A1_eqBool, A1_eqAgg, A1_un, A1_conv, A1_field, A1_fieldAddr, A1_indexAddr, A1_indexArr, A1_index, A1_slice, A1_mkSlice, A1_extract, A1_func, A1_call, callee_func, callee_bfunc, A1_append, A1_len, A1_minmax, put_some, put_none, upd_at, ev_tmp, ev_av, bin_lss, bin_leq, bin_gtr, bin_geq, bin_eql, bin_neq, bin_add, bin_sub, bin_mul, un_not, natOf_nat, Bool.not_eq_false', Prod.mk.injEq, and_assoc, decide_false, decide_true, Bool.not_false, Bool.not_true, Bool.true_eq_false, Bool.false_eq_true, exists_false, Bool.not_eq_false, Bool.not_not, AV.val.injEq, AV.ptr.injEq, AV.slice.injEq, AV.func.injEq, AV.tuple.injEq, AV.agg.injEq, Value.bool.injEq, Value.int.injEq, Option.some.injEq, exists_eq_left', exists_eq_left, exists_and_left, exists_and_right, and_true, true_and, decide_eq_true_eq, decide_eq_false_iff_not, if_true, if_false, Bool.not_eq_true', beq_true, beq_false, ne_eq, not_true_eq_false, not_false_eq_true, reduceCtorEq, List.getD_cons_zero, List.getD_cons_succ, List.map_cons, List.map_nil, List.append_nil, Nat.reduceEqDiff, reduceIte, ite_true, ite_false, or_true, true_or, or_false, false_or, resA, resultsA, true_imp_iff, false_imp_iff, implies_true, imp_false, and_self, imp_self, and_false, false_and, forall_const, cell_val, cell_ptr, cell_slice, cell_func, cell_hole, cells_agg, cells_val, cells_ptr, cells_slice, cells_func, cells_hole, cells_cell, List.length_cons, List.length_nil, List.all_cons, List.all_nil, Bool.and_self, ldA, List.mapM_cons, List.mapM_nil, Option.bind_eq_bind, Option.bind_some, Option.pure_def, Option.map_none, Option.map_some, List.set_cons_zero, List.set_cons_succ, Nat.lt_add_one, List.append_assoc, List.cons_append, List.nil_append, List.append_nil, List.length_append, rd1_n0, rd1_nK, rd1_c0, rd1_cS, rd_n0, rd_nK, rd_c0, rd_cS, fillA, List.take_zero, List.take_succ_cons, List.take_nil, List.drop_zero, List.drop_succ_cons, List.drop_nil, List.getElem?_cons_zero, List.getElem?_cons_succ, Nat.reduceAdd, Nat.reduceLeDiff, Nat.add_eq_zero_iff, and_self, Nat.zero_add, Nat.add_zero, Nat.mul_one, hrow, happ, hL, *]) | (simp only [goO, AO_nil, then_normal, goC]) | (with_reducible apply And.intro) | (with_reducible intro _))
      refine AW.named fun S hS => ?_
      have g3 : S 3 = I64 has.length := by rw [hS]; simp only [upd_at, reduceIte, Nat.reduceEqDiff, f3]
      have g37 : S 37 = va := by rw [hS]; rfl
      have g38 : S 38 = I64 all.length := by rw [hS]; rfl
      have g39 : S 39 = I64 (0 : Nat) := by rw [hS]; rfl
      clear hS
      refine AW_for all.length (by omega) g39 g38 rfl rfl (by decide) (fun k s' h' => h' = H ∧ PreAll has.length all k) ⟨rfl, fun i hi hk => by omega⟩ ?_ ?_
      · rintro k s' h' hk ⟨rfl, hin⟩ hi hl hs
        have f37 := (hs 37 rfl).trans g37
        have f3 := (hs 3 rfl).trans g3
        clear hs g3 g37 g38 g39
        obtain ⟨id, off, lb, ex, u, rfl, _, hrd, hu⟩ := hall.at hk
        have hul := hu.len
        repeat' (first | (simp only [AW_next, AW_ops, AW_opsD, AW_cond, AW_block, AW_exit, AW_ret, AW_skip, AW_scope, AO_nil, AO_next, AO_nextW, wantB_bool, wantK_some, then_normal, then_exit, then_ret, inBlk_normal, inBlk_exit, inBlk_ret, A1_mv, A1_pick, A1_box, A1_zero, A1_build, A1_lits, A1_load, shallow_none, A1_store, A1_nilCheckI, nilOk_ptr, nilOk_func, A1_bin, A1_eqNil, A1_eqBool, A1_eqAgg, A1_un, A1_conv, A1_field, A1_fieldAddr, A1_indexAddr, A1_indexArr, A1_index, A1_slice, A1_mkSlice, A1_extract, A1_func, A1_call, callee_func, callee_bfunc, A1_append, A1_len, A1_minmax, put_some, put_none, upd_at, ev_tmp, ev_av, bin_lss, bin_leq, bin_gtr, bin_geq, bin_eql, bin_neq, bin_add, bin_sub, bin_mul, un_not, natOf_nat, Bool.not_eq_false', Prod.mk.injEq, and_assoc, decide_false, decide_true, Bool.not_false, Bool.not_true, Bool.true_eq_false, Bool.false_eq_true, exists_false, Bool.not_eq_false, Bool.not_not, AV.val.injEq, AV.ptr.injEq, AV.slice.injEq, AV.func.injEq, AV.tuple.injEq, AV.agg.injEq, Value.bool.injEq, Value.int.injEq, Option.some.injEq, exists_eq_left', exists_eq_left, exists_and_left, exists_and_right, and_true, true_and, decide_eq_true_eq, decide_eq_false_iff_not, if_true, if_false, Bool.not_eq_true', beq_true, beq_false, ne_eq, not_true_eq_false, not_false_eq_true, reduceCtorEq, List.getD_cons_zero, List.getD_cons_succ, List.map_cons, List.map_nil, List.append_nil, Nat.reduceEqDiff, reduceIte, ite_true, ite_false, or_true, true_or, or_false, false_or, resA, resultsA, true_imp_iff, false_imp_iff, implies_true, imp_false, and_self, imp_self, and_false, false_and, forall_const, cell_val, cell_ptr, cell_slice, cell_func, cell_hole, cells_agg, cells_val, cells_ptr, cells_slice, cells_func, cells_hole, cells_cell, List.length_cons, List.length_nil, List.all_cons, List.all_nil, Bool.and_self, ldA, List.mapM_cons, List.mapM_nil, Option.bind_eq_bind, Option.bind_some, Option.pure_def, Option.map_none, Option.map_some, List.set_cons_zero, List.set_cons_succ, Nat.lt_add_one, List.append_assoc, List.cons_append, List.nil_append, List.append_nil, List.length_append, rd1_n0, rd1_nK, rd1_c0, rd1_cS, rd_n0, rd_nK, rd_c0, rd_cS, fillA, List.take_zero, List.take_succ_cons, List.take_nil, List.drop_zero, List.drop_succ_cons, List.drop_nil, List.getElem?_cons_zero, List.getElem?_cons_succ, Nat.reduceAdd, Nat.reduceLeDiff, Nat.add_eq_zero_iff, and_self, Nat.zero_add, Nat.add_zero, Nat.mul_one, hrd, hul, *]) | (simp only [goO, AO_nil, then_normal, goC]) | (with_reducible apply And.intro) | (with_reducible intro _))
        refine AW.named fun S hS => ?_
        have g3 : S 3 = I64 has.length := by rw [hS]; simp only [upd_at, reduceIte, Nat.reduceEqDiff, f3]
        have g43 : S 43 = u := by rw [hS]; rfl
        have g44 : S 44 = I64 all[k].length := by rw [hS]; rfl
        have g45 : S 45 = I64 (0 : Nat) := by rw [hS]; rfl
        have i39 : S 39 = I64 k := by rw [hS]; simp only [upd_at, reduceIte, Nat.reduceEqDiff, hi]
        have hub : all[k].length < 1000000 := by
          have hm : all[k] ∈ roots :: has := by rw [← HAL.out]; exact List.getElem_mem _
          rcases List.mem_cons.1 hm with e | e
          · rw [e]; omega
          · obtain ⟨i, hi, e⟩ := List.getElem_of_mem e
            have := hle i hi hi
            rw [e] at this; omega
        clear hS
        refine AW_for all[k].length (by omega) g45 g44 rfl rfl (by decide) (fun j s2 h2 => h2 = h' ∧ PreIn has.length all[k] j) ⟨rfl, .zero⟩ ?_ ?_
        · rintro j s2 h2 hj ⟨rfl, hjn⟩ hi2 hl2 hs2
          have q43 := (hs2 43 rfl).trans g43
          have q3 := (hs2 3 rfl).trans g3
          clear hs2 g3 g43 g44 g45
          obtain ⟨id2, off2, lb2, ex2, rfl, _, hrd2⟩ := hu.at hj
          repeat' (first | (simp only [AW_next, AW_ops, AW_opsD, AW_cond, AW_block, AW_exit, AW_ret, AW_skip, AW_scope, AO_nil, AO_next, AO_nextW, wantB_bool, wantK_some, then_normal, then_exit, then_ret, inBlk_normal, inBlk_exit, inBlk_ret, A1_mv, A1_pick, A1_box, A1_zero, A1_build, A1_lits, A1_load, shallow_none, A1_store, A1_nilCheckI, nilOk_ptr, nilOk_func, A1_bin, A1_eqNil, A1_eqBool, A1_eqAgg, A1_un, A1_conv, A1_field, A1_fieldAddr, A1_indexAddr, A1_indexArr, A1_index, A1_slice, A1_mkSlice, A1_extract, A1_func, A1_call, callee_func, callee_bfunc, A1_append, A1_len, A1_minmax, put_some, put_none, upd_at, ev_tmp, ev_av, bin_lss, bin_leq, bin_gtr, bin_geq, bin_eql, bin_neq, bin_add, bin_sub, bin_mul, un_not, natOf_nat, Bool.not_eq_false', Prod.mk.injEq, and_assoc, decide_false, decide_true, Bool.not_false, Bool.not_true, Bool.true_eq_false, Bool.false_eq_true, exists_false, Bool.not_eq_false, Bool.not_not, AV.val.injEq, AV.ptr.injEq, AV.slice.injEq, AV.func.injEq, AV.tuple.injEq, AV.agg.injEq, Value.bool.injEq, Value.int.injEq, Option.some.injEq, exists_eq_left', exists_eq_left, exists_and_left, exists_and_right, and_true, true_and, decide_eq_true_eq, decide_eq_false_iff_not, if_true, if_false, Bool.not_eq_true', beq_true, beq_false, ne_eq, not_true_eq_false, not_false_eq_true, reduceCtorEq, List.getD_cons_zero, List.getD_cons_succ, List.map_cons, List.map_nil, List.append_nil, Nat.reduceEqDiff, reduceIte, ite_true, ite_false, or_true, true_or, or_false, false_or, resA, resultsA, true_imp_iff, false_imp_iff, implies_true, imp_false, and_self, imp_self, and_false, false_and, forall_const, cell_val, cell_ptr, cell_slice, cell_func, cell_hole, cells_agg, cells_val, cells_ptr, cells_slice, cells_func, cells_hole, cells_cell, List.length_cons, List.length_nil, List.all_cons, List.all_nil, Bool.and_self, ldA, List.mapM_cons, List.mapM_nil, Option.bind_eq_bind, Option.bind_some, Option.pure_def, Option.map_none, Option.map_some, List.set_cons_zero, List.set_cons_succ, Nat.lt_add_one, List.append_assoc, List.cons_append, List.nil_append, List.append_nil, List.length_append, rd1_n0, rd1_nK, rd1_c0, rd1_cS, rd_n0, rd_nK, rd_c0, rd_cS, fillA, List.take_zero, List.take_succ_cons, List.take_nil, List.drop_zero, List.drop_succ_cons, List.drop_nil, List.getElem?_cons_zero, List.getElem?_cons_succ, Nat.reduceAdd, Nat.reduceLeDiff, Nat.add_eq_zero_iff, and_self, Nat.zero_add, Nat.add_zero, Nat.mul_one, hrd2, *]) | (simp only [goO, AO_nil, then_normal, goC]) | (with_reducible apply And.intro) | (with_reducible intro _))
          refine in_am ?_
          repeat' (first | (simp only [AW_next, AW_ops, AW_opsD, AW_cond, AW_block, AW_exit, AW_ret, AW_skip, AW_scope, AO_nil, AO_next, AO_nextW, wantB_bool, wantK_some, then_normal, then_exit, then_ret, inBlk_normal, inBlk_exit, inBlk_ret, A1_mv, A1_pick, A1_box, A1_zero, A1_build, A1_lits, A1_load, shallow_none, A1_store, A1_nilCheckI, nilOk_ptr, nilOk_func, A1_bin, A1_eqNil, A1_eqBool, A1_eqAgg, A1_un, A1_conv, A1_field, A1_fieldAddr, A1_indexAddr, A1_indexArr, A1_index, A1_slice, A1_mkSlice, A1_extract, A1_func, A1_call, callee_func, callee_bfunc, A1_append, A1_len, A1_minmax, put_some, put_none, upd_at, ev_tmp, ev_av, bin_lss, bin_leq, bin_gtr, bin_geq, bin_eql, bin_neq, bin_add, bin_sub, bin_mul, un_not, natOf_nat, Bool.not_eq_false', Prod.mk.injEq, and_assoc, decide_false, decide_true, Bool.not_false, Bool.not_true, Bool.true_eq_false, Bool.false_eq_true, exists_false, Bool.not_eq_false, Bool.not_not, AV.val.injEq, AV.ptr.injEq, AV.slice.injEq, AV.func.injEq, AV.tuple.injEq, AV.agg.injEq, Value.bool.injEq, Value.int.injEq, Option.some.injEq, exists_eq_left', exists_eq_left, exists_and_left, exists_and_right, and_true, true_and, decide_eq_true_eq, decide_eq_false_iff_not, if_true, if_false, Bool.not_eq_true', beq_true, beq_false, ne_eq, not_true_eq_false, not_false_eq_true, reduceCtorEq, List.getD_cons_zero, List.getD_cons_succ, List.map_cons, List.map_nil, List.append_nil, Nat.reduceEqDiff, reduceIte, ite_true, ite_false, or_true, true_or, or_false, false_or, resA, resultsA, true_imp_iff, false_imp_iff, implies_true, imp_false, and_self, imp_self, and_false, false_and, forall_const, cell_val, cell_ptr, cell_slice, cell_func, cell_hole, cells_agg, cells_val, cells_ptr, cells_slice, cells_func, cells_hole, cells_cell, List.length_cons, List.length_nil, List.all_cons, List.all_nil, Bool.and_self, ldA, List.mapM_cons, List.mapM_nil, Option.bind_eq_bind, Option.bind_some, Option.pure_def, Option.map_none, Option.map_some, List.set_cons_zero, List.set_cons_succ, Nat.lt_add_one, List.append_assoc, List.cons_append, List.nil_append, List.append_nil, List.length_append, rd1_n0, rd1_nK, rd1_c0, rd1_cS, rd_n0, rd_nK, rd_c0, rd_cS, fillA, List.take_zero, List.take_succ_cons, List.take_nil, List.drop_zero, List.drop_succ_cons, List.drop_nil, List.getElem?_cons_zero, List.getElem?_cons_succ, Nat.reduceAdd, Nat.reduceLeDiff, Nat.add_eq_zero_iff, and_self, Nat.zero_add, Nat.add_zero, Nat.mul_one, *]) | (simp only [goO, AO_nil, then_normal, goC]) | (with_reducible apply And.intro) | (with_reducible intro _))
          · rename_i hn
            have hC : checkE has roots = 3 := by
              unfold checkE
              rw [if_neg (by omega), if_neg, if_neg]
              · intro hall'
                exact hn (hall' all[k] (by rw [← HAL.out]; exact List.getElem_mem _) _ (List.getElem_mem _))
              · rintro ⟨l, hl, hlt⟩
                obtain ⟨i, hi, rfl⟩ := List.getElem_of_mem hl
                have := hle i hi hi
                omega
            rw [hC] at hKH; exact hKH
          · rename_i hy
            exact hjn.succ hj hy
        · rintro s2 h2 ⟨rfl, hjn⟩ hs2
          repeat' (first | (simp only [AW_next, AW_ops, AW_opsD, AW_cond, AW_block, AW_exit, AW_ret, AW_skip, AW_scope, AO_nil, AO_next, AO_nextW, wantB_bool, wantK_some, then_normal, then_exit, then_ret, inBlk_normal, inBlk_exit, inBlk_ret, A1_mv, A1_pick, A1_box, A1_zero, A1_build, A1_lits, A1_load, shallow_none, A1_store, A1_nilCheckI, nilOk_ptr, nilOk_func, A1_bin, A1_eqNil, A1_eqBool, A1_eqAgg, A1_un, A1_conv, A1_field, A1_fieldAddr, A1_indexAddr, A1_indexArr, A1_index, A1_slice, A1_mkSlice, A1_extract, A1_func, A1_call, callee_func, callee_bfunc, A1_append, A1_len, A1_minmax, put_some, put_none, upd_at, ev_tmp, ev_av, bin_lss, bin_leq, bin_gtr, bin_geq, bin_eql, bin_neq, bin_add, bin_sub, bin_mul, un_not, natOf_nat, Bool.not_eq_false', Prod.mk.injEq, and_assoc, decide_false, decide_true, Bool.not_false, Bool.not_true, Bool.true_eq_false, Bool.false_eq_true, exists_false, Bool.not_eq_false, Bool.not_not, AV.val.injEq, AV.ptr.injEq, AV.slice.injEq, AV.func.injEq, AV.tuple.injEq, AV.agg.injEq, Value.bool.injEq, Value.int.injEq, Option.some.injEq, exists_eq_left', exists_eq_left, exists_and_left, exists_and_right, and_true, true_and, decide_eq_true_eq, decide_eq_false_iff_not, if_true, if_false, Bool.not_eq_true', beq_true, beq_false, ne_eq, not_true_eq_false, not_false_eq_true, reduceCtorEq, List.getD_cons_zero, List.getD_cons_succ, List.map_cons, List.map_nil, List.append_nil, Nat.reduceEqDiff, reduceIte, ite_true, ite_false, or_true, true_or, or_false, false_or, resA, resultsA, true_imp_iff, false_imp_iff, implies_true, imp_false, and_self, imp_self, and_false, false_and, forall_const, cell_val, cell_ptr, cell_slice, cell_func, cell_hole, cells_agg, cells_val, cells_ptr, cells_slice, cells_func, cells_hole, cells_cell, List.length_cons, List.length_nil, List.all_cons, List.all_nil, Bool.and_self, ldA, List.mapM_cons, List.mapM_nil, Option.bind_eq_bind, Option.bind_some, Option.pure_def, Option.map_none, Option.map_some, List.set_cons_zero, List.set_cons_succ, Nat.lt_add_one, List.append_assoc, List.cons_append, List.nil_append, List.append_nil, List.length_append, rd1_n0, rd1_nK, rd1_c0, rd1_cS, rd_n0, rd_nK, rd_c0, rd_cS, fillA, List.take_zero, List.take_succ_cons, List.take_nil, List.drop_zero, List.drop_succ_cons, List.drop_nil, List.getElem?_cons_zero, List.getElem?_cons_succ, Nat.reduceAdd, Nat.reduceLeDiff, Nat.add_eq_zero_iff, and_self, Nat.zero_add, Nat.add_zero, Nat.mul_one, *]) | (simp only [goO, AO_nil, then_normal, goC]) | (with_reducible apply And.intro) | (with_reducible intro _))
          exact hin.succ hk hjn
      · rintro s2 h2 ⟨rfl, hin⟩ hs2
        clear hs2
        repeat' (first | (simp only [AW_next, AW_ops, AW_opsD, AW_cond, AW_block, AW_exit, AW_ret, AW_skip, AW_scope, AO_nil, AO_next, AO_nextW, wantB_bool, wantK_some, then_normal, then_exit, then_ret, inBlk_normal, inBlk_exit, inBlk_ret, A1_mv, A1_pick, A1_box, A1_zero, A1_build, A1_lits, A1_load, shallow_none, A1_store, A1_nilCheckI, nilOk_ptr, nilOk_func, A1_bin, A1_eqNil, A1_eqBool, A1_eqAgg, A1_un, A1_conv, A1_field, A1_fieldAddr, A1_indexAddr, A1_indexArr, A1_index, A1_slice, A1_mkSlice, A1_extract, A1_func, A1_call, callee_func, callee_bfunc, A1_append, A1_len, A1_minmax, put_some, put_none, upd_at, ev_tmp, ev_av, bin_lss, bin_leq, bin_gtr, bin_geq, bin_eql, bin_neq, bin_add, bin_sub, bin_mul, un_not, natOf_nat, Bool.not_eq_false', Prod.mk.injEq, and_assoc, decide_false, decide_true, Bool.not_false, Bool.not_true, Bool.true_eq_false, Bool.false_eq_true, exists_false, Bool.not_eq_false, Bool.not_not, AV.val.injEq, AV.ptr.injEq, AV.slice.injEq, AV.func.injEq, AV.tuple.injEq, AV.agg.injEq, Value.bool.injEq, Value.int.injEq, Option.some.injEq, exists_eq_left', exists_eq_left, exists_and_left, exists_and_right, and_true, true_and, decide_eq_true_eq, decide_eq_false_iff_not, if_true, if_false, Bool.not_eq_true', beq_true, beq_false, ne_eq, not_true_eq_false, not_false_eq_true, reduceCtorEq, List.getD_cons_zero, List.getD_cons_succ, List.map_cons, List.map_nil, List.append_nil, Nat.reduceEqDiff, reduceIte, ite_true, ite_false, or_true, true_or, or_false, false_or, resA, resultsA, true_imp_iff, false_imp_iff, implies_true, imp_false, and_self, imp_self, and_false, false_and, forall_const, cell_val, cell_ptr, cell_slice, cell_func, cell_hole, cells_agg, cells_val, cells_ptr, cells_slice, cells_func, cells_hole, cells_cell, List.length_cons, List.length_nil, List.all_cons, List.all_nil, Bool.and_self, ldA, List.mapM_cons, List.mapM_nil, Option.bind_eq_bind, Option.bind_some, Option.pure_def, Option.map_none, Option.map_some, List.set_cons_zero, List.set_cons_succ, Nat.lt_add_one, List.append_assoc, List.cons_append, List.nil_append, List.append_nil, List.length_append, rd1_n0, rd1_nK, rd1_c0, rd1_cS, rd_n0, rd_nK, rd_c0, rd_cS, fillA, List.take_zero, List.take_succ_cons, List.take_nil, List.drop_zero, List.drop_succ_cons, List.drop_nil, List.getElem?_cons_zero, List.getElem?_cons_succ, Nat.reduceAdd, Nat.reduceLeDiff, Nat.add_eq_zero_iff, and_self, Nat.zero_add, Nat.add_zero, Nat.mul_one, *]) | (simp only [goO, AO_nil, then_normal, goC]) | (with_reducible apply And.intro) | (with_reducible intro _))
        have hC : checkE has roots = 0 := by
          unfold checkE
          rw [if_neg (by omega), if_neg, if_pos]
          · intro l hl x hx
            rw [← HAL.out] at hl
            obtain ⟨i, hi, rfl⟩ := List.getElem_of_mem hl
            exact hin i hi hi x hx
          · rintro ⟨l, hl, hlt⟩
            obtain ⟨i, hi, rfl⟩ := List.getElem_of_mem hl
            have := hle i hi hi
            omega
        rw [hC] at hKH; exact hKH
end Go.Proofs.Ytfmllmcjinjfaaa

namespace Go.Proofs.Ytfmllmcjinjfaaa
open Go Go.RowKit
set_option linter.unusedVariables false
set_option linter.unusedSimpArgs false

def step (s : List Bool × List Int) (n : Int) : List Bool × List Int := if s.1.getD n.toNat false = true then s else (s.1.set n.toNat true, s.2 ++ [n])
def reachL (s : List Bool × List Int) (l : List Int) : List Bool × List Int := l.foldl step s
def unseen (l : List Bool) : Nat := l.countP (fun b => !b)

theorem unseen_set {l : List Bool} {i : Nat} (hi : i < l.length) (h : l.getD i false = false) : unseen (l.set i true) + 1 = unseen l := by
  induction l generalizing i with
  | nil => simp at hi
  | cons b l ih =>
    cases i with
    | zero =>
      simp at h
      subst h
      simp [unseen]
    | succ i =>
      have := ih (i := i) (by simpa using hi) (by simpa using h)
      simp only [unseen, List.set_cons_succ, List.countP_cons] at *
      omega
theorem step_length (s : List Bool × List Int) (n : Int) : (step s n).1.length = s.1.length := by
  unfold step; split <;> simp
theorem step_bound (s : List Bool × List Int) (n : Int) (h : n.toNat < s.1.length) : (step s n).2.length + unseen (step s n).1 = s.2.length + unseen s.1 := by
  unfold step
  split
  · rfl
  · rename_i hn
    have := unseen_set h (by simpa using hn)
    simp
    omega

def Sn (l : List Bool) (n : Nat) : Prop := l.getD n false = true
def Cl (has : List (List Int)) (P : Nat → Prop) : Prop := ∀ n, P n → ∀ k ∈ has.getD n [], P k.toNat
theorem Sn_set {l : List Bool} {i n : Nat} (hi : i < l.length) : Sn (l.set i true) n ↔ Sn l n ∨ n = i := by
  unfold Sn
  by_cases h : n = i
  · subst h; simp [hi]
  · simp [List.getElem?_set_ne (fun e => h e.symm), h]
theorem step_seen {s : List Bool × List Int} {x : Int} (hx : x.toNat < s.1.length) (n : Nat) : Sn (step s x).1 n ↔ Sn s.1 n ∨ n = x.toNat := by
  unfold step
  split
  · rename_i h
    constructor
    · exact .inl
    · rintro (h' | rfl)
      · exact h'
      · exact h
  · exact Sn_set hx
theorem step_todo {s : List Bool × List Int} {x : Int} (y : Int) : y ∈ (step s x).2 ↔ y ∈ s.2 ∨ (y = x ∧ ¬ Sn s.1 x.toNat) := by
  unfold step
  split
  · rename_i h
    constructor
    · exact .inl
    · rintro (h' | ⟨rfl, h'⟩)
      · exact h'
      · exact absurd h h'
  · rename_i h
    simp only [List.mem_append, List.mem_singleton]
    constructor
    · rintro (h' | rfl)
      · exact .inl h'
      · exact .inr ⟨rfl, h⟩
    · rintro (h' | ⟨rfl, _⟩)
      · exact .inl h'
      · exact .inr rfl
theorem reachL_length : ∀ (l : List Int) (s : List Bool × List Int), (reachL s l).1.length = s.1.length
  | [], s => rfl
  | x :: l, s => by
    have := reachL_length l (step s x)
    unfold reachL at *
    rw [List.foldl_cons, this, step_length]
theorem reachL_seen : ∀ (l : List Int) (s : List Bool × List Int), (∀ x ∈ l, x.toNat < s.1.length) → ∀ n, Sn (reachL s l).1 n ↔ Sn s.1 n ∨ ∃ x ∈ l, x.toNat = n
  | [], s, _, n => by simp [reachL]
  | x :: l, s, h, n => by
    have := reachL_seen l (step s x) (fun y hy => by rw [step_length]; exact h y (by simp [hy])) n
    unfold reachL at *
    rw [List.foldl_cons, this, step_seen (h x (by simp))]
    simp only [List.mem_cons, exists_eq_or_imp]
    constructor
    · rintro ((h1 | h1) | h1)
      · exact .inl h1
      · exact .inr (.inl h1.symm)
      · exact .inr (.inr h1)
    · rintro (h1 | h1 | h1)
      · exact .inl (.inl h1)
      · exact .inl (.inr h1.symm)
      · exact .inr h1
theorem reachL_todo : ∀ (l : List Int) (s : List Bool × List Int), (∀ x ∈ l, x.toNat < s.1.length) → (∀ y, y ∈ s.2 → y ∈ (reachL s l).2) ∧ (∀ y ∈ (reachL s l).2, y ∈ s.2 ∨ y ∈ l) ∧
    (∀ y ∈ l, ¬ Sn s.1 y.toNat → ∃ z ∈ (reachL s l).2, z.toNat = y.toNat)
  | [], s, _ => by simp [reachL]
  | x :: l, s, h => by
    obtain ⟨h1, h2, h3⟩ := reachL_todo l (step s x) (fun y hy => by rw [step_length]; exact h y (by simp [hy]))
    unfold reachL at *
    rw [List.foldl_cons]
    refine ⟨fun y hy => h1 y ((step_todo y).2 (.inl hy)), fun y hy => ?_, fun y hy hn => ?_⟩
    · rcases h2 y hy with h4 | h4
      · rcases (step_todo y).1 h4 with h5 | ⟨rfl, _⟩
        · exact .inl h5
        · exact .inr (by simp)
      · exact .inr (by simp [h4])
    · by_cases hx : y.toNat = x.toNat
      · by_cases hyx : y = x
        · subst hyx
          exact ⟨y, h1 y ((step_todo y).2 (.inr ⟨rfl, hn⟩)), rfl⟩
        · exact ⟨x, h1 x ((step_todo x).2 (.inr ⟨rfl, by rw [← hx]; exact hn⟩)), hx.symm⟩
      · rcases List.mem_cons.1 hy with rfl | hy
        · exact absurd rfl hx
        · refine h3 y hy ?_
          rw [step_seen (h x (by simp))]
          rintro (h4 | h4)
          · exact hn h4
          · exact hx h4

structure AInv (has : List (List Int)) (S0 : Nat → Prop) (s : List Bool × List Int) : Prop where
  sup : ∀ n, S0 n → Sn s.1 n
  todo : ∀ x ∈ s.2, 0 ≤ x ∧ x < s.1.length ∧ Sn s.1 x.toNat
  closed : ∀ n, Sn s.1 n → (∃ x ∈ s.2, x.toNat = n) ∨ ∀ k ∈ has.getD n [], Sn s.1 k.toNat
  least : ∀ P, Cl has P → (∀ n, S0 n → P n) → ∀ n, Sn s.1 n → P n

def okHas (has : List (List Int)) (N : Nat) : Prop := has.length = N ∧ ∀ l ∈ has, ∀ x ∈ l, 0 ≤ x ∧ x < N
theorem okHas.at {has : List (List Int)} {N : Nat} (h : okHas has N) (n : Nat) : ∀ x ∈ has.getD n [], 0 ≤ x ∧ x < N := by
  intro x hx
  by_cases hn : n < has.length
  · rw [List.getD_eq_getElem?_getD, List.getElem?_eq_getElem hn] at hx
    exact h.2 _ (List.getElem_mem hn) x hx
  · rw [List.getD_eq_getElem?_getD, List.getElem?_eq_none (by omega)] at hx
    simp at hx

theorem AInv.next {has : List (List Int)} {S0 : Nat → Prop} {sb : List Bool} {td : List Int} {x : Int} (hh : okHas has sb.length) (h : AInv has S0 (sb, td ++ [x])) : AInv has S0 (reachL (sb, td) (has.getD x.toNat [])) := by
  have hr : ∀ y ∈ has.getD x.toNat [], y.toNat < (sb, td).1.length := fun y hy => by have := hh.at _ y hy; simp; omega
  have hs := reachL_seen (has.getD x.toNat []) (sb, td) hr
  obtain ⟨h1, h2, h3⟩ := reachL_todo (has.getD x.toNat []) (sb, td) hr
  have hxs := h.todo x (by simp)
  refine ⟨fun n hn => (hs n).2 (.inl (h.sup n hn)), fun y hy => ?_, fun n hn => ?_, fun P hP h0 n hn => ?_⟩
  · rw [reachL_length]
    rcases h2 y hy with h4 | h4
    · have := h.todo y (by simp at h4 ⊢; exact .inl h4)
      exact ⟨this.1, this.2.1, (hs _).2 (.inl this.2.2)⟩
    · have := hh.at _ y h4
      exact ⟨this.1, this.2, (hs _).2 (.inr ⟨y, h4, rfl⟩)⟩
  · rcases (hs n).1 hn with h4 | ⟨y, hy, rfl⟩
    · rcases h.closed n h4 with ⟨z, hz, rfl⟩ | h5
      · simp only [List.mem_append, List.mem_singleton] at hz
        rcases hz with hz | rfl
        · exact .inl ⟨z, h1 z hz, rfl⟩
        · exact .inr fun k hk => (hs _).2 (.inr ⟨k, hk, rfl⟩)
      · exact .inr fun k hk => (hs _).2 (.inl (h5 k hk))
    · by_cases hy2 : Sn sb y.toNat
      · rcases h.closed _ hy2 with ⟨z, hz, hzy⟩ | h5
        · simp only [List.mem_append, List.mem_singleton] at hz
          rcases hz with hz | rfl
          · exact .inl ⟨z, h1 z hz, hzy⟩
          · right
            rw [← hzy]
            exact fun k hk => (hs _).2 (.inr ⟨k, hk, rfl⟩)
        · exact .inr fun k hk => (hs _).2 (.inl (h5 k hk))
      · exact .inl (h3 y hy hy2)
  · rcases (hs n).1 hn with h4 | ⟨y, hy, rfl⟩
    · exact h.least P hP h0 n h4
    · exact hP x.toNat (h.least P hP h0 _ hxs.2.2) y hy

theorem reachL_bound : ∀ (l : List Int) (s : List Bool × List Int), (∀ x ∈ l, x.toNat < s.1.length) → (reachL s l).2.length + unseen (reachL s l).1 = s.2.length + unseen s.1
  | [], s, _ => rfl
  | x :: l, s, h => by
    have := reachL_bound l (step s x) (fun y hy => by rw [step_length]; exact h y (by simp [hy]))
    unfold reachL at *
    rw [List.foldl_cons, this, step_bound _ _ (h x (by simp))]

def riseTo (sb : List Bool) (k : Nat) : List Int := ((List.range k).filter (fun i => sb.getD i false)).map Int.ofNat
def rising (sb : List Bool) : List Int := riseTo sb sb.length
theorem riseTo_succ (sb : List Bool) (k : Nat) : riseTo sb (k + 1) = if sb.getD k false = true then riseTo sb k ++ [(k : Int)] else riseTo sb k := by
  unfold riseTo
  rw [List.range_succ, List.filter_append, List.map_append]
  split
  · rename_i h; rw [List.filter_cons_of_pos (p := fun i => sb.getD i false) h]; rfl
  · rename_i h; rw [List.filter_cons_of_neg (p := fun i => sb.getD i false) h]; simp
theorem riseTo_length (sb : List Bool) (k : Nat) : (riseTo sb k).length ≤ k := by
  unfold riseTo
  rw [List.length_map]
  exact Nat.le_trans (List.length_filter_le _ _) (by simp)

def Liv (has : List (List Int)) (ps : List (Int × Int)) (l : List Int) (n : Nat) : Prop :=
  ∀ P : Nat → Prop, Cl has P → (∀ p ∈ ps, P p.1.toNat → P p.2.toNat) → (∀ x ∈ l, P x.toNat) → P n

theorem Liv.cl (has : List (List Int)) (ps : List (Int × Int)) (l : List Int) : Cl has (Liv has ps l) := fun n hn k hk P h1 h2 h3 => h1 n (hn P h1 h2 h3) k hk
theorem Liv.pair {has : List (List Int)} {ps : List (Int × Int)} {l : List Int} {p : Int × Int} (hp : p ∈ ps) (h : Liv has ps l p.1.toNat) : Liv has ps l p.2.toNat := fun P h1 h2 h3 => h2 p hp (h P h1 h2 h3)
theorem Liv.base {has : List (List Int)} {ps : List (Int × Int)} {l : List Int} {x : Int} (hx : x ∈ l) : Liv has ps l x.toNat := fun P h1 h2 h3 => h3 x hx

structure GInv (has : List (List Int)) (L : Nat → Prop) (s : List Bool × List Int) : Prop where
  todo : ∀ x ∈ s.2, 0 ≤ x ∧ x < s.1.length ∧ Sn s.1 x.toNat
  closed : ∀ n, Sn s.1 n → (∃ x ∈ s.2, x.toNat = n) ∨ ∀ k ∈ has.getD n [], Sn s.1 k.toNat
  sub : ∀ n, Sn s.1 n → L n
theorem GInv.toA {has : List (List Int)} {L : Nat → Prop} {s : List Bool × List Int} (h : GInv has L s) : AInv has (Sn s.1) s :=
  ⟨fun _ h => h, h.todo, h.closed, fun _ _ h0 n hn => h0 n hn⟩
theorem GInv.ofA {has : List (List Int)} {L S0 : Nat → Prop} {s : List Bool × List Int} (h : AInv has S0 s) (hL : Cl has L) (h0 : ∀ n, S0 n → L n) : GInv has L s :=
  ⟨h.todo, h.closed, fun n hn => h.least L hL h0 n hn⟩
theorem GInv.reach {has : List (List Int)} {L : Nat → Prop} {s : List Bool × List Int} {l : List Int} (h : GInv has L s) (hl : ∀ x ∈ l, (0 ≤ x ∧ x < (s.1.length : Int)) ∧ L x.toNat) : GInv has L (reachL s l) := by
  have hr : ∀ y ∈ l, y.toNat < s.1.length := fun y hy => by have := hl y hy; omega
  have hs := reachL_seen l s hr
  obtain ⟨h1, h2, h3⟩ := reachL_todo l s hr
  refine ⟨fun y hy => ?_, fun n hn => ?_, fun n hn => ?_⟩
  · rw [reachL_length]
    rcases h2 y hy with h4 | h4
    · have := h.todo y h4
      exact ⟨this.1, this.2.1, (hs _).2 (.inl this.2.2)⟩
    · have := hl y h4
      exact ⟨this.1.1, this.1.2, (hs _).2 (.inr ⟨y, h4, rfl⟩)⟩
  · rcases (hs n).1 hn with h4 | ⟨y, hy, rfl⟩
    · rcases h.closed n h4 with ⟨z, hz, rfl⟩ | h5
      · exact .inl ⟨z, h1 z hz, rfl⟩
      · exact .inr fun k hk => (hs _).2 (.inl (h5 k hk))
    · by_cases hy2 : Sn s.1 y.toNat
      · rcases h.closed _ hy2 with ⟨z, hz, hzy⟩ | h5
        · exact .inl ⟨z, h1 z hz, hzy⟩
        · exact .inr fun k hk => (hs _).2 (.inl (h5 k hk))
      · exact .inl (h3 y hy hy2)
  · rcases (hs n).1 hn with h4 | ⟨y, hy, rfl⟩
    · exact h.sub n h4
    · exact (hl y hy).2
theorem Sn_falses (N n : Nat) : ¬ Sn (List.replicate N false) n := by
  unfold Sn; rw [List.getD_eq_getElem?_getD, List.getElem?_replicate]; split <;> simp
theorem GInv.start (has : List (List Int)) (L : Nat → Prop) (N : Nat) : GInv has L (List.replicate N false, []) :=
  ⟨fun x hx => absurd hx (by simp), fun n hn => absurd hn (Sn_falses N n), fun n hn => absurd hn (Sn_falses N n)⟩

structure LInv (has : List (List Int)) (ps : List (Int × Int)) (l : List Int) (sb : List Bool) : Prop where
  base : ∀ x ∈ l, Sn sb x.toNat
  clo : Cl has (Sn sb)
  sub : ∀ n, Sn sb n → Liv has ps l n
theorem LInv.ofA {has : List (List Int)} {ps : List (Int × Int)} {l : List Int} {S0 : Nat → Prop} {sb : List Bool} (h : AInv has S0 (sb, [])) (h0 : ∀ n, S0 n → Liv has ps l n) (hb : ∀ x ∈ l, S0 x.toNat) : LInv has ps l sb :=
  ⟨fun x hx => h.sup _ (hb x hx), fun n hn => by
    rcases h.closed n hn with ⟨x, hx, _⟩ | h1
    · cases hx
    · exact h1, fun n hn => h.least _ (Liv.cl has ps l) h0 n hn⟩
theorem LInv.iff {has : List (List Int)} {ps : List (Int × Int)} {l : List Int} {sb : List Bool} (h : LInv has ps l sb) (hp : ∀ p ∈ ps, Sn sb p.1.toNat → Sn sb p.2.toNat) (n : Nat) : Sn sb n ↔ Liv has ps l n :=
  ⟨h.sub n, fun hn => hn (Sn sb) h.clo hp h.base⟩

theorem replicate_unseen (N : Nat) : unseen (List.replicate N false) = N := by simp [unseen, List.countP_replicate]

def pairIn (N : Nat) (p : Int × Int) : Prop := (0 ≤ p.1 ∧ p.1 < (N : Int)) ∧ (0 ≤ p.2 ∧ p.2 < (N : Int))
instance (N : Nat) (p : Int × Int) : Decidable (pairIn N p) := inferInstanceAs (Decidable (_ ∧ _))
theorem checkE_zero {has : List (List Int)} {roots : List Int} (h : checkE has roots = 0) : has.length ≤ 100 ∧ roots.length ≤ 100 ∧ (∀ l ∈ has, l.length ≤ 10) ∧ okHas has has.length ∧ ∀ x ∈ roots, 0 ≤ x ∧ x < (has.length : Int) := by
  unfold checkE at h
  split at h
  · cases h
  · rename_i h1
    split at h
    · cases h
    · rename_i h2
      split at h
      · rename_i h3
        refine ⟨by omega, by omega, fun l hl => ?_, ⟨rfl, fun l hl => h3 l (by simp [hl])⟩, h3 roots (by simp)⟩
        apply Decidable.byContradiction
        intro hn
        exact h2 ⟨l, hl, by omega⟩
      · cases h

open Classical in
noncomputable def liveSb (has : List (List Int)) (ps : List (Int × Int)) (l : List Int) : List Bool := (List.range has.length).map (fun n => decide (Liv has ps l n))
theorem liveSb_length (has : List (List Int)) (ps : List (Int × Int)) (l : List Int) : (liveSb has ps l).length = has.length := by simp [liveSb]
theorem Sn_liveSb (has : List (List Int)) (ps : List (Int × Int)) (l : List Int) (n : Nat) : Sn (liveSb has ps l) n ↔ n < has.length ∧ Liv has ps l n := by
  unfold Sn liveSb
  by_cases h : n < has.length
  · simp [h]
  · simp [h]
theorem eq_liveSb {has : List (List Int)} {ps : List (Int × Int)} {l : List Int} {sb : List Bool} (hl : sb.length = has.length) (h : ∀ n, Sn sb n ↔ Liv has ps l n) : sb = liveSb has ps l := by
  apply List.ext_getElem
  · rw [liveSb_length, hl]
  · intro i h1 h2
    have a1 : Sn sb i ↔ sb[i] = true := by unfold Sn; simp [h1]
    have a2 : Sn (liveSb has ps l) i ↔ (liveSb has ps l)[i] = true := by
      unfold Sn
      rw [List.getD_eq_getElem?_getD, List.getElem?_eq_getElem h2]; simp
    have a3 := Sn_liveSb has ps l i
    have a4 := h i
    have : (sb[i] = true) ↔ ((liveSb has ps l)[i] = true) := by
      rw [← a1, ← a2, a3, a4]
      constructor
      · intro h5; exact ⟨by omega, h5⟩
      · intro h5; exact h5.2
    cases hA : sb[i] <;> cases hB : (liveSb has ps l)[i] <;> simp_all
noncomputable def liveL (has : List (List Int)) (ps : List (Int × Int)) (l : List Int) : List Int := rising (liveSb has ps l)
theorem liveL_length (has : List (List Int)) (ps : List (Int × Int)) (l : List Int) : (liveL has ps l).length ≤ has.length := by
  have := riseTo_length (liveSb has ps l) (liveSb has ps l).length
  rw [liveSb_length] at this
  unfold liveL rising
  rw [liveSb_length]; exact this

theorem Liv.mono {has : List (List Int)} {ps ps' : List (Int × Int)} {l l' : List Int} (hp : ∀ p ∈ ps, p ∈ ps') (hl : ∀ x ∈ l, x ∈ l') {n : Nat} (h : Liv has ps l n) : Liv has ps' l' n :=
  fun P h1 h2 h3 => h P h1 (fun p hp' => h2 p (hp p hp')) (fun x hx => h3 x (hl x hx))
theorem Liv.lt {has : List (List Int)} {ps : List (Int × Int)} {l : List Int} {n : Nat} (ho : okHas has has.length) (hp : ∀ p ∈ ps, pairIn has.length p) (hl : ∀ x ∈ l, 0 ≤ x ∧ x < (has.length : Int)) (h : Liv has ps l n) : n < has.length :=
  h (fun n => n < has.length) (fun n _ k hk => by have := ho.at n k hk; omega) (fun p hp' _ => by have := (hp p hp').2; omega) (fun x hx => by have := hl x hx; omega)
end Go.Proofs.Ytfmllmcjinjfaaa

namespace Go.Proofs.Ytfmllmcjinjfaaa
open Go Go.RowKit
set_option linter.unusedVariables false
set_option linter.unusedSimpArgs false
variable {tb : List (FuncId × Bool)} {fl : Nat → Bool} {h : Heap} {K : AV → Heap → Prop}

structure RSt (h : Heap) (rp : Nat) (gh gr sv : AV) (sb : List Bool) (tv : AV) (td : List Int) : Prop where
  rc : blk h rp = some [gh, gr, sv, tv]
  seen : BL h sv sb
  todo : OL h 1 tv (td.map I64) td.length
  d1 : rp ∉ idOf sv
  d2 : rp ∉ idOf tv
  d3 : ∀ i ∈ idOf sv, i ∉ idOf tv
theorem reachL_take {s : List Bool × List Int} {l : List Int} {k : Nat} (hk : k < l.length) : reachL s (l.take (k + 1)) = step (reachL s (l.take k)) l[k] := by
  rw [List.take_succ_eq_append_getElem hk, reachL, List.foldl_append]; rfl

structure Wri (fl : Nat → Bool) (h : Heap) (rp : Nat) (sv tv : AV) : Prop where
  f1 : fl rp = true
  f2 : ∀ i ∈ idOf sv, fl i = true
  f3 : ∀ i ∈ idOf tv, fl i = true
  f4 : ∀ i, h.length ≤ i → fl i = true

def RInv (h : Heap) (rp : Nat) (gh gr sv tv : AV) (s : List Bool × List Int) (h' : Heap) : Prop :=
  ∃ tv', RSt h' rp gh gr sv s.1 tv' s.2 ∧ Keep h h' (rp :: (idOf sv ++ idOf tv)) ∧ ∀ i ∈ idOf tv', i ∈ idOf tv ∨ h.length ≤ i

theorem reach_am {rp : Nat} {gh gr sv tv lv : AV} {sb : List Bool} {td l : List Int} (hR : RSt h rp gh gr sv sb tv td) (hl : IL h lv l) (hli : ∀ i ∈ idOf lv, i ∉ rp :: (idOf sv ++ idOf tv)) (hb : ∀ x ∈ l, 0 ≤ x ∧ x < (sb.length : Int)) (hlen : l.length ≤ 1000000)
    (hbd : td.length + unseen sb ≤ 1000000) (hW : Wri fl h rp sv tv)
    (hK : ∀ h' tv', RSt h' rp gh gr sv (reachL (sb, td) l).1 tv' (reachL (sb, td) l).2 → Keep h h' (rp :: (idOf sv ++ idOf tv)) → (∀ i ∈ idOf tv', i ∈ idOf tv ∨ h.length ≤ i) → K (.tuple []) h') :
    AC (constX tb) (cFunc Try.prog) 43 [.ptr rp 0, lv] fl h K := by
  refine AC.enter rfl f_wk_reach (by simp) ?_
  simp only [c_wk_reach]
  have hln := hl.len
  repeat' (first | (simp only [AW_next, AW_ops, AW_opsD, AW_cond, AW_block, AW_exit, AW_ret, AW_skip, AW_scope, AO_nil, AO_next, AO_nextW, wantB_bool, wantK_some, then_normal, then_exit, then_ret, inBlk_normal, inBlk_exit, inBlk_ret, A1_mv, A1_pick, A1_box, A1_zero, A1_build, A1_lits, A1_load, shallow_none, A1_store, A1_nilCheckI, nilOk_ptr, nilOk_func, A1_bin, A1_eqNil, A1_eqBool, A1_eqAgg, A1_un, A1_conv, A1_field, A1_fieldAddr, A1_indexAddr, A1_indexArr, A1_index, A1_slice, A1_mkSlice, A1_extract, A1_func, A1_call, callee_func, callee_bfunc, A1_append, A1_len, A1_minmax, put_some, put_none, upd_at, ev_tmp, ev_av, bin_lss, bin_leq, bin_gtr, bin_geq, bin_eql, bin_neq, bin_add, bin_sub, bin_mul, un_not, natOf_nat, Bool.not_eq_false', Prod.mk.injEq, and_assoc, decide_false, decide_true, Bool.not_false, Bool.not_true, Bool.true_eq_false, Bool.false_eq_true, exists_false, Bool.not_eq_false, Bool.not_not, AV.val.injEq, AV.ptr.injEq, AV.slice.injEq, AV.func.injEq, AV.tuple.injEq, AV.agg.injEq, Value.bool.injEq, Value.int.injEq, Option.some.injEq, exists_eq_left', exists_eq_left, exists_and_left, exists_and_right, and_true, true_and, decide_eq_true_eq, decide_eq_false_iff_not, if_true, if_false, Bool.not_eq_true', beq_true, beq_false, ne_eq, not_true_eq_false, not_false_eq_true, reduceCtorEq, List.getD_cons_zero, List.getD_cons_succ, List.map_cons, List.map_nil, List.append_nil, Nat.reduceEqDiff, reduceIte, ite_true, ite_false, or_true, true_or, or_false, false_or, resA, resultsA, true_imp_iff, false_imp_iff, implies_true, imp_false, and_self, imp_self, and_false, false_and, forall_const, cell_val, cell_ptr, cell_slice, cell_func, cell_hole, cells_agg, cells_val, cells_ptr, cells_slice, cells_func, cells_hole, cells_cell, List.length_cons, List.length_nil, List.all_cons, List.all_nil, Bool.and_self, ldA, List.mapM_cons, List.mapM_nil, Option.bind_eq_bind, Option.bind_some, Option.pure_def, Option.map_none, Option.map_some, List.set_cons_zero, List.set_cons_succ, Nat.lt_add_one, List.append_assoc, List.cons_append, List.nil_append, List.append_nil, List.length_append, rd1_n0, rd1_nK, rd1_c0, rd1_cS, rd_n0, rd_nK, rd_c0, rd_cS, fillA, List.take_zero, List.take_succ_cons, List.take_nil, List.drop_zero, List.drop_succ_cons, List.drop_nil, List.getElem?_cons_zero, List.getElem?_cons_succ, Nat.reduceAdd, Nat.reduceLeDiff, Nat.add_eq_zero_iff, and_self, Nat.zero_add, Nat.add_zero, Nat.mul_one, hln, *]) | (simp only [goO, AO_nil, then_normal, goC]) | (with_reducible apply And.intro) | (with_reducible intro _))
  refine AW.named fun S hS => ?_
  have g0 : S 0 = .ptr rp 0 := by rw [hS]; rfl
  have g6 : S 6 = lv := by rw [hS]; rfl
  have g7 : S 7 = I64 l.length := by rw [hS]; rfl
  have g8 : S 8 = I64 (0 : Nat) := by rw [hS]; rfl
  clear hS hln
  refine AW_for l.length (by omega) g8 g7 rfl rfl (by decide) (fun k s' h' => RInv h rp gh gr sv tv (reachL (sb, td) (l.take k)) h') ⟨tv, hR, Keep.refl _, fun i hi => .inl hi⟩ ?_ ?_
  · rintro k s' h' hk ⟨tv1, hR1, hkp, hti⟩ hi hl' hs
    have f0 := (hs 0 rfl).trans g0
    have f6 := (hs 6 rfl).trans g6
    clear hs g0 g6 g7 g8
    obtain ⟨id, off, lb, ex, rfl, hlb, hrd⟩ := (hl.keep hkp hli).at hk
    rw [reachL_take hk]
    have hbk := hb _ (List.getElem_mem hk)
    have b1 := reachL_length (l.take k) (sb, td)
    have b2 := reachL_bound (l.take k) (sb, td) (fun x hx => by have := hb x (List.mem_of_mem_take hx); simp; omega)
    obtain ⟨⟨sb1, td1⟩, hst⟩ : ∃ st, st = reachL (sb, td) (l.take k) := ⟨_, rfl⟩
    rw [← hst] at hR1 b1 b2 ⊢
    clear hst
    obtain ⟨m, hm⟩ := Int.eq_ofNat_of_zero_le hbk.1
    rw [hm] at hrd hbk ⊢
    clear hm
    dsimp only at b1 b2 hR1
    have hm1 : m < sb1.length := by omega
    obtain ⟨rc, hseen, htodo, d1, d2, d3⟩ := hR1
    obtain ⟨sid, soff, slb, sex, hsv, hslb, hsrd⟩ := hseen.at hm1
    have hseen' := hseen
    cases hbm : sb1[m] with
    | true =>
      have e : step (sb1, td1) (m : Nat) = (sb1, td1) := by unfold step; rw [if_pos]; simp [hm1, hbm]
      have fin : RInv h rp gh gr sv tv (step (sb1, td1) (m : Nat)) h' := by rw [e]; exact ⟨tv1, ⟨rc, hseen, htodo, d1, d2, d3⟩, hkp, hti⟩
      rw [hbm] at hsrd
      subst hsv
      clear b1 e
      repeat' (first | (simp only [AW_next, AW_ops, AW_opsD, AW_cond, AW_block, AW_exit, AW_ret, AW_skip, AW_scope, AO_nil, AO_next, AO_nextW, wantB_bool, wantK_some, then_normal, then_exit, then_ret, inBlk_normal, inBlk_exit, inBlk_ret, A1_mv, A1_pick, A1_box, A1_zero, A1_build, A1_lits, A1_load, shallow_none, A1_store, A1_nilCheckI, nilOk_ptr, nilOk_func, A1_bin, A1_eqNil, A1_eqBool, A1_eqAgg, A1_un, A1_conv, A1_field, A1_fieldAddr, A1_indexAddr, A1_indexArr, A1_index, A1_slice, A1_mkSlice, A1_extract, A1_func, A1_call, callee_func, callee_bfunc, A1_append, A1_len, A1_minmax, put_some, put_none, upd_at, ev_tmp, ev_av, bin_lss, bin_leq, bin_gtr, bin_geq, bin_eql, bin_neq, bin_add, bin_sub, bin_mul, un_not, natOf_nat, Bool.not_eq_false', Prod.mk.injEq, and_assoc, decide_false, decide_true, Bool.not_false, Bool.not_true, Bool.true_eq_false, Bool.false_eq_true, exists_false, Bool.not_eq_false, Bool.not_not, AV.val.injEq, AV.ptr.injEq, AV.slice.injEq, AV.func.injEq, AV.tuple.injEq, AV.agg.injEq, Value.bool.injEq, Value.int.injEq, Option.some.injEq, exists_eq_left', exists_eq_left, exists_and_left, exists_and_right, and_true, true_and, decide_eq_true_eq, decide_eq_false_iff_not, if_true, if_false, Bool.not_eq_true', beq_true, beq_false, ne_eq, not_true_eq_false, not_false_eq_true, reduceCtorEq, List.getD_cons_zero, List.getD_cons_succ, List.map_cons, List.map_nil, List.append_nil, Nat.reduceEqDiff, reduceIte, ite_true, ite_false, or_true, true_or, or_false, false_or, resA, resultsA, true_imp_iff, false_imp_iff, implies_true, imp_false, and_self, imp_self, and_false, false_and, forall_const, cell_val, cell_ptr, cell_slice, cell_func, cell_hole, cells_agg, cells_val, cells_ptr, cells_slice, cells_func, cells_hole, cells_cell, List.length_cons, List.length_nil, List.all_cons, List.all_nil, Bool.and_self, ldA, List.mapM_cons, List.mapM_nil, Option.bind_eq_bind, Option.bind_some, Option.pure_def, Option.map_none, Option.map_some, List.set_cons_zero, List.set_cons_succ, Nat.lt_add_one, List.append_assoc, List.cons_append, List.nil_append, List.append_nil, List.length_append, rd1_n0, rd1_nK, rd1_c0, rd1_cS, rd_n0, rd_nK, rd_c0, rd_cS, fillA, List.take_zero, List.take_succ_cons, List.take_nil, List.drop_zero, List.drop_succ_cons, List.drop_nil, List.getElem?_cons_zero, List.getElem?_cons_succ, Nat.reduceAdd, Nat.reduceLeDiff, Nat.add_eq_zero_iff, and_self, Nat.zero_add, Nat.add_zero, Nat.mul_one, hrd, hsrd, rd1_of rc, natOf_nat, *]) | (simp only [goO, AO_nil, then_normal, goC]) | (with_reducible apply And.intro) | (with_reducible intro _))
    | false =>
      rw [hbm] at hsrd
      have e : step (sb1, td1) (m : Nat) = (sb1.set m true, td1 ++ [(m : Int)]) := by unfold step; rw [if_neg]; rfl; simp [hm1, hbm]
      have w3 : ∀ i ∈ idOf tv1, fl i = true := fun i hi => (hti i hi).elim (hW.f3 i) (hW.f4 i)
      obtain ⟨sid', soff', slb', sex', h1, hsv', hw1, hs1, hk1, hl1⟩ := Sl.set1 (fl := fl) (x := BV true) hseen hm1 hW.f2
      rw [hsv] at hsv'
      injection hsv' with q1 q2 _ q4 q5 _
      subst q1; subst q2; subst q4; subst q5
      have rc1 := hk1.get d1 rc
      obtain ⟨tv2, h2, hap, ho2, hk2, hti2, hl2⟩ := append_ol (fl := fl) (bytes := 8) (m := 1) (new := [I64 m]) (OL.keepK (h' := h1 ++ [some [I64 m]]) htodo ⟨by simp; omega, fun i row hi hr => blk_ext _ (hk1.2 i row hi hr)⟩ (fun i hi hm => d3 i hm hi)) w3 (by omega) rfl (by unfold reach; omega)
      have rc2 := hk2 rp _ d2 (blk_ext _ rc1)
      obtain ⟨h3, hw3, rc3, hk3, hl3⟩ := wr1_ex (fl := fl) (off := 3) (v := tv2) rc2 hW.f1 (by simp)
      have htc := ho2.sl.cell
      have hrow : rowOf (h1 ++ [some [I64 m]]) 1 (.slice h1.length 0 1 1 true 1) = some (1, [I64 m]) := by simp [rowOf, rd_n0, rd_c0]
      have d4 : rp ∉ idOf tv2 := fun hm => (hti2 rp hm).elim (fun q => d2 q) (fun q => by have := blk_lt rc1; simp at q; omega)
      have d5 : ∀ i ∈ idOf sv, i ∉ idOf tv2 := fun i hi hm => (hti2 i hm).elim (fun q => d3 i hi q) (fun q => by have := hs1.lt i hi; simp at q; omega)
      have fin : RInv h rp gh gr sv tv (step (sb1, td1) (m : Nat)) h3 := by
        rw [e]
        refine ⟨tv2, ⟨rc3, ?_, ?_, d1, d4, d5⟩, ?_, ?_⟩
        · show Sl _ _ _ ((sb1.set m true).map BV) (sb1.set m true).length
          rw [List.map_set, List.length_set]
          exact hs1.cong fun i off lb ex row q hr => by
            have hi : i ∈ idOf sv := by rw [q]; simp [idOf]
            rw [hk3 i (fun q => d1 (q ▸ hi))]
            exact hk2 i row (d3 i hi) (blk_ext _ hr)
        · simp only [List.map_append, List.map_cons, List.map_nil, List.length_append, List.length_cons, List.length_nil]
          exact ho2.keep fun i row hi hr => by rw [hk3 i (fun q => d4 (q ▸ hi))]; exact hr
        · have a2 : Keep h1 h2 (idOf tv1) := ⟨by simp at hl2; omega, fun i row hi hr => hk2 i row hi (blk_ext _ hr)⟩
          have a3 : Keep h2 h3 [rp] := ⟨by omega, fun i row hi hr => by rw [hk3 i (by simpa using hi)]; exact hr⟩
          have t1 : ∀ i ∈ rp :: (idOf sv ++ idOf tv), i ∈ rp :: (idOf sv ++ idOf tv) ∨ List.length h ≤ i := fun i hi => .inl hi
          refine ((hkp.then hk1 t1 fun i hi => .inl (by simp [hi])).then a2 t1 fun i hi => ?_).then a3 t1 fun i hi => .inl (by simp at hi; simp [hi])
          exact (hti i hi).elim (fun q => .inl (by simp [q])) .inr
        · intro i hi
          have := hkp.1
          rcases hti2 i hi with q | q
          · exact hti i q
          · simp at q; omega
      subst hsv
      clear b1 e rc2 rc3 hl1 hl2 hl3
      repeat' (first | (simp only [AW_next, AW_ops, AW_opsD, AW_cond, AW_block, AW_exit, AW_ret, AW_skip, AW_scope, AO_nil, AO_next, AO_nextW, wantB_bool, wantK_some, then_normal, then_exit, then_ret, inBlk_normal, inBlk_exit, inBlk_ret, A1_mv, A1_pick, A1_box, A1_zero, A1_build, A1_lits, A1_load, shallow_none, A1_store, A1_nilCheckI, nilOk_ptr, nilOk_func, A1_bin, A1_eqNil, A1_eqBool, A1_eqAgg, A1_un, A1_conv, A1_field, A1_fieldAddr, A1_indexAddr, A1_indexArr, A1_index, A1_slice, A1_mkSlice, A1_extract, A1_func, A1_call, callee_func, callee_bfunc, A1_append, A1_len, A1_minmax, put_some, put_none, upd_at, ev_tmp, ev_av, bin_lss, bin_leq, bin_gtr, bin_geq, bin_eql, bin_neq, bin_add, bin_sub, bin_mul, un_not, natOf_nat, Bool.not_eq_false', Prod.mk.injEq, and_assoc, decide_false, decide_true, Bool.not_false, Bool.not_true, Bool.true_eq_false, Bool.false_eq_true, exists_false, Bool.not_eq_false, Bool.not_not, AV.val.injEq, AV.ptr.injEq, AV.slice.injEq, AV.func.injEq, AV.tuple.injEq, AV.agg.injEq, Value.bool.injEq, Value.int.injEq, Option.some.injEq, exists_eq_left', exists_eq_left, exists_and_left, exists_and_right, and_true, true_and, decide_eq_true_eq, decide_eq_false_iff_not, if_true, if_false, Bool.not_eq_true', beq_true, beq_false, ne_eq, not_true_eq_false, not_false_eq_true, reduceCtorEq, List.getD_cons_zero, List.getD_cons_succ, List.map_cons, List.map_nil, List.append_nil, Nat.reduceEqDiff, reduceIte, ite_true, ite_false, or_true, true_or, or_false, false_or, resA, resultsA, true_imp_iff, false_imp_iff, implies_true, imp_false, and_self, imp_self, and_false, false_and, forall_const, cell_val, cell_ptr, cell_slice, cell_func, cell_hole, cells_agg, cells_val, cells_ptr, cells_slice, cells_func, cells_hole, cells_cell, List.length_cons, List.length_nil, List.all_cons, List.all_nil, Bool.and_self, ldA, List.mapM_cons, List.mapM_nil, Option.bind_eq_bind, Option.bind_some, Option.pure_def, Option.map_none, Option.map_some, List.set_cons_zero, List.set_cons_succ, Nat.lt_add_one, List.append_assoc, List.cons_append, List.nil_append, List.append_nil, List.length_append, rd1_n0, rd1_nK, rd1_c0, rd1_cS, rd_n0, rd_nK, rd_c0, rd_cS, fillA, List.take_zero, List.take_succ_cons, List.take_nil, List.drop_zero, List.drop_succ_cons, List.drop_nil, List.getElem?_cons_zero, List.getElem?_cons_succ, Nat.reduceAdd, Nat.reduceLeDiff, Nat.add_eq_zero_iff, and_self, Nat.zero_add, Nat.add_zero, Nat.mul_one, hrd, hsrd, rd1_of rc, rd1_of rc1, natOf_nat, hw1, hrow, hap, hw3, *]) | (simp only [goO, AO_nil, then_normal, goC]) | (with_reducible apply And.intro) | (with_reducible intro _))
  · rintro s' h' ⟨tv1, hR1, hkp, hti⟩ hs
    rw [List.take_of_length_le (Nat.le_refl _)] at hR1
    have := hK h' tv1 hR1 hkp hti
    clear hs
    repeat' (first | (simp only [AW_next, AW_ops, AW_opsD, AW_cond, AW_block, AW_exit, AW_ret, AW_skip, AW_scope, AO_nil, AO_next, AO_nextW, wantB_bool, wantK_some, then_normal, then_exit, then_ret, inBlk_normal, inBlk_exit, inBlk_ret, A1_mv, A1_pick, A1_box, A1_zero, A1_build, A1_lits, A1_load, shallow_none, A1_store, A1_nilCheckI, nilOk_ptr, nilOk_func, A1_bin, A1_eqNil, A1_eqBool, A1_eqAgg, A1_un, A1_conv, A1_field, A1_fieldAddr, A1_indexAddr, A1_indexArr, A1_index, A1_slice, A1_mkSlice, A1_extract, A1_func, A1_call, callee_func, callee_bfunc, A1_append, A1_len, A1_minmax, put_some, put_none, upd_at, ev_tmp, ev_av, bin_lss, bin_leq, bin_gtr, bin_geq, bin_eql, bin_neq, bin_add, bin_sub, bin_mul, un_not, natOf_nat, Bool.not_eq_false', Prod.mk.injEq, and_assoc, decide_false, decide_true, Bool.not_false, Bool.not_true, Bool.true_eq_false, Bool.false_eq_true, exists_false, Bool.not_eq_false, Bool.not_not, AV.val.injEq, AV.ptr.injEq, AV.slice.injEq, AV.func.injEq, AV.tuple.injEq, AV.agg.injEq, Value.bool.injEq, Value.int.injEq, Option.some.injEq, exists_eq_left', exists_eq_left, exists_and_left, exists_and_right, and_true, true_and, decide_eq_true_eq, decide_eq_false_iff_not, if_true, if_false, Bool.not_eq_true', beq_true, beq_false, ne_eq, not_true_eq_false, not_false_eq_true, reduceCtorEq, List.getD_cons_zero, List.getD_cons_succ, List.map_cons, List.map_nil, List.append_nil, Nat.reduceEqDiff, reduceIte, ite_true, ite_false, or_true, true_or, or_false, false_or, resA, resultsA, true_imp_iff, false_imp_iff, implies_true, imp_false, and_self, imp_self, and_false, false_and, forall_const, cell_val, cell_ptr, cell_slice, cell_func, cell_hole, cells_agg, cells_val, cells_ptr, cells_slice, cells_func, cells_hole, cells_cell, List.length_cons, List.length_nil, List.all_cons, List.all_nil, Bool.and_self, ldA, List.mapM_cons, List.mapM_nil, Option.bind_eq_bind, Option.bind_some, Option.pure_def, Option.map_none, Option.map_some, List.set_cons_zero, List.set_cons_succ, Nat.lt_add_one, List.append_assoc, List.cons_append, List.nil_append, List.append_nil, List.length_append, rd1_n0, rd1_nK, rd1_c0, rd1_cS, rd_n0, rd_nK, rd_c0, rd_cS, fillA, List.take_zero, List.take_succ_cons, List.take_nil, List.drop_zero, List.drop_succ_cons, List.drop_nil, List.getElem?_cons_zero, List.getElem?_cons_succ, Nat.reduceAdd, Nat.reduceLeDiff, Nat.add_eq_zero_iff, and_self, Nat.zero_add, Nat.add_zero, Nat.mul_one, *]) | (simp only [goO, AO_nil, then_normal, goC]) | (with_reducible apply And.intro) | (with_reducible intro _))
theorem all_am {h0 : Heap} {rp : Nat} {gh gr sv tv : AV} {has : List (List Int)} {sb : List Bool} {td : List Int} {S0 : Nat → Prop} (hR : RSt h rp gh gr sv sb tv td) (hA : AInv has S0 (sb, td)) (hok : okHas has sb.length) (hh0 : Keep h0 h []) (hL : LL h0 gh has)
    (hge : ∀ i ∈ rp :: (idOf sv ++ idOf tv), h0.length ≤ i) (hls : ∀ l ∈ has, l.length ≤ 1000) (hbd : td.length + unseen sb ≤ 1000000) (hW : Wri fl h rp sv tv)
    (hK : ∀ h' tv' sb', RSt h' rp gh gr sv sb' tv' [] → AInv has S0 (sb', []) → Keep h h' (rp :: (idOf sv ++ idOf tv)) → (∀ i ∈ idOf tv', i ∈ idOf tv ∨ h.length ≤ i) → K (.tuple []) h') :
    AC (constX tb) (cFunc Try.prog) 44 [.ptr rp 0] fl h K := by
  refine AC.enter rfl f_wk_all (by simp) ?_
  simp only [c_wk_all]
  rw [AW_block]
  refine AW.named fun S hS => ?_
  have g0 : S 0 = .ptr rp 0 := by rw [hS]; rfl
  clear hS
  refine AW_while (fun n s' h' => ∃ st, n = st.2.length + unseen st.1 ∧ n ≤ 1000000 ∧ st.1.length = sb.length ∧ AInv has S0 st ∧ RInv h rp gh gr sv tv st h') (td.length + unseen sb) ⟨(sb, td), rfl, hbd, rfl, hA, tv, hR, Keep.refl _, fun i hi => .inl hi⟩ ?_
  rintro n s' h' ⟨⟨sb1, td1⟩, hn, hnb, hsl, hA1, tv1, hR1, hkp, hti⟩ hs
  have f0 := (hs 0 (by decide)).trans g0
  dsimp only at hn hsl hR1
  clear hs g0
  obtain ⟨rc, hseen, htodo, d1, d2, d3⟩ := hR1
  rcases List.eq_nil_or_concat td1 with rfl | ⟨td0, x, rfl⟩
  · have hlt := htodo.len
    have fin := hK h' tv1 sb1 ⟨rc, hseen, htodo, d1, d2, d3⟩ hA1 hkp hti
    clear hn hsl
    repeat' (first | (simp only [AW_next, AW_ops, AW_opsD, AW_cond, AW_block, AW_exit, AW_ret, AW_skip, AW_scope, AO_nil, AO_next, AO_nextW, wantB_bool, wantK_some, then_normal, then_exit, then_ret, inBlk_normal, inBlk_exit, inBlk_ret, A1_mv, A1_pick, A1_box, A1_zero, A1_build, A1_lits, A1_load, shallow_none, A1_store, A1_nilCheckI, nilOk_ptr, nilOk_func, A1_bin, A1_eqNil, A1_eqBool, A1_eqAgg, A1_un, A1_conv, A1_field, A1_fieldAddr, A1_indexAddr, A1_indexArr, A1_index, A1_slice, A1_mkSlice, A1_extract, A1_func, A1_call, callee_func, callee_bfunc, A1_append, A1_len, A1_minmax, put_some, put_none, upd_at, ev_tmp, ev_av, bin_lss, bin_leq, bin_gtr, bin_geq, bin_eql, bin_neq, bin_add, bin_sub, bin_mul, un_not, natOf_nat, Bool.not_eq_false', Prod.mk.injEq, and_assoc, decide_false, decide_true, Bool.not_false, Bool.not_true, Bool.true_eq_false, Bool.false_eq_true, exists_false, Bool.not_eq_false, Bool.not_not, AV.val.injEq, AV.ptr.injEq, AV.slice.injEq, AV.func.injEq, AV.tuple.injEq, AV.agg.injEq, Value.bool.injEq, Value.int.injEq, Option.some.injEq, exists_eq_left', exists_eq_left, exists_and_left, exists_and_right, and_true, true_and, decide_eq_true_eq, decide_eq_false_iff_not, if_true, if_false, Bool.not_eq_true', beq_true, beq_false, ne_eq, not_true_eq_false, not_false_eq_true, reduceCtorEq, List.getD_cons_zero, List.getD_cons_succ, List.map_cons, List.map_nil, List.append_nil, Nat.reduceEqDiff, reduceIte, ite_true, ite_false, or_true, true_or, or_false, false_or, resA, resultsA, true_imp_iff, false_imp_iff, implies_true, imp_false, and_self, imp_self, and_false, false_and, forall_const, cell_val, cell_ptr, cell_slice, cell_func, cell_hole, cells_agg, cells_val, cells_ptr, cells_slice, cells_func, cells_hole, cells_cell, List.length_cons, List.length_nil, List.all_cons, List.all_nil, Bool.and_self, ldA, List.mapM_cons, List.mapM_nil, Option.bind_eq_bind, Option.bind_some, Option.pure_def, Option.map_none, Option.map_some, List.set_cons_zero, List.set_cons_succ, Nat.lt_add_one, List.append_assoc, List.cons_append, List.nil_append, List.append_nil, List.length_append, rd1_n0, rd1_nK, rd1_c0, rd1_cS, rd_n0, rd_nK, rd_c0, rd_cS, fillA, List.take_zero, List.take_succ_cons, List.take_nil, List.drop_zero, List.drop_succ_cons, List.drop_nil, List.getElem?_cons_zero, List.getElem?_cons_succ, Nat.reduceAdd, Nat.reduceLeDiff, Nat.add_eq_zero_iff, and_self, Nat.zero_add, Nat.add_zero, Nat.mul_one, rd1_of rc, hlt, *]) | (simp only [goO, AO_nil, then_normal, goC]) | (with_reducible apply And.intro) | (with_reducible intro _))
    · exfalso; rename_i hz; exact absurd hz (by simp)
  · simp only [List.concat_eq_append] at *
    have hx := hA1.todo x (by simp)
    obtain ⟨m, rfl⟩ := Int.eq_ofNat_of_zero_le hx.1
    have hm1 : m < has.length := by rw [hok.1]; have := hx.2.1; dsimp only at this; omega
    have hlen : (td0 ++ [(m : Int)]).length = td0.length + 1 := by simp
    obtain ⟨tid, toff, tlb, tex, htv, htlb, htrd⟩ := (show IL h' tv1 (td0 ++ [(m : Int)]) from htodo.sl).at (j := td0.length) (by simp)
    rw [List.getElem_append_right (Nat.le_refl _)] at htrd
    simp only [Nat.sub_self, List.getElem_cons_zero] at htrd
    have hlt := htodo.len
    have htodo' := htodo
    rw [hlen] at hlt
    rw [hlen, List.map_append] at htodo'
    obtain ⟨tv2, hsl2, ho2, hid2⟩ := htodo'.pop rfl
    have w3 : ∀ i ∈ idOf tv1, fl i = true := fun i hi => (hti i hi).elim (hW.f3 i) (hW.f4 i)
    obtain ⟨h1, hw1, rc1, hk1, hl1⟩ := wr1_ex (fl := fl) (off := 3) (v := tv2) rc hW.f1 (by simp)
    have hwr : IntKind.i64.wrap (((td0.length + 1 : Nat) : Int) - 1) = (td0.length : Nat) := by rw [IntWalk.i64_in _ (by omega)]; omega
    have htc := ho2.sl.cell
    have k1 : Keep h' h1 [rp] := ⟨by omega, fun i row hi hr => by rw [hk1 i (by simpa using hi)]; exact hr⟩
    have k2 : Keep h0 h1 [] := (hh0.then hkp (fun i hi => .inl hi) (fun i hi => .inr (hge i hi))).then k1 (fun i hi => .inl hi) (fun i hi => .inr (hge i (by simp at hi; simp [hi])))
    obtain ⟨gid, goff, glb, gex, u, hgh, hglb, hgrd0, hu0⟩ := hL.at hm1
    have hgrd := k2.rd1 (by simp) hgrd0
    have hu := hu0.keep k2 (fun i _ => by simp)
    have hlu : ∀ i ∈ idOf u, i < h0.length := Sl.lt hu0
    have hb2 : td0.length + unseen sb1 < n := by rw [hn]; simp
    have hok1 : okHas has sb1.length := by rw [hsl]; exact hok
    have hget : has.getD m [] = has[m] := by simp [hm1]
    have hAn := AInv.next hok1 hA1
    simp only [Int.toNat_natCast, hget] at hAn
    have hw4 := hkp.1
    have hR2 : RSt h1 rp gh gr sv sb1 tv2 td0 := ⟨rc1, hseen.keep k1 (fun i hi hm => d1 (by simp at hm; rw [← hm]; exact hi)), by simpa using ho2.keepK k1 (fun i hi hm => by rw [hid2] at hi; simp at hm; exact d2 (hm ▸ hi)), d1, by rw [hid2]; exact d2, by rw [hid2]; exact d3⟩
    have hW2 : Wri fl h1 rp sv tv2 := ⟨hW.f1, hW.f2, by rw [hid2]; exact w3, fun i hi => hW.f4 i (by omega)⟩
    have hbu : ∀ x ∈ has[m], 0 ≤ x ∧ x < (sb1.length : Int) := fun x hx => hok1.2 _ (List.getElem_mem _) x hx
    have hlu1 : has[m].length ≤ 1000 := hls _ (List.getElem_mem _)
    have hli : ∀ i ∈ idOf u, i ∉ rp :: (idOf sv ++ idOf tv2) := fun i hi hm => by
      have a := hlu i hi
      rw [hid2] at hm
      simp only [List.mem_cons, List.mem_append] at hm
      rcases hm with rfl | hm | hm
      · have := hge _ (List.mem_cons_self ..); omega
      · have := hge i (by simp [hm]); omega
      · rcases hti i hm with q | q
        · have := hge i (by simp [q]); omega
        · have := hh0.1; omega
    have hgo : ∀ h2 tv3, RSt h2 rp gh gr sv (reachL (sb1, td0) has[m]).1 tv3 (reachL (sb1, td0) has[m]).2 → Keep h1 h2 (rp :: (idOf sv ++ idOf tv2)) → (∀ i ∈ idOf tv3, i ∈ idOf tv2 ∨ h1.length ≤ i) →
        ∃ n', n' < n ∧ ∃ st, n' = st.2.length + unseen st.1 ∧ n' ≤ 1000000 ∧ st.1.length = sb.length ∧ AInv has S0 st ∧ RInv h rp gh gr sv tv st h2 := fun h2 tv3 r1 r2 r3 => by
      have hbd2 := reachL_bound has[m] (sb1, td0) (fun x hx => by have := hbu x hx; simp; omega)
      have hll := reachL_length has[m] (sb1, td0)
      dsimp only at hbd2 hll
      have t1 : ∀ i ∈ rp :: (idOf sv ++ idOf tv), i ∈ rp :: (idOf sv ++ idOf tv) ∨ List.length h ≤ i := fun i hi => .inl hi
      refine ⟨_, by omega, reachL (sb1, td0) has[m], rfl, by omega, by omega, hAn, tv3, r1, (hkp.then k1 t1 (fun i hi => .inl (by simp at hi; simp [hi]))).then r2 t1 (fun i hi => ?_), fun i hi => ?_⟩
      · rw [hid2] at hi
        simp only [List.mem_cons, List.mem_append] at hi ⊢
        rcases hi with q | q | q
        · exact .inl (.inl q)
        · exact .inl (.inr (.inl q))
        · exact (hti i q).elim (fun q => .inl (.inr (.inr q))) .inr
      · rcases r3 i hi with q | q
        · rw [hid2] at q; exact hti i q
        · exact .inr (by omega)
    rw [hlen] at htv
    subst htv hgh
    clear hk1 hl1 hsl hn
    repeat' (first | (simp only [AW_next, AW_ops, AW_opsD, AW_cond, AW_block, AW_exit, AW_ret, AW_skip, AW_scope, AO_nil, AO_next, AO_nextW, wantB_bool, wantK_some, then_normal, then_exit, then_ret, inBlk_normal, inBlk_exit, inBlk_ret, A1_mv, A1_pick, A1_box, A1_zero, A1_build, A1_lits, A1_load, shallow_none, A1_store, A1_nilCheckI, nilOk_ptr, nilOk_func, A1_bin, A1_eqNil, A1_eqBool, A1_eqAgg, A1_un, A1_conv, A1_field, A1_fieldAddr, A1_indexAddr, A1_indexArr, A1_index, A1_slice, A1_mkSlice, A1_extract, A1_func, A1_call, callee_func, callee_bfunc, A1_append, A1_len, A1_minmax, put_some, put_none, upd_at, ev_tmp, ev_av, bin_lss, bin_leq, bin_gtr, bin_geq, bin_eql, bin_neq, bin_add, bin_sub, bin_mul, un_not, natOf_nat, Bool.not_eq_false', Prod.mk.injEq, and_assoc, decide_false, decide_true, Bool.not_false, Bool.not_true, Bool.true_eq_false, Bool.false_eq_true, exists_false, Bool.not_eq_false, Bool.not_not, AV.val.injEq, AV.ptr.injEq, AV.slice.injEq, AV.func.injEq, AV.tuple.injEq, AV.agg.injEq, Value.bool.injEq, Value.int.injEq, Option.some.injEq, exists_eq_left', exists_eq_left, exists_and_left, exists_and_right, and_true, true_and, decide_eq_true_eq, decide_eq_false_iff_not, if_true, if_false, Bool.not_eq_true', beq_true, beq_false, ne_eq, not_true_eq_false, not_false_eq_true, reduceCtorEq, List.getD_cons_zero, List.getD_cons_succ, List.map_cons, List.map_nil, List.append_nil, Nat.reduceEqDiff, reduceIte, ite_true, ite_false, or_true, true_or, or_false, false_or, resA, resultsA, true_imp_iff, false_imp_iff, implies_true, imp_false, and_self, imp_self, and_false, false_and, forall_const, cell_val, cell_ptr, cell_slice, cell_func, cell_hole, cells_agg, cells_val, cells_ptr, cells_slice, cells_func, cells_hole, cells_cell, List.length_cons, List.length_nil, List.all_cons, List.all_nil, Bool.and_self, ldA, List.mapM_cons, List.mapM_nil, Option.bind_eq_bind, Option.bind_some, Option.pure_def, Option.map_none, Option.map_some, List.set_cons_zero, List.set_cons_succ, Nat.lt_add_one, List.append_assoc, List.cons_append, List.nil_append, List.append_nil, List.length_append, rd1_n0, rd1_nK, rd1_c0, rd1_cS, rd_n0, rd_nK, rd_c0, rd_cS, fillA, List.take_zero, List.take_succ_cons, List.take_nil, List.drop_zero, List.drop_succ_cons, List.drop_nil, List.getElem?_cons_zero, List.getElem?_cons_succ, Nat.reduceAdd, Nat.reduceLeDiff, Nat.add_eq_zero_iff, and_self, Nat.zero_add, Nat.add_zero, Nat.mul_one, rd1_of rc, rd1_of rc1, hlt, hwr, htrd, hsl2, hw1, natOf_nat, *]) | (simp only [goO, AO_nil, then_normal, goC]) | (with_reducible apply And.intro) | (with_reducible intro _))
    · refine reach_am hR2 hu hli hbu (by omega) (by omega) hW2 fun h2 tv3 r1 r2 r3 => ?_
      have fin := hgo h2 tv3 r1 r2 r3
      clear hgo
      repeat' (first | (simp only [AW_next, AW_ops, AW_opsD, AW_cond, AW_block, AW_exit, AW_ret, AW_skip, AW_scope, AO_nil, AO_next, AO_nextW, wantB_bool, wantK_some, then_normal, then_exit, then_ret, inBlk_normal, inBlk_exit, inBlk_ret, A1_mv, A1_pick, A1_box, A1_zero, A1_build, A1_lits, A1_load, shallow_none, A1_store, A1_nilCheckI, nilOk_ptr, nilOk_func, A1_bin, A1_eqNil, A1_eqBool, A1_eqAgg, A1_un, A1_conv, A1_field, A1_fieldAddr, A1_indexAddr, A1_indexArr, A1_index, A1_slice, A1_mkSlice, A1_extract, A1_func, A1_call, callee_func, callee_bfunc, A1_append, A1_len, A1_minmax, put_some, put_none, upd_at, ev_tmp, ev_av, bin_lss, bin_leq, bin_gtr, bin_geq, bin_eql, bin_neq, bin_add, bin_sub, bin_mul, un_not, natOf_nat, Bool.not_eq_false', Prod.mk.injEq, and_assoc, decide_false, decide_true, Bool.not_false, Bool.not_true, Bool.true_eq_false, Bool.false_eq_true, exists_false, Bool.not_eq_false, Bool.not_not, AV.val.injEq, AV.ptr.injEq, AV.slice.injEq, AV.func.injEq, AV.tuple.injEq, AV.agg.injEq, Value.bool.injEq, Value.int.injEq, Option.some.injEq, exists_eq_left', exists_eq_left, exists_and_left, exists_and_right, and_true, true_and, decide_eq_true_eq, decide_eq_false_iff_not, if_true, if_false, Bool.not_eq_true', beq_true, beq_false, ne_eq, not_true_eq_false, not_false_eq_true, reduceCtorEq, List.getD_cons_zero, List.getD_cons_succ, List.map_cons, List.map_nil, List.append_nil, Nat.reduceEqDiff, reduceIte, ite_true, ite_false, or_true, true_or, or_false, false_or, resA, resultsA, true_imp_iff, false_imp_iff, implies_true, imp_false, and_self, imp_self, and_false, false_and, forall_const, cell_val, cell_ptr, cell_slice, cell_func, cell_hole, cells_agg, cells_val, cells_ptr, cells_slice, cells_func, cells_hole, cells_cell, List.length_cons, List.length_nil, List.all_cons, List.all_nil, Bool.and_self, ldA, List.mapM_cons, List.mapM_nil, Option.bind_eq_bind, Option.bind_some, Option.pure_def, Option.map_none, Option.map_some, List.set_cons_zero, List.set_cons_succ, Nat.lt_add_one, List.append_assoc, List.cons_append, List.nil_append, List.append_nil, List.length_append, rd1_n0, rd1_nK, rd1_c0, rd1_cS, rd_n0, rd_nK, rd_c0, rd_cS, fillA, List.take_zero, List.take_succ_cons, List.take_nil, List.drop_zero, List.drop_succ_cons, List.drop_nil, List.getElem?_cons_zero, List.getElem?_cons_succ, Nat.reduceAdd, Nat.reduceLeDiff, Nat.add_eq_zero_iff, and_self, Nat.zero_add, Nat.add_zero, Nat.mul_one, *]) | (simp only [goO, AO_nil, then_normal, goC]) | (with_reducible apply And.intro) | (with_reducible intro _))
      all_goals trace_state
    · exfalso; rename_i hz; exact hz (by omega)
end Go.Proofs.Ytfmllmcjinjfaaa

namespace Go.Proofs.Ytfmllmcjinjfaaa
open Go Go.RowKit
set_option linter.unusedVariables false
set_option linter.unusedSimpArgs false
variable {tb : List (FuncId × Bool)} {fl : Nat → Bool} {h : Heap} {K : AV → Heap → Prop}

theorem flat_one {n : Nat} {v : AV} : (List.replicate n [v]).flatten = List.replicate n v := by
  induction n with
  | zero => rfl
  | succ n ih => rw [List.replicate_succ, List.flatten_cons, ih, List.replicate_succ]; rfl
theorem Sl.made {h : Heap} {id n : Nat} {v : AV} {b : Bool} (hb : blk h id = some (List.replicate n v)) : Sl h 1 (.slice id 0 n n b 1) (List.replicate n v) n :=
  ⟨by simp, .inr ⟨id, 0, n, b, _, rfl, Nat.le_refl _, hb, by simp, by simp⟩⟩
theorem BL.made {h : Heap} {id n : Nat} {b c : Bool} (hb : blk h id = some (List.replicate n (BV c))) : BL h (.slice id 0 n n b 1) (List.replicate n c) := by
  unfold BL
  rw [List.map_replicate, List.length_replicate]; exact Sl.made hb

theorem from_am {v1 v2 lv : AV} {has : List (List Int)} {l : List Int} (h1 : LL h v1 has) (hc2 : v2.isCell = true) (hl : IL h lv l) (hN : has.length ≤ 100) (hls : ∀ l ∈ has, l.length ≤ 1000) (hll : l.length ≤ 1000000) (hok : okHas has has.length)
    (hb : ∀ x ∈ l, 0 ≤ x ∧ x < (has.length : Int)) (hf : ∀ i, h.length ≤ i → fl i = true)
    (hK : ∀ h' sv sb, BL h' sv sb → sb.length = has.length → LInv has [] l sb → Keep h h' [] → K sv h') :
    AC (constX tb) (cFunc Try.prog) 26 [.agg [v1, v2], lv] fl h K := by
  refine AC.enter rfl f_wk_from (by simp) ?_
  simp only [c_wk_from]
  have hl1 := h1.len
  have hc1 := h1.cell
  have hre : has.length ≤ reach := by unfold reach; omega
  obtain ⟨H, hH⟩ : ∃ H, H = h ++ [some [v1, v2], some (List.replicate has.length (BV false)), some [v1, v2, .slice (h.length + 1) 0 has.length has.length true 1, .nil]] := ⟨_, rfl⟩
  have kH : Keep h H [] := by rw [hH]; exact Keep.ext _ _
  have hHl : H.length = h.length + 3 := by rw [hH]; simp
  have hR : RSt H (h.length + 2) v1 v2 (.slice (h.length + 1) 0 has.length has.length true 1) (List.replicate has.length false) .nil [] := by
    refine ⟨by rw [hH, blk_atK]; rfl, BL.made (by rw [hH, blk_atK]; rfl), OL.nil, by simp [idOf], by simp [idOf], by simp [idOf]⟩
  have hW : Wri fl H (h.length + 2) (.slice (h.length + 1) 0 has.length has.length true 1) .nil := ⟨hf _ (by omega), fun i hi => hf _ (by simp [idOf] at hi; omega), fun i hi => by simp [idOf] at hi, fun i hi => hf _ (by omega)⟩
  have hgo := fun (K2 : AV → Heap → Prop) (k2 : _) => reach_am (tb := tb) (K := K2) hR (hl.keep kH (by simp)) (fun i hi hm => by have := Sl.lt hl i hi; simp [idOf] at hm; omega) (by simpa using hb) hll (by rw [replicate_unseen]; simp; omega) hW k2
  have HH := Lib.hid hH
  have HL := Lib.hid hHl
  clear hH hHl
  repeat' (first | (simp only [AW_next, AW_ops, AW_opsD, AW_cond, AW_block, AW_exit, AW_ret, AW_skip, AW_scope, AO_nil, AO_next, AO_nextW, wantB_bool, wantK_some, then_normal, then_exit, then_ret, inBlk_normal, inBlk_exit, inBlk_ret, A1_mv, A1_pick, A1_box, A1_zero, A1_build, A1_lits, A1_load, shallow_none, A1_store, A1_nilCheckI, nilOk_ptr, nilOk_func, A1_bin, A1_eqNil, A1_eqBool, A1_eqAgg, A1_un, A1_conv, A1_field, A1_fieldAddr, A1_indexAddr, A1_indexArr, A1_index, A1_slice, A1_mkSlice, A1_extract, A1_func, A1_call, callee_func, callee_bfunc, A1_append, A1_len, A1_minmax, put_some, put_none, upd_at, ev_tmp, ev_av, bin_lss, bin_leq, bin_gtr, bin_geq, bin_eql, bin_neq, bin_add, bin_sub, bin_mul, un_not, natOf_nat, Bool.not_eq_false', Prod.mk.injEq, and_assoc, decide_false, decide_true, Bool.not_false, Bool.not_true, Bool.true_eq_false, Bool.false_eq_true, exists_false, Bool.not_eq_false, Bool.not_not, AV.val.injEq, AV.ptr.injEq, AV.slice.injEq, AV.func.injEq, AV.tuple.injEq, AV.agg.injEq, Value.bool.injEq, Value.int.injEq, Option.some.injEq, exists_eq_left', exists_eq_left, exists_and_left, exists_and_right, and_true, true_and, decide_eq_true_eq, decide_eq_false_iff_not, if_true, if_false, Bool.not_eq_true', beq_true, beq_false, ne_eq, not_true_eq_false, not_false_eq_true, reduceCtorEq, List.getD_cons_zero, List.getD_cons_succ, List.map_cons, List.map_nil, List.append_nil, Nat.reduceEqDiff, reduceIte, ite_true, ite_false, or_true, true_or, or_false, false_or, resA, resultsA, true_imp_iff, false_imp_iff, implies_true, imp_false, and_self, imp_self, and_false, false_and, forall_const, cell_val, cell_ptr, cell_slice, cell_func, cell_hole, cells_agg, cells_val, cells_ptr, cells_slice, cells_func, cells_hole, cells_cell, List.length_cons, List.length_nil, List.all_cons, List.all_nil, Bool.and_self, ldA, List.mapM_cons, List.mapM_nil, Option.bind_eq_bind, Option.bind_some, Option.pure_def, Option.map_none, Option.map_some, List.set_cons_zero, List.set_cons_succ, Nat.lt_add_one, List.append_assoc, List.cons_append, List.nil_append, List.append_nil, List.length_append, rd1_n0, rd1_nK, rd1_c0, rd1_cS, rd_n0, rd_nK, rd_c0, rd_cS, fillA, List.take_zero, List.take_succ_cons, List.take_nil, List.drop_zero, List.drop_succ_cons, List.drop_nil, List.getElem?_cons_zero, List.getElem?_cons_succ, Nat.reduceAdd, Nat.reduceLeDiff, Nat.add_eq_zero_iff, and_self, Nat.zero_add, Nat.add_zero, Nat.mul_one, hl1, natOf_nat, hre, Nat.le_refl, beq_self_eq_true, flat_one, *]) | (simp only [goO, AO_nil, then_normal, goC]) | (with_reducible apply And.intro) | (with_reducible intro _))
  rw [← HH.out]
  refine hgo _ fun h2 tv2 r1 r2 r3 => ?_
  repeat' (first | (simp only [AW_next, AW_ops, AW_opsD, AW_cond, AW_block, AW_exit, AW_ret, AW_skip, AW_scope, AO_nil, AO_next, AO_nextW, wantB_bool, wantK_some, then_normal, then_exit, then_ret, inBlk_normal, inBlk_exit, inBlk_ret, A1_mv, A1_pick, A1_box, A1_zero, A1_build, A1_lits, A1_load, shallow_none, A1_store, A1_nilCheckI, nilOk_ptr, nilOk_func, A1_bin, A1_eqNil, A1_eqBool, A1_eqAgg, A1_un, A1_conv, A1_field, A1_fieldAddr, A1_indexAddr, A1_indexArr, A1_index, A1_slice, A1_mkSlice, A1_extract, A1_func, A1_call, callee_func, callee_bfunc, A1_append, A1_len, A1_minmax, put_some, put_none, upd_at, ev_tmp, ev_av, bin_lss, bin_leq, bin_gtr, bin_geq, bin_eql, bin_neq, bin_add, bin_sub, bin_mul, un_not, natOf_nat, Bool.not_eq_false', Prod.mk.injEq, and_assoc, decide_false, decide_true, Bool.not_false, Bool.not_true, Bool.true_eq_false, Bool.false_eq_true, exists_false, Bool.not_eq_false, Bool.not_not, AV.val.injEq, AV.ptr.injEq, AV.slice.injEq, AV.func.injEq, AV.tuple.injEq, AV.agg.injEq, Value.bool.injEq, Value.int.injEq, Option.some.injEq, exists_eq_left', exists_eq_left, exists_and_left, exists_and_right, and_true, true_and, decide_eq_true_eq, decide_eq_false_iff_not, if_true, if_false, Bool.not_eq_true', beq_true, beq_false, ne_eq, not_true_eq_false, not_false_eq_true, reduceCtorEq, List.getD_cons_zero, List.getD_cons_succ, List.map_cons, List.map_nil, List.append_nil, Nat.reduceEqDiff, reduceIte, ite_true, ite_false, or_true, true_or, or_false, false_or, resA, resultsA, true_imp_iff, false_imp_iff, implies_true, imp_false, and_self, imp_self, and_false, false_and, forall_const, cell_val, cell_ptr, cell_slice, cell_func, cell_hole, cells_agg, cells_val, cells_ptr, cells_slice, cells_func, cells_hole, cells_cell, List.length_cons, List.length_nil, List.all_cons, List.all_nil, Bool.and_self, ldA, List.mapM_cons, List.mapM_nil, Option.bind_eq_bind, Option.bind_some, Option.pure_def, Option.map_none, Option.map_some, List.set_cons_zero, List.set_cons_succ, Nat.lt_add_one, List.append_assoc, List.cons_append, List.nil_append, List.append_nil, List.length_append, rd1_n0, rd1_nK, rd1_c0, rd1_cS, rd_n0, rd_nK, rd_c0, rd_cS, fillA, List.take_zero, List.take_succ_cons, List.take_nil, List.drop_zero, List.drop_succ_cons, List.drop_nil, List.getElem?_cons_zero, List.getElem?_cons_succ, Nat.reduceAdd, Nat.reduceLeDiff, Nat.add_eq_zero_iff, and_self, Nat.zero_add, Nat.add_zero, Nat.mul_one, *]) | (simp only [goO, AO_nil, then_normal, goC]) | (with_reducible apply And.intro) | (with_reducible intro _))
  have hG : GInv has (Liv has [] l) (reachL (List.replicate has.length false, []) l) := (GInv.start has _ has.length).reach fun x hx => ⟨by simpa using hb x hx, Liv.base hx⟩
  have hsn := reachL_seen l (List.replicate has.length false, []) (fun x hx => by have := hb x hx; simp; omega)
  have hll := reachL_length l (List.replicate has.length false, [])
  have hbd := reachL_bound l (List.replicate has.length false, []) (fun x hx => by have := hb x hx; simp; omega)
  obtain ⟨⟨sb1, td1⟩, hst⟩ : ∃ st, st = reachL (List.replicate has.length false, []) l := ⟨_, rfl⟩
  rw [← hst] at r1 hG hsn hll hbd
  clear hst
  dsimp only at r1 hsn hll hbd
  rw [List.length_replicate] at hll
  rw [replicate_unseen, List.length_nil] at hbd
  have hk2 : Keep h h2 [] := kH.then r2 (fun i hi => .inl hi) fun i hi => .inr (by simp [idOf] at hi; omega)
  have hL' := HL.out
  have hW2 : Wri fl h2 (h.length + 2) (.slice (h.length + 1) 0 has.length has.length true 1) tv2 := ⟨hW.f1, hW.f2, fun i hi => (r3 i hi).elim (fun q => by simp [idOf] at q) (fun q => hf i (by omega)), fun i hi => hf i (by have := hk2.1; omega)⟩
  have hge : ∀ i ∈ (h.length + 2) :: (idOf (.slice (h.length + 1) 0 has.length has.length true 1) ++ idOf tv2), h.length ≤ i := fun i hi => by
    simp only [List.mem_cons, List.mem_append] at hi
    rcases hi with q | q | q
    · omega
    · simp [idOf] at q; omega
    · exact (r3 i q).elim (fun q => by simp [idOf] at q) (fun q => by omega)
  refine all_am r1 hG.toA (by rw [hll]; exact hok) hk2 h1 hge hls (by omega) hW2 fun h3 tv3 sb3 q1 q2 q3 q4 => ?_
  have hlen3 : sb3.length = has.length := by
    have a := q1.seen.len
    simp [lenA] at a
    exact a.symm
  have fin := hK h3 _ sb3 q1.seen hlen3 (LInv.ofA q2 (fun n hn => hG.sub n hn) (fun x hx => (hsn _).2 (.inr ⟨x, hx, rfl⟩))) (hk2.then q3 (fun i hi => .inl hi) fun i hi => .inr (hge i hi))
  have rc := q1.rc
  clear hgo
  repeat' (first | (simp only [AW_next, AW_ops, AW_opsD, AW_cond, AW_block, AW_exit, AW_ret, AW_skip, AW_scope, AO_nil, AO_next, AO_nextW, wantB_bool, wantK_some, then_normal, then_exit, then_ret, inBlk_normal, inBlk_exit, inBlk_ret, A1_mv, A1_pick, A1_box, A1_zero, A1_build, A1_lits, A1_load, shallow_none, A1_store, A1_nilCheckI, nilOk_ptr, nilOk_func, A1_bin, A1_eqNil, A1_eqBool, A1_eqAgg, A1_un, A1_conv, A1_field, A1_fieldAddr, A1_indexAddr, A1_indexArr, A1_index, A1_slice, A1_mkSlice, A1_extract, A1_func, A1_call, callee_func, callee_bfunc, A1_append, A1_len, A1_minmax, put_some, put_none, upd_at, ev_tmp, ev_av, bin_lss, bin_leq, bin_gtr, bin_geq, bin_eql, bin_neq, bin_add, bin_sub, bin_mul, un_not, natOf_nat, Bool.not_eq_false', Prod.mk.injEq, and_assoc, decide_false, decide_true, Bool.not_false, Bool.not_true, Bool.true_eq_false, Bool.false_eq_true, exists_false, Bool.not_eq_false, Bool.not_not, AV.val.injEq, AV.ptr.injEq, AV.slice.injEq, AV.func.injEq, AV.tuple.injEq, AV.agg.injEq, Value.bool.injEq, Value.int.injEq, Option.some.injEq, exists_eq_left', exists_eq_left, exists_and_left, exists_and_right, and_true, true_and, decide_eq_true_eq, decide_eq_false_iff_not, if_true, if_false, Bool.not_eq_true', beq_true, beq_false, ne_eq, not_true_eq_false, not_false_eq_true, reduceCtorEq, List.getD_cons_zero, List.getD_cons_succ, List.map_cons, List.map_nil, List.append_nil, Nat.reduceEqDiff, reduceIte, ite_true, ite_false, or_true, true_or, or_false, false_or, resA, resultsA, true_imp_iff, false_imp_iff, implies_true, imp_false, and_self, imp_self, and_false, false_and, forall_const, cell_val, cell_ptr, cell_slice, cell_func, cell_hole, cells_agg, cells_val, cells_ptr, cells_slice, cells_func, cells_hole, cells_cell, List.length_cons, List.length_nil, List.all_cons, List.all_nil, Bool.and_self, ldA, List.mapM_cons, List.mapM_nil, Option.bind_eq_bind, Option.bind_some, Option.pure_def, Option.map_none, Option.map_some, List.set_cons_zero, List.set_cons_succ, Nat.lt_add_one, List.append_assoc, List.cons_append, List.nil_append, List.append_nil, List.length_append, rd1_n0, rd1_nK, rd1_c0, rd1_cS, rd_n0, rd_nK, rd_c0, rd_cS, fillA, List.take_zero, List.take_succ_cons, List.take_nil, List.drop_zero, List.drop_succ_cons, List.drop_nil, List.getElem?_cons_zero, List.getElem?_cons_succ, Nat.reduceAdd, Nat.reduceLeDiff, Nat.add_eq_zero_iff, and_self, Nat.zero_add, Nat.add_zero, Nat.mul_one, rd1_of rc, *]) | (simp only [goO, AO_nil, then_normal, goC]) | (with_reducible apply And.intro) | (with_reducible intro _))

theorem rising_am {lv : AV} {sb : List Bool} (hl : BL h lv sb) (hlen : sb.length ≤ 1000000) (hf : ∀ i, h.length ≤ i → fl i = true)
    (hK : ∀ h' v, NewI h h' v (rising sb) → K v h') :
    AC (constX tb) (cFunc Try.prog) 25 [lv] fl h K := by
  refine AC.enter rfl f_wk_rising (by simp) ?_
  simp only [c_wk_rising]
  have hl1 := hl.len
  repeat' (first | (simp only [AW_next, AW_ops, AW_opsD, AW_cond, AW_block, AW_exit, AW_ret, AW_skip, AW_scope, AO_nil, AO_next, AO_nextW, wantB_bool, wantK_some, then_normal, then_exit, then_ret, inBlk_normal, inBlk_exit, inBlk_ret, A1_mv, A1_pick, A1_box, A1_zero, A1_build, A1_lits, A1_load, shallow_none, A1_store, A1_nilCheckI, nilOk_ptr, nilOk_func, A1_bin, A1_eqNil, A1_eqBool, A1_eqAgg, A1_un, A1_conv, A1_field, A1_fieldAddr, A1_indexAddr, A1_indexArr, A1_index, A1_slice, A1_mkSlice, A1_extract, A1_func, A1_call, callee_func, callee_bfunc, A1_append, A1_len, A1_minmax, put_some, put_none, upd_at, ev_tmp, ev_av, bin_lss, bin_leq, bin_gtr, bin_geq, bin_eql, bin_neq, bin_add, bin_sub, bin_mul, un_not, natOf_nat, Bool.not_eq_false', Prod.mk.injEq, and_assoc, decide_false, decide_true, Bool.not_false, Bool.not_true, Bool.true_eq_false, Bool.false_eq_true, exists_false, Bool.not_eq_false, Bool.not_not, AV.val.injEq, AV.ptr.injEq, AV.slice.injEq, AV.func.injEq, AV.tuple.injEq, AV.agg.injEq, Value.bool.injEq, Value.int.injEq, Option.some.injEq, exists_eq_left', exists_eq_left, exists_and_left, exists_and_right, and_true, true_and, decide_eq_true_eq, decide_eq_false_iff_not, if_true, if_false, Bool.not_eq_true', beq_true, beq_false, ne_eq, not_true_eq_false, not_false_eq_true, reduceCtorEq, List.getD_cons_zero, List.getD_cons_succ, List.map_cons, List.map_nil, List.append_nil, Nat.reduceEqDiff, reduceIte, ite_true, ite_false, or_true, true_or, or_false, false_or, resA, resultsA, true_imp_iff, false_imp_iff, implies_true, imp_false, and_self, imp_self, and_false, false_and, forall_const, cell_val, cell_ptr, cell_slice, cell_func, cell_hole, cells_agg, cells_val, cells_ptr, cells_slice, cells_func, cells_hole, cells_cell, List.length_cons, List.length_nil, List.all_cons, List.all_nil, Bool.and_self, ldA, List.mapM_cons, List.mapM_nil, Option.bind_eq_bind, Option.bind_some, Option.pure_def, Option.map_none, Option.map_some, List.set_cons_zero, List.set_cons_succ, Nat.lt_add_one, List.append_assoc, List.cons_append, List.nil_append, List.append_nil, List.length_append, rd1_n0, rd1_nK, rd1_c0, rd1_cS, rd_n0, rd_nK, rd_c0, rd_cS, fillA, List.take_zero, List.take_succ_cons, List.take_nil, List.drop_zero, List.drop_succ_cons, List.drop_nil, List.getElem?_cons_zero, List.getElem?_cons_succ, Nat.reduceAdd, Nat.reduceLeDiff, Nat.add_eq_zero_iff, and_self, Nat.zero_add, Nat.add_zero, Nat.mul_one, hl1, *]) | (simp only [goO, AO_nil, then_normal, goC]) | (with_reducible apply And.intro) | (with_reducible intro _))
  refine AW.named fun S hS => ?_
  have g3 : S 3 = .nil := by rw [hS]; rfl
  have g6 : S 6 = lv := by rw [hS]; rfl
  have g7 : S 7 = I64 sb.length := by rw [hS]; rfl
  have g8 : S 8 = I64 (0 : Nat) := by rw [hS]; rfl
  clear hS hl1
  refine AW_for sb.length (by omega) g8 g7 rfl rfl (by decide) (fun k s' h' => NewI h h' (s' 3) (riseTo sb k)) (by rw [g3]; exact New.nil h (Keep.refl _)) ?_ ?_
  · rintro k s' h' hk ho hi hl' hs
    have f6 := (hs 6 rfl).trans g6
    clear hs g3 g6 g7 g8
    obtain ⟨v, hv⟩ : ∃ v, v = s' 3 := ⟨_, rfl⟩
    rw [← hv] at ho
    have h3 := hv.symm
    clear hv
    obtain ⟨id, off, lb, ex, rfl, hlb, hrd⟩ := (hl.keep ho.kp (by simp)).at hk
    have hru := riseTo_succ sb k
    have hgd : sb.getD k false = sb[k] := by simp [hk]
    rw [hgd] at hru
    rw [hru]
    have hrl := riseTo_length sb k
    clear hru
    cases hb : sb[k] with
    | false =>
      rw [hb] at hrd
      repeat' (first | (simp only [AW_next, AW_ops, AW_opsD, AW_cond, AW_block, AW_exit, AW_ret, AW_skip, AW_scope, AO_nil, AO_next, AO_nextW, wantB_bool, wantK_some, then_normal, then_exit, then_ret, inBlk_normal, inBlk_exit, inBlk_ret, A1_mv, A1_pick, A1_box, A1_zero, A1_build, A1_lits, A1_load, shallow_none, A1_store, A1_nilCheckI, nilOk_ptr, nilOk_func, A1_bin, A1_eqNil, A1_eqBool, A1_eqAgg, A1_un, A1_conv, A1_field, A1_fieldAddr, A1_indexAddr, A1_indexArr, A1_index, A1_slice, A1_mkSlice, A1_extract, A1_func, A1_call, callee_func, callee_bfunc, A1_append, A1_len, A1_minmax, put_some, put_none, upd_at, ev_tmp, ev_av, bin_lss, bin_leq, bin_gtr, bin_geq, bin_eql, bin_neq, bin_add, bin_sub, bin_mul, un_not, natOf_nat, Bool.not_eq_false', Prod.mk.injEq, and_assoc, decide_false, decide_true, Bool.not_false, Bool.not_true, Bool.true_eq_false, Bool.false_eq_true, exists_false, Bool.not_eq_false, Bool.not_not, AV.val.injEq, AV.ptr.injEq, AV.slice.injEq, AV.func.injEq, AV.tuple.injEq, AV.agg.injEq, Value.bool.injEq, Value.int.injEq, Option.some.injEq, exists_eq_left', exists_eq_left, exists_and_left, exists_and_right, and_true, true_and, decide_eq_true_eq, decide_eq_false_iff_not, if_true, if_false, Bool.not_eq_true', beq_true, beq_false, ne_eq, not_true_eq_false, not_false_eq_true, reduceCtorEq, List.getD_cons_zero, List.getD_cons_succ, List.map_cons, List.map_nil, List.append_nil, Nat.reduceEqDiff, reduceIte, ite_true, ite_false, or_true, true_or, or_false, false_or, resA, resultsA, true_imp_iff, false_imp_iff, implies_true, imp_false, and_self, imp_self, and_false, false_and, forall_const, cell_val, cell_ptr, cell_slice, cell_func, cell_hole, cells_agg, cells_val, cells_ptr, cells_slice, cells_func, cells_hole, cells_cell, List.length_cons, List.length_nil, List.all_cons, List.all_nil, Bool.and_self, ldA, List.mapM_cons, List.mapM_nil, Option.bind_eq_bind, Option.bind_some, Option.pure_def, Option.map_none, Option.map_some, List.set_cons_zero, List.set_cons_succ, Nat.lt_add_one, List.append_assoc, List.cons_append, List.nil_append, List.append_nil, List.length_append, rd1_n0, rd1_nK, rd1_c0, rd1_cS, rd_n0, rd_nK, rd_c0, rd_cS, fillA, List.take_zero, List.take_succ_cons, List.take_nil, List.drop_zero, List.drop_succ_cons, List.drop_nil, List.getElem?_cons_zero, List.getElem?_cons_succ, Nat.reduceAdd, Nat.reduceLeDiff, Nat.add_eq_zero_iff, and_self, Nat.zero_add, Nat.add_zero, Nat.mul_one, hrd, natOf_nat, *]) | (simp only [goO, AO_nil, then_normal, goC]) | (with_reducible apply And.intro) | (with_reducible intro _))
    | true =>
      rw [hb] at hrd
      obtain ⟨v2, h2, hrow, hap, ho2⟩ := New.push (bytes := 8) ho hf (by unfold reach; omega) [I64 k] rfl
      have fin : NewI h h2 v2 (riseTo sb k ++ [(k : Int)]) := by unfold NewI; simpa using ho2
      clear hrl
      repeat' (first | (simp only [AW_next, AW_ops, AW_opsD, AW_cond, AW_block, AW_exit, AW_ret, AW_skip, AW_scope, AO_nil, AO_next, AO_nextW, wantB_bool, wantK_some, then_normal, then_exit, then_ret, inBlk_normal, inBlk_exit, inBlk_ret, A1_mv, A1_pick, A1_box, A1_zero, A1_build, A1_lits, A1_load, shallow_none, A1_store, A1_nilCheckI, nilOk_ptr, nilOk_func, A1_bin, A1_eqNil, A1_eqBool, A1_eqAgg, A1_un, A1_conv, A1_field, A1_fieldAddr, A1_indexAddr, A1_indexArr, A1_index, A1_slice, A1_mkSlice, A1_extract, A1_func, A1_call, callee_func, callee_bfunc, A1_append, A1_len, A1_minmax, put_some, put_none, upd_at, ev_tmp, ev_av, bin_lss, bin_leq, bin_gtr, bin_geq, bin_eql, bin_neq, bin_add, bin_sub, bin_mul, un_not, natOf_nat, Bool.not_eq_false', Prod.mk.injEq, and_assoc, decide_false, decide_true, Bool.not_false, Bool.not_true, Bool.true_eq_false, Bool.false_eq_true, exists_false, Bool.not_eq_false, Bool.not_not, AV.val.injEq, AV.ptr.injEq, AV.slice.injEq, AV.func.injEq, AV.tuple.injEq, AV.agg.injEq, Value.bool.injEq, Value.int.injEq, Option.some.injEq, exists_eq_left', exists_eq_left, exists_and_left, exists_and_right, and_true, true_and, decide_eq_true_eq, decide_eq_false_iff_not, if_true, if_false, Bool.not_eq_true', beq_true, beq_false, ne_eq, not_true_eq_false, not_false_eq_true, reduceCtorEq, List.getD_cons_zero, List.getD_cons_succ, List.map_cons, List.map_nil, List.append_nil, Nat.reduceEqDiff, reduceIte, ite_true, ite_false, or_true, true_or, or_false, false_or, resA, resultsA, true_imp_iff, false_imp_iff, implies_true, imp_false, and_self, imp_self, and_false, false_and, forall_const, cell_val, cell_ptr, cell_slice, cell_func, cell_hole, cells_agg, cells_val, cells_ptr, cells_slice, cells_func, cells_hole, cells_cell, List.length_cons, List.length_nil, List.all_cons, List.all_nil, Bool.and_self, ldA, List.mapM_cons, List.mapM_nil, Option.bind_eq_bind, Option.bind_some, Option.pure_def, Option.map_none, Option.map_some, List.set_cons_zero, List.set_cons_succ, Nat.lt_add_one, List.append_assoc, List.cons_append, List.nil_append, List.append_nil, List.length_append, rd1_n0, rd1_nK, rd1_c0, rd1_cS, rd_n0, rd_nK, rd_c0, rd_cS, fillA, List.take_zero, List.take_succ_cons, List.take_nil, List.drop_zero, List.drop_succ_cons, List.drop_nil, List.getElem?_cons_zero, List.getElem?_cons_succ, Nat.reduceAdd, Nat.reduceLeDiff, Nat.add_eq_zero_iff, and_self, Nat.zero_add, Nat.add_zero, Nat.mul_one, hrd, natOf_nat, hrow, hap, *]) | (simp only [goO, AO_nil, then_normal, goC]) | (with_reducible apply And.intro) | (with_reducible intro _))
  · rintro s' h' ho hs
    have fin := hK h' (s' 3) ho
    clear hs
    repeat' (first | (simp only [AW_next, AW_ops, AW_opsD, AW_cond, AW_block, AW_exit, AW_ret, AW_skip, AW_scope, AO_nil, AO_next, AO_nextW, wantB_bool, wantK_some, then_normal, then_exit, then_ret, inBlk_normal, inBlk_exit, inBlk_ret, A1_mv, A1_pick, A1_box, A1_zero, A1_build, A1_lits, A1_load, shallow_none, A1_store, A1_nilCheckI, nilOk_ptr, nilOk_func, A1_bin, A1_eqNil, A1_eqBool, A1_eqAgg, A1_un, A1_conv, A1_field, A1_fieldAddr, A1_indexAddr, A1_indexArr, A1_index, A1_slice, A1_mkSlice, A1_extract, A1_func, A1_call, callee_func, callee_bfunc, A1_append, A1_len, A1_minmax, put_some, put_none, upd_at, ev_tmp, ev_av, bin_lss, bin_leq, bin_gtr, bin_geq, bin_eql, bin_neq, bin_add, bin_sub, bin_mul, un_not, natOf_nat, Bool.not_eq_false', Prod.mk.injEq, and_assoc, decide_false, decide_true, Bool.not_false, Bool.not_true, Bool.true_eq_false, Bool.false_eq_true, exists_false, Bool.not_eq_false, Bool.not_not, AV.val.injEq, AV.ptr.injEq, AV.slice.injEq, AV.func.injEq, AV.tuple.injEq, AV.agg.injEq, Value.bool.injEq, Value.int.injEq, Option.some.injEq, exists_eq_left', exists_eq_left, exists_and_left, exists_and_right, and_true, true_and, decide_eq_true_eq, decide_eq_false_iff_not, if_true, if_false, Bool.not_eq_true', beq_true, beq_false, ne_eq, not_true_eq_false, not_false_eq_true, reduceCtorEq, List.getD_cons_zero, List.getD_cons_succ, List.map_cons, List.map_nil, List.append_nil, Nat.reduceEqDiff, reduceIte, ite_true, ite_false, or_true, true_or, or_false, false_or, resA, resultsA, true_imp_iff, false_imp_iff, implies_true, imp_false, and_self, imp_self, and_false, false_and, forall_const, cell_val, cell_ptr, cell_slice, cell_func, cell_hole, cells_agg, cells_val, cells_ptr, cells_slice, cells_func, cells_hole, cells_cell, List.length_cons, List.length_nil, List.all_cons, List.all_nil, Bool.and_self, ldA, List.mapM_cons, List.mapM_nil, Option.bind_eq_bind, Option.bind_some, Option.pure_def, Option.map_none, Option.map_some, List.set_cons_zero, List.set_cons_succ, Nat.lt_add_one, List.append_assoc, List.cons_append, List.nil_append, List.append_nil, List.length_append, rd1_n0, rd1_nK, rd1_c0, rd1_cS, rd_n0, rd_nK, rd_c0, rd_cS, fillA, List.take_zero, List.take_succ_cons, List.take_nil, List.drop_zero, List.drop_succ_cons, List.drop_nil, List.getElem?_cons_zero, List.getElem?_cons_succ, Nat.reduceAdd, Nat.reduceLeDiff, Nat.add_eq_zero_iff, and_self, Nat.zero_add, Nat.add_zero, Nat.mul_one, *]) | (simp only [goO, AO_nil, then_normal, goC]) | (with_reducible apply And.intro) | (with_reducible intro _))

theorem NewI.later {h h1 h2 : Heap} {v : AV} {l : List Int} (k : Keep h h1 []) (n : NewI h1 h2 v l) : NewI h h2 v l :=
  ⟨n.1, fun i hi => by have := n.2.1 i hi; have := k.1; omega, k.then n.2.2 (fun i hi => .inl hi) (fun i hi => .inl hi)⟩
theorem rising_live {has : List (List Int)} {ps : List (Int × Int)} {l : List Int} {sb : List Bool} (hl : sb.length = has.length) (h : LInv has ps l sb) (hp : ∀ p ∈ ps, Sn sb p.1.toNat → Sn sb p.2.toNat) : rising sb = liveL has ps l := by
  unfold liveL; rw [eq_liveSb hl (h.iff hp)]

theorem needed_am {v1 v2 : AV} {has : List (List Int)} {roots : List Int} (h1 : LL h v1 has) (h2 : IL h v2 roots) (hf : ∀ i, h.length ≤ i → fl i = true)
    (hK : ∀ h' v l, NewI h h' v l → (l = if checkE has roots = 0 then liveL has [] roots else []) → K (.tuple [v, I64 (checkE has roots)]) h') :
    AC (constX tb) (cFunc Try.prog) 13 [.agg [v1, v2]] fl h K := by
  refine AC.enter rfl f_wk_needed (by simp) ?_
  simp only [c_wk_needed]
  have hc1 := h1.cell
  have hc2 := h2.cell
  repeat' (first | (simp only [AW_next, AW_ops, AW_opsD, AW_cond, AW_block, AW_exit, AW_ret, AW_skip, AW_scope, AO_nil, AO_next, AO_nextW, wantB_bool, wantK_some, then_normal, then_exit, then_ret, inBlk_normal, inBlk_exit, inBlk_ret, A1_mv, A1_pick, A1_box, A1_zero, A1_build, A1_lits, A1_load, shallow_none, A1_store, A1_nilCheckI, nilOk_ptr, nilOk_func, A1_bin, A1_eqNil, A1_eqBool, A1_eqAgg, A1_un, A1_conv, A1_field, A1_fieldAddr, A1_indexAddr, A1_indexArr, A1_index, A1_slice, A1_mkSlice, A1_extract, A1_func, A1_call, callee_func, callee_bfunc, A1_append, A1_len, A1_minmax, put_some, put_none, upd_at, ev_tmp, ev_av, bin_lss, bin_leq, bin_gtr, bin_geq, bin_eql, bin_neq, bin_add, bin_sub, bin_mul, un_not, natOf_nat, Bool.not_eq_false', Prod.mk.injEq, and_assoc, decide_false, decide_true, Bool.not_false, Bool.not_true, Bool.true_eq_false, Bool.false_eq_true, exists_false, Bool.not_eq_false, Bool.not_not, AV.val.injEq, AV.ptr.injEq, AV.slice.injEq, AV.func.injEq, AV.tuple.injEq, AV.agg.injEq, Value.bool.injEq, Value.int.injEq, Option.some.injEq, exists_eq_left', exists_eq_left, exists_and_left, exists_and_right, and_true, true_and, decide_eq_true_eq, decide_eq_false_iff_not, if_true, if_false, Bool.not_eq_true', beq_true, beq_false, ne_eq, not_true_eq_false, not_false_eq_true, reduceCtorEq, List.getD_cons_zero, List.getD_cons_succ, List.map_cons, List.map_nil, List.append_nil, Nat.reduceEqDiff, reduceIte, ite_true, ite_false, or_true, true_or, or_false, false_or, resA, resultsA, true_imp_iff, false_imp_iff, implies_true, imp_false, and_self, imp_self, and_false, false_and, forall_const, cell_val, cell_ptr, cell_slice, cell_func, cell_hole, cells_agg, cells_val, cells_ptr, cells_slice, cells_func, cells_hole, cells_cell, List.length_cons, List.length_nil, List.all_cons, List.all_nil, Bool.and_self, ldA, List.mapM_cons, List.mapM_nil, Option.bind_eq_bind, Option.bind_some, Option.pure_def, Option.map_none, Option.map_some, List.set_cons_zero, List.set_cons_succ, Nat.lt_add_one, List.append_assoc, List.cons_append, List.nil_append, List.append_nil, List.length_append, rd1_n0, rd1_nK, rd1_c0, rd1_cS, rd_n0, rd_nK, rd_c0, rd_cS, fillA, List.take_zero, List.take_succ_cons, List.take_nil, List.drop_zero, List.drop_succ_cons, List.drop_nil, List.getElem?_cons_zero, List.getElem?_cons_succ, Nat.reduceAdd, Nat.reduceLeDiff, Nat.add_eq_zero_iff, and_self, Nat.zero_add, Nat.add_zero, Nat.mul_one, *]) | (simp only [goO, AO_nil, then_normal, goC]) | (with_reducible apply And.intro) | (with_reducible intro _))
  refine check_am (h1.ext _) (h2.ext _) fun e => ?_
  obtain ⟨H, hH⟩ : ∃ H, H = h ++ [some [v1, v2]] ++ e := ⟨_, rfl⟩
  have b0 : blk H h.length = some [v1, v2] := by rw [hH, List.append_assoc]; rw [blk_at0]; rfl
  have kH : Keep h H [] := by rw [hH, List.append_assoc]; exact Keep.ext _ _
  have hHl : h.length ≤ H.length := kH.1
  rw [← hH]
  clear hH
  have r0 : rd H h.length 0 2 = some [v1, v2] := rd_of b0 (by simp)
  by_cases hE : checkE has roots = 0
  · obtain ⟨e1, e2, e3, e4, e5⟩ := checkE_zero hE
    have h1' := h1.keep kH (by simp)
    have h2' := h2.keep kH (by simp)
    rw [hE] at hK ⊢
    clear hE
    rw [if_pos rfl] at hK
    repeat' (first | (simp only [AW_next, AW_ops, AW_opsD, AW_cond, AW_block, AW_exit, AW_ret, AW_skip, AW_scope, AO_nil, AO_next, AO_nextW, wantB_bool, wantK_some, then_normal, then_exit, then_ret, inBlk_normal, inBlk_exit, inBlk_ret, A1_mv, A1_pick, A1_box, A1_zero, A1_build, A1_lits, A1_load, shallow_none, A1_store, A1_nilCheckI, nilOk_ptr, nilOk_func, A1_bin, A1_eqNil, A1_eqBool, A1_eqAgg, A1_un, A1_conv, A1_field, A1_fieldAddr, A1_indexAddr, A1_indexArr, A1_index, A1_slice, A1_mkSlice, A1_extract, A1_func, A1_call, callee_func, callee_bfunc, A1_append, A1_len, A1_minmax, put_some, put_none, upd_at, ev_tmp, ev_av, bin_lss, bin_leq, bin_gtr, bin_geq, bin_eql, bin_neq, bin_add, bin_sub, bin_mul, un_not, natOf_nat, Bool.not_eq_false', Prod.mk.injEq, and_assoc, decide_false, decide_true, Bool.not_false, Bool.not_true, Bool.true_eq_false, Bool.false_eq_true, exists_false, Bool.not_eq_false, Bool.not_not, AV.val.injEq, AV.ptr.injEq, AV.slice.injEq, AV.func.injEq, AV.tuple.injEq, AV.agg.injEq, Value.bool.injEq, Value.int.injEq, Option.some.injEq, exists_eq_left', exists_eq_left, exists_and_left, exists_and_right, and_true, true_and, decide_eq_true_eq, decide_eq_false_iff_not, if_true, if_false, Bool.not_eq_true', beq_true, beq_false, ne_eq, not_true_eq_false, not_false_eq_true, reduceCtorEq, List.getD_cons_zero, List.getD_cons_succ, List.map_cons, List.map_nil, List.append_nil, Nat.reduceEqDiff, reduceIte, ite_true, ite_false, or_true, true_or, or_false, false_or, resA, resultsA, true_imp_iff, false_imp_iff, implies_true, imp_false, and_self, imp_self, and_false, false_and, forall_const, cell_val, cell_ptr, cell_slice, cell_func, cell_hole, cells_agg, cells_val, cells_ptr, cells_slice, cells_func, cells_hole, cells_cell, List.length_cons, List.length_nil, List.all_cons, List.all_nil, Bool.and_self, ldA, List.mapM_cons, List.mapM_nil, Option.bind_eq_bind, Option.bind_some, Option.pure_def, Option.map_none, Option.map_some, List.set_cons_zero, List.set_cons_succ, Nat.lt_add_one, List.append_assoc, List.cons_append, List.nil_append, List.append_nil, List.length_append, rd1_n0, rd1_nK, rd1_c0, rd1_cS, rd_n0, rd_nK, rd_c0, rd_cS, fillA, List.take_zero, List.take_succ_cons, List.take_nil, List.drop_zero, List.drop_succ_cons, List.drop_nil, List.getElem?_cons_zero, List.getElem?_cons_succ, Nat.reduceAdd, Nat.reduceLeDiff, Nat.add_eq_zero_iff, and_self, Nat.zero_add, Nat.add_zero, Nat.mul_one, rd1_of b0, r0, *]) | (simp only [goO, AO_nil, then_normal, goC]) | (with_reducible apply And.intro) | (with_reducible intro _))
    refine from_am h1' hc2 h2' e1 (fun l hl => by have := e3 l hl; omega) (by omega) e4 e5 (fun i hi => hf i (by omega)) fun h3 sv sb q1 q2 q3 q4 => ?_
    have hf3 : ∀ i, h3.length ≤ i → fl i = true := fun i hi => hf i (by have := q4.1; omega)
    have hgo := fun (K2 : AV → Heap → Prop) (k2 : _) => rising_am (tb := tb) (K := K2) q1 (by omega) hf3 k2
    have hri := rising_live q2 q3 (by simp)
    clear q2
    repeat' (first | (simp only [AW_next, AW_ops, AW_opsD, AW_cond, AW_block, AW_exit, AW_ret, AW_skip, AW_scope, AO_nil, AO_next, AO_nextW, wantB_bool, wantK_some, then_normal, then_exit, then_ret, inBlk_normal, inBlk_exit, inBlk_ret, A1_mv, A1_pick, A1_box, A1_zero, A1_build, A1_lits, A1_load, shallow_none, A1_store, A1_nilCheckI, nilOk_ptr, nilOk_func, A1_bin, A1_eqNil, A1_eqBool, A1_eqAgg, A1_un, A1_conv, A1_field, A1_fieldAddr, A1_indexAddr, A1_indexArr, A1_index, A1_slice, A1_mkSlice, A1_extract, A1_func, A1_call, callee_func, callee_bfunc, A1_append, A1_len, A1_minmax, put_some, put_none, upd_at, ev_tmp, ev_av, bin_lss, bin_leq, bin_gtr, bin_geq, bin_eql, bin_neq, bin_add, bin_sub, bin_mul, un_not, natOf_nat, Bool.not_eq_false', Prod.mk.injEq, and_assoc, decide_false, decide_true, Bool.not_false, Bool.not_true, Bool.true_eq_false, Bool.false_eq_true, exists_false, Bool.not_eq_false, Bool.not_not, AV.val.injEq, AV.ptr.injEq, AV.slice.injEq, AV.func.injEq, AV.tuple.injEq, AV.agg.injEq, Value.bool.injEq, Value.int.injEq, Option.some.injEq, exists_eq_left', exists_eq_left, exists_and_left, exists_and_right, and_true, true_and, decide_eq_true_eq, decide_eq_false_iff_not, if_true, if_false, Bool.not_eq_true', beq_true, beq_false, ne_eq, not_true_eq_false, not_false_eq_true, reduceCtorEq, List.getD_cons_zero, List.getD_cons_succ, List.map_cons, List.map_nil, List.append_nil, Nat.reduceEqDiff, reduceIte, ite_true, ite_false, or_true, true_or, or_false, false_or, resA, resultsA, true_imp_iff, false_imp_iff, implies_true, imp_false, and_self, imp_self, and_false, false_and, forall_const, cell_val, cell_ptr, cell_slice, cell_func, cell_hole, cells_agg, cells_val, cells_ptr, cells_slice, cells_func, cells_hole, cells_cell, List.length_cons, List.length_nil, List.all_cons, List.all_nil, Bool.and_self, ldA, List.mapM_cons, List.mapM_nil, Option.bind_eq_bind, Option.bind_some, Option.pure_def, Option.map_none, Option.map_some, List.set_cons_zero, List.set_cons_succ, Nat.lt_add_one, List.append_assoc, List.cons_append, List.nil_append, List.append_nil, List.length_append, rd1_n0, rd1_nK, rd1_c0, rd1_cS, rd_n0, rd_nK, rd_c0, rd_cS, fillA, List.take_zero, List.take_succ_cons, List.take_nil, List.drop_zero, List.drop_succ_cons, List.drop_nil, List.getElem?_cons_zero, List.getElem?_cons_succ, Nat.reduceAdd, Nat.reduceLeDiff, Nat.add_eq_zero_iff, and_self, Nat.zero_add, Nat.add_zero, Nat.mul_one, *]) | (simp only [goO, AO_nil, then_normal, goC]) | (with_reducible apply And.intro) | (with_reducible intro _))
    refine hgo _ fun h4 v q5 => ?_
    have fin := hK h4 v (rising sb) ((q5.later q4).later kH) hri
    clear hgo hK
    repeat' (first | (simp only [AW_next, AW_ops, AW_opsD, AW_cond, AW_block, AW_exit, AW_ret, AW_skip, AW_scope, AO_nil, AO_next, AO_nextW, wantB_bool, wantK_some, then_normal, then_exit, then_ret, inBlk_normal, inBlk_exit, inBlk_ret, A1_mv, A1_pick, A1_box, A1_zero, A1_build, A1_lits, A1_load, shallow_none, A1_store, A1_nilCheckI, nilOk_ptr, nilOk_func, A1_bin, A1_eqNil, A1_eqBool, A1_eqAgg, A1_un, A1_conv, A1_field, A1_fieldAddr, A1_indexAddr, A1_indexArr, A1_index, A1_slice, A1_mkSlice, A1_extract, A1_func, A1_call, callee_func, callee_bfunc, A1_append, A1_len, A1_minmax, put_some, put_none, upd_at, ev_tmp, ev_av, bin_lss, bin_leq, bin_gtr, bin_geq, bin_eql, bin_neq, bin_add, bin_sub, bin_mul, un_not, natOf_nat, Bool.not_eq_false', Prod.mk.injEq, and_assoc, decide_false, decide_true, Bool.not_false, Bool.not_true, Bool.true_eq_false, Bool.false_eq_true, exists_false, Bool.not_eq_false, Bool.not_not, AV.val.injEq, AV.ptr.injEq, AV.slice.injEq, AV.func.injEq, AV.tuple.injEq, AV.agg.injEq, Value.bool.injEq, Value.int.injEq, Option.some.injEq, exists_eq_left', exists_eq_left, exists_and_left, exists_and_right, and_true, true_and, decide_eq_true_eq, decide_eq_false_iff_not, if_true, if_false, Bool.not_eq_true', beq_true, beq_false, ne_eq, not_true_eq_false, not_false_eq_true, reduceCtorEq, List.getD_cons_zero, List.getD_cons_succ, List.map_cons, List.map_nil, List.append_nil, Nat.reduceEqDiff, reduceIte, ite_true, ite_false, or_true, true_or, or_false, false_or, resA, resultsA, true_imp_iff, false_imp_iff, implies_true, imp_false, and_self, imp_self, and_false, false_and, forall_const, cell_val, cell_ptr, cell_slice, cell_func, cell_hole, cells_agg, cells_val, cells_ptr, cells_slice, cells_func, cells_hole, cells_cell, List.length_cons, List.length_nil, List.all_cons, List.all_nil, Bool.and_self, ldA, List.mapM_cons, List.mapM_nil, Option.bind_eq_bind, Option.bind_some, Option.pure_def, Option.map_none, Option.map_some, List.set_cons_zero, List.set_cons_succ, Nat.lt_add_one, List.append_assoc, List.cons_append, List.nil_append, List.append_nil, List.length_append, rd1_n0, rd1_nK, rd1_c0, rd1_cS, rd_n0, rd_nK, rd_c0, rd_cS, fillA, List.take_zero, List.take_succ_cons, List.take_nil, List.drop_zero, List.drop_succ_cons, List.drop_nil, List.getElem?_cons_zero, List.getElem?_cons_succ, Nat.reduceAdd, Nat.reduceLeDiff, Nat.add_eq_zero_iff, and_self, Nat.zero_add, Nat.add_zero, Nat.mul_one, *]) | (simp only [goO, AO_nil, then_normal, goC]) | (with_reducible apply And.intro) | (with_reducible intro _))
    all_goals trace_state
  · obtain ⟨E, eE⟩ : ∃ E, E = checkE has roots := ⟨_, rfl⟩
    rw [← eE] at hE hK ⊢
    have fin := hK H .nil [] (New.nil h kH) (by rw [if_neg hE])
    clear hK eE
    repeat' (first | (simp only [AW_next, AW_ops, AW_opsD, AW_cond, AW_block, AW_exit, AW_ret, AW_skip, AW_scope, AO_nil, AO_next, AO_nextW, wantB_bool, wantK_some, then_normal, then_exit, then_ret, inBlk_normal, inBlk_exit, inBlk_ret, A1_mv, A1_pick, A1_box, A1_zero, A1_build, A1_lits, A1_load, shallow_none, A1_store, A1_nilCheckI, nilOk_ptr, nilOk_func, A1_bin, A1_eqNil, A1_eqBool, A1_eqAgg, A1_un, A1_conv, A1_field, A1_fieldAddr, A1_indexAddr, A1_indexArr, A1_index, A1_slice, A1_mkSlice, A1_extract, A1_func, A1_call, callee_func, callee_bfunc, A1_append, A1_len, A1_minmax, put_some, put_none, upd_at, ev_tmp, ev_av, bin_lss, bin_leq, bin_gtr, bin_geq, bin_eql, bin_neq, bin_add, bin_sub, bin_mul, un_not, natOf_nat, Bool.not_eq_false', Prod.mk.injEq, and_assoc, decide_false, decide_true, Bool.not_false, Bool.not_true, Bool.true_eq_false, Bool.false_eq_true, exists_false, Bool.not_eq_false, Bool.not_not, AV.val.injEq, AV.ptr.injEq, AV.slice.injEq, AV.func.injEq, AV.tuple.injEq, AV.agg.injEq, Value.bool.injEq, Value.int.injEq, Option.some.injEq, exists_eq_left', exists_eq_left, exists_and_left, exists_and_right, and_true, true_and, decide_eq_true_eq, decide_eq_false_iff_not, if_true, if_false, Bool.not_eq_true', beq_true, beq_false, ne_eq, not_true_eq_false, not_false_eq_true, reduceCtorEq, List.getD_cons_zero, List.getD_cons_succ, List.map_cons, List.map_nil, List.append_nil, Nat.reduceEqDiff, reduceIte, ite_true, ite_false, or_true, true_or, or_false, false_or, resA, resultsA, true_imp_iff, false_imp_iff, implies_true, imp_false, and_self, imp_self, and_false, false_and, forall_const, cell_val, cell_ptr, cell_slice, cell_func, cell_hole, cells_agg, cells_val, cells_ptr, cells_slice, cells_func, cells_hole, cells_cell, List.length_cons, List.length_nil, List.all_cons, List.all_nil, Bool.and_self, ldA, List.mapM_cons, List.mapM_nil, Option.bind_eq_bind, Option.bind_some, Option.pure_def, Option.map_none, Option.map_some, List.set_cons_zero, List.set_cons_succ, Nat.lt_add_one, List.append_assoc, List.cons_append, List.nil_append, List.append_nil, List.length_append, rd1_n0, rd1_nK, rd1_c0, rd1_cS, rd_n0, rd_nK, rd_c0, rd_cS, fillA, List.take_zero, List.take_succ_cons, List.take_nil, List.drop_zero, List.drop_succ_cons, List.drop_nil, List.getElem?_cons_zero, List.getElem?_cons_succ, Nat.reduceAdd, Nat.reduceLeDiff, Nat.add_eq_zero_iff, and_self, Nat.zero_add, Nat.add_zero, Nat.mul_one, rd1_of b0, r0, *]) | (simp only [goO, AO_nil, then_normal, goC]) | (with_reducible apply And.intro) | (with_reducible intro _))
    all_goals trace_state
end Go.Proofs.Ytfmllmcjinjfaaa

namespace Go.Proofs.Ytfmllmcjinjfaaa
open Go Go.RowKit
set_option linter.unusedVariables false
set_option linter.unusedSimpArgs false
variable {tb : List (FuncId × Bool)} {L : Nat → Bool} {H : ZH} {K : ZV → ZH → Prop}

theorem hasint_z {z : ZV} {l : List Int} {x : Int} (hz : rowsZ H 1 z = some (l.map eI)) (hb : l.length ≤ 1000000) (hK : K (ZBo (decide (x ∈ l))) H) :
    ZC (constX tb) (cFunc Try.prog) 15 [z, Z64 x] L H K := by
  refine ZC.enter Gh.no constX_none f_r_hasint (by simp) ?_
  simp only [c_r_hasint]
  have hlen := rows_len hz
  rw [List.length_map] at hlen
  repeat' (first | (simp only [zmPack, zxPack, ne_eq, zfree, owners, Nat.reduceLT, List.contains_cons, List.contains_nil, Nat.reduceBEq, BEq.rfl, chunk, setAt, List.lookup_cons, List.lookup_nil, reduceCtorEq, Nat.reduceEqDiff, reduceIte, implies_true, forall_const, Nat.reduceMul, Nat.reduceSub, Nat.reduceAdd, Nat.reduceLeDiff, hlen, *]) | (simp only [zgoO, zgoG, zO_nil, zthen_normal, zgoC]) | (with_reducible apply And.intro) | (with_reducible intro _))
  refine zW_forK [(1, Z64 x), (7, z)] l.length (fun k s' h' => h' = H ∧ x ∉ l.take k) (by omega) ⟨rfl, rfl, rfl, rfl, rfl, rfl⟩ rfl rfl (by repeat' (first | exact trivial | (refine ⟨rfl, ?_⟩) | (refine ⟨by simp only [zupd_at, Nat.reduceEqDiff, reduceIte]; assumption, ?_⟩))) rfl rfl (by decide) ⟨rfl, by simp⟩ ?_ ?_
  · rintro k s' h' hk ⟨rfl, hno⟩ hi hl ⟨f1, f7, -⟩
    obtain ⟨p, hp, hld⟩ := rows_at hz hk
    by_cases he : x = l[k]
    · have hy : decide (x ∈ l) = true := decide_eq_true (by rw [he]; exact List.getElem_mem _)
      rw [hy] at hK
      rw [← he] at hld
      clear he hy
      have fin := Fin.keep (H0 := h') hK
      repeat' (first | (simp only [zmPack, zxPack, ne_eq, zfree, owners, Nat.reduceLT, List.contains_cons, List.contains_nil, Nat.reduceBEq, BEq.rfl, chunk, setAt, List.lookup_cons, List.lookup_nil, reduceCtorEq, Nat.reduceEqDiff, reduceIte, implies_true, forall_const, Nat.reduceMul, Nat.reduceSub, Nat.reduceAdd, Nat.reduceLeDiff, hp, hld, *]) | (simp only [zgoO, zgoG, zO_nil, zthen_normal, zgoC]) | (with_reducible apply And.intro) | (with_reducible intro _))
    · have fin : x ∉ l.take (k + 1) := by
        rw [List.take_succ_eq_append_getElem hk]
        simp only [List.mem_append, List.mem_singleton, not_or]
        exact ⟨hno, he⟩
      clear hno
      repeat' (first | (simp only [zmPack, zxPack, ne_eq, zfree, owners, Nat.reduceLT, List.contains_cons, List.contains_nil, Nat.reduceBEq, BEq.rfl, chunk, setAt, List.lookup_cons, List.lookup_nil, reduceCtorEq, Nat.reduceEqDiff, reduceIte, implies_true, forall_const, Nat.reduceMul, Nat.reduceSub, Nat.reduceAdd, Nat.reduceLeDiff, hp, hld, *]) | (simp only [zgoO, zgoG, zO_nil, zthen_normal, zgoC]) | (with_reducible apply And.intro) | (with_reducible intro _))
  · rintro s' h' ⟨rfl, hno⟩ ⟨f1, f7, -⟩
    rw [List.take_of_length_le (Nat.le_refl _)] at hno
    have hy : decide (x ∈ l) = false := decide_eq_false hno
    rw [hy] at hK
    have fin := Fin.keep (H0 := h') hK
    clear hno hy
    repeat' (first | (simp only [zmPack, zxPack, ne_eq, zfree, owners, Nat.reduceLT, List.contains_cons, List.contains_nil, Nat.reduceBEq, BEq.rfl, chunk, setAt, List.lookup_cons, List.lookup_nil, reduceCtorEq, Nat.reduceEqDiff, reduceIte, implies_true, forall_const, Nat.reduceMul, Nat.reduceSub, Nat.reduceAdd, Nat.reduceLeDiff, *]) | (simp only [zgoO, zgoG, zO_nil, zthen_normal, zgoC]) | (with_reducible apply And.intro) | (with_reducible intro _))
end Go.Proofs.Ytfmllmcjinjfaaa

namespace Go.Proofs.Ytfmllmcjinjfaaa
open Go Go.RowKit
set_option linter.unusedVariables false
set_option linter.unusedSimpArgs false
variable {tb : List (FuncId × Bool)} {L : Nat → Bool} {H : ZH} {K : ZV → ZH → Prop}
end Go.Proofs.Ytfmllmcjinjfaaa
