/-
  What the reference's Odd says.
-/
import Derived.Test.YtbomhdgodiojhabBase
namespace Go.Proofs.Ytbomhdgodiojhab
open Go.RowKit
set_option linter.unusedVariables false
set_option linter.unusedSimpArgs false
def oddB (u : Int) : Bool := decide (u / 4503599627370496 % 2048 = 2047 ∧ u % 4503599627370496 ≠ 0)
set_option maxHeartbeats 400000 in
theorem odd_any (u : Int) (w : World) (h0 : 0 ≤ u) (h1 : u < 18446744073709551616) :
    Calls Try.prog 10 #[.int .u64 u] w fun e w' => e = .returned (.bool (oddB u)) ∧ w = w' := by
  have hq : Hid (IntKind.u64.wrap (u * 4096) = u % 4503599627370496 * 4096) := by show _ = _; simp only [IntKind.wrap_u64]; omega
  go_enter Try.func10, Try.ntmps10
  go_wp2
  all_goals go_ret
  · exact ⟨ret_bool (by rw [hq.out]; have : u / 4503599627370496 % 2048 = 2047 := by assumption
                        rw [Bool.eq_iff_iff]; simp [oddB, this]), rfl⟩
  · exact ⟨ret_bool (by have : ¬ u / 4503599627370496 % 2048 = 2047 := by assumption
                        simp [oddB, this]), rfl⟩
end Go.Proofs.Ytbomhdgodiojhab
