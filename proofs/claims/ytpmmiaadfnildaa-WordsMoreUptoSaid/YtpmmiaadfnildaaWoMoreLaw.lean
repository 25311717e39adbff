/-
  Proved: WHERE WHAT IT READS IS OF BULK AT MOST 1048576 the law WordsMore answers true: a cell with a value behind all has one word more; with a frame more at least eight.
-/
import Derived.Test.YtpmmiaadfnildaaWoMore
import Derived.Test.YtpmmiaadfnildaaUpto
namespace Go.Proofs.Ytpmmiaadfnildaa
open Go Go.RowKit Go.ChangeShapes Go.WideShapes Go.ChangeAt
set_option linter.unusedVariables false
set_option linter.unusedSimpArgs false

theorem len_sum {α : Type} (f : α → Nat) (h : ∀ x, 1 ≤ f x) (l : List α) : l.length ≤ (l.map f).sum := by
  induction l with
  | nil => simp
  | cons x r ih => have := h x; simp only [List.length_cons, List.map_cons, List.sum_cons]; omega
abbrev tyV : Ty := .prod (.int .i64) (.int .i64)
abbrev tyF : Ty := .prod (.int .i64) (.prod (.int .i64) (.prod (.int .i64) (.prod (.int .i64) (.prod tyV (.prod (.slice 16 tyV) (.slice 16 tyV))))))
abbrev tyC : Ty := .prod (.int .i64) (.prod (.int .i64) (.prod (.slice 16 tyV) (.slice 96 tyF)))
theorem cntC {c : tyC.val} {N : Nat} (h : cnt tyC c ≤ N) : c.2.2.1.length ≤ N ∧ c.2.2.2.length ≤ N := by
  have h1 := len_sum (cnt tyV) (fun x => by simp [cnt]) c.2.2.1
  have h2 := len_sum (cnt tyF) (fun x => by simp only [cnt]; omega) c.2.2.2
  simp only [cnt] at h h1 h2
  constructor <;> omega

set_option maxRecDepth 100000 in
theorem wordsmore_lifted (os : Os) (started : os.Started) (H : Type) (enc : TypeId × Value → H) (F : Stop.Interp) :
    ReturnsInHanded {} Try.checked os 3 .any ((Rows.OpenSpec.upto Rows.wordsMoreSpec).pre6 enc Try.prog Try.f3 Rows.wordsMoreUptoRow.domain false) (((Rows.OpenSpec.upto Rows.wordsMoreSpec).at F).post enc Try.prog Try.f3 false true false false) := by
  refine law_lifted_upto (C := Try.checked) 12 [(true, tyC), (true, tyV), (true, tyF)] 4 Try.own Try.laidOut started (by kernel_rfl) Try.func3
    (OpenSpec.witness (enc := enc) (C := Try.checked) (s := Rows.OpenSpec.upto Rows.wordsMoreSpec) (k := Rows.uptoSmall) rfl false ⟨#[], #[.agg #[.int .i64 0, .int .i64 0, .slice none 0 0, .slice none 0 0], .agg #[.int .i64 0, .int .i64 0], .agg #[.int .i64 0, .int .i64 0, .int .i64 0, .int .i64 0, .int .i64 0, .int .i64 0, .slice none 0 0, .slice none 0 0]], []⟩ 8 (by kernel_rfl) (by kernel_rfl) (by kernel_rfl)
      (x := ([.agg [.lit (.int .i64 0), .lit (.int .i64 0), .nil, .nil], .agg [.lit (.int .i64 0), .lit (.int .i64 0)], .agg [.lit (.int .i64 0), .lit (.int .i64 0), .lit (.int .i64 0), .lit (.int .i64 0), .agg [.lit (.int .i64 0), .lit (.int .i64 0)], .nil, .nil]], [], [])) (by kernel_rfl) (by kernel_rfl) (by kernel_rfl))
    rfl (by kernel_rfl) Try.underlying4 (fun ds h => ?_) (by kernel_rfl) (by kernel_rfl) (fun W args h => ?_) F
  · match ds, h with
    | [d0, d1, d2], _ => rfl
  · refine zm_walk (by kernel_rfl) (boxX_ok (constX_ok (n := 100) (F := cFunc Try.prog) (by kernel_rfl) (fun f af h => h) tbO (by intro p hp; rw [List.mem_singleton.1 hp]; kernel_rfl))) (fun f af h => h) rfl (fun zl hz => ?_) W args h
    obtain ⟨c, _, rfl, hc, sc, v, _, rfl, hv, sv, f, _, rfl, hf, sf, rfl⟩ := hz
    have hl := cntC sc.2
    exact wordsmore_z (kd := c.1) (nm := c.2.1) (vals := c.2.2.1) (fs := c.2.2.2) (v1 := v.1) (v2 := v.2) (f := f) (by omega) (by omega)
theorem wordsmore_holds : Rows.WordsMoreUptoSaid :=
  OpenClaim.holds_of_cond 3 Try.f3 rfl rfl rfl rfl rfl rfl rfl ⟨rfl, rfl, rfl, rfl, rfl⟩ rfl rfl rfl rfl rfl (by kernel_rfl) Try.func3 (by kernel_rfl) (of_decide_eq_true (by kernel_rfl)) (by unfold Func.isWrapper; first | (rw [if_pos (by decide +kernel)]; kernel_rfl) | (rw [if_neg (by decide +kernel)]; exact ⟨rfl, rfl⟩))
    (fun os started H enc _ F => wordsmore_lifted os started H enc F)
end Go.Proofs.Ytpmmiaadfnildaa
