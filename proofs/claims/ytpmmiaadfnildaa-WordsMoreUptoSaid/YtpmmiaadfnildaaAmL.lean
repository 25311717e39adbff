/-
  AM and the program's machine: a region that draws its order.
-/
import Derived.Test.YtpmmiaadfnildaaAmK
namespace Go.Proofs.Ytpmmiaadfnildaa
open Go
set_option linter.unusedVariables false
set_option linter.unusedSimpArgs false
section
variable {P : Program}

theorem pure_heap {top} {fl : Nat → Bool} {s : Slots} {h h' : Heap} {x : AOp} {v : AV} (hx : clsA x = 0) (he : opEval top fl s h x = some (v, h')) : h' = h ∧ ∀ fl2 h2, opEval top fl2 s h2 x = some (v, h2) := by
  cases x <;> first | (simp [clsA] at hx; done) | skip
  all_goals (simp only [opEval] at he ⊢)
  all_goals (try (cases he; done))
  all_goals (repeat' split at he)
  all_goals (try (cases he; done))
  all_goals (injection he with he; injection he with he1 he2; subst he1; subst he2; refine ⟨rfl, fun fl2 h2 => ?_⟩; first | rfl | (simp only [*]; done) | (simp [*]; done))

theorem alloc_heap {top} {fl : Nat → Bool} {s : Slots} {h h' : Heap} {x : AOp} {v : AV} (hx : clsA x = 2) (he : opEval top fl s h x = some (v, h')) : ∃ l, h' = h ++ [some l] ∧ ∀ (fl2 : Nat → Bool) (h2 : Heap), h2.length = h.length → opEval top fl2 s h2 x = some (v, h2 ++ [some l]) := by
  cases x <;> first | (simp [clsA] at hx; done) | skip
  all_goals (simp only [opEval] at he ⊢)
  all_goals (repeat' split at he)
  all_goals (try (cases he; done))
  all_goals (injection he with he; injection he with he1 he2; subst he1; subst he2; exact ⟨_, rfl, fun fl2 h2 h3 => by simp [*]⟩)

theorem load_heap {top} {fl : Nat → Bool} {s : Slots} {h h' : Heap} {n : Option Nat} {x : Opd} {v : AV} (he : opEval top fl s h (.load n x) = some (v, h')) :
    h' = h ∧ ∃ id off l, x.ev s = .ptr id off ∧ shallowOk top id = true ∧ blk h id = some l ∧ ∀ fl2 h2, blk h2 id = some l → opEval top fl2 s h2 (.load n x) = some (v, h2) := by
  simp only [opEval] at he ⊢
  split at he
  · rename_i id off hp
    split at he
    · rename_i hs
      split at he
      · split at he
        · rename_i cs hcs
          injection he with he; injection he with he1 he2; subst he1; subst he2
          unfold rd at hcs
          split at hcs
          · rename_i l hl
            refine ⟨rfl, id, off, l, hp, hs, hl, fun fl2 h2 h3 => ?_⟩
            simp only [hs, if_true, rd, h3, hcs]
          · cases hcs
        · cases he
      · split at he
        · rename_i u hu
          injection he with he; injection he with he1 he2; subst he1; subst he2
          unfold rd1 at hu
          split at hu
          · rename_i l hl
            refine ⟨rfl, id, off, l, hp, hs, hl, fun fl2 h2 h3 => ?_⟩
            simp only [hs, if_true, rd1, h3, hu]
          · cases hu
        · cases he
    · cases he
  · cases he

inductive Reach (ops : Array Oper) : Nat → Nat → Prop where
  | base {e k : Nat} {O : Oper} (h : ops[k]? = some O) (he : e ∈ edges O) : Reach ops e k
  | step {i e k : Nat} {O : Oper} (h : ops[k]? = some O) (he : e ∈ edges O) (hr : Reach ops i e) : Reach ops i k

def Ord (ops : Array Oper) (i k : Nat) : Prop := if i < k then Reach ops i k else Reach ops k i

theorem ancs_go (ops : Array Oper) : ∀ (l : List Oper) (acc : List (List Nat)), ops.toList.drop acc.length = l → (∀ k i, i ∈ acc.getD k [] → Reach ops i k) →
    ∀ k i, i ∈ (l.foldl (fun acc o => acc ++ [((edges o).flatMap fun e => e :: acc.getD e [])]) acc).getD k [] → Reach ops i k
  | [], acc, _, h, k, i, hi => h k i hi
  | o :: l, acc, hl, h, k, i, hi => by
    have ho : ops[acc.length]? = some o := by
      have : (ops.toList.drop acc.length)[0]? = some o := by rw [hl]; rfl
      simpa [List.getElem?_drop] using this
    refine ancs_go ops l (acc ++ [((edges o).flatMap fun e => e :: acc.getD e [])]) ?_ ?_ k i hi
    · have : ops.toList.drop (acc.length + 1) = l := by rw [← List.drop_drop, hl]; rfl
      simpa using this
    · intro k i hi
      by_cases hk : k < acc.length
      · refine h k i ?_
        simpa [List.getD, List.getElem?_append_left hk] using hi
      · by_cases hk2 : k = acc.length
        · subst hk2
          simp only [List.getD, List.getElem?_append_right (Nat.le_refl _), Nat.sub_self, List.getElem?_cons_zero, Option.getD_some, List.mem_flatMap, List.mem_cons] at hi
          obtain ⟨e, he, hi⟩ := hi
          rcases hi with rfl | hi
          · exact .base ho he
          · exact .step ho he (h e i hi)
        · rw [List.getD, List.getElem?_eq_none (by simp; omega)] at hi
          simp at hi

theorem ordered_spec {ops : Array Oper} {i k : Nat} (h : ordered (ancs ops.toList) i k = true) : Ord ops i k := by
  unfold ordered at h
  unfold Ord
  have key := ancs_go ops ops.toList [] (by simp) (fun k i hi => by simp at hi)
  split at h
  · rename_i hlt; rw [if_pos hlt]; exact key k i (by simpa [ancs] using h)
  · rename_i hlt; rw [if_neg hlt]; exact key i k (by simpa [ancs] using h)

def cl (ops : Array Oper) (i : Nat) : Nat := match ops[i]? with
  | some O => clsOp O.op
  | none => 0

structure Draw (ops : Array Oper) (l : List AOper) : Prop where
  edge : ∀ (k : Nat) O, ops[k]? = some O → ∀ e ∈ edges O, e < k
  data : ∀ (k i : Nat) O p d, ops[k]? = some O → ops[i]? = some p → i ≠ k → p.dst = some d → O.dst ≠ some d ∧ (d ∈ looks ops O → Ord ops i k)
  heavy : ∀ (k i : Nat), i ≠ k → cl ops k = 3 → cl ops i = 3 → Ord ops i k
  iso : ∀ (k : Nat) o, l[k]? = some o → o.iso = true → ∀ i, i ≠ k → (cl ops k = 1 → cl ops i = 3 → Ord ops i k) ∧ (cl ops k = 3 → cl ops i = 1 → Ord ops i k)

theorem Reach.lt {ops : Array Oper} (hE : ∀ (k : Nat) O, ops[k]? = some O → ∀ e ∈ edges O, e < k) {i k : Nat} (h : Reach ops i k) : i < k := by
  induction h with
  | base h he => exact hE _ _ h _ he
  | step h he hr ih => exact Nat.lt_trans ih (hE _ _ h _ he)

theorem Reach.closed {ops : Array Oper} {L : Nat → Prop} (hL : ∀ (k : Nat) O, ops[k]? = some O → L k → ∀ e ∈ edges O, L e) {i k : Nat} (h : Reach ops i k) : L k → L i := by
  induction h with
  | base h he => exact fun hk => hL _ _ h hk _ he
  | step h he hr ih => exact fun hk => ih (hL _ _ h hk _ he)
theorem Reach.ready {ops : Array Oper} {L : Nat → Prop} (hL : ∀ (k : Nat) O, ops[k]? = some O → L k → ∀ e ∈ edges O, L e) {i k : Nat} (h : Reach ops i k) (hk : ∀ O, ops[k]? = some O → ∀ e ∈ edges O, L e) : L i := by
  cases h with
  | base h he => exact hk _ h _ he
  | step h he hr => exact hr.closed hL (hk _ h _ he)

/-! ### Values within a bound -/
def cutM (m : Map) (n : Nat) : Map := fun x => if x < n then m x else none
theorem cutM_some {m : Map} {n x : Nat} {b : Base} : cutM m n x = some b ↔ x < n ∧ m x = some b := by
  unfold cutM
  split
  · rename_i h; simp [h]
  · rename_i h; simp only [reduceCtorEq, false_iff]; exact fun h2 => h h2.1
theorem VR.cut {M : Map} {v : AV} {u : Value} (h : VR M v u) : ∀ {m : Map} {u' : Value} {n : Nat}, VR m v u' → (∀ id b, m id = some b → id < n) → VR (cutM M n) v u := by
  induction h with
  | val h => intro m u' n h2 hd; exact .val h
  | ptr h => intro m u' n h2 hd; cases h2 with | ptr h3 => exact .ptr (cutM_some.2 ⟨hd _ _ h3, h⟩)
  | slice h ho h1 h2 h3 h4 => intro m u' n h5 hd; cases h5 with | slice h6 => exact .slice (cutM_some.2 ⟨hd _ _ h6, h⟩) ho h1 h2 h3 h4
  | hole => intro m u' n h2 hd; exact .hole
  | agg hl h ih =>
    intro m u' n h2 hd
    cases h2 with
    | agg hl2 h3 =>
      refine .agg hl fun i x y hx hy => ?_
      rename_i cs vs vs'
      obtain ⟨hi, _⟩ := List.getElem?_eq_some_iff.1 hx
      have hi' : i < vs'.size := by omega
      exact ih i x y hx hy (h3 i x _ hx (Array.getElem?_eq_getElem hi')) hd
  | tuple hl h ih =>
    intro m u' n h2 hd
    cases h2 with
    | tuple hl2 h3 =>
      refine .tuple hl fun i x y hx hy => ?_
      rename_i cs vs vs'
      obtain ⟨hi, _⟩ := List.getElem?_eq_some_iff.1 hx
      have hi' : i < vs'.size := by omega
      exact ih i x y hx hy (h3 i x _ hx (Array.getElem?_eq_getElem hi')) hd
  | func hl h ih =>
    intro m u' n h2 hd
    cases h2 with
    | func hl2 h3 =>
      refine .func hl fun i x y hx hy => ?_
      rename_i f cs vs vs'
      obtain ⟨hi, _⟩ := List.getElem?_eq_some_iff.1 hx
      have hi' : i < vs'.size := by omega
      exact ih i x y hx hy (h3 i x _ hx (Array.getElem?_eq_getElem hi')) hd

/-- The first stage at which a block is there. -/
def crn (H : Nat → Heap) (x : Nat) : Nat → Nat
  | 0 => 0
  | k + 1 => if x < (H k).length then crn H x k else k + 1

theorem crn_spec {H : Nat → Heap} {n : Nat} (hm : ∀ i, i < n → (H i).length ≤ (H (i + 1)).length) {x : Nat} : ∀ k, k ≤ n → x < (H k).length → crn H x k ≤ k ∧ x < (H (crn H x k)).length ∧ ∀ j, j < crn H x k → (H j).length ≤ x
  | 0, _, hx => ⟨Nat.le_refl _, hx, fun j hj => absurd hj (by simp [crn])⟩
  | k + 1, hk, hx => by
    unfold crn
    split
    · rename_i h
      obtain ⟨h1, h2, h3⟩ := crn_spec hm k (by omega) h
      exact ⟨by omega, h2, h3⟩
    · rename_i h
      refine ⟨Nat.le_refl _, hx, fun j hj => ?_⟩
      have : ∀ d, j + d = k → (H j).length ≤ (H k).length := by
        intro d
        induction d generalizing j with
        | zero => intro e; rw [← e]; exact Nat.le_refl _
        | succ d ih =>
          intro e
          exact Nat.le_trans (hm j (by omega)) (ih (j + 1) (by omega) (by omega))
      have := this (k - j) (by omega)
      omega
theorem len_mono {H : Nat → Heap} {n : Nat} (hm : ∀ i, i < n → (H i).length ≤ (H (i + 1)).length) : ∀ {i j : Nat}, i ≤ j → j ≤ n → (H i).length ≤ (H j).length := by
  intro i j hij
  induction hij with
  | refl => intro _; exact Nat.le_refl _
  | step h ih => intro hj; exact Nat.le_trans (ih (by omega)) (hm _ (by omega))
end
end Go.Proofs.Ytpmmiaadfnildaa
