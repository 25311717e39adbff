/-
  Rules for proofs about AM's runs: each operation.
-/
import Derived.Test.YtpmmiaadfnildaaAmX
namespace Go.Proofs.Ytpmmiaadfnildaa
open Go Go.RowKit
set_option linter.unusedVariables false
set_option linter.unusedSimpArgs false
section
variable {X : CallT} {F : FuncId → Option AFunc} {top : Option (Nat × Option (List Nat))} {fl : Nat → Bool} {s : Slots} {h : Heap} {K : AV → Heap → Prop}

theorem A1_mv {x : Opd} : A1 X F top fl (.mv x) s h K ↔ K (x.ev s) h := by
  simp only [A1, opEval, Option.some.injEq, Prod.mk.injEq]
  exact ⟨fun ⟨_, _, ⟨e1, e2⟩, k⟩ => by subst e1; subst e2; exact k, fun k => ⟨_, _, ⟨rfl, rfl⟩, k⟩⟩
theorem A1_pick {c a b : Opd} : A1 X F top fl (.pick c a b) s h K ↔ ∃ t, c.ev s = .val (.bool t) ∧ K (if t = true then a.ev s else b.ev s) h := by
  simp only [A1, opEval]
  constructor
  · rintro ⟨v, h', e, k⟩
    split at e
    · rename_i t ht
      simp only [Option.some.injEq, Prod.mk.injEq] at e
      obtain ⟨rfl, rfl⟩ := e
      exact ⟨t, ht, k⟩
    · cases e
  · rintro ⟨t, ht, k⟩
    exact ⟨_, _, by rw [ht], k⟩
theorem A1_box {n : Nat} {x : Opd} : A1 X F top fl (.box n x) s h K ↔ ((x.ev s).cells.length = n ∧ (x.ev s).cells.all AV.isCell = true) ∧ K (.ptr h.length 0) (h ++ [some (x.ev s).cells]) := by
  simp only [A1, opEval]
  constructor
  · rintro ⟨v, h', e, k⟩
    split at e
    · simp only [Option.some.injEq, Prod.mk.injEq] at e
      obtain ⟨rfl, rfl⟩ := e
      exact ⟨by assumption, k⟩
    · cases e
  · rintro ⟨hc, k⟩
    exact ⟨_, _, by rw [if_pos hc], k⟩
theorem A1_zero {cs : List AV} : A1 X F top fl (.zero cs) s h K ↔ K (.ptr h.length 0) (h ++ [some cs]) := by
  simp only [A1, opEval, Option.some.injEq, Prod.mk.injEq]
  exact ⟨fun ⟨_, _, ⟨e1, e2⟩, k⟩ => by subst e1; subst e2; exact k, fun k => ⟨_, _, ⟨rfl, rfl⟩, k⟩⟩
theorem A1_build {z : List AV} {ps : List (Nat × Nat × Opd)} : A1 X F top fl (.build z ps) s h K ↔ ∃ cs, fillA z (ps.map fun p => (p.1, p.2.1, p.2.2.ev s)) = some cs ∧ K (.agg cs) h := by
  simp only [A1, opEval]
  constructor
  · rintro ⟨v, h', e, k⟩
    split at e
    · rename_i cs hcs
      simp only [Option.some.injEq, Prod.mk.injEq] at e
      obtain ⟨rfl, rfl⟩ := e
      exact ⟨cs, hcs, k⟩
    · cases e
  · rintro ⟨cs, hcs, k⟩
    exact ⟨_, _, by rw [hcs], k⟩
theorem A1_lits {k len : Nat} {z : List AV} {ps : List (Nat × Nat × Opd)} : A1 X F top fl (.lits k len z ps) s h K ↔ ∃ cs, fillA z (ps.map fun p => (p.1, p.2.1, p.2.2.ev s)) = some cs ∧ cs.all AV.isCell = true ∧ K (.slice h.length 0 len len true k) (h ++ [some cs]) := by
  simp only [A1, opEval]
  constructor
  · rintro ⟨v, h', e, kk⟩
    split at e
    · rename_i cs hcs
      split at e
      · rename_i ha
        simp only [Option.some.injEq, Prod.mk.injEq] at e
        obtain ⟨rfl, rfl⟩ := e
        exact ⟨cs, hcs, ha, kk⟩
      · cases e
    · cases e
  · rintro ⟨cs, hcs, ha, kk⟩
    exact ⟨_, _, by rw [hcs]; simp only; rw [if_pos ha], kk⟩
def ldA (h : Heap) (id off : Nat) : Option Nat → Option AV
  | none => rd1 h id off
  | some n => match rd h id off n with
    | some cs => some (.agg cs)
    | none => none
theorem A1_load {n : Option Nat} {x : Opd} : A1 X F top fl (.load n x) s h K ↔ ∃ id off v, x.ev s = .ptr id off ∧ shallowOk top id = true ∧ ldA h id off n = some v ∧ K v h := by
  simp only [A1, opEval]
  constructor
  · rintro ⟨v, h', e, k⟩
    split at e
    · rename_i id off hp
      split at e
      · rename_i hs
        split at e
        · rename_i n
          split at e
          · rename_i cs hcs
            simp only [Option.some.injEq, Prod.mk.injEq] at e
            obtain ⟨rfl, rfl⟩ := e
            exact ⟨id, off, _, hp, hs, by simp only [ldA, hcs], k⟩
          · cases e
        · split at e
          · rename_i u hu
            simp only [Option.some.injEq, Prod.mk.injEq] at e
            obtain ⟨rfl, rfl⟩ := e
            exact ⟨id, off, _, hp, hs, hu, k⟩
          · cases e
      · cases e
    · cases e
  · rintro ⟨id, off, v, hp, hs, hv, k⟩
    cases n with
    | none => exact ⟨v, h, by rw [hp]; simp only; rw [if_pos hs]; simp only [ldA] at hv; simp only [hv], k⟩
    | some n =>
      simp only [ldA] at hv
      split at hv
      · rename_i cs hcs
        injection hv with hv
        exact ⟨v, h, by rw [hp]; simp only; rw [if_pos hs, hcs]; simp only [hv], k⟩
      · cases hv
theorem shallow_none {id : Nat} : (shallowOk none id = true) = True := by simp [shallowOk]
theorem A1_store {n : Nat} {a v : Opd} : A1 X F top fl (.store n a v) s h K ↔ ∃ id off h', a.ev s = .ptr id off ∧ ((v.ev s).cells.length = n ∧ (v.ev s).cells.all AV.isCell = true) ∧ wr fl h id off (v.ev s).cells = some h' ∧ K .no h' := by
  simp only [A1, opEval]
  constructor
  · rintro ⟨u, h', e, k⟩
    split at e
    · rename_i id off hp
      split at e
      · rename_i hc
        split at e
        · rename_i h1 hw
          simp only [Option.some.injEq, Prod.mk.injEq] at e
          obtain ⟨rfl, rfl⟩ := e
          exact ⟨id, off, h1, hp, hc, hw, k⟩
        · cases e
      · cases e
    · cases e
  · rintro ⟨id, off, h1, hp, hc, hw, k⟩
    exact ⟨_, h1, by rw [hp]; simp only; rw [if_pos hc, hw], k⟩
def nilOkA : AV → Bool
  | .ptr _ _ => true
  | .func _ _ => true
  | _ => false
theorem nilOk_ptr {id off : Nat} : nilOkA (.ptr id off) = true := rfl
theorem nilOk_func {f : FuncId} {cs : List AV} : nilOkA (.func f cs) = true := rfl
theorem A1_nilCheckI {x : Opd} : A1 X F top fl (.nilCheck x) s h K ↔ nilOkA (x.ev s) = true ∧ K (x.ev s) h := by
  simp only [A1, opEval]
  constructor
  · rintro ⟨v, h', e, k⟩
    split at e
    · rename_i id off hp
      simp only [Option.some.injEq, Prod.mk.injEq] at e
      obtain ⟨rfl, rfl⟩ := e
      exact ⟨by rw [hp]; rfl, by rw [hp]; exact k⟩
    · rename_i f cs hp
      simp only [Option.some.injEq, Prod.mk.injEq] at e
      obtain ⟨rfl, rfl⟩ := e
      exact ⟨by rw [hp]; rfl, by rw [hp]; exact k⟩
    · cases e
  · rintro ⟨hn, k⟩
    cases hx : x.ev s with
    | ptr id off => rw [hx] at k; exact ⟨_, _, rfl, k⟩
    | func f cs => rw [hx] at k; exact ⟨_, _, rfl, k⟩
    | _ => rw [hx] at hn; cases hn
theorem A1_nilCheck {x : Opd} {id off : Nat} (hx : x.ev s = .ptr id off) : A1 X F top fl (.nilCheck x) s h K ↔ K (.ptr id off) h := by
  simp only [A1, opEval, hx, Option.some.injEq, Prod.mk.injEq]
  exact ⟨fun ⟨_, _, ⟨e1, e2⟩, k⟩ => by subst e1; subst e2; exact k, fun k => ⟨_, _, ⟨rfl, rfl⟩, k⟩⟩
theorem A1_nilCheckF {x : Opd} {f : FuncId} {cs : List AV} (hx : x.ev s = .func f cs) : A1 X F top fl (.nilCheck x) s h K ↔ K (.func f cs) h := by
  simp only [A1, opEval, hx, Option.some.injEq, Prod.mk.injEq]
  exact ⟨fun ⟨_, _, ⟨e1, e2⟩, k⟩ => by subst e1; subst e2; exact k, fun k => ⟨_, _, ⟨rfl, rfl⟩, k⟩⟩
theorem A1_bin {op : BinOp} {x y : Opd} : A1 X F top fl (.bin op x y) s h K ↔ ∃ a b v, x.ev s = .val a ∧ y.ev s = .val b ∧ binV op a b = some v ∧ K (.val v) h := by
  simp only [A1, opEval]
  constructor
  · rintro ⟨v, h', e, k⟩
    split at e
    · rename_i a b ha hb
      split at e
      · rename_i u hu
        simp only [Option.some.injEq, Prod.mk.injEq] at e
        obtain ⟨rfl, rfl⟩ := e
        exact ⟨a, b, u, ha, hb, hu, k⟩
      · cases e
    · cases e
  · rintro ⟨a, b, v, ha, hb, hv, k⟩
    exact ⟨_, h, by rw [ha, hb]; simp only [hv], k⟩
theorem A1_eqNil {neg : Bool} {kd : Nat} {x : Opd} : A1 X F top fl (.eqNil neg kd x) s h K ↔ ∃ b, nilness kd (x.ev s) = some b ∧ K (BV (if neg = true then !b else b)) h := by
  simp only [A1, opEval]
  constructor
  · rintro ⟨v, h', e, k⟩
    split at e
    · rename_i b hb
      simp only [Option.some.injEq, Prod.mk.injEq] at e
      obtain ⟨rfl, rfl⟩ := e
      exact ⟨b, hb, k⟩
    · cases e
  · rintro ⟨b, hb, k⟩
    exact ⟨_, h, by rw [hb], k⟩
theorem A1_eqBool {neg : Bool} {x y : Opd} : A1 X F top fl (.eqBool neg x y) s h K ↔ ∃ a b, x.ev s = BV a ∧ y.ev s = BV b ∧ K (BV (if neg = true then !(a == b) else a == b)) h := by
  simp only [A1, opEval]
  constructor
  · rintro ⟨v, h', e, k⟩
    split at e
    · rename_i a b ha hb
      simp only [Option.some.injEq, Prod.mk.injEq] at e
      obtain ⟨rfl, rfl⟩ := e
      exact ⟨a, b, ha, hb, k⟩
    · cases e
  · rintro ⟨a, b, ha, hb, k⟩
    exact ⟨_, h, by rw [ha, hb], k⟩
theorem A1_eqAgg {neg : Bool} {ks : List Nat} {x y : Opd} : A1 X F top fl (.eqAgg neg ks x y) s h K ↔ ∃ a b t, x.ev s = .agg a ∧ y.ev s = .agg b ∧ sameCells ks a b = some t ∧ K (BV (if neg = true then !t else t)) h := by
  simp only [A1, opEval]
  constructor
  · rintro ⟨v, h', e, k⟩
    split at e
    · rename_i a b ha hb
      split at e
      · rename_i t ht
        simp only [Option.some.injEq, Prod.mk.injEq] at e
        obtain ⟨rfl, rfl⟩ := e
        exact ⟨a, b, t, ha, hb, ht, k⟩
      · cases e
    · cases e
  · rintro ⟨a, b, t, ha, hb, ht, k⟩
    exact ⟨_, h, by rw [ha, hb]; simp only [ht], k⟩
theorem A1_un {op : UnOp} {x : Opd} : A1 X F top fl (.un op x) s h K ↔ ∃ a v, x.ev s = .val a ∧ unV op a = some v ∧ K (.val v) h := by
  simp only [A1, opEval]
  constructor
  · rintro ⟨v, h', e, k⟩
    split at e
    · rename_i a ha
      split at e
      · rename_i u hu
        simp only [Option.some.injEq, Prod.mk.injEq] at e
        obtain ⟨rfl, rfl⟩ := e
        exact ⟨a, u, ha, hu, k⟩
      · cases e
    · cases e
  · rintro ⟨a, v, ha, hv, k⟩
    exact ⟨_, h, by rw [ha]; simp only [hv], k⟩
theorem A1_conv {kd : IntKind} {x : Opd} : A1 X F top fl (.conv kd x) s h K ↔ ∃ k' n, x.ev s = .val (.int k' n) ∧ K (.val (.int kd (kd.wrap n))) h := by
  simp only [A1, opEval]
  constructor
  · rintro ⟨v, h', e, k⟩
    split at e
    · rename_i k' n ha
      simp only [Option.some.injEq, Prod.mk.injEq] at e
      obtain ⟨rfl, rfl⟩ := e
      exact ⟨k', n, ha, k⟩
    · cases e
  · rintro ⟨k', n, ha, k⟩
    exact ⟨_, h, by rw [ha], k⟩
theorem A1_field {off : Nat} {n : Option Nat} {x : Opd} : A1 X F top fl (.field off n x) s h K ↔ ∃ cs v, x.ev s = .agg cs ∧ partA cs off n = some v ∧ K v h := by
  simp only [A1, opEval]
  constructor
  · rintro ⟨v, h', e, k⟩
    split at e
    · rename_i cs ha
      split at e
      · rename_i u hu
        simp only [Option.some.injEq, Prod.mk.injEq] at e
        obtain ⟨rfl, rfl⟩ := e
        exact ⟨cs, u, ha, hu, k⟩
      · cases e
    · cases e
  · rintro ⟨cs, v, ha, hv, k⟩
    exact ⟨_, h, by rw [ha]; simp only [hv], k⟩
theorem A1_fieldAddr {off : Nat} {x : Opd} : A1 X F top fl (.fieldAddr off x) s h K ↔ ∃ id o, x.ev s = .ptr id o ∧ K (.ptr id (o + off)) h := by
  simp only [A1, opEval]
  constructor
  · rintro ⟨v, h', e, k⟩
    split at e
    · rename_i id o ha
      simp only [Option.some.injEq, Prod.mk.injEq] at e
      obtain ⟨rfl, rfl⟩ := e
      exact ⟨id, o, ha, k⟩
    · cases e
  · rintro ⟨id, o, ha, k⟩
    exact ⟨_, h, by rw [ha], k⟩
theorem A1_indexAddr {kk : Nat} {x i : Opd} : A1 X F top fl (.indexAddr kk x i) s h K ↔ ∃ id off len lb ex k' j, x.ev s = .slice id off len lb ex k' ∧ natOfA (i.ev s) = some j ∧ j < len ∧ K (.ptr id (off + j * kk)) h := by
  simp only [A1, opEval]
  constructor
  · rintro ⟨v, h', e, k⟩
    split at e
    · rename_i id off len lb ex k' j ha hj
      split at e
      · rename_i hlt
        simp only [Option.some.injEq, Prod.mk.injEq] at e
        obtain ⟨rfl, rfl⟩ := e
        exact ⟨id, off, len, lb, ex, k', j, ha, hj, hlt, k⟩
      · cases e
    · cases e
  · rintro ⟨id, off, len, lb, ex, k', j, ha, hj, hlt, k⟩
    exact ⟨_, h, by rw [ha, hj]; simp only; rw [if_pos hlt], k⟩
theorem A1_indexArr {kk len : Nat} {x i : Opd} : A1 X F top fl (.indexArr kk len x i) s h K ↔ ∃ id off j, x.ev s = .ptr id off ∧ natOfA (i.ev s) = some j ∧ j < len ∧ K (.ptr id (off + j * kk)) h := by
  simp only [A1, opEval]
  constructor
  · rintro ⟨v, h', e, k⟩
    split at e
    · rename_i id off j ha hj
      split at e
      · rename_i hlt
        simp only [Option.some.injEq, Prod.mk.injEq] at e
        obtain ⟨rfl, rfl⟩ := e
        exact ⟨id, off, j, ha, hj, hlt, k⟩
      · cases e
    · cases e
  · rintro ⟨id, off, j, ha, hj, hlt, k⟩
    exact ⟨_, h, by rw [ha, hj]; simp only; rw [if_pos hlt], k⟩
theorem A1_index {kk len : Nat} {n : Option Nat} {x i : Opd} : A1 X F top fl (.index kk len n x i) s h K ↔ ∃ cs j v, x.ev s = .agg cs ∧ natOfA (i.ev s) = some j ∧ j < len ∧ partA cs (j * kk) n = some v ∧ K v h := by
  simp only [A1, opEval]
  constructor
  · rintro ⟨v, h', e, k⟩
    split at e
    · rename_i cs j ha hj
      split at e
      · rename_i hlt
        split at e
        · rename_i u hu
          simp only [Option.some.injEq, Prod.mk.injEq] at e
          obtain ⟨rfl, rfl⟩ := e
          exact ⟨cs, j, u, ha, hj, hlt, hu, k⟩
        · cases e
      · cases e
    · cases e
  · rintro ⟨cs, j, v, ha, hj, hlt, hv, k⟩
    exact ⟨_, h, by rw [ha, hj]; simp only; rw [if_pos hlt, hv], k⟩
theorem A1_slice {kk : Nat} {x : Opd} {lo hi mx : Option Opd} : A1 X F top fl (.slice kk x lo hi mx) s h K ↔ ∃ v, sliceA kk (x.ev s) (lo.map (·.ev s)) (hi.map (·.ev s)) (mx.map (·.ev s)) = some v ∧ K v h := by
  simp only [A1, opEval]
  constructor
  · rintro ⟨v, h', e, k⟩
    split at e
    · rename_i u hu
      simp only [Option.some.injEq, Prod.mk.injEq] at e
      obtain ⟨rfl, rfl⟩ := e
      exact ⟨u, hu, k⟩
    · cases e
  · rintro ⟨v, hv, k⟩
    exact ⟨_, h, by rw [hv], k⟩
theorem A1_mkSlice {kk bytes : Nat} {z : List AV} {l c : Opd} : A1 X F top fl (.mkSlice kk bytes z l c) s h K ↔ ∃ a b, natOfA (l.ev s) = some a ∧ natOfA (c.ev s) = some b ∧ (a ≤ b ∧ b * bytes ≤ reach) ∧ K (.slice h.length 0 a a (a == b) kk) (h ++ [some (List.replicate a z).flatten]) := by
  simp only [A1, opEval]
  constructor
  · rintro ⟨v, h', e, k⟩
    split at e
    · rename_i a b ha hb
      split at e
      · rename_i hc
        simp only [Option.some.injEq, Prod.mk.injEq] at e
        obtain ⟨rfl, rfl⟩ := e
        exact ⟨a, b, ha, hb, hc, k⟩
      · cases e
    · cases e
  · rintro ⟨a, b, ha, hb, hc, k⟩
    exact ⟨_, _, by rw [ha, hb]; simp only; rw [if_pos hc], k⟩
theorem A1_extract {i : Nat} {x : Opd} : A1 X F top fl (.extract i x) s h K ↔ ∃ vs v, x.ev s = .tuple vs ∧ vs[i]? = some v ∧ K v h := by
  simp only [A1, opEval]
  constructor
  · rintro ⟨v, h', e, k⟩
    split at e
    · rename_i vs ha
      split at e
      · rename_i u hu
        simp only [Option.some.injEq, Prod.mk.injEq] at e
        obtain ⟨rfl, rfl⟩ := e
        exact ⟨vs, u, ha, hu, k⟩
      · cases e
    · cases e
  · rintro ⟨vs, v, ha, hv, k⟩
    exact ⟨_, h, by rw [ha]; simp only [hv], k⟩
theorem A1_func {f : FuncId} {caps : List Opd} : A1 X F top fl (.func f caps) s h K ↔ K (.func f (caps.map (·.ev s))) h := by
  simp only [A1, opEval, Option.some.injEq, Prod.mk.injEq]
  exact ⟨fun ⟨_, _, ⟨e1, e2⟩, k⟩ => by subst e1; subst e2; exact k, fun k => ⟨_, _, ⟨rfl, rfl⟩, k⟩⟩
theorem A1_call {f : Opd} {args : List Opd} : A1 X F top fl (.call f args) s h K ↔ ∃ g caps, f.ev s = .func g caps ∧ AC X F g (args.map (·.ev s) ++ caps) fl h K := Iff.rfl
theorem A1_append {kk bytes : Nat} {x y : Opd} : A1 X F top fl (.append kk bytes x y) s h K ↔ ∃ n cs v h', rowOf h kk (y.ev s) = some (n, cs) ∧ appendA fl h kk bytes (x.ev s) n cs = some (v, h') ∧ K v h' := by
  simp only [A1, opEval]
  constructor
  · rintro ⟨v, h', e, k⟩
    split at e
    · rename_i n cs hr
      exact ⟨n, cs, v, h', hr, e, k⟩
    · cases e
  · rintro ⟨n, cs, v, h', hr, e, k⟩
    exact ⟨v, h', by rw [hr]; exact e, k⟩
/-- How long a slice is. -/
def lenA : AV → Option Nat
  | .val (.slice none 0 0) => some 0
  | .hole => some 0
  | .slice _ _ n _ _ _ => some n
  | _ => none
theorem A1_len {x : Opd} : A1 X F top fl (.len x) s h K ↔ ∃ n, lenA (x.ev s) = some n ∧ K (I64 (n : Nat)) h := by
  simp only [A1, opEval]
  constructor
  · rintro ⟨v, h', e, k⟩
    split at e
    · rename_i ha
      simp only [Option.some.injEq, Prod.mk.injEq] at e
      obtain ⟨rfl, rfl⟩ := e
      exact ⟨0, by rw [ha]; rfl, k⟩
    · rename_i ha
      simp only [Option.some.injEq, Prod.mk.injEq] at e
      obtain ⟨rfl, rfl⟩ := e
      exact ⟨0, by rw [ha]; rfl, k⟩
    · rename_i ha
      simp only [Option.some.injEq, Prod.mk.injEq] at e
      obtain ⟨rfl, rfl⟩ := e
      exact ⟨_, by rw [ha]; rfl, k⟩
    · cases e
  · rintro ⟨n, e, k⟩
    unfold lenA at e
    split at e <;> first | (cases e; done) | skip
    all_goals
      rename_i ha
      injection e with e
      subst e
      exact ⟨_, h, by rw [ha]; try rfl, k⟩
theorem A1_copy {kk : Nat} {x y : Opd} {id off len lb : Nat} {ex : Bool} {k' : Nat} (hx : x.ev s = .slice id off len lb ex k') : A1 X F top fl (.copy kk x y) s h K ↔ ∃ n cs h', rowOf h kk (y.ev s) = some (n, cs) ∧ wr fl h id off (cs.take (min n len * kk)) = some h' ∧ K (I64 (min n len : Nat)) h' := by
  simp only [A1, opEval, hx]
  cases hr : rowOf h kk (y.ev s) with
  | none =>
    constructor
    · rintro ⟨v, h', e, k⟩; cases e
    · rintro ⟨n, cs, h1, e, _⟩; cases e
  | some p =>
    obtain ⟨n, cs⟩ := p
    simp only
    constructor
    · rintro ⟨v, h', e, k⟩
      split at e
      · rename_i h1 hw
        simp only [Option.some.injEq, Prod.mk.injEq] at e
        obtain ⟨rfl, rfl⟩ := e
        exact ⟨n, cs, h1, rfl, hw, k⟩
      · cases e
    · rintro ⟨n', cs', h1, e, hw, k⟩
      simp only [Option.some.injEq, Prod.mk.injEq] at e
      obtain ⟨rfl, rfl⟩ := e
      exact ⟨_, h1, by rw [hw], k⟩
theorem A1_minmax {mx : Bool} {x : Opd} {xs : List Opd} : A1 X F top fl (.minmax mx x xs) s h K ↔ ∃ v, bestA mx (x.ev s) (xs.map (·.ev s)) = some v ∧ K v h := by
  simp only [A1, opEval]
  constructor
  · rintro ⟨v, h', e, k⟩
    split at e
    · rename_i u hu
      simp only [Option.some.injEq, Prod.mk.injEq] at e
      obtain ⟨rfl, rfl⟩ := e
      exact ⟨u, hu, k⟩
    · cases e
  · rintro ⟨v, hv, k⟩
    exact ⟨_, h, by rw [hv], k⟩

/-- A condition that is met or not. -/
def WantK : Option Bool → Prop → Prop → Prop
  | some b, p, q => (b = true → p) ∧ (b = false → q)
  | none, _, _ => False
def wantB : AV → Bool → Option Bool
  | .val (.bool b), w => some (b == w)
  | .val _, _ => some false
  | .tuple [], _ => some false
  | _, _ => none
theorem wantB_bool {b w : Bool} : wantB (BV b) w = some (b == w) := rfl
theorem wantK_some {b : Bool} {p q : Prop} : WantK (some b) p q ↔ (b = true → p) ∧ (b = false → q) := Iff.rfl
theorem wantK_true {p q : Prop} : WantK (some true) p q ↔ p := by simp [WantK]

section
variable {base : Nat} {d : Seen} {l : List AOper} {K : Slots → Heap → Prop}
theorem AO_consG {o : AOper} : AO X F base fl d (o :: l) s h K ↔ WantK (wantedA o s) (A1 X F (if o.iso then none else some (base, d.pr)) (lessen fl o (forbs fl d o l s h)) o.op s h fun v h' => AO X F base fl (d.with o (forbs fl d o l s h) s) l (put s o.dst v) h' K) (AO X F base fl d l (put s o.dst .no) h K) := by
  constructor
  · rintro ⟨n, s', h', e, k⟩
    simp only [runOps] at e
    split at e
    · rename_i hw
      split at e
      · rename_i v h1 hr
        rw [hw]
        refine wantK_true.2 ?_
        unfold runOp at hr
        unfold A1
        split at hr
        · rename_i f args heq
          rw [heq]
          split at hr
          · rename_i g caps hg
            exact ⟨g, caps, hg, n, v, h1, hr, n, s', h', e, k⟩
          · cases hr
        · rename_i op hne
          split
          · rename_i f args heq; exact absurd heq (hne f args)
          · exact ⟨v, h1, hr, n, s', h', e, k⟩
      · cases e
    · rename_i hw
      rw [hw]
      exact ⟨(fun h => by cases h), fun _ => ⟨n, s', h', e, k⟩⟩
    · cases e
  · intro hk
    cases hw : wantedA o s with
    | none => rw [hw] at hk; exact hk.elim
    | some b =>
      rw [hw] at hk
      cases b with
      | true => exact AO_one hw (hk.1 rfl)
      | false =>
        obtain ⟨n, s', h', e, k⟩ := hk.2 rfl
        exact ⟨n, s', h', by simp only [runOps, hw]; exact e, k⟩
theorem AO_cons {dst : Option Nat} {op : AOp} : AO X F base fl d (⟨dst, op, none, true⟩ :: l) s h K ↔ A1 X F none fl op s h fun v h' => AO X F base fl d l (put s dst v) h' K := by
  rw [AO_consG, show wantedA ⟨dst, op, none, true⟩ s = some true from rfl, wantK_true]
  simp [lessen, Seen.with]
theorem AO_consW {dst : Option Nat} {op : AOp} {t : Nat} {w : Bool} : AO X F base fl d (⟨dst, op, some (t, w), true⟩ :: l) s h K ↔ WantK (wantB (s t) w) (A1 X F none fl op s h fun v h' => AO X F base fl d l (put s dst v) h' K) (AO X F base fl d l (put s dst .no) h K) := by
  have : wantedA ⟨dst, op, some (t, w), true⟩ s = wantB (s t) w := by
    unfold wantedA wantB
    simp only
    cases s t with
    | val v => cases v <;> rfl
    | tuple l => cases l <;> rfl
    | _ => rfl
  rw [AO_consG, this]
  simp [lessen, Seen.with]
end

/-! ### What goes on, held back -/
def GoO (X : CallT) (F : FuncId → Option AFunc) (base : Nat) (fl : Nat → Bool) (d : Seen) (l : List AOper) (s : Slots) (dst : Option Nat) (K : Slots → Heap → Prop) (v : AV) (h' : Heap) : Prop := AO X F base fl d l (put s dst v) h' K
def GoC (X : CallT) (F : FuncId → Option AFunc) (fl : Nat → Bool) (c : ACode) (K : AExit → Slots → Heap → Prop) (s : Slots) (h : Heap) : Prop := AW X F fl c s h K
section
variable {base : Nat} {d : Seen} {l : List AOper} {K : Slots → Heap → Prop} {dst : Option Nat} {v : AV} {h' : Heap} {c : ACode} {KK : AExit → Slots → Heap → Prop}
theorem goO : GoO X F base fl d l s dst K v h' ↔ AO X F base fl d l (put s dst v) h' K := Iff.rfl
theorem goC : GoC X F fl c KK s h ↔ AW X F fl c s h KK := Iff.rfl
theorem AO_next {op : AOp} : AO X F base fl d (⟨dst, op, none, true⟩ :: l) s h K ↔ A1 X F none fl op s h (GoO X F base fl d l s dst K) := AO_cons
theorem AO_nextW {op : AOp} {t : Nat} {w : Bool} : AO X F base fl d (⟨dst, op, some (t, w), true⟩ :: l) s h K ↔ WantK (wantB (s t) w) (A1 X F none fl op s h (GoO X F base fl d l s dst K)) (GoO X F base fl d l s dst K .no h) := AO_consW
theorem AW_next {a b : ACode} : AW X F fl (.seq a b) s h KK ↔ AW X F fl a s h (AExit.then (GoC X F fl b KK) KK) := AW_seq
end

/-! ### Numbers -/
theorem bin_lss {a b : Int} : binV .lss (.int .i64 a) (.int .i64 b) = some (.bool (decide (a < b))) := by simp [binV]
theorem bin_leq {a b : Int} : binV .leq (.int .i64 a) (.int .i64 b) = some (.bool (decide (a ≤ b))) := by simp [binV]
theorem bin_gtr {a b : Int} : binV .gtr (.int .i64 a) (.int .i64 b) = some (.bool (decide (b < a))) := by simp [binV]
theorem bin_geq {a b : Int} : binV .geq (.int .i64 a) (.int .i64 b) = some (.bool (decide (b ≤ a))) := by simp [binV]
theorem bin_eql {a b : Int} : binV .eql (.int .i64 a) (.int .i64 b) = some (.bool (decide (a = b))) := by simp [binV]
theorem bin_neq {a b : Int} : binV .neq (.int .i64 a) (.int .i64 b) = some (.bool (!decide (a = b))) := by simp [binV]
theorem bin_add {a b : Int} : binV .add (.int .i64 a) (.int .i64 b) = some (.int .i64 (IntKind.i64.wrap (a + b))) := by simp [binV]
theorem bin_sub {a b : Int} : binV .sub (.int .i64 a) (.int .i64 b) = some (.int .i64 (IntKind.i64.wrap (a - b))) := by simp [binV]
theorem bin_mul {a b : Int} : binV .mul (.int .i64 a) (.int .i64 b) = some (.int .i64 (IntKind.i64.wrap (a * b))) := by simp [binV]
theorem cell_val {v : Value} : (AV.val v).isCell = true := rfl
theorem cell_ptr {a b : Nat} : (AV.ptr a b).isCell = true := rfl
theorem cell_slice {a b c d : Nat} {e : Bool} {k : Nat} : (AV.slice a b c d e k).isCell = true := rfl
theorem cell_func {f : FuncId} {c : List AV} : (AV.func f c).isCell = true := rfl
theorem cell_hole : AV.hole.isCell = true := rfl
theorem cells_agg {l : List AV} : (AV.agg l).cells = l := rfl
theorem cells_cell {v : AV} (h : v.isCell = true) : v.cells = [v] := by cases v <;> first | rfl | (simp [AV.isCell] at h)
theorem cells_val {v : Value} : (AV.val v).cells = [.val v] := rfl
theorem cells_ptr {a b : Nat} : (AV.ptr a b).cells = [.ptr a b] := rfl
theorem cells_slice {a b c d : Nat} {e : Bool} {k : Nat} : (AV.slice a b c d e k).cells = [.slice a b c d e k] := rfl
theorem cells_func {f : FuncId} {c : List AV} : (AV.func f c).cells = [.func f c] := rfl
theorem cells_hole : AV.hole.cells = [.hole] := rfl
theorem un_not {a : Bool} : unV .not (.bool a) = some (.bool !a) := by simp [unV]
theorem natOf_nat {n : Nat} : natOfA (I64 (n : Nat)) = some n := by simp [natOfA, intOfA]
theorem natOf_lit {n : Int} (h : 0 ≤ n) : natOfA (I64 n) = some n.toNat := by simp [natOfA, intOfA, h]
end
end Go.Proofs.Ytpmmiaadfnildaa
