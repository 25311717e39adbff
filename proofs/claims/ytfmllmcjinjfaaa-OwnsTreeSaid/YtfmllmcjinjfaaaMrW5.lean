/-
  The library's iterator over a slice from its end: its contract (the walk of the kit's slices.All turned to slices.Backward).
-/
import Derived.LoopIn
import Derived.LoopNIn
import Derived.OrdersIn
import Derived.OwnWalkIn
import Derived.RangeFuncBound
import Derived.RangeFuncBox
import Derived.RangeFuncCalls
import Derived.RangeFuncFrom
import Derived.RangeFuncLeaves
import Derived.RangeFuncNested
import Derived.RangeFuncWrites
import Derived.Shelf.Abstract
import Derived.StillTail
import Derived.TacticsIn
import Derived.TacticsInMore
import Derived.Test.YtfmllmcjinjfaaaMrW1
import Derived.Test.YtfmllmcjinjfaaaMrW4
namespace Go.Proofs.Ytfmllmcjinjfaaa
open Go Go.RowKit Go.Shelf
set_option linter.unusedVariables false
set_option linter.unusedSimpArgs false
attribute [local go_sem] Oper.semAt_some
def CellsAt (S : Nat → Prop) (W W' : World) : Prop := ∀ (q : Addr) v, S q.block → W.cell? q = some v → W'.cell? q = some v
theorem CellsAt.refl (S : Nat → Prop) (W : World) : CellsAt S W W := fun _ _ _ h => h
theorem CellsAt.trans {S : Nat → Prop} {A B C : World} (h : CellsAt S A B) (k : CellsAt S B C) : CellsAt S A C := fun q v hs hv => k q v hs (h q v hs hv)
def bkP {α : Type} (f : Nat → α) (len k : Nat) : List α := (List.range k).map fun j => f (len - 1 - j)
theorem bkP_succ {α : Type} (f : Nat → α) (len k : Nat) : bkP f len (k + 1) = bkP f len k ++ [f (len - 1 - k)] := by simp [bkP, List.range_succ]
theorem bkP_length {α : Type} (f : Nat → α) (len k : Nat) : (bkP f len k).length = k := by simp [bkP]
set_option maxRecDepth 100000 in
set_option maxHeartbeats 2000000 in
theorem bk1_in {α : Type} (f : Nat → α) (encs : α → Array Value) (F : Fence) (n : Nat) (h7 : F.fn 52) (hro : F.round = none) (hn : 1 ≤ n) (S : Nat → Prop) (l Bs b off len cap : Nat) (zs : List Int) (hreach : len * 8 ≤ 140737488351232) (he : ∀ j, j < len → encs (f j) = #[.int .i64 (j : Int), .int .i64 (zs[j]?.getD 0)]) (hb : S b) (J Jx : List α → World → Prop)
    (hY : ∀ pre x W, J pre W → pre.length < len → YieldAt F (n - 1) Try.prog l (encs x) W fun e W' =>
      (e = .returned (.bool true) ∧ J (pre ++ [x]) W' ∧ CellsAt S W W') ∨ (e = .returned (.bool false) ∧ Jx (pre ++ [x]) W'))
    (W : World) (hBs : W.cell? ⟨Bs, 0, none⟩ = some (.slice (some ⟨b, off, none⟩) len cap)) (hBn : S Bs) (hc : ∀ j, j < len → W.cell? ⟨b, off + j, none⟩ = some (.int .i64 (zs[j]?.getD 0))) (h0 : J [] W) :
    CallsIn F n Try.prog 52 #[.func (.yield l) #[] #[], .pointer (some ⟨Bs, 0, none⟩)] W fun e W' => (∃ v, e = .returned v) ∧
      ((∃ ys, ys = bkP f len len ∧ J ys W') ∨ (∃ pre, (∃ k, k ≤ len ∧ pre = bkP f len k) ∧ Jx pre W')) := by
  refine callsIn_of_wp Try.func52 rfl h7 ?_ hro
  simp only [Try.ntmps52, List.size_toArray, List.length_cons, List.length_nil, Nat.reduceAdd, Nat.reduceSub, Array.replicate_succ, Array.replicate_zero, List.push_toArray, List.append_toArray, List.nil_append, List.cons_append]
  have w0 : wrap64 ((len : Int) - 1) = (len : Int) - 1 := IntWalk.wrap64_in _ (by omega)
  gi_wp2
  gi_loopw [3] (fun i wr => ∃ m : Nat, m ≤ len ∧ i = .int .i64 ((m : Int) - 1) ∧ J (bkP f len (len - m)) wr ∧ CellsAt S W wr)
    (fun i _ => (intOf i + 1).toNat)
  case atStart => exact ⟨len, Nat.le_refl _, by simp [w0], by simpa [bkP] using h0, CellsAt.refl _ _⟩
  case round =>
    obtain ⟨m, hm, rfl, hJs, hnx⟩ := hrel
    have hBs' := hnx ⟨Bs, 0, none⟩ _ hBn hBs
    cases m with
    | zero =>
      gi_wp2
      go_end0
      exact ⟨⟨_, rfl⟩, .inl ⟨_, rfl, hJs⟩⟩
    | succ m =>
      have e1 : ((m + 1 : Nat) : Int) - 1 = (m : Int) := by omega
      rw [e1] at *
      have hcx := hnx ⟨b, off + m, none⟩ _ hb (hc m (by omega))
      have hy0 := hY _ (f m) wr hJs (by rw [bkP_length]; omega)
      rw [he m (by omega)] at hy0
      obtain ⟨fn, tmps, assign, body, hy, hR⟩ := hy0
      have w1 : wrap64 ((m : Int) - 1) = (m : Int) - 1 := IntWalk.wrap64_in _ (by omega)
      gi_wp2
      refine hR.mono ?_
      have hs : bkP f len (len - (m + 1)) ++ [f m] = bkP f len (len - m) := by
        rw [show len - m = len - (m + 1) + 1 by omega, bkP_succ, show len - 1 - (len - (m + 1)) = m by omega]
      rintro e W3 (⟨rfl, hJ3, hk3⟩ | ⟨rfl, hJx3⟩)
      · gi_wp2
        go_roundw
        case rel => exact ⟨m, by omega, by first | rfl | simp [w1] | (rw [w1]), by rw [← hs]; exact hJ3, hnx.trans hk3⟩
        case measure => simp [intOf, w1]
      · gi_wp2
        refine bodyPost_ret (results_none rfl _ _ _) rfl ?_
        exact ⟨⟨_, rfl⟩, .inr ⟨_, ⟨len - m, by omega, hs⟩, hJx3⟩⟩
set_option maxRecDepth 100000 in
set_option maxHeartbeats 1000000 in
/-- .. at an empty slice: no round. -/
theorem bk1_nil_in (F : Fence) (n : Nat) (h7 : F.fn 52) (hro : F.round = none) (l Bs : Nat) {α : Type} (J : List α → World → Prop) (W : World) (ao : Option Addr) (co : Nat) (hBs : W.cell? ⟨Bs, 0, none⟩ = some (.slice ao 0 co)) (h0 : J [] W) :
    CallsIn F n Try.prog 52 #[.func (.yield l) #[] #[], .pointer (some ⟨Bs, 0, none⟩)] W fun e W' => (∃ v, e = .returned v) ∧ J [] W' := by
  refine callsIn_of_wp Try.func52 rfl h7 ?_ hro
  simp only [Try.ntmps52, List.size_toArray, List.length_cons, List.length_nil, Nat.reduceAdd, Nat.reduceSub, Array.replicate_succ, Array.replicate_zero, List.push_toArray, List.append_toArray, List.nil_append, List.cons_append]
  gi_wp2
  gi_loopw [3] (fun i wr => i = .int .i64 (-1) ∧ J [] wr) (fun _ _ => 0)
  case atStart => exact ⟨rfl, h0⟩
  case round =>
    obtain ⟨rfl, hJs⟩ := hrel
    gi_wp2
    go_end0
    exact ⟨⟨_, rfl⟩, hJs⟩
set_option maxHeartbeats 1000000 in
/-- slices.Backward(s): the slice value is boxed; the function value captures the box. -/
theorem bk_in (F : Fence) (n : Nat) (h6 : F.fn 42) (hro : F.round = none) (a : Option Addr) (len cap : Nat) (w : World) :
    CallsIn F n Try.prog 42 #[.slice a len cap] w fun e w' => e = .returned (.func (.func 52) #[] #[.pointer (some ⟨w.heap.size, 0, none⟩)]) ∧ w' = w.alloc (.cells #[.slice a len cap] 23) := by
  refine callsIn_of_wp Try.func42 rfl h6 ?_ hro
  simp only [Try.ntmps42, List.size_toArray, List.length_cons, List.length_nil, Nat.reduceAdd, Nat.reduceSub, Array.replicate_succ, Array.replicate_zero, List.push_toArray, List.append_toArray, List.nil_append, List.cons_append]
  gi_wp2
  go_ret
  exact ⟨rfl, rfl⟩
theorem CellsAt.putObj {S : Nat → Prop} (W : World) (l : Nat) (o o' : Obj) (h : W.heap[l]? = some o) (hc : o.isCells = false) : CellsAt S W (W.putObj l o') := fun q v _ hv => cell_kept hv (grownBy_putObj' W l o') (fun r e => by cases e; exact ⟨o, h, hc⟩)
theorem bk_stops {α : Type} (f : Nat → α) (encs : α → Array Value) (F : Fence) (n : Nat) (h7 : F.fn 52) (hro : F.round = none) (hn : 1 ≤ n) (S : Nat → Prop) (Bs b off cap : Nat) (zs : List Int) (hreach : zs.length * 8 ≤ 140737488351232) (w : World) (hBs : Bs < w.heap.size) (hb : b < w.heap.size) (hS : S b) (hSB : S Bs)
    (he : ∀ j, j < zs.length → encs (f j) = #[.int .i64 (j : Int), .int .i64 (zs[j]?.getD 0)])
    (hc : w.cell? ⟨Bs, 0, none⟩ = some (.slice (some ⟨b, off, none⟩) zs.length cap)) (hcs : ∀ j, j < zs.length → w.cell? ⟨b, off + j, none⟩ = some (.int .i64 (zs[j]?.getD 0))) :
    SeqStopsK F n Try.prog 52 #[.pointer (some ⟨Bs, 0, none⟩)] encs (CellsAt S) (fun ys => ys = bkP f zs.length zs.length)
      (fun pre => ∃ k, k ≤ zs.length ∧ pre = bkP f zs.length k) zs.length w := fun l J Jx W hW _ _ hY h0 =>
  bk1_in f encs F n h7 hro hn S l Bs b off zs.length cap zs hreach he hS J Jx hY W ((hW.cell (p := ⟨Bs, 0, none⟩) hBs).trans hc) hSB (fun j hj => (hW.cell (p := ⟨b, off + j, none⟩) hb).trans (hcs j hj)) h0
end Go.Proofs.Ytfmllmcjinjfaaa

namespace Go.Proofs.Ytfmllmcjinjfaaa
open Go Go.RowKit
set_option linter.unusedVariables false
set_option linter.unusedSimpArgs false
def NoEnter (s : Sem Next) : Prop := ∀ P w f args w', s.run P w ≠ .ok (.enter f args) w'
theorem NoEnter.value (v : Value) : NoEnter (pure (.value v)) := fun P w f args w' h => by cases h
theorem NoEnter.bind {α : Type} {s : Sem α} {k : α → Sem Next} (h : ∀ x, NoEnter (k x)) : NoEnter (s >>= k) := fun P w f args w' e => by
  rw [Sem.run_bind] at e
  cases hs : s.run P w with
  | ok x w1 => rw [hs] at e; exact h _ _ _ _ _ _ e
  | halt x w1 => rw [hs] at e; cases e
theorem NoEnter.halt (x : Halt) : NoEnter (Sem.halt x) := fun P w f args w' h => by cases h
def calmB (o : Oper) : Bool := match o.op with
  | .load .. | .move .. | .fieldAddr .. | .indexAddr .. | .binOp .. | .nilCheck .. => true
  | _ => false
theorem calm_noEnter {o : Oper} (h : calmB o = true) (ρ : Operand → Value) : NoEnter (execOp ρ o) := by
  unfold calmB at h
  unfold execOp
  split at h
  any_goals (rename_i heq; rw [heq]; dsimp only)
  any_goals exact NoEnter.bind fun x => NoEnter.value x
  any_goals exact NoEnter.value _
  · split
    any_goals exact NoEnter.value _
    any_goals exact NoEnter.bind fun p => NoEnter.halt _
    · split
      · exact NoEnter.bind fun p => NoEnter.halt _
      · refine NoEnter.bind fun p => NoEnter.bind fun x => ?_
        split
        · exact NoEnter.bind fun p => NoEnter.value _
        · exact NoEnter.value _
      · exact NoEnter.value _
  · cases h
section
variable {F : Fence} {n : Nat} {P : Program} {ops : Array Oper} {md : Region.Mode} {w : World}
theorem calm_about {o : Oper} (h : calmB o = true) (w : World) (ρ : Operand → Value) : o.about P w ρ = none := by
  unfold calmB at h
  unfold Oper.about
  split at h <;> first | (rename_i heq; rw [heq]) | cases h
theorem calm_sem {o : Oper} (h : calmB o = true) (r : Option Nat) (ρ : Operand → Value) : Oper.semAt r ρ o = execOp ρ o := Oper.semAt_eq r ρ o (fun c e => by unfold calmB at h; rw [e] at h; cases h)
theorem wpIn_of_still {o : Oper} (hc : calmB o = true) {a : Act} {K : Act → Prop} {K' : Act → World → Prop} {Q' : Exit → Act → World → Prop} (h : ∀ a, K a → K' a w) (hh : o.still P a w K) : o.wpIn F n P a w K' Q' := by
  unfold Oper.still at hh
  unfold Oper.wpIn
  refine ⟨fun f hf => (by rw [calm_about hc] at hf; cases hf), ?_⟩
  rw [calm_sem hc]
  have hne := calm_noEnter hc a.eval P w
  generalize (execOp a.eval o).run P w = r at *
  cases r with
  | ok x w' =>
    cases x <;> simp only [Oper.stillUpon] at hh <;> simp only [Oper.uponIn]
    case value u =>
      obtain ⟨rfl, h2⟩ := hh
      exact h _ h2
    case skip =>
      obtain ⟨rfl, h2⟩ := hh
      exact h _ h2
    case enter f args => exact absurd rfl (hne f args w')
  | halt x w' => simp only [Oper.stillUpon] at hh
theorem wpOpIn_of_stOp {i : Nat} (hc : ∀ o, ops[i]? = some o → calmB o = true) {a : Act} {K : Act → Prop} {K' : Act → World → Prop} {Q' : Exit → Act → World → Prop} (h : ∀ a, K a → K' a w) (hh : stOp P ops w i K a) : wpOpIn F n P ops Q' i K' a w := by
  unfold stOp at hh
  unfold wpOpIn
  split
  · rename_i ho; simp only [ho] at hh; exact h _ hh
  · rename_i o ho
    simp only [ho] at hh
    split
    · rename_i hw; simp only [hw, if_true] at hh; exact wpIn_of_still (hc o ho) h hh
    · rename_i hw; simp only [hw] at hh; exact ⟨fun f hf => (by rw [calm_about (hc o ho)] at hf; cases hf), h _ hh⟩
theorem wpAnyIn_of_head {k g : Nat} {L : Array Bool → Act → Prop} {Q' : Exit → Act → World → Prop} (hc : ∀ i o, i < k → ops[i]? = some o → calmB o = true) (hL : ∀ listed a, L listed a → wpAnyIn F n P md ops Q' g listed a w) :
    ∀ (f : Nat) (listed : Array Bool) (a : Act), wpAnyL P md ops w k L f listed a → wpAnyIn F n P md ops Q' (f + g) listed a w
  | 0, listed, a, h => by rw [Nat.zero_add]; exact hL _ _ h
  | f + 1, listed, a, h => by
    rw [show f + 1 + g = (f + g) + 1 by omega]
    exact ⟨fun h0 => absurd h0 h.1, fun i hi => wpOpIn_of_stOp (fun o ho => hc i o (h.2 i hi).1 ho) (fun a' h' => wpAnyIn_of_head hc hL f _ a' h') (h.2 i hi).2⟩
theorem wpAnyIn_of_seq {Q' : Exit → Act → World → Prop} : ∀ (l : List Oper) (k : Nat) (listed : Array Bool) (a : Act) (w : World), (∀ j, l[j]? = ops[k + j]?) →
    Region.seqB md ops l.length k listed = true → wpListIn F n P ops Q' l a w → wpAnyIn F n P md ops Q' l.length listed a w
  | [], _, _, _, _, _, hB, h => ⟨by simpa [Region.seqB] using hB, h⟩
  | o :: l, k, listed, a, w, hl, hB, h => by
    have h0 : ops[k]? = some o := by simpa using (hl 0).symm
    simp only [List.length_cons, Region.seqB, Bool.and_eq_true, decide_eq_true_eq] at hB
    refine ⟨fun h1 => (by rw [hB.1] at h1; cases h1), fun i hi => ?_⟩
    rw [hB.1] at hi
    have hik : i = k := by simpa using hi
    subst hik
    have hw : wpOpIn F n P ops Q' i (wpListIn F n P ops Q' l) a w := by unfold wpOpIn; simp only [h0]; exact h
    exact wpOpIn_mono (fun a' w' h' => wpAnyIn_of_seq l (i + 1) _ a' w' (fun j => by have := hl (j + 1); simpa [Nat.add_assoc, Nat.add_comm 1 j] using this) hB.2 h') hw
theorem wpIn_region_still_tail {id : Nat} {Q : Exit → Act → World → Prop} {a : Act} {l : List Oper} (k : Nat) (hm : P.follows .mixedOrders = true) (hB : Region.lexTailB .any l.toArray k = true) (hcm : (l.take k).all calmB = true)
    (h : wpStill P l.toArray { w with drawn := w.drawn + 1 } (fun a' => wpListIn F n P l.toArray Q (l.drop k) a' { w with drawn := w.drawn + 1 }) (l.take k) a) : (Code.region id l.toArray true).wpIn F n P Q a w := by
  simp only [Region.lexTailB, Bool.and_eq_true, decide_eq_true_eq] at hB
  obtain ⟨⟨⟨⟨hsel, hn⟩, hs⟩, hc⟩, hlex⟩ := hB
  have hn' : k < l.length := by simpa using hn
  have htl : (l.take k).length = k := by simp; omega
  have hdl : (l.drop k).length = l.toArray.size - k := by simp
  have inv0 : HeadInv .any l.toArray k (Array.replicate l.toArray.size false) :=
    ⟨by simp, fun j oj _ hl => (by rw [getD_replicate_false] at hl; cases hl), fun t _ ht => getD_in (by simpa using ht) (getD_replicate_false _ _)⟩
  have H := wpAnyL_lex (md := .any) (g := l.toArray.size - k) hsel hs hc hn (l.take k) 0 _ a (fun j hj => by
    have hj' : j < k := by rw [htl] at hj; exact hj
    simp [hj']) (by simpa using htl) inv0 (by rw [htl]; exact hlex) h
  refine wpIn_region_any hm ?_
  have := wpAnyIn_of_head (F := F) (n := n) (Q' := Q) (g := l.toArray.size - k) (fun i o hi ho => List.all_eq_true.1 hcm o (List.mem_of_getElem? (by rw [List.getElem?_take, if_pos hi]; simpa using ho))) (fun listed a' hL => by
    have := wpAnyIn_of_seq (F := F) (n := n) (md := .any) (Q' := Q) (l.drop k) k listed a' { w with drawn := w.drawn + 1 } (fun j => by simp [List.getElem?_drop]) (by rw [hdl]; exact hL.1) hL.2
    rwa [hdl] at this) _ _ _ H
  rw [htl, show k + (l.toArray.size - k) = l.toArray.size by omega] at this
  exact this
end
end Go.Proofs.Ytfmllmcjinjfaaa

namespace Go.Proofs.Ytfmllmcjinjfaaa
open Go Go.RowKit Go.Shelf
set_option linter.unusedVariables false
set_option linter.unusedSimpArgs false
attribute [local go_sem] Oper.semAt_some
theorem infoI : (Try.prog.info? 3).map (fun i => (i.zero, i.size, i.bytes)) = some (some (.int .i64 0), 1, 8) := by kernel_rfl
theorem make_in (N : Nat) (hN : N ≤ 1000) (w : World) : (Instr.makeSlice 23 (.int .i64 (N : Int)) (.int .i64 (N : Int))).run Try.prog w = .ok (.slice (some ⟨w.heap.size, 0, none⟩) N N) (w.alloc (.cells (madeCells #[.int .i64 0] N) 3)) := by
  obtain ⟨i0, hi, hz0, hz1, hz2⟩ := info_parts infoI
  have h := run_make (P := Try.prog) w 23 3 i0 (.int .i64 0) Try.underlying23 hi hz0 .i64 .i64 (N : Int) (N : Int) (by omega) (Int.le_refl _) (by rw [hz2]; omega) (by omega)
  rw [hz1, Int.toNat_natCast, Nat.mul_one] at h
  exact h
theorem cellA {w : World} {a : Addr} {v : Value} (h : w.cell? a = some v) (o : Obj) : (w.alloc o).cell? a = some v := cell_kept h (World.grownBy_alloc w o none) (fun r e => by cases e)
def IntsAt (W : World) (b : Nat) (l : List Int) : Prop := W.heap[b]? = some (.cells (l.map fun k => Value.int .i64 k).toArray 3 (0, 0))
theorem IntsAt.cell {W : World} {b : Nat} {l : List Int} (h : IntsAt W b l) {j : Nat} (hj : j < l.length) : W.cell? ⟨b, j, none⟩ = some (.int .i64 (l[j]?.getD 0)) := by
  unfold IntsAt at h
  simp [World.cell?, h, hj]
theorem IntsAt.frz {W : World} {b : Nat} {l : List Int} (h : IntsAt W b l) (j : Nat) : W.frozen? ⟨b, j, none⟩ = false := by
  unfold IntsAt at h
  simp [World.frozen?, h]
theorem IntsAt.set {W : World} {b : Nat} {l : List Int} (h : IntsAt W b l) (j : Nat) (x : Int) : IntsAt (W.setCell ⟨b, j, none⟩ (.int .i64 x)) b (l.set j x) := by
  unfold IntsAt at *
  simp only [World.setCell, Array.getElem?_modify, h, if_pos rfl, Option.map_some]
  simp [List.map_set]
theorem IntsAt.kept {A B : World} {row : Option Nat} {b : Nat} {l : List Int} (h : IntsAt A b l) (hg : A.grownBy B row) (hr : ∀ r, row = some r → ∃ o : Obj, A.heap[r]? = some o ∧ o.isCells = false) : IntsAt B b l :=
  (grownBy_keeps_cells hg hr h rfl).trans h
theorem IntsAt.new (w : World) (N : Nat) : IntsAt (w.alloc (.cells (madeCells #[.int .i64 0] N) 3)) w.heap.size (List.replicate N 0) := by
  unfold IntsAt
  have : madeCells #[Value.int .i64 0] N = ((List.replicate N (0 : Int)).map fun k => Value.int .i64 k).toArray := by
    apply Array.ext'
    simp only [madeCells, Array.toList_map, Array.toList_range, List.map_replicate]
    refine List.ext_getElem (by simp) fun i h1 h2 => ?_
    simp [Nat.mod_one]
  rw [this]
  exact World.alloc_heap_new w _
theorem IntsAt.alloc {W : World} {b : Nat} {l : List Int} (h : IntsAt W b l) (o : Obj) : IntsAt (W.alloc o) b l := h.kept (World.grownBy_alloc W o none) (fun r e => by cases e)
theorem setFar (W : World) (p a : Addr) (v : Value) (h : p.block ≠ a.block) : (W.setCell a v).cell? p = W.cell? p := World.cell?_setCell_other _ _ _ _ (fun e => h (by rw [e]))
abbrev Nm (N : Nat) : Type := { x : Nat × Nat // x.2 < N }
def szStep (DM : List Int) (out : List Int) (n : Nat) : List Int :=
  if 0 ≤ DM[n]?.getD 0 then (out.set n (wrap64 (out[n]?.getD 0 + 1))).set (DM[n]?.getD 0).toNat (wrap64 ((out.set n (wrap64 (out[n]?.getD 0 + 1)))[(DM[n]?.getD 0).toNat]?.getD 0 + (out.set n (wrap64 (out[n]?.getD 0 + 1)))[n]?.getD 0))
  else out.set n (wrap64 (out[n]?.getD 0 + 1))
def szRun {N : Nat} (DM : List Int) (l : List (Nm N)) : List Int := l.foldl (fun out x => szStep DM out x.1.2) (List.replicate N 0)
theorem szRun_snoc {N : Nat} {DM : List Int} {l : List (Nm N)} {x : Nm N} : szRun DM (l ++ [x]) = szStep DM (szRun DM l) x.1.2 := by simp [szRun]
theorem szStep_len {DM out : List Int} {n : Nat} : (szStep DM out n).length = out.length := by
  unfold szStep; split <;> simp
theorem szRun_len {N : Nat} {DM : List Int} {l : List (Nm N)} : (szRun DM l).length = N := by
  unfold szRun
  have h : ∀ (l : List (Nm N)) (o : List Int), (l.foldl (fun out x => szStep DM out x.1.2) o).length = o.length := by
    intro l
    induction l with
    | nil => intro o; rfl
    | cons x l ih => intro o; rw [List.foldl_cons, ih, szStep_len]
  rw [h]; simp

def SzI (w : World) (bt ot bd od cd : Nat) (DM : List Int) (pre : List (Nm DM.length)) (W : World) : Prop :=
  W.cell? ⟨w.heap.size, 0, none⟩ = some (.pointer (some ⟨bt, ot, none⟩)) ∧ W.cell? ⟨w.heap.size + 1 + 1, 0, none⟩ = some (.slice (some ⟨w.heap.size + 1, 0, none⟩) DM.length DM.length) ∧ W.cell? ⟨bt, ot + 5, none⟩ = some (.slice (some ⟨bd, od, none⟩) DM.length cd) ∧ (∀ j, j < DM.length → W.cell? ⟨bd, od + j, none⟩ = some (.int .i64 (DM[j]?.getD 0))) ∧ IntsAt W (w.heap.size + 1) (szRun DM pre)
theorem szEnd {w W Wf : World} {bt ot bd od cd b B : Nat} {DM O : List Int} {xs : List (Nm DM.length)} {a : Act} (hbt : bt < w.heap.size) (hbd : bd < w.heap.size) (hb : b < w.heap.size) (hh : ∀ j, j ≠ w.heap.size + 1 → Wf.heap[j]? = W.heap[j]?) (hs : Wf.heap.size = W.heap.size)
    (c1 : W.cell? ⟨w.heap.size, 0, none⟩ = some (.pointer (some ⟨bt, ot, none⟩))) (c2 : W.cell? ⟨w.heap.size + 1 + 1, 0, none⟩ = some (.slice (some ⟨w.heap.size + 1, 0, none⟩) DM.length DM.length)) (c3 : W.cell? ⟨bt, ot + 5, none⟩ = some (.slice (some ⟨bd, od, none⟩) DM.length cd)) (c4 : ∀ j, j < DM.length → W.cell? ⟨bd, od + j, none⟩ = some (.int .i64 (DM[j]?.getD 0)))
    (c5 : IntsAt W (w.heap.size + 1) O) (c6 : IntsAt Wf (w.heap.size + 1) (szRun DM xs)) (hB : Below w.heap.size w Wf) :
    ownPostG B (CellsAt fun k => k = b ∨ k = w.heap.size + 1 + 1 + 1) (fun pre W => SzI w bt ot bd od cd DM pre W ∧ Below w.heap.size w W) (fun _ _ _ => False) xs W .normal a Wf := by
  refine ⟨⟨by omega, fun k o _ hk ho => ?_⟩, fun q v hq hv => ?_, ⟨?_, ?_, ?_, fun j hj => ?_, c6⟩, hB⟩
  · by_cases e : k = w.heap.size + 1
    · subst e; rw [c5] at hk; cases hk; cases ho
    · rw [hh k e]; exact hk
  · exact (World.cell?_of_block (hh _ (by rcases hq with h | h <;> omega))).trans hv
  · exact (World.cell?_of_block (hh _ (by show w.heap.size ≠ _; omega))).trans c1
  · exact (World.cell?_of_block (hh _ (by show w.heap.size + 1 + 1 ≠ _; omega))).trans c2
  · exact (World.cell?_of_block (hh _ (by show bt ≠ _; omega))).trans c3
  · exact (World.cell?_of_block (hh _ (by show bd ≠ _; omega))).trans (c4 j hj)
set_option maxRecDepth 100000 in
set_option maxHeartbeats 2000000 in
theorem sizes_in (F : Fence) (n : Nat) (h24 : F.fn 24) (h42 : F.fn 42) (h52 : F.fn 52) (hro : F.round = none) (hn : 3 ≤ n) (bt ot bd od cd b off cap : Nat) (DM : List Int) (nm : List (Nm DM.length)) (w : World)
    (hd : w.cell? ⟨bt, ot + 5, none⟩ = some (.slice (some ⟨bd, od, none⟩) DM.length cd)) (ho : w.cell? ⟨bt, ot + 3, none⟩ = some (.slice (some ⟨b, off, none⟩) nm.length cap))
    (hdm : ∀ j, j < DM.length → w.cell? ⟨bd, od + j, none⟩ = some (.int .i64 (DM[j]?.getD 0))) (hzs : ∀ (j : Nat) (h : j < nm.length), w.cell? ⟨b, off + j, none⟩ = some (.int .i64 ((nm[j].1.2 : Nat) : Int)))
    (hN : DM.length ≤ 1000) (hz : nm.length ≤ 1000) (hN0 : 0 < DM.length) (hb : b < w.heap.size) (hDM : ∀ x ∈ DM, x < (DM.length : Int)) :
    CallsIn F n Try.prog 24 #[.pointer (some ⟨bt, ot, none⟩)] w fun e W' =>
      e = .returned (.slice (some ⟨w.heap.size + 1, 0, none⟩) DM.length DM.length) ∧ IntsAt W' (w.heap.size + 1) (szRun DM (bkP (fun j => if h : j < nm.length then (⟨(j, nm[j].1.2), nm[j].2⟩ : Nm DM.length) else ⟨(0, 0), hN0⟩) nm.length nm.length)) ∧ Below w.heap.size w W' := by
  have h1 : 1 ≤ n := by omega
  refine callsIn_of_wp_marks Try.func24 rfl h24 ?_ hro
  simp only [Try.ntmps24, List.size_toArray, List.length_cons, List.length_nil, Nat.reduceAdd, Nat.reduceSub, Array.replicate_succ, Array.replicate_zero, List.push_toArray, List.append_toArray, List.nil_append, List.cons_append]
  have hmk := make_in DM.length hN
  have k0 := fun o => cellA hd o
  have k1 := fun o o2 => cellA (k0 o) o2
  have k2 := fun o o2 o3 => cellA (k1 o o2) o3
  have p0 := fun o => cellA ho o
  have p1 := fun o o2 => cellA (p0 o) o2
  have p2 := fun o o2 o3 => cellA (p1 o o2) o3
  gi_wp2_with (gi_at_call 42; refine (bk_in F (n - 1) h42 hro _ _ _ _).mono ?_; rintro e w' ⟨rfl, rfl⟩)
  obtain ⟨zs, hzz⟩ : ∃ zs : List Int, zs = nm.map fun x => ((x.1.2 : Nat) : Int) := ⟨_, rfl⟩
  have hzl : zs.length = nm.length := by rw [hzz]; simp
  obtain ⟨W0, hW0⟩ : ∃ W0, W0 = ((((w.alloc (.cells #[.pointer (some ⟨bt, ot, none⟩)] 47)).alloc (.cells (madeCells #[.int .i64 0] DM.length) 3)).alloc (.cells #[.slice (some ⟨w.heap.size + 1, 0, none⟩) DM.length DM.length] 23)).alloc (.cells #[.slice (some ⟨b, off, none⟩) nm.length cap] 23)) := ⟨_, rfl⟩
  rw [← hW0]
  have hsz : W0.heap.size = w.heap.size + 4 := by rw [hW0]; simp
  have q0 : W0.cell? ⟨w.heap.size, 0, none⟩ = some (.pointer (some ⟨bt, ot, none⟩)) := by
    rw [hW0]; exact cellA (cellA (cellA ((World.cell?_alloc_at _ _ _ _ rfl).trans rfl) _) _) _
  have q2 : W0.cell? ⟨w.heap.size + 1 + 1, 0, none⟩ = some (.slice (some ⟨w.heap.size + 1, 0, none⟩) DM.length DM.length) := by
    rw [hW0]; exact cellA ((World.cell?_alloc_at _ _ _ _ (by simp)).trans rfl) _
  have q3 : W0.cell? ⟨w.heap.size + 1 + 1 + 1, 0, none⟩ = some (.slice (some ⟨b, off, none⟩) nm.length cap) := by
    rw [hW0]; exact (World.cell?_alloc_at _ _ _ _ (by simp)).trans rfl
  have q1 : IntsAt W0 (w.heap.size + 1) (szRun DM ([] : List (Nm DM.length))) := by
    have h := IntsAt.new (w.alloc (.cells #[.pointer (some ⟨bt, ot, none⟩)] 47)) DM.length
    rw [World.size_alloc] at h
    rw [hW0]; exact (h.alloc _).alloc _
  have hB0 : Below w.heap.size w W0 := by
    rw [hW0]
    exact (((((Below.refl _ w).alloc (Nat.le_refl _) _).alloc (by simp) _).alloc (by simp; omega) _).alloc (by simp; omega) _)
  have hbt : bt < w.heap.size := by obtain ⟨o, ho, _⟩ := cells_of_cell hd; exact (Array.getElem?_eq_some_iff.1 ho).1
  have hbd : bd < w.heap.size := by obtain ⟨o, ho, _⟩ := cells_of_cell (hdm 0 hN0); exact (Array.getElem?_eq_some_iff.1 ho).1
  have hd0 := (hB0.cell (p := ⟨bt, ot + 5, none⟩) hbt).trans hd
  have hm0 : ∀ j, j < DM.length → W0.cell? ⟨bd, od + j, none⟩ = some (.int .i64 (DM[j]?.getD 0)) := fun j hj => (hB0.cell (p := ⟨bd, od + j, none⟩) hbd).trans (hdm j hj)
  have hz0 : ∀ j, j < zs.length → W0.cell? ⟨b, off + j, none⟩ = some (.int .i64 (zs[j]?.getD 0)) := fun j hj => by
    have hj' : j < nm.length := hzl ▸ hj
    refine (hB0.cell (p := ⟨b, off + j, none⟩) hb).trans ((hzs j hj').trans ?_)
    rw [hzz]; simp [hj']
  refine wpIn_rangeFunc_ownG hro h1 (gf := 52) (lb := #[.pointer (some ⟨w.heap.size + 1 + 1 + 1, 0, none⟩)]) rfl h52 (enters_of Try.func52 (by kernel_rfl) rfl)
    (bk_stops (fun j => if h : j < nm.length then (⟨(j, nm[j].1.2), nm[j].2⟩ : Nm DM.length) else ⟨(0, 0), hN0⟩) (fun x => #[Value.int .i64 ((x.1.1 : Nat) : Int), Value.int .i64 ((x.1.2 : Nat) : Int)]) F (n - 1) h52 hro (by omega) (fun k => k = b ∨ k = w.heap.size + 1 + 1 + 1) (w.heap.size + 1 + 1 + 1) b off cap zs (by omega) W0 (by omega) (by omega) (.inl rfl) (.inr rfl)
      (fun j hj => by simp [show j < nm.length by omega, hzz]) (by rw [hzl]; exact q3) hz0)
    CellsAt.trans (fun W l o o' _ hl hc _ => CellsAt.putObj W l o o' hl hc) (Below.refl _ _) (fun _ => rfl)
    (fun pre W => SzI w bt ot bd od cd DM pre W ∧ Below w.heap.size w W)
    (fun _ _ _ => False)
    (OwnFrom.and (Own.from (fun s A B row hs hg hr => ⟨cell_kept hs.1 hg hr, cell_kept hs.2.1 hg hr, cell_kept hs.2.2.1 hg hr, fun j hj => cell_kept (hs.2.2.2.1 j hj) hg hr, hs.2.2.2.2.kept hg hr⟩) _) (ownFrom_below (Nat.le_refl _) (by omega)))
    (fun _ _ _ _ _ hs _ _ => hs)
    ⟨⟨q0, q2, hd0, hm0, q1⟩, hB0⟩
    (fun x => { tmps := #[.pointer (some ⟨bt, ot, none⟩), .pointer (some ⟨w.heap.size, 0, none⟩), .slice none 0 0, .pointer (some ⟨w.heap.size + 1 + 1, 0, none⟩), undef, .int .i64 ((x.1.2 : Nat) : Int), .pointer (some ⟨bt, ot, none⟩), .pointer (some ⟨bt, ot, none⟩), .pointer (some ⟨bt, ot + 5, none⟩), .slice (some ⟨bd, od, none⟩) DM.length cd, .int .i64 (DM.length : Int), .slice (some ⟨w.heap.size + 1, 0, none⟩) DM.length DM.length, .pointer (some ⟨bt, ot, none⟩), .pointer (some ⟨bt, ot, none⟩), .pointer (some ⟨bt, ot + 3, none⟩), .slice (some ⟨b, off, none⟩) nm.length cap, .func (.func 52) #[] #[.pointer (some ⟨w.heap.size + 1 + 1 + 1, 0, none⟩)], .int .i64 ((x.1.1 : Nat) : Int), .int .i64 ((x.1.2 : Nat) : Int), undef, undef, undef, undef, undef, undef, undef, undef, undef, undef, undef, undef, undef, undef, undef, undef, undef, undef, undef, undef, undef, undef, undef, undef, undef, undef, undef, undef, undef, undef, undef], defers := [] }) ?assign ?body ?done ?stop
  case assign =>
    intro l x W K hK
    gi_wp2
    exact hK
  case body =>
    rintro l pre ⟨⟨ix, th⟩, hth0⟩ W ⟨⟨c1, c2, c3, c4, c5⟩, hB⟩ _
    have hth : th < DM.length := hth0
    obtain ⟨O, hO⟩ : ∃ O, O = szRun DM pre := ⟨_, rfl⟩
    have hstep : szRun DM (pre ++ [(⟨(ix, th), hth0⟩ : Nm DM.length)]) = szStep DM O th := by rw [hO]; exact szRun_snoc
    rw [← hO] at c5
    have hOl : O.length = DM.length := by rw [hO]; exact szRun_len
    clear hO
    have d1 : W.cell? ⟨bd, od + th, none⟩ = some (.int .i64 (DM[th])) := by have := c4 th hth; simpa [hth] using this
    have hx : ∃ x, x = O[th]?.getD 0 := ⟨_, rfl⟩
    obtain ⟨x, hx⟩ := hx
    have d2 := c5.cell (j := th) (by omega)
    rw [← hx] at d2
    have d3 := c5.frz th
    have f1 := fun v => (setFar W ⟨w.heap.size, 0, none⟩ ⟨w.heap.size + 1, th, none⟩ v (by simp)).trans c1
    have f2 := fun v => (setFar W ⟨w.heap.size + 1 + 1, 0, none⟩ ⟨w.heap.size + 1, th, none⟩ v (by simp)).trans c2
    have f3 := fun v => (setFar W ⟨bt, ot + 5, none⟩ ⟨w.heap.size + 1, th, none⟩ v (by simp; omega)).trans c3
    have f4 := fun v => (setFar W ⟨bd, od + th, none⟩ ⟨w.heap.size + 1, th, none⟩ v (by simp; omega)).trans d1
    have f5 : ∀ y, IntsAt (W.setCell ⟨w.heap.size + 1, th, none⟩ (.int .i64 y)) (w.heap.size + 1) (O.set th y) := fun y => c5.set th y
    have hKp : ∀ (W W' : World), (∀ k, k ≠ w.heap.size + 1 → W'.heap[k]? = W.heap[k]?) → W'.heap.size = W.heap.size → True := fun _ _ _ _ => trivial
    by_cases hpos : 0 ≤ DM[th]
    · obtain ⟨k, hk⟩ : ∃ k : Nat, DM[th] = (k : Int) := ⟨DM[th].toNat, by omega⟩
      have hkN : k < DM.length := by have := hDM _ (List.getElem_mem hth); omega
      rw [hk] at d1 f4
      have g5 := fun y => (f5 y).cell (j := th) (by simp; omega)
      have g6 := fun y => (f5 y).cell (j := k) (by simp; omega)
      have g7 := fun y => (f5 y).frz k
      have e0 : O[th]? = some x := by rw [hx]; simp [show th < O.length by omega]
      obtain ⟨z, hz⟩ : ∃ z : Int → Int, ∀ y, z y = (O.set th y)[k]?.getD 0 := ⟨_, fun _ => rfl⟩
      have g6' : ∀ y, (W.setCell ⟨w.heap.size + 1, th, none⟩ (.int .i64 y)).cell? ⟨w.heap.size + 1, k, none⟩ = some (.int .i64 (z y)) := fun y => by rw [hz]; exact g6 y
      have g5' : ∀ y, (W.setCell ⟨w.heap.size + 1, th, none⟩ (.int .i64 y)).cell? ⟨w.heap.size + 1, th, none⟩ = some (.int .i64 y) := fun y => by rw [g5 y]; simp [show th < O.length by omega]
      clear g5 g6 f5 e0
      have HX := Lib.hid hx
      have HK := Lib.hid hk
      have HS := Lib.hid hstep
      clear hx hk hpos hstep
      gi_wp2
      have hx := HX.out
      have hk := HK.out
      have hstep := HS.out
      obtain ⟨v1, hv1⟩ : ∃ v1, v1 = wrap64 (x + 1) := ⟨_, rfl⟩
      rw [← hv1]
      obtain ⟨W1, hW1⟩ : ∃ W1, W1 = W.setCell ⟨w.heap.size + 1, th, none⟩ (.int .i64 v1) := ⟨_, rfl⟩
      rw [← hW1]
      refine wpIn_region_still_tail 16 (by kernel_rfl) (by kernel_rfl) (by kernel_rfl) ?_
      obtain ⟨wd, hwd⟩ : ∃ wd, wd = ({ W1 with drawn := W1.drawn + 1 } : World) := ⟨_, rfl⟩
      rw [← hwd]
      have k1 : wd.cell? ⟨w.heap.size, 0, none⟩ = some (.pointer (some ⟨bt, ot, none⟩)) := by rw [hwd, hW1]; exact f1 _
      have k2 : wd.cell? ⟨w.heap.size + 1 + 1, 0, none⟩ = some (.slice (some ⟨w.heap.size + 1, 0, none⟩) DM.length DM.length) := by rw [hwd, hW1]; exact f2 _
      have k3 : wd.cell? ⟨bt, ot + 5, none⟩ = some (.slice (some ⟨bd, od, none⟩) DM.length cd) := by rw [hwd, hW1]; exact f3 _
      have k4 : wd.cell? ⟨bd, od + th, none⟩ = some (.int .i64 (k : Int)) := by rw [hwd, hW1]; exact f4 _
      have k5 : wd.cell? ⟨w.heap.size + 1, th, none⟩ = some (.int .i64 v1) := by rw [hwd, hW1]; exact g5' _
      have k6 : wd.cell? ⟨w.heap.size + 1, k, none⟩ = some (.int .i64 (z v1)) := by rw [hwd, hW1]; exact g6' _
      have k7 : wd.frozen? ⟨w.heap.size + 1, k, none⟩ = false := by rw [hwd, hW1]; exact g7 _
      have fin : ∀ (y : Int) (a : Act), y = wrap64 (z v1 + v1) → ownPostG W0.heap.size (CellsAt fun k => k = b ∨ k = w.heap.size + 1 + 1 + 1) (fun pre W => SzI w bt ot bd od cd DM pre W ∧ Below w.heap.size w W) (fun _ _ _ => False) (pre ++ [(⟨(ix, th), hth0⟩ : Nm DM.length)]) W .normal a (wd.setCell ⟨w.heap.size + 1, k, none⟩ (.int .i64 y)) := fun y a hy => by
        have hbl : ∀ j, j ≠ w.heap.size + 1 → (wd.setCell ⟨w.heap.size + 1, k, none⟩ (.int .i64 y)).heap[j]? = W.heap[j]? := fun j hj => by
          rw [Below.heap_setCell _ _ _ _ hj, hwd, hW1]; exact Below.heap_setCell W _ _ _ hj
        have hI : IntsAt wd (w.heap.size + 1) (O.set th v1) := by rw [hwd, hW1]; exact c5.set th v1
        refine szEnd hbt hbd hb hbl (by rw [World.size_setCell, hwd, hW1]; exact World.size_setCell ..) c1 c2 c3 c4 c5 ?_ ?_
        · rw [hstep]; unfold szStep; rw [if_pos (by simp [hth, hk])]
          have e1 : DM[th]?.getD 0 = (k : Int) := by simp [hth, hk]
          rw [e1, ← hx, ← hv1, Int.toNat_natCast]
          have e2 : wrap64 ((O.set th v1)[k]?.getD 0 + (O.set th v1)[th]?.getD 0) = y := by rw [hy, hz v1]; simp [show th < O.length by omega]
          rw [e2]
          exact hI.set k y
        · have h1 := hB.setCell (p := ⟨w.heap.size + 1, th, none⟩) (by simp) (.int .i64 v1)
          rw [← hW1] at h1
          have h2 : Below w.heap.size w wd := by rw [hwd]; exact h1.drew
          exact h2.setCell (p := ⟨w.heap.size + 1, k, none⟩) (by simp) _
      clear hx hk hstep f1 f2 f3 f4 g5' g6' g7 hW1 hwd c1 c2 c3 c4 c5 d1 d2 d3 hd ho hdm hzs hzz q0 q1 q2 q3 hd0 hm0 hz0
      simp only [List.take, List.drop]
      iterate 16 (refine wpStill_step fun K hK => ?_; simp [go_sem, Oper.still, Oper.stillUpon, k1, k2, k3, k4, k5, k6, hth, hkN]; refine hK _ ?_; clear hK K)
      refine wpStill_nil ?_
      gi_wp2
      exact fin _ _ (by rw [hz, hv1]; simp [show k < O.length by omega])
    · have hneg : DM[th] < 0 := by omega
      have fin : ∀ (y : Int) (a : Act), y = wrap64 (O[th]?.getD 0 + 1) → ownPostG W0.heap.size (CellsAt fun k => k = b ∨ k = w.heap.size + 1 + 1 + 1) (fun pre W => SzI w bt ot bd od cd DM pre W ∧ Below w.heap.size w W) (fun _ _ _ => False) (pre ++ [(⟨(ix, th), hth0⟩ : Nm DM.length)]) W .normal a (W.setCell ⟨w.heap.size + 1, th, none⟩ (.int .i64 y)) := fun y a hy => by
        refine szEnd hbt hbd hb (fun j hj => Below.heap_setCell W _ _ _ hj) (World.size_setCell ..) c1 c2 c3 c4 c5 ?_ ?_
        · rw [hstep]; unfold szStep; rw [if_neg (by simp [hth]; omega), ← hy]
          exact f5 y
        · exact hB.setCell (p := ⟨w.heap.size + 1, th, none⟩) (by simp) _
      have HS := Lib.hid hstep
      clear f5 hstep
      gi_wp2
      rw [hsz] at fin
      exact fin _ _ (by simp [show th < O.length by omega])
  case done =>
    rintro D ys W hD rfl ⟨⟨c1, c2, c3, c4, c5⟩, hB⟩ hK
    gi_wp2
    refine ⟨by simp, .inl ⟨_, _, rfl, run_takeDeferred hK, ?_⟩⟩
    exact ⟨_, results_tmp rfl _ _ _, rfl, (by rw [hzl] at c5; exact c5.kept (grownBy_putObj' W D (.deferred none)) (fun r e => by cases e; exact ⟨_, hK, rfl⟩)), hB.trans (belowK_b (w := w) (Nat.le_refl _) W D _ _ (by omega) hK rfl rfl)⟩
  case stop =>
    rintro D c pre W _ _ h _
    exact h.elim
end Go.Proofs.Ytfmllmcjinjfaaa

namespace Go.Proofs.Ytfmllmcjinjfaaa
open Go Go.RowKit Go.Shelf
set_option linter.unusedVariables false
set_option linter.unusedSimpArgs false
attribute [local go_sem] Oper.semAt_some
set_option maxRecDepth 100000 in
set_option maxHeartbeats 2000000 in
theorem sizes0_in (F : Fence) (n : Nat) (h24 : F.fn 24) (h42 : F.fn 42) (h52 : F.fn 52) (hro : F.round = none) (hn : 3 ≤ n) (bt ot N cd co : Nat) (ad ao : Option Addr) (w : World)
    (hd : w.cell? ⟨bt, ot + 5, none⟩ = some (.slice ad N cd)) (ho : w.cell? ⟨bt, ot + 3, none⟩ = some (.slice ao 0 co)) (hN : N ≤ 1000) :
    CallsIn F n Try.prog 24 #[.pointer (some ⟨bt, ot, none⟩)] w fun e W' =>
      e = .returned (.slice (some ⟨w.heap.size + 1, 0, none⟩) N N) ∧ IntsAt W' (w.heap.size + 1) (List.replicate N 0) ∧ Below w.heap.size w W' := by
  have h1 : 1 ≤ n := by omega
  refine callsIn_of_wp_marks Try.func24 rfl h24 ?_ hro
  simp only [Try.ntmps24, List.size_toArray, List.length_cons, List.length_nil, Nat.reduceAdd, Nat.reduceSub, Array.replicate_succ, Array.replicate_zero, List.push_toArray, List.append_toArray, List.nil_append, List.cons_append]
  have hmk := make_in N hN
  have k0 := fun o => cellA hd o
  have k1 := fun o o2 => cellA (k0 o) o2
  have k2 := fun o o2 o3 => cellA (k1 o o2) o3
  have p0 := fun o => cellA ho o
  have p1 := fun o o2 => cellA (p0 o) o2
  have p2 := fun o o2 o3 => cellA (p1 o o2) o3
  gi_wp2_with (gi_at_call 42; refine (bk_in F (n - 1) h42 hro _ _ _ _).mono ?_; rintro e w' ⟨rfl, rfl⟩)
  obtain ⟨W0, hW0⟩ : ∃ W0, W0 = ((((w.alloc (.cells #[.pointer (some ⟨bt, ot, none⟩)] 47)).alloc (.cells (madeCells #[.int .i64 0] N) 3)).alloc (.cells #[.slice (some ⟨w.heap.size + 1, 0, none⟩) N N] 23)).alloc (.cells #[.slice ao 0 co] 23)) := ⟨_, rfl⟩
  rw [← hW0]
  have hsz : W0.heap.size = w.heap.size + 4 := by rw [hW0]; simp
  have q2 : W0.cell? ⟨w.heap.size + 1 + 1, 0, none⟩ = some (.slice (some ⟨w.heap.size + 1, 0, none⟩) N N) := by
    rw [hW0]; exact cellA ((World.cell?_alloc_at _ _ _ _ (by simp)).trans rfl) _
  have q3 : W0.cell? ⟨w.heap.size + 1 + 1 + 1, 0, none⟩ = some (.slice ao 0 co) := by
    rw [hW0]; exact (World.cell?_alloc_at _ _ _ _ (by simp)).trans rfl
  have q1 : IntsAt W0 (w.heap.size + 1) (List.replicate N 0) := by
    have h := IntsAt.new (w.alloc (.cells #[.pointer (some ⟨bt, ot, none⟩)] 47)) N
    rw [World.size_alloc] at h
    rw [hW0]; exact (h.alloc _).alloc _
  have hB0 : Below w.heap.size w W0 := by
    rw [hW0]
    exact (((((Below.refl _ w).alloc (Nat.le_refl _) _).alloc (by simp) _).alloc (by simp; omega) _).alloc (by simp; omega) _)
  have hst : SeqStopsK F (n - 1) Try.prog 52 #[.pointer (some ⟨w.heap.size + 1 + 1 + 1, 0, none⟩)] (fun x : Nat × Nat => #[Value.int .i64 (x.1 : Int), Value.int .i64 (x.2 : Int)]) (fun _ _ => True) (fun ys => ys = []) (fun _ => False) 0 W0 := fun l J Jx W hW _ _ hY h0 =>
    (bk1_nil_in F (n - 1) h52 hro l (w.heap.size + 1 + 1 + 1) J W ao co ((hW.cell (p := ⟨w.heap.size + 1 + 1 + 1, 0, none⟩) (by show w.heap.size + 1 + 1 + 1 < _; omega)).trans q3) h0).mono fun e W' ⟨he, hj⟩ => ⟨he, .inl ⟨_, rfl, hj⟩⟩
  refine wpIn_rangeFunc_ownG hro h1 (gf := 52) (lb := #[.pointer (some ⟨w.heap.size + 1 + 1 + 1, 0, none⟩)]) rfl h52 (enters_of Try.func52 (by kernel_rfl) rfl)
    hst
    (fun _ _ => trivial) (fun _ _ _ _ _ _ _ _ => trivial) (Below.refl _ _) (fun _ => rfl)
    (fun pre W => (W.cell? ⟨w.heap.size + 1 + 1, 0, none⟩ = some (.slice (some ⟨w.heap.size + 1, 0, none⟩) N N) ∧ IntsAt W (w.heap.size + 1) (List.replicate N 0)) ∧ Below w.heap.size w W)
    (fun _ _ _ => False)
    (OwnFrom.and (Own.from (fun s A B row hs hg hr => ⟨cell_kept hs.1 hg hr, hs.2.kept hg hr⟩) _) (ownFrom_below (Nat.le_refl _) (by omega)))
    (fun _ _ _ _ _ hs _ _ => hs)
    ⟨⟨q2, q1⟩, hB0⟩
    (fun x => { tmps := #[.pointer (some ⟨bt, ot, none⟩), .pointer (some ⟨w.heap.size, 0, none⟩), .slice none 0 0, .pointer (some ⟨w.heap.size + 1 + 1, 0, none⟩), undef, .int .i64 ((x.2 : Nat) : Int), .pointer (some ⟨bt, ot, none⟩), .pointer (some ⟨bt, ot, none⟩), .pointer (some ⟨bt, ot + 5, none⟩), .slice ad N cd, .int .i64 (N : Int), .slice (some ⟨w.heap.size + 1, 0, none⟩) N N, .pointer (some ⟨bt, ot, none⟩), .pointer (some ⟨bt, ot, none⟩), .pointer (some ⟨bt, ot + 3, none⟩), .slice ao 0 co, .func (.func 52) #[] #[.pointer (some ⟨w.heap.size + 1 + 1 + 1, 0, none⟩)], .int .i64 ((x.1 : Nat) : Int), .int .i64 ((x.2 : Nat) : Int), undef, undef, undef, undef, undef, undef, undef, undef, undef, undef, undef, undef, undef, undef, undef, undef, undef, undef, undef, undef, undef, undef, undef, undef, undef, undef, undef, undef, undef, undef, undef], defers := [] }) ?assign ?body ?done ?stop
  case assign =>
    intro l x W K hK
    gi_wp2
    exact hK
  case body =>
    rintro l pre x W _ h
    exact absurd h (Nat.not_lt_zero _)
  case done =>
    rintro D ys W hD rfl ⟨⟨c2, c5⟩, hB⟩ hK
    gi_wp2
    refine ⟨by simp, .inl ⟨_, _, rfl, run_takeDeferred hK, ?_⟩⟩
    exact ⟨_, results_tmp rfl _ _ _, rfl, c5.kept (grownBy_putObj' W D (.deferred none)) (fun r e => by cases e; exact ⟨_, hK, rfl⟩), hB.trans (belowK_b (w := w) (Nat.le_refl _) W D _ _ (by omega) hK rfl rfl)⟩
  case stop =>
    rintro D c pre W _ _ h _
    exact h.elim
end Go.Proofs.Ytfmllmcjinjfaaa

namespace Go.Proofs.Ytfmllmcjinjfaaa
open Go Go.RowKit
set_option linter.unusedVariables false
set_option linter.unusedSimpArgs false
def intsA : List AV → Option (List Int)
  | [] => some []
  | .val (.int .i64 k) :: r => (intsA r).map (k :: ·)
  | _ :: _ => none
theorem intsA_spec : ∀ {cs : List AV} {zs : List Int}, intsA cs = some zs → cs = zs.map fun k => AV.val (.int .i64 k)
  | [], zs, h => by simp [intsA] at h; subst h; rfl
  | a :: r, zs, h => by
    unfold intsA at h
    split at h
    · rename_i heq; cases heq
    · rename_i k r' heq
      injection heq with e1 e2; subst e1; subst e2
      cases hr : intsA r with
      | none => rw [hr] at h; cases h
      | some ys => rw [hr] at h; injection h with h; subst h; rw [intsA_spec hr]; rfl
    · cases h
theorem intsA_of : ∀ (zs : List Int), intsA (zs.map fun k => AV.val (.int .i64 k)) = some zs
  | [] => rfl
  | k :: r => by simp [intsA, intsA_of r]
def szL (DM OL : List Int) : List Int := OL.reverse.foldl (fun out x => szStep DM out x.toNat) (List.replicate DM.length 0)
theorem szL_len {DM OL : List Int} : (szL DM OL).length = DM.length := by
  unfold szL
  have h : ∀ (l : List Int) (o : List Int), (l.foldl (fun out x => szStep DM out x.toNat) o).length = o.length := by
    intro l
    induction l with
    | nil => intro o; rfl
    | cons x l ih => intro o; rw [List.foldl_cons, ih, szStep_len]
  rw [h]; simp
def szOk (DM OL : List Int) : Prop := DM.length ≤ 1000 ∧ OL.length ≤ 1000 ∧ (∀ x ∈ OL, 0 ≤ x ∧ x < (DM.length : Int)) ∧ ∀ x ∈ DM, x < (DM.length : Int)
instance (DM OL : List Int) : Decidable (szOk DM OL) := by unfold szOk; infer_instance
def sizesA (fl : Nat → Bool) (h : Heap) (a : AV) : Option (AV × Heap) := match a with
  | .ptr id off => match blk h id with
    | some l => match l[off + 3]?, l[off + 5]? with
      | some so, some sd => match rowOf h 1 so, rowOf h 1 sd with
        | some (no, oc), some (nd, dc) => match intsA oc, intsA dc with
          | some OL, some DM => if szOk DM OL then some (.slice h.length 0 DM.length DM.length false 1, h ++ [some ((szL DM OL).map fun k => AV.val (.int .i64 k))]) else none
          | _, _ => none
        | _, _ => none
      | _, _ => none
    | none => none
  | _ => none
theorem row_val {n0 B0 : Nat} {m : Map} {h : Heap} {w : World} (r : Rels n0 B0 m h w) {s : AV} {x : Value} (hv : VR m s x) {n : Nat} {cs : List AV} {zs : List Int} (hr : rowOf h 1 s = some (n, cs)) (hz : intsA cs = some zs) :
    (zs = [] ∧ ∃ a c, x = .slice a 0 c) ∨ ∃ bk off cap, x = .slice (some ⟨bk, off, none⟩) zs.length cap ∧ bk < w.heap.size ∧ ∀ j, j < zs.length → w.cell? ⟨bk, off + j, none⟩ = some (.int .i64 (zs[j]?.getD 0)) := by
  have hcs := intsA_spec hz
  unfold rowOf at hr
  split at hr
  · injection hr with hr; injection hr with e1 e2; subst e1; subst e2
    have : zs = [] := List.eq_nil_of_length_eq_zero (by have := congrArg List.length hcs; simpa using this.symm)
    subst this
    have hx := hv.lit
    subst hx
    exact .inl ⟨rfl, _, _, rfl⟩
  · injection hr with hr; injection hr with e1 e2; subst e1; subst e2
    have : zs = [] := List.eq_nil_of_length_eq_zero (by have := congrArg List.length hcs; simpa using this.symm)
    subst this
    cases hv with
    | hole => exact .inl ⟨rfl, _, _, rfl⟩
  · rename_i id off len lb ex k
    split at hr
    · rename_i cs' hrd
      injection hr with hr; injection hr with e1 e2; subst e1; subst e2
      cases hv with
      | @slice _ _ _ _ _ _ b o c hb ho h1 h2 h3 h4 =>
      unfold rd at hrd
      split at hrd
      · rename_i l hl
        split at hrd
        · rename_i hle
          injection hrd with hrd
          have hlen : zs.length = len := by
            have := congrArg List.length hcs
            rw [← hrd] at this
            simp at this; omega
          by_cases hl0 : len = 0
          · subst hl0
            exact .inl ⟨List.eq_nil_of_length_eq_zero hlen, _, _, rfl⟩
          · refine .inr ⟨b.b, b.off + o, c, by rw [hlen], r.rel.lt id b hb.1, fun j hj => ?_⟩
            have := ho (by omega)
            subst this
            have hat : l[o + j]? = some (.val (.int .i64 (zs[j]?.getD 0))) := by
              have : ((l.drop o).take (len * 1))[j]? = some (.val (.int .i64 (zs[j]?.getD 0))) := by
                rw [hrd, hcs, List.getElem?_map, List.getElem?_eq_getElem hj]
                simp
              rw [List.getElem?_take, if_pos (by omega), List.getElem?_drop] at this
              exact this
            obtain ⟨v', q1, q2⟩ := r.rel.cell id l b hl hb (o + j) _ hat
            rw [q2.lit, ← Nat.add_assoc] at q1
            exact q1
        · cases hrd
      · cases hrd
    · cases hr
  · cases hr
theorem szRun_eq {DM : List Int} {N : Nat} (l : List (Nm N)) : szRun DM l = (l.map fun x => ((x.1.2 : Nat) : Int)).foldl (fun out x => szStep DM out x.toNat) (List.replicate N 0) := by
  unfold szRun
  rw [List.foldl_map]
  simp
theorem sizes_call {n0 B0 : Nat} {m : Map} {h : Heap} {w : World} (r : Rels n0 B0 m h w) {id off : Nat} {x : Value} (hv : VR m (.ptr id off) x) {l : List AV} (hl : blk h id = some l) {so sd : AV} (hso : l[off + 3]? = some so) (hsd : l[off + 5]? = some sd)
    {no nd : Nat} {oc dc : List AV} {OL DM : List Int} (hro : rowOf h 1 so = some (no, oc)) (hrd : rowOf h 1 sd = some (nd, dc)) (hO : intsA oc = some OL) (hD : intsA dc = some DM) (hok : szOk DM OL) :
    Calls Try.prog 24 #[x] w fun e W' => e = .returned (.slice (some ⟨w.heap.size + 1, 0, none⟩) DM.length DM.length) ∧ IntsAt W' (w.heap.size + 1) (szL DM OL) ∧ Below w.heap.size w W' := by
  obtain ⟨k1, k2, k3, k4⟩ := hok
  cases hv with
  | @ptr _ _ b hb =>
  obtain ⟨vo, c3, v3⟩ := r.rel.cell id l b hl hb (off + 3) _ hso
  obtain ⟨vd, c5, v5⟩ := r.rel.cell id l b hl hb (off + 5) _ hsd
  rw [← Nat.add_assoc] at c3 c5
  refine (callsIn_wide (n := 3)).1 ?_
  have hDv := row_val r v5 hrd hD
  rcases row_val r v3 hro hO with ⟨rfl, ao, co, rfl⟩ | ⟨bk, oo, cap, rfl, hbk, hcs⟩
  · have hvd : ∃ ad cd, vd = .slice ad DM.length cd := by
      rcases hDv with ⟨rfl, a, c, rfl⟩ | ⟨bd, od, cd, rfl, _, _⟩
      · exact ⟨_, _, rfl⟩
      · exact ⟨_, _, rfl⟩
    obtain ⟨ad, cd, rfl⟩ := hvd
    exact sizes0_in Fence.wide 3 trivial trivial trivial rfl (by omega) b.b (b.off + off) DM.length cd co ad ao w c5 c3 k1
  · by_cases hne : OL = []
    · subst hne
      have hvd : ∃ ad cd, vd = .slice ad DM.length cd := by
        rcases hDv with ⟨rfl, a, c, rfl⟩ | ⟨bd, od, cd, rfl, _, _⟩
        · exact ⟨_, _, rfl⟩
        · exact ⟨_, _, rfl⟩
      obtain ⟨ad, cd, rfl⟩ := hvd
      exact sizes0_in Fence.wide 3 trivial trivial trivial rfl (by omega) b.b (b.off + off) DM.length cd cap ad _ w c5 c3 k1
    · have hN0 : 0 < DM.length := by
        obtain ⟨y, hy⟩ := List.exists_mem_of_ne_nil OL hne
        have := k3 y hy
        omega
      rcases hDv with ⟨rfl, a, c, rfl⟩ | ⟨bd, od, cd, rfl, hbd, hdc⟩
      · simp at hN0
      · obtain ⟨nm, hnm⟩ : ∃ nm : List (Nm DM.length), nm = OL.attach.map fun x => (⟨(0, x.1.toNat), by have := k3 x.1 x.2; show x.1.toNat < _; omega⟩ : Nm DM.length) := ⟨_, rfl⟩
        have hln : nm.length = OL.length := by rw [hnm]; simp
        have hat : ∀ (j : Nat) (hj : j < nm.length), ((nm[j].1.2 : Nat) : Int) = OL[j]?.getD 0 := fun j hj => by
          have hj' : j < OL.length := by omega
          have := k3 OL[j] (List.getElem_mem hj')
          simp only [hnm, List.getElem_map, List.getElem_attach]
          rw [List.getElem?_eq_getElem hj']
          simp; omega
        have hq := sizes_in Fence.wide 3 trivial trivial trivial rfl (by omega) b.b (b.off + off) bd od cd bk oo cap DM nm w c5 (by rw [hln]; exact c3) hdc (fun j hj => by rw [hat j hj]; exact hcs j (by omega)) k1 (by omega) hN0 hbk k4
        refine hq.mono fun e W' hp => ?_
        obtain ⟨h1, h2, h3⟩ := hp
        refine ⟨h1, ?_, h3⟩
        have e1 : szRun DM (bkP (fun j => if h : j < nm.length then (⟨(j, nm[j].1.2), nm[j].2⟩ : Nm DM.length) else ⟨(0, 0), hN0⟩) nm.length nm.length) = szL DM OL := by
          rw [szRun_eq]
          unfold szL
          congr 1
          refine List.ext_getElem (by simp [bkP, hln]) fun i hi1 hi2 => ?_
          have hi : i < nm.length := by simpa [bkP] using hi1
          have hi' : nm.length - 1 - i < nm.length := by omega
          have := hat (nm.length - 1 - i) hi'
          simp [bkP, hi']
          rw [this, hln, List.getElem?_eq_getElem (by omega)]
          rfl
        rw [← e1]; exact h2
theorem sizesA_ok {n0 B0 : Nat} {m : Map} {fl : Nat → Bool} {h h' : Heap} {w : World} {a v : AV} {x : Value} (r : Rels n0 B0 m h w) (hfl : ∀ id, fl id = true → n0 ≤ id) (ha : VR m a x) (he : sizesA fl h a = some (v, h')) :
    Calls Try.prog 24 #[x] w fun e w' => ∃ v' m', e = .returned v' ∧ Post n0 B0 fl m h w m' h' w' ∧ VR m' v v' := by
  unfold sizesA at he
  split at he
  · rename_i id off
    split at he
    · rename_i l hl
      split at he
      · rename_i so sd hso hsd
        split at he
        · rename_i no oc nd dc hro hrd
          split at he
          · rename_i OL DM hO hD
            split at he
            · rename_i hok
              injection he with he; injection he with e1 e2; subst e1; subst e2
              refine (sizes_call r ha hl hso hsd hro hrd hO hD hok).mono fun e W' hp => ?_
              obtain ⟨rfl, hI, hB⟩ := hp
              have hs : w.heap.size + 1 < W'.heap.size := (Array.getElem?_eq_some_iff.1 hI).1
              obtain ⟨o0, ho0⟩ : ∃ o0, W'.heap[w.heap.size]? = some o0 := ⟨_, Array.getElem?_eq_getElem (by omega)⟩
              obtain ⟨arr, harr⟩ : ∃ arr, arr = ((szL DM OL).map fun k => Value.int .i64 k).toArray := ⟨_, rfl⟩
              have hal : arr.size = DM.length := by rw [harr]; simp [szL_len]
              have p1 : Post n0 B0 fl m h w m h (w.alloc o0) := Post.below r ((Below.refl _ w).alloc (Nat.le_refl _) _)
              have p2 := post_alloc (fl := fl) p1.rels ((szL DM OL).map fun k => AV.val (.int .i64 k)) arr 3 DM.length (fun x hx => by obtain ⟨k, _, rfl⟩ := List.mem_map.1 hx; rfl) (by simp [szL_len]) (by omega) (fun i x hx => by
                rw [List.getElem?_map] at hx
                cases hg : (szL DM OL)[i]? with
                | none => rw [hg] at hx; cases hx
                | some k =>
                  rw [hg] at hx; injection hx with hx; subst hx
                  exact ⟨.int .i64 k, by rw [harr]; simp [hg], .val rfl⟩)
              have hb2 : Below ((w.alloc o0).alloc (.cells arr 3)).heap.size ((w.alloc o0).alloc (.cells arr 3)) W' := by
                refine ⟨hB.os, hB.tape, hB.output, by simp; omega, fun k hk => ?_⟩
                simp at hk
                by_cases e1 : k = w.heap.size + 1
                · subst e1
                  have := World.alloc_heap_new (w.alloc o0) (.cells arr 3)
                  rw [World.size_alloc] at this
                  rw [this, harr]; exact hI
                · rw [Below.heap_alloc _ _ _ (by simp; omega)]
                  by_cases e2 : k = w.heap.size
                  · subst e2
                    rw [ho0]; exact (World.alloc_heap_new w o0).symm
                  · rw [Below.heap_alloc _ _ _ (by omega)]; exact hB.block k (by omega)
              have p3 : Post n0 B0 fl _ _ _ _ _ W' := Post.below p2.rels hb2
              refine ⟨_, _, rfl, Post.trans r.dom p1 (Post.trans p1.rels.dom p2 p3), ?_⟩
              have hv := VR.slice (m := mset m h.length ⟨(w.alloc o0).heap.size, 0, DM.length, false⟩) (id := h.length) (off := 0) (len := DM.length) (lb := DM.length) (ex := false) (k := 1) (b := ⟨(w.alloc o0).heap.size, 0, DM.length, false⟩) (o := 0) (c := DM.length) ⟨by simp [mset], rfl⟩ (fun _ => rfl) (Nat.le_refl _) (Nat.le_refl _) (fun e => by cases e) (by simp)
              simpa using hv
            · cases he
          · cases he
        · cases he
      · cases he
    · cases he
  · cases he
end Go.Proofs.Ytfmllmcjinjfaaa
