/-
  Rules for proofs about AM's runs: operations, slots, memory, loops over a list.
-/
import Derived.Test.YtpmmiaadfnildaaAmW
import Derived.IntWalk
namespace Go.Proofs.Ytpmmiaadfnildaa
open Go Go.RowKit
set_option linter.unusedVariables false
set_option linter.unusedSimpArgs false

abbrev I64 (n : Int) : AV := .val (.int .i64 n)
abbrev BV (b : Bool) : AV := .val (.bool b)

/-! ### Slots -/
theorem put_some {s : Slots} {d : Nat} {v : AV} : put s (some d) v = upd s d v := rfl
theorem put_none {s : Slots} {v : AV} : put s none v = s := rfl
theorem upd_at {s : Slots} {d t : Nat} {v : AV} : upd s d v t = if t = d then v else s t := rfl
theorem ev_tmp {s : Slots} {t : Nat} : (Opd.tmp t).ev s = s t := rfl
theorem ev_av {s : Slots} {v : AV} : (Opd.av v).ev s = v := rfl

/-! ### Which slots code writes -/
def wrs : ACode → List Nat
  | .ops l => l.filterMap (·.dst)
  | .seq a b => wrs a ++ wrs b
  | .cond _ a b => wrs a ++ wrs b
  | .block _ c => wrs c
  | .loop c => wrs c
  | .scope c => wrs c
  | _ => []

theorem runOps_frame {C : CallT} {base : Nat} {fl : Nat → Bool} {t : Nat} : ∀ (l : List AOper) (d : Seen) (s : Slots) (h : Heap) s' h', runOps C base fl d l s h = some (s', h') → t ∉ l.filterMap (·.dst) → s' t = s t
  | [], d, s, h, s', h', he, _ => by simp only [runOps, Option.some.injEq, Prod.mk.injEq] at he; rw [he.1]
  | o :: l, d, s, h, s', h', he, ht => by
    have hd : o.dst ≠ some t := fun e => ht (List.mem_filterMap.2 ⟨o, by simp, e⟩)
    have hl : t ∉ l.filterMap (·.dst) := fun h => by
      obtain ⟨p, hp, e⟩ := List.mem_filterMap.1 h
      exact ht (List.mem_filterMap.2 ⟨p, by simp [hp], e⟩)
    simp only [runOps] at he
    split at he
    · split at he
      · rename_i v h1 _
        rw [runOps_frame l _ _ _ _ _ he hl, put_at, if_neg hd]
      · cases he
    · rw [runOps_frame l _ _ _ _ _ he hl, put_at, if_neg hd]
    · cases he

theorem exec_frame {C : CallT} {n : Nat} {fl : Nat → Bool} {t : Nat} : ∀ (c : ACode) (s : Slots) (h : Heap) x s' h', exec C n fl c s h = some (x, s', h') → t ∉ wrs c → s' t = s t := by
  intro c
  induction c with
  | skip => intro s h x s' h' he _; simp only [exec, Option.some.injEq, Prod.mk.injEq] at he; rw [he.2.1]
  | ops l =>
    intro s h x s' h' he ht
    simp only [exec] at he
    split at he
    · rename_i s1 h1 hr
      simp only [Option.some.injEq, Prod.mk.injEq] at he
      rw [← he.2.1]; exact runOps_frame _ _ _ _ _ _ hr ht
    · cases he
  | seq a b iha ihb =>
    intro s h x s' h' he ht
    simp only [wrs, List.mem_append, not_or] at ht
    simp only [exec] at he
    split at he
    · rename_i s1 h1 h1'
      rw [ihb _ _ _ _ _ he ht.2, iha _ _ _ _ _ h1' ht.1]
    · exact iha _ _ _ _ _ he ht.1
  | cond c a b iha ihb =>
    intro s h x s' h' he ht
    simp only [wrs, List.mem_append, not_or] at ht
    simp only [exec] at he
    split at he
    · split at he
      · exact iha _ _ _ _ _ he ht.1
      · exact ihb _ _ _ _ _ he ht.2
    · cases he
  | block id a iha =>
    intro s h x s' h' he ht
    simp only [exec] at he
    split at he
    · rename_i j s1 h1 h1'
      have := iha _ _ _ _ _ h1' ht
      split at he <;> (simp only [Option.some.injEq, Prod.mk.injEq] at he; rw [← he.2.1]; exact this)
    · exact iha _ _ _ _ _ he ht
  | loop a iha =>
    intro s h x s' h' he ht
    simp only [exec] at he
    have key : ∀ (k : Nat) s h x s' h', iter (exec C n fl a) k s h = some (x, s', h') → s' t = s t := by
      intro k
      induction k with
      | zero => intro s h x s' h' he; simp [iter] at he
      | succ k ih =>
        intro s h x s' h' he
        simp only [iter] at he
        split at he
        · rename_i s1 h1 h1'
          rw [ih _ _ _ _ _ he, iha _ _ _ _ _ h1' ht]
        · exact iha _ _ _ _ _ he ht
    exact key _ _ _ _ _ _ he
  | exit id => intro s h x s' h' he _; simp only [exec, Option.some.injEq, Prod.mk.injEq] at he; rw [he.2.1]
  | scope a iha => intro s h x s' h' he ht; exact iha s h x s' h' he ht
  | ret => intro s h x s' h' he _; simp only [exec, Option.some.injEq, Prod.mk.injEq] at he; rw [he.2.1]
  | bad => intro s h x s' h' he _; simp [exec] at he

section
variable {X : CallT} {F : FuncId → Option AFunc} {fl : Nat → Bool} {s : Slots} {h : Heap}

theorem AW.frame {c : ACode} {K : AExit → Slots → Heap → Prop} (hc : AW X F fl c s h fun x s' h' => (∀ t, t ∉ wrs c → s' t = s t) → K x s' h') : AW X F fl c s h K := by
  obtain ⟨n, x, s', h', e, k⟩ := hc
  exact ⟨n, x, s', h', e, k fun t ht => exec_frame c s h x s' h' e ht⟩

/-- A loop, with what stays told. -/
theorem AW_while {c : ACode} {K : AExit → Slots → Heap → Prop} (I : Nat → Slots → Heap → Prop) (n0 : Nat) (h0 : I n0 s h) (round : ∀ n s' h', I n s' h' → (∀ t, t ∉ wrs c → s' t = s t) → AW X F fl c s' h' (AExit.then (fun s2 h2 => ∃ m, m < n ∧ I m s2 h2) K)) : AW X F fl (.loop c) s h K := by
  refine AW_loop (fun n s' h' => I n s' h' ∧ ∀ t, t ∉ wrs c → s' t = s t) n0 ⟨h0, fun _ _ => rfl⟩ fun n s' h' ⟨hI, hs⟩ => ?_
  refine AW.frame ((round n s' h' hI hs).mono fun x s2 h2 k hf => ?_)
  cases x with
  | normal =>
    obtain ⟨m, hm, hI2⟩ := k
    exact ⟨m, hm, hI2, fun t ht => by rw [hf t ht, hs t ht]⟩
  | exit id => exact k
  | ret => exact k

/-- The loop of 'for i := range n': the index in slot ti, the number in tl. -/
def rangeCode (B Cn tc ti tl tn : Nat) (body : ACode) : ACode :=
  .block B (.loop (.seq (.ops [⟨some tc, .bin .lss (.tmp ti) (.tmp tl), none, true⟩])
    (.seq (.cond (.tmp tc) (.skip) (.exit B))
    (.seq (.block Cn body)
    (.ops [⟨some tn, .bin .add (.tmp ti) (.av (.val (.int .i64 1))), none, true⟩, ⟨some ti, .mv (.tmp tn), none, true⟩])))))

theorem AW_range {B Cn tc ti tl tn : Nat} {body : ACode} {K : AExit → Slots → Heap → Prop} (N : Nat) (hN : N < 9223372036854775807) (hti : s ti = I64 (0 : Nat)) (htl : s tl = I64 N) (h1 : tl ∉ wrs body) (h2 : ti ∉ wrs body) (h3 : tc ≠ ti ∧ tc ≠ tl ∧ tn ≠ ti ∧ tn ≠ tl ∧ ti ≠ tl)
    (I : Nat → Slots → Heap → Prop) (h0 : I 0 s h)
    (round : ∀ k s' h', k < N → I k s' h' → s' ti = I64 k → s' tl = I64 N → (∀ t, t ∉ wrs body → t ≠ tc → t ≠ ti → t ≠ tn → s' t = s t) →
      AW X F fl body (upd s' tc (BV true)) h' (AExit.inBlk Cn (AExit.then (fun s2 h2 => I (k + 1) (upd (upd s2 tn (I64 (k + 1 : Nat))) ti (I64 (k + 1 : Nat))) h2) (AExit.inBlk B K))))
    (done : ∀ s' h', I N s' h' → (∀ t, t ∉ wrs body → t ≠ tc → t ≠ ti → t ≠ tn → s' t = s t) → K .normal (upd s' tc (BV false)) h') : AW X F fl (rangeCode B Cn tc ti tl tn body) s h K := by
  obtain ⟨c1, c2, c3, c4, c5⟩ := h3
  refine AW_block.2 ?_
  refine AW_while (fun n s' h' => ∃ k, n = N - k ∧ k ≤ N ∧ I k s' h' ∧ s' ti = I64 k ∧ s' tl = I64 N) N ⟨0, by omega, Nat.zero_le _, h0, hti, htl⟩ fun n s' h' hI hs => ?_
  obtain ⟨k, rfl, hk, hIk, hik, hlk⟩ := hI
  have hst : ∀ t, t ∉ wrs body → t ≠ tc → t ≠ ti → t ≠ tn → s' t = s t := fun t q1 q2 q3 q4 => hs t (by simp [wrs, q1, q2, q3, q4])
  rw [AW_seq, AW_ops]
  refine AO_iso ?_
  refine ⟨BV (decide (k < N)), h', by simp [opEval, ev_tmp, hik, hlk, binV], ?_⟩
  dsimp only
  rw [AO_nil, then_normal, AW_seq, AW_cond]
  refine ⟨decide (k < N), by simp [ev_tmp, put_some, upd_at], fun ht => ?_, fun hf => ?_⟩
  · have hlt : k < N := by simpa using ht
    rw [AW_skip, then_normal, AW_seq, AW_block, ht, put_some]
    refine (AW.frame ((round k s' h' hlt hIk hik hlk hst).mono fun x s2 h2' kk hfr => ?_))
    have e1 : s2 ti = I64 k := by rw [hfr ti (by simpa [wrs] using h2), upd_at, if_neg (Ne.symm c1)]; exact hik
    have e2 : s2 tl = I64 N := by rw [hfr tl (by simpa [wrs] using h1), upd_at, if_neg (Ne.symm c2)]; exact hlk
    have go : I (k + 1) (upd (upd s2 tn (I64 (k + 1 : Nat))) ti (I64 (k + 1 : Nat))) h2' → AW X F fl (.ops [⟨some tn, .bin .add (.tmp ti) (.av (.val (.int .i64 1))), none, true⟩, ⟨some ti, .mv (.tmp tn), none, true⟩]) s2 h2'
        (AExit.then (fun s2 h2 => ∃ m, m < N - k ∧ ∃ k, m = N - k ∧ k ≤ N ∧ I k s2 h2 ∧ s2 ti = I64 k ∧ s2 tl = I64 N) (AExit.inBlk B K)) := by
      intro hI2
      rw [AW_ops]
      refine AO_iso ⟨I64 (k + 1 : Nat), h2', ?_, AO_iso ⟨I64 (k + 1 : Nat), h2', ?_, ?_⟩⟩
      · have w1 : IntKind.i64.wrap ((k : Int) + 1) = ((k + 1 : Nat) : Int) := by rw [IntWalk.i64_in _ (by omega)]; omega
        simp [opEval, ev_tmp, ev_av, e1, binV, w1]
      · simp [opEval, ev_tmp, put_some, upd_at]
      · dsimp only
        rw [AO_nil, then_normal]
        exact ⟨N - (k + 1), by omega, k + 1, rfl, by omega, hI2, by simp [put_some, upd_at], by simp [put_some, upd_at, Ne.symm c4, Ne.symm c5, e2]⟩
    cases x with
    | normal => exact go kk
    | exit j =>
      rw [inBlk_exit] at kk ⊢
      split at kk
      · rename_i hj; rw [if_pos hj]; exact go kk
      · rename_i hj; rw [if_neg hj]; exact kk
    | ret => exact kk
  · have hge : k = N := by
      have : ¬ k < N := by simpa using hf
      omega
    subst hge
    rw [AW_exit, then_exit, then_exit, inBlk_exit, if_pos rfl, hf, put_some]
    exact done s' h' hIk hst

/-- The slots under a name. -/
theorem AW.named {c : ACode} {K : AExit → Slots → Heap → Prop} (hh : ∀ S, S = s → AW X F fl c S h K) : AW X F fl c s h K := hh s rfl
/-- The same, what stays told by a test. -/
theorem AW_for {B Cn tc ti tl tn : Nat} {body : ACode} {K : AExit → Slots → Heap → Prop} (N : Nat) (hN : N < 9223372036854775807) (hti : s ti = I64 (0 : Nat)) (htl : s tl = I64 N) (h1 : (wrs body).contains tl = false) (h2 : (wrs body).contains ti = false) (h3 : tc ≠ ti ∧ tc ≠ tl ∧ tn ≠ ti ∧ tn ≠ tl ∧ ti ≠ tl)
    (I : Nat → Slots → Heap → Prop) (h0 : I 0 s h)
    (round : ∀ k s' h', k < N → I k s' h' → s' ti = I64 k → s' tl = I64 N → (∀ t, (wrs body ++ [tc, ti, tn]).contains t = false → s' t = s t) →
      AW X F fl body (upd s' tc (BV true)) h' (AExit.inBlk Cn (AExit.then (fun s2 h2 => I (k + 1) (upd (upd s2 tn (I64 (k + 1 : Nat))) ti (I64 (k + 1 : Nat))) h2) (AExit.inBlk B K))))
    (done : ∀ s' h', I N s' h' → (∀ t, (wrs body ++ [tc, ti, tn]).contains t = false → s' t = s t) → K .normal (upd s' tc (BV false)) h') : AW X F fl (rangeCode B Cn tc ti tl tn body) s h K := by
  have hc : ∀ (l : List Nat) t, l.contains t = false → t ∉ l := fun l t h hm => by
    have := List.contains_iff_mem.2 hm
    rw [h] at this; cases this
  have hcc : ∀ (s' : Slots), (∀ t, t ∉ wrs body → t ≠ tc → t ≠ ti → t ≠ tn → s' t = s t) → ∀ t, (wrs body ++ [tc, ti, tn]).contains t = false → s' t = s t := fun s' hs t ht => by
    have := hc _ _ ht
    simp only [List.mem_append, List.mem_cons, List.not_mem_nil, or_false, not_or] at this
    exact hs t this.1 this.2.1 this.2.2.1 this.2.2.2
  exact AW_range N hN hti htl (hc _ _ h1) (hc _ _ h2) h3 I h0 (fun k s' h' a b c d e => round k s' h' a b c d (hcc s' e)) (fun s' h' a b => done s' h' a (hcc s' b))
end
end Go.Proofs.Ytpmmiaadfnildaa
