/-
  Rules for proofs about AM's runs.
-/
import Derived.Test.YtpmmiaadfnildaaAmR
namespace Go.Proofs.Ytpmmiaadfnildaa
open Go Go.RowKit
set_option linter.unusedVariables false
set_option linter.unusedSimpArgs false

/-! ### More calls, more time: the same -/
theorem runOps_mono {C C' : CallT} (hC : ∀ f args fl h r, C f args fl h = some r → C' f args fl h = some r) {base : Nat} {fl : Nat → Bool} : ∀ (l : List AOper) (d : Seen) (s : Slots) (h : Heap) r, runOps C base fl d l s h = some r → runOps C' base fl d l s h = some r
  | [], d, s, h, r, he => he
  | o :: l, d, s, h, r, he => by
    simp only [runOps] at he ⊢
    split at he
    · split at he
      · rename_i v h1 hr
        have : runOp C' base fl d (forbs fl d o l s h) o s h = some (v, h1) := by
          unfold runOp at hr ⊢
          split at hr
          · rename_i f args heq
            split at hr
            · rename_i g caps hg
              exact hC _ _ _ _ _ hr
            · cases hr
          · exact hr
        rw [this]
        exact runOps_mono hC l _ _ _ _ he
      · cases he
    · exact runOps_mono hC l _ _ _ _ he
    · cases he

theorem iter_mono {f f' : Slots → Heap → Out} (hf : ∀ s h r, f s h = some r → f' s h = some r) : ∀ (n n' : Nat) s h r, n ≤ n' → iter f n s h = some r → iter f' n' s h = some r
  | 0, _, s, h, r, _, he => by simp [iter] at he
  | n + 1, 0, s, h, r, hn, _ => absurd hn (by omega)
  | n + 1, n' + 1, s, h, r, hn, he => by
    simp only [iter] at he ⊢
    split at he
    · rename_i s1 h1 h1'
      rw [hf _ _ _ h1']
      exact iter_mono hf n n' s1 h1 r (by omega) he
    · rename_i hne
      rw [hf _ _ _ he]
      obtain ⟨x, s', h'⟩ := r
      cases x with
      | normal => exact absurd he (hne s' h')
      | exit id => rfl
      | ret => rfl

theorem exec_mono {C C' : CallT} (hC : ∀ f args fl h r, C f args fl h = some r → C' f args fl h = some r) {n n' : Nat} (hn : n ≤ n') {fl : Nat → Bool} : ∀ (c : ACode) (s : Slots) (h : Heap) r, exec C n fl c s h = some r → exec C' n' fl c s h = some r := by
  intro c
  induction c with
  | skip => intro s h r he; exact he
  | ops l =>
    intro s h r he
    simp only [exec] at he ⊢
    split at he
    · rename_i s1 h1 h1'
      rw [runOps_mono hC _ _ _ _ _ h1']; exact he
    · cases he
  | seq a b iha ihb =>
    intro s h r he
    simp only [exec] at he ⊢
    split at he
    · rename_i s1 h1 h1'
      rw [iha _ _ _ h1']
      exact ihb _ _ _ he
    · rename_i hne
      rw [iha _ _ _ he]
      obtain ⟨x, s', h'⟩ := r
      cases x with
      | normal => exact absurd he (hne s' h')
      | exit id => rfl
      | ret => rfl
  | cond c a b iha ihb =>
    intro s h r he
    simp only [exec] at he ⊢
    split at he
    · rename_i t ht
      split at he
      · rename_i h1; rw [if_pos h1]; exact iha _ _ _ he
      · rename_i h1; rw [if_neg h1]; exact ihb _ _ _ he
    · cases he
  | block id a iha =>
    intro s h r he
    simp only [exec] at he ⊢
    split at he
    · rename_i j s1 h1 h1'
      rw [iha _ _ _ h1']; exact he
    · rename_i hne
      rw [iha _ _ _ he]
      obtain ⟨x, s', h'⟩ := r
      cases x with
      | normal => rfl
      | exit j => exact absurd he (hne j s' h')
      | ret => rfl
  | loop a iha =>
    intro s h r he
    simp only [exec] at he ⊢
    exact iter_mono (fun s h r => iha s h r) n n' s h r hn he
  | exit id => intro s h r he; exact he
  | scope a iha => intro s h r he; exact iha s h r he
  | ret => intro s h r he; exact he
  | bad => intro s h r he; exact he

theorem call_mono1 {X : CallT} {F : FuncId → Option AFunc} : ∀ (n : Nat) f args fl h r, call X F n f args fl h = some r → call X F (n + 1) f args fl h = some r
  | 0, f, args, fl, h, r, he => by
    simp only [call] at he ⊢
    rw [he]
  | n + 1, f, args, fl, h, r, he => by
    rw [call] at he ⊢
    split at he
    · exact he
    · split at he
      · split at he
        · rename_i hl
          split at he
          · rename_i s' h' hx
            rw [if_pos hl, exec_mono (call_mono1 n) (Nat.le_succ n) _ _ _ _ hx]; exact he
          · rename_i s' h' hx
            rw [if_pos hl, exec_mono (call_mono1 n) (Nat.le_succ n) _ _ _ _ hx]; exact he
          · cases he
        · cases he
      · cases he
theorem call_mono {X : CallT} {F : FuncId → Option AFunc} {n n' : Nat} (h : n ≤ n') : ∀ f args fl hp r, call X F n f args fl hp = some r → call X F n' f args fl hp = some r := by
  induction h with
  | refl => exact fun _ _ _ _ _ h => h
  | step _ ih => exact fun f args fl hp r he => call_mono1 _ _ _ _ _ _ (ih f args fl hp r he)

/-! ### Statements about runs -/
section
variable (X : CallT) (F : FuncId → Option AFunc)

def AC (f : FuncId) (args : List AV) (fl : Nat → Bool) (h : Heap) (K : AV → Heap → Prop) : Prop := ∃ n v h', call X F n f args fl h = some (v, h') ∧ K v h'
def AW (fl : Nat → Bool) (c : ACode) (s : Slots) (h : Heap) (K : AExit → Slots → Heap → Prop) : Prop := ∃ n x s' h', exec (call X F n) n fl c s h = some (x, s', h') ∧ K x s' h'
def AO (base : Nat) (fl : Nat → Bool) (d : Seen) (l : List AOper) (s : Slots) (h : Heap) (K : Slots → Heap → Prop) : Prop := ∃ n s' h', runOps (call X F n) base fl d l s h = some (s', h') ∧ K s' h'
/-- One operation. -/
def A1 (top : Option (Nat × Option (List Nat))) (fl : Nat → Bool) (o : AOp) (s : Slots) (h : Heap) (K : AV → Heap → Prop) : Prop := match o with
  | .call f args => ∃ g caps, f.ev s = .func g caps ∧ AC X F g (args.map (·.ev s) ++ caps) fl h K
  | o => ∃ v h', opEval top fl s h o = some (v, h') ∧ K v h'
end
variable {X : CallT} {F : FuncId → Option AFunc} {fl : Nat → Bool} {s : Slots} {h : Heap}

theorem AC.mono {f : FuncId} {args : List AV} {K K' : AV → Heap → Prop} (hc : AC X F f args fl h K) (hk : ∀ v h', K v h' → K' v h') : AC X F f args fl h K' :=
  let ⟨n, v, h', e, k⟩ := hc; ⟨n, v, h', e, hk v h' k⟩
theorem AW.mono {c : ACode} {K K' : AExit → Slots → Heap → Prop} (hc : AW X F fl c s h K) (hk : ∀ x s' h', K x s' h' → K' x s' h') : AW X F fl c s h K' :=
  let ⟨n, x, s', h', e, k⟩ := hc; ⟨n, x, s', h', e, hk x s' h' k⟩

/-- A call of a function that is known. -/
theorem AC.enter {f : FuncId} {af : AFunc} {args : List AV} {K : AV → Heap → Prop} (hx : X f args fl h = none) (hf : F f = some af) (hl : args.length ≤ af.n)
    (hb : AW X F fl af.body (fun t => args.getD t .no) h fun x s' h' => (x = .normal ∨ x = .ret) ∧ ∃ v, resultsA af.results s' h' = some v ∧ K v h') : AC X F f args fl h K := by
  obtain ⟨n, x, s', h', e, hxx, v, hr, k⟩ := hb
  refine ⟨n + 1, v, h', ?_, k⟩
  simp only [call, hx, hf, hl, if_true, e]
  rcases hxx with rfl | rfl <;> simp [hr]
theorem AC.const {f : FuncId} {args : List AV} {K : AV → Heap → Prop} {v : AV} {h' : Heap} (hx : X f args fl h = some (v, h')) (k : K v h') : AC X F f args fl h K := ⟨0, v, h', hx, k⟩

section
variable {K : AExit → Slots → Heap → Prop}
theorem AW_skip : AW X F fl .skip s h K ↔ K .normal s h := ⟨fun ⟨n, x, s', h', e, k⟩ => by simp only [exec, Option.some.injEq, Prod.mk.injEq] at e; obtain ⟨rfl, rfl, rfl⟩ := e; exact k, fun k => ⟨0, _, _, _, rfl, k⟩⟩
theorem AW_exit {id : Nat} : AW X F fl (.exit id) s h K ↔ K (.exit id) s h := ⟨fun ⟨n, x, s', h', e, k⟩ => by simp only [exec, Option.some.injEq, Prod.mk.injEq] at e; obtain ⟨rfl, rfl, rfl⟩ := e; exact k, fun k => ⟨0, _, _, _, rfl, k⟩⟩
theorem AW_ret : AW X F fl .ret s h K ↔ K .ret s h := ⟨fun ⟨n, x, s', h', e, k⟩ => by simp only [exec, Option.some.injEq, Prod.mk.injEq] at e; obtain ⟨rfl, rfl, rfl⟩ := e; exact k, fun k => ⟨0, _, _, _, rfl, k⟩⟩
theorem AW_scope {c : ACode} : AW X F fl (.scope c) s h K ↔ AW X F fl c s h K := Iff.rfl
theorem AW_ops {l : List AOper} : AW X F fl (.ops l) s h K ↔ AO X F h.length fl ⟨[], none⟩ l s h (K .normal) := by
  constructor
  · rintro ⟨n, x, s', h', e, k⟩
    simp only [exec] at e
    split at e
    · rename_i s1 h1 h1'
      simp only [Option.some.injEq, Prod.mk.injEq] at e
      obtain ⟨rfl, rfl, rfl⟩ := e
      exact ⟨n, _, _, h1', k⟩
    · cases e
  · rintro ⟨n, s', h', e, k⟩
    exact ⟨n, .normal, s', h', by simp only [exec, e], k⟩
/-- Behind a first part: what goes on. -/
def AExit.then (k1 : Slots → Heap → Prop) (K : AExit → Slots → Heap → Prop) : AExit → Slots → Heap → Prop
  | .normal, s, h => k1 s h
  | x, s, h => K x s h
theorem then_normal {k1 : Slots → Heap → Prop} : AExit.then k1 K .normal s h = k1 s h := rfl
theorem then_exit {k1 : Slots → Heap → Prop} {id : Nat} : AExit.then k1 K (.exit id) s h = K (.exit id) s h := rfl
theorem then_ret {k1 : Slots → Heap → Prop} : AExit.then k1 K .ret s h = K .ret s h := rfl
def AExit.inBlk (id : Nat) (K : AExit → Slots → Heap → Prop) : AExit → Slots → Heap → Prop
  | .exit j, s, h => if j = id then K .normal s h else K (.exit j) s h
  | x, s, h => K x s h
theorem inBlk_normal {id : Nat} : AExit.inBlk id K .normal s h = K .normal s h := rfl
theorem inBlk_exit {id j : Nat} : AExit.inBlk id K (.exit j) s h = if j = id then K .normal s h else K (.exit j) s h := rfl
theorem inBlk_ret {id : Nat} : AExit.inBlk id K .ret s h = K .ret s h := rfl

theorem AW_seq {a b : ACode} : AW X F fl (.seq a b) s h K ↔ AW X F fl a s h (AExit.then (fun s h => AW X F fl b s h K) K) := by
  constructor
  · rintro ⟨n, x, s', h', e, k⟩
    simp only [exec] at e
    split at e
    · rename_i s1 h1 h1'
      exact ⟨n, .normal, s1, h1, h1', n, x, s', h', e, k⟩
    · rename_i hne
      refine ⟨n, x, s', h', e, ?_⟩
      cases x with
      | normal => exact absurd e (hne s' h')
      | exit id => exact k
      | ret => exact k
  · rintro ⟨n, x, s1, h1, e, k⟩
    cases x with
    | normal =>
      obtain ⟨n2, x, s', h', e2, k⟩ := k
      refine ⟨max n n2, x, s', h', ?_, k⟩
      simp only [exec]
      rw [exec_mono (call_mono (Nat.le_max_left n n2)) (Nat.le_max_left n n2) _ _ _ _ e]
      exact exec_mono (call_mono (Nat.le_max_right n n2)) (Nat.le_max_right n n2) _ _ _ _ e2
    | exit id => exact ⟨n, .exit id, s1, h1, by simp only [exec, e], k⟩
    | ret => exact ⟨n, .ret, s1, h1, by simp only [exec, e], k⟩
theorem AW_cond {c : Opd} {a b : ACode} : AW X F fl (.cond c a b) s h K ↔ ∃ t, c.ev s = .val (.bool t) ∧ (t = true → AW X F fl a s h K) ∧ (t = false → AW X F fl b s h K) := by
  constructor
  · rintro ⟨n, x, s', h', e, k⟩
    simp only [exec] at e
    split at e
    · rename_i t ht
      refine ⟨t, ht, fun h1 => ?_, fun h1 => ?_⟩
      · subst h1; exact ⟨n, x, s', h', by simpa using e, k⟩
      · subst h1; exact ⟨n, x, s', h', by simpa using e, k⟩
    · cases e
  · rintro ⟨t, ht, h1, h2⟩
    cases t with
    | true =>
      obtain ⟨n, x, s', h', e, k⟩ := h1 rfl
      exact ⟨n, x, s', h', by simp only [exec, ht, if_true]; exact e, k⟩
    | false =>
      obtain ⟨n, x, s', h', e, k⟩ := h2 rfl
      exact ⟨n, x, s', h', by simp only [exec, ht, Bool.false_eq_true, if_false]; exact e, k⟩
theorem AW_block {id : Nat} {c : ACode} : AW X F fl (.block id c) s h K ↔ AW X F fl c s h (AExit.inBlk id K) := by
  constructor
  · rintro ⟨n, x, s', h', e, k⟩
    simp only [exec] at e
    split at e
    · rename_i j s1 h1 h1'
      refine ⟨n, .exit j, s1, h1, h1', ?_⟩
      rw [inBlk_exit]
      split at e
      · rename_i hj
        simp only [Option.some.injEq, Prod.mk.injEq] at e
        obtain ⟨rfl, rfl, rfl⟩ := e
        rw [if_pos hj]; exact k
      · rename_i hj
        simp only [Option.some.injEq, Prod.mk.injEq] at e
        obtain ⟨rfl, rfl, rfl⟩ := e
        rw [if_neg hj]; exact k
    · rename_i hne
      refine ⟨n, x, s', h', e, ?_⟩
      cases x with
      | normal => exact k
      | exit j => exact absurd e (hne j s' h')
      | ret => exact k
  · rintro ⟨n, x, s1, h1, e, k⟩
    cases x with
    | normal => exact ⟨n, .normal, s1, h1, by simp only [exec, e], k⟩
    | exit j =>
      rw [inBlk_exit] at k
      by_cases hj : j = id
      · rw [if_pos hj] at k
        exact ⟨n, .normal, s1, h1, by simp only [exec, e]; rw [if_pos hj], k⟩
      · rw [if_neg hj] at k
        exact ⟨n, .exit j, s1, h1, by simp only [exec, e]; rw [if_neg hj], k⟩
    | ret => exact ⟨n, .ret, s1, h1, by simp only [exec, e], k⟩

/-- A loop: I holds at each head, with a number that falls. -/
theorem AW_loop {c : ACode} (I : Nat → Slots → Heap → Prop) (n0 : Nat) (h0 : I n0 s h) (round : ∀ n s h, I n s h → AW X F fl c s h (AExit.then (fun s' h' => ∃ m, m < n ∧ I m s' h') K)) : AW X F fl (.loop c) s h K := by
  have key : ∀ n s h, I n s h → ∃ k x s' h', iter (exec (call X F k) k fl c) k s h = some (x, s', h') ∧ K x s' h' := by
    intro n
    induction n using Nat.strongRecOn with
    | _ n ih =>
      intro s h hI
      obtain ⟨k, x, s1, h1, e, hk⟩ := round n s h hI
      cases x with
      | normal =>
        obtain ⟨m, hm, hI1⟩ := hk
        obtain ⟨k2, x, s', h', e2, hk2⟩ := ih m hm s1 h1 hI1
        refine ⟨max k k2 + 1, x, s', h', ?_, hk2⟩
        simp only [iter]
        rw [exec_mono (call_mono (show k ≤ max k k2 + 1 by omega)) (by omega) _ _ _ _ e]
        exact iter_mono (fun s h r => exec_mono (call_mono (show k2 ≤ max k k2 + 1 by omega)) (by omega) c s h r) k2 (max k k2) _ _ _ (by omega) e2
      | exit id => exact ⟨k + 1, .exit id, s1, h1, by simp only [iter]; rw [exec_mono (call_mono (Nat.le_succ k)) (Nat.le_succ k) _ _ _ _ e], hk⟩
      | ret => exact ⟨k + 1, .ret, s1, h1, by simp only [iter]; rw [exec_mono (call_mono (Nat.le_succ k)) (Nat.le_succ k) _ _ _ _ e], hk⟩
  obtain ⟨k, x, s', h', e, hk⟩ := key n0 s h h0
  exact ⟨k, x, s', h', e, hk⟩
end

section
variable {K : Slots → Heap → Prop} {base : Nat} {d : Seen} {l : List AOper}
theorem AO_nil : AO X F base fl d [] s h K ↔ K s h := ⟨fun ⟨n, s', h', e, k⟩ => by simp only [runOps, Option.some.injEq, Prod.mk.injEq] at e; obtain ⟨rfl, rfl⟩ := e; exact k, fun k => ⟨0, _, _, rfl, k⟩⟩

theorem AO_one {o : AOper} (hw : wantedA o s = some true) (hk : A1 X F (if o.iso then none else some (base, d.pr)) (lessen fl o (forbs fl d o l s h)) o.op s h fun v h' => AO X F base fl (d.with o (forbs fl d o l s h) s) l (put s o.dst v) h' K) : AO X F base fl d (o :: l) s h K := by
  have key : ∃ n v h', runOp (call X F n) base fl d (forbs fl d o l s h) o s h = some (v, h') ∧ AO X F base fl (d.with o (forbs fl d o l s h) s) l (put s o.dst v) h' K := by
    unfold A1 at hk
    split at hk
    · rename_i f args heq
      obtain ⟨g, caps, hg, n, v, h', e, k⟩ := hk
      exact ⟨n, v, h', by unfold runOp; rw [heq]; simp only [hg]; exact e, k⟩
    · rename_i op hne
      obtain ⟨v, h', e, k⟩ := hk
      refine ⟨0, v, h', ?_, k⟩
      unfold runOp
      split
      · rename_i f args heq; exact absurd heq (hne f args)
      · exact e
  obtain ⟨n, v, h1, e, n2, s', h', e2, k⟩ := key
  refine ⟨max n n2, s', h', ?_, k⟩
  simp only [runOps, hw]
  have : runOp (call X F (max n n2)) base fl d (forbs fl d o l s h) o s h = some (v, h1) := by
    unfold runOp at e ⊢
    split at e
    · rename_i f args heq
      split at e
      · rename_i g caps hg
        exact call_mono (Nat.le_max_left n n2) _ _ _ _ _ e
      · cases e
    · exact e
  rw [this]
  exact runOps_mono (call_mono (Nat.le_max_right n n2)) _ _ _ _ _ e2

/-- An operation in its place. -/
theorem AO_iso {dst : Option Nat} {op : AOp} : A1 X F none fl op s h (fun v h' => AO X F base fl d l (put s dst v) h' K) → AO X F base fl d (⟨dst, op, none, true⟩ :: l) s h K := fun hk =>
  AO_one rfl (by simpa [lessen, Seen.with] using hk)
theorem AO_guard {dst : Option Nat} {op : AOp} {t : Nat} {want : Bool} {b : Bool} (hb : s t = .val (.bool b)) (h1 : b = want → A1 X F none fl op s h (fun v h' => AO X F base fl d l (put s dst v) h' K)) (h2 : b ≠ want → AO X F base fl d l (put s dst .no) h K) :
    AO X F base fl d (⟨dst, op, some (t, want), true⟩ :: l) s h K := by
  by_cases hw : b = want
  · exact AO_one (by simp [wantedA, hb, hw]) (by simpa [lessen, Seen.with] using h1 hw)
  · obtain ⟨n, s', h', e, k⟩ := h2 hw
    refine ⟨n, s', h', ?_, k⟩
    have : wantedA ⟨dst, op, some (t, want), true⟩ s = some false := by simp [wantedA, hb, hw]
    simp only [runOps, this]
    exact e
end
end Go.Proofs.Ytpmmiaadfnildaa
