/-
  AM and the program's machine: a region's textual run; what does what to memory.
-/
import Derived.Test.YtpmmiaadfnildaaAmJ
namespace Go.Proofs.Ytpmmiaadfnildaa
open Go
set_option linter.unusedVariables false
set_option linter.unusedSimpArgs false
section
variable {P : Program}

structure Comp (P : Program) (nt : Nat) (ops : Array Oper) (l : List AOper) : Prop where
  len : l.length = ops.size
  at_ : ∀ (i : Nat) O, ops[i]? = some O → ∃ o, l[i]? = some o ∧ o.op = (cOp P O).getD .bad ∧ o.dst = O.dst ∧ guardTmp ops O = some o.guard ∧ ∀ d, O.dst = some d → d < nt

structure Trace (C : CallT) (base : Nat) (fl : Nat → Bool) (l : List AOper) (S : Nat → Slots) (H : Nat → Heap) (D : Nat → Seen) : Prop where
  step : ∀ (i : Nat) o, l[i]? = some o →
    (wantedA o (S i) = some true ∧ ∃ v, runOp C base fl (D i) (forbs fl (D i) o (l.drop (i + 1)) (S i) (H i)) o (S i) (H i) = some (v, H (i + 1)) ∧ S (i + 1) = put (S i) o.dst v ∧
      D (i + 1) = (D i).with o (forbs fl (D i) o (l.drop (i + 1)) (S i) (H i)) (S i)) ∨
    (wantedA o (S i) = some false ∧ H (i + 1) = H i ∧ S (i + 1) = put (S i) o.dst .no ∧ D (i + 1) = D i)

theorem trace_of {C : CallT} {base : Nat} {fl : Nat → Bool} : ∀ (l : List AOper) (d : Seen) (s : Slots) (h : Heap) (s' : Slots) (h' : Heap), runOps C base fl d l s h = some (s', h') →
    ∃ S H D, S 0 = s ∧ H 0 = h ∧ D 0 = d ∧ S l.length = s' ∧ H l.length = h' ∧ Trace C base fl l S H D
  | [], d, s, h, s', h', hr => by
    simp only [runOps] at hr
    injection hr with hr; injection hr with h1 h2
    exact ⟨fun _ => s, fun _ => h, fun _ => d, rfl, rfl, rfl, h1, h2, ⟨fun i o hi => by simp at hi⟩⟩
  | o :: l, d, s, h, s', h', hr => by
    simp only [runOps] at hr
    have glue : ∀ (d1 : Seen) (s1 : Slots) (h1 : Heap) (S : Nat → Slots) (H : Nat → Heap) (D : Nat → Seen), S 0 = s1 → H 0 = h1 → D 0 = d1 → S l.length = s' → H l.length = h' → Trace C base fl l S H D →
        ((wantedA o s = some true ∧ ∃ v, runOp C base fl d (forbs fl d o l s h) o s h = some (v, h1) ∧ s1 = put s o.dst v ∧ d1 = d.with o (forbs fl d o l s h) s) ∨ (wantedA o s = some false ∧ h1 = h ∧ s1 = put s o.dst .no ∧ d1 = d)) →
        ∃ S H D, S 0 = s ∧ H 0 = h ∧ D 0 = d ∧ S (o :: l).length = s' ∧ H (o :: l).length = h' ∧ Trace C base fl (o :: l) S H D := by
      intro d1 s1 h1 S H D e1 e2 e3 e4 e5 tr hst
      refine ⟨fun i => match i with | 0 => s | i + 1 => S i, fun i => match i with | 0 => h | i + 1 => H i, fun i => match i with | 0 => d | i + 1 => D i, rfl, rfl, rfl, e4, e5, ⟨fun i o' hi => ?_⟩⟩
      cases i with
      | zero =>
        simp at hi; subst hi
        simp only [e1, e2, e3, List.drop_succ_cons, List.drop_zero]
        exact hst
      | succ i =>
        simp at hi
        simpa using tr.step i o' hi
    split at hr
    · rename_i hw
      split at hr
      · rename_i v h1 hv
        obtain ⟨S, H, D, e1, e2, e3, e4, e5, tr⟩ := trace_of l _ _ _ _ _ hr
        exact glue _ _ _ S H D e1 e2 e3 e4 e5 tr (.inl ⟨hw, v, hv, rfl, rfl⟩)
      · cases hr
    · rename_i hw
      obtain ⟨S, H, D, e1, e2, e3, e4, e5, tr⟩ := trace_of l _ _ _ _ _ hr
      exact glue _ _ _ S H D e1 e2 e3 e4 e5 tr (.inr ⟨hw, rfl, rfl, rfl⟩)
    · cases hr

theorem guardTmp_looks {ops : Array Oper} {O : Oper} {o : AOper} (hg : guardTmp ops O = some o.guard) {t : Nat} {b : Bool} (h : o.guard = some (t, b)) : t ∈ looks ops O := by
  unfold looks
  rw [hg, h]
  simp
theorem opd_looks {ops : Array Oper} {O : Oper} {t : Nat} (h : .tmp t ∈ O.op.operands.toList) : t ∈ looks ops O := by
  unfold looks
  rw [List.mem_append]
  left
  unfold tmpsOf
  exact List.mem_filterMap.2 ⟨_, h, rfl⟩

/-- One step of the textual run, under the program's machine. -/
theorem sim_step {C : CallT} (hC : CallOk P C) {n0 B0 nt base : Nat} {fl : Nat → Bool} (hfl : ∀ id, fl id = true → n0 ≤ id) {ops : Array Oper} {l : List AOper} (hc : Comp P nt ops l) {S : Nat → Slots} {H : Nat → Heap} {D : Nat → Seen} (tr : Trace C base fl l S H D)
    {i : Nat} {O : Oper} (hO : ops[i]? = some O) {m : Map} {w : World} (r : Rels n0 B0 m (H i) w) {a : Act} (hs : SR nt m (S i) a) {K : Act → World → Prop} {Q : Exit → Act → World → Prop}
    (hK : ∀ a' w' m', Post n0 B0 fl m (H i) w m' (H (i + 1)) w' → SR nt m' (S (i + 1)) a' → a'.defers = a.defers → K a' w') : wpOp P ops Q i K a w := by
  obtain ⟨o, ho, hop, hdst, hg, hd⟩ := hc.at_ i O hO
  unfold wpOp
  rw [hO]
  simp only
  have hmono : ∀ {fl' : Nat → Bool} {m' : Map} {h' : Heap} {w' : World}, Post n0 B0 fl' m (H i) w m' h' w' → ∀ id b, m id = some b → m' id = some b := fun p => p.ext r.dom
  rcases tr.step i o ho with ⟨hw, v, hrun, hS, hD⟩ | ⟨hw, hH, hS, hD⟩
  · rw [wanted_spec hg (fun t b hgt => hs.slot t) hw]
    simp only [if_true]
    refine .inl (sim_runOp hC hop hrun r hfl (fun y hy z hz => hs.opd hz) fun v' w' m' hp hv => hK _ w' m' (hp.mono fun i h => lessen_le i h) ?_ ?_)
    · rw [hS, ← hdst]
      exact hs.put (hmono hp) (by rw [hdst]; exact hd) hv
    · cases hdd : O.dst <;> rfl
  · rw [wanted_spec hg (fun t b hgt => hs.slot t) hw]
    simp only [Bool.false_eq_true, if_false]
    refine hK _ w m ?_ ?_ ?_
    · rw [hH]; exact .refl r
    · rw [hS, ← hdst]
      exact hs.put (fun _ _ h => h) (by rw [hdst]; exact hd) VRs.no
    · cases hdd : O.dst <;> rfl

/-- A region in its textual order. -/
theorem sim_seq {C : CallT} (hC : CallOk P C) {n0 B0 nt base : Nat} {fl : Nat → Bool} (hfl : ∀ id, fl id = true → n0 ≤ id) {ops : Array Oper} {l : List AOper} (hc : Comp P nt ops l) {S : Nat → Slots} {H : Nat → Heap} {D : Nat → Seen} (tr : Trace C base fl l S H D)
    {m0 : Map} {w0 : World} (hd0 : ∀ id b, m0 id = some b → id < (H 0).length) {defs : List Deferred} {Q : Exit → Act → World → Prop}
    (hQ : ∀ a w m, Post n0 B0 fl m0 (H 0) w0 m (H ops.size) w → SR nt m (S ops.size) a → a.defers = defs → Q .normal a w) :
    ∀ (k i : Nat), i + k = ops.size → ∀ m a w, Post n0 B0 fl m0 (H 0) w0 m (H i) w → SR nt m (S i) a → a.defers = defs → wpOps P ops Q (List.range' i k) a w
  | 0, i, hi, m, a, w, hp, hs, hda => by
    obtain rfl : i = ops.size := by omega
    exact hQ a w m hp hs hda
  | k + 1, i, hi, m, a, w, hp, hs, hda => by
    rw [List.range'_succ, wpOps_cons]
    obtain ⟨O, hO⟩ : ∃ O, ops[i]? = some O := ⟨ops[i]'(by omega), Array.getElem?_eq_getElem _⟩
    exact sim_step hC hfl hc tr hO hp.rels hs fun a' w' m' hp' hs' hda' =>
      sim_seq hC hfl hc tr hd0 hQ k (i + 1) (by omega) m' a' w' (hp.trans hd0 hp') hs' (hda'.trans hda)

/-- A walk of one operation has an end. -/
theorem wp_some {O : Oper} {a : Act} {w : World} {K : Act → World → Prop} (h : O.wp P a w K (fun _ _ _ => False)) : ∃ a' w', K a' w' := by
  unfold Oper.wp at h
  unfold Oper.upon at h
  split at h
  · exact ⟨_, _, h⟩
  · exact ⟨_, _, h⟩
  · exact ⟨_, _, h⟩
  · obtain ⟨e, w', fr, hR, _⟩ := h []
    split at hR
    · exact ⟨_, _, hR⟩
    · exact hR.elim
    · obtain ⟨_, _, h⟩ := hR; exact h.elim
  · obtain ⟨v, w', hR, _⟩ := h default []
    exact ⟨_, _, hR⟩
  · exact h.elim
  · exact h.elim

theorem wpOp_some {ops : Array Oper} {i : Nat} {a : Act} {w : World} {K : Act → World → Prop} (h : wpOp P ops (fun _ _ _ => False) i K a w) : ∃ a' w', K a' w' := by
  unfold wpOp at h
  split at h
  · exact ⟨_, _, h⟩
  · split at h
    · rcases h with h | ⟨_, _, _, h⟩
      · exact wp_some h
      · exact h.elim
    · exact ⟨_, _, h⟩

/-- What the textual run does to memory, as AM sees it. -/
theorem seq_facts {C : CallT} (hC : CallOk P C) {n0 B0 nt base : Nat} {fl : Nat → Bool} (hfl : ∀ id, fl id = true → n0 ≤ id) {ops : Array Oper} {l : List AOper} (hc : Comp P nt ops l) {S : Nat → Slots} {H : Nat → Heap} {D : Nat → Seen} (tr : Trace C base fl l S H D)
    {m0 : Map} {w0 : World} (r0 : Rels n0 B0 m0 (H 0) w0) {a0 : Act} (hs0 : SR nt m0 (S 0) a0) : ∀ i, i ≤ ops.size → ∃ m w a, Post n0 B0 fl m0 (H 0) w0 m (H i) w ∧ SR nt m (S i) a
  | 0, _ => ⟨m0, w0, a0, .refl r0, hs0⟩
  | i + 1, hi => by
    obtain ⟨m, w, a, hp, hs⟩ := seq_facts hC hfl hc tr r0 hs0 i (by omega)
    obtain ⟨O, hO⟩ : ∃ O, ops[i]? = some O := ⟨ops[i]'(by omega), Array.getElem?_eq_getElem _⟩
    obtain ⟨a', w', m', hp', hs'⟩ := wpOp_some (P := P) (K := fun a' w' => ∃ m', Post n0 B0 fl m (H i) w m' (H (i + 1)) w' ∧ SR nt m' (S (i + 1)) a')
      (sim_step hC hfl hc tr hO hp.rels hs fun a' w' m' hp' hs' _ => ⟨m', hp', hs'⟩)
    exact ⟨m', w', a', hp.trans r0.dom hp', hs'⟩

/-! ### Kinds of operations -/
def clsA : AOp → Nat
  | .load _ _ => 1
  | .box _ _ | .zero _ | .lits _ _ _ _ | .mkSlice _ _ _ _ _ => 2
  | .store _ _ _ | .call _ _ | .append _ _ _ _ | .copy _ _ _ | .clear _ _ _ => 3
  | _ => 0

theorem cls_spec {O : Oper} {x : AOp} (hc : cOp P O = some x) : clsA x = clsOp O.op := by
  obtain ⟨dst, op, ty, pos, af, gd⟩ := O
  cases op <;> simp only [cOp, cBin] at hc
  all_goals (try (cases hc; done))
  all_goals (repeat' split at hc)
  all_goals (try (cases hc; done))
  all_goals first
    | (injection hc with hc; subst hc; rfl)
    | (simp [Option.bind_eq_some_iff] at hc; done)
    | (simp [Option.bind_eq_some_iff] at hc; (repeat (obtain ⟨_, hc⟩ := hc)); first | rfl | (subst hc; rfl))
    | (exfalso; simp_all; done)
    | (simp only [Op.call.injEq] at *; subst_vars; simp [Option.bind_eq_some_iff] at hc; (repeat (obtain ⟨_, hc⟩ := hc)); first | rfl | (subst hc; rfl))
    | skip
end
end Go.Proofs.Ytpmmiaadfnildaa
