/-
  AM and the program's machine: one operation within a region, calls included; a region's textual run.
-/
import Derived.Test.YtpmmiaadfnildaaAmI
namespace Go.Proofs.Ytpmmiaadfnildaa
open Go
set_option linter.unusedVariables false
set_option linter.unusedSimpArgs false
section
variable {P : Program}

/-- What is owed of the calls. -/
def CallOk (P : Program) (C : CallT) : Prop :=
  ∀ f args fl h v h', C f args fl h = some (v, h') → (∃ fn c, P.funcs[f]? = some fn ∧ (fn.name == "runtime.NumGoroutine") = false ∧ fn.body = some c) ∧
    ∀ n0 B0 m w (vals : Array Value), Rels n0 B0 m h w → (∀ id, fl id = true → n0 ≤ id) → VRs m args vals.toList →
      Calls P f vals w fun e w' => ∃ v' m', e = .returned v' ∧ Post n0 B0 fl m h w m' h' w' ∧ VR m' v v'

theorem run_callFunc_of {f : FuncId} {fn : Func} {c : Code} (hf : P.funcs[f]? = some fn) (hname : (fn.name == "runtime.NumGoroutine") = false) (hb : fn.body = some c) (args : Array Value) (w : World) :
    (callFunc f args).run P w = .ok (.enter f args) w := by
  have h1 : fn.name ≠ "runtime.NumGoroutine" := by simpa using hname
  simp [callFunc, hf, h1, hb]

theorem lessen_le {fl : Nat → Bool} {o : AOper} {forb : List Nat} (i : Nat) (h : lessen fl o forb i = true) : fl i = true := by
  unfold lessen at h
  split at h
  · exact h
  · simp at h; exact h.1

/-- One operation that is no call. -/
theorem sim_wp {n0 B0 : Nat} {fl : Nat → Bool} {O : Oper} {x : AOp} (hc : cOp P O = some x) {top} {s : Slots} {h h' : Heap} {v : AV} (hrun : opEval top fl s h x = some (v, h')) {m : Map} {w : World} (r : Rels n0 B0 m h w) (hfl : ∀ id, fl id = true → n0 ≤ id) {a : Act}
    (hs : ∀ y ∈ O.op.operands.toList, ∀ z, cOpd y = some z → VR m (z.ev s) (a.eval y)) {K : Act → World → Prop} {Q : Exit → Act → World → Prop}
    (hK : ∀ v' w' m', Post n0 B0 fl m h w m' h' w' → VR m' v v' → K (a.put O.dst v') w') : O.wp P a w K Q := by
  obtain ⟨v', w', m', hy, hp, hv⟩ := sim_op (P := P) (ρ := a.eval) r hfl (fun v => rfl) hc hs hrun
  unfold Oper.wp
  rcases hy with hy | ⟨hy, rfl⟩
  · rw [hy]; exact hK v' w' m' hp hv
  · rw [hy]; exact hK undef w' m' hp hv

/-- One operation. -/
theorem sim_runOp {C : CallT} (hC : CallOk P C) {n0 B0 : Nat} {base : Nat} {fl : Nat → Bool} {d : Seen} {forb : List Nat} {o : AOper} {O : Oper} (ho : o.op = (cOp P O).getD .bad)
    {s : Slots} {h h' : Heap} {v : AV} (hrun : runOp C base fl d forb o s h = some (v, h')) {m : Map} {w : World} (r : Rels n0 B0 m h w) (hfl : ∀ id, fl id = true → n0 ≤ id) {a : Act}
    (hs : ∀ y ∈ O.op.operands.toList, ∀ z, cOpd y = some z → VR m (z.ev s) (a.eval y)) {K : Act → World → Prop} {Q : Exit → Act → World → Prop}
    (hK : ∀ v' w' m', Post n0 B0 (lessen fl o forb) m h w m' h' w' → VR m' v v' → K (a.put O.dst v') w') : O.wp P a w K Q := by
  have hfl' : ∀ id, lessen fl o forb id = true → n0 ≤ id := fun id hid => hfl id (lessen_le id hid)
  cases hc : cOp P O with
  | none =>
    rw [hc] at ho
    simp only [Option.getD_none] at ho
    unfold runOp at hrun
    rw [ho] at hrun
    simp [opEval] at hrun
  | some x =>
    rw [hc] at ho
    simp only [Option.getD_some] at ho
    unfold runOp at hrun
    split at hrun
    · rename_i f args heq
      rw [heq] at ho
      subst ho
      split at hrun
      · rename_i g caps hg
        -- what the operation was
        obtain ⟨dst, op, ty, pos, af, gd⟩ := O
        have hop : ∃ f0 args0 at_, op = .call { callee := .value f0, args := args0, argTypes := at_ } ∧ cOpd f0 = some f ∧ opds args0.toList = some args := by
          cases op with
          | call c =>
            obtain ⟨callee, args0, at_⟩ := c
            cases callee with
            | value f0 =>
              simp only [cOp, Option.bind_eq_bind, Option.bind_eq_some_iff, Option.pure_def, Option.some.injEq, AOp.call.injEq] at hc
              obtain ⟨f', h1, a', h2, rfl, rfl⟩ := hc
              exact ⟨f0, args0, at_, rfl, h1, h2⟩
            | invoke rv mt => simp [cOp] at hc
            | builtin b =>
              exfalso
              simp only [cOp] at hc
              (repeat' split at hc) <;> simp [Option.bind_eq_some_iff] at hc
          | binOp op t x y u =>
            exfalso
            simp only [cOp, cBin] at hc
            (repeat' split at hc) <;> first | (injection hc with hc; cases hc; done) | (cases hc; done)
          | _ =>
            exfalso
            simp only [cOp] at hc
            first
              | (simp [Option.bind_eq_some_iff] at hc; done)
              | ((repeat' split at hc) <;> first | (cases hc; done) | (injection hc with hc; cases hc; done) | (simp [Option.bind_eq_some_iff] at hc; done) | (simp_all; done) | (exfalso; simp only [reduceCtorEq] at *; done))
        obtain ⟨f0, args0, at_, rfl, h1, h2⟩ := hop
        have hf := hs f0 (by simp [Op.operands, Call.operands]) f h1
        rw [hg] at hf
        obtain ⟨⟨fn, c, h3, h4, h5⟩, hcall⟩ := hC _ _ _ _ _ _ hrun
        generalize hq : a.eval f0 = u at hf
        cases hf with
        | func hl hh =>
          rename_i us
          have hargs := opds_spec (ρ := a.eval) (s := s) (m := m) h2 (fun b hb => hs b (by simp [Op.operands, Call.operands, hb]))
          have hall : VRs m (args.map (·.ev s) ++ caps) ((args0.map a.eval) ++ us).toList := by
            rw [Array.toList_append, Array.toList_map]
            exact hargs.append ⟨by simpa using hl, by simpa using hh⟩
          have := hcall n0 B0 m w _ r hfl' hall
          have hex : (execOp a.eval ⟨dst, .call { callee := .value f0, args := args0, argTypes := at_ }, ty, pos, af, gd⟩).run P w = .ok (.enter g (args0.map a.eval ++ us)) w := by
            simp only [execOp, resolve, hq, Deferred.ofValue, Sem.run_bind, Sem.run_pure, Result.andThen_ok, invoke, Array.empty_append]
            exact run_callFunc_of h3 h4 h5 _ w
          unfold Oper.wp
          rw [hex, Oper.upon_enter]
          refine this.mono fun e w' hpost => ?_
          obtain ⟨v', m', rfl, hp, hv⟩ := hpost
          exact hK v' w' m' hp hv
      · cases hrun
    · rename_i x' hne
      rw [ho] at hrun
      obtain ⟨v', w', m', hy, hp, hv⟩ := sim_op (P := P) (ρ := a.eval) r hfl' (fun v => rfl) hc hs hrun
      unfold Oper.wp
      rcases hy with hy | ⟨hy, rfl⟩
      · rw [hy]; exact hK v' w' m' hp hv
      · rw [hy]; exact hK undef w' m' hp hv

/-! ### Slots -/
structure SR (nt : Nat) (m : Map) (s : Slots) (a : Act) : Prop where
  size : a.tmps.size = nt
  slot : ∀ t, VR m (s t) (a.tmps.getD t undef)

theorem getD_put (a : Act) (d : Option Tmp) (v : Value) (t : Nat) (hd : ∀ x, d = some x → x < a.tmps.size) : (a.put d v).tmps.getD t undef = if d = some t then v else a.tmps.getD t undef := by
  cases d with
  | none => simp [Act.put]
  | some x =>
    have hx := hd x rfl
    simp only [Act.put, Array.getD_eq_getD_getElem?, Array.getElem?_setIfInBounds]
    by_cases h : x = t
    · subst h; simp [hx]
    · simp [h]
theorem size_put (a : Act) (d : Option Tmp) (v : Value) : (a.put d v).tmps.size = a.tmps.size := by
  cases d <;> simp [Act.put]
theorem put_at (s : Slots) (d : Option Nat) (v : AV) (t : Nat) : put s d v t = if d = some t then v else s t := by
  cases d with
  | none => simp [put]
  | some x =>
    simp only [put, upd]
    by_cases h : t = x
    · subst h; simp
    · rw [if_neg h, if_neg (fun e => h (by injection e with e; exact e.symm))]

theorem SR.put {nt : Nat} {m m' : Map} {s : Slots} {a : Act} (h : SR nt m s a) (hm : ∀ id b, m id = some b → m' id = some b) {d : Option Nat} (hd : ∀ x, d = some x → x < nt) {v : AV} {v' : Value} (hv : VR m' v v') : SR nt m' (put s d v) (a.put d v') := by
  refine ⟨by rw [size_put]; exact h.size, fun t => ?_⟩
  rw [put_at, getD_put a d v' t (by rw [h.size]; exact hd)]
  split
  · exact hv
  · exact (h.slot t).mono hm
theorem SR.mono {nt : Nat} {m m' : Map} {s : Slots} {a : Act} (h : SR nt m s a) (hm : ∀ id b, m id = some b → m' id = some b) : SR nt m' s a := ⟨h.size, fun t => (h.slot t).mono hm⟩
theorem SR.opd {nt : Nat} {m : Map} {s : Slots} {a : Act} (h : SR nt m s a) {y : Operand} {z : Opd} (hz : cOpd y = some z) : VR m (z.ev s) (a.eval y) := cOpd_spec hz fun t _ => h.slot t

/-- A guard is read alike. -/
theorem wanted_spec {m : Map} {ops : Array Oper} {O : Oper} {o : AOper} {s : Slots} {a : Act} (hg : guardTmp ops O = some o.guard) (hs : ∀ t w, o.guard = some (t, w) → VR m (s t) (a.tmps.getD t undef)) {b : Bool} (hb : wantedA o s = some b) : Region.wanted O (yielded ops a.tmps) = b := by
  unfold guardTmp at hg
  unfold wantedA at hb
  unfold Region.wanted
  cases hG : O.guard with
  | none =>
    rw [hG] at hg
    simp only [Option.some.injEq] at hg
    rw [← hg] at hb
    simp at hb; simp [hb]
  | some p =>
    obtain ⟨j, want⟩ := p
    rw [hG] at hg
    simp only at hg
    split at hg
    · rename_i t ht
      simp only [Option.some.injEq] at hg
      rw [← hg] at hb hs
      simp only at hb
      have hv := hs t want rfl
      simp only [yielded, ht, Option.bind_some]
      split at hb
      · rename_i c hc
        rw [hc] at hv
        injection hb with hb; subst hb
        have hv := hv.bool
        rw [Array.getD_eq_getD_getElem?] at hv
        cases hq : a.tmps[t]? with
        | none => rw [hq] at hv; simp [undef] at hv
        | some q =>
          rw [hq] at hv
          simp at hv
          subst hv
          simp
      · rename_i c hnot hc
        rw [hc] at hv
        injection hb with hb; subst hb
        have hv := hv.lit
        rw [Array.getD_eq_getD_getElem?] at hv
        cases hq : a.tmps[t]? with
        | none => simp
        | some q =>
          rw [hq] at hv
          simp at hv
          subst hv
          cases q <;> first | (simp; done) | (exact (hnot _ rfl).elim)
      · rename_i hc
        rw [hc] at hv
        injection hb with hb; subst hb
        rw [Array.getD_eq_getD_getElem?] at hv
        cases hq : a.tmps[t]? with
        | none => simp
        | some q =>
          rw [hq] at hv
          simp only [Option.getD_some] at hv
          cases hv with
          | tuple hl hh => simp
      · cases hb
    · cases hg
end
end Go.Proofs.Ytpmmiaadfnildaa
