/-
  AM and the program's machine: code and calls. 'am_calls': what AM computes of a call is what the call does.
-/
import Derived.Test.YtpmmiaadfnildaaAmP
namespace Go.Proofs.Ytpmmiaadfnildaa
open Go Go.RowKit
set_option linter.unusedVariables false
set_option linter.unusedSimpArgs false
section
variable {P : Program} {C : CallT} {n0 B0 nt : Nat} {fl : Nat → Bool}

def toExit : AExit → Exit
  | .normal => .normal
  | .exit id => .exit id
  | .ret => .ret

def Sound (P : Program) (n0 B0 nt : Nat) (fl : Nat → Bool) (f : Slots → Heap → Out) (c : Code) : Prop :=
  ∀ s h x s' h', f s h = some (x, s', h') → ∀ m w a, Rels n0 B0 m h w → SR nt m s a → ∀ Q : Exit → Act → World → Prop, (∀ m' a' w', Post n0 B0 fl m h w m' h' w' → SR nt m' s' a' → a'.defers = a.defers → Q (toExit x) a' w') → c.wp P Q a w

theorem iter_sound {f : Slots → Heap → Out} {c : Code} (hf : Sound P n0 B0 nt fl f c) : ∀ (k : Nat) s h x s' h', iter f k s h = some (x, s', h') → ∀ m w a, Rels n0 B0 m h w → SR nt m s a → ∀ Q : Exit → Act → World → Prop,
    (∀ m' a' w', Post n0 B0 fl m h w m' h' w' → SR nt m' s' a' → a'.defers = a.defers → Q (toExit x) a' w') → ∀ (b : Frame) (kk : List Item) (cs : List Frame), ∃ e a' w', Q e a' w' ∧ Arrives P (lone (b.at a (.code c :: .inLoop c :: kk)) cs w) b kk cs e a' w'
  | 0, s, h, x, s', h', hi => by simp [iter] at hi
  | k + 1, s, h, x, s', h', hi => by
    intro m w a r hs Q hQ b kk cs
    simp only [iter] at hi
    split at hi
    · rename_i s1 h1 he
      obtain ⟨e, a1, w1, ⟨rfl, m1, p1, hs1, hd1⟩, harr⟩ := hf s h .normal s1 h1 he m w a r hs (fun e a' w' => e = .normal ∧ ∃ m', Post n0 B0 fl m h w m' h1 w' ∧ SR nt m' s1 a' ∧ a'.defers = a.defers) (fun m' a' w' p q d => ⟨rfl, m', p, q, d⟩) b (.inLoop c :: kk) cs
      obtain ⟨e2, a2, w2, hq2, harr2⟩ := iter_sound hf k s1 h1 x s' h' hi m1 w1 a1 p1.rels hs1 Q (fun m' a' w' p q d => hQ m' a' w' (p1.trans r.dom p) q (d.trans hd1)) b kk cs
      exact ⟨e2, a2, w2, hq2, .of_steps (Steps.trans harr (.one step_inLoop)) harr2⟩
    · rename_i hne
      obtain ⟨e, a1, w1, ⟨rfl, hq⟩, harr⟩ := hf s h x s' h' hi m w a r hs (fun e a' w' => e = toExit x ∧ Q e a' w') (fun m' a' w' p q d => ⟨rfl, hQ m' a' w' p q d⟩) b (.inLoop c :: kk) cs
      cases x with
      | normal => exact absurd hi (hne s' h')
      | exit id => exact ⟨_, a1, w1, hq, .pass (x := .inLoop c) rfl (fun _ _ => .inl (by simp [toExit])) harr⟩
      | ret => exact ⟨_, a1, w1, hq, .pass (x := .inLoop c) rfl (fun _ _ => .inl (by simp [toExit])) harr⟩

theorem exec_sound (hmix : P.follows .mixedOrders = true) (hC : CallOk P C) (hfl : ∀ id, fl id = true → n0 ≤ id) (n : Nat) : ∀ (code : Code) (c : ACode), cCode P nt code = some c → Sound P n0 B0 nt fl (exec C n fl c) code := by
  intro code
  induction code with
  | skip =>
    intro c hc s h x s' h' he m w a r hs Q hQ
    simp only [cCode, Option.some.injEq] at hc; subst hc
    simp only [exec] at he
    injection he with he; injection he with h1 he; injection he with h2 h3; subst h1; subst h2; subst h3
    exact wp_skip (hQ m a w (.refl r) hs rfl)
  | region id ops draw =>
    intro c hc s h x s' h' he m w a r hs Q hQ
    simp only [cCode, Option.map_eq_some_iff] at hc
    obtain ⟨l, hl, rfl⟩ := hc
    simp only [exec] at he
    split at he
    · rename_i s1 h1 hrun
      injection he with he; injection he with e1 he; injection he with e2 e3; subst e1; subst e2; subst e3
      exact sim_region hmix hC hfl hl hrun r hs hQ
    · cases he
  | seq A B ihA ihB =>
    intro c hc s h x s' h' he m w a r hs Q hQ
    simp only [cCode, Option.bind_eq_bind, Option.bind_eq_some_iff, Option.pure_def, Option.some.injEq] at hc
    obtain ⟨ca, ha, cb, hb, rfl⟩ := hc
    simp only [exec] at he
    refine wp_seq ?_
    split at he
    · rename_i s1 h1 h1'
      exact ihA ca ha s h .normal s1 h1 h1' m w a r hs _ fun m' a' w' p q d =>
        ihB cb hb s1 h1 x s' h' he m' w' a' p.rels q Q fun m2 a2 w2 p2 q2 d2 => hQ m2 a2 w2 (p.trans r.dom p2) q2 (d2.trans d)
    · rename_i hne
      refine ihA ca ha s h x s' h' he m w a r hs _ fun m' a' w' p q d => ?_
      cases x with
      | normal => exact absurd he (hne s' h')
      | exit id => exact hQ m' a' w' p q d
      | ret => exact hQ m' a' w' p q d
  | cond o A B ihA ihB =>
    intro c hc s h x s' h' he m w a r hs Q hQ
    simp only [cCode, Option.bind_eq_bind, Option.bind_eq_some_iff, Option.pure_def, Option.some.injEq] at hc
    obtain ⟨co, ho, ca, ha, cb, hb, rfl⟩ := hc
    simp only [exec] at he
    split at he
    · rename_i t ht
      have hv := hs.opd ho
      rw [ht] at hv
      refine wp_cond hv.bool ?_
      cases t with
      | true => exact ihA ca ha s h x s' h' (by simpa using he) m w a r hs Q hQ
      | false => exact ihB cb hb s h x s' h' (by simpa using he) m w a r hs Q hQ
    · cases he
  | block id A ihA =>
    intro c hc s h x s' h' he m w a r hs Q hQ
    simp only [cCode, Option.map_eq_some_iff] at hc
    obtain ⟨ca, ha, rfl⟩ := hc
    simp only [exec] at he
    refine wp_block ?_
    split at he
    · rename_i j s1 h1 h1'
      refine ihA ca ha s h (.exit j) s1 h1 h1' m w a r hs _ fun m' a' w' p q d => ?_
      simp only [toExit, Exit.inBlock]
      split at he
      · rename_i hj
        injection he with he; injection he with e1 he; injection he with e2 e3; subst e1; subst e2; subst e3
        rw [if_pos hj]; exact hQ m' a' w' p q d
      · rename_i hj
        injection he with he; injection he with e1 he; injection he with e2 e3; subst e1; subst e2; subst e3
        rw [if_neg hj]; exact hQ m' a' w' p q d
    · rename_i hne
      refine ihA ca ha s h x s' h' he m w a r hs _ fun m' a' w' p q d => ?_
      cases x with
      | normal => exact hQ m' a' w' p q d
      | exit id => exact absurd he (hne id s' h')
      | ret => exact hQ m' a' w' p q d
  | loop A ihA =>
    intro c hc s h x s' h' he m w a r hs Q hQ
    simp only [cCode, Option.map_eq_some_iff] at hc
    obtain ⟨ca, ha, rfl⟩ := hc
    simp only [exec] at he
    intro b kk cs
    obtain ⟨e, a', w', hq, harr⟩ := iter_sound (ihA ca ha) n s h x s' h' he m w a r hs Q hQ b kk cs
    exact ⟨e, a', w', hq, .of_steps (.one step_loop) harr⟩
  | exit id =>
    intro c hc s h x s' h' he m w a r hs Q hQ
    simp only [cCode, Option.some.injEq] at hc; subst hc
    simp only [exec] at he
    injection he with he; injection he with h1 he; injection he with h2 h3; subst h1; subst h2; subst h3
    exact wp_exit (hQ m a w (.refl r) hs rfl)
  | scope A ihA =>
    intro c hc s h x s' h' he m w a r hs Q hQ
    simp only [cCode, Option.map_eq_some_iff] at hc
    obtain ⟨ca, ha, rfl⟩ := hc
    simp only [exec] at he
    refine wp_scope_straight ?_
    refine ihA ca ha s h x s' h' he m w a r hs _ fun m' a' w' p q d => ?_
    cases x with
    | normal => exact hQ m' a' w' p q d
    | exit id => exact hQ m' a' w' p q d
    | ret => exact hQ m' a' w' p q d
  | label l =>
    intro c hc s h x s' h' he m w a r hs Q hQ
    simp only [cCode, Option.some.injEq] at hc; subst hc
    simp only [exec] at he
    injection he with he; injection he with h1 he; injection he with h2 h3; subst h1; subst h2; subst h3
    exact wp_label (hQ m a w (.refl r) hs rfl)
  | ret =>
    intro c hc s h x s' h' he m w a r hs Q hQ
    simp only [cCode, Option.some.injEq] at hc; subst hc
    simp only [exec] at he
    injection he with he; injection he with h1 he; injection he with h2 h3; subst h1; subst h2; subst h3
    exact wp_ret (hQ m a w (.refl r) hs rfl)
  | rangeFunc f ps as body ih1 ih2 =>
    intro c hc s h x s' h' he
    simp only [cCode, Option.some.injEq] at hc; subst hc
    simp [exec] at he
  | goto l =>
    intro c hc s h x s' h' he
    simp only [cCode, Option.some.injEq] at hc; subst hc
    simp [exec] at he
  | refuse q =>
    intro c hc s h x s' h' he
    simp only [cCode, Option.some.injEq] at hc; subst hc
    simp [exec] at he

def resV (tmps : Array Value) : ResultVar → Sem Value
  | .tmp t => pure (tmps.getD t undef)
  | .cell a t => do loadVar t (← asAddr (tmps.getD a undef))
theorem results_eq (fn : Func) (tmps : Array Value) : results fn tmps = (do
    let vs ← fn.results.mapM (resV tmps)
    pure (if h : vs.size = 1 then vs[0] else .tuple vs)) := rfl

theorem res_sound {m : Map} {h : Heap} {w : World} {s : Slots} {a : Act} (r : Rels n0 B0 m h w) (hs : SR nt m s a) {R : ResultVar} {q : ARes} (hc : cRes P R = some q) {v : AV} (hv : resA s h q = some v) :
    ∃ v', (resV a.tmps R).run P w = .ok v' w ∧ VR m v v' := by
  cases R with
  | tmp t =>
    simp only [cRes, Option.some.injEq] at hc; subst hc
    simp only [resA, Option.some.injEq] at hv; subst hv
    exact ⟨_, rfl, hs.slot t⟩
  | cell x t =>
    simp only [cRes, Option.map_eq_some_iff] at hc
    obtain ⟨n, hn, rfl⟩ := hc
    simp only [resA] at hv
    split at hv
    · rename_i id off hp
      have hx := hs.slot x
      rw [hp] at hx
      obtain ⟨b, hb, hq⟩ := hx.ptr_inv
      cases n with
      | some n =>
        obtain ⟨h1, h2⟩ := aggT_agg (w := w) hn
        obtain ⟨cs, hcs, rfl⟩ := Option.map_eq_some_iff.1 hv
        unfold rd at hcs
        split at hcs
        · rename_i l hl
          split at hcs
          · rename_i hle
            injection hcs with hcs; subst hcs
            obtain ⟨vs, h3, h4, h5⟩ := rel_cells r.rel hl hb hle
            have := run_loadCells_list (P := P) w _ vs h4
            rw [h3] at this
            exact ⟨.agg vs.toArray, by simp [resV, hq, asAddr, loadVar, h1, h2, this], VRs.agg (by simpa using h5)⟩
          · cases hcs
        · cases hcs
      | none =>
        have h1 := aggT_one (w := w) hn
        simp only at hv
        unfold rd1 at hv
        split at hv
        · rename_i l hl
          obtain ⟨v', h3, h4⟩ := r.rel.cell id l b hl hb off _ hv
          exact ⟨v', by simp [resV, hq, asAddr, loadVar, h1, h3], h4⟩
        · cases hv
    · cases hv

theorem results_sound {m : Map} {h : Heap} {w : World} {s : Slots} {a : Act} (r : Rels n0 B0 m h w) (hs : SR nt m s a) {fn : Func} {rs : List ARes} (hc : fn.results.toList.mapM (cRes P) = some rs) {v : AV} (hv : resultsA rs s h = some v) :
    ∃ v', (results fn a.tmps).run P w = .ok v' w ∧ VR m v v' := by
  have key : ∀ (Rs : List ResultVar) (rs : List ARes) (vs : List AV), Rs.mapM (cRes P) = some rs → rs.mapM (resA s h) = some vs → ∃ us : List Value, (Rs.mapM (resV a.tmps)).run P w = .ok us w ∧ VRs m vs us := by
    intro Rs
    induction Rs with
    | nil =>
      intro rs vs h1 h2
      simp at h1; subst h1
      simp at h2; subst h2
      exact ⟨[], by simp, .nil⟩
    | cons R Rs ih =>
      intro rs vs h1 h2
      simp only [List.mapM_cons, Option.pure_def, Option.bind_eq_bind, Option.bind_eq_some_iff, Option.some.injEq] at h1
      obtain ⟨q, hq, rs', hrs, rfl⟩ := h1
      simp only [List.mapM_cons, Option.pure_def, Option.bind_eq_bind, Option.bind_eq_some_iff, Option.some.injEq] at h2
      obtain ⟨v, hv, vs', hvs, rfl⟩ := h2
      obtain ⟨us, h3, h4⟩ := ih rs' vs' hrs hvs
      obtain ⟨v', h5, h6⟩ := res_sound (P := P) r hs hq hv
      refine ⟨v' :: us, ?_, .cons h6 h4⟩
      rw [List.mapM_cons, Sem.run_bind, h5, Result.andThen_ok, Sem.run_bind, h3]
      rfl
  have fin : ∀ (us : List Value), (fn.results.toList.mapM (resV a.tmps)).run P w = .ok us w → (results fn a.tmps).run P w = .ok (if h : us.length = 1 then us[0] else .tuple us.toArray) w := by
    intro us hus
    rw [results_eq, Array.mapM_eq_mapM_toList, Sem.run_bind, Sem.run_map, hus]
    simp
  unfold resultsA at hv
  split at hv
  · rename_i q
    have hone : ∃ R, fn.results.toList = [R] ∧ cRes P R = some q := by
      obtain ⟨hl, hg⟩ := mapM_get _ _ hc
      cases hR : fn.results.toList with
      | nil => rw [hR] at hl; simp at hl
      | cons R Rs =>
        cases Rs with
        | nil =>
          rw [hR] at hg
          obtain ⟨y, h1, h2⟩ := hg 0 R rfl
          simp at h1; subst h1
          exact ⟨R, rfl, h2⟩
        | cons R' Rs => rw [hR] at hl; simp at hl
    obtain ⟨R, hR, hq⟩ := hone
    obtain ⟨us, h1, h2⟩ := key [R] [q] [v] (by simp [hq]) (by simp [hv])
    have hul : us.length = 1 := by rw [← h2.1]; rfl
    have := fin us (by rw [hR]; exact h1)
    rw [dif_pos hul] at this
    refine ⟨_, this, h2.2 0 v _ rfl ?_⟩
    exact List.getElem?_eq_getElem _
  · rename_i hne
    obtain ⟨vs, hvs, rfl⟩ := Option.map_eq_some_iff.1 hv
    obtain ⟨us, h1, h2⟩ := key fn.results.toList rs vs hc hvs
    have hul : us.length ≠ 1 := by
      intro e
      have h3 : vs.length = 1 := by rw [h2.1]; exact e
      have h4 := (mapM_get _ _ hvs).1
      cases rs with
      | nil => simp only [List.length_nil] at h4; omega
      | cons q rs =>
        cases rs with
        | nil => exact hne q rfl
        | cons q' rs => simp at h4; omega
    have := fin us h1
    rw [dif_neg hul] at this
    exact ⟨_, this, VRs.tuple (by simpa using h2)⟩

theorem noX_ok : CallOk P noX := fun f args fl h v h' he => by simp [noX] at he
theorem call_ok (hmix : P.follows .mixedOrders = true) {X : CallT} (hX : CallOk P X) {F : FuncId → Option AFunc} (hF : ∀ f af, F f = some af → cFunc P f = some af) : ∀ n, CallOk P (call X F n)
  | 0 => fun f args fl h v h' he => hX f args fl h v h' he
  | n + 1 => fun f args fl h v h' he => by
    have ih := call_ok hmix hX hF n
    simp only [call] at he
    split at he
    · rename_i r hr
      injection he with he
      subst he
      exact hX f args fl h v h' hr
    split at he
    · rename_i af haf
      have hcf := hF f af haf
      unfold cFunc at hcf
      split at hcf
      · rename_i fn hfn
        split at hcf
        · cases hcf
        · rename_i hname
          split at hcf
          · rename_i c hb
            split at hcf
            · rename_i body rs hbody hrs
              injection hcf with hcf; subst hcf
              simp only at he
              refine ⟨⟨fn, c, hfn, by simpa using hname, hb⟩, ?_⟩
              intro n0 B0 m w vals r hfl hvals
              split at he
              · rename_i hlen
                have hvl := hvals.1
                simp only [Array.length_toList] at hvl
                have hsr : SR fn.ntmps m (fun t => args.getD t .no) { tmps := vals ++ Array.replicate (fn.ntmps - vals.size) undef, defers := [] } := by
                  refine ⟨by simp; omega, fun t => ?_⟩
                  by_cases ht : t < args.length
                  · have h1 : (vals ++ Array.replicate (fn.ntmps - vals.size) undef).getD t undef = vals[t]'(by omega) := by
                      rw [Array.getD_eq_getD_getElem?, Array.getElem?_append_left (by omega), Array.getElem?_eq_getElem (by omega)]; rfl
                    simp only [h1]
                    refine hvals.2 t _ _ ?_ ?_
                    · simp [List.getD, List.getElem?_eq_getElem ht]
                    · rw [Array.getElem?_toList, Array.getElem?_eq_getElem (by omega)]
                  · have h1 : (vals ++ Array.replicate (fn.ntmps - vals.size) undef).getD t undef = undef := by
                      rw [Array.getD_eq_getD_getElem?, Array.getElem?_append_right (by omega), Array.getElem?_replicate]
                      split <;> rfl
                    simp only [h1]
                    have h2 : args.getD t .no = .no := by simp [List.getD, List.getElem?_eq_none (Nat.le_of_not_lt ht)]
                    rw [h2]; exact VRs.no
                refine calls_of_wp hfn hb ?_
                have es := exec_sound (B0 := B0) hmix ih hfl n c body hbody
                have go : ∀ x s' h2, exec (call X F n) n fl body (fun t => args.getD t .no) h = some (x, s', h2) → (x = .normal ∨ x = .ret) → (resultsA rs s' h2).map (fun v => (v, h2)) = some (v, h') →
                    c.wp P (bodyPost P fn fun e w' => ∃ v' m', e = .returned v' ∧ Post n0 B0 fl m h w m' h' w' ∧ VR m' v v') { tmps := vals ++ Array.replicate (fn.ntmps - vals.size) undef, defers := [] } w := by
                  intro x s' h2 hex hx hres
                  obtain ⟨v0, hv0, hpair⟩ := Option.map_eq_some_iff.1 hres
                  injection hpair with e1 e2; subst e1; subst e2
                  refine es _ _ x s' h2 hex m w _ r hsr _ fun m' a' w' p q d => ?_
                  obtain ⟨v', h3, h4⟩ := results_sound (P := P) p.rels q hrs hv0
                  have hpost : a'.defers = [] ∧ ∃ u, (results fn a'.tmps).run P w' = .ok u w' ∧ ∃ v' m', Ending.returned u = .returned v' ∧ Post n0 B0 fl m h w m' h2 w' ∧ VR m' v0 v' := ⟨d, v', h3, v', m', rfl, p, h4⟩
                  rcases hx with rfl | rfl
                  · exact hpost
                  · exact hpost
                split at he
                · rename_i s' h2 hex
                  exact go .normal s' h2 hex (.inl rfl) he
                · rename_i s' h2 hex
                  exact go .ret s' h2 hex (.inr rfl) he
                · cases he
              · cases he
            · cases hcf
          · cases hcf
      · cases hcf
    · cases he

/-- What AM computes of a call is what the call does. -/
theorem am_calls (hmix : P.follows .mixedOrders = true) {X : CallT} (hX : CallOk P X) {F : FuncId → Option AFunc} (hF : ∀ f af, F f = some af → cFunc P f = some af) {n : Nat} {f : FuncId} {args : List AV} {h h' : Heap} {v : AV} (he : call X F n f args (fun i => decide (h.length ≤ i)) h = some (v, h'))
    {m : Map} {W : World} {vals : Array Value} (r : Rels h.length W.heap.size m h W) (hv : VRs m args vals.toList) : Calls P f vals W fun e W' => ∃ v' m', e = .returned v' ∧ VR m' v v' ∧ Below W.heap.size W W' := by
  refine ((call_ok hmix hX hF n f args _ h v h' he).2 h.length W.heap.size m W vals r (fun id hid => by simpa using hid) hv).mono fun e W' hp => ?_
  obtain ⟨v', m', rfl, p, hv'⟩ := hp
  refine ⟨v', m', rfl, hv', p.os, p.tape, p.output, p.size, fun k hk => p.frame k hk fun id l b h1 h2 h3 => ?_⟩
  have := blk_lt h2
  simp at h1
  omega
end
end Go.Proofs.Ytpmmiaadfnildaa
