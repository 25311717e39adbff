/-
  AM and the program's machine: a region that draws its order ends as its textual run.
-/
import Derived.Test.YtpmmiaadfnildaaAmL
namespace Go.Proofs.Ytpmmiaadfnildaa
open Go
set_option linter.unusedVariables false
set_option linter.unusedSimpArgs false
section
variable {P : Program} {C : CallT} {n0 B0 nt base : Nat} {fl : Nat → Bool} {ops : Array Oper} {l : List AOper} {S : Nat → Slots} {H : Nat → Heap} {D : Nat → Seen}

/-- What is known of the textual run. -/
structure Facts (n0 B0 nt base : Nat) (fl : Nat → Bool) (ops : Array Oper) (l : List AOper) (S : Nat → Slots) (H : Nat → Heap) (D : Nat → Seen) (m0 : Map) (w0 : World) : Prop where
  seq : ∀ i, i ≤ ops.size → ∃ m w a, Post n0 B0 fl m0 (H 0) w0 m (H i) w ∧ SR nt m (S i) a
  step : ∀ i o, l[i]? = some o → i < ops.size → ∃ m w m' w', Rels n0 B0 m (H i) w ∧ Post n0 B0 (if wantedA o (S i) = some true then lessen fl o (forbs fl (D i) o (l.drop (i + 1)) (S i) (H i)) else fun _ => false) m (H i) w m' (H (i + 1)) w'

theorem facts_of (hC : CallOk P C) (hfl : ∀ id, fl id = true → n0 ≤ id) (hc : Comp P nt ops l) (tr : Trace C base fl l S H D) {m0 : Map} {w0 : World} (r0 : Rels n0 B0 m0 (H 0) w0) {a0 : Act} (hs0 : SR nt m0 (S 0) a0) :
    Facts n0 B0 nt base fl ops l S H D m0 w0 := by
  refine ⟨seq_facts hC hfl hc tr r0 hs0, fun i o ho hi => ?_⟩
  obtain ⟨m, w, a, hp, hs⟩ := seq_facts hC hfl hc tr r0 hs0 i (by omega)
  obtain ⟨O, hO⟩ : ∃ O, ops[i]? = some O := ⟨ops[i]'hi, Array.getElem?_eq_getElem _⟩
  obtain ⟨o', ho', hop, hdst, hg, hd⟩ := hc.at_ i O hO
  rw [ho] at ho'
  injection ho' with ho'; subst ho'
  rcases tr.step i o ho with ⟨hw, v, hrun, hS, hD⟩ | ⟨hw, hH, hS, hD⟩
  · obtain ⟨a', w', m', hp'⟩ := wp_some (P := P) (K := fun a' w' => ∃ m', Post n0 B0 (lessen fl o (forbs fl (D i) o (l.drop (i + 1)) (S i) (H i))) m (H i) w m' (H (i + 1)) w')
      (sim_runOp hC hop hrun hp.rels hfl (fun y hy z hz => hs.opd hz) fun v' w' m' hp hv => ⟨m', hp⟩)
    exact ⟨m, w, m', w', hp.rels, by rw [if_pos hw]; exact hp'⟩
  · refine ⟨m, w, m, w, hp.rels, ?_⟩
    rw [if_neg (by rw [hw]; simp), hH]
    exact .refl hp.rels

variable {m0 : Map} {w0 : World}

theorem Facts.len (F : Facts n0 B0 nt base fl ops l S H D m0 w0) (hc : Comp P nt ops l) (i : Nat) (hi : i < ops.size) : (H i).length ≤ (H (i + 1)).length := by
  obtain ⟨o, ho⟩ : ∃ o, l[i]? = some o := ⟨l[i]'(by rw [hc.len]; exact hi), List.getElem?_eq_getElem _⟩
  obtain ⟨m, w, m', w', r, p⟩ := F.step i o ho hi
  exact p.len

/-- A light operation leaves what is there. -/
theorem light_keep (hc : Comp P nt ops l) (tr : Trace C base fl l S H D) {i : Nat} (hi : i < ops.size) (h3 : cl ops i ≠ 3) : H (i + 1) = H i ∨ ∃ x, H (i + 1) = H i ++ [some x] := by
  obtain ⟨O, hO⟩ : ∃ O, ops[i]? = some O := ⟨ops[i]'hi, Array.getElem?_eq_getElem _⟩
  obtain ⟨o, ho, hop, hdst, hg, hd⟩ := hc.at_ i O hO
  rcases tr.step i o ho with ⟨hw, v, hrun, hS, hD⟩ | ⟨hw, hH, hS, hD⟩
  · cases hcx : cOp P O with
    | none =>
      rw [hcx] at hop
      simp only [Option.getD_none] at hop
      unfold runOp at hrun
      rw [hop] at hrun
      simp [opEval] at hrun
    | some x =>
      rw [hcx] at hop
      simp only [Option.getD_some] at hop
      have hcls := cls_spec hcx
      have hcl : cl ops i = clsOp O.op := by simp [cl, hO]
      unfold runOp at hrun
      split at hrun
      · rename_i f args heq
        rw [heq] at hop
        subst hop
        exfalso
        apply h3
        rw [hcl, ← hcls]; rfl
      · rw [hop] at hrun
        have hb : clsA x = 0 ∨ clsA x = 1 ∨ clsA x = 2 ∨ clsA x = 3 := by cases x <;> simp [clsA]
        rcases hb with hb | hb | hb | hb
        · exact .inl (pure_heap hb hrun).1
        · cases x <;> simp [clsA] at hb
          exact .inl (load_heap hrun).1
        · obtain ⟨q, hq, _⟩ := alloc_heap hb hrun
          exact .inr ⟨q, hq⟩
        · exfalso; apply h3; rw [hcl, ← hcls]; exact hb
  · exact .inl hH

/-- With no change between, contents stay. -/
theorem stay_range (hc : Comp P nt ops l) (tr : Trace C base fl l S H D) (hm : ∀ i, i < ops.size → (H i).length ≤ (H (i + 1)).length) {x : Nat} : ∀ (d i : Nat), i + d ≤ ops.size → x < (H i).length → (∀ k, i ≤ k → k < i + d → cl ops k = 3 → blk (H (k + 1)) x = blk (H k) x) → blk (H (i + d)) x = blk (H i) x
  | 0, i, _, _, _ => rfl
  | d + 1, i, hi, hx, hh => by
    have hstep : blk (H (i + 1)) x = blk (H i) x := by
      by_cases h3 : cl ops i = 3
      · exact hh i (Nat.le_refl _) (by omega) h3
      · rcases light_keep hc tr (by omega) h3 with h | ⟨q, h⟩
        · rw [h]
        · rw [h]; exact blk_app_lt _ hx
    have := stay_range hc tr hm d (i + 1) (by omega) (Nat.lt_of_lt_of_le hx (hm i (by omega))) (fun k h1 h2 h3 => hh k (by omega) (by omega) h3)
    rw [show i + (d + 1) = i + 1 + d by omega, this, hstep]

theorem stay_le (hc : Comp P nt ops l) (tr : Trace C base fl l S H D) (hm : ∀ i, i < ops.size → (H i).length ≤ (H (i + 1)).length) {x i j : Nat} (hij : i ≤ j) (hj : j ≤ ops.size) (hx : x < (H i).length) (hh : ∀ k, i ≤ k → k < j → cl ops k = 3 → blk (H (k + 1)) x = blk (H k) x) : blk (H j) x = blk (H i) x := by
  have := stay_range hc tr hm (j - i) i (by omega) hx (fun k h1 h2 h3 => hh k h1 (by omega) h3)
  rwa [show i + (j - i) = j by omega] at this

abbrev Lst (listed : Array Bool) (k : Nat) : Prop := listed.getD k false = true

structure InvS (nt : Nat) (ops : Array Oper) (S : Nat → Slots) (H : Nat → Heap) (listed : Array Bool) (M : Map) (a : Act) : Prop where
  lsz : listed.size = ops.size
  closed : ∀ (k : Nat) O, ops[k]? = some O → Lst listed k → ∀ e ∈ edges O, Lst listed e
  asz : a.tmps.size = nt
  dom : ∀ x b, M x = some b → x < (H 0).length ∨ ∃ i, i < ops.size ∧ Lst listed i ∧ (H i).length ≤ x ∧ x < (H (i + 1)).length
  slotL : ∀ (i : Nat) O t, ops[i]? = some O → O.dst = some t → Lst listed i → VR M (S (i + 1) t) (a.tmps.getD t undef)
  slotN : ∀ t, (∀ (i : Nat) O, ops[i]? = some O → O.dst = some t → ¬ Lst listed i) → VR M (S 0 t) (a.tmps.getD t undef)
  made : ∀ i, i < ops.size → Lst listed i → ∀ x, (H i).length ≤ x → x < (H (i + 1)).length → M x ≠ none

structure InvM (n0 B0 : Nat) (fl : Nat → Bool) (ops : Array Oper) (H : Nat → Heap) (m0 : Map) (w0 : World) (listed : Array Bool) (M : Map) (w : World) : Prop where
  mem : ∃ v, v ≤ ops.size ∧ (∀ i, cl ops i = 3 → i < v → Lst listed i) ∧ (∀ i, cl ops i = 3 → v ≤ i → ¬ Lst listed i) ∧ Rel n0 B0 M (fun x => blk (H (max v (crn H x ops.size))) x) w
  stable : ∀ j, j < ops.size → ¬ Lst listed j → ∀ x, (H j).length ≤ x → x < (H (j + 1)).length → ∀ i, cl ops i = 3 → Lst listed i → j < i → blk (H (i + 1)) x = blk (H i) x
  os : w.os = w0.os
  tape : w.tape = w0.tape
  output : w.output = w0.output
  size : w0.heap.size ≤ w.heap.size
  frame : ∀ x, x < w0.heap.size → (∀ id l b, fl id = true → blk (H 0) id = some l → m0 id = some b → b.b ≠ x) → w.heap[x]? = w0.heap[x]?
  keep : ∀ id, id < (H 0).length → M id = m0 id
  fresh : ∀ id b, (H 0).length ≤ id → M id = some b → w0.heap.size ≤ b.b ∨ ∃ j l c, fl j = true ∧ blk (H 0) j = some l ∧ m0 j = some c ∧ c.b = b.b

theorem lst_set {listed : Array Bool} {k i : Nat} (hk : k < listed.size) : Lst (listed.setIfInBounds k true) i ↔ Lst listed i ∨ i = k := by
  unfold Lst
  simp only [Array.getD_eq_getD_getElem?, Array.getElem?_setIfInBounds]
  by_cases h : k = i
  · subst h; simp [hk]
  · simp [h, Ne.symm h]


/-- A slot that is written by none from i on is as it was. -/
theorem slot_stay (hc : Comp P nt ops l) (tr : Trace C base fl l S H D) {t : Nat} : ∀ (d i : Nat), i + d ≤ ops.size → (∀ (k : Nat) O, i ≤ k → k < i + d → ops[k]? = some O → O.dst ≠ some t) → S (i + d) t = S i t
  | 0, i, _, _ => rfl
  | d + 1, i, hi, hw => by
    obtain ⟨O, hO⟩ : ∃ O, ops[i]? = some O := ⟨ops[i]'(by omega), Array.getElem?_eq_getElem _⟩
    obtain ⟨o, ho, hop, hdst, hg, hd⟩ := hc.at_ i O hO
    have hne : o.dst ≠ some t := by rw [hdst]; exact hw i O (Nat.le_refl _) (by omega) hO
    have h1 : S (i + 1) t = S i t := by
      rcases tr.step i o ho with ⟨_, v, _, hS, _⟩ | ⟨_, _, hS, _⟩ <;> rw [hS, put_at, if_neg hne]
    have := slot_stay hc tr (t := t) d (i + 1) (by omega) (fun k O h1 h2 => hw k O (by omega) (by omega))
    rw [show i + (d + 1) = i + 1 + d by omega, this, h1]

/-- What a ready operation looks at is there. -/
theorem slot_ready (hc : Comp P nt ops l) (dr : Draw ops l) (tr : Trace C base fl l S H D) {listed : Array Bool} {M : Map} {a : Act} (inv : InvS nt ops S H listed M a) {k : Nat} {O : Oper} (hO : ops[k]? = some O) (hk : ¬ Lst listed k) (he : ∀ e ∈ edges O, Lst listed e) {t : Nat} (ht : t ∈ looks ops O) :
    VR M (S k t) (a.tmps.getD t undef) := by
  have hks : k < ops.size := (Array.getElem?_eq_some_iff.1 hO).1
  have hready : ∀ O', ops[k]? = some O' → ∀ e ∈ edges O', Lst listed e := fun O' h => by rw [hO] at h; injection h with h; subst h; exact he
  by_cases hw : ∃ (i : Nat) (p : Oper), i < k ∧ ops[i]? = some p ∧ p.dst = some t
  · obtain ⟨i, p, hik, hp, hpd⟩ := hw
    have hi : Lst listed i := by
      have := (dr.data k i O p t hO hp (by omega) hpd).2 ht
      unfold Ord at this
      rw [if_pos hik] at this
      exact this.ready inv.closed hready
    have hs : S k t = S (i + 1) t := by
      have := slot_stay hc tr (t := t) (k - (i + 1)) (i + 1) (by omega) (fun j q h1 h2 hq => (dr.data j i q p t hq hp (by omega) hpd).1)
      rwa [show i + 1 + (k - (i + 1)) = k by omega] at this
    rw [hs]
    exact inv.slotL i p t hp hpd hi
  · have hs : S k t = S 0 t := by
      have := slot_stay hc tr (t := t) k 0 (by omega) (fun j q h1 h2 hq hqd => hw ⟨j, q, by omega, hq, hqd⟩)
      simpa using this
    rw [hs]
    refine inv.slotN t fun i p hp hpd hi => ?_
    have hik : ¬ i < k := fun h => hw ⟨i, p, h, hp, hpd⟩
    by_cases hik2 : i = k
    · subst hik2; exact hk hi
    · have := (dr.data k i O p t hO hp hik2 hpd).2 ht
      unfold Ord at this
      rw [if_neg hik] at this
      exact hk (this.closed inv.closed hi)

/-- The slots behind an operation. -/
theorem slots_next (hc : Comp P nt ops l) (dr : Draw ops l) {listed : Array Bool} {M M' : Map} {a : Act} (inv : InvS nt ops S H listed M a) {k : Nat} {O : Oper} (hO : ops[k]? = some O) (hk : ¬ Lst listed k) (he : ∀ e ∈ edges O, Lst listed e)
    (hm : ∀ x b, M x = some b → M' x = some b) (hdom : ∀ x b, M' x = some b → M x = some b ∨ ((H k).length ≤ x ∧ x < (H (k + 1)).length)) {v' : Value} (hv : ∀ t, O.dst = some t → VR M' (S (k + 1) t) v') (hmade : ∀ x, (H k).length ≤ x → x < (H (k + 1)).length → M' x ≠ none) :
    InvS nt ops S H (listed.setIfInBounds k true) M' (a.put O.dst v') := by
  have hks : k < ops.size := (Array.getElem?_eq_some_iff.1 hO).1
  have hkl : k < listed.size := by rw [inv.lsz]; exact hks
  obtain ⟨o, ho, hop, hdst, hg, hd⟩ := hc.at_ k O hO
  refine ⟨by simp [inv.lsz], ?_, by rw [size_put]; exact inv.asz, ?_, ?_, ?_, ?_⟩
  · intro i p hp hi e hep
    rcases (lst_set hkl).1 hi with hi | rfl
    · exact (lst_set hkl).2 (.inl (inv.closed i p hp hi e hep))
    · rw [hO] at hp; injection hp with hp; subst hp
      exact (lst_set hkl).2 (.inl (he e hep))
  · intro x b hb
    rcases hdom x b hb with hb | ⟨h1, h2⟩
    · rcases inv.dom x b hb with h | ⟨i, h1, h2, h3, h4⟩
      · exact .inl h
      · exact .inr ⟨i, h1, (lst_set hkl).2 (.inl h2), h3, h4⟩
    · exact .inr ⟨k, hks, (lst_set hkl).2 (.inr rfl), h1, h2⟩
  · intro i p t hp hpd hi
    rw [getD_put a O.dst v' t (by rw [inv.asz]; exact hd)]
    by_cases hik : i = k
    · subst hik
      rw [hO] at hp; injection hp with hp; subst hp
      rw [if_pos hpd]; exact hv t hpd
    · rw [if_neg (dr.data k i O p t hO hp hik hpd).1]
      rcases (lst_set hkl).1 hi with hi | hi
      · exact (inv.slotL i p t hp hpd hi).mono hm
      · exact absurd hi hik
  · intro t hn
    rw [getD_put a O.dst v' t (by rw [inv.asz]; exact hd), if_neg (fun h => hn k O hO h ((lst_set hkl).2 (.inr rfl)))]
    exact (inv.slotN t fun i p hp hpd hi => hn i p hp hpd ((lst_set hkl).2 (.inl hi))).mono hm
  · intro i hi hL x h1 h2
    rcases (lst_set hkl).1 hL with hL | rfl
    · have := inv.made i hi hL x h1 h2
      cases hb : M x with
      | none => exact absurd hb this
      | some b => rw [hm x b hb]; simp
    · exact hmade x h1 h2
end
end Go.Proofs.Ytpmmiaadfnildaa
