/-
  AM and the program's machine: memory behind an operation of a region that draws its order.
-/
import Derived.Test.YtpmmiaadfnildaaAmM
namespace Go.Proofs.Ytpmmiaadfnildaa
open Go
set_option linter.unusedVariables false
set_option linter.unusedSimpArgs false
section
variable {P : Program} {C : CallT} {n0 B0 nt base : Nat} {fl : Nat → Bool} {ops : Array Oper} {l : List AOper} {S : Nat → Slots} {H : Nat → Heap} {D : Nat → Seen} {m0 : Map} {w0 : World}

def joinM (M m' : Map) (p : Nat → Bool) : Map := fun x => if p x then m' x else M x

theorem cell_congr {w w' : World} {b o : Nat} (h : w'.heap[b]? = w.heap[b]?) : w'.cell? ⟨b, o, none⟩ = w.cell? ⟨b, o, none⟩ := by
  simp only [World.cell?, h]

/-- Memory joined: where p holds what an operation left, elsewhere what was. -/
theorem rel_join {M m' : Map} {p : Nat → Bool} {g1 g2 gj : Nat → Option (List AV)} {w w' : World} (r1 : Rel n0 B0 m' g1 w') (r2 : Rel n0 B0 M g2 w) (hsz : w.heap.size ≤ w'.heap.size)
    (hd : ∀ x b, m' x = some b → p x = true ∨ M x = some b) (hm : ∀ x b, M x = some b → p x = true → m' x = some b)
    (h1 : ∀ x b, p x = true → m' x = some b → gj x = g1 x) (h2 : ∀ x b, p x = false → M x = some b → gj x = g2 x)
    (hsame : ∀ x b, p x = false → M x = some b → ∀ lx, g2 x = some lx → w'.heap[b.b]? = w.heap[b.b]?)
    (hfar : ∀ i j bi bj li lj, p i = true → p j = false → m' i = some bi → M j = some bj → n0 ≤ i → n0 ≤ j → g1 i = some li → g2 j = some lj → bi.b ≠ bj.b) :
    Rel n0 B0 (joinM M m' p) gj w' := by
  have hlo : ∀ x b, p x = true → joinM M m' p x = some b → m' x = some b := fun x b hx h => by simpa [joinM, hx] using h
  have hhi : ∀ x b, p x = false → joinM M m' p x = some b → M x = some b := fun x b hx h => by simpa [joinM, hx] using h
  have up1 : ∀ x b, m' x = some b → joinM M m' p x = some b := fun x b h => by
    cases hx : p x with
    | true => simp [joinM, hx, h]
    | false =>
      rcases hd x b h with h3 | h3
      · rw [hx] at h3; cases h3
      · simp [joinM, hx, h3]
  have up2 : ∀ x b, M x = some b → joinM M m' p x = some b := fun x b h => by
    cases hx : p x with
    | true => simp [joinM, hx, hm x b h hx]
    | false => simp [joinM, hx, h]
  refine ⟨r1.base, ?_, ?_, ?_, ?_, ?_, ?_⟩
  · intro x b hb
    cases hx : p x with
    | true => exact r1.lt x b (hlo x b hx hb)
    | false => exact Nat.lt_of_lt_of_le (r2.lt x b (hhi x b hx hb)) hsz
  · intro x lx b hl hb i v hv
    cases hx : p x with
    | true =>
      have hb := hlo x b hx hb
      rw [h1 x b hx hb] at hl
      obtain ⟨v', h3, h4⟩ := r1.cell x lx b hl hb i v hv
      exact ⟨v', h3, h4.mono up1⟩
    | false =>
      have hb := hhi x b hx hb
      rw [h2 x b hx hb] at hl
      obtain ⟨v', h3, h4⟩ := r2.cell x lx b hl hb i v hv
      exact ⟨v', by rw [cell_congr (hsame x b hx hb lx hl)]; exact h3, h4.mono up2⟩
  · intro x lx b hl hb
    cases hx : p x with
    | true =>
      have hb := hlo x b hx hb
      rw [h1 x b hx hb] at hl
      exact r1.one x lx b hl hb
    | false =>
      have hb := hhi x b hx hb
      rw [h2 x b hx hb] at hl
      exact r2.one x lx b hl hb
  · intro x lx b hx0 hl hb
    cases hx : p x with
    | true =>
      have hb := hlo x b hx hb
      rw [h1 x b hx hb] at hl
      exact r1.own x lx b hx0 hl hb
    | false =>
      have hb := hhi x b hx hb
      rw [h2 x b hx hb] at hl
      obtain ⟨h3, h4, c, e, h5, h6⟩ := r2.own x lx b hx0 hl hb
      exact ⟨h3, h4, c, e, by rw [hsame x b hx hb lx hl]; exact h5, h6⟩
  · intro x b hx0 hb
    cases hx : p x with
    | true => exact r1.ro x b hx0 (hlo x b hx hb)
    | false => exact r2.ro x b hx0 (hhi x b hx hb)
  · intro i j li lj bi bj hi0 hj0 hli hlj hbi hbj he
    cases hi : p i <;> cases hj : p j
    · have hbi := hhi i bi hi hbi
      have hbj := hhi j bj hj hbj
      rw [h2 i bi hi hbi] at hli
      rw [h2 j bj hj hbj] at hlj
      exact r2.inj i j li lj bi bj hi0 hj0 hli hlj hbi hbj he
    · have hbi := hhi i bi hi hbi
      have hbj := hlo j bj hj hbj
      rw [h2 i bi hi hbi] at hli
      rw [h1 j bj hj hbj] at hlj
      exact absurd he.symm (hfar j i bj bi lj li hj hi hbj hbi hj0 hi0 hlj hli)
    · have hbi := hlo i bi hi hbi
      have hbj := hhi j bj hj hbj
      rw [h1 i bi hi hbi] at hli
      rw [h2 j bj hj hbj] at hlj
      exact absurd he (hfar i j bi bj li lj hi hj hbi hbj hi0 hj0 hli hlj)
    · have hbi := hlo i bi hi hbi
      have hbj := hlo j bj hj hbj
      rw [h1 i bi hi hbi] at hli
      rw [h1 j bj hj hbj] at hlj
      exact r1.inj i j li lj bi bj hi0 hj0 hli hlj hbi hbj he

/-- Where the domain lies. -/
theorem dom_cases (hm : ∀ i, i < ops.size → (H i).length ≤ (H (i + 1)).length) {listed : Array Bool} {M : Map} {a : Act} (inv : InvS nt ops S H listed M a) {k : Nat} (hk : k < ops.size) (hnk : ¬ Lst listed k) {x : Nat} (h1 : (H k).length ≤ x) (h2 : x < (H (k + 1)).length) : M x = none := by
  cases hb : M x with
  | none => rfl
  | some b =>
    rcases inv.dom x b hb with h | ⟨i, hi, hL, h3, h4⟩
    · have := len_mono hm (Nat.zero_le k) (by omega)
      omega
    · by_cases hik : i = k
      · subst hik; exact absurd hL hnk
      · by_cases hlt : i < k
        · have := len_mono hm (show i + 1 ≤ k by omega) (by omega)
          omega
        · have := len_mono hm (show k + 1 ≤ i by omega) (by omega)
          omega

theorem dom_lt (hm : ∀ i, i < ops.size → (H i).length ≤ (H (i + 1)).length) {listed : Array Bool} {M : Map} {a : Act} (inv : InvS nt ops S H listed M a) {x : Nat} {b : Base} (hb : M x = some b) : x < (H ops.size).length := by
  rcases inv.dom x b hb with h | ⟨i, hi, hL, h3, h4⟩
  · exact Nat.lt_of_lt_of_le h (len_mono hm (Nat.zero_le _) (Nat.le_refl _))
  · exact Nat.lt_of_lt_of_le h4 (len_mono hm (by omega) (Nat.le_refl _))

variable (hc : Comp P nt ops l) (tr : Trace C base fl l S H D) (F : Facts n0 B0 nt base fl ops l S H D m0 w0) (hfl : ∀ id, fl id = true → n0 ≤ id) (r0 : Rels n0 B0 m0 (H 0) w0)

theorem bound_val (F : Facts n0 B0 nt base fl ops l S H D m0 w0) {k : Nat} (hk : k ≤ ops.size) {M : Map} {x i : Nat} {lx : List AV} {v : AV} {u : Value} (hl : blk (H k) x = some lx) (hv : lx[i]? = some v) (hx : m0 x ≠ none ∨ (H 0).length ≤ x) (h : VR M v u) : VR (cutM M (H k).length) v u := by
  obtain ⟨m, w, a, p, s⟩ := F.seq k hk
  have hne : m x ≠ none := by
    by_cases h0 : x < (H 0).length
    · rcases hx with hx | hx
      · rw [p.keep x h0]; exact hx
      · omega
    · exact p.new x (by omega) (blk_lt hl)
  cases hb : m x with
  | none => exact absurd hb hne
  | some b =>
    obtain ⟨v', _, h2⟩ := p.rels.rel.cell x lx b hl hb i v hv
    exact h.cut h2 p.rels.dom

theorem bound_slot (F : Facts n0 B0 nt base fl ops l S H D m0 w0) {k : Nat} (hk : k ≤ ops.size) {M : Map} {t : Nat} {u : Value} (h : VR M (S k t) u) : VR (cutM M (H k).length) (S k t) u := by
  obtain ⟨m, w, a, p, s⟩ := F.seq k hk
  exact h.cut (s.slot t) p.rels.dom

/-- Alive behind, alive ahead. -/
theorem alive (F : Facts n0 B0 nt base fl ops l S H D m0 w0) {k : Nat} (hk : k ≤ ops.size) {x : Nat} {lx : List AV} (hx : x < (H 0).length) (hl : blk (H k) x = some lx) : ∃ l0, blk (H 0) x = some l0 := by
  obtain ⟨m, w, a, p, s⟩ := F.seq k hk
  cases hb : blk (H 0) x with
  | none => rw [p.dead x hx hb] at hl; cases hl
  | some l0 => exact ⟨l0, rfl⟩

/-- Memory at a heavy operation that is ready. -/
theorem rels_heavy (F : Facts n0 B0 nt base fl ops l S H D m0 w0) (hm : ∀ i, i < ops.size → (H i).length ≤ (H (i + 1)).length) {listed : Array Bool} {M : Map} {a : Act} {w : World} (inv : InvS nt ops S H listed M a) (im : InvM n0 B0 fl ops H m0 w0 listed M w)
    (hn0 : n0 ≤ (H 0).length) {k : Nat} (hk : k < ops.size) (hg : ∀ x b, M x = some b → x < (H k).length → ∀ v, (∀ i, cl ops i = 3 → i < v → Lst listed i) → (∀ i, cl ops i = 3 → v ≤ i → ¬ Lst listed i) → v ≤ ops.size → blk (H (max v (crn H x ops.size))) x = blk (H k) x) :
    Rels n0 B0 (cutM M (H k).length) (H k) w := by
  obtain ⟨v, hv, hv1, hv2, r⟩ := im.mem
  have hgg : ∀ x b, cutM M (H k).length x = some b → blk (H (max v (crn H x ops.size))) x = blk (H k) x := fun x b hb => hg x b (cutM_some.1 hb).2 (cutM_some.1 hb).1 v hv1 hv2 hv
  refine ⟨⟨r.base, fun x b hb => r.lt x b (cutM_some.1 hb).2, ?_, ?_, ?_, fun x b hx hb => r.ro x b hx (cutM_some.1 hb).2, ?_⟩, fun x b hb => (cutM_some.1 hb).1, Nat.le_trans hn0 (len_mono hm (Nat.zero_le _) (by omega))⟩
  · intro x lx b hl hb i u hu
    rw [← hgg x b hb] at hl
    obtain ⟨v', h1, h2⟩ := r.cell x lx b hl (cutM_some.1 hb).2 i u hu
    rw [hgg x b hb] at hl
    refine ⟨v', h1, bound_val F (by omega) hl hu ?_ h2⟩
    by_cases h0 : x < (H 0).length
    · left; rw [← im.keep x h0, (cutM_some.1 hb).2]; simp
    · right; omega
  · intro x lx b hl hb
    rw [← hgg x b hb] at hl
    exact r.one x lx b hl (cutM_some.1 hb).2
  · intro x lx b hx hl hb
    rw [← hgg x b hb] at hl
    exact r.own x lx b hx hl (cutM_some.1 hb).2
  · intro i j li lj bi bj hi hj hli hlj hbi hbj he
    rw [← hgg i bi hbi] at hli
    rw [← hgg j bj hbj] at hlj
    exact r.inj i j li lj bi bj hi hj hli hlj (cutM_some.1 hbi).2 (cutM_some.1 hbj).2 he

/-- Memory behind a heavy operation. -/
theorem mem_heavy (F : Facts n0 B0 nt base fl ops l S H D m0 w0) (hfl : ∀ id, fl id = true → n0 ≤ id) (hm : ∀ i, i < ops.size → (H i).length ≤ (H (i + 1)).length) {listed : Array Bool} {M : Map} {a : Act} {w : World} (inv : InvS nt ops S H listed M a) (im : InvM n0 B0 fl ops H m0 w0 listed M w)
    (hn0 : n0 ≤ (H 0).length) {k : Nat} (hk : k < ops.size) (h3k : cl ops k = 3) (hnk : ¬ Lst listed k) {fl' : Nat → Bool} (hf : ∀ i, fl' i = true → fl i = true) {m' : Map} {w' : World}
    (p : Post n0 B0 fl' (cutM M (H k).length) (H k) w m' (H (k + 1)) w') (hv1 : ∀ i, cl ops i = 3 → i < k → Lst listed i) (hv2 : ∀ i, cl ops i = 3 → k < i → ¬ Lst listed i)
    (hg : ∀ x b, M x = some b → x < (H k).length → ∀ v, (∀ i, cl ops i = 3 → i < v → Lst listed i) → (∀ i, cl ops i = 3 → v ≤ i → ¬ Lst listed i) → v ≤ ops.size → blk (H (max v (crn H x ops.size))) x = blk (H k) x) :
    InvM n0 B0 fl ops H m0 w0 (listed.setIfInBounds k true) (joinM M m' (fun x => decide (x < (H (k + 1)).length))) w' := by
  obtain ⟨v, hv, hw1, hw2, r⟩ := im.mem
  have hkl : k < listed.size := by rw [inv.lsz]; exact hk
  have hvk : v ≤ k := by
    by_cases hle : v ≤ k
    · exact hle
    · exact absurd (hw1 k h3k (by omega)) hnk
  have hgg : ∀ x b, x < (H k).length → M x = some b → blk (H (max v (crn H x ops.size))) x = blk (H k) x := fun x b hx hb => hg x b hb hx v hw1 hw2 hv
  have hlk := hm k hk
  have hnew : ∀ x, (H k).length ≤ x → x < (H (k + 1)).length → M x = none := fun x h1 h2 => dom_cases hm inv hk hnk h1 h2
  have hcr : ∀ x, x < (H (k + 1)).length → crn H x ops.size ≤ k + 1 := fun x hx => by
    obtain ⟨h1, h2, h3⟩ := crn_spec hm ops.size (Nat.le_refl _) (Nat.lt_of_lt_of_le hx (len_mono hm (by omega) (Nat.le_refl _)))
    by_cases hle : crn H x ops.size ≤ k + 1
    · exact hle
    · have := h3 (k + 1) (by omega)
      omega
  have hcr2 : ∀ x, (H (k + 1)).length ≤ x → x < (H ops.size).length → k + 1 < crn H x ops.size := fun x hx hx2 => by
    obtain ⟨h1, h2, h3⟩ := crn_spec hm ops.size (Nat.le_refl _) hx2
    by_cases hle : crn H x ops.size ≤ k + 1
    · have := len_mono hm hle (by omega)
      omega
    · omega
  -- heavy numbers that may be changed are not the early ones
  have hfar : ∀ id li bi j lj bj, fl' id = true → blk (H k) id = some li → cutM M (H k).length id = some bi → (H (k + 1)).length ≤ j → M j = some bj → blk (H (max v (crn H j ops.size))) j = some lj → bi.b ≠ bj.b := by
    intro id li bi j lj bj h1 h2 h3 h4 h5 h6 he
    obtain ⟨h7, h8⟩ := cutM_some.1 h3
    have h0 := hfl id (hf id h1)
    have := r.inj id j li lj bi bj h0 (by have := len_mono hm (Nat.zero_le (k + 1)) (by omega); omega) (by show blk (H (max v (crn H id ops.size))) id = _; rw [hgg id bi h7 h8]; exact h2) h6 h8 h5 he
    omega
  have hgold : ∀ x, (H (k + 1)).length ≤ x → x < (H ops.size).length → blk (H (max (k + 1) (crn H x ops.size))) x = blk (H (max v (crn H x ops.size))) x := fun x hx hx2 => by
    have := hcr2 x hx hx2
    rw [Nat.max_eq_right (by omega), Nat.max_eq_right (by omega)]
  refine ⟨⟨k + 1, by omega, ?_, ?_, ?_⟩, ?_, p.os.trans im.os, p.tape.trans im.tape, p.output.trans im.output, Nat.le_trans im.size p.size, ?_, ?_, ?_⟩
  · intro i h3 hi
    refine (lst_set hkl).2 ?_
    by_cases hik : i = k
    · exact .inr hik
    · exact .inl (hv1 i h3 (by omega))
  · intro i h3 hi hL
    rcases (lst_set hkl).1 hL with hL | hL
    · exact hv2 i h3 (by omega) hL
    · omega
  · refine rel_join (p := fun x => decide (x < (H (k + 1)).length)) p.rels.rel r p.size (fun x b hb => .inl (by simpa using p.rels.dom x b hb)) (fun x b hb hx => ?_) (fun x b hx hb => ?_) (fun x b hx hb => ?_) (fun x b hx hb lx hl => ?_) (fun i j bi bj li lj hi hj hbi hbj hi0 hj0 hli hlj => ?_)
    · simp only [decide_eq_true_eq] at hx
      by_cases hxk : x < (H k).length
      · rw [p.keep x hxk]; exact cutM_some.2 ⟨hxk, hb⟩
      · rw [hnew x (by omega) hx] at hb; cases hb
    · simp only [decide_eq_true_eq] at hx
      rw [Nat.max_eq_left (hcr x hx)]
    · simp only [decide_eq_false_iff_not] at hx
      exact hgold x (by omega) (dom_lt hm inv hb)
    · simp only [decide_eq_false_iff_not] at hx
      exact p.frame b.b (r.lt x b hb) fun id li bi h1 h2 h3 => hfar id li bi x lx b h1 h2 h3 (by omega) hb hl
    · simp only [decide_eq_true_eq, decide_eq_false_iff_not] at hi hj
      intro he
      by_cases hik : i < (H k).length
      · have hbi' := hbi
        rw [p.keep i hik] at hbi'
        obtain ⟨_, hMi⟩ := cutM_some.1 hbi'
        cases hlive : blk (H k) i with
        | none => rw [p.dead i hik hlive] at hli; cases hli
        | some l0 =>
          have := r.inj i j l0 lj bi bj hi0 hj0 (by show blk (H (max v (crn H i ops.size))) i = _; rw [hgg i bi hik hMi]; exact hlive) hlj hMi hbj he
          omega
      · rcases p.fresh i bi (by omega) hbi with h1 | ⟨id, l0, c, h1, h2, h3, h4⟩
        · have := r.lt j bj hbj; omega
        · exact hfar id l0 c j lj bj h1 h2 h3 (by omega) hbj hlj (h4.trans he)
  · intro j hj hnL x hx1 hx2 i h3 hL hji
    have hnLj : ¬ Lst listed j := fun h => hnL ((lst_set hkl).2 (.inl h))
    rcases (lst_set hkl).1 hL with hL | rfl
    · exact im.stable j hj hnLj x hx1 hx2 i h3 hL hji
    · have hM : M x = none := dom_cases hm inv hj hnLj hx1 hx2
      have hxi : x < (H i).length := Nat.lt_of_lt_of_le hx2 (len_mono hm (by omega) (by omega))
      exact blk_congr (p.unt x hxi (.inl (by simp [cutM, hM])))
  · intro x hx hn
    rw [p.frame x (Nat.lt_of_lt_of_le hx im.size) ?_, im.frame x hx hn]
    intro id li bi h1 h2 h3 he
    obtain ⟨h7, h8⟩ := cutM_some.1 h3
    by_cases h0 : id < (H 0).length
    · obtain ⟨l0, hl0⟩ := alive F (by omega) h0 h2
      exact hn id l0 bi (hf id h1) hl0 (by rw [← im.keep id h0]; exact h8) he
    · rcases im.fresh id bi (by omega) h8 with h9 | ⟨j, lj, c, g1, g2, g3, g4⟩
      · omega
      · exact hn j lj c g1 g2 g3 (g4.trans he)
  · intro id hid
    have h1 : id < (H k).length := Nat.lt_of_lt_of_le hid (len_mono hm (Nat.zero_le _) (by omega))
    have h2 : id < (H (k + 1)).length := by omega
    simp only [joinM, h2, decide_true, if_true]
    rw [p.keep id h1]
    simp only [cutM, h1, if_true]
    exact im.keep id hid
  · intro id b hid hb
    by_cases h2 : id < (H (k + 1)).length
    · simp only [joinM, h2, decide_true, if_true] at hb
      by_cases h1 : id < (H k).length
      · rw [p.keep id h1] at hb
        exact im.fresh id b hid (cutM_some.1 hb).2
      · rcases p.fresh id b (by omega) hb with h3 | ⟨j, lj, c, g1, g2, g3, g4⟩
        · exact .inl (Nat.le_trans im.size h3)
        · obtain ⟨h7, h8⟩ := cutM_some.1 g3
          by_cases h0 : j < (H 0).length
          · obtain ⟨l0, hl0⟩ := alive F (by omega) h0 g2
            exact .inr ⟨j, l0, c, hf j g1, hl0, by rw [← im.keep j h0]; exact h8, g4⟩
          · rcases im.fresh j c (by omega) h8 with h9 | ⟨j', l', c', k1, k2, k3, k4⟩
            · exact .inl (by omega)
            · exact .inr ⟨j', l', c', k1, k2, k3, k4.trans g4⟩
    · have : joinM M m' (fun x => decide (x < (H (k + 1)).length)) id = M id := by simp [joinM, h2]
      rw [this] at hb
      exact im.fresh id b hid hb

/-- Memory behind a light operation, seen by itself in a memory of its own. -/
theorem mem_light (hc : Comp P nt ops l) (tr : Trace C base fl l S H D) (hm : ∀ i, i < ops.size → (H i).length ≤ (H (i + 1)).length) {listed : Array Bool} {M : Map} {a : Act} {w : World} (inv : InvS nt ops S H listed M a) (im : InvM n0 B0 fl ops H m0 w0 listed M w)
    {k : Nat} (hk : k < ops.size) (h3k : cl ops k ≠ 3) (hnk : ¬ Lst listed k) {hs hs' : Heap} (hls : hs.length = (H k).length) (hls' : hs'.length = (H (k + 1)).length) (hx' : ∀ x, (H k).length ≤ x → x < (H (k + 1)).length → blk hs' x = blk (H (k + 1)) x) {m' : Map} {w' : World}
    (p : Post n0 B0 (fun _ => false) (cutM M (H k).length) hs w m' hs' w') :
    InvM n0 B0 fl ops H m0 w0 (listed.setIfInBounds k true) (joinM M m' (fun x => decide ((H k).length ≤ x) && decide (x < (H (k + 1)).length))) w' := by
  obtain ⟨v, hv, hw1, hw2, r⟩ := im.mem
  have hkl : k < listed.size := by rw [inv.lsz]; exact hk
  have hlk := hm k hk
  have hnew : ∀ x, (H k).length ≤ x → x < (H (k + 1)).length → M x = none := fun x h1 h2 => dom_cases hm inv hk hnk h1 h2
  have hall : ∀ x, x < w.heap.size → w'.heap[x]? = w.heap[x]? := fun x hx => p.frame x hx fun id li bi h => by cases h
  refine ⟨⟨v, hv, ?_, ?_, ?_⟩, ?_, p.os.trans im.os, p.tape.trans im.tape, p.output.trans im.output, Nat.le_trans im.size p.size, ?_, ?_, ?_⟩
  · intro i h3 hi
    exact (lst_set hkl).2 (.inl (hw1 i h3 hi))
  · intro i h3 hi hL
    rcases (lst_set hkl).1 hL with hL | rfl
    · exact hw2 i h3 hi hL
    · exact h3k h3
  · refine rel_join p.rels.rel r p.size (fun x b hb => ?_) (fun x b hb hx => ?_) (fun x b hx hb => ?_) (fun x b hx hb => rfl) (fun x b hx hb lx hl => hall b.b (r.lt x b hb)) (fun i j bi bj li lj hi hj hbi hbj hi0 hj0 hli hlj => ?_)
    · have := p.rels.dom x b hb
      by_cases h : (H k).length ≤ x
      · left; simp [h]; omega
      · right
        rw [p.keep x (by omega)] at hb
        exact (cutM_some.1 hb).2
    · simp at hx
      rw [hnew x hx.1 hx.2] at hb; cases hb
    · simp at hx
      obtain ⟨c1, c2, c3⟩ := crn_spec hm ops.size (Nat.le_refl _) (Nat.lt_of_lt_of_le hx.2 (len_mono hm (show k + 1 ≤ ops.size by omega) (Nat.le_refl _)))
      have hcr : crn H x ops.size = k + 1 := by
        by_cases h1 : crn H x ops.size ≤ k
        · have := len_mono hm h1 (by omega); omega
        · by_cases h2 : k + 1 < crn H x ops.size
          · have := c3 (k + 1) h2; omega
          · omega
      show blk (H (max v (crn H x ops.size))) x = _
      rw [hx' x hx.1 hx.2, hcr]
      refine stay_le hc tr hm (Nat.le_max_right _ _) (by omega) hx.2 fun i h1 h2 h3 => ?_
      exact im.stable k hk hnk x hx.1 hx.2 i h3 (hw1 i h3 (by omega)) (by omega)
    · simp at hi
      rcases p.fresh i bi (by omega) hbi with h1 | ⟨_, _, _, h1, _⟩
      · have := r.lt j bj hbj; omega
      · cases h1
  · intro j hj hnL x hx1 hx2 i h3 hL hji
    have hnLj : ¬ Lst listed j := fun h => hnL ((lst_set hkl).2 (.inl h))
    rcases (lst_set hkl).1 hL with hL | rfl
    · exact im.stable j hj hnLj x hx1 hx2 i h3 hL hji
    · exact absurd h3 h3k
  · intro x hx hn
    rw [hall x (Nat.lt_of_lt_of_le hx im.size), im.frame x hx hn]
  · intro id hid
    have h1 : id < (H k).length := Nat.lt_of_lt_of_le hid (len_mono hm (Nat.zero_le _) (by omega))
    have : ¬ (H k).length ≤ id := by omega
    simp only [joinM, this, decide_false, Bool.false_and, Bool.false_eq_true, if_false]
    exact im.keep id hid
  · intro id b hid hb
    by_cases h2 : (H k).length ≤ id ∧ id < (H (k + 1)).length
    · simp only [joinM, h2, decide_true, Bool.and_self, if_true] at hb
      rcases p.fresh id b (by omega) hb with h1 | ⟨_, _, _, h1, _⟩
      · exact .inl (Nat.le_trans im.size h1)
      · cases h1
    · have : joinM M m' (fun x => decide ((H k).length ≤ x) && decide (x < (H (k + 1)).length)) id = M id := by
        simp only [joinM]
        rw [if_neg]
        simpa using h2
      rw [this] at hb
      exact im.fresh id b hid hb
end
end Go.Proofs.Ytpmmiaadfnildaa
