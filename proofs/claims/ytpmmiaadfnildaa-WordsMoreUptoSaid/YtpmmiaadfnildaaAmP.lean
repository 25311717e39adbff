/-
  AM and the program's machine: the whole of a region, of code, of a call.
-/
import Derived.Test.YtpmmiaadfnildaaAmO
namespace Go.Proofs.Ytpmmiaadfnildaa
open Go
set_option linter.unusedVariables false
set_option linter.unusedSimpArgs false
section
variable {P : Program} {C : CallT} {n0 B0 nt base : Nat} {fl : Nat → Bool} {ops : Array Oper} {l : List AOper} {S : Nat → Slots} {H : Nat → Heap} {D : Nat → Seen} {m0 : Map} {w0 : World}

theorem joinM_none {M : Map} {n : Nat} (p : Nat → Bool) (hp : ∀ x, p x = true → x < n) : joinM M (cutM M n) p = M := by
  funext x
  unfold joinM
  split
  · rename_i h; unfold cutM; rw [if_pos (hp x h)]
  · rfl

theorem draw_step (hC : CallOk P C) (hfl : ∀ id, fl id = true → n0 ≤ id) (hc : Comp P nt ops l) (dr : Draw ops l) (tr : Trace C base fl l S H D) (F : Facts n0 B0 nt base fl ops l S H D m0 w0) (hm : ∀ i, i < ops.size → (H i).length ≤ (H (i + 1)).length) (hn0 : n0 ≤ (H 0).length)
    {listed : Array Bool} {M : Map} {a : Act} {w : World} (inv : InvS nt ops S H listed M a) (im : InvM n0 B0 fl ops H m0 w0 listed M w) {k : Nat} (hk : k ∈ Region.ready .any ops listed) {K : Act → World → Prop} {Q : Exit → Act → World → Prop}
    (hK : ∀ M' a' w', InvS nt ops S H (listed.setIfInBounds k true) M' a' → InvM n0 B0 fl ops H m0 w0 (listed.setIfInBounds k true) M' w' → a'.defers = a.defers → K a' w') : wpOp P ops Q k K a w := by
  obtain ⟨hnl, O, hO, hedge⟩ := mem_ready.1 hk
  have hks : k < ops.size := (Array.getElem?_eq_some_iff.1 hO).1
  have hkl : k < listed.size := by rw [inv.lsz]; exact hks
  have hnk : ¬ Lst listed k := by
    unfold Lst
    simp only [Array.getD_eq_getD_getElem?, Array.getElem?_eq_getElem hkl, Option.getD_some] at hnl ⊢
    rw [hnl]; simp
  have he : ∀ e ∈ edges O, Lst listed e := fun e hee => by
    unfold edges at hee
    obtain ⟨x, hx, rfl⟩ := List.mem_map.1 hee
    obtain ⟨h1, h2⟩ := List.mem_filter.1 hx
    exact hedge x (by simpa using h1) h2
  have hready : ∀ O', ops[k]? = some O' → ∀ e ∈ edges O', Lst listed e := fun O' h => by rw [hO] at h; injection h with h; subst h; exact he
  obtain ⟨o, ho, hop, hdst, hg, hd⟩ := hc.at_ k O hO
  have hdef : ∀ v, (a.put O.dst v).defers = a.defers := fun v => by cases O.dst <;> rfl
  have hslot : ∀ t, t ∈ looks ops O → VR (cutM M (H k).length) (S k t) (a.tmps.getD t undef) := fun t ht => bound_slot F (by omega) (slot_ready hc dr tr inv hO hnk he ht)
  have hopd : ∀ y ∈ O.op.operands.toList, ∀ z, cOpd y = some z → VR (cutM M (H k).length) (z.ev (S k)) (a.eval y) := fun y hy z hz => cOpd_spec hz fun t ht => by
    subst ht
    exact hslot t (opd_looks hy)
  -- heavy ones around a heavy one
  have hv1 : cl ops k = 3 → ∀ i, cl ops i = 3 → i < k → Lst listed i := fun h3 i hi hik => by
    have := dr.heavy k i (by omega) h3 hi
    unfold Ord at this
    rw [if_pos hik] at this
    exact this.ready inv.closed hready
  have hv2 : cl ops k = 3 → ∀ i, cl ops i = 3 → k < i → ¬ Lst listed i := fun h3 i hi hik hL => by
    have := dr.heavy k i (by omega) h3 hi
    unfold Ord at this
    rw [if_neg (by omega)] at this
    exact hnk (this.closed inv.closed hL)
  have hgk : cl ops k = 3 → ∀ x b, M x = some b → x < (H k).length → ∀ v, (∀ i, cl ops i = 3 → i < v → Lst listed i) → (∀ i, cl ops i = 3 → v ≤ i → ¬ Lst listed i) → v ≤ ops.size → blk (H (max v (crn H x ops.size))) x = blk (H k) x := by
    intro h3 x b hMx hx v w1 w2 hv
    obtain ⟨c1, c2, c3⟩ := crn_spec hm ops.size (Nat.le_refl _) (Nat.lt_of_lt_of_le hx (len_mono hm (show k ≤ ops.size by omega) (Nat.le_refl _)))
    have hck : crn H x ops.size ≤ k := by
      by_cases h : crn H x ops.size ≤ k
      · exact h
      · have := c3 k (by omega); omega
    have hvk : v ≤ k := by
      by_cases h : v ≤ k
      · exact h
      · exact absurd (w1 k h3 (by omega)) hnk
    symm
    refine stay_le hc tr hm (by omega) (by omega) (Nat.lt_of_lt_of_le c2 (len_mono hm (Nat.le_max_right _ _) (by omega))) fun i h1 h2 hi3 => ?_
    exact absurd (hv1 h3 i hi3 h2) (w2 i hi3 (by omega))
  -- one that is left out, or changes nothing
  have still : H (k + 1) = H k → ∀ v', (∀ t, O.dst = some t → VR (cutM M (H k).length) (S (k + 1) t) v') → K (a.put O.dst v') w := by
    intro hH v' hv'
    refine hK M _ _ ?_ ?_ (hdef v')
    · exact slots_next hc dr inv hO hnk he (fun _ _ h => h) (fun _ _ h => .inl h) (fun t ht => (hv' t ht).mono fun id b h => (cutM_some.1 h).2) (fun x h1 h2 => by rw [hH] at h2; omega)
    · by_cases h3 : cl ops k = 3
      · have rr := rels_heavy F hm inv im hn0 hks (hgk h3)
        have pp : Post n0 B0 fl (cutM M (H k).length) (H k) w (cutM M (H k).length) (H (k + 1)) w := by rw [hH]; exact .refl rr
        have := mem_heavy F hfl hm inv im hn0 hks h3 hnk (fun _ h => h) pp (hv1 h3) (hv2 h3) (hgk h3)
        rwa [joinM_none _ (fun x hx => by rw [hH] at hx; simpa using hx)] at this
      · obtain ⟨v, _, _, _, r⟩ := im.mem
        have rr := rels_dead r (H k).length (Nat.le_trans hn0 (len_mono hm (Nat.zero_le _) (by omega)))
        have := mem_light hc tr hm inv im hks h3 hnk (hs := List.replicate (H k).length none) (hs' := List.replicate (H k).length none) (by simp) (by rw [hH]; simp) (fun x h1 h2 => by rw [hH] at h2; omega) (.refl rr)
        rwa [joinM_none _ (fun x hx => by rw [hH] at hx; simp at hx; omega)] at this
  unfold wpOp
  rw [hO]
  simp only
  rcases tr.step k o ho with ⟨hw, v, hrun, hS, hD⟩ | ⟨hw, hH, hS, hD⟩
  · rw [wanted_spec hg (fun t b hgt => (slot_ready hc dr tr inv hO hnk he (guardTmp_looks hg hgt))) hw]
    simp only [if_true]
    left
    have hSt : ∀ t, O.dst = some t → S (k + 1) t = v := fun t ht => by rw [hS, put_at, hdst, if_pos ht]
    by_cases h3 : cl ops k = 3
    · have rr := rels_heavy F hm inv im hn0 hks (hgk h3)
      refine sim_runOp hC hop hrun rr hfl hopd fun v' w' m' pp hv => ?_
      have hmono : ∀ x b, M x = some b → joinM M m' (fun x => decide (x < (H (k + 1)).length)) x = some b := fun x b hb => by
        unfold joinM
        split
        · rename_i hx
          simp only [decide_eq_true_eq] at hx
          by_cases hxk : x < (H k).length
          · rw [pp.keep x hxk]; exact cutM_some.2 ⟨hxk, hb⟩
          · rw [dom_cases hm inv hks hnk (by omega) hx] at hb; cases hb
        · exact hb
      refine hK _ _ _ (slots_next hc dr inv hO hnk he hmono (fun x b hb => ?_) (fun t ht => ?_) (fun x h1 h2 => by
        simp only [joinM, h2, decide_true, if_true]
        exact pp.new x h1 h2)) (mem_heavy F hfl hm inv im hn0 hks h3 hnk lessen_le pp (hv1 h3) (hv2 h3) (hgk h3)) (hdef v')
      · unfold joinM at hb
        split at hb
        · rename_i hx
          simp only [decide_eq_true_eq] at hx
          by_cases hxk : x < (H k).length
          · rw [pp.keep x hxk] at hb; exact .inl (cutM_some.1 hb).2
          · exact .inr ⟨by omega, hx⟩
        · exact .inl hb
      · rw [hSt t ht]
        exact hv.mono fun id b hb => by
          have := pp.rels.dom id b hb
          simp [joinM, this, hb]
    · cases hcx : cOp P O with
      | none =>
        exfalso
        rw [hcx] at hop
        unfold runOp at hrun
        rw [hop] at hrun
        simp [opEval] at hrun
      | some x =>
        rw [hcx] at hop
        simp only [Option.getD_some] at hop
        have hcls := cls_spec hcx
        rw [← cls_at hO] at hcls
        have hrun' : opEval (if o.iso then none else some (base, (D k).pr)) (lessen fl o (forbs fl (D k) o (l.drop (k + 1)) (S k) (H k))) (S k) (H k) x = some (v, H (k + 1)) := by
          unfold runOp at hrun
          split at hrun
          · rename_i f args heq
            rw [heq] at hop
            subst hop
            exact absurd hcls.symm h3
          · rw [hop] at hrun; exact hrun
        obtain ⟨cv, cvle, cw1, cw2, r⟩ := im.mem
        have hn0k : n0 ≤ (H k).length := Nat.le_trans hn0 (len_mono hm (Nat.zero_le _) (by omega))
        have hb : clsA x = 0 ∨ clsA x = 1 ∨ clsA x = 2 := by
          have : clsA x = 0 ∨ clsA x = 1 ∨ clsA x = 2 ∨ clsA x = 3 := by cases x <;> simp [clsA]
          rcases this with h | h | h | h
          · exact .inl h
          · exact .inr (.inl h)
          · exact .inr (.inr h)
          · exact absurd (hcls.symm.trans h) h3
        have nofl : ∀ id, (fun _ : Nat => false) id = true → n0 ≤ id := fun id h => by cases h
        rcases hb with hb | hb | hb
        · -- touches nothing
          obtain ⟨hH, hall⟩ := pure_heap hb hrun'
          refine sim_wp hcx (hall (fun _ => false) (List.replicate (H k).length none)) (rels_dead r (H k).length hn0k) nofl hopd fun v' w' m' pp hv => ?_
          have hm' : ∀ id b, m' id = some b → cutM M (H k).length id = some b := fun id b hb => by
            have := pp.rels.dom id b hb
            rw [pp.keep id this] at hb; exact hb
          have := mem_light hc tr hm inv im hks h3 hnk (hs := List.replicate (H k).length none) (hs' := List.replicate (H k).length none) (by simp) (by rw [hH]; simp) (fun x h1 h2 => by rw [hH] at h2; omega) pp
          have hj : joinM M m' (fun x => decide ((H k).length ≤ x) && decide (x < (H (k + 1)).length)) = M := by
            funext x
            unfold joinM
            rw [if_neg]
            rw [hH]; simp
          rw [hj] at this
          refine hK M _ _ (slots_next hc dr inv hO hnk he (fun _ _ h => h) (fun _ _ h => .inl h) (fun t ht => ?_) (fun x h1 h2 => by rw [hH] at h2; omega)) this (hdef v')
          rw [hSt t ht]
          exact (hv.mono hm').mono fun id b h => (cutM_some.1 h).2
        · -- reads
          cases x <;> first | (simp [clsA] at hb; done) | skip
          rename_i n x'
          obtain ⟨hH, id, off, lx, hptr, hsh, hlx, hall⟩ := load_heap hrun'
          have hidk := blk_lt hlx
          have hcur : blk (H (max cv (crn H id ops.size))) id = some lx := by
            rw [load_cur hc dr tr F hm inv.closed hO ho (by rw [← hcls]; rfl) hnk he hw hidk (by rw [hop]; simp [sees, hptr, idOf]) (fun hi => by rw [hi] at hsh; simpa using hsh) cvle cw1 cw2]
            exact hlx
          have rr := rels_single r (H k).length hn0k hidk hcur (fun b hMb i u y hu hy => by
            refine bound_val F (by omega) hlx hu ?_ hy
            by_cases h0 : id < (H 0).length
            · left; rw [← im.keep id h0, hMb]; simp
            · right; omega)
          have hb2 : blk ((List.replicate (H k).length none).set id (some lx)) id = some lx := by
            rw [blk_get, List.getElem?_set]; simp [hidk]
          refine sim_wp hcx (hall (fun _ => false) _ hb2) rr nofl hopd fun v' w' m' pp hv => ?_
          have hm' : ∀ id b, m' id = some b → cutM M (H k).length id = some b := fun id b hb => by
            have := pp.rels.dom id b hb
            rw [pp.keep id this] at hb; exact hb
          have := mem_light hc tr hm inv im hks h3 hnk (by simp) (by rw [hH]; simp) (fun x h1 h2 => by rw [hH] at h2; omega) pp
          have hj : joinM M m' (fun x => decide ((H k).length ≤ x) && decide (x < (H (k + 1)).length)) = M := by
            funext x
            unfold joinM
            rw [if_neg]
            rw [hH]; simp
          rw [hj] at this
          refine hK M _ _ (slots_next hc dr inv hO hnk he (fun _ _ h => h) (fun _ _ h => .inl h) (fun t ht => ?_) (fun x h1 h2 => by rw [hH] at h2; omega)) this (hdef v')
          rw [hSt t ht]
          exact (hv.mono hm').mono fun id b h => (cutM_some.1 h).2
        · -- makes
          obtain ⟨lx, hH, hall⟩ := alloc_heap hb hrun'
          refine sim_wp hcx (hall (fun _ => false) (List.replicate (H k).length none) (by simp)) (rels_dead r (H k).length hn0k) nofl hopd fun v' w' m' pp hv => ?_
          have hx' : ∀ x, (H k).length ≤ x → x < (H (k + 1)).length → blk (List.replicate (H k).length none ++ [some lx]) x = blk (H (k + 1)) x := fun x h1 h2 => by
            rw [hH] at h2 ⊢
            simp at h2
            obtain rfl : x = (H k).length := by omega
            rw [blk_app_new, blk_get.2]
            rw [List.getElem?_append_right (by simp)]
            simp
          have := mem_light hc tr hm inv im hks h3 hnk (by simp) (by rw [hH]; simp) hx' pp
          have hmono : ∀ x b, M x = some b → joinM M m' (fun x => decide ((H k).length ≤ x) && decide (x < (H (k + 1)).length)) x = some b := fun x b hb => by
            unfold joinM
            split
            · rename_i hx
              simp at hx
              rw [dom_cases hm inv hks hnk hx.1 hx.2] at hb; cases hb
            · exact hb
          refine hK _ _ _ (slots_next hc dr inv hO hnk he hmono (fun x b hb => ?_) (fun t ht => ?_) (fun x h1 h2 => by
            simp only [joinM, h1, h2, decide_true, Bool.and_self, if_true]
            exact pp.new x (by simpa using h1) (by rw [hH] at h2; simpa using h2))) this (hdef v')
          · unfold joinM at hb
            split at hb
            · rename_i hx
              simp at hx
              exact .inr hx
            · exact .inl hb
          · rw [hSt t ht]
            refine hv.mono fun id b hb => ?_
            have hid := pp.rels.dom id b hb
            unfold joinM
            split
            · exact hb
            · rename_i hx
              simp at hx hid
              have h1 : id < (H k).length := by
                by_cases h : id < (H k).length
                · exact h
                · have := hx (by omega)
                  rw [hH] at this
                  simp at this
                  omega
              rw [pp.keep id (by simpa using h1)] at hb
              exact (cutM_some.1 hb).2
  · rw [wanted_spec hg (fun t b hgt => (slot_ready hc dr tr inv hO hnk he (guardTmp_looks hg hgt))) hw]
    simp only [Bool.false_eq_true, if_false]
    refine still hH undef fun t ht => ?_
    rw [hS, put_at, hdst, if_pos ht]
    exact VRs.no

theorem Rel.congr {M : Map} {g g' : Nat → Option (List AV)} {w : World} (r : Rel n0 B0 M g w) (h : ∀ x b, M x = some b → g' x = g x) : Rel n0 B0 M g' w :=
  ⟨r.base, r.lt, fun x lx b hl hb => r.cell x lx b (by rw [← h x b hb]; exact hl) hb, fun x lx b hl hb => r.one x lx b (by rw [← h x b hb]; exact hl) hb, fun x lx b hx hl hb => r.own x lx b hx (by rw [← h x b hb]; exact hl) hb, r.ro,
    fun i j li lj bi bj hi hj hli hlj hbi hbj => r.inj i j li lj bi bj hi hj (by rw [← h i bi hbi]; exact hli) (by rw [← h j bj hbj]; exact hlj) hbi hbj⟩

theorem draw_end (hc : Comp P nt ops l) (dr : Draw ops l) (tr : Trace C base fl l S H D) (F : Facts n0 B0 nt base fl ops l S H D m0 w0) (hm : ∀ i, i < ops.size → (H i).length ≤ (H (i + 1)).length) (hn0 : n0 ≤ (H 0).length)
    {listed : Array Bool} {M : Map} {a : Act} {w : World} (inv : InvS nt ops S H listed M a) (im : InvM n0 B0 fl ops H m0 w0 listed M w) (hall : ∀ i, i < ops.size → Lst listed i) :
    Post n0 B0 fl m0 (H 0) w0 M (H ops.size) w ∧ SR nt M (S ops.size) a := by
  obtain ⟨m, w1, a1, p, s⟩ := F.seq ops.size (Nat.le_refl _)
  obtain ⟨v, hv, w1', w2', r⟩ := im.mem
  refine ⟨⟨⟨r.congr fun x b hb => ?_, fun x b hb => dom_lt hm inv hb, Nat.le_trans hn0 (len_mono hm (Nat.zero_le _) (Nat.le_refl _))⟩, len_mono hm (Nat.zero_le _) (Nat.le_refl _), im.keep, im.os, im.tape, im.output, im.size, im.frame, fun id b h1 h2 => im.fresh id b h1 h2, ?_, p.dead, ?_⟩, inv.asz, fun t => ?_⟩
  · have hx := dom_lt hm inv hb
    obtain ⟨c1, c2, c3⟩ := crn_spec hm ops.size (Nat.le_refl _) hx
    refine stay_le hc tr hm (by omega) (Nat.le_refl _) (Nat.lt_of_lt_of_le c2 (len_mono hm (Nat.le_max_right _ _) (by omega))) fun i h1 h2 h3 => ?_
    exact absurd (hall i h2) (w2' i h3 (by omega))
  · intro id hid hh
    exact p.unt id hid hh
  · intro x h1 h2
    obtain ⟨c1, c2, c3⟩ := crn_spec hm ops.size (Nat.le_refl _) h2
    have hpos : 0 < crn H x ops.size := by
      by_cases h : crn H x ops.size = 0
      · rw [h] at c2; omega
      · omega
    have h3 := c3 (crn H x ops.size - 1) (by omega)
    exact inv.made (crn H x ops.size - 1) (by omega) (hall _ (by omega)) x h3 (by rw [show crn H x ops.size - 1 + 1 = crn H x ops.size by omega]; exact c2)
  · by_cases hw : ∃ (i : Nat) (p : Oper), ops[i]? = some p ∧ p.dst = some t
    · obtain ⟨i, p, hp, hpd⟩ := hw
      have hi : i < ops.size := (Array.getElem?_eq_some_iff.1 hp).1
      have := slot_stay hc tr (t := t) (ops.size - (i + 1)) (i + 1) (by omega) (fun j q h1 h2 hq => (dr.data j i q p t hq hp (by omega) hpd).1)
      rw [show i + 1 + (ops.size - (i + 1)) = ops.size by omega] at this
      rw [this]
      exact inv.slotL i p t hp hpd (hall i hi)
    · have := slot_stay hc tr (t := t) ops.size 0 (by omega) (fun j q h1 h2 hq hqd => hw ⟨j, q, hq, hqd⟩)
      rw [Nat.zero_add] at this
      rw [this]
      exact inv.slotN t fun i p hp hpd => absurd ⟨i, p, hp, hpd⟩ hw

def unl (ops : Array Oper) (listed : Array Bool) : Nat := (List.range ops.size).countP fun i => !listed.getD i false

theorem countP_set {p q : Nat → Bool} {k : Nat} (hne : ∀ i, i ≠ k → q i = p i) (hp : p k = true) (hq : q k = false) : ∀ (xs : List Nat), xs.Nodup → (k ∈ xs → xs.countP p = xs.countP q + 1) ∧ (k ∉ xs → xs.countP p = xs.countP q)
  | [], _ => ⟨fun h => by simp at h, fun _ => rfl⟩
  | x :: xs, hn => by
    obtain ⟨h1, h2⟩ := List.nodup_cons.1 hn
    obtain ⟨ih1, ih2⟩ := countP_set hne hp hq xs h2
    constructor
    · intro hk
      by_cases e : x = k
      · subst e
        rw [List.countP_cons_of_pos hp, List.countP_cons_of_neg (by simp [hq]), ih2 h1]
      · have hkx : k ∈ xs := by
          rcases List.mem_cons.1 hk with h | h
          · exact absurd h.symm e
          · exact h
        rw [List.countP_cons, List.countP_cons, hne x e, ih1 hkx]; omega
    · intro hk
      have e : x ≠ k := fun e => hk (by simp [e])
      have hkx : k ∉ xs := fun h => hk (by simp [h])
      rw [List.countP_cons, List.countP_cons, hne x e, ih2 hkx]

theorem unl_set {listed : Array Bool} {k : Nat} (hk : k < ops.size) (hl : listed.size = ops.size) (hn : ¬ Lst listed k) : unl ops listed = unl ops (listed.setIfInBounds k true) + 1 := by
  unfold unl
  refine (countP_set (k := k) (fun i hi => ?_) ?_ ?_ _ List.nodup_range).1 (List.mem_range.2 hk)
  · simp only [Array.getD_eq_getD_getElem?, Array.getElem?_setIfInBounds]
    rw [if_neg (Ne.symm hi)]
  · show (!listed.getD k false) = true
    rw [Bool.eq_false_iff.2 hn]; rfl
  · simp [Array.getD_eq_getD_getElem?, hl, hk]

theorem ready_ex (dr : Draw ops l) {listed : Array Bool} (hl : listed.size = ops.size) : ∀ (n k : Nat), k < n → k < ops.size → ¬ Lst listed k → ∃ j, j ∈ Region.ready .any ops listed
  | 0, k, h, _, _ => absurd h (by omega)
  | n + 1, k, h, hk, hn => by
    have hO : ops[k]? = some (ops[k]'hk) := Array.getElem?_eq_getElem _
    by_cases hall : ∀ e ∈ edges ops[k], Lst listed e
    · refine ⟨k, mem_ready.2 ⟨?_, _, hO, fun e he hb => ?_⟩⟩
      · unfold Lst at hn
        simp only [Array.getD_eq_getD_getElem?] at hn ⊢
        rw [Array.getElem?_eq_getElem (by rw [hl]; exact hk)] at hn ⊢
        simpa using hn
      · exact hall e.on (List.mem_map.2 ⟨e, List.mem_filter.2 ⟨by simpa using he, hb⟩, rfl⟩)
    · simp only [Classical.not_forall] at hall
      obtain ⟨e, he, hne⟩ := hall
      have := dr.edge k _ hO e he
      exact ready_ex dr hl n e (by omega) (by omega) hne

theorem draw_all (hC : CallOk P C) (hfl : ∀ id, fl id = true → n0 ≤ id) (hc : Comp P nt ops l) (dr : Draw ops l) (tr : Trace C base fl l S H D) (F : Facts n0 B0 nt base fl ops l S H D m0 w0) (hm : ∀ i, i < ops.size → (H i).length ≤ (H (i + 1)).length) (hn0 : n0 ≤ (H 0).length)
    {defs : List Deferred} {Q : Exit → Act → World → Prop} (hQ : ∀ M a w, Post n0 B0 fl m0 (H 0) w0 M (H ops.size) w → SR nt M (S ops.size) a → a.defers = defs → Q .normal a w) :
    ∀ (fuel : Nat) (listed : Array Bool) (M : Map) (a : Act) (w : World), unl ops listed = fuel → InvS nt ops S H listed M a → InvM n0 B0 fl ops H m0 w0 listed M w → a.defers = defs → wpAny P .any ops Q fuel listed a w := by
  intro fuel
  have fin : ∀ (listed : Array Bool) (M : Map) (a : Act) (w : World), Region.ready .any ops listed = [] → InvS nt ops S H listed M a → InvM n0 B0 fl ops H m0 w0 listed M w → a.defers = defs → Q .normal a w := by
    intro listed M a w hr inv im hda
    have hall : ∀ i, i < ops.size → Lst listed i := fun i hi => by
      by_cases h : Lst listed i
      · exact h
      · obtain ⟨j, hj⟩ := ready_ex dr inv.lsz (i + 1) i (by omega) hi h
        rw [hr] at hj; cases hj
    obtain ⟨p, s⟩ := draw_end hc dr tr F hm hn0 inv im hall
    exact hQ M a w p s hda
  induction fuel with
  | zero =>
    intro listed M a w hu inv im hda
    have hr : Region.ready .any ops listed = [] := by
      cases h : Region.ready .any ops listed with
      | nil => rfl
      | cons j r =>
        have hj : j ∈ Region.ready .any ops listed := by rw [h]; simp
        obtain ⟨hnl, O, hO, _⟩ := mem_ready.1 hj
        have hjs : j < ops.size := (Array.getElem?_eq_some_iff.1 hO).1
        have hp : (!listed.getD j false) = true := by
          simp only [Array.getD_eq_getD_getElem?, Array.getElem?_eq_getElem (show j < listed.size by rw [inv.lsz]; exact hjs), Option.getD_some] at hnl ⊢
          rw [hnl]; rfl
        have := (List.countP_pos_iff (p := fun i => !listed.getD i false) (l := List.range ops.size)).2 ⟨j, List.mem_range.2 hjs, hp⟩
        unfold unl at hu
        omega
    exact ⟨hr, fin listed M a w hr inv im hda⟩
  | succ fuel ih =>
    intro listed M a w hu inv im hda
    refine ⟨fun hr => fin listed M a w hr inv im hda, fun k hk => ?_⟩
    refine draw_step hC hfl hc dr tr F hm hn0 inv im hk fun M' a' w' inv' im' hd' => ?_
    obtain ⟨hnl, O, hO, _⟩ := mem_ready.1 hk
    have hks : k < ops.size := (Array.getElem?_eq_some_iff.1 hO).1
    have hnk : ¬ Lst listed k := by
      unfold Lst
      simp only [Array.getD_eq_getD_getElem?, Array.getElem?_eq_getElem (show k < listed.size by rw [inv.lsz]; exact hks), Option.getD_some] at hnl ⊢
      rw [hnl]; simp
    have := unl_set hks inv.lsz hnk
    exact ih _ M' a' w' (by omega) inv' im' (hd'.trans hda)

theorem mapM_get {α β : Type} {f : α → Option β} : ∀ (xs : List α) (ys : List β), xs.mapM f = some ys → ys.length = xs.length ∧ ∀ (i : Nat) x, xs[i]? = some x → ∃ y, ys[i]? = some y ∧ f x = some y
  | [], ys, h => by
    simp at h; subst h
    exact ⟨rfl, fun i x hx => by simp at hx⟩
  | x :: xs, ys, h => by
    simp only [List.mapM_cons, Option.pure_def, Option.bind_eq_bind, Option.bind_eq_some_iff, Option.some.injEq] at h
    obtain ⟨y, hy, ys', hys, rfl⟩ := h
    obtain ⟨h1, h2⟩ := mapM_get xs ys' hys
    refine ⟨by simp [h1], fun i z hz => ?_⟩
    cases i with
    | zero => simp at hz; subst hz; exact ⟨y, rfl, hy⟩
    | succ i => simpa using h2 i z (by simpa using hz)

theorem cRegion_spec {draw : Bool} (h : cRegion P nt ops draw = some l) : Comp P nt ops l ∧ (draw = true → Draw ops l) := by
  unfold cRegion at h
  simp only at h
  split at h
  · rename_i hcond
    obtain ⟨hdraw, hdst⟩ := hcond
    obtain ⟨hlen, hget⟩ := mapM_get _ _ h
    have hlen' : l.length = ops.size := by rw [hlen]; simp
    have hz : ∀ (i : Nat) O, ops[i]? = some O → ops.toList.zipIdx[i]? = some (O, i) := fun i O hO => by
      simp [List.getElem?_zipIdx, hO]
    have hat : ∀ (i : Nat) O, ops[i]? = some O → ∃ o, l[i]? = some o ∧ o.op = (cOp P O).getD .bad ∧ o.dst = O.dst ∧ guardTmp ops O = some o.guard ∧ o.iso = (!draw || isoAt ops.toList (ancs ops.toList) i (clsOp O.op)) := fun i O hO => by
      obtain ⟨y, h1, h2⟩ := hget i (O, i) (hz i O hO)
      simp only [Option.bind_eq_bind, Option.bind_eq_some_iff, Option.pure_def, Option.some.injEq] at h2
      obtain ⟨g, hg, rfl⟩ := h2
      exact ⟨_, h1, rfl, rfl, hg, rfl⟩
    refine ⟨⟨hlen', fun i O hO => ?_⟩, fun hd => ?_⟩
    · obtain ⟨o, h1, h2, h3, h4, _⟩ := hat i O hO
      refine ⟨o, h1, h2, h3, h4, fun d hd => ?_⟩
      have := List.all_eq_true.1 hdst O (List.mem_of_getElem? (by simpa using hO))
      rw [hd] at this
      simpa using this
    · have hok := hdraw hd
      unfold drawOk at hok
      have hall := List.all_eq_true.1 hok
      have hmem : ∀ (i : Nat) O, ops[i]? = some O → (O, i) ∈ ops.toList.zipIdx := fun i O hO => List.mem_of_getElem? (hz i O hO)
      refine ⟨fun k O hO e he => ?_, fun k i O p d hO hp hik hpd => ?_, fun k i hik h3 h3' => ?_, fun k o ho hiso i hik => ?_⟩
      · have := hall (O, k) (hmem k O hO)
        simp only [Bool.and_eq_true] at this
        simpa using List.all_eq_true.1 this.1 e he
      · have := hall (O, k) (hmem k O hO)
        simp only [Bool.and_eq_true] at this
        have := List.all_eq_true.1 this.2 (p, i) (hmem i p hp)
        simp only [Bool.or_eq_true, Bool.and_eq_true, beq_iff_eq, hik, false_or, hpd] at this
        obtain ⟨_, h1, h2⟩ := this
        refine ⟨fun e => by simp [e] at h1, fun hl => ?_⟩
        rcases h2 with h2 | h2
        · simp at h2; exact absurd hl h2
        · exact ordered_spec h2
      · unfold cl at h3 h3'
        split at h3
        · rename_i O hO
          split at h3'
          · rename_i p hp
            have := hall (O, k) (hmem k O hO)
            simp only [Bool.and_eq_true] at this
            have := List.all_eq_true.1 this.2 (p, i) (hmem i p hp)
            simp only [Bool.or_eq_true, Bool.and_eq_true, beq_iff_eq, hik, false_or] at this
            obtain ⟨h1, _⟩ := this
            rcases h1 with (h1 | h1) | h1
            · simp [h3] at h1
            · simp [h3'] at h1
            · exact ordered_spec h1
          · cases h3'
        · cases h3
      · have hkl : k < ops.size := by rw [← hlen']; exact (List.getElem?_eq_some_iff.1 ho).1
        have hO : ops[k]? = some (ops[k]'hkl) := Array.getElem?_eq_getElem _
        obtain ⟨o', h1, _, _, _, h5⟩ := hat k _ hO
        rw [ho] at h1; injection h1 with h1; subst h1
        rw [hiso, hd] at h5
        simp only [Bool.not_true, Bool.false_or] at h5
        have h5 := List.all_eq_true.1 h5.symm
        have hck : cl ops k = clsOp ops[k].op := by simp [cl, hO]
        constructor
        · intro c1 c3
          unfold cl at c3
          split at c3
          · rename_i p hp
            have := h5 (p, i) (hmem i p hp)
            rw [hck] at c1
            simp only [c1, Bool.or_eq_true, beq_iff_eq, hik, false_or, bne_iff_ne, ne_eq, c3, not_true_eq_false] at this
            exact ordered_spec this
          · cases c3
        · intro c3 c1
          unfold cl at c1
          split at c1
          · rename_i p hp
            have := h5 (p, i) (hmem i p hp)
            rw [hck] at c3
            simp only [c3, Bool.or_eq_true, beq_iff_eq, hik, false_or, bne_iff_ne, ne_eq, c1, not_true_eq_false] at this
            exact ordered_spec this
          · cases c1
  · cases h

theorem sim_region (hmix : P.follows .mixedOrders = true) (hC : CallOk P C) (hfl : ∀ id, fl id = true → n0 ≤ id) {id : Nat} {draw : Bool} (hcomp : cRegion P nt ops draw = some l) {s s' : Slots} {h h' : Heap} (hrun : runOps C h.length fl ⟨[], none⟩ l s h = some (s', h'))
    {m : Map} {w : World} (r : Rels n0 B0 m h w) {a : Act} (hs : SR nt m s a) {Q : Exit → Act → World → Prop} (hQ : ∀ m' a' w', Post n0 B0 fl m h w m' h' w' → SR nt m' s' a' → a'.defers = a.defers → Q .normal a' w') : (Code.region id ops draw).wp P Q a w := by
  obtain ⟨hc, hdr⟩ := cRegion_spec hcomp
  obtain ⟨S, H, D, e1, e2, e3, e4, e5, tr⟩ := trace_of _ _ _ _ _ _ hrun
  subst e1; subst e2
  rw [hc.len] at e4 e5
  subst e4; subst e5
  cases draw with
  | false =>
    refine wp_region ?_
    rw [List.range_eq_range']
    exact sim_seq hC hfl hc tr r.dom (fun a' w' m' p s d => hQ m' a' w' p s d) ops.size 0 (by omega) m a w (.refl r) hs rfl
  | true =>
    have dr := hdr rfl
    refine wp_region_any hmix ?_
    have r' : Rels n0 B0 m (H 0) w.drew := r.drew
    have F := facts_of hC hfl hc tr r' hs
    have hm : ∀ i, i < ops.size → (H i).length ≤ (H (i + 1)).length := fun i hi => F.len hc i hi
    refine draw_all hC hfl hc dr tr F hm r.n0 (defs := a.defers) (fun M a' w' p s d => hQ M a' w' p.drew s d) ops.size (Array.replicate ops.size false) m a _ ?_ ?_ ?_ rfl
    · unfold unl
      rw [List.countP_eq_length.2 (fun i hi => by
        have := List.mem_range.1 hi
        simp [Array.getD_eq_getD_getElem?, this])]
      simp
    · have hno : ∀ i, ¬ Lst (Array.replicate ops.size false) i := fun i h => by
        unfold Lst at h
        simp only [Array.getD_eq_getD_getElem?, Array.getElem?_replicate] at h
        split at h <;> simp at h
      exact ⟨by simp, fun k O _ h => absurd h (hno k), hs.size, fun x b hb => .inl (r.dom x b hb), fun i O t _ _ h => absurd h (hno i), fun t _ => hs.slot t, fun i _ h => absurd h (hno i)⟩
    · have hno : ∀ i, ¬ Lst (Array.replicate ops.size false) i := fun i h => by
        unfold Lst at h
        simp only [Array.getD_eq_getD_getElem?, Array.getElem?_replicate] at h
        split at h <;> simp at h
      refine ⟨⟨0, Nat.zero_le _, fun i _ h => absurd h (by omega), fun i _ _ => hno i, ?_⟩, fun j _ _ x _ _ i _ h => absurd h (hno i), rfl, rfl, rfl, Nat.le_refl _, fun _ _ _ => rfl, fun _ _ => rfl, fun x b h1 h2 => absurd (r.dom x b h2) (by omega)⟩
      refine r'.rel.congr fun x b hb => ?_
      have hx : x < (H 0).length := r.dom x b hb
      have : crn H x ops.size = 0 := by
        obtain ⟨c1, c2, c3⟩ := crn_spec hm ops.size (Nat.le_refl _) (Nat.lt_of_lt_of_le hx (len_mono hm (Nat.zero_le _) (Nat.le_refl _)))
        by_cases h : crn H x ops.size = 0
        · exact h
        · have := c3 0 (by omega); omega
      rw [this]; rfl
end
end Go.Proofs.Ytpmmiaadfnildaa
