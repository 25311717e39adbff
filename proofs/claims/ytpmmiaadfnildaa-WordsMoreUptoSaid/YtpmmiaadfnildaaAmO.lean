/-
  AM and the program's machine: a region that draws its order, put together.
-/
import Derived.Test.YtpmmiaadfnildaaAmN
namespace Go.Proofs.Ytpmmiaadfnildaa
open Go
set_option linter.unusedVariables false
set_option linter.unusedSimpArgs false
section
variable {P : Program} {C : CallT} {n0 B0 nt base : Nat} {fl : Nat → Bool} {ops : Array Oper} {l : List AOper} {S : Nat → Slots} {H : Nat → Heap} {D : Nat → Seen} {m0 : Map} {w0 : World}

theorem heavy_cls {x : AOp} (h : clsA x = 3) : heavy x = true := by cases x <;> first | rfl | (simp [clsA] at h)

/-- Reads so far stay known. -/
theorem rs_mono (tr : Trace C base fl l S H D) {x : Nat} : ∀ (d i : Nat), i + d ≤ l.length → x ∈ (D i).rs → x ∈ (D (i + d)).rs
  | 0, i, _, h => h
  | d + 1, i, hi, h => by
    have h1 : x ∈ (D (i + 1)).rs := by
      rcases tr.step i (l[i]'(by omega)) (List.getElem?_eq_getElem _) with ⟨_, v, _, _, hD⟩ | ⟨_, _, _, hD⟩
      · rw [hD]
        unfold Seen.with
        split
        · exact h
        · simp [h]
      · rw [hD]; exact h
    have := rs_mono tr d (i + 1) (by omega) h1
    rwa [show i + (d + 1) = i + 1 + d by omega]

theorem pr_sub (tr : Trace C base fl l S H D) {i : Nat} {o : AOper} (ho : l[i]? = some o) (hw : wantedA o (S i) = some true) (hiso : o.iso = false) (hh : heavy o.op = true) : ∀ (d : Nat), i + 1 + d ≤ l.length →
    ∃ q, (D (i + 1 + d)).pr = some q ∧ ∀ x ∈ q, x ∈ forbs fl (D i) o (l.drop (i + 1)) (S i) (H i)
  | 0, hd => by
    rcases tr.step i o ho with ⟨_, v, _, _, hD⟩ | ⟨hw', _⟩
    · rw [Nat.add_zero, hD]
      simp only [Seen.with, hiso, Bool.false_eq_true, if_false, hh, if_true]
      split
      · exact ⟨_, rfl, fun x hx => hx⟩
      · exact ⟨_, rfl, fun x hx => by simpa using (List.mem_filter.1 hx).2⟩
    · rw [hw] at hw'; cases hw'
  | d + 1, hd => by
    obtain ⟨q, h1, h2⟩ := pr_sub tr ho hw hiso hh d (by omega)
    rw [show i + 1 + (d + 1) = i + 1 + d + 1 by omega]
    rcases tr.step (i + 1 + d) (l[i + 1 + d]'(by omega)) (List.getElem?_eq_getElem _) with ⟨_, v, _, _, hD⟩ | ⟨_, _, _, hD⟩
    · rw [hD]
      unfold Seen.with
      split
      · exact ⟨q, h1, h2⟩
      · simp only
        split
        · simp only [h1]
          exact ⟨_, rfl, fun x hx => h2 x (List.mem_filter.1 hx).1⟩
        · exact ⟨q, h1, h2⟩
    · rw [hD]; exact ⟨q, h1, h2⟩

theorem rels_dead {M : Map} {g : Nat → Option (List AV)} {w : World} (r : Rel n0 B0 M g w) (n : Nat) (hn : n0 ≤ n) : Rels n0 B0 (cutM M n) (List.replicate n none) w := by
  have hb : ∀ x lx, blk (List.replicate n none) x = some lx → False := fun x lx h => by
    rw [blk_get, List.getElem?_replicate] at h
    split at h <;> simp at h
  exact ⟨⟨r.base, fun x b h => r.lt x b (cutM_some.1 h).2, fun x lx b h => (hb x lx h).elim, fun x lx b h => (hb x lx h).elim, fun x lx b _ h => (hb x lx h).elim, fun x b hx h => r.ro x b hx (cutM_some.1 h).2, fun i j li lj bi bj _ _ h => (hb i li h).elim⟩,
    fun x b h => by simpa using (cutM_some.1 h).1, by simpa using hn⟩

theorem rels_single {M : Map} {g : Nat → Option (List AV)} {w : World} (r : Rel n0 B0 M g w) (n : Nat) (hn : n0 ≤ n) {id : Nat} {lx : List AV} (hid : id < n) (hg : g id = some lx) (hv : ∀ b, M id = some b → ∀ (i : Nat) v u, lx[i]? = some v → VR M v u → VR (cutM M n) v u) :
    Rels n0 B0 (cutM M n) ((List.replicate n none).set id (some lx)) w := by
  have hb : ∀ x lx', blk ((List.replicate n none).set id (some lx)) x = some lx' → x = id ∧ lx' = lx := fun x lx' h => by
    rw [blk_get, List.getElem?_set] at h
    split at h
    · rename_i e
      subst e
      simp [hid] at h
      exact ⟨rfl, h.symm⟩
    · rw [List.getElem?_replicate] at h
      split at h <;> simp at h
  refine ⟨⟨r.base, fun x b h => r.lt x b (cutM_some.1 h).2, ?_, ?_, ?_, fun x b hx h => r.ro x b hx (cutM_some.1 h).2, ?_⟩, fun x b h => by simpa using (cutM_some.1 h).1, by simpa using hn⟩
  · intro x lx' b h hm i v hvi
    obtain ⟨rfl, rfl⟩ := hb x lx' h
    obtain ⟨v', h1, h2⟩ := r.cell x lx' b hg (cutM_some.1 hm).2 i v hvi
    exact ⟨v', h1, hv b (cutM_some.1 hm).2 i v v' hvi h2⟩
  · intro x lx' b h hm
    obtain ⟨rfl, rfl⟩ := hb x lx' h
    exact r.one x lx' b hg (cutM_some.1 hm).2
  · intro x lx' b hx h hm
    obtain ⟨rfl, rfl⟩ := hb x lx' h
    exact r.own x lx' b hx hg (cutM_some.1 hm).2
  · intro i j li lj bi bj _ _ hli hlj _ _ _
    rw [(hb i li hli).1, (hb j lj hlj).1]

theorem cls_at {O : Oper} {k : Nat} (hO : ops[k]? = some O) : cl ops k = clsOp O.op := by simp [cl, hO]

/-- A block that a ready read sees is now what it is in the textual run. -/
theorem load_cur (hc : Comp P nt ops l) (dr : Draw ops l) (tr : Trace C base fl l S H D) (F : Facts n0 B0 nt base fl ops l S H D m0 w0) (hm : ∀ i, i < ops.size → (H i).length ≤ (H (i + 1)).length) {listed : Array Bool}
    (hclosed : ∀ (k : Nat) O, ops[k]? = some O → Lst listed k → ∀ e ∈ edges O, Lst listed e) {k : Nat} {O : Oper} {o : AOper} (hO : ops[k]? = some O) (ho : l[k]? = some o) (hk1 : cl ops k = 1) (hnk : ¬ Lst listed k) (he : ∀ e ∈ edges O, Lst listed e)
    (hw : wantedA o (S k) = some true) {x : Nat} (hx : x < (H k).length) (hsee : x ∈ sees (S k) o.op) (hsh : o.iso = false → shallowOk (some (base, (D k).pr)) x = true) {v : Nat} (hv : v ≤ ops.size) (hw1 : ∀ i, cl ops i = 3 → i < v → Lst listed i) (hw2 : ∀ i, cl ops i = 3 → v ≤ i → ¬ Lst listed i) :
    blk (H (max v (crn H x ops.size))) x = blk (H k) x := by
  have hks : k < ops.size := (Array.getElem?_eq_some_iff.1 hO).1
  have hready : ∀ O', ops[k]? = some O' → ∀ e ∈ edges O', Lst listed e := fun O' h => by rw [hO] at h; injection h with h; subst h; exact he
  obtain ⟨c1, c2, c3⟩ := crn_spec hm ops.size (Nat.le_refl _) (Nat.lt_of_lt_of_le hx (len_mono hm (show k ≤ ops.size by omega) (Nat.le_refl _)))
  have hck : crn H x ops.size ≤ k := by
    by_cases h : crn H x ops.size ≤ k
    · exact h
    · have := c3 k (by omega); omega
  -- a heavy one that leaves x alone
  have quiet : ∀ i, i < ops.size → cl ops i = 3 → x < (H i).length → (∀ oi, l[i]? = some oi → Ord ops i k → False) → (∀ oi, l[i]? = some oi → wantedA oi (S i) = some true → oi.iso = false → o.iso = false → x ∈ forbs fl (D i) oi (l.drop (i + 1)) (S i) (H i)) → blk (H (i + 1)) x = blk (H i) x := by
    intro i hi h3 hxi hno hforb
    obtain ⟨Oi, hOi⟩ : ∃ O, ops[i]? = some O := ⟨ops[i]'hi, Array.getElem?_eq_getElem _⟩
    obtain ⟨oi, hoi, _⟩ := hc.at_ i Oi hOi
    have hik : i ≠ k := by intro e; subst e; rw [hk1] at h3; cases h3
    obtain ⟨m, w, m', w', rr, pp⟩ := F.step i oi hoi hi
    by_cases hwi : wantedA oi (S i) = some true
    · rw [if_pos hwi] at pp
      cases hiso : oi.iso with
      | true =>
        have := (dr.iso i oi hoi hiso k (Ne.symm hik)).2 h3 hk1
        -- Ord k i
        exfalso
        refine hno oi hoi ?_
        unfold Ord at this ⊢
        by_cases h : i < k
        · rw [if_pos h]; rw [if_neg (by omega)] at this; exact this
        · rw [if_neg h]; rw [if_pos (by omega)] at this; exact this
      | false =>
        cases hisok : o.iso with
        | true =>
          have := (dr.iso k o ho hisok i hik).1 hk1 h3
          exact (hno oi hoi this).elim
        | false =>
          have hin := hforb oi hoi hwi hiso hisok
          refine blk_congr (pp.unt x hxi (.inr ?_))
          simp [lessen, hiso, hin]
    · rw [if_neg hwi] at pp
      exact blk_congr (pp.unt x hxi (.inr rfl))
  by_cases hle : max v (crn H x ops.size) ≤ k
  · symm
    refine stay_le hc tr hm hle (by omega) (Nat.lt_of_lt_of_le c2 (len_mono hm (Nat.le_max_right _ _) (by omega))) fun i h1 h2 h3 => ?_
    have hvi : v ≤ i := by omega
    refine quiet i (by omega) h3 (Nat.lt_of_lt_of_le c2 (len_mono hm (by omega) (by omega))) ?_ ?_
    · intro oi hoi hord
      unfold Ord at hord
      rw [if_pos h2] at hord
      exact hw2 i h3 hvi (hord.ready hclosed hready)
    · intro oi hoi hwi hiso hisok
      have hOi : ops[i]? = some (ops[i]'(by omega)) := Array.getElem?_eq_getElem _
      obtain ⟨oi', hoi', hop, _⟩ := hc.at_ i _ hOi
      rw [hoi] at hoi'; injection hoi' with hoi'; subst hoi'
      have hh : heavy oi.op = true := by
        cases hcx : cOp P (ops[i]'(by omega)) with
        | none =>
          exfalso
          rw [hcx] at hop
          rcases tr.step i oi hoi with ⟨_, v0, hr, _⟩ | ⟨hw', _⟩
          · unfold runOp at hr
            rw [hop] at hr
            simp [opEval] at hr
          · rw [hwi] at hw'; cases hw'
        | some y =>
          rw [hcx] at hop
          simp only [Option.getD_some] at hop
          rw [hop]
          exact heavy_cls (by rw [cls_spec hcx, ← cls_at hOi]; exact h3)
      obtain ⟨q, h4, h5⟩ := pr_sub tr hoi hwi hiso hh (k - (i + 1)) (by rw [hc.len]; omega)
      rw [show i + 1 + (k - (i + 1)) = k by omega] at h4
      have hs := hsh hisok
      simp only [shallowOk, h4, Bool.and_eq_true] at hs
      exact h5 x (by simpa using hs.2)
  · have hvk : k < v := by omega
    rw [Nat.max_eq_left (by omega)]
    refine stay_le hc tr hm (by omega) hv hx fun i h1 h2 h3 => ?_
    have hik : i ≠ k := by intro e; subst e; rw [hk1] at h3; cases h3
    refine quiet i (by omega) h3 (Nat.lt_of_lt_of_le hx (len_mono hm h1 (by omega))) ?_ ?_
    · intro oi hoi hord
      unfold Ord at hord
      rw [if_neg (by omega)] at hord
      exact hnk (hord.closed hclosed (hw1 i h3 h2))
    · intro oi hoi hwi hiso hisok
      have hOi : ops[i]? = some (ops[i]'(by omega)) := Array.getElem?_eq_getElem _
      obtain ⟨oi', hoi', hop, _⟩ := hc.at_ i _ hOi
      rw [hoi] at hoi'; injection hoi' with hoi'; subst hoi'
      have hh : heavy oi.op = true := by
        cases hcx : cOp P (ops[i]'(by omega)) with
        | none =>
          exfalso
          rw [hcx] at hop
          rcases tr.step i oi hoi with ⟨_, v0, hr, _⟩ | ⟨hw', _⟩
          · unfold runOp at hr
            rw [hop] at hr
            simp [opEval] at hr
          · rw [hwi] at hw'; cases hw'
        | some y =>
          rw [hcx] at hop
          simp only [Option.getD_some] at hop
          rw [hop]
          exact heavy_cls (by rw [cls_spec hcx, ← cls_at hOi]; exact h3)
      have hrs : x ∈ (D (k + 1)).rs := by
        rcases tr.step k o ho with ⟨_, v0, _, _, hD⟩ | ⟨hw', _⟩
        · rw [hD]; simp [Seen.with, hisok, hsee]
        · rw [hw] at hw'; cases hw'
      have := rs_mono tr (i - (k + 1)) (k + 1) (by rw [hc.len]; omega) hrs
      rw [show k + 1 + (i - (k + 1)) = i by omega] at this
      simp [forbs, hiso, hh, this]
end
end Go.Proofs.Ytpmmiaadfnildaa
