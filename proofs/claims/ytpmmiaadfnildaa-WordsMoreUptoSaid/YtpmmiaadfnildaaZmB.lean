/-
  ZM: how its memory changes with AM's.
-/
import Derived.Test.YtpmmiaadfnildaaZmA
namespace Go.Proofs.Ytpmmiaadfnildaa
open Go Go.RowKit
set_option linter.unusedVariables false
set_option linter.unusedSimpArgs false
variable {fl L : Nat → Bool}

/-- Something new that nobody writes to. -/
theorem alloc_fr {w : Wd} (r : ZRel fl L w) (row : List AV) : ∃ w', w'.h = w.h ++ [some row] ∧ w'.H = w.H ∧ w'.mu = w.mu ∧ w'.Fr w.h.length ∧ ZRel fl L w' ∧ Ext w w' := by
  refine ⟨⟨fun id => w.Fr id ∨ id = w.h.length, w.mu, w.H, w.h ++ [some row]⟩, rfl, rfl, rfl, .inr rfl, ?_, ?_⟩
  all_goals
    have e : Ext w ⟨fun id => w.Fr id ∨ id = w.h.length, w.mu, w.H, w.h ++ [some row]⟩ := by
      refine ⟨fun _ h => .inl h, fun id row0 h hr => blk_ext _ hr, by simp, Nat.le_refl _, fun i p h => .inl ⟨p, h, rfl⟩, fun i cs h => ⟨⟨cs, h⟩, rfl⟩, fun i cs _ h => ⟨cs, h⟩, fun i g k rows hi h => ⟨g, rows, h, Nat.le_refl _, fun _ => ⟨rfl, rfl, fun id b row0 _ hr => ⟨row0, blk_ext _ hr, rfl⟩⟩⟩⟩
  · refine ⟨fun id h => r.fresh id (by simp at h; omega), r.lfresh, fun id h => ?_, r.dom, r.inj, fun i p h => ?_, r.wr, fun i cs h => ?_, fun i g k rows h => ?_⟩
    · simp only [List.length_append, List.length_cons, List.length_nil]
      rcases h with h | h
      · have := r.frlt id h; omega
      · omega
    · have := r.nfr i p h
      refine ⟨fun q => ?_, by simp; omega⟩
      rcases q with q | q
      · exact this.1 q
      · omega
    · obtain ⟨id, row0, h1, h2, h3⟩ := r.box i cs h
      exact ⟨id, row0, h1, blk_ext _ h2, h3.ext e⟩
    · obtain ⟨h0, h1 | ⟨id, b, row0, h1, h2, h3, h4⟩⟩ := r.grow i g k rows h
      · exact ⟨h0, .inl h1⟩
      · exact ⟨h0, .inr ⟨id, b, row0, h1, blk_ext _ h2, h3, h4.ext e⟩⟩
  · exact e

/-- A new block of ZM's that has memory. -/
theorem alloc_own {w : Wd} (r : ZRel fl L w) (B : ZB) (row : List AV)
    (hB : (∃ cs, B = .box cs ∧ ZRs w cs row) ∨ ∃ k rows, B = .grow 0 k rows ∧ (∀ x ∈ rows, x.length = k) ∧ rows.length * k = row.length ∧ ZRs w rows.flatten row) :
    ∃ w', w'.h = w.h ++ [some row] ∧ w'.H = w.H ++ [B] ∧ w'.mu w.H.length = some (w.h.length, 0) ∧ blk w'.h w.h.length = some row ∧ ZRel fl L w' ∧ Ext w w' := by
  obtain ⟨m, hm⟩ : ∃ m : Nat → Option (Nat × Nat), m = fun i => if i = w.H.length then some (w.h.length, 0) else w.mu i := ⟨_, rfl⟩
  have m1 : m w.H.length = some (w.h.length, 0) := by rw [hm]; simp
  have m2 : ∀ i, i ≠ w.H.length → m i = w.mu i := fun i hi => by rw [hm]; simp [hi]
  have mn : w.mu w.H.length = none := by
    cases h : w.mu w.H.length with
    | none => rfl
    | some p => have := r.dom _ p h; omega
  have hget : ∀ (i : Nat) C, (w.H ++ [B])[i]? = some C → (i < w.H.length ∧ w.H[i]? = some C) ∨ (i = w.H.length ∧ C = B) := fun i C h => by
    by_cases hi : i < w.H.length
    · rw [List.getElem?_append_left hi] at h; exact .inl ⟨hi, h⟩
    · rw [List.getElem?_append_right (by omega)] at h
      have : i - w.H.length = 0 := by
        have := (List.getElem?_eq_some_iff.1 h).1
        simp at this; omega
      rw [this] at h
      simp at h
      exact .inr ⟨by omega, h.symm⟩
  have lt : ∀ {i : Nat} {C}, w.H[i]? = some C → i < w.H.length := fun h => (List.getElem?_eq_some_iff.1 h).1
  have e : Ext w ⟨w.Fr, m, w.H ++ [B], w.h ++ [some row]⟩ := by
    refine ⟨fun _ h => h, fun id row0 h hr => blk_ext _ hr, by simp, by simp, fun i p h => ?_, fun i cs h => ⟨⟨cs, ?_⟩, m2 i (by have := lt h; omega)⟩, fun i cs hi h => (hget i _ h).elim (fun q => ⟨cs, q.2⟩) (fun q => absurd hi (by omega)), fun i g k rows hi h => ⟨g, rows, ?_, Nat.le_refl _, fun _ => ⟨m2 i (by omega), rfl, fun id b row0 _ hr => ⟨row0, blk_ext _ hr, rfl⟩⟩⟩⟩
    · by_cases hi : i = w.H.length
      · subst hi
        have h : m w.H.length = some p := h
        rw [m1] at h; injection h with h; subst h; exact .inr (Nat.le_refl _)
      · exact .inl ⟨p, (m2 i hi).symm.trans h, rfl⟩
    · show (w.H ++ [B])[i]? = _
      rw [List.getElem?_append_left (lt h)]; exact h
    · rcases hget i _ h with ⟨_, h⟩ | ⟨h, _⟩
      · exact h
      · omega
  refine ⟨⟨w.Fr, m, w.H ++ [B], w.h ++ [some row]⟩, rfl, rfl, m1, blk_app_new, ?_, e⟩
  have hmm : ∀ i p, m i = some p → (i = w.H.length ∧ p = (w.h.length, 0)) ∨ (i < w.H.length ∧ w.mu i = some p) := fun i p h => by
    by_cases hi : i = w.H.length
    · subst hi; rw [m1] at h; injection h with h; exact .inl ⟨rfl, h.symm⟩
    · rw [m2 i hi] at h; exact .inr ⟨r.dom i p h, h⟩
  refine ⟨fun id h => r.fresh id (by simp at h; omega), fun i h => r.lfresh i (by simp at h; omega), fun id h => by have := r.frlt id h; simp; omega, fun i p h => ?_, fun i j p q hi hj he => ?_, fun i p h => ?_, fun i p h hl => ?_, fun i cs h => ?_, fun i g k rows h => ?_⟩
  · rcases hmm i p h with ⟨rfl, _⟩ | ⟨h, _⟩ <;> simp; omega
  · rcases hmm i p hi with ⟨rfl, rfl⟩ | ⟨h1, h2⟩ <;> rcases hmm j q hj with ⟨rfl, rfl⟩ | ⟨h3, h4⟩
    · rfl
    · have := (r.nfr j q h4).2; simp at he; omega
    · have := (r.nfr i p h2).2; simp at he; omega
    · exact r.inj i j p q h2 h4 he
  · rcases hmm i p h with ⟨rfl, rfl⟩ | ⟨_, h⟩
    · exact ⟨fun q => by have := r.frlt _ q; simp at this, by simp⟩
    · have := r.nfr i p h; exact ⟨this.1, by simp; omega⟩
  · rcases hmm i p h with ⟨rfl, rfl⟩ | ⟨_, h⟩
    · exact r.fresh _ (Nat.le_refl _)
    · exact r.wr i p h hl
  · rcases hget i _ h with ⟨hi, h⟩ | ⟨rfl, hq⟩
    · obtain ⟨id, row0, h1, h2, h3⟩ := r.box i cs h
      exact ⟨id, row0, (m2 i (by omega)).trans h1, blk_ext _ h2, h3.ext e⟩
    · rcases hB with ⟨cs', rfl, hc⟩ | ⟨k, rows, rfl, _⟩
      · injection hq with hq; subst hq
        exact ⟨_, row, m1, blk_app_new, hc.ext e⟩
      · cases hq
  · rcases hget i _ h with ⟨hi, h⟩ | ⟨rfl, hq⟩
    · obtain ⟨h0, h1 | ⟨id, b, row0, h1, h2, h3, h4⟩⟩ := r.grow i g k rows h
      · exact ⟨h0, .inl ⟨(m2 i (by omega)).trans h1.1, h1.2⟩⟩
      · exact ⟨h0, .inr ⟨id, b, row0, (m2 i (by omega)).trans h1, blk_ext _ h2, h3, h4.ext e⟩⟩
    · rcases hB with ⟨cs', rfl, hc⟩ | ⟨k', rows', rfl, q1, q2, q3⟩
      · cases hq
      · injection hq with e1 e2 e3; subst e1; subst e2; subst e3
        refine ⟨q1, .inr ⟨_, 0, row, m1, blk_app_new, by omega, ?_⟩⟩
        rw [List.drop_zero, List.take_of_length_le (by omega)]; exact q3.ext e

/-- A new block of ZM's without memory. -/
theorem alloc_nil {w : Wd} (r : ZRel fl L w) (k : Nat) :
    ∃ w', w'.h = w.h ∧ w'.H = w.H ++ [.grow 0 k []] ∧ w'.mu w.H.length = none ∧ (∀ id, w.Fr id → w'.Fr id) ∧ ZRel fl L w' ∧ Ext w w' := by
  have hget : ∀ (i : Nat) C, (w.H ++ [.grow 0 k []])[i]? = some C → (i < w.H.length ∧ w.H[i]? = some C) ∨ (i = w.H.length ∧ C = .grow 0 k []) := fun i C h => by
    by_cases hi : i < w.H.length
    · rw [List.getElem?_append_left hi] at h; exact .inl ⟨hi, h⟩
    · rw [List.getElem?_append_right (by omega)] at h
      have : i - w.H.length = 0 := by
        have := (List.getElem?_eq_some_iff.1 h).1
        simp at this; omega
      rw [this] at h
      simp at h
      exact .inr ⟨by omega, h.symm⟩
  have lt : ∀ {i : Nat} {C}, w.H[i]? = some C → i < w.H.length := fun h => (List.getElem?_eq_some_iff.1 h).1
  have mn : w.mu w.H.length = none := by
    cases h : w.mu w.H.length with
    | none => rfl
    | some p => have := r.dom _ p h; omega
  have e : Ext w ⟨w.Fr, w.mu, w.H ++ [.grow 0 k []], w.h⟩ := by
    refine ⟨fun _ h => h, fun id _ h hr => hr, Nat.le_refl _, by simp, fun i p h => .inl ⟨p, h, rfl⟩, fun i cs h => ⟨⟨cs, ?_⟩, rfl⟩, fun i cs hi h => (hget i _ h).elim (fun q => ⟨cs, q.2⟩) (fun q => absurd hi (by omega)), fun i g k' rows hi h => ⟨g, rows, ?_, Nat.le_refl _, fun _ => ⟨rfl, rfl, fun id b row0 _ hr => ⟨row0, hr, rfl⟩⟩⟩⟩
    · show (w.H ++ [_])[i]? = _
      rw [List.getElem?_append_left (lt h)]; exact h
    · rcases hget i _ h with ⟨_, h⟩ | ⟨h, _⟩
      · exact h
      · omega
  refine ⟨⟨w.Fr, w.mu, w.H ++ [.grow 0 k []], w.h⟩, rfl, rfl, mn, fun _ h => h, ?_, e⟩
  refine ⟨r.fresh, fun i h => r.lfresh i (by simp at h; omega), r.frlt, fun i p h => ?_, r.inj, r.nfr, r.wr, fun i cs h => ?_, fun i g k' rows h => ?_⟩
  · have := r.dom i p h; simp; omega
  · rcases hget i _ h with ⟨hi, h⟩ | ⟨rfl, hq⟩
    · obtain ⟨id, row0, h1, h2, h3⟩ := r.box i cs h
      exact ⟨id, row0, h1, h2, h3.ext e⟩
    · cases hq
  · rcases hget i _ h with ⟨hi, h⟩ | ⟨rfl, hq⟩
    · obtain ⟨h0, h1 | ⟨id, b, row0, h1, h2, h3, h4⟩⟩ := r.grow i g k' rows h
      · exact ⟨h0, .inl h1⟩
      · exact ⟨h0, .inr ⟨id, b, row0, h1, h2, h3, h4.ext e⟩⟩
    · injection hq with e1 e2 e3; subst e1; subst e2; subst e3
      exact ⟨by simp, .inl ⟨mn, rfl⟩⟩

/-- A block of ZM's that is changed. -/
theorem upd_blk0 {w : Wd} (r : ZRel fl L w) {i : Nat} (hi : i < w.H.length) (B' : ZB) (p' : Nat × Nat) (h' : Heap) (row' : List AV)
    (h1 : ∀ id, id < w.h.length → (∀ p, w.mu i = some p → id ≠ p.1) → blk h' id = blk w.h id) (h2 : w.h.length ≤ h'.length) (h3 : p'.1 < h'.length ∧ ((∃ p, w.mu i = some p ∧ p.1 = p'.1) ∨ w.h.length ≤ p'.1)) (h4 : blk h' p'.1 = some row')
    (hB : (∃ cs cs', w.H[i]? = some (.box cs) ∧ B' = .box cs' ∧ w.mu i = some p' ∧ ∀ w', Ext w w' → ZRs w' cs' row') ∨
      (∃ g k rows g' rows', w.H[i]? = some (.grow g k rows) ∧ B' = .grow g' k rows' ∧ (∀ x ∈ rows', x.length = k) ∧ p'.2 + rows'.length * k ≤ row'.length ∧ (∀ w', Ext w w' → ZRs w' rows'.flatten ((row'.drop p'.2).take (rows'.length * k))) ∧
        (g < g' ∨ (g = g' ∧ w.mu i = some p' ∧ rows'.length = rows.length ∧ ∃ row, blk w.h p'.1 = some row ∧ row'.length = row.length)))) :
    ∃ w', w'.h = h' ∧ w'.H = w.H.set i B' ∧ w'.mu i = some p' ∧ ZRel fl L w' ∧ Ext w w' := by
  obtain ⟨m, hm⟩ : ∃ m : Nat → Option (Nat × Nat), m = fun j => if j = i then some p' else w.mu j := ⟨_, rfl⟩
  have m1 : m i = some p' := by rw [hm]; simp
  have m2 : ∀ j, j ≠ i → m j = w.mu j := fun j hj => by rw [hm]; simp [hj]
  have hget : ∀ (j : Nat) C, (w.H.set i B')[j]? = some C → (j ≠ i ∧ w.H[j]? = some C) ∨ (j = i ∧ C = B') := fun j C h => by
    by_cases hj : j = i
    · subst hj
      rw [List.getElem?_set] at h
      simp [hi] at h
      exact .inr ⟨rfl, h.symm⟩
    · rw [List.getElem?_set, if_neg (Ne.symm hj)] at h; exact .inl ⟨hj, h⟩
  have hgi : (w.H.set i B')[i]? = some B' := by rw [List.getElem?_set]; simp [hi]
  have hother : ∀ j p id, j ≠ i → w.mu j = some p → p.1 = id → blk h' id = blk w.h id := fun j p id hj hp he => by
    have := (r.nfr j p hp).2
    exact h1 id (by omega) fun q hq e => hj (r.inj j i p q hp hq (by omega))
  have e : Ext w ⟨w.Fr, m, w.H.set i B', h'⟩ := by
    refine ⟨fun _ h => h, fun id row0 h hr => (h1 id (r.frlt id h) fun p hp e => (r.nfr i p hp).1 (e ▸ h)).trans hr, h2, by simp, fun j p h => ?_, fun j cs h => ?_, fun j cs hj h => (hget j _ h).elim (fun q => ⟨cs, q.2⟩) (fun q => hB.elim (fun ⟨cs0, _, q1, _⟩ => ⟨cs0, by rw [q.1]; exact q1⟩) (fun ⟨g, k, rows, g', rows', _, q2, _⟩ => by rw [q2] at q; cases q.2)), fun j g k rows hj h => ?_⟩
    · by_cases hj : j = i
      · subst hj
        have h : m j = some p := h
        rw [m1] at h; injection h with h; subst h; exact h3.2
      · exact .inl ⟨p, (m2 j hj).symm.trans h, rfl⟩
    · by_cases hj : j = i
      · subst hj
        rcases hB with ⟨cs0, cs', q1, q2, q3, _⟩ | ⟨g, k, rows, g', rows', q1, _⟩
        · exact ⟨⟨cs', by show (w.H.set j B')[j]? = _; rw [hgi, q2]⟩, by show m j = _; rw [m1, q3]⟩
        · rw [q1] at h; cases h
      · exact ⟨⟨cs, by show (w.H.set i B')[j]? = _; rw [List.getElem?_set, if_neg (Ne.symm hj)]; exact h⟩, m2 j hj⟩
    · rcases hget j _ h with ⟨hj', h⟩ | ⟨rfl, hq⟩
      · exact ⟨g, rows, h, Nat.le_refl _, fun _ => ⟨m2 j hj', rfl, fun id b row hp hr => ⟨row, by rw [hother j _ id hj' hp rfl]; exact hr, rfl⟩⟩⟩
      · rcases hB with ⟨cs0, cs', q1, q2, q3, _⟩ | ⟨g0, k0, rows0, g', rows', q1, q2, q3, q4, q5, q6⟩
        · rw [q2] at hq; cases hq
        · rw [q2] at hq
          injection hq with e1 e2 e3; subst e1; subst e2; subst e3
          refine ⟨g0, rows0, q1, by omega, fun he => ?_⟩
          rcases q6 with q6 | ⟨_, s1, s2, row, s3, s4⟩
          · omega
          · refine ⟨by show m j = _; rw [m1, s1], s2, fun id b row0 hp hr => ⟨row', ?_, ?_⟩⟩
            · rw [s1] at hp; injection hp with hp; rw [← show p'.1 = id by rw [hp]]; exact h4
            · rw [s1] at hp; injection hp with hp
              rw [show p'.1 = id by rw [hp], hr] at s3
              injection s3 with s3; rw [s4, s3]
  refine ⟨⟨w.Fr, m, w.H.set i B', h'⟩, rfl, rfl, m1, ?_, e⟩
  have hmm : ∀ j p, m j = some p → (j = i ∧ p = p') ∨ (j ≠ i ∧ w.mu j = some p) := fun j p h => by
    by_cases hj : j = i
    · subst hj; rw [m1] at h; injection h with h; exact .inl ⟨rfl, h.symm⟩
    · rw [m2 j hj] at h; exact .inr ⟨hj, h⟩
  refine ⟨fun id h => r.fresh id (Nat.le_trans h2 h), fun j h => r.lfresh j (by simpa using h), fun id h => Nat.lt_of_lt_of_le (r.frlt id h) h2, fun j p h => ?_, fun j j' p q hj hj' he => ?_, fun j p h => ?_, fun j p h hl => ?_, fun j cs h => ?_, fun j g k rows h => ?_⟩
  · show j < (w.H.set i B').length
    rw [List.length_set]
    rcases hmm j p h with ⟨rfl, _⟩ | ⟨_, h⟩
    · exact hi
    · exact r.dom j p h
  · have cross : ∀ j q, j ≠ i → w.mu j = some q → p'.1 ≠ q.1 := fun j q hj hq he => by
      rcases h3.2 with ⟨p, hp, e1⟩ | hf
      · exact hj (r.inj j i q p hq hp (by omega))
      · have := (r.nfr j q hq).2; omega
    rcases hmm j p hj with ⟨rfl, rfl⟩ | ⟨h5, h6⟩ <;> rcases hmm j' q hj' with ⟨rfl, rfl⟩ | ⟨h7, h8⟩
    · rfl
    · exact absurd he (cross j' q h7 h8)
    · exact absurd he.symm (cross j p h5 h6)
    · exact r.inj j j' p q h6 h8 he
  · rcases hmm j p h with ⟨rfl, rfl⟩ | ⟨_, h⟩
    · refine ⟨fun q => ?_, h3.1⟩
      rcases h3.2 with ⟨p0, hp, e1⟩ | hf
      · exact (r.nfr j p0 hp).1 (e1 ▸ q)
      · have := r.frlt _ q; omega
    · have := r.nfr j p h; exact ⟨this.1, Nat.lt_of_lt_of_le this.2 h2⟩
  · rcases hmm j p h with ⟨rfl, rfl⟩ | ⟨_, h⟩
    · rcases h3.2 with ⟨p0, hp, e1⟩ | hf
      · rw [← e1]; exact r.wr j p0 hp hl
      · exact r.fresh _ hf
    · exact r.wr j p h hl
  · rcases hget j _ h with ⟨hj, h⟩ | ⟨rfl, hq⟩
    · obtain ⟨id, row0, q1, q2, q3⟩ := r.box j cs h
      exact ⟨id, row0, (m2 j hj).trans q1, by show blk h' id = _; rw [hother j _ id hj q1 rfl]; exact q2, q3.ext e⟩
    · rcases hB with ⟨cs0, cs', q1, q2, q3, q4⟩ | ⟨g0, k0, rows0, g', rows', q1, q2, _⟩
      · rw [q2] at hq; injection hq with hq; subst hq
        obtain ⟨id, row0, s1, _, _⟩ := r.box j cs0 q1
        have hp : p' = (id, 0) := by rw [q3] at s1; injection s1
        exact ⟨p'.1, row', by show m j = _; rw [m1, hp], h4, q4 _ e⟩
      · rw [q2] at hq; cases hq
  · rcases hget j _ h with ⟨hj, h⟩ | ⟨rfl, hq⟩
    · obtain ⟨q0, q1 | ⟨id, b, row0, q1, q2, q3, q4⟩⟩ := r.grow j g k rows h
      · exact ⟨q0, .inl ⟨(m2 j hj).trans q1.1, q1.2⟩⟩
      · exact ⟨q0, .inr ⟨id, b, row0, (m2 j hj).trans q1, by show blk h' id = _; rw [hother j _ id hj q1 rfl]; exact q2, q3, q4.ext e⟩⟩
    · rcases hB with ⟨cs0, cs', q1, q2, q3, q4⟩ | ⟨g0, k0, rows0, g', rows', q1, q2, q3, q4, q5, q6⟩
      · rw [q2] at hq; cases hq
      · rw [q2] at hq
        injection hq with e1 e2 e3; subst e1; subst e2; subst e3
        exact ⟨q3, .inr ⟨p'.1, p'.2, row', m1, h4, q4, q5 _ e⟩⟩
theorem upd_blk {w : Wd} (r : ZRel fl L w) {i : Nat} (hi : i < w.H.length) (hL : L i = true) (B' : ZB) (p' : Nat × Nat) (h' : Heap) (row' : List AV)
    (h1 : ∀ id, id < w.h.length → (∀ p, w.mu i = some p → id ≠ p.1) → blk h' id = blk w.h id) (h2 : w.h.length ≤ h'.length) (h3 : p'.1 < h'.length ∧ ((∃ p, w.mu i = some p ∧ p.1 = p'.1) ∨ w.h.length ≤ p'.1)) (h4 : blk h' p'.1 = some row')
    (hB : (∃ cs cs', w.H[i]? = some (.box cs) ∧ B' = .box cs' ∧ w.mu i = some p' ∧ ∀ w', Ext w w' → ZRs w' cs' row') ∨
      (∃ g k rows g' rows', w.H[i]? = some (.grow g k rows) ∧ B' = .grow g' k rows' ∧ (∀ x ∈ rows', x.length = k) ∧ p'.2 + rows'.length * k ≤ row'.length ∧ (∀ w', Ext w w' → ZRs w' rows'.flatten ((row'.drop p'.2).take (rows'.length * k))) ∧
        (g < g' ∨ (g = g' ∧ w.mu i = some p' ∧ rows'.length = rows.length ∧ ∃ row, blk w.h p'.1 = some row ∧ row'.length = row.length)))) :
    ∃ w', w'.h = h' ∧ w'.H = w.H.set i B' ∧ w'.mu i = some p' ∧ ZRel fl L w' ∧ Ext w w' := upd_blk0 r hi B' p' h' row' h1 h2 h3 h4 hB
end Go.Proofs.Ytpmmiaadfnildaa
