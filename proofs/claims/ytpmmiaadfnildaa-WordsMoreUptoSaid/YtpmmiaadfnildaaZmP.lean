/-
  ZM: contracts that were proved of AM.
-/
import Derived.Test.YtpmmiaadfnildaaZmO
namespace Go.Proofs.Ytpmmiaadfnildaa
open Go Go.RowKit
set_option linter.unusedVariables false
set_option linter.unusedSimpArgs false
variable {fl L : Nat → Bool} {w : Wd}

/-- What a slice has, as AM's lists. -/
theorem rows_sl (r : ZRel fl L w) {z : ZV} {a : AV} (hz : ZR w z a) {k : Nat} {rows : List (List ZV)} (hr : rowsZ w.H k z = some rows) : ∃ cells, Sl w.h k a cells rows.length ∧ ZRs w rows.flatten cells := by
  obtain ⟨cells, h1, h2, h3⟩ := rows_spec r hz hr
  refine ⟨cells, ⟨by rw [← h2.1, zflat_len h3], ?_⟩, h2⟩
  have hlen := rows_len hr
  have hb : (a = .nil ∨ a = .hole) ∨ ∃ id off len lb ex k', a = .slice id off len lb ex k' ∧ len ≤ lb := by
    unfold rowsZ at hr
    split at hr
    · exact .inl (.inl hz.val_inv)
    · split at hr
      · rcases hz.fz_inv.rows with ⟨_, e⟩ | ⟨id, off, lb, ex', row, e, q1, q2, q3, q4, _⟩
        · exact .inl (e.imp id fun q => q.1)
        · exact .inr ⟨id, off, _, lb, ex', _, e, q4⟩
      · cases hr
    · rename_i i g off len ex
      split at hr
      · rename_i g' k' rows' hB
        split at hr
        · rename_i hc
          obtain ⟨rfl, rfl, hle⟩ := hc
          cases hz with
          | fr hf => cases hf
          | own p1 p2 p3 p4 =>
            rcases (p2 _ _ _ hB).2 rfl with ⟨_, _, _, _, e | ⟨id, o, row, e, _⟩⟩ | ⟨id, b, lb, ex', row, _, e, _, q4, _⟩
            · exact .inl (.inl e)
            · exact .inr ⟨id, o, 0, 0, true, _, e, Nat.le_refl _⟩
            · exact .inr ⟨id, _, _, lb, ex', _, e, q4⟩
        · cases hr
      · cases hr
    · cases hr
  rcases hb with e | ⟨id, off, len, lb, ex, k', rfl, hle⟩
  · left
    refine ⟨?_, e⟩
    rcases e with rfl | rfl <;> (simp only [rowOf, Option.some.injEq, Prod.mk.injEq] at h1; exact h1.1.symm)
  · right
    simp only [rowOf] at h1
    cases hrd : rd w.h id off (len * k) with
    | none => rw [hrd] at h1; cases h1
    | some cs =>
      rw [hrd] at h1
      simp only [Option.some.injEq, Prod.mk.injEq] at h1
      obtain ⟨e1, e2⟩ := h1
      subst e2
      have hk' : k' = k := by
        -- the size told
        unfold rowsZ at hr
        split at hr
        · have := hz.val_inv; cases this
        · split at hr
          · rename_i hk; injection hr with hr; subst hr; subst hk
            rcases hz.fz_inv.rows with ⟨_, e | ⟨e, _⟩⟩ | ⟨id, off, lb, ex', row, e, _⟩
            · cases e
            · cases e
            · injection e
          · cases hr
        · split at hr
          · rename_i g' k2 rows' hB
            split at hr
            · rename_i hc
              obtain ⟨rfl, rfl, hle2⟩ := hc
              cases hz with
              | fr hf => cases hf
              | own p1 p2 p3 p4 =>
                rcases (p2 _ _ _ hB).2 rfl with ⟨_, _, _, _, e | ⟨id, o, row, e, _⟩⟩ | ⟨id, b, lb, ex', row, _, e, _⟩
                · cases e
                · injection e
                · injection e
            · cases hr
          · cases hr
        · cases hr
      unfold rd at hrd
      split at hrd
      · rename_i row hrow
        split at hrd
        · rename_i hfit
          injection hrd with hrd
          subst hk'
          exact ⟨id, off, lb, ex, row, by rw [e1], by omega, hrow, by rw [← e1]; exact hfit, by rw [← e1]; exact hrd⟩
        · cases hrd
      · cases hrd
theorem zflat_one {α : Type} (l : List α) (f : α → ZV) : (l.map fun x => [f x]).flatten = l.map f := by induction l with
  | nil => rfl
  | cons a l ih => simp [ih]
theorem il_of (r : ZRel fl L w) {z : ZV} {a : AV} (hz : ZR w z a) {l : List Int} (hr : rowsZ w.H 1 z = some (l.map eI)) : IL w.h a l := by
  obtain ⟨cells, h1, h2⟩ := rows_sl r hz hr
  rw [List.length_map] at h1
  have : cells = l.map I64 := by
    rw [zflat_one l Z64] at h2
    apply List.ext_getElem (by rw [← h2.1]; simp)
    intro i hi hi'
    have hil : i < l.length := by simpa using hi'
    have := (h2.2 i (Z64 l[i]) cells[i] (by simp [hil]) (List.getElem?_eq_getElem hi)).val_inv
    rw [this]; simp
  rw [this] at h1; exact h1
theorem ll_of (r : ZRel fl L w) {z : ZV} {a : AV} (hz : ZR w z a) {ls : List (List Int)} (hr : rowsZ w.H 1 z = some (ls.map fun l => [zI l])) : LL w.h a ls := by
  obtain ⟨cells, h1, h2⟩ := rows_sl r hz hr
  rw [List.length_map] at h1
  rw [zflat_one ls zI] at h2
  have hl : cells.length = ls.length := by rw [← h2.1]; simp
  refine ⟨cells, hl, h1, fun i hi hv => ?_⟩
  exact il_of r (h2.2 i (zI ls[i]) cells[i] (by simp [hi]) (List.getElem?_eq_getElem hv)) rows_fz

/-- AM's memory has grown: ZM's is as it was. -/
theorem keep_w (r : ZRel fl L w) {h' : Heap} (k : Keep w.h h' []) : ZRel fl L ⟨w.Fr, w.mu, w.H, h'⟩ ∧ Ext w ⟨w.Fr, w.mu, w.H, h'⟩ := by
  have hb : ∀ id row, blk w.h id = some row → blk h' id = some row := fun id row h => k.2 id row (by simp) h
  have e : Ext w ⟨w.Fr, w.mu, w.H, h'⟩ := ⟨fun _ h => h, fun id row _ h => hb id row h, k.1, Nat.le_refl _, fun i p h => .inl ⟨p, h, rfl⟩, fun i cs h => ⟨⟨cs, h⟩, rfl⟩, fun i cs _ h => ⟨cs, h⟩, fun i g k rows hi h => ⟨g, rows, h, Nat.le_refl _, fun _ => ⟨rfl, rfl, fun id b row _ hr => ⟨row, hb id row hr, rfl⟩⟩⟩⟩
  refine ⟨⟨fun id h => r.fresh id (Nat.le_trans k.1 h), r.lfresh, fun id h => Nat.lt_of_lt_of_le (r.frlt id h) k.1, r.dom, r.inj, fun i p h => ⟨(r.nfr i p h).1, Nat.lt_of_lt_of_le (r.nfr i p h).2 k.1⟩, r.wr, fun i cs h => ?_, fun i g k rows h => ?_⟩, e⟩
  · obtain ⟨id, row, h1, h2, h3⟩ := r.box i cs h
    exact ⟨id, row, h1, hb id row h2, h3.ext e⟩
  · obtain ⟨h0, h1 | ⟨id, b, row, h1, h2, h3, h4⟩⟩ := r.grow i g k rows h
    · exact ⟨h0, .inl h1⟩
    · exact ⟨h0, .inr ⟨id, b, row, h1, hb id row h2, h3, h4.ext e⟩⟩
/-- A new list of AM's: a new block of ZM's. -/
theorem new_w (r : ZRel fl L w) {h' : Heap} {k n : Nat} {v : AV} {cs : List AV} {rows : List (List ZV)} (hn : New w.h h' k v cs n) (hk : ∀ x ∈ rows, x.length = k) (hl : rows.length = n) (hc : ∀ w', ZRs w' rows.flatten cs) :
    ∃ w', w'.h = h' ∧ w'.H = w.H ++ [.grow 0 k rows] ∧ ZRel fl L w' ∧ Ext w w' ∧ ZR w' (.own w.H.length 0 0 n false) v := by
  obtain ⟨ho, hv, hkp⟩ := hn
  obtain ⟨r1, e1⟩ := keep_w r hkp
  obtain ⟨h1, ⟨rfl, rfl⟩ | ⟨id, lb, row, rfl, h2, h3, h4, h5⟩⟩ := ho
  · have : rows = [] := List.eq_nil_of_length_eq_zero hl
    subst this
    obtain ⟨w', q1, q2, q3, q4, q5, q6⟩ := alloc_nil r1 k
    exact ⟨w', q1, q2, q5, e1.trans q6, own_nil q5 (k := k) (by rw [q2]; simp) q3 (.inl rfl)⟩
  · have hid : w.h.length ≤ id := hv id (by simp [idOf])
    have hidl : id < h'.length := blk_lt h4
    have hnk : n * k ≤ lb * k := Nat.mul_le_mul_right _ h2
    obtain ⟨m, hm⟩ : ∃ m : Nat → Option (Nat × Nat), m = fun i => if i = w.H.length then some (id, 0) else w.mu i := ⟨_, rfl⟩
    have m1 : m w.H.length = some (id, 0) := by rw [hm]; simp
    have m2 : ∀ i, i ≠ w.H.length → m i = w.mu i := fun i hi => by rw [hm]; simp [hi]
    have hmm : ∀ i p, m i = some p → (i = w.H.length ∧ p = (id, 0)) ∨ (i < w.H.length ∧ w.mu i = some p) := fun i p h => by
      by_cases hi : i = w.H.length
      · subst hi; rw [m1] at h; injection h with h; exact .inl ⟨rfl, h.symm⟩
      · rw [m2 i hi] at h; exact .inr ⟨r.dom i p h, h⟩
    have hget : ∀ (i : Nat) C, (w.H ++ [.grow 0 k rows])[i]? = some C → (i < w.H.length ∧ w.H[i]? = some C) ∨ (i = w.H.length ∧ C = .grow 0 k rows) := fun i C h => by
      by_cases hi : i < w.H.length
      · rw [List.getElem?_append_left hi] at h; exact .inl ⟨hi, h⟩
      · rw [List.getElem?_append_right (by omega)] at h
        have : i - w.H.length = 0 := by
          have := (List.getElem?_eq_some_iff.1 h).1
          simp at this; omega
        rw [this] at h
        simp at h
        exact .inr ⟨by omega, h.symm⟩
    have hb : ∀ id row, blk w.h id = some row → blk h' id = some row := fun id row h => hkp.2 id row (by simp) h
    have e : Ext w ⟨w.Fr, m, w.H ++ [.grow 0 k rows], h'⟩ := by
      refine ⟨fun _ h => h, fun id row _ h => hb id row h, hkp.1, by simp, fun i p h => ?_, fun i cs h => ?_, fun i cs hi h => (hget i _ h).elim (fun q => ⟨cs, q.2⟩) (fun q => absurd hi (by omega)), fun i g k' rows' hi h => ?_⟩
      · rcases hmm i p h with ⟨rfl, rfl⟩ | ⟨_, h⟩
        · exact .inr hid
        · exact .inl ⟨p, h, rfl⟩
      · have hi := lt_of_get h
        exact ⟨⟨cs, by show (w.H ++ _)[i]? = _; rw [List.getElem?_append_left hi]; exact h⟩, m2 i (by omega)⟩
      · rcases hget i _ h with ⟨_, h⟩ | ⟨h, _⟩
        · exact ⟨g, rows', h, Nat.le_refl _, fun _ => ⟨m2 i (by omega), rfl, fun id b row _ hr => ⟨row, hb id row hr, rfl⟩⟩⟩
        · omega
    have rr : ZRel fl L ⟨w.Fr, m, w.H ++ [.grow 0 k rows], h'⟩ := by
      refine ⟨fun id h => r.fresh id (Nat.le_trans hkp.1 h), fun i h => r.lfresh i (by simp at h; omega), fun id h => Nat.lt_of_lt_of_le (r.frlt id h) hkp.1, fun i p h => ?_, fun i j p q hi hj he => ?_, fun i p h => ?_, fun i p h hl => ?_, fun i cs h => ?_, fun i g k' rows' h => ?_⟩
      · rcases hmm i p h with ⟨rfl, _⟩ | ⟨h, _⟩ <;> simp; omega
      · rcases hmm i p hi with ⟨rfl, rfl⟩ | ⟨h1, h2⟩ <;> rcases hmm j q hj with ⟨rfl, rfl⟩ | ⟨h3, h4⟩
        · rfl
        · have := (r.nfr j q h4).2; simp at he; omega
        · have := (r.nfr i p h2).2; simp at he; omega
        · exact r.inj i j p q h2 h4 he
      · rcases hmm i p h with ⟨rfl, rfl⟩ | ⟨_, h⟩
        · exact ⟨fun q => by have := r.frlt _ q; simp at this; omega, hidl⟩
        · exact ⟨(r.nfr i p h).1, Nat.lt_of_lt_of_le (r.nfr i p h).2 hkp.1⟩
      · rcases hmm i p h with ⟨rfl, rfl⟩ | ⟨_, h⟩
        · exact r.fresh _ hid
        · exact r.wr i p h hl
      · rcases hget i _ h with ⟨hi, h⟩ | ⟨rfl, hq⟩
        · obtain ⟨id, row0, h1, h2, h3⟩ := r.box i cs h
          exact ⟨id, row0, (m2 i (by omega)).trans h1, hb id row0 h2, h3.ext e⟩
        · cases hq
      · rcases hget i _ h with ⟨hi, h⟩ | ⟨rfl, hq⟩
        · obtain ⟨h0, h1 | ⟨id, b, row0, h1, h2, h3, h4⟩⟩ := r.grow i g k' rows' h
          · exact ⟨h0, .inl ⟨(m2 i (by omega)).trans h1.1, h1.2⟩⟩
          · exact ⟨h0, .inr ⟨id, b, row0, (m2 i (by omega)).trans h1, hb id row0 h2, h3, h4.ext e⟩⟩
        · injection hq with t1 t2 t3; subst t1; subst t2; subst t3
          exact ⟨hk, .inr ⟨id, 0, row, m1, h4, by rw [hl]; omega, by rw [hl, List.drop_zero, h5]; exact hc _⟩⟩
    refine ⟨_, rfl, rfl, rr, e, ?_⟩
    have := own_mk rr (i := w.H.length) (g := 0) (k := k) (rows := rows) (by simp) (id := id) (b := 0) (off := 0) (len := n) (lb := lb) (ex := false) (ex' := false) (row := row) m1 h4 (by omega) h2 (by omega) (fun h => by cases h)
    simpa using this
theorem vals_zrs {α : Type} {g : α → Value} (l : List α) (w : Wd) : ZRs w (l.map fun x => .val (g x)) (l.map fun x => .val (g x)) := by
  refine ⟨by simp, fun i z a hz ha => ?_⟩
  rw [List.getElem?_map] at hz ha
  cases hx : l[i]? with
  | none => rw [hx] at hz; cases hz
  | some x =>
    rw [hx] at hz ha
    simp only [Option.map_some, Option.some.injEq] at hz ha
    subst hz; subst ha; exact .fr (.val _)
theorem newI_w (r : ZRel fl L w) {h' : Heap} {v : AV} {l : List Int} (hn : NewI w.h h' v l) : ∃ w', w'.h = h' ∧ w'.H = w.H ++ [.grow 0 1 (l.map eI)] ∧ ZRel fl L w' ∧ Ext w w' ∧ ZR w' (.own w.H.length 0 0 l.length false) v :=
  new_w r hn (by simp) (by simp) fun w' => by rw [zflat_one l Z64]; exact vals_zrs l w'
end Go.Proofs.Ytpmmiaadfnildaa
