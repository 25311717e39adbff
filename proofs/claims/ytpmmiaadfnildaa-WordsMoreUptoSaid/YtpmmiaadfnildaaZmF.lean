/-
  ZM: appending, copying, slicing.
-/
import Derived.Test.YtpmmiaadfnildaaZmE
namespace Go.Proofs.Ytpmmiaadfnildaa
open Go Go.RowKit
set_option linter.unusedVariables false
set_option linter.unusedSimpArgs false
variable {fl L : Nat → Bool} {w : Wd} {S : ZS} {s : Slots}

/-- A block without memory grows by nothing. -/
theorem upd_nil (r : ZRel fl L w) {i g g' k : Nat} {rows : List (List ZV)} (hb : w.H[i]? = some (.grow g k rows)) (hm : w.mu i = none) (hg : g < g') :
    ∃ w', w'.h = w.h ∧ w'.H = w.H.set i (.grow g' k []) ∧ w'.mu = w.mu ∧ w'.Fr = w.Fr ∧ ZRel fl L w' ∧ Ext w w' := by
  have hi := lt_of_get hb
  have hget : ∀ (j : Nat) C, (w.H.set i (.grow g' k []))[j]? = some C → (j ≠ i ∧ w.H[j]? = some C) ∨ (j = i ∧ C = .grow g' k []) := fun j C h => by
    by_cases hj : j = i
    · subst hj
      rw [List.getElem?_set] at h
      simp [hi] at h
      exact .inr ⟨rfl, h.symm⟩
    · rw [List.getElem?_set, if_neg (Ne.symm hj)] at h; exact .inl ⟨hj, h⟩
  have e : Ext w ⟨w.Fr, w.mu, w.H.set i (.grow g' k []), w.h⟩ := by
    refine ⟨fun _ h => h, fun id _ h hr => hr, Nat.le_refl _, by simp, fun j p h => .inl ⟨p, h, rfl⟩, fun j cs h => ⟨⟨cs, ?_⟩, rfl⟩, fun j cs hj h => (hget j _ h).elim (fun q => ⟨cs, q.2⟩) (fun q => by cases q.2), fun j g2 k2 rows2 hj h => ?_⟩
    · show (w.H.set i _)[j]? = _
      rw [List.getElem?_set, if_neg]
      · exact h
      · intro e; subst e; rw [hb] at h; cases h
    · rcases hget j _ h with ⟨hj', h⟩ | ⟨rfl, hq⟩
      · exact ⟨g2, rows2, h, Nat.le_refl _, fun _ => ⟨rfl, rfl, fun id b row hp hr => ⟨row, hr, rfl⟩⟩⟩
      · injection hq with e1 e2 e3; subst e1; subst e2; subst e3
        exact ⟨g, rows, hb, by omega, fun e => by omega⟩
  refine ⟨⟨w.Fr, w.mu, w.H.set i (.grow g' k []), w.h⟩, rfl, rfl, rfl, rfl, ?_, e⟩
  refine ⟨r.fresh, fun j h => r.lfresh j (by simpa using h), r.frlt, fun j p h => by simpa using r.dom j p h, r.inj, r.nfr, r.wr, fun j cs h => ?_, fun j g2 k2 rows2 h => ?_⟩
  · rcases hget j _ h with ⟨hj, h⟩ | ⟨rfl, hq⟩
    · obtain ⟨id, row0, q1, q2, q3⟩ := r.box j cs h
      exact ⟨id, row0, q1, q2, q3.ext e⟩
    · cases hq
  · rcases hget j _ h with ⟨hj, h⟩ | ⟨rfl, hq⟩
    · obtain ⟨q0, q1 | ⟨id, b, row0, q1, q2, q3, q4⟩⟩ := r.grow j g2 k2 rows2 h
      · exact ⟨q0, .inl q1⟩
      · exact ⟨q0, .inr ⟨id, b, row0, q1, q2, q3, q4.ext e⟩⟩
    · injection hq with e1 e2 e3; subst e1; subst e2; subst e3
      exact ⟨by simp, .inl ⟨hm, rfl⟩⟩

theorem own_mk (r : ZRel fl L w) {i g k : Nat} {rows : List (List ZV)} (hb : w.H[i]? = some (.grow g k rows)) {id b off len lb : Nat} {ex ex' : Bool} {row : List AV} (hm : w.mu i = some (id, b)) (hr : blk w.h id = some row) (h1 : off + len ≤ rows.length) (h2 : len ≤ lb) (h3 : b + off * k + lb * k ≤ row.length) (h4 : ex = true → ex' = true ∧ lb = len) :
    ZR w (.own i g off len ex) (.slice id (b + off * k) len lb ex' k) := by
  refine .own (lt_of_get hb) (fun g' k' rows' hb' => ?_) (fun x hx => ?_) rfl
  · rw [hb] at hb'; injection hb' with hb'; injection hb' with e1 e2 e3; subst e1; subst e2; subst e3
    exact ⟨Nat.le_refl _, fun _ => .inr ⟨id, b, lb, ex', row, hm, rfl, h1, h2, hr, h3, h4⟩⟩
  · simp [idsOf] at hx
    subst hx
    exact ⟨(r.nfr i _ hm).2, fun i' p hp e => r.inj i' i p _ hp hm e⟩
theorem own_nil (r : ZRel fl L w) {i g k : Nat} (hb : w.H[i]? = some (.grow g k [])) (hm : w.mu i = none) {ex : Bool} {a : AV} (ha : a = .nil ∨ ∃ id o row, a = .slice id o 0 0 true k ∧ w.Fr id ∧ blk w.h id = some row ∧ o ≤ row.length) : ZR w (.own i g 0 0 ex) a := by
  refine .own (lt_of_get hb) (fun g' k' rows' hb' => ?_) ?_ ?_
  · rw [hb] at hb'; injection hb' with hb'; injection hb' with e1 e2 e3; subst e1; subst e2; subst e3
    exact ⟨Nat.le_refl _, fun _ => .inl ⟨hm, rfl, rfl, rfl, ha⟩⟩
  · rcases ha with rfl | ⟨id, o, row, rfl, hf, _⟩
    · intro x hx; simp [idsOf] at hx
    · intro x hx
      simp [idsOf] at hx; subst hx
      exact ⟨r.frlt _ hf, fun i' p hp e => absurd (e ▸ hf) (r.nfr i' p hp).1⟩
  · rcases ha with rfl | ⟨id, o, row, rfl, _⟩ <;> rfl

/-- New memory, its slice. -/
theorem new_own (r : ZRel fl L w) {k : Nat} {rows : List (List ZV)} {cells : List AV} (hc : ZRs w rows.flatten cells) (hk : ∀ x ∈ rows, x.length = k) {n : Nat} (hn : rows.length = n) (ex ex' : Bool) (he : ex = true → ex' = true) :
    ∃ w', w'.h = w.h ++ [some cells] ∧ w'.H = w.H ++ [.grow 0 k rows] ∧ ZRel fl L w' ∧ Ext w w' ∧ ZR w' (.own w.H.length 0 0 n ex) (.slice w.h.length 0 n n ex' k) := by
  have hl : rows.length * k = cells.length := by rw [← hc.1, zflat_len hk]
  obtain ⟨w', e1, e2, e3, e4, e5, e6⟩ := alloc_own r (.grow 0 k rows) cells (.inr ⟨k, rows, rfl, hk, hl, hc⟩)
  refine ⟨w', e1, e2, e5, e6, ?_⟩
  have := own_mk e5 (i := w.H.length) (g := 0) (k := k) (rows := rows) (by rw [e2]; simp) e3 e4 (off := 0) (len := n) (lb := n) (ex := ex) (ex' := ex') (by omega) (Nat.le_refl _) (by rw [← hn]; omega) (fun h => ⟨he h, rfl⟩)
  simpa using this

theorem app_spec (r : ZRel fl L w) {z v : ZV} {a : AV} (hz : ZR w z a) {k bytes : Nat} {new : List (List ZV)} {cells : List AV} (hc : ZRs w new.flatten cells) (hk : ∀ x ∈ new, x.length = k) {H' : ZH} (ha : appZ L w.H k bytes new z = some (v, H')) :
    ∃ a' h' w', appendA fl w.h k bytes a new.length cells = some (a', h') ∧ w'.h = h' ∧ w'.H = H' ∧ ZRel fl L w' ∧ Ext w w' ∧ ZR w' v a' := by
  have hcl : cells.length = new.length * k := by rw [← hc.1, zflat_len hk]
  have fromNil : ∀ {n : Nat}, new.length = n → n * bytes ≤ reach → n ≠ 0 → appendA fl w.h k bytes .nil n cells = some (.slice w.h.length 0 n n false k, w.h ++ [some cells]) := fun hn hb h0 => by
    unfold appendA; rw [if_neg h0]; simp only; rw [if_pos hb]
  unfold appZ at ha
  split at ha
  · -- nil
    have hz := hz.val_inv
    subst hz
    split at ha
    · rename_i hb
      injection ha with ha; injection ha with e1 e2; subst e1; subst e2
      by_cases h0 : new.length = 0
      · have : new = [] := List.eq_nil_of_length_eq_zero h0
        subst this
        obtain ⟨w', e1, e2, e3, e4, e5, e6⟩ := alloc_nil r k
        exact ⟨.nil, w.h, w', rfl, e1, e2, e5, e6, own_nil e5 (k := k) (by rw [e2]; simp) e3 (.inl rfl)⟩
      · obtain ⟨w', e1, e2, e3, e4, e5⟩ := new_own r hc hk rfl false false (fun h => h)
        exact ⟨_, _, w', fromNil rfl hb h0, e1, e2, e3, e4, e5⟩
    · cases ha
  · -- fz
    rename_i k' ex rows
    split at ha
    · rename_i hcond
      obtain ⟨rfl, hb⟩ := hcond
      have hf := hz.fz_inv
      split at ha
      · rename_i h0
        injection ha with ha; injection ha with e1 e2; subst e1; subst e2; subst h0
        refine ⟨a, w.h, w, ?_, rfl, rfl, r, Ext.refl w, hz⟩
        rcases hf.rows with ⟨_, rfl | ⟨rfl, _⟩⟩ | ⟨id, off, lb, ex', row, rfl, _⟩ <;> rfl
      · rename_i h0
        have h0' : new.length ≠ 0 := fun h => h0 (List.eq_nil_of_length_eq_zero h)
        split at ha
        · rename_i hex
          subst hex
          injection ha with ha; injection ha with e1 e2; subst e1; subst e2
          rcases hf.rows with ⟨rfl, rfl | ⟨rfl, h⟩⟩ | ⟨id, off, lb, ex', row, rfl, q1, q2, q3, q4, q5, q6, q7⟩
          · obtain ⟨w', e1, e2, e3, e4, e5⟩ := new_own (rows := [] ++ new) (n := ([] : List (List ZV)).length + new.length) r (by simpa using hc) (by simpa using hk) (by simp) false false (fun h => h)
            exact ⟨_, _, w', by have := fromNil rfl (by simpa using hb) h0'; simpa using this, by simpa using e1, e2, e3, e4, by simpa using e5⟩
          · cases h
          · obtain ⟨rfl, rfl⟩ := q5 rfl
            have hold : ZRs w rows.flatten ((row.drop off).take (rows.length * k')) := .ofFlat q6 q3 fun i z hz => by obtain ⟨c, h1, h2⟩ := q7 i z hz; exact ⟨c, h1, .fr h2⟩
            have hall : ∀ x ∈ rows ++ new, x.length = k' := fun x hx => (List.mem_append.1 hx).elim (q6 x) (hk x)
            obtain ⟨w', e1, e2, e3, e4, e5⟩ := new_own (rows := rows ++ new) (n := rows.length + new.length) r (by rw [List.flatten_append]; exact hold.append hc) hall (by simp) false false (fun h => h)
            refine ⟨_, _, w', ?_, e1, e2, e3, e4, e5⟩
            unfold appendA
            rw [if_neg h0']
            simp only
            rw [if_pos ⟨trivial, hb⟩, if_neg (by omega), show rd w.h id off (rows.length * k') = some ((row.drop off).take (rows.length * k')) by simp only [rd, q2]; rw [if_pos q3]]
            rfl
        · cases ha
    · cases ha
  · -- own
    rename_i i g off len ex
    split at ha
    · rename_i g' k' rows hb
      split at ha
      · rename_i hcond
        obtain ⟨rfl, rfl, hle, hby⟩ := hcond
        obtain ⟨g0, gB⟩ := r.grow _ _ _ _ hb
        have hall : ∀ x ∈ (rows.drop off).take len, x.length = k' := fun x hx => g0 x (List.mem_of_mem_drop (List.mem_of_mem_take hx))
        have hlen : ((rows.drop off).take len).length = len := by rw [List.length_take, List.length_drop]; omega
        have hall2 : ∀ x ∈ (rows.drop off).take len ++ new, x.length = k' := fun x hx => (List.mem_append.1 hx).elim (hall x) (hk x)
        have hz0 := hz
        cases hz with
        | fr hf => cases hf
        | own h1 h2 h3 h4 =>
          have hH := (h2 _ _ _ hb).2 rfl
          by_cases h0 : new = []
          · subst h0
            rw [if_pos rfl] at ha
            have hap : appendA fl w.h k' bytes a ([] : List (List ZV)).length cells = some (a, w.h) := by
              rcases hH with ⟨_, _, _, _, rfl | ⟨_, _, _, rfl, _⟩⟩ | ⟨_, _, _, _, _, _, rfl, _⟩ <;> rfl
            split at ha
            · injection ha with ha; injection ha with e1 e2; subst e1; subst e2
              exact ⟨a, w.h, w, hap, rfl, rfl, r, Ext.refl w, hz0⟩
            · split at ha
              · rename_i hex hL
                injection ha with ha; injection ha with e1 e2; subst e1; subst e2
                simp only [List.append_nil, List.length_nil, Nat.add_zero]
                rcases hH with ⟨m0, rfl, rfl, rfl, hq⟩ | ⟨id, b, lb, ex', row, m1, rfl, m2, m3, m4, m5, m6⟩
                · obtain ⟨w', e1, e2, e3, e4, e5, e6⟩ := upd_nil (g' := g' + 1) r hb m0 (Nat.lt_succ_self _)
                  refine ⟨a, w.h, w', hap, e1, by simpa using e2, e5, e6, own_nil e5 (k := k') (by rw [e2]; simp [lt_of_get hb]) (by rw [e3]; exact m0) ?_⟩
                  rcases hq with hq | ⟨id, o, row, q1, q2, q3, q4⟩
                  · exact .inl hq
                  · exact .inr ⟨id, o, row, q1, by rw [e4]; exact q2, by rw [e1]; exact q3, q4⟩
                · have hm : len * k' ≤ lb * k' := Nat.mul_le_mul_right _ m3
                  obtain ⟨w', e1, e2, e3, e4, e5⟩ := upd_blk r (lt_of_get hb) hL (.grow (g' + 1) k' ((rows.drop off).take len)) (id, b + off * k') w.h row (fun _ _ _ => rfl) (Nat.le_refl _) ⟨(r.nfr _ _ m1).2, .inl ⟨_, m1, rfl⟩⟩ m4
                    (.inr ⟨g', k', rows, g' + 1, _, hb, rfl, hall, by rw [hlen]; show b + off * k' + len * k' ≤ _; omega, fun w' e' => by
                      rcases gB with ⟨n1, n2⟩ | ⟨id', b', row', n1, n2, n3, n4⟩
                      · rw [m1] at n1; cases n1
                      · rw [m1] at n1; injection n1 with n1; injection n1 with t1 t2; subst t1; subst t2
                        rw [m4] at n2; injection n2 with n2; subst n2
                        have := ((n4.drop (off * k')).take (len * k')).ext e'
                        have hm2 : (off + len) * k' ≤ rows.length * k' := Nat.mul_le_mul_right _ hle
                        rw [Nat.add_mul] at hm2
                        rw [zflat_drop g0, zflat_take (fun x hx => g0 x (List.mem_of_mem_drop hx)), List.drop_take, List.drop_drop, List.take_take, Nat.min_eq_left (by omega)] at this
                        rw [hlen]; exact this, .inl (Nat.lt_succ_self _)⟩)
                  refine ⟨_, w.h, w', hap, e1, e2, e4, e5, ?_⟩
                  have := own_mk e4 (i := i) (g := g' + 1) (k := k') (rows := (rows.drop off).take len) (by rw [e2]; simp [lt_of_get hb]) e3 (by rw [e1]; exact m4) (off := 0) (len := len) (lb := lb) (ex := false) (ex' := ex') (by omega) m3 (by omega) (fun h => by cases h)
                  simpa using this
              · cases ha
          · rw [if_neg h0] at ha
            have h0' : new.length ≠ 0 := fun h => h0 (List.eq_nil_of_length_eq_zero h)
            -- the old cells, where there are any
            have hold : ∀ {id b lb : Nat} {ex' : Bool} {row : List AV}, w.mu i = some (id, b) → blk w.h id = some row → ZRs w ((rows.drop off).take len).flatten ((row.drop (b + off * k')).take (len * k')) := fun {id b lb ex' row} m1 m4 => by
              rcases gB with ⟨n1, n2⟩ | ⟨id', b', row', n1, n2, n3, n4⟩
              · rw [m1] at n1; cases n1
              · rw [m1] at n1; injection n1 with n1; injection n1 with t1 t2; subst t1; subst t2
                rw [m4] at n2; injection n2 with n2; subst n2
                have := (n4.drop (off * k')).take (len * k')
                have hm2 : (off + len) * k' ≤ rows.length * k' := Nat.mul_le_mul_right _ hle
                rw [Nat.add_mul] at hm2
                rw [zflat_drop g0, zflat_take (fun x hx => g0 x (List.mem_of_mem_drop hx)), List.drop_take, List.drop_drop, List.take_take, Nat.min_eq_left (by omega)] at this
                exact this
            split at ha
            · rename_i hex
              subst hex
              injection ha with ha; injection ha with e1 e2; subst e1; subst e2
              rcases hH with ⟨m0, rfl, rfl, rfl, rfl | ⟨id, o, row, rfl, q2, q3, q4⟩⟩ | ⟨id, b, lb, ex', row, m1, rfl, m2, m3, m4, m5, m6⟩
              · obtain ⟨w', e1, e2, e3, e4, e5⟩ := new_own (rows := (List.drop 0 []).take 0 ++ new) (n := 0 + new.length) r (by simpa using hc) (by simpa using hk) (by simp) false false (fun h => h)
                exact ⟨_, _, w', by have := fromNil rfl (by simpa using hby) h0'; simpa using this, by simpa using e1, e2, e3, e4, by simpa using e5⟩
              · obtain ⟨w', e1, e2, e3, e4, e5⟩ := new_own (rows := (List.drop 0 []).take 0 ++ new) (n := 0 + new.length) r (by simpa using hc) (by simpa using hk) (by simp) false false (fun h => h)
                refine ⟨_, _, w', ?_, e1, e2, e3, e4, e5⟩
                unfold appendA
                rw [if_neg h0']
                simp only
                rw [if_pos ⟨trivial, hby⟩, if_neg (by omega), show rd w.h id o (0 * k') = some [] by simp [rd, q3, q4]]
                rfl
              · obtain ⟨rfl, rfl⟩ := m6 rfl
                obtain ⟨w', e1, e2, e3, e4, e5⟩ := new_own (rows := (rows.drop off).take lb ++ new) (n := lb + new.length) r (by rw [List.flatten_append]; exact (hold (lb := 0) (ex' := true) m1 m4).append hc) hall2 (by rw [List.length_append, hlen]) false false (fun h => h)
                refine ⟨_, _, w', ?_, e1, e2, e3, e4, e5⟩
                unfold appendA
                rw [if_neg h0']
                simp only
                rw [if_pos ⟨trivial, hby⟩, if_neg (by omega), show rd w.h id (b + off * k') (lb * k') = some ((row.drop (b + off * k')).take (lb * k')) by simp only [rd, m4]; rw [if_pos m5]]
                rfl
            · split at ha
              · rename_i hex hL
                injection ha with ha; injection ha with e1 e2; subst e1; subst e2
                have hnl : ((rows.drop off).take len ++ new).length = len + new.length := by rw [List.length_append, hlen]
                -- a new place
                have move : ∀ (h1' : Heap) (old : List AV), h1'.length = w.h.length → (∀ id, id < w.h.length → (∀ p, w.mu i = some p → id ≠ p.1) → blk h1' id = blk w.h id) → ZRs w ((rows.drop off).take len).flatten old →
                    ∃ w', w'.h = h1' ++ [some (old ++ cells)] ∧ w'.H = w.H.set i (.grow (g' + 1) k' ((rows.drop off).take len ++ new)) ∧ ZRel fl L w' ∧ Ext w w' ∧ ZR w' (.own i (g' + 1) 0 (len + new.length) false) (.slice w.h.length 0 (len + new.length) (len + new.length) false k') := fun h1' old hl1 hk1 ho => by
                  have hcat : (old ++ cells).length = (len + new.length) * k' := by rw [List.length_append, ← ho.1, zflat_len hall, hlen, hcl, Nat.add_mul]
                  have hnb : blk (h1' ++ [some (old ++ cells)]) w.h.length = some (old ++ cells) := by rw [← hl1]; exact blk_app_new
                  obtain ⟨w', e1, e2, e3, e4, e5⟩ := upd_blk r (lt_of_get hb) hL (.grow (g' + 1) k' ((rows.drop off).take len ++ new)) (w.h.length, 0) (h1' ++ [some (old ++ cells)]) (old ++ cells)
                    (fun id hid hne => by rw [blk_app_lt _ (by omega)]; exact hk1 id hid hne) (by simp; omega) ⟨by simp; omega, .inr (Nat.le_refl _)⟩ hnb
                    (.inr ⟨g', k', rows, g' + 1, _, hb, rfl, hall2, by rw [hnl, hcat]; simp, fun w' e' => by
                      rw [hnl, List.flatten_append, List.drop_zero, show List.take ((len + new.length) * k') (old ++ cells) = old ++ cells from List.take_of_length_le (by omega)]
                      exact (ho.ext e').append (hc.ext e'), .inl (Nat.lt_succ_self _)⟩)
                  refine ⟨w', e1, e2, e4, e5, ?_⟩
                  have := own_mk e4 (i := i) (g := g' + 1) (k := k') (rows := (rows.drop off).take len ++ new) (by rw [e2]; simp [lt_of_get hb]) e3 (by rw [e1]; exact hnb) (off := 0) (len := len + new.length) (lb := len + new.length) (ex := false) (ex' := false) (by omega) (Nat.le_refl _) (by rw [hcat]; simp) (fun h => by cases h)
                  simpa using this
                rcases hH with ⟨m0, rfl, rfl, rfl, rfl | ⟨id, o, row, rfl, q2, q3, q4⟩⟩ | ⟨id, b, lb, ex', row, m1, rfl, m2, m3, m4, m5, m6⟩
                · obtain ⟨w', e1, e2, e3, e4, e5⟩ := move w.h [] rfl (fun _ _ _ => rfl) (by simpa using ZRs.nil)
                  exact ⟨_, _, w', by have := fromNil rfl (by simpa using hby) h0'; simpa using this, by simpa using e1, e2, e3, e4, by simpa using e5⟩
                · obtain ⟨w', e1, e2, e3, e4, e5⟩ := move w.h [] rfl (fun _ _ _ => rfl) (by simpa using ZRs.nil)
                  refine ⟨_, _, w', ?_, e1, e2, e3, e4, e5⟩
                  unfold appendA
                  rw [if_neg h0']
                  simp only
                  rw [if_pos ⟨trivial, hby⟩, if_neg (by omega), show rd w.h id o (0 * k') = some [] by simp [rd, q3, q4]]
                  rfl
                · have hfl := r.wr _ _ m1 hL
                  have hid := (r.nfr _ _ m1).2
                  have hm : len * k' ≤ lb * k' := Nat.mul_le_mul_right _ m3
                  by_cases hroom : len + new.length ≤ lb
                  · have hm3 : (len + new.length) * k' ≤ lb * k' := Nat.mul_le_mul_right _ hroom
                    rw [Nat.add_mul] at hm3
                    have hfit : b + off * k' + len * k' + cells.length ≤ row.length := by omega
                    obtain ⟨w', e1, e2, e3, e4, e5⟩ := upd_blk r (lt_of_get hb) hL (.grow (g' + 1) k' ((rows.drop off).take len ++ new)) (id, b + off * k') (w.h.set id (some (row.take (b + off * k' + len * k') ++ cells ++ row.drop (b + off * k' + len * k' + cells.length)))) _
                      (fun j hj hne => blk_set_ne (hne _ m1)) (by simp) ⟨by simpa using hid, .inl ⟨_, m1, rfl⟩⟩ (blk_set_same hid)
                      (.inr ⟨g', k', rows, g' + 1, _, hb, rfl, hall2, by rw [hnl, zsplice_len hfit]; show b + off * k' + _ ≤ _; rw [Nat.add_mul]; omega, fun w' e' => by
                        rw [hnl, zsplice_seg (by show b + off * k' ≤ _; omega) (by show _ ≤ b + off * k' + _; rw [Nat.add_mul]; omega) (by show b + off * k' + _ ≤ _; rw [Nat.add_mul]; omega), List.flatten_append]
                        have ho := (hold (lb := lb) (ex' := ex') m1 m4).ext e'
                        show ZRs w' _ (((row.drop (b + off * k')).take ((len + new.length) * k')).take (b + off * k' + len * k' - (b + off * k')) ++ cells ++ ((row.drop (b + off * k')).take ((len + new.length) * k')).drop (b + off * k' + len * k' - (b + off * k') + cells.length))
                        rw [Nat.add_sub_cancel_left, List.take_take, Nat.min_eq_left (by rw [Nat.add_mul]; omega), show List.drop (len * k' + cells.length) (List.take ((len + new.length) * k') (List.drop (b + off * k') row)) = [] from List.drop_of_length_le (by rw [List.length_take, Nat.add_mul]; omega), List.append_nil]
                        exact ho.append (hc.ext e'), .inl (Nat.lt_succ_self _)⟩)
                    refine ⟨.slice id (b + off * k') (len + new.length) lb ex' k', _, w', ?_, e1, e2, e4, e5, ?_⟩
                    · unfold appendA
                      rw [if_neg h0']
                      simp only
                      rw [if_pos ⟨trivial, hby⟩, if_pos hroom, wr_of m4 hfl hfit]
                    · have := own_mk e4 (i := i) (g := g' + 1) (k := k') (rows := (rows.drop off).take len ++ new) (by rw [e2]; simp [lt_of_get hb]) e3 (by rw [e1]; exact blk_set_same hid) (off := 0) (len := len + new.length) (lb := lb) (ex := false) (ex' := ex') (by omega) hroom (by rw [zsplice_len hfit]; omega) (fun h => by cases h)
                      simpa using this
                  · have hr : rd w.h id (b + off * k') (len * k') = some ((row.drop (b + off * k')).take (len * k')) := by simp only [rd, m4]; rw [if_pos (by omega)]
                    cases ex' with
                    | true =>
                      obtain ⟨w', e1, e2, e3, e4, e5⟩ := move w.h _ rfl (fun _ _ _ => rfl) (hold (lb := lb) (ex' := true) m1 m4)
                      refine ⟨_, _, w', ?_, e1, e2, e3, e4, e5⟩
                      unfold appendA
                      rw [if_neg h0']
                      simp only
                      rw [if_pos ⟨trivial, hby⟩, if_neg hroom, hr]
                      rfl
                    | false =>
                      obtain ⟨w', e1, e2, e3, e4, e5⟩ := move (kill w.h id) _ (by simp [kill]) (fun j hj hne => by unfold kill; exact blk_set_ne (hne _ m1)) (hold (lb := lb) (ex' := true) m1 m4)
                      refine ⟨_, _, w', ?_, e1, e2, e3, e4, e5⟩
                      unfold appendA
                      rw [if_neg h0']
                      simp only
                      rw [if_pos ⟨trivial, hby⟩, if_neg hroom, hr]
                      simp only [Bool.false_eq_true, if_false]
                      rw [if_pos hfl]
              · cases ha
      · cases ha
    · cases ha
  · cases ha
end Go.Proofs.Ytpmmiaadfnildaa
