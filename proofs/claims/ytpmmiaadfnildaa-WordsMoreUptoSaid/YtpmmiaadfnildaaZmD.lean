/-
  ZM: each operation does what AM's does.
-/
import Derived.Test.YtpmmiaadfnildaaZmC
namespace Go.Proofs.Ytpmmiaadfnildaa
open Go Go.RowKit
set_option linter.unusedVariables false
set_option linter.unusedSimpArgs false
variable {fl L : Nat → Bool} {w : Wd} {S : ZS} {s : Slots}

def PK (fl L : Nat → Bool) (w : Wd) (K : ZV → ZH → Prop) (a : AV) (h' : Heap) : Prop := ∃ z w', w'.h = h' ∧ ZRel fl L w' ∧ Ext w w' ∧ ZR w' z a ∧ K z w'.H
theorem PK.same (r : ZRel fl L w) {K : ZV → ZH → Prop} {z : ZV} {a : AV} (hz : ZR w z a) (k : K z w.H) : PK fl L w K a w.h := ⟨z, w, rfl, r, Ext.refl w, hz, k⟩

theorem zcs_spec : ∀ {l : List AV} {zs : List ZV}, zcs l = some zs → ZRs w zs l
  | [], zs, h => by simp only [zcs, Option.some.injEq] at h; subst h; exact .nil
  | a :: l, zs, h => by
    unfold zcs at h
    split at h
    · rename_i heq; cases heq
    · rename_i v r heq
      injection heq with e1 e2; subst e1; subst e2
      cases hr : zcs l with
      | none => rw [hr] at h; cases h
      | some ys =>
        rw [hr] at h
        simp only [Option.map_some, Option.some.injEq] at h
        subst h
        exact .cons (.fr (.val v)) (zcs_spec hr)
    · cases h
theorem zcs_all : ∀ {l : List AV} {zs : List ZV}, zcs l = some zs → zs.all ZV.isCell = true
  | [], zs, h => by simp only [zcs, Option.some.injEq] at h; subst h; rfl
  | a :: l, zs, h => by
    unfold zcs at h
    split at h
    · rename_i heq; cases heq
    · rename_i v r heq
      injection heq with e1 e2; subst e1; subst e2
      cases hr : zcs l with
      | none => rw [hr] at h; cases h
      | some ys =>
        rw [hr] at h
        simp only [Option.map_some, Option.some.injEq] at h
        subst h
        rw [List.all_cons, zcs_all hr]; rfl
    · cases h
theorem zev_spec (hS : ∀ t, ZR w (S t) (s t)) {x : Opd} {z : ZV} (h : zev S x = some z) : ZR w z (x.ev s) := by
  unfold zev at h
  split at h
  · injection h with h; subst h; exact hS _
  · injection h with h; subst h; exact .fr (.val _)
  · injection h with h; subst h; exact .fr (.func _)
  · rename_i cs
    cases hc : zcs cs with
    | none => rw [hc] at h; cases h
    | some zs =>
      rw [hc] at h
      simp only [Option.map_some, Option.some.injEq] at h
      subst h
      exact (zcs_spec hc).toAgg
  · injection h with h; subst h; exact ZRs.nil.toTuple
  · cases h
theorem zevs_spec (hS : ∀ t, ZR w (S t) (s t)) : ∀ {l : List Opd} {zs : List ZV}, zevs S l = some zs → ZRs w zs (l.map (·.ev s))
  | [], zs, h => by simp only [zevs, Option.some.injEq] at h; subst h; exact .nil
  | x :: l, zs, h => by
    unfold zevs at h
    split at h
    · rename_i z ys h1 h2
      injection h with h; subst h
      exact .cons (zev_spec hS h1) (zevs_spec hS h2)
    · cases h
theorem setAt_spec {cs vs : List ZV} {ys bs : List AV} (h : ZRs w cs ys) (h' : ZRs w vs bs) (o : Nat) : ZRs w (setAt cs o vs) (ys.take o ++ bs ++ ys.drop (o + bs.length)) := by
  unfold setAt
  rw [← h'.1]
  exact ((h.take o).append h').append (h.drop _)
theorem setAt_length {cs vs : List ZV} {o : Nat} (h : o + vs.length ≤ cs.length) : (setAt cs o vs).length = cs.length := by unfold setAt; simp; omega
theorem fillZ_spec : ∀ {qs : List (Nat × Nat × ZV)} {ps : List (Nat × Nat × AV)} {zs cs : List ZV} {ys : List AV}, ZRs w zs ys → qs.length = ps.length → (∀ (i : Nat) q p, qs[i]? = some q → ps[i]? = some p → q.1 = p.1 ∧ q.2.1 = p.2.1 ∧ ZR w q.2.2 p.2.2) → fillZ zs qs = some cs → ∃ bs, fillA ys ps = some bs ∧ ZRs w cs bs
  | [], [], zs, cs, ys, h, _, _, hf => by simp only [fillZ, Option.some.injEq] at hf; subst hf; exact ⟨ys, rfl, h⟩
  | [], _ :: _, _, _, _, _, hl, _, _ => by simp at hl
  | _ :: _, [], _, _, _, _, hl, _, _ => by simp at hl
  | (o, n, v) :: qs, (o', n', a) :: ps, zs, cs, ys, h, hl, hq, hf => by
    obtain ⟨e1, e2, e3⟩ := hq 0 _ _ rfl rfl
    dsimp only at e1 e2 e3
    subst e1; subst e2
    simp only [fillZ] at hf
    split at hf
    · rename_i hc
      have hcell := e3.cells
      have hset := setAt_spec h hcell o
      have hlen : a.cells.length = n := by rw [← hcell.1]; exact hc.1
      rw [hlen] at hset
      obtain ⟨bs, hb, hr⟩ := fillZ_spec (ps := ps) hset (by simpa using hl) (fun i q p h1 h2 => hq (i + 1) q p (by simpa using h1) (by simpa using h2)) hf
      refine ⟨bs, ?_, hr⟩
      simp only [fillA]
      rw [if_pos ⟨hlen, by rw [← h.1]; exact hc.2.1, by rw [← hcell.allCell]; exact hc.2.2⟩]
      exact hb
    · cases hf
theorem zparts_spec (hS : ∀ t, ZR w (S t) (s t)) : ∀ {ps : List (Nat × Nat × Opd)} {qs : List (Nat × Nat × ZV)}, zparts S ps = some qs → qs.length = (ps.map fun p => (p.1, p.2.1, p.2.2.ev s)).length ∧ ∀ (i : Nat) q p, qs[i]? = some q → (ps.map fun p => (p.1, p.2.1, p.2.2.ev s))[i]? = some p → q.1 = p.1 ∧ q.2.1 = p.2.1 ∧ ZR w q.2.2 p.2.2
  | [], qs, h => by simp only [zparts, Option.some.injEq] at h; subst h; exact ⟨rfl, fun i q p h1 => by simp at h1⟩
  | (o, n, x) :: ps, qs, h => by
    unfold zparts at h
    split at h
    · rename_i z l h1 h2
      injection h with h; subst h
      obtain ⟨i1, i2⟩ := zparts_spec hS h2
      refine ⟨by simpa using i1, fun i q p hq hp => ?_⟩
      cases i with
      | zero => simp at hq hp; subst hq; subst hp; exact ⟨rfl, rfl, zev_spec hS h1⟩
      | succ i => exact i2 i q p (by simpa using hq) (by simpa using hp)
    · cases h
theorem partZ_spec {cs : List ZV} {ys : List AV} (h : ZRs w cs ys) {o : Nat} {n : Option Nat} {z : ZV} (hp : partZ cs o n = some z) : ∃ a, partA ys o n = some a ∧ ZR w z a := by
  cases n with
  | none => exact h.get hp
  | some n =>
    simp only [partZ] at hp
    split at hp
    · rename_i hl
      injection hp with hp; subst hp
      exact ⟨_, by simp only [partA]; rw [if_pos (by rw [← h.1]; exact hl)], ((h.drop o).take n).toAgg⟩
    · cases hp
theorem natZ_spec {z : ZV} {a : AV} (h : ZR w z a) {n : Nat} (hn : natZ z = some n) : natOfA a = some n := by
  unfold natZ at hn
  split at hn
  · rename_i k m
    rw [h.val_inv]
    simp only [natOfA, intOfA]
    exact hn
  · cases hn
theorem sameZ_spec : ∀ {ks : List Nat} {x y : List ZV} {x' y' : List AV}, ZRs w x x' → ZRs w y y' → ∀ {t}, sameZ ks x y = some t → sameCells ks x' y' = some t := by
  intro ks x y
  induction ks generalizing x y with
  | nil =>
    intro x' y' hx hy t h
    match x, y, h with
    | [], [], h =>
      have e1 : x' = [] := List.eq_nil_of_length_eq_zero (by simpa using hx.1.symm)
      have e2 : y' = [] := List.eq_nil_of_length_eq_zero (by simpa using hy.1.symm)
      subst e1; subst e2; exact h
  | cons k ks ih =>
    intro x' y' hx hy t h
    match x, y, h with
    | .val a :: x, .val b :: y, h =>
      match x', y', hx, hy with
      | [], _, hx, _ => have := hx.1; simp at this
      | _ :: _, [], _, hy => have := hy.1; simp at this
      | a' :: x', b' :: y', hx, hy =>
        have e1 := (hx.2 0 _ _ rfl rfl).val_inv
        have e2 := (hy.2 0 _ _ rfl rfl).val_inv
        subst e1; subst e2
        simp only [sameZ, sameCells] at h ⊢
        cases h1 : sameV k a b with
        | none => rw [h1] at h; cases h
        | some t1 =>
          cases h2 : sameZ ks x y with
          | none => rw [h1, h2] at h; cases h
          | some t2 =>
            rw [ih (x := x) (y := y) ⟨by simpa using hx.1, fun i x y h1 h2 => hx.2 (i + 1) x y (by simpa using h1) (by simpa using h2)⟩ ⟨by simpa using hy.1, fun i x y h1 h2 => hy.2 (i + 1) x y (by simpa using h1) (by simpa using h2)⟩ h2]
            rw [h1, h2] at h; exact h
theorem bestZ_spec {mx : Bool} : ∀ {zs : List ZV} {z v : ZV} {a : AV} {ys : List AV}, ZR w z a → ZRs w zs ys → bestZ mx z zs = some v → ∃ b, bestA mx a ys = some b ∧ ZR w v b
  | [], z, v, a, ys, h, hs, hb => by
    have e : ys = [] := List.eq_nil_of_length_eq_zero (by simpa using hs.1.symm)
    subst e
    have e1 : bestZ mx z [] = some z := by cases z <;> rfl
    have e2 : bestA mx a [] = some a := by cases a <;> rfl
    rw [e1] at hb; injection hb with hb; subst hb
    exact ⟨a, e2, h⟩
  | y :: zs, z, v, a, ys, h, hs, hb => by
    unfold bestZ at hb
    split at hb
    · rename_i heq; cases heq
    · rename_i k n k' p r heq
      injection heq with e1 e2; subst e1; subst e2
      match ys, hs with
      | [], hs => have := hs.1; simp at this
      | b :: ys, hs =>
        have e1 := h.val_inv
        have e2 := (hs.2 0 _ _ rfl rfl).val_inv
        subst e1; subst e2
        simp only [bestA]
        exact bestZ_spec (.fr (.val _)) ⟨by simpa using hs.1, fun i x y h1 h2 => hs.2 (i + 1) x y (by simpa using h1) (by simpa using h2)⟩ hb
    · cases hb

/-! ### Rows -/
theorem zflat_len {k : Nat} : ∀ {rows : List (List ZV)}, (∀ r ∈ rows, r.length = k) → rows.flatten.length = rows.length * k
  | [], _ => by simp
  | r :: rows, h => by
    rw [List.flatten_cons, List.length_append, h r (by simp), zflat_len (rows := rows) (fun x hx => h x (by simp [hx])), List.length_cons, Nat.add_mul]; omega
theorem zflat_drop {k : Nat} : ∀ {rows : List (List ZV)}, (∀ r ∈ rows, r.length = k) → ∀ j, rows.flatten.drop (j * k) = (rows.drop j).flatten
  | [], _, j => by simp
  | r :: rows, h, 0 => by simp
  | r :: rows, h, j + 1 => by
    have hr := h r (by simp)
    rw [List.flatten_cons, Nat.add_mul, Nat.one_mul, Nat.add_comm, ← hr, List.drop_append, Nat.add_sub_cancel_left, List.drop_of_length_le (by omega), List.nil_append, List.drop_succ_cons, hr]
    exact zflat_drop (fun x hx => h x (by simp [hx])) j
theorem zflat_take {k : Nat} : ∀ {rows : List (List ZV)}, (∀ r ∈ rows, r.length = k) → ∀ j, rows.flatten.take (j * k) = (rows.take j).flatten
  | [], _, j => by simp
  | r :: rows, h, 0 => by simp
  | r :: rows, h, j + 1 => by
    have hr := h r (by simp)
    rw [List.take_succ_cons, List.flatten_cons, List.flatten_cons, ← zflat_take (fun x hx => h x (by simp [hx])) j, Nat.add_mul, Nat.one_mul, Nat.add_comm, List.take_append, hr, Nat.add_sub_cancel_left, List.take_of_length_le (by omega)]
theorem zflat_at {k : Nat} {rows : List (List ZV)} (h : ∀ r ∈ rows, r.length = k) {j : Nat} {r : List ZV} (hr : rows[j]? = some r) : (rows.flatten.drop (j * k)).take k = r := by
  have hj : j < rows.length := (List.getElem?_eq_some_iff.1 hr).1
  have e : rows[j] = r := (List.getElem?_eq_some_iff.1 hr).2
  rw [zflat_drop h, List.drop_eq_getElem_cons hj, e, List.flatten_cons, List.take_append_of_le_length (by rw [h r (e ▸ List.getElem_mem hj)]; omega), List.take_of_length_le (by rw [h r (e ▸ List.getElem_mem hj)]; omega)]
theorem FR.rows {Fr : Nat → Prop} {h : Heap} {k : Nat} {ex : Bool} {rows : List (List ZV)} {a : AV} (hr : FR Fr h (.fz k ex rows) a) :
    (rows = [] ∧ (a = .nil ∨ (a = .hole ∧ ex = false))) ∨ ∃ id off lb ex' row, a = .slice id off rows.length lb ex' k ∧ Fr id ∧ blk h id = some row ∧ off + rows.length * k ≤ row.length ∧ rows.length ≤ lb ∧ (ex = true → ex' = true ∧ lb = rows.length) ∧ (∀ r ∈ rows, r.length = k) ∧
      ∀ i z, rows.flatten[i]? = some z → ∃ c, row[off + i]? = some c ∧ FR Fr h z c := by
  cases hr with
  | fnil e => exact .inl ⟨rfl, e⟩
  | fz cell q1 q2 q3 q4 q5 q6 q7 q8 => exact .inr ⟨_, _, _, _, _, rfl, q1, q2, q3, q4, q5, q6, fun i z hz => ⟨_, q7 i z hz, q8 i z hz⟩⟩
theorem FR.ofRows {Fr : Nat → Prop} {h : Heap} {k : Nat} {ex : Bool} {rows : List (List ZV)} {id off lb : Nat} {ex' : Bool} {row : List AV} (q1 : Fr id) (q2 : blk h id = some row) (q3 : off + rows.length * k ≤ row.length) (q4 : rows.length ≤ lb) (q5 : ex = true → ex' = true ∧ lb = rows.length) (q6 : ∀ r ∈ rows, r.length = k)
    (q7 : ∀ i z, rows.flatten[i]? = some z → ∃ c, row[off + i]? = some c ∧ FR Fr h z c) : FR Fr h (.fz k ex rows) (.slice id off rows.length lb ex' k) := by
  refine .fz (row := row) (fun i => row.getD (off + i) .no) q1 q2 q3 q4 q5 q6 (fun i z hz => ?_) (fun i z hz => ?_)
  · obtain ⟨c, h1, _⟩ := q7 i z hz
    rw [h1, List.getD_eq_getElem?_getD, h1]; rfl
  · obtain ⟨c, h1, h2⟩ := q7 i z hz
    rw [List.getD_eq_getElem?_getD, h1]; exact h2
theorem ZRs.ofFlat {rows : List (List ZV)} {row : List AV} {off k : Nat} (h0 : ∀ r ∈ rows, r.length = k) (h1 : off + rows.length * k ≤ row.length) (h2 : ∀ i z, rows.flatten[i]? = some z → ∃ c, row[off + i]? = some c ∧ ZR w z c) : ZRs w rows.flatten ((row.drop off).take (rows.length * k)) := by
  refine ⟨by rw [zflat_len h0, List.length_take, List.length_drop]; omega, fun i z a hz ha => ?_⟩
  obtain ⟨c, h3, h4⟩ := h2 i z hz
  rw [List.getElem?_take] at ha
  split at ha
  · rw [List.getElem?_drop, h3] at ha
    injection ha with ha; subst ha; exact h4
  · cases ha
/-- What a slice has. -/
theorem rows_spec (r : ZRel fl L w) {z : ZV} {a : AV} (hz : ZR w z a) {k : Nat} {rows : List (List ZV)} (hr : rowsZ w.H k z = some rows) : ∃ cells, rowOf w.h k a = some (rows.length, cells) ∧ ZRs w rows.flatten cells ∧ ∀ x ∈ rows, x.length = k := by
  unfold rowsZ at hr
  split at hr
  · injection hr with hr; subst hr
    rw [hz.val_inv]
    exact ⟨[], rfl, .nil, by simp⟩
  · split at hr
    · rename_i k' ex rows' hk
      injection hr with hr; subst hr; subst hk
      rcases hz.fz_inv.rows with ⟨rfl, e⟩ | ⟨id, off, lb, ex', row, rfl, q1, q2, q3, q4, q5, q6, q7⟩
      · rcases e with rfl | ⟨rfl, _⟩ <;> exact ⟨[], rfl, .nil, by simp⟩
      · refine ⟨_, by simp only [rowOf, rd, q2]; rw [if_pos q3], .ofFlat q6 q3 (fun i z hz => ?_), q6⟩
        obtain ⟨c, h1, h2⟩ := q7 i z hz
        exact ⟨c, h1, .fr h2⟩
    · cases hr
  · rename_i i g off len ex
    split at hr
    · rename_i g' k' rows' hb
      split at hr
      · rename_i hc
        obtain ⟨rfl, rfl, hle⟩ := hc
        injection hr with hr
        obtain ⟨g0, gB⟩ := r.grow _ _ _ _ hb
        have hall : ∀ x ∈ rows, x.length = k' := fun x hx => g0 x (by subst hr; exact List.mem_of_mem_drop (List.mem_of_mem_take hx))
        have hlen : rows.length = len := by subst hr; simp; omega
        cases hz with
        | fr hf => cases hf
        | own h1 h2 h3 h4 =>
          rcases (h2 _ _ _ hb).2 rfl with ⟨_, q2, q3, q4, q5⟩ | ⟨id, b, lb, ex', row, q1, q2, q3, q4, q5, q6, q7⟩
          · subst q2; subst q3; subst q4
            simp at hr; subst hr
            rcases q5 with rfl | ⟨id, o, row, rfl, s1, s2, s3⟩
            · exact ⟨[], rfl, .nil, by simp⟩
            · exact ⟨[], by simp [rowOf, rd, s2, s3], .nil, by simp⟩
          · subst q2
            have hm : len * k' ≤ lb * k' := Nat.mul_le_mul_right _ q4
            refine ⟨(row.drop (b + off * k')).take (len * k'), by simp only [rowOf, rd, q5]; rw [if_pos (by omega), hlen], ?_, hall⟩
            rcases gB with ⟨m1, m2⟩ | ⟨id', b', row', m1, m2, m3, m4⟩
            · subst m2; simp at hr q3; subst hr
              have : len = 0 := by omega
              subst this; simp; exact .nil
            · rw [q1] at m1
              injection m1 with m1; injection m1 with e1 e2; subst e1; subst e2
              rw [q5] at m2; injection m2 with m2; subst m2
              have := (m4.drop (off * k')).take (len * k')
              have hm2 : (off + len) * k' ≤ rows'.length * k' := Nat.mul_le_mul_right _ hle
              rw [Nat.add_mul] at hm2
              rw [zflat_drop g0, zflat_take (fun x hx => g0 x (List.mem_of_mem_drop hx)), hr, List.drop_take, List.drop_drop, List.take_take, Nat.min_eq_left (by omega)] at this
              exact this
      · cases hr
    · cases hr
  · cases hr
end Go.Proofs.Ytpmmiaadfnildaa
