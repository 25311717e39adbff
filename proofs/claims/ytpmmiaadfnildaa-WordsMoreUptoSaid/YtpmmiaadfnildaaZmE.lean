/-
  ZM: loads, stores, appending.
-/
import Derived.Test.YtpmmiaadfnildaaZmD
namespace Go.Proofs.Ytpmmiaadfnildaa
open Go Go.RowKit
set_option linter.unusedVariables false
set_option linter.unusedSimpArgs false
variable {fl L : Nat → Bool} {w : Wd} {S : ZS} {s : Slots}

theorem zsplice_get {α : Type} {x bs : List α} {o : Nat} (h : o + bs.length ≤ x.length) (i : Nat) : (x.take o ++ bs ++ x.drop (o + bs.length))[i]? = if i < o then x[i]? else if i < o + bs.length then bs[i - o]? else x[i]? := by
  have hl : (x.take o).length = o := by rw [List.length_take]; omega
  by_cases h1 : i < o
  · rw [if_pos h1, List.append_assoc, List.getElem?_append_left (by omega), List.getElem?_take, if_pos h1]
  · rw [if_neg h1]
    by_cases h2 : i < o + bs.length
    · rw [if_pos h2, List.getElem?_append_left (by rw [List.length_append]; omega), List.getElem?_append_right (by omega), hl]
    · rw [if_neg h2, List.getElem?_append_right (by rw [List.length_append]; omega), List.length_append, hl, List.getElem?_drop]
      congr 1; omega
theorem zsplice_len {α : Type} {x bs : List α} {o : Nat} (h : o + bs.length ≤ x.length) : (x.take o ++ bs ++ x.drop (o + bs.length)).length = x.length := by simp; omega
/-- A part of what was changed. -/
theorem zsplice_seg {α : Type} {x bs : List α} {o b m : Nat} (h1 : b ≤ o) (h2 : o + bs.length ≤ b + m) (h3 : b + m ≤ x.length) :
    ((x.take o ++ bs ++ x.drop (o + bs.length)).drop b).take m = (((x.drop b).take m).take (o - b) ++ bs ++ ((x.drop b).take m).drop (o - b + bs.length)) := by
  apply List.ext_getElem?
  intro i
  have hlm : ((x.drop b).take m).length = m := by rw [List.length_take, List.length_drop]; omega
  rw [zsplice_get (by rw [hlm]; omega)]
  by_cases hi : i < m
  · rw [List.getElem?_take, if_pos hi, List.getElem?_drop, zsplice_get (by omega)]
    by_cases q1 : b + i < o
    · rw [if_pos q1, if_pos (show i < o - b by omega), List.getElem?_take, if_pos hi, List.getElem?_drop]
    · rw [if_neg q1, if_neg (show ¬ i < o - b by omega)]
      by_cases q2 : b + i < o + bs.length
      · rw [if_pos q2, if_pos (show i < o - b + bs.length by omega)]; congr 1; omega
      · rw [if_neg q2, if_neg (show ¬ i < o - b + bs.length by omega), List.getElem?_take, if_pos hi, List.getElem?_drop]
  · rw [List.getElem?_take, if_neg hi, if_neg (show ¬ i < o - b by omega), if_neg (show ¬ i < o - b + bs.length by omega), List.getElem?_take, if_neg hi]
theorem zsplice_app {α : Type} {a x bs : List α} {o : Nat} (h : o + bs.length ≤ x.length) : a ++ (x.take o ++ bs ++ x.drop (o + bs.length)) = ((a ++ x).take (a.length + o) ++ bs ++ (a ++ x).drop (a.length + o + bs.length)) := by
  rw [List.take_length_add_append, show a.length + o + bs.length = a.length + (o + bs.length) by omega, List.drop_length_add_append]
  simp [List.append_assoc]
theorem zflat_set {k o : Nat} {vs : List ZV} : ∀ {rows : List (List ZV)} {e : Nat} {r : List ZV}, (∀ r ∈ rows, r.length = k) → rows[e]? = some r → o + vs.length ≤ k → (rows.set e (setAt r o vs)).flatten = setAt rows.flatten (e * k + o) vs
  | [], e, r, _, he, _ => by simp at he
  | r0 :: rows, 0, r, hk, he, ho => by
    simp at he; subst he
    have hr := hk r0 (by simp)
    simp only [List.set_cons_zero, List.flatten_cons, setAt, Nat.zero_mul, Nat.zero_add]
    rw [List.take_append_of_le_length (by omega), List.drop_append_of_le_length (by omega)]
    simp [List.append_assoc]
  | r0 :: rows, e + 1, r, hk, he, ho => by
    simp at he
    have hr := hk r0 (by simp)
    have hk' : ∀ x ∈ rows, x.length = k := fun x hx => hk x (by simp [hx])
    have hlt : e < rows.length := (List.getElem?_eq_some_iff.1 he).1
    have hm : (e + 1) * k ≤ rows.length * k := Nat.mul_le_mul_right _ hlt
    rw [Nat.add_mul] at hm
    rw [List.set_cons_succ, List.flatten_cons, zflat_set hk' he ho, List.flatten_cons]
    unfold setAt
    rw [zsplice_app (by rw [zflat_len hk']; omega), hr]
    rw [show k + (e * k + o) = (e + 1) * k + o by rw [Nat.add_mul]; omega]

/-! ### Loads -/
theorem ldA_seg {h : Heap} {id x k o : Nat} {row : List AV} (hb : blk h id = some row) (hx : x + k ≤ row.length) {n : Option Nat} {u : AV} (hp : partA ((row.drop x).take k) o n = some u) : ldA h id (x + o) n = some u := by
  have hl : ((row.drop x).take k).length = k := by rw [List.length_take, List.length_drop]; omega
  cases n with
  | none =>
    simp only [partA] at hp
    rw [List.getElem?_take] at hp
    split at hp
    · rw [List.getElem?_drop] at hp
      simp only [ldA, rd1, hb]; exact hp
    · cases hp
  | some n =>
    simp only [partA, hl] at hp
    split at hp
    · rename_i ho
      injection hp with hp; subst hp
      simp only [ldA, rd, hb]
      rw [if_pos (by omega)]
      simp only [Option.some.injEq, AV.agg.injEq]
      rw [List.drop_take, List.drop_drop, List.take_take, Nat.min_eq_left (by omega)]
    · cases hp
theorem seg_spec {k b e N : Nat} {row : List AV} {rows : List (List ZV)} (hk : ∀ r ∈ rows, r.length = k) (hN : N = rows.length) (hb : b + N * k ≤ row.length) (hr : ZRs w rows.flatten ((row.drop b).take (N * k))) {r : List ZV} (he : rows[e]? = some r) :
    ZRs w r ((row.drop (b + e * k)).take k) ∧ b + e * k + k ≤ row.length := by
  subst hN
  have hlt : e < rows.length := (List.getElem?_eq_some_iff.1 he).1
  have hm : (e + 1) * k ≤ rows.length * k := Nat.mul_le_mul_right _ hlt
  rw [Nat.add_mul] at hm
  have := (hr.drop (e * k)).take k
  rw [zflat_at hk he, List.drop_take, List.drop_drop, List.take_take, Nat.min_eq_left (by omega)] at this
  exact ⟨this, by omega⟩
theorem ld_spec (r : ZRel fl L w) {z v : ZV} {a : AV} (hz : ZR w z a) {n : Option Nat} (hv : ldZ w.H n z = some v) : ∃ id off u, a = .ptr id off ∧ ldA w.h id off n = some u ∧ ZR w v u := by
  unfold ldZ at hv
  split at hv
  · rename_i i o
    split at hv
    · rename_i cs hb
      obtain ⟨id, cs', rfl, h1, h2⟩ := hz.ptr_inv
      obtain ⟨id', row, h3, h4, h5⟩ := r.box i cs hb
      rw [h2] at h3; injection h3 with h3; injection h3 with h3; subst h3
      obtain ⟨u, h6, h7⟩ := partZ_spec h5 hv
      refine ⟨id, o, u, rfl, ?_, h7⟩
      have := ldA_seg (x := 0) (k := row.length) (o := o) (n := n) h4 (by omega) (u := u) (by rw [List.drop_zero, List.take_of_length_le (Nat.le_refl _)]; exact h6)
      rwa [Nat.zero_add] at this
    · cases hv
  · rename_i i g e o
    split at hv
    · rename_i g' k rows hb
      split at hv
      · rename_i hg
        subst hg
        split at hv
        · rename_i rr hrr
          cases hz with
          | fr hf => cases hf
          | eptr h1 h2 h3 =>
            obtain ⟨b, q1, q2, q3⟩ := (h2 _ _ _ hb).2 rfl
            subst q2
            obtain ⟨g0, ⟨m1, _⟩ | ⟨id', b', row, m1, m2, m3, m4⟩⟩ := r.grow _ _ _ _ hb
            · rw [q1] at m1; cases m1
            · rw [q1] at m1; injection m1 with m1; injection m1 with e1 e2; subst e1; subst e2
              obtain ⟨s1, s2⟩ := seg_spec g0 rfl m3 m4 hrr
              obtain ⟨u, h6, h7⟩ := partZ_spec s1 hv
              exact ⟨_, _, u, rfl, ldA_seg m2 s2 h6, h7⟩
        · cases hv
      · cases hv
    · cases hv
  · rename_i k rows j o
    split at hv
    · rename_i rr hrr
      cases hz with
      | fr hf => cases hf
      | fptr h1 h2 =>
        rcases h1.rows with ⟨_, e⟩ | ⟨id, off, lb, ex', row, e, q1, q2, q3, q4, q5, q6, q7⟩
        · rcases e with e | ⟨e, _⟩ <;> cases e
        · injection e with e1 e2 e3 e4 e5
          subst e1; subst e2
          obtain ⟨s1, s2⟩ := seg_spec q6 rfl q3 (.ofFlat q6 q3 fun i z hz => by obtain ⟨c, t1, t2⟩ := q7 i z hz; exact ⟨c, t1, .fr t2⟩) hrr
          obtain ⟨u, h6, h7⟩ := partZ_spec s1 hv
          exact ⟨_, _, u, rfl, ldA_seg q2 s2 h6, h7⟩
    · cases hv
  · cases hv

/-! ### Stores -/
theorem lt_of_get {H : ZH} {i : Nat} {B : ZB} (h : H[i]? = some B) : i < H.length := (List.getElem?_eq_some_iff.1 h).1
theorem st_spec (r : ZRel fl L w) {p : ZV} {a : AV} (hp : ZR w p a) {vs : List ZV} {bs : List AV} (hv : ZRs w vs bs) {H' : ZH} (hs : stZ L w.H vs p = some H') :
    ∃ id off h' w', a = .ptr id off ∧ wr fl w.h id off bs = some h' ∧ w'.h = h' ∧ w'.H = H' ∧ ZRel fl L w' ∧ Ext w w' := by
  unfold stZ at hs
  split at hs
  · rename_i i o
    split at hs
    · rename_i cs hb
      split at hs
      · rename_i hc
        injection hs with hs; subst hs
        obtain ⟨id, cs', rfl, h1, h2⟩ := hp.ptr_inv
        obtain ⟨id', row, h3, h4, h5⟩ := r.box i cs hb
        rw [h2] at h3; injection h3 with h3; injection h3 with h3; subst h3
        have hlen : o + bs.length ≤ row.length := by rw [← hv.1, ← h5.1]; exact hc.2
        have hfl := r.wr i _ h2 hc.1
        have hid : id < w.h.length := (r.nfr i _ h2).2
        obtain ⟨w', e1, e2, e3, e4, e5⟩ := upd_blk r (lt_of_get hb) hc.1 (.box (setAt cs o vs)) (id, 0) (w.h.set id (some (row.take o ++ bs ++ row.drop (o + bs.length)))) _
          (fun j hj hne => blk_set_ne (hne _ h2)) (by simp) ⟨by simpa using hid, .inl ⟨_, h2, rfl⟩⟩ (blk_set_same hid)
          (.inl ⟨cs, _, hb, rfl, h2, fun w' e => setAt_spec (h5.ext e) (hv.ext e) o⟩)
        exact ⟨id, o, _, w', rfl, wr_of h4 hfl hlen, e1, e2, e4, e5⟩
      · cases hs
    · cases hs
  · rename_i i g e o
    split at hs
    · rename_i g' k rows hb
      split at hs
      · rename_i hg
        subst hg
        split at hs
        · rename_i rr hrr
          split at hs
          · rename_i hc
            injection hs with hs; subst hs
            cases hp with
            | fr hf => cases hf
            | eptr h1 h2 h3 =>
              obtain ⟨b, q1, q2, q3⟩ := (h2 _ _ _ hb).2 rfl
              subst q2
              obtain ⟨g0, ⟨m1, _⟩ | ⟨id', b', row, m1, m2, m3, m4⟩⟩ := r.grow _ _ _ _ hb
              · rw [q1] at m1; cases m1
              · rw [q1] at m1; injection m1 with m1; injection m1 with e1 e2; subst e1; subst e2
                have hrl := g0 rr (List.mem_of_getElem? hrr)
                obtain ⟨s1, s2⟩ := seg_spec g0 rfl m3 m4 hrr
                have hvl := hv.1
                rw [hrl] at hc
                have hfl := r.wr i _ q1 hc.1
                have hid := (r.nfr i _ q1).2
                have hm : (e + 1) * k ≤ rows.length * k := Nat.mul_le_mul_right _ q3
                rw [Nat.add_mul] at hm
                have hlen : b + e * k + o + bs.length ≤ row.length := by omega
                obtain ⟨w', e1, e2, e3, e4, e5⟩ := upd_blk r (lt_of_get hb) hc.1 (.grow g' k (rows.set e (setAt rr o vs))) _ (w.h.set _ (some (row.take (b + e * k + o) ++ bs ++ row.drop (b + e * k + o + bs.length)))) _
                  (fun j hj hne => blk_set_ne (hne _ q1)) (by simp) ⟨by simpa using hid, .inl ⟨_, q1, rfl⟩⟩ (blk_set_same hid)
                  (.inr ⟨g', k, rows, g', _, hb, rfl, fun x hx => by
                    rcases List.mem_or_eq_of_mem_set hx with hx | rfl
                    · exact g0 x hx
                    · rw [setAt_length (by rw [hrl]; exact hc.2)]; exact hrl, by
                      rw [zsplice_len hlen, List.length_set]; exact m3, fun w' e' => by
                      rw [zflat_set g0 hrr hc.2, List.length_set, zsplice_seg (by omega) (by omega) m3]
                      rw [show b + e * k + o - b = e * k + o by omega]
                      exact setAt_spec (m4.ext e') (hv.ext e') _, .inr ⟨rfl, q1, by simp, row, m2, zsplice_len hlen⟩⟩)
                exact ⟨_, _, _, w', rfl, wr_of m2 hfl hlen, e1, e2, e4, e5⟩
          · cases hs
        · cases hs
      · cases hs
    · cases hs
  · cases hs
end Go.Proofs.Ytpmmiaadfnildaa
