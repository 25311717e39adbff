/-
  ZM: slices that are only read.
-/
import Derived.Test.YtpmmiaadfnildaaZmN
namespace Go.Proofs.Ytpmmiaadfnildaa
open Go Go.RowKit
set_option linter.unusedVariables false
set_option linter.unusedSimpArgs false
variable {H : ZH} {k : Nat} {z : ZV} {rows : List (List ZV)}
theorem rows_ext (h : rowsZ H k z = some rows) (e : ZH) : rowsZ (H ++ e) k z = some rows := by
  unfold rowsZ at h ⊢
  split
  · exact h
  · exact h
  · rename_i i g off len ex
    simp only at h
    split at h
    · rename_i g' k' rows' hb
      rw [H_app hb e]; exact h
    · cases h
  · rename_i h1 h2 h3
    split at h
    · exact absurd rfl h1
    · exact absurd rfl (h2 _ _ _)
    · exact absurd rfl (h3 _ _ _ _ _)
    · exact h
theorem rows_len (h : rowsZ H k z = some rows) : lenZ H z = some rows.length := by
  unfold rowsZ at h
  split at h
  · injection h with h; subst h; rfl
  · split at h
    · injection h with h; subst h; rfl
    · cases h
  · split at h
    · rename_i g' k' rows' hb
      split at h
      · rename_i hc
        obtain ⟨rfl, rfl, hle⟩ := hc
        injection h with h
        refine len_own.2 ⟨_, _, hb, ?_⟩
        rw [← h, List.length_take, List.length_drop]; omega
      · cases h
    · cases h
  · cases h
theorem rows_cell (h : rowsZ H k z = some rows) : z.isCell = true := by
  unfold rowsZ at h
  split at h <;> first | rfl | (cases h)
/-- An element's address, and what is there. -/
theorem rows_elem (h : rowsZ H k z = some rows) {j : Nat} (hj : j < rows.length) : ∃ p, elemZ H k j z = some p ∧ ∀ n v, ldZ H n p = some v ↔ partZ rows[j] 0 n = some v := by
  unfold rowsZ at h
  split at h
  · injection h with h; subst h; simp at hj
  · split at h
    · rename_i k' ex rows' hk
      injection h with h; subst h; subst hk
      refine ⟨_, elem_fz.2 ⟨hj, rfl⟩, fun n v => ?_⟩
      rw [ld_fptr]
      simp [hj]
    · cases h
  · rename_i i g off len ex
    split at h
    · rename_i g' k' rows' hb
      split at h
      · rename_i hc
        obtain ⟨rfl, rfl, hle⟩ := hc
        injection h with h; subst h
        have hjl : j < len := by rw [List.length_take] at hj; omega
        refine ⟨_, elem_own.2 ⟨rows', hb, hle, hjl, rfl⟩, fun n v => ?_⟩
        rw [ld_eptr]
        have hlt : off + j < rows'.length := by omega
        constructor
        · rintro ⟨k2, rows2, r, h1, h2, h3⟩
          rw [hb] at h1; injection h1 with h1; injection h1 with _ _ h1; subst h1
          rw [List.getElem?_eq_getElem hlt] at h2; injection h2 with h2
          simp only [List.getElem_take, List.getElem_drop]
          rw [h2]; exact h3
        · intro h3
          simp only [List.getElem_take, List.getElem_drop] at h3
          exact ⟨_, _, _, hb, List.getElem?_eq_getElem hlt, h3⟩
      · cases h
    · cases h
  · cases h
/-- The same of a list's coded elements. -/
theorem rows_at {α : Type} {f : α → List ZV} {l : List α} (h : rowsZ H k z = some (l.map f)) {j : Nat} (hj : j < l.length) : ∃ p, elemZ H k j z = some p ∧ ∀ n, ldZ H n p = partZ (f l[j]) 0 n := by
  obtain ⟨p, h1, h2⟩ := rows_elem h (j := j) (by simpa using hj)
  refine ⟨p, h1, fun n => ?_⟩
  simp only [List.getElem_map] at h2
  cases hp : partZ (f l[j]) 0 n with
  | some v => exact (h2 n v).2 hp
  | none =>
    cases hl : ldZ H n p with
    | none => rfl
    | some v => have := (h2 n v).1 hl; rw [hp] at this; cases this
/-- What slots are known to hold. -/
def SlK : List (Nat × ZV) → ZS → Prop
  | [], _ => True
  | p :: r, s => s p.1 = p.2 ∧ SlK r s
theorem SlK.keep {s s' : ZS} : ∀ {l : List (Nat × ZV)}, (∀ p ∈ l, s' p.1 = s p.1) → SlK l s → SlK l s'
  | [], _, _ => trivial
  | p :: r, h, hk => ⟨(h p (by simp)).trans hk.1, SlK.keep (fun q hq => h q (by simp [hq])) hk.2⟩
section
variable {L : Nat → Bool} {S : ZS} {X : CallT} {F : FuncId → Option AFunc} {G : Gh}
theorem zW_forK {B Cn tc ti tl tn : Nat} {body : ACode} {K : AExit → ZS → ZH → Prop} (kp : List (Nat × ZV)) (N : Nat) (I : Nat → ZS → ZH → Prop) (hN : N < 9223372036854775807) (hG : G.own.lookup tc = none ∧ G.own.lookup tn = none ∧ G.own.lookup ti = none ∧ G.frz.contains tc = false ∧ G.frz.contains tn = false ∧ G.frz.contains ti = false) (hti : S ti = Z64 (0 : Nat)) (htl : S tl = Z64 N) (hkp : SlK kp S) (hq : ((tl :: kp.map Prod.fst).all fun t => !(wrs body ++ [tc, ti, tn]).contains t) = true) (h2 : (wrs body).contains ti = false) (h3 : tc ≠ ti ∧ tc ≠ tl ∧ tn ≠ ti ∧ tn ≠ tl ∧ ti ≠ tl)
    (h0 : I 0 S H)
    (round : ∀ k s' h', k < N → I k s' h' → s' ti = Z64 k → s' tl = Z64 N → SlK kp s' →
      zW X F G L body (zupd s' tc (ZBo true)) h' (zinBlk Cn (zthen (fun s2 h2 => I (k + 1) (zupd (zupd s2 tn (Z64 (k + 1 : Nat))) ti (Z64 (k + 1 : Nat))) h2) (zinBlk B K))))
    (done : ∀ s' h', I N s' h' → SlK kp s' → K .normal (zupd s' tc (ZBo false)) h') : zW X F G L (rangeCode B Cn tc ti tl tn body) S H K := by
  have hq' : ∀ t ∈ tl :: kp.map Prod.fst, (wrs body ++ [tc, ti, tn]).contains t = false := fun t ht => by simpa using List.all_eq_true.1 hq t ht
  have h1 : (wrs body).contains tl = false := by
    have := hq' tl (by simp)
    cases hc : (wrs body).contains tl with
    | false => rfl
    | true => rw [List.contains_iff_mem.2 (List.mem_append_left _ (List.contains_iff_mem.1 hc))] at this; cases this
  have keep : ∀ s', (∀ t, (wrs body ++ [tc, ti, tn]).contains t = false → s' t = S t) → SlK kp s' := fun s' h => SlK.keep (fun p hp => h p.1 (hq' p.1 (List.mem_cons_of_mem _ (List.mem_map_of_mem hp)))) hkp
  exact zW_for N hN hG hti htl h1 h2 h3 I h0 (fun k s' h' a b c d e => round k s' h' a b c d (keep s' e)) fun s' h' a b => done s' h' a (keep s' b)
theorem zW_whileK {c : ACode} {K : AExit → ZS → ZH → Prop} (kp : List (Nat × ZV)) (n0 : Nat) (I : Nat → ZS → ZH → Prop) (hkp : SlK kp S) (hq : ((kp.map Prod.fst).all fun t => !(wrs c).contains t) = true) (h0 : I n0 S H) (round : ∀ n s' h', I n s' h' → SlK kp s' → zW X F G L c s' h' (zthen (fun S2 H2 => ∃ m, m < n ∧ I m S2 H2) K)) : zW X F G L (.loop c) S H K := by
  refine zW_while I n0 h0 fun n s' h' hI hs => round n s' h' hI (SlK.keep (fun p hp => hs p.1 fun hm => ?_) hkp)
  have := List.all_eq_true.1 hq p.1 (List.mem_map_of_mem hp)
  rw [List.contains_iff_mem.2 hm] at this; cases this
end
/-- Coded whole numbers, bits. -/
abbrev eI (n : Int) : List ZV := [Z64 n]
abbrev eB (b : Bool) : List ZV := [ZBo b]
abbrev zI (l : List Int) : ZV := .fz 1 false (l.map eI)
theorem take_map_all {α β : Type} {f : α → β} {l : List α} : (l.map f).take l.length = l.map f := List.take_of_length_le (by simp)
theorem take_map_app {α β : Type} {f : α → β} {l : List α} {r : List β} {n : Nat} (h : r.length = n) : (l.map f ++ r).take (l.length + n) = l.map f ++ r := List.take_of_length_le (by simp [h])
theorem rows_whole {i g : Nat} {ex : Bool} {rows : List (List ZV)} {n : Nat} (h : H[i]? = some (.grow g k rows)) (hn : rows.length = n) : rowsZ H k (.own i g 0 n ex) = some rows := by
  rw [rows_own]
  exact ⟨rows, h, by omega, by rw [List.drop_zero, List.take_of_length_le (by omega)]⟩
/-- Appending to nil, or to what is one's own. -/
theorem app_nil' {L : Nat → Bool} {bytes : Nat} {new : List (List ZV)} (h : new.length * bytes ≤ reach) : appZ L H k bytes new .nil = some (.own H.length 0 0 new.length false, H ++ [.grow 0 k new]) := by rw [app_nil]; exact ⟨h, rfl, rfl⟩
end Go.Proofs.Ytpmmiaadfnildaa
