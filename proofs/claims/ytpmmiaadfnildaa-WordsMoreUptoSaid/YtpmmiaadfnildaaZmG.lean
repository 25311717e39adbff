/-
  ZM: one operation is sound.
-/
import Derived.Test.YtpmmiaadfnildaaZmF
namespace Go.Proofs.Ytpmmiaadfnildaa
open Go Go.RowKit
set_option linter.unusedVariables false
set_option linter.unusedSimpArgs false
variable {fl L : Nat → Bool} {w : Wd} {S : ZS} {s : Slots} {X : CallT} {F : FuncId → Option AFunc}

theorem len_spec (r : ZRel fl L w) {z : ZV} {a : AV} (hz : ZR w z a) {n : Nat} (hn : lenZ w.H z = some n) : lenA a = some n := by
  unfold lenZ at hn
  split at hn
  · injection hn with hn; subst hn; rw [hz.val_inv]; rfl
  · injection hn with hn; subst hn
    rcases hz.fz_inv.rows with ⟨rfl, rfl | ⟨rfl, _⟩⟩ | ⟨id, off, lb, ex', row, rfl, _⟩ <;> rfl
  · split at hn
    · rename_i g' k rows hb
      split at hn
      · rename_i hg
        subst hg
        injection hn with hn; subst hn
        cases hz with
        | fr hf => cases hf
        | own h1 h2 h3 h4 =>
          rcases (h2 _ _ _ hb).2 rfl with ⟨_, _, _, rfl, rfl | ⟨_, _, _, rfl, _⟩⟩ | ⟨_, _, _, _, _, _, rfl, _⟩ <;> rfl
      · cases hn
    · cases hn
  · cases hn
theorem elem_spec (r : ZRel fl L w) {z v : ZV} {a : AV} (hz : ZR w z a) {k j : Nat} (hv : elemZ w.H k j z = some v) : ∃ id off len lb ex, a = .slice id off len lb ex k ∧ j < len ∧ ZR w v (.ptr id (off + j * k)) := by
  unfold elemZ at hv
  split at hv
  · split at hv
    · rename_i hc
      obtain ⟨rfl, hj⟩ := hc
      injection hv with hv; subst hv
      have hf := hz.fz_inv
      rcases hf.rows with ⟨rfl, _⟩ | ⟨id, off, lb, ex', row, rfl, _⟩
      · simp at hj
      · exact ⟨_, _, _, _, _, rfl, hj, by simpa using ZR.fptr (j := j) (o := 0) hf hj⟩
    · cases hv
  · rename_i i g off len ex
    split at hv
    · rename_i g' k' rows hb
      split at hv
      · rename_i hc
        obtain ⟨rfl, rfl, hle, hj⟩ := hc
        injection hv with hv; subst hv
        cases hz with
        | fr hf => cases hf
        | own h1 h2 h3 h4 =>
          rcases (h2 _ _ _ hb).2 rfl with ⟨_, _, _, rfl, _⟩ | ⟨id, b, lb, ex', row, m1, rfl, m2, m3, m4, m5, m6⟩
          · omega
          · refine ⟨_, _, _, _, _, rfl, hj, .eptr h1 (fun g2 k2 rows2 hb2 => ?_) ?_⟩
            · rw [hb] at hb2; injection hb2 with hb2; injection hb2 with e1 e2 e3; subst e1; subst e2; subst e3
              exact ⟨Nat.le_refl _, fun _ => ⟨b, m1, by rw [Nat.add_mul]; omega, by omega⟩⟩
            · intro x hx
              simp [idsOf] at hx; subst hx
              exact ⟨(r.nfr _ _ m1).2, fun i' p hp e => r.inj i' i p _ hp m1 e⟩
      · cases hv
    · cases hv
  · cases hv
theorem add_spec {z v : ZV} {a : AV} (hz : ZR w z a) {n : Nat} (hv : addZ n z = some v) : ∃ id o, a = .ptr id o ∧ ZR w v (.ptr id (o + n)) := by
  unfold addZ at hv
  split at hv
  · injection hv with hv; subst hv
    obtain ⟨id, cs, rfl, h1, h2⟩ := hz.ptr_inv
    exact ⟨id, _, rfl, .ptr h1 h2⟩
  · injection hv with hv; subst hv
    cases hz with
    | fr hf => cases hf
    | eptr h1 h2 h3 =>
      refine ⟨_, _, rfl, .eptr h1 (fun g k rows hb => ?_) (fun x hx => h3 x (by simpa [idsOf] using hx))⟩
      obtain ⟨q1, q2⟩ := h2 g k rows hb
      refine ⟨q1, fun e => ?_⟩
      obtain ⟨b, t1, t2, t3⟩ := q2 e
      exact ⟨b, t1, by omega, t3⟩
  · injection hv with hv; subst hv
    cases hz with
    | fr hf => cases hf
    | fptr h1 h2 => exact ⟨_, _, rfl, by rw [Nat.add_assoc]; exact .fptr h1 h2⟩
  · cases hv
theorem nil_spec (r : ZRel fl L w) {z : ZV} {a : AV} (hz : ZR w z a) {kd : Nat} {b : Bool} (hb : nilZ w.H kd z = some b) : nilness kd a = some b := by
  unfold nilZ at hb
  split at hb
  · injection hb with hb; subst hb; rw [hz.val_inv]; rfl
  · injection hb with hb; subst hb; rw [hz.val_inv]; rfl
  · injection hb with hb; subst hb; rw [hz.val_inv]; rfl
  · injection hb with hb; subst hb; obtain ⟨_, _, rfl, _⟩ := hz.ptr_inv; rfl
  · injection hb with hb; subst hb
    cases hz with
    | fr hf => cases hf
    | eptr => rfl
  · injection hb with hb; subst hb
    cases hz with
    | fr hf => cases hf
    | fptr => rfl
  · injection hb with hb; subst hb; obtain ⟨_, rfl, _⟩ := hz.func_inv; rfl
  · injection hb with hb; subst hb
    rcases hz.fz_inv.rows with ⟨h, _⟩ | ⟨id, off, lb, ex', row, rfl, _⟩
    · cases h
    · rfl
  · split at hb
    · rename_i g' k rows hB
      split at hb
      · rename_i hc
        obtain ⟨rfl, hle⟩ := hc
        injection hb with hb; subst hb
        cases hz with
        | fr hf => cases hf
        | own h1 h2 h3 h4 =>
          rcases (h2 _ _ _ hB).2 rfl with ⟨_, _, _, h, _⟩ | ⟨id, b, lb, ex', row, m1, rfl, _⟩
          · cases h
          · rfl
      · cases hb
    · cases hb
  · cases hb
theorem nilOk_spec {z : ZV} {a : AV} (hz : ZR w z a) (h : nilOkZ z = true) : nilOkA a = true := by
  unfold nilOkZ at h
  split at h
  · obtain ⟨_, _, rfl, _⟩ := hz.ptr_inv; rfl
  · cases hz with
    | fr hf => cases hf
    | eptr => rfl
  · cases hz with
    | fr hf => cases hf
    | fptr => rfl
  · obtain ⟨_, rfl, _⟩ := hz.func_inv; rfl
  · cases h
def numA (d : Nat) : Option AV → Option Nat
  | none => some d
  | some v => natOfA v
theorem num_spec (hS : ∀ t, ZR w (S t) (s t)) {d n : Nat} {x : Option Opd} (h : numZ S d x = some n) : numA d (x.map (·.ev s)) = some n := by
  cases x with
  | none => exact h
  | some x =>
    simp only [numZ] at h
    split at h
    · rename_i z hz
      exact natZ_spec (zev_spec hS hz) h
    · cases h
theorem sliceA_nil {k : Nat} {lo hi mx : Option AV} (h1 : numA 0 lo = some 0) (h2 : numA 0 hi = some 0) (h3 : numA 0 mx = some 0) : sliceA k .nil lo hi mx = some .nil := by
  cases lo <;> cases hi <;> cases mx <;> simp only [numA] at h1 h2 h3 <;> simp only [sliceA, h1, h2, h3]
theorem sliceA_hole {k : Nat} {lo hi mx : Option AV} (h1 : numA 0 lo = some 0) (h2 : numA 0 hi = some 0) (h3 : numA 0 mx = some 0) : sliceA k .hole lo hi mx = some .hole := by
  cases lo <;> cases hi <;> cases mx <;> simp only [numA] at h1 h2 h3 <;> simp only [sliceA, h1, h2, h3]
theorem sliceA_slice {k id off len lb l u m : Nat} {ex : Bool} {lo hi mx : Option AV} (h1 : numA 0 lo = some l) (h2 : numA len hi = some u) (h3 : numA lb mx = some m) (hc : l ≤ u ∧ u ≤ m ∧ m ≤ lb) : sliceA k (.slice id off len lb ex k) lo hi mx = some (.slice id (off + l * k) (u - l) (m - l) (ex || mx.isSome) k) := by
  cases lo <;> cases hi <;> cases mx <;> simp only [numA] at h1 h2 h3 <;> simp only [sliceA, h1, h2, h3] <;> (try injection h1 with h1; subst h1) <;> (try injection h2 with h2; subst h2) <;> (try injection h3 with h3; subst h3) <;> (rw [if_pos ⟨trivial, hc⟩])
theorem cut_spec (r : ZRel fl L w) (hS : ∀ t, ZR w (S t) (s t)) {z v : ZV} {a : AV} (hz : ZR w z a) {k n l u m : Nat} {lo hi mx : Option Opd} (hn : lenZ w.H z = some n) (hl : numZ S 0 lo = some l) (hu : numZ S n hi = some u) (hm : numZ S n mx = some m) (hv : cutZ w.H k l u m mx.isSome z = some v) :
    ∃ b, sliceA k a (lo.map (·.ev s)) (hi.map (·.ev s)) (mx.map (·.ev s)) = some b ∧ ZR w v b := by
  have hl := num_spec hS hl
  have hu := num_spec hS hu
  have hm0 := hm
  have hm := num_spec hS hm
  have hmx : ∀ lb, m ≤ n → n ≤ lb → ∃ m', numA lb (mx.map (·.ev s)) = some m' ∧ (mx.isSome = false → m' = lb ∧ m = n) ∧ (mx.isSome = true → m' = m) ∧ m ≤ m' ∧ m' ≤ lb := fun lb h1 h2 => by
    cases mx with
    | none => simp only [numZ, Option.some.injEq] at hm0; exact ⟨lb, rfl, fun _ => ⟨rfl, hm0.symm⟩, (fun h => by cases h), by omega, Nat.le_refl _⟩
    | some y => exact ⟨m, hm, (fun h => by cases h), fun _ => rfl, Nat.le_refl _, by omega⟩
  unfold cutZ at hv
  split at hv
  · -- nil
    split at hv
    · rename_i hc
      obtain ⟨rfl, rfl, rfl⟩ := hc
      injection hv with hv; subst hv
      have : n = 0 := by simp [lenZ] at hn; exact hn.symm
      subst this
      rw [hz.val_inv]
      exact ⟨.nil, sliceA_nil hl hu hm, .fr (.val _)⟩
    · cases hv
  · rename_i k' ex rows
    split at hv
    · rename_i hc
      obtain ⟨rfl, h1, h2, h3⟩ := hc
      have : n = rows.length := by simp [lenZ] at hn; exact hn.symm
      subst this
      have hf := hz.fz_inv
      rcases hf.rows with ⟨rfl, ha⟩ | ⟨id, off, lb, ex', row, rfl, q1, q2, q3, q4, q5, q6, q7⟩
      · rw [if_pos rfl] at hv
        injection hv with hv; subst hv
        simp only [List.length_nil, Nat.le_zero] at h3
        subst h3
        have hu0 : u = 0 := by omega
        subst hu0
        have hl0 : l = 0 := by omega
        subst hl0
        simp only [List.length_nil] at hu hm
        rcases ha with rfl | ⟨rfl, _⟩
        · exact ⟨.nil, sliceA_nil hl hu hm, .fr (.fnil (.inl rfl))⟩
        · exact ⟨.hole, sliceA_hole hl hu hm, .fr (.fnil (.inr ⟨rfl, rfl⟩))⟩
      · obtain ⟨m', e1, e2, e3, e4, e5⟩ := hmx lb h3 q4
        have hcond : l ≤ u ∧ u ≤ m' ∧ m' ≤ lb := ⟨h1, by omega, e5⟩
        refine ⟨.slice id (off + l * k') (u - l) (m' - l) (ex' || mx.isSome) k', ?_, ?_⟩
        · rw [sliceA_slice hl hu e1 hcond]
          cases mx <;> rfl
        · have hlen : ((rows.drop l).take (u - l)).length = u - l := by rw [List.length_take, List.length_drop]; omega
          have hm1 : u * k' ≤ rows.length * k' := Nat.mul_le_mul_right _ (by omega)
          have hm2 : l * k' + (u - l) * k' = u * k' := by rw [← Nat.add_mul]; congr 1; omega
          have key : ∀ ex2 : Bool, (ex2 = true → (ex' || mx.isSome) = true ∧ m' - l = u - l) → ZR w (.fz k' ex2 ((rows.drop l).take (u - l))) (.slice id (off + l * k') (u - l) (m' - l) (ex' || mx.isSome) k') := fun ex2 hex => by
            have := FR.ofRows (ex := ex2) (rows := (rows.drop l).take (u - l)) (id := id) (off := off + l * k') (lb := m' - l) (ex' := (ex' || mx.isSome)) (row := row) (k := k') q1 q2 (by rw [hlen]; omega) (by rw [hlen]; omega) (by rw [hlen]; exact hex) (fun x hx => q6 x (List.mem_of_mem_drop (List.mem_of_mem_take hx))) (fun i z hz => ?_)
            · rw [hlen] at this; exact .fr this
            · rw [← zflat_take (fun x hx => q6 x (List.mem_of_mem_drop hx)), ← zflat_drop q6, List.getElem?_take] at hz
              split at hz
              · rw [List.getElem?_drop] at hz
                obtain ⟨c, t1, t2⟩ := q7 _ z hz
                exact ⟨c, by rw [← t1]; congr 1; omega, t2⟩
              · cases hz
          split at hv
          · rename_i h0
            injection hv with hv; subst hv; subst h0
            have := key false (fun h => by cases h)
            simpa using this
          · injection hv with hv; subst hv
            refine key _ (fun h => ?_)
            simp only [Bool.and_eq_true, Bool.or_eq_true, beq_iff_eq] at h
            obtain ⟨h5, h6⟩ := h
            cases hb : mx.isSome with
            | true => have := e3 hb; exact ⟨by simp, by omega⟩
            | false =>
              rw [hb] at h5
              simp at h5
              obtain ⟨h7, h8⟩ := e2 hb
              obtain ⟨h9, h10⟩ := q5 h5
              exact ⟨by simp [h9], by omega⟩
    · cases hv
  · rename_i i g off len ex
    split at hv
    · rename_i g' k' rows hB
      split at hv
      · rename_i hc
        obtain ⟨rfl, rfl, h1, h2, h3, h4⟩ := hc
        injection hv with hv; subst hv
        have : n = len := by simp [lenZ, hB] at hn; exact hn.symm
        subst this
        cases hz with
        | fr hf => cases hf
        | own p1 p2 p3 p4 =>
          rcases (p2 _ _ _ hB).2 rfl with ⟨m0, rfl, rfl, rfl, hq⟩ | ⟨id, b, lb, ex', row, m1, rfl, m2, m3, m4, m5, m6⟩
          · have e1 : m = 0 := by omega
            subst e1
            have e2 : u = 0 := by omega
            subst e2
            have e3 : l = 0 := by omega
            subst e3
            rcases hq with rfl | ⟨id, o, row, rfl, q2, q3, q4⟩
            · exact ⟨.nil, sliceA_nil hl hu hm, own_nil r hB m0 (.inl rfl)⟩
            · refine ⟨.slice id o 0 0 true k', ?_, own_nil r hB m0 (.inr ⟨id, o, row, rfl, q2, q3, q4⟩)⟩
              rw [sliceA_slice hl hu hm ⟨Nat.le_refl _, Nat.le_refl _, Nat.le_refl _⟩]
              simp
          · obtain ⟨m', e1, e2, e3, e4, e5⟩ := hmx lb h3 m3
            have hcond : l ≤ u ∧ u ≤ m' ∧ m' ≤ lb := ⟨h1, by omega, e5⟩
            refine ⟨.slice id (b + off * k' + l * k') (u - l) (m' - l) (ex' || mx.isSome) k', ?_, ?_⟩
            · rw [sliceA_slice hl hu e1 hcond]
              cases mx <;> rfl
            · have hm1 : m' * k' ≤ lb * k' := Nat.mul_le_mul_right _ e5
              have hm2 : l * k' + (m' - l) * k' = m' * k' := by rw [← Nat.add_mul]; congr 1; omega
              have := own_mk r hB m1 m4 (off := off + l) (len := u - l) (lb := m' - l) (ex := ((ex || mx.isSome) && u == m)) (ex' := (ex' || mx.isSome)) (by omega) (by omega) (by rw [Nat.add_mul]; omega) (fun h => ?_)
              · rw [Nat.add_mul, ← Nat.add_assoc] at this; exact this
              · simp only [Bool.and_eq_true, Bool.or_eq_true, beq_iff_eq] at h
                obtain ⟨h5, h6⟩ := h
                cases hb : mx.isSome with
                | true => have := e3 hb; exact ⟨by simp, by omega⟩
                | false =>
                  rw [hb] at h5
                  simp at h5
                  obtain ⟨h7, h8⟩ := e2 hb
                  obtain ⟨h9, h10⟩ := m6 h5
                  exact ⟨by simp [h9], by omega⟩
      · cases hv
    · cases hv
  · cases hv
end Go.Proofs.Ytpmmiaadfnildaa
