/-
  Haul: what stands where: plain facts.
-/
import Derived.Test.YtijcjkgammldlaaMrA8
namespace Go.Proofs.Ytijcjkgammldlaa
open Go Go.RowKit
set_option linter.unusedVariables false
set_option linter.unusedSimpArgs false
theorem objEnd_ge (F : List Int) : ∀ (m b : Nat), F.length - b ≤ m → b ≤ objEnd F b := by
  intro m
  induction m with
  | zero => intro b h; rw [objEnd]; simp [show ¬ b < F.length by omega]
  | succ m ih =>
    intro b h
    rw [objEnd]
    by_cases hb : b < F.length
    · simp only [hb, dite_true]
      have := ih (b + 1 + lng F[b]) (by omega)
      omega
    · simp [hb]
/-- The words of an object. -/
def osz (F : List Int) (a : Nat) : Nat := 1 + lng (F[a]?.getD 0)
theorem objs_in (F : List Int) : ∀ (m b : Nat), F.length - b ≤ m → objEnd F b = F.length → ∀ a ∈ objs F b, b ≤ a ∧ a < F.length ∧ a + osz F a ≤ F.length := by
  intro m
  induction m with
  | zero => intro b h he a ha; rw [objs] at ha; simp [show ¬ b < F.length by omega] at ha
  | succ m ih =>
    intro b h he a ha
    by_cases hb : b < F.length
    · rw [objs] at ha
      simp only [hb, dite_true, List.mem_cons] at ha
      rw [objEnd] at he
      simp only [hb, dite_true] at he
      have hge := objEnd_ge F _ (b + 1 + lng F[b]) (Nat.le_refl _)
      have hs : osz F b = 1 + lng F[b] := by unfold osz; rw [List.getElem?_eq_getElem hb]; rfl
      rcases ha with rfl | ha
      · exact ⟨Nat.le_refl _, hb, by omega⟩
      · obtain ⟨h1, h2, h3⟩ := ih (b + 1 + lng F[b]) (by omega) he a ha
        exact ⟨by omega, h2, h3⟩
    · rw [objs] at ha; simp [hb] at ha
theorem objs_sum (F : List Int) : ∀ (m b : Nat), F.length - b ≤ m → objEnd F b = b + ((objs F b).map (osz F)).sum := by
  intro m
  induction m with
  | zero => intro b h; rw [objs, objEnd]; simp [show ¬ b < F.length by omega]
  | succ m ih =>
    intro b h
    rw [objs, objEnd]
    by_cases hb : b < F.length
    · simp only [hb, dite_true, List.map_cons, List.sum_cons]
      have := ih (b + 1 + lng F[b]) (by omega)
      have hs : osz F b = 1 + lng F[b] := by unfold osz; rw [List.getElem?_eq_getElem hb]; rfl
      omega
    · simp [hb]
theorem objs_lt (F : List Int) : ∀ (m b : Nat), F.length - b ≤ m → (∀ a ∈ objs F b, b ≤ a) ∧ (objs F b).Nodup := by
  intro m
  induction m with
  | zero => intro b h; rw [objs]; simp [show ¬ b < F.length by omega]
  | succ m ih =>
    intro b h
    rw [objs]
    by_cases hb : b < F.length
    · simp only [hb, dite_true, List.mem_cons, List.nodup_cons]
      obtain ⟨h1, h2⟩ := ih (b + 1 + lng F[b]) (by omega)
      refine ⟨fun a ha => ?_, fun hm => ?_, h2⟩
      · rcases ha with rfl | ha
        · exact Nat.le_refl _
        · have := h1 a ha; omega
      · have := h1 b hm; omega
    · simp [hb]
theorem sum_sub {α : Type} [DecidableEq α] (f : α → Nat) : ∀ {l1 l2 : List α}, l1.Nodup → (∀ x ∈ l1, x ∈ l2) → (l1.map f).sum ≤ (l2.map f).sum
  | [], _, _, _ => by simp
  | x :: l1, l2, hn, hs => by
    have hx := hs x (by simp)
    have hp := (List.perm_cons_erase hx).map f
    rw [hp.sum_nat, List.map_cons, List.map_cons, List.sum_cons, List.sum_cons]
    have hn' := List.nodup_cons.1 hn
    have := sum_sub f (l1 := l1) (l2 := l2.erase x) hn'.2 fun y hy => (List.mem_erase_of_ne (fun e : y = x => hn'.1 (by rw [← e]; exact hy))).2 (hs y (by simp [hy]))
    omega
theorem objAt_len {F : List Int} {a : Nat} (h : a + osz F a ≤ F.length) : (objAt F a).length = osz F a := by
  unfold objAt; unfold osz at h ⊢; simp; omega
/-- What all that was moved had. -/
def orig (F : List Int) (T : List (Int × Int)) : List Int := (T.map fun x => objAt F x.2.toNat).flatten
theorem orig_snoc {F : List Int} {T : List (Int × Int)} {x : Int × Int} : orig F (T ++ [x]) = orig F T ++ objAt F x.2.toNat := by simp [orig]
/-- Behind i nothing was turned yet; the first words of objects are as they were. -/
structure HInv (F : List Int) (i : Nat) (to : List Int) (T : List (Int × Int)) : Prop where
  len : to.length = (orig F T).length
  rest : ∀ j, i ≤ j → to[j]? = (orig F T)[j]?
  tos : ∀ (k : Nat) x, T[k]? = some x → x.1 = ((orig F (T.take k)).length : Int)
  frm : ∀ x ∈ T, 0 ≤ x.2 ∧ x.2.toNat ∈ objs F 0
  nod : (T.map Prod.snd).Nodup
  head : ∀ (k : Nat) x, T[k]? = some x → to[(orig F (T.take k)).length]? = F[x.2.toNat]?
theorem HInv.nil {F : List Int} : HInv F 0 [] [] := ⟨rfl, fun j _ => rfl, fun k x h => by simp at h, fun x h => by simp at h, by simp, fun k x h => by simp at h⟩
theorem orig_len {F : List Int} (he : objEnd F 0 = F.length) : ∀ {T : List (Int × Int)}, (∀ x ∈ T, x.2.toNat ∈ objs F 0) → (orig F T).length = ((T.map fun x => x.2.toNat).map (osz F)).sum
  | [], _ => rfl
  | x :: T, h => by
    have h1 := objs_in F _ 0 (Nat.le_refl _) he _ (h x (by simp))
    have h2 := orig_len he (T := T) fun y hy => h y (by simp [hy])
    have : orig F (x :: T) = objAt F x.2.toNat ++ orig F T := by simp [orig]
    rw [this, List.length_append, h2, objAt_len h1.2.2]
    simp
theorem HInv.small {F : List Int} {i : Nat} {to : List Int} {T : List (Int × Int)} (he : objEnd F 0 = F.length) (h : HInv F i to T) : to.length ≤ F.length ∧ T.length ≤ F.length := by
  have hn : (T.map fun x => x.2.toNat).Nodup := by
    have := h.nod
    rw [List.nodup_iff_pairwise_ne, List.pairwise_map] at this
    rw [List.nodup_iff_pairwise_ne, List.pairwise_map]
    refine this.imp_of_mem fun {a b} ha hb hne e => hne ?_
    have h1 := (h.frm a ha).1
    have h2 := (h.frm b hb).1
    omega
  have hs := sum_sub (osz F) hn (l2 := objs F 0) fun y hy => by
    obtain ⟨x, hx, rfl⟩ := List.mem_map.1 hy
    exact (h.frm x hx).2
  have ho := objs_sum F _ 0 (Nat.le_refl _)
  have hl := orig_len he (T := T) fun x hx => (h.frm x hx).2
  have h1 : to.length ≤ F.length := by rw [h.len, hl]; omega
  have hk : ∀ l : List Nat, l.length ≤ (l.map (osz F)).sum := fun l => by
    induction l with
    | nil => simp
    | cons a l ih => simp only [List.map_cons, List.sum_cons, List.length_cons]; unfold osz at ih ⊢; omega
  have := hk (T.map fun x => x.2.toNat)
  rw [List.length_map] at this
  exact ⟨h1, by omega⟩
end Go.Proofs.Ytijcjkgammldlaa

namespace Go.Proofs.Ytijcjkgammldlaa
open Go Go.RowKit
set_option linter.unusedVariables false
set_option linter.unusedSimpArgs false
theorem right_place {F : List Int} {w : Int} (hr : rightB w (objs F 0) = true) (hp : placeB w = true) : 0 ≤ unNum w ∧ (unNum w).toNat ∈ objs F 0 := by
  simp only [rightB, hp, Bool.not_true, Bool.false_or, Bool.and_eq_true, decide_eq_true_eq] at hr
  obtain ⟨a, ha, e⟩ := List.mem_map.1 hr.2
  have e : (a : Int) = unNum w := e
  rw [← e]
  exact ⟨by omega, by simpa using ha⟩
theorem right_pre {F : List Int} {w : Int} (he : objEnd F 0 = F.length) (hr : rightB w (objs F 0) = true) (hp : placeB w = true) : 0 ≤ unNum w ∧ ∃ h : (unNum w).toNat < F.length, (unNum w).toNat + 1 + lng F[(unNum w).toNat] ≤ F.length := by
  obtain ⟨h1, h2⟩ := right_place hr hp
  obtain ⟨_, h3, h4⟩ := objs_in F _ 0 (Nat.le_refl _) he _ h2
  refine ⟨h1, h3, ?_⟩
  unfold osz at h4
  rw [List.getElem?_eq_getElem h3] at h4
  simp only [Option.getD_some] at h4
  omega
theorem HInv.move {F : List Int} {i : Nat} {to : List Int} {T : List (Int × Int)} {w : Int} (he : objEnd F 0 = F.length) (h : HInv F i to T) (hr : rightB w (objs F 0) = true) : HInv F i (mvW F w to T).2.1 (mvW F w to T).2.2 := by
  unfold mvW
  by_cases hp : placeB w = false
  · rw [if_pos hp]; exact h
  · rw [if_neg hp]
    have hp : placeB w = true := by simpa using hp
    cases hf : T.find? fun x => decide (unNum w = x.2) with
    | some x => exact h
    | none =>
      obtain ⟨h1, h2⟩ := right_place hr hp
      obtain ⟨_, h3, h4⟩ := objs_in F _ 0 (Nat.le_refl _) he _ h2
      simp only
      have hl := objAt_len h4
      have hpos : 0 < (objAt F (unNum w).toNat).length := by rw [hl]; unfold osz; omega
      have hT : ∀ (k : Nat) x, (T ++ [((to.length : Int), unNum w)])[k]? = some x → (T[k]? = some x ∧ (T ++ [((to.length : Int), unNum w)]).take k = T.take k) ∨ (k = T.length ∧ x = ((to.length : Int), unNum w)) := fun k x hx => by
        by_cases hk : k < T.length
        · rw [List.getElem?_append_left hk] at hx
          exact .inl ⟨hx, List.take_append_of_le_length (by omega)⟩
        · rw [List.getElem?_append_right (by omega)] at hx
          have : k - T.length = 0 := by
            have := (List.getElem?_eq_some_iff.1 hx).1
            simp at this; omega
          rw [this] at hx
          simp at hx
          exact .inr ⟨by omega, hx.symm⟩
      refine ⟨?_, ?_, ?_, ?_, ?_, ?_⟩
      · rw [orig_snoc, List.length_append, List.length_append, h.len]
      · intro j hj
        rw [orig_snoc]
        by_cases hjl : j < to.length
        · rw [List.getElem?_append_left hjl, List.getElem?_append_left (by rw [← h.len]; exact hjl)]
          exact h.rest j hj
        · rw [List.getElem?_append_right (by omega), List.getElem?_append_right (by rw [← h.len]; omega), h.len]
      · intro k x hx
        rcases hT k x hx with ⟨q1, q2⟩ | ⟨rfl, rfl⟩
        · rw [q2]; exact h.tos k x q1
        · rw [List.take_append_of_le_length (Nat.le_refl _), List.take_of_length_le (Nat.le_refl _), ← h.len]
      · intro x hx
        rcases List.mem_append.1 hx with hx | hx
        · exact h.frm x hx
        · rw [List.mem_singleton.1 hx]; exact ⟨h1, h2⟩
      · rw [List.map_append, List.nodup_append]
        refine ⟨h.nod, by simp, fun a ha b hb e => ?_⟩
        simp at hb
        subst hb; subst e
        obtain ⟨x, hx, e⟩ := List.mem_map.1 ha
        have := List.find?_eq_none.1 hf x hx
        exact this (decide_eq_true e.symm)
      · intro k x hx
        rcases hT k x hx with ⟨q1, q2⟩ | ⟨rfl, rfl⟩
        · rw [q2]
          have := h.head k x q1
          obtain ⟨_, h5, _⟩ := objs_in F _ 0 (Nat.le_refl _) he _ (h.frm x (List.mem_of_getElem? q1)).2
          rw [List.getElem?_eq_getElem h5] at this
          rw [List.getElem?_append_left (List.getElem?_eq_some_iff.1 this).1, this, List.getElem?_eq_getElem h5]
        · rw [List.take_append_of_le_length (Nat.le_refl _), List.take_of_length_le (Nat.le_refl _), ← h.len, List.getElem?_append_right (Nat.le_refl _), Nat.sub_self]
          unfold objAt
          rw [List.getElem?_take, if_pos (by omega), List.getElem?_drop]
          rfl
theorem HInv.set {F : List Int} {i : Nat} {to : List Int} {T : List (Int × Int)} (h : HInv F i to T) (hne : ∀ (k : Nat) x, T[k]? = some x → (orig F (T.take k)).length ≠ i) (v : Int) : HInv F (i + 1) (to.set i v) T := by
  refine ⟨by rw [List.length_set]; exact h.len, fun j hj => ?_, h.tos, h.frm, h.nod, fun k x hx => ?_⟩
  · rw [List.getElem?_set, if_neg (by omega)]; exact h.rest j (by omega)
  · rw [List.getElem?_set, if_neg (Ne.symm (hne k x hx))]; exact h.head k x hx
theorem HInv.skip {F : List Int} {i : Nat} {to : List Int} {T : List (Int × Int)} (h : HInv F i to T) : HInv F (i + 1) to T := ⟨h.len, fun j hj => h.rest j (by omega), h.tos, h.frm, h.nod, h.head⟩
end Go.Proofs.Ytijcjkgammldlaa

namespace Go.Proofs.Ytijcjkgammldlaa
open Go Go.RowKit
set_option linter.unusedVariables false
set_option linter.unusedSimpArgs false
/-- Roots are moved, one by one. -/
def rootsF (F R : List Int) : List Int × List Int × List (Int × Int) := R.foldl (fun s w => (s.1 ++ [(mvW F w s.2.1 s.2.2).1], (mvW F w s.2.1 s.2.2).2.1, (mvW F w s.2.1 s.2.2).2.2)) ([], [], [])
theorem rootsF_snoc {F R : List Int} {w : Int} : rootsF F (R ++ [w]) = ((rootsF F R).1 ++ [(mvW F w (rootsF F R).2.1 (rootsF F R).2.2).1], (mvW F w (rootsF F R).2.1 (rootsF F R).2.2).2.1, (mvW F w (rootsF F R).2.1 (rootsF F R).2.2).2.2) := by simp [rootsF, List.foldl_append]
theorem rootsF_len {F : List Int} : ∀ {R : List Int}, (rootsF F R).1.length = R.length := by
  have : ∀ (R : List Int) s, (R.foldl (fun (s : List Int × List Int × List (Int × Int)) w => (s.1 ++ [(mvW F w s.2.1 s.2.2).1], (mvW F w s.2.1 s.2.2).2.1, (mvW F w s.2.1 s.2.2).2.2)) s).1.length = s.1.length + R.length := by
    intro R
    induction R with
    | nil => intro s; rfl
    | cons w R ih => intro s; rw [List.foldl_cons, ih]; simp; omega
  intro R
  unfold rootsF
  rw [this]; simp
/-- A statement on lists, from the last one on. -/
theorem snoc_ind {α : Type} {P : List α → Prop} (h0 : P []) (hs : ∀ R w, P R → P (R ++ [w])) : ∀ R, P R := by
  have : ∀ (n : Nat) R, R.length = n → P R := by
    intro n
    induction n with
    | zero => intro R hn; rw [List.eq_nil_of_length_eq_zero hn]; exact h0
    | succ n ih =>
      intro R hn
      have hne : R ≠ [] := by intro e; subst e; simp at hn
      rw [← List.dropLast_concat_getLast hne]
      exact hs _ _ (ih _ (by simp [hn]))
  exact fun R => this _ R rfl
theorem rootsF_inv {F : List Int} (he : objEnd F 0 = F.length) (R : List Int) : (∀ w ∈ R, rightB w (objs F 0) = true) → HInv F 0 (rootsF F R).2.1 (rootsF F R).2.2 := by
  refine snoc_ind (P := fun R => (∀ w ∈ R, rightB w (objs F 0) = true) → HInv F 0 (rootsF F R).2.1 (rootsF F R).2.2) (fun _ => HInv.nil) (fun R w ih hr => ?_) R
  rw [rootsF_snoc]
  exact (ih fun w hw => hr w (by simp [hw])).move he (hr w (by simp))
theorem chk0 {F R : List Int} (h : chkE F R = 0) : F.length ≤ 2000 ∧ R.length ≤ 100 ∧ objEnd F 0 = F.length ∧ okW F = true ∧ okR F R = true := by
  unfold chkE at h
  split at h
  · cases h
  · split at h
    · rename_i h1 h2; exact ⟨by omega, by omega, h2⟩
    · cases h
/-- One word is looked at: where, where the next object begins, the new words, what was moved. -/
structure HSt where
  i : Nat
  nx : Nat
  to : List Int
  T : List (Int × Int)
def hstep (F : List Int) (s : HSt) : HSt :=
  if s.i = s.nx then ⟨s.i + 1, s.i + 1 + lng (s.to[s.i]?.getD 0), s.to, s.T⟩
  else ⟨s.i + 1, s.nx, (mvW F (s.to[s.i]?.getD 0) s.to s.T).2.1.set s.i (mvW F (s.to[s.i]?.getD 0) s.to s.T).1, (mvW F (s.to[s.i]?.getD 0) s.to s.T).2.2⟩
/-- So far came a scan. -/
inductive HRun (F : List Int) (s0 : HSt) : HSt → Prop
  | refl : HRun F s0 s0
  | step {s : HSt} : HRun F s0 s → s.i < s.to.length → HRun F s0 (hstep F s)
theorem mvW_ext (F : List Int) (w : Int) (to : List Int) (T : List (Int × Int)) : ∃ e E, (mvW F w to T).2.1 = to ++ e ∧ (mvW F w to T).2.2 = T ++ E := by
  unfold mvW
  split
  · exact ⟨[], [], by simp, by simp⟩
  · split
    · exact ⟨[], [], by simp, by simp⟩
    · exact ⟨_, _, rfl, rfl⟩
/-- Between the beginnings of objects there is none. -/
theorem objs_gap (F : List Int) : ∀ (m b : Nat), F.length - b ≤ m → ∀ a ∈ objs F b, ∀ d, 1 ≤ d → d < osz F a → a + d ∉ objs F b := by
  intro m
  induction m with
  | zero => intro b h a ha; rw [objs] at ha; simp [show ¬ b < F.length by omega] at ha
  | succ m ih =>
    intro b h a ha d h1 h2 hm
    by_cases hb : b < F.length
    · have hs : osz F b = 1 + lng F[b] := by unfold osz; rw [List.getElem?_eq_getElem hb]; rfl
      obtain ⟨hlt, -⟩ := objs_lt F _ (b + 1 + lng F[b]) (Nat.le_refl _)
      rw [objs] at ha hm
      simp only [hb, dite_true, List.mem_cons] at ha hm
      rcases ha with rfl | ha
      · rcases hm with hm | hm
        · omega
        · have := hlt _ hm; omega
      · have := hlt _ ha
        rcases hm with hm | hm
        · omega
        · exact ih (b + 1 + lng F[b]) (by omega) a ha d h1 h2 hm
    · rw [objs] at ha; simp [hb] at ha
theorem orig_app {F : List Int} {A B : List (Int × Int)} : orig F (A ++ B) = orig F A ++ orig F B := by simp [orig]
/-- Where the k-th moved object begins. -/
def ol (F : List Int) (T : List (Int × Int)) (k : Nat) : Nat := (orig F (T.take k)).length
theorem ol_mono {F : List Int} {T : List (Int × Int)} {k k' : Nat} (h : k ≤ k') : ol F T k ≤ ol F T k' := by
  have e : T.take k = (T.take k').take k := by rw [List.take_take, Nat.min_eq_left h]
  unfold ol
  rw [e]
  conv => rhs; rw [← List.take_append_drop k (T.take k'), orig_app, List.length_append]
  omega
theorem ol_all {F : List Int} {T : List (Int × Int)} {k : Nat} : ol F T k ≤ (orig F T).length := by
  unfold ol
  conv => rhs; rw [← List.take_append_drop k T, orig_app, List.length_append]
  omega
theorem ol_full {F : List Int} {T : List (Int × Int)} {k : Nat} (h : T.length ≤ k) : ol F T k = (orig F T).length := by unfold ol; rw [List.take_of_length_le h]
theorem ol_ext {F : List Int} {T E : List (Int × Int)} {k : Nat} (h : k ≤ T.length) : ol F (T ++ E) k = ol F T k := by unfold ol; rw [List.take_append_of_le_length h]
theorem ol_succ {F : List Int} {T : List (Int × Int)} {k : Nat} {x : Int × Int} (hx : T[k]? = some x) (h : x.2.toNat + osz F x.2.toNat ≤ F.length) : ol F T (k + 1) = ol F T k + osz F x.2.toNat := by
  unfold ol
  rw [List.take_add_one, hx, Option.toList_some, orig_snoc, List.length_append, objAt_len h]
theorem orig_get {F : List Int} {T : List (Int × Int)} {k d : Nat} {x : Int × Int} (hx : T[k]? = some x) (h : x.2.toNat + osz F x.2.toNat ≤ F.length) (hd : d < osz F x.2.toNat) : (orig F T)[ol F T k + d]? = F[x.2.toNat + d]? := by
  obtain ⟨hk, hx'⟩ := List.getElem?_eq_some_iff.1 hx
  have e : T = T.take k ++ ([x] ++ T.drop (k + 1)) := by
    conv => lhs; rw [← List.take_append_drop k T, List.drop_eq_getElem_cons hk, hx']
    rfl
  have hl := objAt_len h
  obtain ⟨n, hn⟩ : ∃ n, n = ol F T k := ⟨_, rfl⟩
  have hn' : (orig F (T.take k)).length = n := hn.symm
  rw [← hn]
  conv => lhs; rw [e]
  rw [orig_app, orig_app, List.getElem?_append_right (by omega), show n + d - (orig F (T.take k)).length = d by omega]
  have e1 : orig F [x] = objAt F x.2.toNat := by simp [orig]
  rw [e1, List.getElem?_append_left (by omega)]
  unfold objAt
  unfold osz at hd
  rw [List.getElem?_take, if_pos (by omega), List.getElem?_drop]
/-- What holds of each state of a scan. -/
structure HS (F : List Int) (s : HSt) : Prop where
  inv : HInv F s.i s.to s.T
  le : s.i ≤ s.nx ∧ s.nx ≤ s.to.length
  pos : ∃ k, k ≤ s.T.length ∧ s.nx = ol F s.T k ∧ ∀ k', k' < k → ol F s.T k' < s.i
theorem HS.start {F : List Int} {to : List Int} {T : List (Int × Int)} (h : HInv F 0 to T) : HS F ⟨0, 0, to, T⟩ := ⟨h, ⟨Nat.le_refl _, Nat.zero_le _⟩, 0, Nat.zero_le _, rfl, fun k' h => absurd h (by omega)⟩
theorem HS.obj {F : List Int} {i : Nat} {to : List Int} {T : List (Int × Int)} (he : objEnd F 0 = F.length) (h : HInv F i to T) {k : Nat} {x : Int × Int} (hx : T[k]? = some x) : x.2.toNat ∈ objs F 0 ∧ x.2.toNat < F.length ∧ x.2.toNat + osz F x.2.toNat ≤ F.length := by
  have := (h.frm x (List.mem_of_getElem? hx)).2
  obtain ⟨_, h3, h4⟩ := objs_in F _ 0 (Nat.le_refl _) he _ this
  exact ⟨this, h3, h4⟩
/-- A first word. -/
theorem HS.first {F : List Int} {s : HSt} (he : objEnd F 0 = F.length) (h : HS F s) (hi : s.i < s.to.length) (hn : s.i = s.nx) : ∃ k x, k < s.T.length ∧ s.T[k]? = some x ∧ s.nx = ol F s.T k ∧ (∀ k', k' < k → ol F s.T k' < s.i) ∧ s.to[s.i]? = F[x.2.toNat]? ∧ x.2.toNat < F.length ∧ 1 + lng (s.to[s.i]?.getD 0) = osz F x.2.toNat ∧ ol F s.T (k + 1) = s.i + osz F x.2.toNat := by
  obtain ⟨k, h1, h2, h3⟩ := h.pos
  have hk : k < s.T.length := by
    rcases Nat.lt_or_ge k s.T.length with h | h'
    · exact h
    · rw [ol_full h', ← h.inv.len] at h2; omega
  obtain ⟨x, hx⟩ : ∃ x, s.T[k]? = some x := ⟨_, List.getElem?_eq_getElem hk⟩
  have ho := HS.obj he h.inv hx
  have hh := h.inv.head k x hx
  have hh : s.to[s.i]? = F[x.2.toNat]? := by rw [hn, h2]; exact hh
  refine ⟨k, x, hk, hx, h2, h3, hh, ho.2.1, by rw [hh]; rfl, ?_⟩
  rw [ol_succ hx ho.2.2, hn, h2]
/-- Any other word. -/
theorem HS.other {F : List Int} {s : HSt} (he : objEnd F 0 = F.length) (hw : okW F = true) (h : HS F s) (hi : s.i < s.to.length) (hn : s.i ≠ s.nx) : ∃ k x d, s.T[k]? = some x ∧ 1 ≤ d ∧ d < osz F x.2.toNat ∧ s.i = ol F s.T k + d ∧ x.2.toNat + d < F.length ∧ s.to[s.i]? = F[x.2.toNat + d]? ∧ (orig F s.T)[s.i]? = s.to[s.i]? ∧ ∀ w, F[x.2.toNat + d]? = some w → rightB w (objs F 0) = true := by
  obtain ⟨k, h1, h2, h3⟩ := h.pos
  have hle := h.le
  cases k with
  | zero => unfold ol at h2; simp [orig] at h2; omega
  | succ k =>
    obtain ⟨x, hx⟩ : ∃ x, s.T[k]? = some x := ⟨_, List.getElem?_eq_getElem (by omega)⟩
    have ho := HS.obj he h.inv hx
    have h4 := h3 k (by omega)
    have h5 := ol_succ hx ho.2.2
    have hd : s.i = ol F s.T k + (s.i - ol F s.T k) := by omega
    obtain ⟨d, hd'⟩ : ∃ d, d = s.i - ol F s.T k := ⟨_, rfl⟩
    rw [← hd'] at hd
    have hg := orig_get hx ho.2.2 (d := d) (by omega)
    rw [← hd] at hg
    have hr := h.inv.rest s.i (Nat.le_refl _)
    refine ⟨k, x, d, hx, by omega, by omega, hd, by omega, by rw [hr, hg], hr.symm, fun w hw' => ?_⟩
    obtain ⟨hlt, e⟩ := List.getElem?_eq_some_iff.1 hw'
    have := okW_iff.1 hw _ hlt
    rw [e] at this
    unfold okAt at this
    rw [decide_eq_false (objs_gap F _ 0 (Nat.le_refl _) _ ho.1 d (by omega) (by omega)), Bool.false_or] at this
    exact this
theorem HS.step {F : List Int} {s : HSt} (he : objEnd F 0 = F.length) (hw : okW F = true) (h : HS F s) (hi : s.i < s.to.length) : HS F (hstep F s) := by
  unfold hstep
  by_cases hn : s.i = s.nx
  · rw [if_pos hn]
    obtain ⟨k, x, hk, hx, h2, h3, hh, hlt, hs, hl⟩ := h.first he hi hn
    have ho := ol_all (F := F) (T := s.T) (k := k + 1)
    rw [← h.inv.len] at ho
    refine ⟨h.inv.skip, ⟨by show s.i + 1 ≤ s.i + 1 + lng (s.to[s.i]?.getD 0); omega, by show s.i + 1 + lng (s.to[s.i]?.getD 0) ≤ s.to.length; omega⟩, k + 1, hk, by show s.i + 1 + lng (s.to[s.i]?.getD 0) = ol F s.T (k + 1); rw [hl]; omega, fun k' hk' => ?_⟩
    show _ < s.i + 1
    rcases Nat.lt_or_ge k' k with h' | h'
    · have := h3 k' h'; show ol F s.T k' < _; omega
    · have : k' = k := by omega
      subst this
      show ol F s.T k' < _; omega
  · rw [if_neg hn]
    obtain ⟨k, x, d, hx, hd1, hd2, hid, hlt, hto, hor, hr⟩ := h.other he hw hi hn
    obtain ⟨k2, h1, h2, h3⟩ := h.pos
    have hle := h.le
    have hrw : rightB (s.to[s.i]?.getD 0) (objs F 0) = true := by
      rw [hto, List.getElem?_eq_getElem hlt]
      exact hr _ (List.getElem?_eq_getElem hlt)
    have hm := h.inv.move he hrw
    obtain ⟨e, E, e1, e2⟩ := mvW_ext F (s.to[s.i]?.getD 0) s.to s.T
    rw [e1, e2] at hm ⊢
    have hne : ∀ k', ol F (s.T ++ E) k' ≠ s.i := fun k' he' => by
      rcases Nat.lt_or_ge k' k2 with h' | h'
      · rw [ol_ext (by omega)] at he'
        have := h3 k' h'; omega
      · have := ol_mono (F := F) (T := s.T ++ E) h'
        rw [ol_ext h1] at this
        omega
    refine ⟨HInv.set hm (fun k' x' _ => hne k') _, ⟨by show s.i + 1 ≤ s.nx; omega, ?_⟩, k2, by show k2 ≤ (s.T ++ E).length; rw [List.length_append]; omega, ?_, fun k' hk' => ?_⟩
    · show s.nx ≤ ((s.to ++ e).set _ _).length
      rw [List.length_set, List.length_append]; omega
    · show s.nx = ol F (s.T ++ E) k2
      rw [ol_ext h1]; exact h2
    · show ol F (s.T ++ E) k' < s.i + 1
      rw [ol_ext (by omega)]
      have := h3 k' hk'; omega
theorem HRun.hs {F : List Int} {s0 s : HSt} (he : objEnd F 0 = F.length) (hw : okW F = true) (h0 : HS F s0) (h : HRun F s0 s) : HS F s := by
  induction h with
  | refl => exact h0
  | step _ hi ih => exact ih.step he hw hi
end Go.Proofs.Ytijcjkgammldlaa

namespace Go.Proofs.Ytijcjkgammldlaa
open Go Go.RowKit
set_option linter.unusedVariables false
set_option linter.unusedSimpArgs false
variable {tb : List (FuncId × Bool)} {L : Nat → Bool} {H : ZH} {K : ZV → ZH → Prop}
theorem co_at4 {W Y : ZH} (A B C D E : ZB) : (W ++ (A :: B :: C :: D :: E :: Y))[W.length + 4]? = some E := by rw [List.getElem?_append_right (by omega), Nat.add_sub_cancel_left]; rfl
theorem co_st4 {W Y : ZH} (A B C D E G : ZB) : (W ++ (A :: B :: C :: D :: E :: Y)).set (W.length + 4) G = W ++ (A :: B :: C :: D :: G :: Y) := by rw [List.set_append_right _ _ (by omega), Nat.add_sub_cancel_left]; rfl
theorem hl_cells {i : Nat} : (ZV.mp i).cells = [.mp i] := rfl
theorem hl_cell {i : Nat} : (ZV.mp i).isCell = true := rfl
theorem col_el {W Y : ZH} {zw : ZV} {b1 b3 m : Nat} {to : List Int} {T : List (Int × Int)} (hm : m < to.length) : elemZ (colH W Y zw b1 b3 to T) 1 m (.own (W.length + 2) b1 0 to.length false) = some (.eptr (W.length + 2) b1 m 0) := by
  unfold colH
  rw [elem_own]; exact ⟨_, co_at2 _ _ _ _, by simp, hm, by simp⟩
theorem col_ld {W Y : ZH} {zw : ZV} {b1 b3 m : Nat} {to : List Int} {T : List (Int × Int)} {x : Int} (hm : to[m]? = some x) : ldZ (colH W Y zw b1 b3 to T) none (.eptr (W.length + 2) b1 m 0) = some (.val (.int .u64 x)) := by
  unfold colH
  rw [ld_eptr]; exact ⟨_, _, eU x, co_at2 _ _ _ _, by rw [List.getElem?_map, hm]; rfl, rfl⟩
theorem col_st {W Y : ZH} {zw : ZV} {b1 b3 m : Nat} {to : List Int} {T : List (Int × Int)} {x : Int} (hm : m < to.length) (hL : L (W.length + 2) = true) : stZ L (colH W Y zw b1 b3 to T) [.val (.int .u64 x)] (.eptr (W.length + 2) b1 m 0) = some (colH W Y zw b1 b3 (to.set m x) T) := by
  rw [st_eptr]
  refine ⟨1, to.map eU, eU to[m], by unfold colH; exact co_at2 _ _ _ _, by rw [List.getElem?_map, List.getElem?_eq_getElem hm]; rfl, hL, by simp, ?_⟩
  unfold colH
  rw [co_st2, List.length_set, List.map_set]; rfl
theorem col_at1 {W Y : ZH} {zw : ZV} {b1 b3 : Nat} {to : List Int} {T : List (Int × Int)} : (colH W Y zw b1 b3 to T)[W.length + 1]? = some (.box [zw, .own (W.length + 2) b1 0 to.length false, .mp W.length, .own (W.length + 3) b3 0 T.length false]) := by
  unfold colH; exact co_at1 _ _ _ _
theorem col_at2 {W Y : ZH} {zw : ZV} {b1 b3 : Nat} {to : List Int} {T : List (Int × Int)} : (colH W Y zw b1 b3 to T)[W.length + 2]? = some (.grow b1 1 (to.map eU)) := by
  unfold colH; exact co_at2 _ _ _ _
/-- The word that is looked at. -/
theorem HS.word {F : List Int} {s : HSt} (he : objEnd F 0 = F.length) (hw : okW F = true) (hu : U64 F) (h : HS F s) (hi : s.i < s.to.length) : ∃ x, s.to[s.i]? = some x ∧ (0 ≤ x ∧ x < 18446744073709551616) ∧ (s.i ≠ s.nx → rightB x (objs F 0) = true) := by
  by_cases hn : s.i = s.nx
  · obtain ⟨k, x, _, _, _, _, hh, hlt, _⟩ := h.first he hi hn
    exact ⟨F[x.2.toNat], by rw [hh, List.getElem?_eq_getElem hlt], hu _ (List.getElem_mem hlt), fun h => absurd hn h⟩
  · obtain ⟨k, x, d, _, _, _, _, hlt, hh, _, hr⟩ := h.other he hw hi hn
    exact ⟨F[x.2.toNat + d], by rw [hh, List.getElem?_eq_getElem hlt], hu _ (List.getElem_mem hlt), fun _ => hr _ (List.getElem?_eq_getElem hlt)⟩
theorem Fin.frzTA {H0 : ZH} {i g off len : Nat} {ex : Bool} {H' : ZH} {K : ZV → ZH → Prop} {k : Nat} {rows : List (List ZV)} {vs cs : List ZV} {j c : Nat} (hj : vs[j]? = some (.agg cs)) (hc : cs[c]? = some (.own i g off len ex)) (hb : H'[i]? = some (.grow g k rows)) (hle : off + len ≤ rows.length) (hp : rows.flatten.all pureZ = true) (hk : Fin H0 (.tuple (vs.set j (.agg (cs.set c (.fz k ex ((rows.drop off).take len)))))) (H'.set i .dead) K) : Fin H0 (.tuple vs) H' K := fun fl L w w' a r e r' e' he hz => by
  subst he
  obtain ⟨ys, rfl, hys⟩ := hz.tuple_inv
  obtain ⟨y, hy, hyz⟩ := hys.get hj
  obtain ⟨us, rfl, hus⟩ := hyz.agg_inv
  obtain ⟨u, hu, huz⟩ := hus.get hc
  obtain ⟨w2, e1, e2, e3, e4, e5⟩ := freeze_own r' hb hle hp huz
  rw [← e1]
  have hcl : c < cs.length := (List.getElem?_eq_some_iff.1 hc).1
  have hagg : ZR w2 (.agg (cs.set c (.fz k ex ((rows.drop off).take len)))) (.agg us) := ZRs.toAgg ⟨by simp [hus.1], fun m z a hz' ha' => by
    by_cases hm : m = c
    · subst hm
      rw [List.getElem?_set] at hz'
      simp [hcl] at hz'
      rw [hu] at ha'; injection ha' with ha'
      subst hz'; subst ha'; exact e5
    · rw [List.getElem?_set, if_neg (Ne.symm hm)] at hz'
      exact (hus.2 m z a hz' ha').ext e4⟩
  refine hk fl L w w2 _ r e e3 (e'.trans e4) e2 (ZRs.toTuple ⟨by simp [hys.1], fun m z a hz' ha' => ?_⟩)
  have hjl : j < vs.length := (List.getElem?_eq_some_iff.1 hj).1
  by_cases hm : m = j
  · subst hm
    rw [List.getElem?_set] at hz'
    simp [hjl] at hz'
    rw [hy] at ha'; injection ha' with ha'
    subst hz'; subst ha'; exact hagg
  · rw [List.getElem?_set, if_neg (Ne.symm hm)] at hz'
    exact (hys.2 m z a hz' ha').ext e4
theorem Fin.truncT {H0 : ZH} {zs : List ZV} {H' : ZH} {K : ZV → ZH → Prop} (hm : Mods H0 H') (hz : zs.all (refs H0.length) = true) (k : K (.tuple zs) (H'.take H0.length)) : Fin H0 (.tuple zs) H' K := fun fl L w w' a r e r' e' he hzz => by
  subst e; subst he
  obtain ⟨r2, e2⟩ := trunc_w r r' e' hm
  obtain ⟨ys, rfl, hys⟩ := hzz.tuple_inv
  exact ⟨.tuple zs, truncW w' w.H.length, rfl, r2, e2, ZRs.toTuple ⟨hys.1, fun i z b h1 h2 => (hys.2 i z b h1 h2).ren (trunc_ren e'.Hl) (List.all_eq_true.1 hz z (List.mem_of_getElem? h1))⟩, k⟩
theorem pure_U {l : List Int} : (l.map eU).flatten.all pureZ = true := by
  induction l with
  | nil => rfl
  | cons a l ih => rw [List.map_cons, List.flatten_cons, List.all_append, ih]; rfl
theorem pure_P {l : List (Int × Int)} : (l.map eP).flatten.all pureZ = true := by
  induction l with
  | nil => rfl
  | cons a l ih => rw [List.map_cons, List.flatten_cons, List.all_append, ih]; rfl
theorem col_fin {A B C D : ZB} {b1 b3 g : Nat} {to roots : List Int} {T : List (Int × Int)} (hK : K (.tuple [.agg [.fz 1 false (to.map eU), .fz 1 false (roots.map eU)], .fz 2 false (T.map eP), Z64 0]) H) : Fin H (.tuple [.agg [.own (H.length + 4) b1 0 to.length false, .own (H.length + 6) g 0 roots.length false], .own (H.length + 5) b3 0 T.length false, Z64 0]) (H ++ [A, B, C, D, .grow b1 1 (to.map eU), .grow b3 2 (T.map eP), .grow g 1 (roots.map eU)]) K := by
  have at4 : ∀ (X : ZB) (Y : ZH), (H ++ (A :: B :: C :: D :: X :: Y))[H.length + 4]? = some X := fun X Y => by rw [List.getElem?_append_right (by omega), Nat.add_sub_cancel_left]; rfl
  have at5 : ∀ (E X : ZB) (Y : ZH), (H ++ (A :: B :: C :: D :: E :: X :: Y))[H.length + 5]? = some X := fun E X Y => by rw [List.getElem?_append_right (by omega), Nat.add_sub_cancel_left]; rfl
  have at6 : ∀ (E G X : ZB) (Y : ZH), (H ++ (A :: B :: C :: D :: E :: G :: X :: Y))[H.length + 6]? = some X := fun E G X Y => by rw [List.getElem?_append_right (by omega), Nat.add_sub_cancel_left]; rfl
  have st4 : ∀ (X Z : ZB) (Y : ZH), (H ++ (A :: B :: C :: D :: X :: Y)).set (H.length + 4) Z = H ++ (A :: B :: C :: D :: Z :: Y) := fun X Z Y => by rw [List.set_append_right _ _ (by omega), Nat.add_sub_cancel_left]; rfl
  have st5 : ∀ (E X Z : ZB) (Y : ZH), (H ++ (A :: B :: C :: D :: E :: X :: Y)).set (H.length + 5) Z = H ++ (A :: B :: C :: D :: E :: Z :: Y) := fun E X Z Y => by rw [List.set_append_right _ _ (by omega), Nat.add_sub_cancel_left]; rfl
  have st6 : ∀ (E G X Z : ZB) (Y : ZH), (H ++ (A :: B :: C :: D :: E :: G :: X :: Y)).set (H.length + 6) Z = H ++ (A :: B :: C :: D :: E :: G :: Z :: Y) := fun E G X Z Y => by rw [List.set_append_right _ _ (by omega), Nat.add_sub_cancel_left]; rfl
  refine Fin.frzTA (j := 0) (c := 0) rfl rfl (at4 _ _) (by simp) pure_U ?_
  rw [st4]
  refine Fin.frzTA (j := 0) (c := 1) rfl rfl (at6 _ _ _ _) (by simp) pure_U ?_
  rw [st6]
  refine Fin.frzT (j := 1) rfl (at5 _ _ _) (by simp) pure_P ?_
  rw [st5]
  refine Fin.truncT (Mods.ext H _) rfl ?_
  rw [List.take_left]
  simp only [List.drop_zero]
  rw [List.take_of_length_le (by simp), List.take_of_length_le (by simp), List.take_of_length_le (by simp)]
  exact hK
set_option maxHeartbeats 4000000 in
theorem collect_z {exw : Bool} {zr : ZV} {F R : List Int} (hcr : zr.isCell = true) (hr : ∀ X, rowsZ (H ++ X) 1 zr = some (R.map eU)) (huw : U64 F) (hur : U64 R) (hbW : F.length ≤ 100000000000000) (hbR : R.length ≤ 100000000000000) (hKe : chkE F R ≠ 0 → K (.tuple [.agg [.nil, .nil], .nil, Z64 (chkE F R)]) H) (hKo : chkE F R = 0 → ∀ st, HRun F ⟨0, 0, (rootsF F R).2.1, (rootsF F R).2.2⟩ st → st.i = st.to.length → K (.tuple [.agg [.fz 1 false (st.to.map eU), .fz 1 false ((rootsF F R).1.map eU)], .fz 2 false (st.T.map eP), Z64 0]) H) :
    ZC (boxX tb) (cFunc Try.prog) 9 [.agg [.fz 1 exw (F.map eU), zr]] L H K := by
  refine ZC.enterL ⟨[(6, [(1, 1), (3, 2)]), (7, [(0, 1)])], [], []⟩ (boxX_none (by decide)) f_hl_collect (by simp) fun hL => ?_
  simp only [c_hl_collect]
  have hL0 : L H.length = true := hL 0
  have hL1 : L (H.length + 1) = true := hL 1
  have g0 : ∀ A Y, (H ++ (A :: Y))[H.length]? = some A := fun A Y => hl_at0 A Y
  have g1 : ∀ A B Y, (H ++ (A :: B :: Y))[H.length + 1]? = some B := fun A B Y => hl_at1 A B Y
  have s1 : ∀ A B C Y, (H ++ (A :: B :: Y)).set (H.length + 1) C = H ++ (A :: C :: Y) := fun A B C Y => hl_st1 A B C Y
  have HR := Lib.hid hr
  clear hr
  repeat' (first | (simp only [zmPack, zxPack, ne_eq, zfree, owners, Nat.reduceLT, List.contains_cons, List.contains_nil, Nat.reduceBEq, BEq.rfl, chunk, setAt, List.lookup_cons, List.lookup_nil, reduceCtorEq, Nat.reduceEqDiff, reduceIte, implies_true, forall_const, Nat.reduceMul, Nat.reduceSub, Nat.reduceAdd, Nat.reduceLeDiff, g0, g1, s1, *]) | (simp only [zgoO, zgoG, zO_nil, zthen_normal, zgoC]) | (with_reducible apply And.intro) | (with_reducible intro _))
  refine check_z (W := F) (R := R) rfl hcr (fun X => by simp [rowsZ]) (fun X => by rw [List.append_assoc]; exact HR.out _) huw hur ?_ hbW hbR
  by_cases hc : chkE F R = 0
  · have HKO := Lib.hid (hKo hc)
    clear hKe hKo
    have lr := fun X => rows_len (HR.out X)
    simp only [List.length_map] at lr
    repeat' (first | (simp only [zmPack, zxPack, ne_eq, zfree, owners, Nat.reduceLT, List.contains_cons, List.contains_nil, Nat.reduceBEq, BEq.rfl, chunk, setAt, List.lookup_cons, List.lookup_nil, reduceCtorEq, Nat.reduceEqDiff, reduceIte, implies_true, forall_const, Nat.reduceMul, Nat.reduceSub, Nat.reduceAdd, Nat.reduceLeDiff, g0, g1, s1, hc, z_mkMap, lr, hl_cells, hl_cell, *]) | (simp only [zgoO, zgoG, zO_nil, zthen_normal, zgoC]) | (with_reducible apply And.intro) | (with_reducible intro _))
    obtain ⟨c1, c2, c3, c4, c5⟩ := chk0 hc
    obtain ⟨W, hW⟩ : ∃ W, W = H ++ [.box [.fz 1 exw (F.map eU), zr], .box [.nil, .nil]] := ⟨_, rfl⟩
    have hWl : W.length = H.length + 2 := by rw [hW]; simp
    have hrr : ∀ w ∈ R, rightB w (objs F 0) = true := fun w hw => List.all_eq_true.1 c5 w hw
    have hZ : ∀ Y g1 g3 to T, rowsZ (colH W Y (.fz 1 exw (F.map eU)) g1 g3 to T) 1 zr = some (R.map eU) := fun Y g1 g3 to T => by unfold colH; rw [hW, List.append_assoc]; exact HR.out _
    have hLW : ∀ k, L (W.length + k) = true := fun k => by rw [hWl, Nat.add_assoc]; exact hL _
    have L6 : L (H.length + 6) = true := hL 6
    have a4 : ∀ B Z zw a b to T, (colH W (B :: Z) zw a b to T)[H.length + 6]? = some B := fun B Z zw a b to T => by
      rw [show H.length + 6 = W.length + 4 by omega]; exact co_at4 _ _ _ _ _
    have t4 : ∀ B C Z zw a b to T, (colH W (B :: Z) zw a b to T).set (H.length + 6) C = colH W (C :: Z) zw a b to T := fun B C Z zw a b to T => by
      rw [show H.length + 6 = W.length + 4 by omega]; exact co_st4 _ _ _ _ _ _
    refine zW_forK [(1, .ptr H.length 0), (2, .ptr (H.length + 1) 0), (6, .ptr (H.length + 3) 0), (26, zr)] R.length (fun k s' h' => ∃ g1 g3 g, s' 7 = .own (H.length + 6) g 0 k false ∧ h' = colH W [.grow g 1 ((rootsF F (R.take k)).1.map eU)] (.fz 1 exw (F.map eU)) g1 g3 (rootsF F (R.take k)).2.1 (rootsF F (R.take k)).2.2) (by omega) ⟨rfl, rfl, rfl, rfl, rfl, rfl⟩ rfl rfl (by repeat' (first | exact trivial | (refine ⟨rfl, ?_⟩) | (refine ⟨by simp only [zupd_at, Nat.reduceEqDiff, reduceIte]; assumption, ?_⟩))) rfl rfl (by decide) ⟨0, 0, 0, rfl, by rw [hW]; simp [colH, newM, rootsF]⟩ ?_ ?_
    · rintro k s' h' hk ⟨b1, b3, g, f7, rfl⟩ hi hl ⟨f1, f2, f6, f26, -⟩
      obtain ⟨q, hq, hld⟩ := rows_at (hZ [.grow g 1 ((rootsF F (R.take k)).1.map eU)] b1 b3 (rootsF F (R.take k)).2.1 (rootsF F (R.take k)).2.2) hk
      have hI := rootsF_inv c3 (R.take k) fun w hw => hrr w (List.mem_of_mem_take hw)
      have hsm := hI.small c3
      have hux := hur R[k] (List.getElem_mem hk)
      have hrx := hrr R[k] (List.getElem_mem hk)
      have hsn := rootsF_snoc (F := F) (R := R.take k) (w := R[k])
      rw [← List.take_succ_eq_append_getElem hk] at hsn
      have hkl : (rootsF F (R.take k)).1.length = k := by rw [rootsF_len, List.length_take]; omega
      have hre : (k + 1) * 8 ≤ reach := by unfold reach; omega
      obtain ⟨x, hx⟩ : ∃ x, x = R[k] := ⟨_, rfl⟩
      rw [← hx] at hld hux hrx hsn
      obtain ⟨rs, hrs⟩ : ∃ rs, rs = rootsF F (R.take k) := ⟨_, rfl⟩
      rw [hsn]
      rw [← hrs] at hq hld hsm hkl hI ⊢
      have HS := Lib.hid hsm
      have HX := Lib.hid hux
      have HRX := Lib.hid hrx
      have HC := Lib.hid c1
      have HE := Lib.hid c3
      have hle : k ≤ (rs.1.map eU).length := by rw [List.length_map]; omega
      clear hsn hrs hx hI hsm hux hrx c1 c2 c3 c4 c5 hrr huw hur hW
      repeat' (first | (simp only [zmPack, zxPack, ne_eq, zfree, owners, Nat.reduceLT, List.contains_cons, List.contains_nil, Nat.reduceBEq, BEq.rfl, chunk, setAt, List.lookup_cons, List.lookup_nil, reduceCtorEq, Nat.reduceEqDiff, reduceIte, implies_true, forall_const, Nat.reduceMul, Nat.reduceSub, Nat.reduceAdd, Nat.reduceLeDiff, hq, hld, *]) | (simp only [zgoO, zgoG, zO_nil, zthen_normal, zgoC]) | (with_reducible apply And.intro) | (with_reducible intro _))
      rw [show H.length + 3 = W.length + 1 by omega]
      refine moved_z hLW HX.out HC.out (by have := HS.out; have := HC.out; omega) (by have := HS.out; have := HC.out; omega) (right_pre HE.out HRX.out) fun d1 d3 => ?_
      repeat' (first | (simp only [zmPack, zxPack, ne_eq, zfree, owners, Nat.reduceLT, List.contains_cons, List.contains_nil, Nat.reduceBEq, BEq.rfl, chunk, setAt, List.lookup_cons, List.lookup_nil, reduceCtorEq, Nat.reduceEqDiff, reduceIte, implies_true, forall_const, Nat.reduceMul, Nat.reduceSub, Nat.reduceAdd, Nat.reduceLeDiff, a4, t4, L6, hkl, hre, *]) | (simp only [zgoO, zgoG, zO_nil, zthen_normal, zgoC]) | (with_reducible apply And.intro) | (with_reducible intro _))
      exact ⟨d1, d3, by rw [List.take_of_length_le (by rw [List.length_map]; omega)]; simp⟩
    · rintro s' h' ⟨b1, b3, g, f7, rfl⟩ ⟨f1, f2, f6, f26, -⟩
      rw [List.take_of_length_le (Nat.le_refl _)]
      have hI := rootsF_inv c3 R hrr
      obtain ⟨rs, hrs⟩ : ∃ rs, rs = rootsF F R := ⟨_, rfl⟩
      rw [← hrs] at hI HKO ⊢
      have hS0 := HS.start hI
      have Hh := Lib.hid (fun s (h : HRun F ⟨0, 0, rs.2.1, rs.2.2⟩ s) => HRun.hs c3 c4 hS0 h)
      have HC := Lib.hid c1
      have HE := Lib.hid c3
      have HO := Lib.hid c4
      have HU := Lib.hid huw
      have HrL := Lib.hid (show rs.1.length = R.length by rw [hrs, rootsF_len])
      have HWW := Lib.hid hW
      clear hrs hI hS0 c1 c2 c3 c4 c5 hrr huw hur hW
      repeat' (first | (simp only [zmPack, zxPack, ne_eq, zfree, owners, Nat.reduceLT, List.contains_cons, List.contains_nil, Nat.reduceBEq, BEq.rfl, chunk, setAt, List.lookup_cons, List.lookup_nil, reduceCtorEq, Nat.reduceEqDiff, reduceIte, implies_true, forall_const, Nat.reduceMul, Nat.reduceSub, Nat.reduceAdd, Nat.reduceLeDiff, a4, *]) | (simp only [zgoO, zgoG, zO_nil, zthen_normal, zgoC]) | (with_reducible apply And.intro) | (with_reducible intro _))
      refine zW_whileK [(2, .ptr (H.length + 1) 0), (6, .ptr (H.length + 3) 0), (7, .own (H.length + 6) g 0 R.length false)] (F.length + 1) (fun n s' h' => ∃ st b1 b3, HRun F ⟨0, 0, rs.2.1, rs.2.2⟩ st ∧ st.i = st.nx ∧ s' 10 = Z64 (st.i : Int) ∧ h' = colH W [.grow g 1 (rs.1.map eU)] (.fz 1 exw (F.map eU)) b1 b3 st.to st.T ∧ n = F.length + 1 - st.i) (by repeat' (first | exact trivial | (refine ⟨rfl, ?_⟩) | (refine ⟨by simp only [zupd_at, Nat.reduceEqDiff, reduceIte]; assumption, ?_⟩))) rfl ⟨⟨0, 0, rs.2.1, rs.2.2⟩, b1, b3, .refl, rfl, rfl, rfl, rfl⟩ ?_
      rintro n s' h' ⟨st, b1, b3, hrun, hin, f10, rfl, rfl⟩ ⟨f2, f6, f7, -⟩
      have hS := Hh.out st hrun
      have hsm := hS.inv.small HE.out
      have e3 : H.length + 3 = W.length + 1 := by omega
      rw [e3] at f6
      have HWL := Lib.hid hWl
      clear hWl e3
      have at1 : ∀ {Y : ZH} {zw : ZV} {b1 b3 : Nat} {to : List Int} {T : List (Int × Int)}, (colH W Y zw b1 b3 to T)[W.length + 1]? = some (.box [zw, .own (W.length + 2) b1 0 to.length false, .mp W.length, .own (W.length + 3) b3 0 T.length false]) := col_at1
      have at2 : ∀ {Y : ZH} {zw : ZV} {b1 b3 : Nat} {to : List Int} {T : List (Int × Int)}, (colH W Y zw b1 b3 to T)[W.length + 2]? = some (.grow b1 1 (to.map eU)) := col_at2
      by_cases hi : st.i < st.to.length
      · obtain ⟨x, hx, hxb, -⟩ := hS.word HE.out HO.out HU.out hi
        have k1 : (st.i : Int) < (st.to.length : Int) := by omega
        have q1 := fun Y zw b1 b3 => col_el (W := W) (Y := Y) (zw := zw) (b1 := b1) (b3 := b3) (T := st.T) hi
        have q2 := fun Y zw b1 b3 => col_ld (W := W) (Y := Y) (zw := zw) (b1 := b1) (b3 := b3) (T := st.T) hx
        have hst1 : hstep F st = ⟨st.i + 1, st.i + 1 + lng x, st.to, st.T⟩ := by unfold hstep; rw [if_pos hin, hx, Option.getD_some]
        have hrun1 : HRun F ⟨0, 0, rs.2.1, rs.2.2⟩ ⟨st.i + 1, st.i + 1 + lng x, st.to, st.T⟩ := by rw [← hst1]; exact hrun.step hi
        have hnx : st.i + 1 + lng x ≤ st.to.length := (Hh.out _ hrun1).le.2
        have lg : x % 4294967296 = (lng x : Int) := by unfold lng; omega
        have w1 : IntKind.i64.wrap ((st.i : Int) + 1) = ((st.i + 1 : Nat) : Int) := by rw [IntWalk.i64_in _ (by omega)]; omega
        have w2 : IntKind.i64.wrap ((st.i : Int) + (lng x : Int)) = ((st.i + lng x : Nat) : Int) := by rw [IntWalk.i64_in _ (by omega)]; omega
        have w3 : IntKind.i64.wrap (1 + (lng x : Int)) = ((1 + lng x : Nat) : Int) := by rw [IntWalk.i64_in _ (by omega)]; omega
        have w4 : IntKind.i64.wrap ((st.i : Int) + ((1 + lng x : Nat) : Int)) = ((st.i + 1 + lng x : Nat) : Int) := by rw [IntWalk.i64_in _ (by omega)]; omega
        have HRN := Lib.hid hrun1
        have HNX := Lib.hid hnx
        have HSM := Lib.hid hsm
        have HLG := Lib.hid lg
        clear hrun1 hnx hst1 hx hxb hsm lg hin
        repeat' (first | (simp only [zmPack, zxPack, ne_eq, zfree, owners, Nat.reduceLT, List.contains_cons, List.contains_nil, Nat.reduceBEq, BEq.rfl, chunk, setAt, List.lookup_cons, List.lookup_nil, reduceCtorEq, Nat.reduceEqDiff, reduceIte, implies_true, forall_const, Nat.reduceMul, Nat.reduceSub, Nat.reduceAdd, Nat.reduceLeDiff, q1, q2, k1, *]) | (simp only [zgoO, zgoG, zO_nil, zthen_normal, zgoC]) | (with_reducible apply And.intro) | (with_reducible intro _))
        refine long_z ?_
        rw [HLG.out]
        repeat' (first | (simp only [zmPack, zxPack, ne_eq, zfree, owners, Nat.reduceLT, List.contains_cons, List.contains_nil, Nat.reduceBEq, BEq.rfl, chunk, setAt, List.lookup_cons, List.lookup_nil, reduceCtorEq, Nat.reduceEqDiff, reduceIte, implies_true, forall_const, Nat.reduceMul, Nat.reduceSub, Nat.reduceAdd, Nat.reduceLeDiff, w1, *]) | (simp only [zgoO, zgoG, zO_nil, zthen_normal, zgoC]) | (with_reducible apply And.intro) | (with_reducible intro _))
        refine zW_whileK [(2, .ptr (H.length + 1) 0), (6, .ptr (W.length + 1) 0), (7, .own (H.length + 6) g 0 R.length false), (10, Z64 (st.i : Int)), (11, Z64 (lng x : Int))] (F.length + 1 - (st.i + 1)) (fun n s' h' => ∃ st2 b1 b3, HRun F ⟨0, 0, rs.2.1, rs.2.2⟩ st2 ∧ st2.nx = st.i + 1 + lng x ∧ s' 12 = Z64 (st2.i : Int) ∧ h' = colH W [.grow g 1 (rs.1.map eU)] (.fz 1 exw (F.map eU)) b1 b3 st2.to st2.T ∧ n = F.length + 1 - st2.i) (by repeat' (first | exact trivial | (refine ⟨rfl, ?_⟩) | (refine ⟨by simp only [zupd_at, Nat.reduceEqDiff, reduceIte]; assumption, ?_⟩))) rfl ⟨⟨st.i + 1, st.i + 1 + lng x, st.to, st.T⟩, b1, b3, HRN.out, rfl, rfl, rfl, rfl⟩ ?_
        rintro n s' h' ⟨st2, d1, d3, hrun2, hnx2, f12, rfl, rfl⟩ ⟨f2, f6, f7, f10, f11, -⟩
        have hS2 := Hh.out _ hrun2
        have hsm2 := hS2.inv.small HE.out
        by_cases hi2 : st2.i < st2.nx
        · have hlt2 : st2.i < st2.to.length := by have := hS2.le.2; omega
          obtain ⟨y, hy, hyb, hyr⟩ := hS2.word HE.out HO.out HU.out hlt2
          have hyr := hyr (by omega)
          have k2 : (st2.i : Int) ≤ ((st.i + lng x : Nat) : Int) := by omega
          have p1 := fun Y zw b1 b3 => col_el (W := W) (Y := Y) (zw := zw) (b1 := b1) (b3 := b3) (T := st2.T) hlt2
          have p2 := fun Y zw b1 b3 => col_ld (W := W) (Y := Y) (zw := zw) (b1 := b1) (b3 := b3) (T := st2.T) hy
          obtain ⟨e, E, e1, e2⟩ := mvW_ext F y st2.to st2.T
          have hlt3 : st2.i < (mvW F y st2.to st2.T).2.1.length := by rw [e1, List.length_append]; omega
          have p3 := fun Y zw b1 b3 => col_el (W := W) (Y := Y) (zw := zw) (b1 := b1) (b3 := b3) (T := (mvW F y st2.to st2.T).2.2) hlt3
          have p4 := fun Y zw b1 b3 => col_st (L := L) (W := W) (Y := Y) (zw := zw) (b1 := b1) (b3 := b3) (T := (mvW F y st2.to st2.T).2.2) (x := (mvW F y st2.to st2.T).1) hlt3 (hLW 2)
          have hst2 : hstep F st2 = ⟨st2.i + 1, st2.nx, (mvW F y st2.to st2.T).2.1.set st2.i (mvW F y st2.to st2.T).1, (mvW F y st2.to st2.T).2.2⟩ := by unfold hstep; rw [if_neg (by omega), hy, Option.getD_some]
          have hrun3 := hrun2.step hlt2
          have w5 : IntKind.i64.wrap ((st2.i : Int) + 1) = ((st2.i + 1 : Nat) : Int) := by rw [IntWalk.i64_in _ (by have := HC.out; omega)]; omega
          have hm : F.length + 1 - (st2.i + 1) < F.length + 1 - st2.i := by omega
          obtain ⟨r1, r2⟩ : st2.to.length ≤ 2000 ∧ st2.T.length ≤ 2000 := by have := HC.out; omega
          have HY := Lib.hid hyb
          have HR3 := Lib.hid hrun3
          have HS2 := Lib.hid hst2
          have HNX2 := Lib.hid hnx2
          have HM := Lib.hid hm
          clear hrun3 hst2 hnx2 hm hyb hS2 hsm2 hlt2 hy hlt3 e1 e2 hi2
          repeat' (first | (simp only [zmPack, zxPack, ne_eq, zfree, owners, Nat.reduceLT, List.contains_cons, List.contains_nil, Nat.reduceBEq, BEq.rfl, chunk, setAt, List.lookup_cons, List.lookup_nil, reduceCtorEq, Nat.reduceEqDiff, reduceIte, implies_true, forall_const, Nat.reduceMul, Nat.reduceSub, Nat.reduceAdd, Nat.reduceLeDiff, p1, p2, k2, w2, *]) | (simp only [zgoO, zgoG, zO_nil, zthen_normal, zgoC]) | (with_reducible apply And.intro) | (with_reducible intro _))
          refine moved_z hLW HY.out HC.out r1 r2 (right_pre HE.out hyr) fun d1 d3 => ?_
          repeat' (first | (simp only [zmPack, zxPack, ne_eq, zfree, owners, Nat.reduceLT, List.contains_cons, List.contains_nil, Nat.reduceBEq, BEq.rfl, chunk, setAt, List.lookup_cons, List.lookup_nil, reduceCtorEq, Nat.reduceEqDiff, reduceIte, implies_true, forall_const, Nat.reduceMul, Nat.reduceSub, Nat.reduceAdd, Nat.reduceLeDiff, p3, p4, w5, *]) | (simp only [zgoO, zgoG, zO_nil, zthen_normal, zgoC]) | (with_reducible apply And.intro) | (with_reducible intro _))
          all_goals refine ⟨_, HM.out, ⟨st2.i + 1, st2.nx, (mvW F y st2.to st2.T).2.1.set st2.i (mvW F y st2.to st2.T).1, (mvW F y st2.to st2.T).2.2⟩, by rw [← HS2.out]; exact HR3.out, HNX2.out, rfl, ⟨d1, d3, rfl⟩, rfl⟩
        · have hie : st2.i = st2.nx := by have := hS2.le.1; omega
          have k2 : ¬ ((st2.i : Int) ≤ ((st.i + lng x : Nat) : Int)) := by omega
          have hm : F.length + 1 - st2.i < F.length + 1 - st.i := by have := HSM.out; omega
          have hfin : st.i + 1 + lng x = st2.i := by omega
          have HM := Lib.hid hm
          have HF := Lib.hid hfin
          have HIE := Lib.hid hie
          clear hm hfin hie hS2 hsm2 hnx2 hi2
          repeat' (first | (simp only [zmPack, zxPack, ne_eq, zfree, owners, Nat.reduceLT, List.contains_cons, List.contains_nil, Nat.reduceBEq, BEq.rfl, chunk, setAt, List.lookup_cons, List.lookup_nil, reduceCtorEq, Nat.reduceEqDiff, reduceIte, implies_true, forall_const, Nat.reduceMul, Nat.reduceSub, Nat.reduceAdd, Nat.reduceLeDiff, w2, w3, w4, k2, *]) | (simp only [zgoO, zgoG, zO_nil, zthen_normal, zgoC]) | (with_reducible apply And.intro) | (with_reducible intro _))
          all_goals refine ⟨_, HM.out, st2, hrun2, HIE.out, by rw [HF.out], ⟨d1, d3, rfl⟩, rfl⟩
      · have k1 : ¬ ((st.i : Int) < (st.to.length : Int)) := by omega
        have HEQ := Lib.hid (show st.i = st.to.length by have := hS.le; omega)
        have at3 : ∀ {Y : ZH} {zw : ZV} {b1 b3 : Nat} {to : List Int} {T : List (Int × Int)}, (colH W Y zw b1 b3 to T)[W.length + 3]? = some (.grow b3 2 (T.map eP)) := by unfold colH; exact co_at3 _ _ _ _
        have fin := col_fin (A := .box [.fz 1 exw (F.map eU), zr]) (B := .box [.own (W.length + 2) b1 0 st.to.length false, .own (H.length + 6) g 0 R.length false]) (C := .box ((newM st.T).map ent)) (D := .box [.fz 1 exw (F.map eU), .own (W.length + 2) b1 0 st.to.length false, .mp W.length, .own (W.length + 3) b3 0 st.T.length false]) (b1 := b1) (b3 := b3) (g := g) (HKO.out st hrun HEQ.out)
        have se : ∀ B, (colH W [.grow g 1 (rs.1.map eU)] (.fz 1 exw (F.map eU)) b1 b3 st.to st.T).set (H.length + 1) B = H ++ [.box [.fz 1 exw (F.map eU), zr], B, .box ((newM st.T).map ent), .box [.fz 1 exw (F.map eU), .own (W.length + 2) b1 0 st.to.length false, .mp W.length, .own (W.length + 3) b3 0 st.T.length false], .grow b1 1 (st.to.map eU), .grow b3 2 (st.T.map eP), .grow g 1 (rs.1.map eU)] := fun B => by
          unfold colH
          rw [HWW.out, List.append_assoc]
          exact s1 _ _ _ _
        have ge : (colH W [.grow g 1 (rs.1.map eU)] (.fz 1 exw (F.map eU)) b1 b3 st.to st.T)[H.length + 1]? = some (.box [.nil, .nil]) := by
          unfold colH
          rw [HWW.out, List.append_assoc]
          exact g1 _ _ _
        have ne : (H.length + 1 == W.length + 1) = false := by have := HWL.out; rw [beq_eq_false_iff_ne]; omega
        rw [HrL.out, show H.length + 4 = W.length + 2 by have := HWL.out; omega, show H.length + 5 = W.length + 3 by have := HWL.out; omega] at fin
        have lt1 : W.length + 1 < (colH W [.grow g 1 (rs.1.map eU)] (.fz 1 exw (F.map eU)) b1 b3 st.to st.T).length := by unfold colH; simp
        have lt3 : W.length + 3 < (colH W [.grow g 1 (rs.1.map eU)] (.fz 1 exw (F.map eU)) b1 b3 st.to st.T).length := by unfold colH; simp
        have lt2 : W.length + 2 < (colH W [.grow g 1 (rs.1.map eU)] (.fz 1 exw (F.map eU)) b1 b3 st.to st.T).length := by unfold colH; simp
        clear hi hsm hS hin
        repeat' (first | (simp only [zmPack, zxPack, ne_eq, zfree, owners, Nat.reduceLT, List.contains_cons, List.contains_nil, Nat.reduceBEq, BEq.rfl, chunk, setAt, List.lookup_cons, List.lookup_nil, reduceCtorEq, Nat.reduceEqDiff, reduceIte, implies_true, forall_const, Nat.reduceMul, Nat.reduceSub, Nat.reduceAdd, Nat.reduceLeDiff, k1, at3, se, ge, ne, lt1, lt2, lt3, *]) | (simp only [zgoO, zgoG, zO_nil, zthen_normal, zgoC]) | (with_reducible apply And.intro) | (with_reducible intro _))
  · have fin : ∀ X, Fin H (.tuple [.agg [.nil, .nil], .nil, Z64 (chkE F R)]) (H ++ X) K := fun X => Fin.truncT (Mods.ext H X) rfl (by rw [List.take_left]; exact hKe hc)
    clear hKe
    repeat' (first | (simp only [zmPack, zxPack, ne_eq, zfree, owners, Nat.reduceLT, List.contains_cons, List.contains_nil, Nat.reduceBEq, BEq.rfl, chunk, setAt, List.lookup_cons, List.lookup_nil, reduceCtorEq, Nat.reduceEqDiff, reduceIte, implies_true, forall_const, Nat.reduceMul, Nat.reduceSub, Nat.reduceAdd, Nat.reduceLeDiff, g0, g1, s1, hc, *]) | (simp only [zgoO, zgoG, zO_nil, zthen_normal, zgoC]) | (with_reducible apply And.intro) | (with_reducible intro _))
end Go.Proofs.Ytijcjkgammldlaa
