/-
  Proved: the law HaulAlike answers true, whatever the input: each object that was moved has its mark and, word by word, what it had; so have roots; objects stand one behind the other, as they were told, and no word is left over.
-/
import Derived.Test.YtijcjkgammldlaaMrA7
import Derived.Test.YtijcjkgammldlaaMrA9
namespace Go.Proofs.Ytijcjkgammldlaa
open Go Go.RowKit
set_option linter.unusedVariables false
set_option linter.unusedSimpArgs false
/-- A word, when all was moved. -/
def mapW (T : List (Int × Int)) (w : Int) : Int := if placeB w = false then w else match T.find? fun x => decide (unNum w = x.2) with
  | some x => boxW 5 x.1
  | none => w
theorem find_ex {T : List (Int × Int)} {n : Int} (h : ∃ y ∈ T, y.2 = n) : ∃ x ∈ T, x.2 = n ∧ T.find? (fun x => decide (n = x.2)) = some x := by
  obtain ⟨y, hy, e⟩ := h
  cases hf : T.find? (fun x => decide (n = x.2)) with
  | none => exact absurd (decide_eq_true e.symm) (List.find?_eq_none.1 hf y hy)
  | some x =>
    have := List.find?_some hf
    exact ⟨x, List.mem_of_find?_eq_some hf, (of_decide_eq_true this).symm, rfl⟩
theorem mapW_ext {T E : List (Int × Int)} {w : Int} (h : placeB w = true → ∃ y ∈ T, y.2 = unNum w) : mapW (T ++ E) w = mapW T w := by
  unfold mapW
  by_cases hp : placeB w = false
  · rw [if_pos hp, if_pos hp]
  · obtain ⟨x, _, _, hf⟩ := find_ex (h (by simpa using hp))
    rw [if_neg hp, if_neg hp, List.find?_append, hf]; rfl
theorem mvW_map (F : List Int) (w : Int) (to : List Int) (T : List (Int × Int)) : (mvW F w to T).1 = mapW (mvW F w to T).2.2 w ∧ (placeB w = true → ∃ y ∈ (mvW F w to T).2.2, y.2 = unNum w) := by
  unfold mvW
  by_cases hp : placeB w = false
  · rw [if_pos hp]
    exact ⟨by unfold mapW; rw [if_pos hp], fun h => by rw [hp] at h; cases h⟩
  · rw [if_neg hp]
    cases hf : T.find? fun x => decide (unNum w = x.2) with
    | some x =>
      refine ⟨by unfold mapW; rw [if_neg hp]; simp only [hf], fun _ => ⟨x, List.mem_of_find?_eq_some hf, ?_⟩⟩
      have := List.find?_some hf
      exact (of_decide_eq_true this).symm
    | none =>
      refine ⟨?_, fun _ => ⟨_, List.mem_append_right _ (List.mem_singleton_self _), rfl⟩⟩
      unfold mapW
      rw [if_neg hp]
      simp only [List.find?_append, hf, Option.none_or, List.find?_cons, decide_true]
theorem mvW_new {F : List Int} {w : Int} {to : List Int} {T : List (Int × Int)} : ∀ x ∈ (mvW F w to T).2.2, x ∈ T ∨ placeB w = true ∧ x.2 = unNum w := by
  unfold mvW
  intro x hx
  split at hx
  · exact .inl hx
  · rename_i hp
    split at hx
    · exact .inl hx
    · rcases List.mem_append.1 hx with hx | hx
      · exact .inl hx
      · rw [List.mem_singleton.1 hx]; exact .inr ⟨by simpa using hp, rfl⟩
/-- Is nothing behind i, and no first word, one that is to be turned? -/
def noHead (F : List Int) (T : List (Int × Int)) (j : Nat) : Prop := ∀ (k : Nat) x, T[k]? = some x → ol F T k ≠ j
/-- All ahead of i is as it is to be. -/
def Cop (F : List Int) (s : HSt) : Prop := ∀ j o, j < s.i → (orig F s.T)[j]? = some o → noHead F s.T j → s.to[j]? = some (mapW s.T o) ∧ (placeB o = true → ∃ y ∈ s.T, y.2 = unNum o) ∧ rightB o (objs F 0) = true
theorem Cop.step {F : List Int} {s : HSt} (he : objEnd F 0 = F.length) (hw : okW F = true) (h : HS F s) (hi : s.i < s.to.length) (c : Cop F s) : Cop F (hstep F s) := by
  unfold hstep
  by_cases hn : s.i = s.nx
  · rw [if_pos hn]
    intro j o hj ho hnh
    rcases Nat.lt_or_ge j s.i with h' | h'
    · exact c j o h' ho hnh
    · have hj : j < s.i + 1 := hj
      have e : j = s.i := by omega
      subst e
      obtain ⟨k, x, hk, hx, h2, _⟩ := h.first he hi hn
      exact absurd (h2.symm.trans hn.symm) (hnh k x hx)
  · rw [if_neg hn]
    obtain ⟨k, x, d, hx, hd1, hd2, hid, hlt, hto, hor, hr⟩ := h.other he hw hi hn
    obtain ⟨e, E, e1, e2⟩ := mvW_ext F (s.to[s.i]?.getD 0) s.to s.T
    obtain ⟨m1, m2⟩ := mvW_map F (s.to[s.i]?.getD 0) s.to s.T
    intro j o hj ho hnh
    have hj : j < s.i + 1 := hj
    have hjl : j < (orig F s.T).length := by rw [← h.inv.len]; omega
    have ho : (orig F (mvW F (s.to[s.i]?.getD 0) s.to s.T).2.2)[j]? = some o := ho
    rw [e2, orig_app, List.getElem?_append_left hjl] at ho
    have hnh2 : noHead F s.T j := fun k' x' hx' => by
      have hk' := (List.getElem?_eq_some_iff.1 hx').1
      have := hnh k' x' (by show (mvW F (s.to[s.i]?.getD 0) s.to s.T).2.2[k']? = _; rw [e2, List.getElem?_append_left hk']; exact hx')
      have this : ol F (mvW F (s.to[s.i]?.getD 0) s.to s.T).2.2 k' ≠ j := this
      rw [e2, ol_ext (by omega)] at this
      exact this
    show ((mvW F (s.to[s.i]?.getD 0) s.to s.T).2.1.set s.i (mvW F (s.to[s.i]?.getD 0) s.to s.T).1)[j]? = some (mapW (mvW F (s.to[s.i]?.getD 0) s.to s.T).2.2 o) ∧ (placeB o = true → ∃ y ∈ (mvW F (s.to[s.i]?.getD 0) s.to s.T).2.2, y.2 = unNum o) ∧ _
    rcases Nat.lt_or_ge j s.i with h' | h'
    · obtain ⟨c1, c2, c3⟩ := c j o h' ho hnh2
      rw [e1, e2]
      refine ⟨?_, fun hp => ?_, c3⟩
      · rw [List.getElem?_set, if_neg (by omega), List.getElem?_append_left (by omega), c1, mapW_ext c2]
      · obtain ⟨y, hy, e⟩ := c2 hp
        exact ⟨y, List.mem_append_left _ hy, e⟩
    · have e : j = s.i := by omega
      subst e
      rw [hor] at ho
      have hg : s.to[s.i]?.getD 0 = o := by rw [ho]; rfl
      rw [hg] at m1 m2 e1 e2 ⊢
      refine ⟨?_, m2, hr o (by rw [← hto]; exact ho)⟩
      rw [← m1, List.getElem?_set, if_pos rfl, if_pos (by rw [e1, List.length_append]; omega)]
theorem HRun.cop {F : List Int} {s0 s : HSt} (he : objEnd F 0 = F.length) (hw : okW F = true) (h0 : HS F s0) (hz : s0.i = 0) (h : HRun F s0 s) : Cop F s := by
  induction h with
  | refl => intro j o hj; rw [hz] at hj; omega
  | step hr hi ih => exact Cop.step he hw (hr.hs he hw h0) hi ih
theorem hstep_ext (F : List Int) (s : HSt) : ∃ E, (hstep F s).T = s.T ++ E := by
  unfold hstep
  split
  · exact ⟨[], by simp⟩
  · obtain ⟨e, E, e1, e2⟩ := mvW_ext F (s.to[s.i]?.getD 0) s.to s.T
    exact ⟨E, e2⟩
theorem HRun.ext {F : List Int} {s0 s : HSt} (h : HRun F s0 s) : ∃ E, s.T = s0.T ++ E := by
  induction h with
  | refl => exact ⟨[], by simp⟩
  | step _ _ ih =>
    obtain ⟨E, e⟩ := ih
    obtain ⟨E2, e2⟩ := hstep_ext F _
    exact ⟨E ++ E2, by rw [e2, e, List.append_assoc]⟩
theorem no_head {F : List Int} {T : List (Int × Int)} {k d : Nat} {x : Int × Int} (hx : T[k]? = some x) (hl : x.2.toNat + osz F x.2.toNat ≤ F.length) (h1 : 1 ≤ d) (h2 : d < osz F x.2.toNat) : noHead F T (ol F T k + d) := fun k' x' hx' e => by
  rcases Nat.lt_or_ge k k' with h | h
  · have := ol_mono (F := F) (T := T) (show k + 1 ≤ k' from h)
    rw [ol_succ hx hl] at this
    omega
  · have := ol_mono (F := F) (T := T) h
    omega
/-- What stands when all is done. -/
structure Done (F R : List Int) (to : List Int) (T : List (Int × Int)) : Prop where
  inv : HInv F to.length to T
  cop : ∀ j o, (orig F T)[j]? = some o → noHead F T j → to[j]? = some (mapW T o) ∧ (placeB o = true → ∃ y ∈ T, y.2 = unNum o) ∧ rightB o (objs F 0) = true
  pre : ∃ E, T = (rootsF F R).2.2 ++ E
theorem done_of {F R : List Int} (hc : chkE F R = 0) {s : HSt} (h : HRun F ⟨0, 0, (rootsF F R).2.1, (rootsF F R).2.2⟩ s) (hi : s.i = s.to.length) : Done F R s.to s.T := by
  obtain ⟨c1, c2, c3, c4, c5⟩ := chk0 hc
  have h0 := HS.start (rootsF_inv c3 R fun w hw => List.all_eq_true.1 c5 w hw)
  have hs := h.hs c3 c4 h0
  have hcp := h.cop c3 c4 h0 rfl
  refine ⟨hi ▸ hs.inv, fun j o ho hn => hcp j o ?_ ho hn, h.ext⟩
  have := (List.getElem?_eq_some_iff.1 ho).1
  rw [hi, hs.inv.len]; exact this
/-- Roots are as they are to be. -/
theorem roots_map {F R : List Int} : (rootsF F R).1 = R.map (mapW (rootsF F R).2.2) ∧ ∀ w ∈ R, placeB w = true → ∃ y ∈ (rootsF F R).2.2, y.2 = unNum w := by
  refine snoc_ind (P := fun R => (rootsF F R).1 = R.map (mapW (rootsF F R).2.2) ∧ ∀ w ∈ R, placeB w = true → ∃ y ∈ (rootsF F R).2.2, y.2 = unNum w) ⟨rfl, fun w h => by simp at h⟩ (fun R w ih => ?_) R
  obtain ⟨i1, i2⟩ := ih
  rw [rootsF_snoc]
  obtain ⟨e, E, e1, e2⟩ := mvW_ext F w (rootsF F R).2.1 (rootsF F R).2.2
  obtain ⟨m1, m2⟩ := mvW_map F w (rootsF F R).2.1 (rootsF F R).2.2
  refine ⟨?_, fun v hv hp => ?_⟩
  · show (rootsF F R).1 ++ [_] = _
    rw [List.map_append, List.map_singleton, ← m1, i1]
    congr 1
    rw [e2]
    exact List.map_congr_left fun v hv => (mapW_ext (i2 v hv)).symm
  · rcases List.mem_append.1 hv with hv | hv
    · obtain ⟨y, hy, e⟩ := i2 v hv hp
      exact ⟨y, by show y ∈ (mvW F w _ _).2.2; rw [e2]; exact List.mem_append_left _ hy, e⟩
    · rw [List.mem_singleton.1 hv] at hp ⊢; exact m2 hp
theorem Done.roots {F R to : List Int} {T : List (Int × Int)} (h : Done F R to T) : (rootsF F R).1 = R.map (mapW T) ∧ ∀ w ∈ R, placeB w = true → ∃ y ∈ T, y.2 = unNum w := by
  obtain ⟨E, e⟩ := h.pre
  obtain ⟨r1, r2⟩ := roots_map (F := F) (R := R)
  rw [e]
  refine ⟨?_, fun w hw hp => ?_⟩
  · conv => lhs; rw [r1]
    exact List.map_congr_left fun v hv => (mapW_ext (r2 v hv)).symm
  · obtain ⟨y, hy, e⟩ := r2 w hw hp
    exact ⟨y, List.mem_append_left _ hy, e⟩
/-- Word by word. -/
theorem Done.words {F R to : List Int} {T : List (Int × Int)} (he : objEnd F 0 = F.length) (h : Done F R to T) {k d : Nat} {x : Int × Int} (hx : T[k]? = some x) (h1 : 1 ≤ d) (h2 : d < osz F x.2.toNat) : ∃ o, F[x.2.toNat + d]? = some o ∧ to[ol F T k + d]? = some (mapW T o) ∧ (placeB o = true → ∃ y ∈ T, y.2 = unNum o) ∧ rightB o (objs F 0) = true := by
  have ho := HS.obj he h.inv hx
  have hg := orig_get hx ho.2.2 h2
  obtain ⟨o, e⟩ : ∃ o, F[x.2.toNat + d]? = some o := ⟨_, List.getElem?_eq_getElem (by omega)⟩
  rw [e] at hg
  obtain ⟨a, b, c⟩ := h.cop _ o hg (no_head hx ho.2.2 h1 h2)
  exact ⟨o, e, a, b, c⟩
theorem Done.osz {F R to : List Int} {T : List (Int × Int)} (he : objEnd F 0 = F.length) (h : Done F R to T) {k : Nat} {x : Int × Int} (hx : T[k]? = some x) : to[ol F T k]? = F[x.2.toNat]? ∧ ol F T k < to.length ∧ osz to (ol F T k) = osz F x.2.toNat ∧ ol F T (k + 1) = ol F T k + osz F x.2.toNat := by
  have ho := HS.obj he h.inv hx
  have hh : to[ol F T k]? = F[x.2.toNat]? := h.inv.head k x hx
  refine ⟨hh, ?_, by unfold Go.Proofs.Ytijcjkgammldlaa.osz; rw [hh], ol_succ hx ho.2.2⟩
  rw [List.getElem?_eq_getElem ho.2.1] at hh
  exact (List.getElem?_eq_some_iff.1 hh).1
theorem Done.objs {F R to : List Int} {T : List (Int × Int)} (he : objEnd F 0 = F.length) (h : Done F R to T) : ∀ (m k : Nat), T.length - k ≤ m → k ≤ T.length → Go.Proofs.Ytijcjkgammldlaa.objs to (ol F T k) = (T.drop k).map (fun x => x.1.toNat) ∧ objEnd to (ol F T k) = to.length := by
  intro m
  induction m with
  | zero =>
    intro k hm hk
    have e : k = T.length := by omega
    subst e
    have hl : ol F T T.length = to.length := by rw [ol_full (Nat.le_refl _), h.inv.len]
    rw [hl, Go.Proofs.Ytijcjkgammldlaa.objs, objEnd]
    simp
  | succ m ih =>
    intro k hm hk
    rcases Nat.lt_or_ge k T.length with hk' | hk'
    · have hx := List.getElem?_eq_getElem hk'
      obtain ⟨o1, o2, o3, o4⟩ := h.osz he hx
      obtain ⟨i1, i2⟩ := ih (k + 1) (by omega) (by omega)
      have hs : Go.Proofs.Ytijcjkgammldlaa.osz to (ol F T k) = 1 + lng to[ol F T k] := by unfold Go.Proofs.Ytijcjkgammldlaa.osz; rw [List.getElem?_eq_getElem o2]; rfl
      have e : ol F T k + 1 + lng to[ol F T k] = ol F T (k + 1) := by omega
      have ht := h.inv.tos k _ hx
      rw [Go.Proofs.Ytijcjkgammldlaa.objs, objEnd]
      simp only [o2, dite_true, e, i1, i2]
      refine ⟨?_, trivial⟩
      rw [List.drop_eq_getElem_cons hk', List.map_cons, ht]
      rfl
    · have e : k = T.length := by omega
      subst e
      have hl : ol F T T.length = to.length := by rw [ol_full (Nat.le_refl _), h.inv.len]
      rw [hl, Go.Proofs.Ytijcjkgammldlaa.objs, objEnd]
      simp
theorem ol_zero {F : List Int} {T : List (Int × Int)} : ol F T 0 = 0 := rfl
theorem Done.objs0 {F R to : List Int} {T : List (Int × Int)} (he : objEnd F 0 = F.length) (h : Done F R to T) : Go.Proofs.Ytijcjkgammldlaa.objs to 0 = T.map (fun x => x.1.toNat) ∧ objEnd to 0 = to.length := by
  have := h.objs he _ 0 (Nat.le_refl _) (Nat.zero_le _)
  rwa [ol_zero, List.drop_zero] at this
theorem Done.to_lt {F R to : List Int} {T : List (Int × Int)} (he : objEnd F 0 = F.length) (h : Done F R to T) {x : Int × Int} (hx : x ∈ T) : ∃ k, T[k]? = some x ∧ x.1 = (ol F T k : Int) ∧ ol F T k < to.length := by
  obtain ⟨k, hk⟩ := List.getElem?_of_mem hx
  exact ⟨k, hk, h.inv.tos k x hk, (h.osz he hk).2.1⟩
/-- The word of a place. -/
theorem box5 {n : Int} (h0 : 0 ≤ n) (h1 : n ≤ 2000) : unE (boxW 5 n) = 0 ∧ unKind (boxW 5 n) = 5 ∧ unNum (boxW 5 n) = n ∧ placeB (boxW 5 n) = true ∧ kindI (boxW 5 n) = 5 ∧ boxE 5 n = 0 := by
  have hE : boxE 5 n = 0 := by
    unfold boxE
    rw [if_neg (by omega), if_neg (by omega), if_neg (by unfold loI hiI; simp; omega)]
  obtain ⟨a, b, c, _⟩ := tag_word hE (by omega) (by omega)
  exact ⟨a, b, c, by simp [placeB, a, b], by simp [kindI, a, b], hE⟩
theorem Done.right {F R to : List Int} {T : List (Int × Int)} (he : objEnd F 0 = F.length) (hl : to.length ≤ 2000) (h : Done F R to T) {o : Int} (ho : placeB o = true → ∃ y ∈ T, y.2 = unNum o) (hr : rightB o (Go.Proofs.Ytijcjkgammldlaa.objs F 0) = true) : rightB (mapW T o) (Go.Proofs.Ytijcjkgammldlaa.objs to 0) = true := by
  unfold mapW
  by_cases hp : placeB o = false
  · rw [if_pos hp]
    simp only [rightB, hp, Bool.not_false, Bool.true_or, Bool.and_true] at hr ⊢
    exact hr
  · rw [if_neg hp]
    obtain ⟨x, hx, e, hf⟩ := find_ex (ho (by simpa using hp))
    simp only [hf]
    obtain ⟨k, hk, e1, e2⟩ := h.to_lt he hx
    obtain ⟨b1, b2, b3, b4, b5, _⟩ := box5 (n := x.1) (by omega) (by omega)
    simp only [rightB, b3, b4, b5, Bool.not_true, Bool.false_or, Bool.and_eq_true, decide_eq_true_eq]
    refine ⟨by omega, ?_⟩
    rw [(h.objs0 he).1, List.map_map]
    exact List.mem_map.2 ⟨x, hx, by show Int.ofNat x.1.toNat = x.1; rw [e1]; rfl⟩
theorem Done.check {F R to : List Int} {T : List (Int × Int)} (hc : chkE F R = 0) (h : Done F R to T) : chkE to (rootsF F R).1 = 0 := by
  obtain ⟨c1, c2, c3, c4, c5⟩ := chk0 hc
  have hsm := h.inv.small c3
  unfold chkE
  rw [if_neg (by rw [rootsF_len]; omega), if_pos]
  refine ⟨(h.objs0 c3).2, okW_iff.2 fun j hj => ?_, ?_⟩
  · unfold okAt
    by_cases hn : noHead F T j
    · obtain ⟨o, ho⟩ : ∃ o, (orig F T)[j]? = some o := ⟨_, List.getElem?_eq_getElem (by rw [← h.inv.len]; exact hj)⟩
      obtain ⟨a, b, c⟩ := h.cop j o ho hn
      have e : to[j] = mapW T o := by rw [List.getElem?_eq_getElem hj] at a; injection a
      rw [e, h.right c3 (by omega) b c, Bool.or_true]
    · have : ∃ (k : Nat) (x : Int × Int), T[k]? = some x ∧ ol F T k = j := Classical.byContradiction fun hx => hn fun k x hk e => hx ⟨k, x, hk, e⟩
      obtain ⟨k, x, hk, e⟩ := this
      rw [decide_eq_true, Bool.true_or]
      rw [(h.objs0 c3).1]
      exact List.mem_map.2 ⟨x, List.mem_of_getElem? hk, by rw [h.inv.tos k x hk]; show ((ol F T k : Nat) : Int).toNat = j; omega⟩
  · refine List.all_eq_true.2 fun w hw => ?_
    obtain ⟨r1, r2⟩ := h.roots
    rw [r1] at hw
    obtain ⟨v, hv, rfl⟩ := List.mem_map.1 hw
    exact h.right c3 (by omega) (r2 v hv) (List.all_eq_true.1 c5 v hv)
end Go.Proofs.Ytijcjkgammldlaa

namespace Go.Proofs.Ytijcjkgammldlaa
open Go Go.RowKit
set_option linter.unusedVariables false
set_option linter.unusedSimpArgs false
def dbl (x : Int × Int) : Int × Int := (x.1, x.1)
theorem find_dbl {T : List (Int × Int)} {n : Int} (h : ∃ y ∈ T, y.1 = n) : ∃ x, (T.map dbl).find? (fun x => decide (n = x.2)) = some x ∧ x.1 = n := by
  cases hf : (T.map dbl).find? (fun x => decide (n = x.2)) with
  | none =>
    obtain ⟨y, hy, e⟩ := h
    exact absurd (decide_eq_true (show n = (dbl y).2 from e.symm)) (List.find?_eq_none.1 hf (dbl y) (List.mem_map_of_mem hy))
  | some x =>
    refine ⟨x, rfl, ?_⟩
    obtain ⟨y, hy, rfl⟩ := List.mem_map.1 (List.mem_of_find?_eq_some hf)
    have hd := List.find?_some hf
    exact (of_decide_eq_true hd).symm
theorem find_dbl_no {T : List (Int × Int)} {n : Int} (h : ∀ y ∈ T, y.1 ≠ n) : (T.map dbl).find? (fun x => decide (n = x.2)) = none := by
  rw [List.find?_eq_none]
  intro x hx hd
  obtain ⟨y, hy, rfl⟩ := List.mem_map.1 hx
  exact h y hy (of_decide_eq_true hd).symm
/-- A word is moved once more: it stays. -/
theorem sim_mv {F R F2 : List Int} {TF T E : List (Int × Int)} {i : Nat} {to : List Int} {w : Int} (hc : chkE F R = 0) (D : Done F R F2 TF) (hI : HInv F i to T) (hT : TF = (mvW F w to T).2.2 ++ E) (hr : rightB w (objs F 0) = true) :
    mvW F2 (mapW TF w) (F2.take to.length) (T.map dbl) = (mapW TF w, F2.take (mvW F w to T).2.1.length, (mvW F w to T).2.2.map dbl) := by
  obtain ⟨c1, c2, c3, c4, c5⟩ := chk0 hc
  have hsm := D.inv.small c3
  obtain ⟨e0, E0, x1, x2⟩ := mvW_ext F w to T
  have hpre : TF = T ++ (E0 ++ E) := by rw [hT, x2, List.append_assoc]
  have htl : to.length = ol F TF T.length := by
    rw [hpre, ol_ext (Nat.le_refl _), ol_full (Nat.le_refl _), hI.len]
  have htl2 : to.length ≤ F2.length := by rw [htl, D.inv.len]; exact ol_all
  by_cases hp : placeB w = false
  · have hm : mapW TF w = w := by unfold mapW; rw [if_pos hp]
    rw [hm]
    unfold mvW
    rw [if_pos hp, if_pos hp]
  · have hp' : placeB w = true := by simpa using hp
    have hmv := (mvW_map F w to T).2 hp'
    have hmap : mapW TF w = (mvW F w to T).1 := by rw [(mvW_map F w to T).1, hT, mapW_ext fun _ => hmv]
    rw [hmap]
    unfold mvW at hT ⊢
    rw [if_neg hp] at hT ⊢
    cases hf : T.find? fun x => decide (unNum w = x.2) with
    | some x =>
      have hx := List.mem_of_find?_eq_some hf
      obtain ⟨k, hk, e1, e2⟩ := D.to_lt c3 (show x ∈ TF by rw [hpre]; exact List.mem_append_left _ hx)
      obtain ⟨b1, b2, b3, b4, b5, _⟩ := box5 (n := x.1) (by omega) (by omega)
      obtain ⟨y, hy, e⟩ := find_dbl (T := T) (n := x.1) ⟨x, hx, rfl⟩
      simp only
      rw [if_neg (by rw [b4]; decide), b3, hy]
      simp only [e]
    | none =>
      simp only [hf] at hT
      simp only
      have hmem : ((to.length : Int), unNum w) ∈ TF := by rw [hT]; simp
      obtain ⟨k, hk, e1, e2⟩ := D.to_lt c3 hmem
      have e1 : (to.length : Int) = (ol F TF k : Int) := e1
      obtain ⟨b1, b2, b3, b4, b5, _⟩ := box5 (n := (to.length : Int)) (by omega) (by omega)
      have hno := find_dbl_no (T := T) (n := (to.length : Int)) fun y hy e => by
        obtain ⟨k', hk'⟩ := List.getElem?_of_mem hy
        have h1 := hI.tos k' y hk'
        have h1 : y.1 = (ol F T k' : Int) := h1
        have h2 := HS.obj c3 hI hk'
        have h3 := ol_succ hk' h2.2.2
        have h4 : ol F T (k' + 1) ≤ (orig F T).length := ol_all
        rw [← hI.len] at h4
        have : 1 ≤ osz F y.2.toNat := by unfold osz; omega
        omega
      have hmn : Min.min to.length F2.length = to.length := by omega
      rw [if_neg (by rw [b4]; decide), b3, hno]
      simp only [List.length_take, hmn, Int.toNat_natCast]
      obtain ⟨o1, o2, o3, o4⟩ := D.osz c3 hk
      have hek : ol F TF k = to.length := by omega
      rw [hek] at o1 o2 o3 o4
      have ho := HS.obj c3 D.inv hk
      have hol := objAt_len ho.2.2
      have hol : (objAt F (unNum w).toNat).length = osz F (unNum w).toNat := hol
      have o3 : osz F2 to.length = osz F (unNum w).toNat := o3
      refine Prod.ext rfl (Prod.ext ?_ ?_)
      · show F2.take to.length ++ objAt F2 to.length = F2.take (to ++ objAt F (unNum w).toNat).length
        rw [List.length_append, hol, ← o3]
        unfold objAt osz
        exact List.take_add.symm
      · show T.map dbl ++ [((to.length : Int), (to.length : Int))] = (T ++ [((to.length : Int), unNum w)]).map dbl
        rw [List.map_append]; rfl
theorem sim_roots {F R F2 : List Int} {TF : List (Int × Int)} (hc : chkE F R = 0) (D : Done F R F2 TF) : ∀ (R' : List Int), (∀ w ∈ R', rightB w (objs F 0) = true) → ∀ E, TF = (rootsF F R').2.2 ++ E →
    rootsF F2 (R'.map (mapW TF)) = (R'.map (mapW TF), F2.take (rootsF F R').2.1.length, (rootsF F R').2.2.map dbl) := by
  obtain ⟨c1, c2, c3, c4, c5⟩ := chk0 hc
  refine snoc_ind (fun _ E _ => rfl) fun R' w ih hr E hT => ?_
  rw [rootsF_snoc] at hT
  have hr' : ∀ v ∈ R', rightB v (objs F 0) = true := fun v hv => hr v (by simp [hv])
  have hI := rootsF_inv c3 R' hr'
  obtain ⟨e0, E0, x1, x2⟩ := mvW_ext F w (rootsF F R').2.1 (rootsF F R').2.2
  have ih := ih hr' (E0 ++ E) (by rw [hT]; show (mvW F w _ _).2.2 ++ E = _; rw [x2, List.append_assoc])
  have hs := sim_mv hc D hI hT (hr w (by simp))
  rw [List.map_append, List.map_singleton, rootsF_snoc, ih]
  simp only [hs]
  rw [rootsF_snoc]
/-- So many steps. -/
def it (F : List Int) : Nat → HSt → HSt
  | 0, s => s
  | n + 1, s => hstep F (it F n s)
theorem HRun.nat {F : List Int} {s0 s : HSt} (h : HRun F s0 s) : ∃ n, s = it F n s0 ∧ ∀ m, m < n → (it F m s0).i < (it F m s0).to.length := by
  induction h with
  | refl => exact ⟨0, rfl, fun m h => absurd h (by omega)⟩
  | step hr hi ih =>
    obtain ⟨n, e, hn⟩ := ih
    refine ⟨n + 1, by rw [e]; rfl, fun m hm => ?_⟩
    rcases Nat.lt_or_ge m n with h | h
    · exact hn m h
    · have : m = n := by omega
      subst this; rw [← e]; exact hi
theorem it_run {F : List Int} {s0 : HSt} : ∀ {n : Nat}, (∀ m, m < n → (it F m s0).i < (it F m s0).to.length) → HRun F s0 (it F n s0)
  | 0, _ => .refl
  | n + 1, h => .step (it_run fun m hm => h m (by omega)) (h n (by omega))
theorem it_ext (F : List Int) (s0 : HSt) (m : Nat) : ∀ d, ∃ E, (it F (m + d) s0).T = (it F m s0).T ++ E
  | 0 => ⟨[], by simp⟩
  | d + 1 => by
    obtain ⟨E, e⟩ := it_ext F s0 m d
    obtain ⟨E2, e2⟩ := hstep_ext F (it F (m + d) s0)
    exact ⟨E ++ E2, by rw [show m + (d + 1) = (m + d) + 1 by omega]; show (hstep F _).T = _; rw [e2, e, List.append_assoc]⟩
theorem HRun.det {F : List Int} {s0 a b : HSt} (h1 : HRun F s0 a) (h2 : HRun F s0 b) (e1 : a.i = a.to.length) (e2 : b.i = b.to.length) : a = b := by
  obtain ⟨n, ha, hn⟩ := h1.nat
  obtain ⟨m, hb, hm⟩ := h2.nat
  rcases Nat.lt_trichotomy n m with h | h | h
  · have := hm n h; rw [← ha] at this; omega
  · rw [ha, hb, h]
  · have := hn m h; rw [← hb] at this; omega
def dup (F2 : List Int) (s : HSt) : HSt := ⟨s.i, s.nx, F2.take s.to.length, s.T.map dbl⟩
theorem hsim_step {F R F2 : List Int} {TF E : List (Int × Int)} (hc : chkE F R = 0) (D : Done F R F2 TF) {s : HSt} (h : HS F s) (hi : s.i < s.to.length) (hT : TF = (hstep F s).T ++ E) : hstep F2 (dup F2 s) = dup F2 (hstep F s) := by
  obtain ⟨c1, c2, c3, c4, c5⟩ := chk0 hc
  obtain ⟨E0, x2⟩ := hstep_ext F s
  have hpre : TF = s.T ++ (E0 ++ E) := by rw [hT, x2, List.append_assoc]
  have hle : s.to.length ≤ F2.length := by
    rw [h.inv.len, D.inv.len, hpre, orig_app, List.length_append]; omega
  have hg : (F2.take s.to.length)[s.i]? = F2[s.i]? := by rw [List.getElem?_take, if_pos hi]
  unfold hstep at hT ⊢
  by_cases hn : s.i = s.nx
  · obtain ⟨k, x, hk, hx, h2, _, hh, hlt, _⟩ := h.first c3 hi hn
    have hxF : TF[k]? = some x := by rw [hpre, List.getElem?_append_left hk]; exact hx
    have ho := (D.osz c3 hxF).1
    have e : ol F TF k = s.i := by rw [hpre, ol_ext (by omega), hn, h2]
    rw [e] at ho
    rw [if_pos hn, if_pos (show (dup F2 s).i = (dup F2 s).nx from hn)]
    show HSt.mk (s.i + 1) (s.i + 1 + lng ((F2.take s.to.length)[s.i]?.getD 0)) _ _ = _
    rw [hg, ho, ← hh]
    rfl
  · rw [if_neg hn] at hT ⊢
    rw [if_neg (show ¬ (dup F2 s).i = (dup F2 s).nx from hn)]
    obtain ⟨k, x, d, hx, hd1, hd2, hid, hlt, hto, hor, hr⟩ := h.other c3 c4 hi hn
    have hk := (List.getElem?_eq_some_iff.1 hx).1
    have hxF : TF[k]? = some x := by rw [hpre, List.getElem?_append_left hk]; exact hx
    have e : ol F TF k = ol F s.T k := by rw [hpre, ol_ext (by omega)]
    obtain ⟨o, w1, w2, w3, w4⟩ := D.words c3 hxF hd1 hd2
    rw [e, ← hid] at w2
    have hg2 : s.to[s.i]?.getD 0 = o := by rw [hto, w1]; rfl
    rw [hg2] at hT ⊢
    have hs := sim_mv hc D h.inv hT w4
    have hfin : (dup F2 s).to[(dup F2 s).i]?.getD 0 = mapW TF o := by show (F2.take s.to.length)[s.i]?.getD 0 = _; rw [hg, w2]; rfl
    rw [hfin]
    show HSt.mk (s.i + 1) s.nx ((mvW F2 (mapW TF o) (F2.take s.to.length) (s.T.map dbl)).2.1.set s.i (mvW F2 (mapW TF o) (F2.take s.to.length) (s.T.map dbl)).1) (mvW F2 (mapW TF o) (F2.take s.to.length) (s.T.map dbl)).2.2 = _
    rw [hs]
    show HSt.mk (s.i + 1) s.nx ((F2.take (mvW F o s.to s.T).2.1.length).set s.i (mapW TF o)) ((mvW F o s.to s.T).2.2.map dbl) = HSt.mk (s.i + 1) s.nx (F2.take ((mvW F o s.to s.T).2.1.set s.i (mvW F o s.to s.T).1).length) ((mvW F o s.to s.T).2.2.map dbl)
    rw [List.length_set]
    congr 1
    obtain ⟨e0, E1, y1, y2⟩ := mvW_ext F o s.to s.T
    refine List.ext_getElem? fun j => ?_
    rw [List.getElem?_set]
    split
    · rename_i hj
      subst hj
      have : s.i < (F2.take (mvW F o s.to s.T).2.1.length).length := by
        rw [List.length_take, y1, List.length_append]
        omega
      rw [if_pos this, List.getElem?_take, if_pos (by rw [y1, List.length_append]; omega), w2]
    · rfl
/-- A heap that was moved stays, when it is moved again. -/
theorem twice {F R : List Int} (hc : chkE F R = 0) {s s2 : HSt} (h : HRun F ⟨0, 0, (rootsF F R).2.1, (rootsF F R).2.2⟩ s) (hi : s.i = s.to.length) (h2 : HRun s.to ⟨0, 0, (rootsF s.to (rootsF F R).1).2.1, (rootsF s.to (rootsF F R).1).2.2⟩ s2) (hi2 : s2.i = s2.to.length) :
    (rootsF s.to (rootsF F R).1).1 = (rootsF F R).1 ∧ s2.to = s.to ∧ s2.T = s.T.map dbl := by
  obtain ⟨c1, c2, c3, c4, c5⟩ := chk0 hc
  have D := done_of hc h hi
  obtain ⟨E, hE⟩ := D.pre
  obtain ⟨r1, r2⟩ := D.roots
  have hrr : ∀ w ∈ R, rightB w (objs F 0) = true := fun w hw => List.all_eq_true.1 c5 w hw
  have hsr := sim_roots hc D R hrr E hE
  rw [← r1] at hsr
  have h0 := HS.start (rootsF_inv c3 R hrr)
  obtain ⟨n, e, hn⟩ := h.nat
  have hst : (⟨0, 0, (rootsF s.to (rootsF F R).1).2.1, (rootsF s.to (rootsF F R).1).2.2⟩ : HSt) = dup s.to ⟨0, 0, (rootsF F R).2.1, (rootsF F R).2.2⟩ := by rw [hsr]; rfl
  obtain ⟨s0, hs0⟩ : ∃ s0 : HSt, s0 = ⟨0, 0, (rootsF F R).2.1, (rootsF F R).2.2⟩ := ⟨_, rfl⟩
  rw [hst] at h2
  rw [← hs0] at h h0 e hn h2
  have sim : ∀ m, m ≤ n → it s.to m (dup s.to s0) = dup s.to (it F m s0) := by
    intro m
    induction m with
    | zero => intro _; rfl
    | succ m ih =>
      intro hm
      obtain ⟨E2, e2⟩ := it_ext F s0 (m + 1) (n - (m + 1))
      rw [show m + 1 + (n - (m + 1)) = n by omega, ← e] at e2
      show hstep s.to (it s.to m (dup s.to s0)) = dup s.to (hstep F (it F m s0))
      rw [ih (by omega)]
      exact hsim_step hc D ((it_run fun k hk => hn k (by omega)).hs c3 c4 h0) (hn m (by omega)) e2
  have hrun : HRun s.to (dup s.to s0) (it s.to n (dup s.to s0)) := it_run fun m hm => by
    rw [sim m (by omega)]
    show (it F m s0).i < (s.to.take (it F m s0).to.length).length
    have h1 := hn m hm
    have h2 : (it F m s0).to.length ≤ s.to.length := by
      have hm := (it_run fun k hk => hn k (show k < n by omega) : HRun F s0 (it F m s0)).hs c3 c4 h0
      obtain ⟨E2, e2⟩ := it_ext F s0 m (n - m)
      rw [show m + (n - m) = n by omega, ← e] at e2
      rw [hm.inv.len, D.inv.len, e2, orig_app, List.length_append]; omega
    rw [List.length_take]; omega
  rw [sim n (Nat.le_refl _), ← e] at hrun
  have hd : dup s.to s = ⟨s.i, s.nx, s.to, s.T.map dbl⟩ := by unfold dup; rw [List.take_length]
  rw [hd] at hrun
  have := h2.det hrun hi2 hi
  subst this
  exact ⟨by rw [hsr], rfl, rfl⟩
/-- What is moved for some roots is moved for more. -/
theorem more_roots {F R R' : List Int} (hc : chkE F R = 0) (hR : ∀ w ∈ R', w ∈ R) {s s2 : HSt} (h : HRun F ⟨0, 0, (rootsF F R).2.1, (rootsF F R).2.2⟩ s) (hi : s.i = s.to.length) (h2 : HRun F ⟨0, 0, (rootsF F R').2.1, (rootsF F R').2.2⟩ s2) : ∀ x ∈ s2.T, ∃ y ∈ s.T, y.2 = x.2 := by
  obtain ⟨c1, c2, c3, c4, c5⟩ := chk0 hc
  have D := done_of hc h hi
  obtain ⟨r1, r2⟩ := D.roots
  have hrr : ∀ w ∈ R, rightB w (objs F 0) = true := fun w hw => List.all_eq_true.1 c5 w hw
  have hI0 := HS.start (rootsF_inv c3 R' fun w hw => hrr w (hR w hw))
  have base : ∀ R', (∀ w ∈ R', w ∈ R) → ∀ x ∈ (rootsF F R').2.2, ∃ y ∈ s.T, y.2 = x.2 := by
    refine snoc_ind (fun _ x hx => by simp [rootsF] at hx) fun R' w ih hR x hx => ?_
    rw [rootsF_snoc] at hx
    rcases mvW_new x hx with hx | ⟨hp, e⟩
    · exact ih (fun v hv => hR v (by simp [hv])) x hx
    · obtain ⟨y, hy, e2⟩ := r2 w (hR w (by simp)) hp
      exact ⟨y, hy, by rw [e2, e]⟩
  have : ∀ (s0 s2 : HSt), HS F s0 → (∀ x ∈ s0.T, ∃ y ∈ s.T, y.2 = x.2) → HRun F s0 s2 → ∀ x ∈ s2.T, ∃ y ∈ s.T, y.2 = x.2 := by
    intro s0 s2 h0 hb hr
    induction hr with
    | refl => exact hb
    | step hr' hi' ih =>
      rename_i t
      intro x hx
      have hS := hr'.hs c3 c4 h0
      unfold hstep at hx
      by_cases hn : t.i = t.nx
      · rw [if_pos hn] at hx; exact ih x hx
      · rw [if_neg hn] at hx
        obtain ⟨k, z, d, hz, hd1, hd2, hid, hlt, hto, hor, hr⟩ := hS.other c3 c4 hi' hn
        rcases mvW_new x hx with hx | ⟨hp, e⟩
        · exact ih x hx
        · obtain ⟨y, hy, e2⟩ := ih z (List.mem_of_getElem? hz)
          obtain ⟨k', hk'⟩ := List.getElem?_of_mem hy
          rw [← e2] at hd2 hto
          obtain ⟨o, w1, w2, w3, w4⟩ := D.words c3 hk' hd1 hd2
          have hg : t.to[t.i]?.getD 0 = o := by rw [hto, w1]; rfl
          rw [hg] at hp e
          obtain ⟨v, hv, e3⟩ := w3 hp
          exact ⟨v, hv, by rw [e3, e]⟩
  exact this _ _ hI0 (base R' hR) h2
theorem frm_nodup {F : List Int} {i : Nat} {to : List Int} {T : List (Int × Int)} (h : HInv F i to T) : (T.map fun x => x.2.toNat).Nodup := by
  have := h.nod
  rw [List.nodup_iff_pairwise_ne, List.pairwise_map] at this
  rw [List.nodup_iff_pairwise_ne, List.pairwise_map]
  refine this.imp_of_mem fun {a b} ha hb hne e => hne ?_
  have h1 := (h.frm a ha).1
  have h2 := (h.frm b hb).1
  omega
theorem hlen_sub {l1 l2 : List Nat} (hn : l1.Nodup) (hs : ∀ x ∈ l1, x ∈ l2) : l1.length ≤ l2.length := by
  have := sum_sub (fun _ => 1) hn hs
  have e : ∀ l : List Nat, (l.map fun _ => 1).sum = l.length := fun l => by
    induction l with
    | nil => rfl
    | cons a l ih => rw [List.map_cons, List.sum_cons, ih, List.length_cons]; omega
  rwa [e, e] at this
theorem Done.few {F R to : List Int} {T : List (Int × Int)} (h : Done F R to T) : T.length ≤ (Go.Proofs.Ytijcjkgammldlaa.objs F 0).length := by
  have := hlen_sub (frm_nodup h.inv) (l2 := Go.Proofs.Ytijcjkgammldlaa.objs F 0) fun y hy => by
    obtain ⟨x, hx, rfl⟩ := List.mem_map.1 hy
    exact (h.inv.frm x hx).2
  simpa using this
/-- All objects as roots. -/
def allR (F : List Int) : List Int := (objs F 0).map fun (a : Nat) => boxW 5 (a : Int)
theorem all_check {F R0 : List Int} (hc : chkE F R0 = 0) (hl : (objs F 0).length ≤ 100) : chkE F (allR F) = 0 := by
  obtain ⟨c1, c2, c3, c4, c5⟩ := chk0 hc
  unfold chkE
  rw [if_neg (by unfold allR; rw [List.length_map]; omega), if_pos]
  refine ⟨c3, c4, List.all_eq_true.2 fun w hw => ?_⟩
  obtain ⟨a, ha, rfl⟩ := List.mem_map.1 hw
  obtain ⟨_, h2, _⟩ := objs_in F _ 0 (Nat.le_refl _) c3 a ha
  obtain ⟨b1, b2, b3, b4, b5, _⟩ := box5 (n := (a : Int)) (by omega) (by omega)
  simp only [rightB, b3, b4, b5, Bool.not_true, Bool.false_or, Bool.and_eq_true, decide_eq_true_eq]
  exact ⟨by omega, List.mem_map.2 ⟨a, ha, rfl⟩⟩
theorem all_whole {F to : List Int} {T : List (Int × Int)} (hc : chkE F (allR F) = 0) (D : Done F (allR F) to T) : to.length = F.length ∧ T.length = (objs F 0).length := by
  obtain ⟨c1, c2, c3, c4, c5⟩ := chk0 hc
  have hsm := D.inv.small c3
  obtain ⟨r1, r2⟩ := D.roots
  have hsub : ∀ a ∈ objs F 0, a ∈ T.map fun x => x.2.toNat := fun a ha => by
    obtain ⟨_, h2, _⟩ := objs_in F _ 0 (Nat.le_refl _) c3 a ha
    obtain ⟨b1, b2, b3, b4, b5, _⟩ := box5 (n := (a : Int)) (by omega) (by omega)
    obtain ⟨y, hy, e⟩ := r2 _ (List.mem_map.2 ⟨a, ha, rfl⟩) b4
    rw [b3] at e
    exact List.mem_map.2 ⟨y, hy, by show y.2.toNat = a; omega⟩
  have hnd := (objs_lt F _ 0 (Nat.le_refl _)).2
  have h1 := hlen_sub hnd hsub
  have h2 := D.few
  rw [List.length_map] at h1
  have h3 := sum_sub (osz F) hnd hsub
  have h4 := orig_len c3 (T := T) fun x hx => (D.inv.frm x hx).2
  have h5 := objs_sum F _ 0 (Nat.le_refl _)
  have h6 := D.inv.len
  exact ⟨by omega, by omega⟩
end Go.Proofs.Ytijcjkgammldlaa

namespace Go.Proofs.Ytijcjkgammldlaa
open Go Go.RowKit
set_option linter.unusedVariables false
set_option linter.unusedSimpArgs false
section
variable {tb : List (FuncId × Bool)} {L : Nat → Bool} {H : ZH} {K : ZV → ZH → Prop}
theorem hasint_z {z : ZV} {l : List Int} {x : Int} (hz : rowsZ H 1 z = some (l.map eI)) (hb : l.length ≤ 1000000) (hK : K (ZBo (decide (x ∈ l))) H) :
    ZC (boxX tb) (cFunc Try.prog) 15 [z, Z64 x] L H K := by
  refine ZC.enter Gh.no (boxX_none (by decide)) f_hasI (by simp) ?_
  simp only [c_hasI]
  have hlen := rows_len hz
  rw [List.length_map] at hlen
  repeat' (first | (simp only [zmPack, zxPack, ne_eq, zfree, owners, Nat.reduceLT, List.contains_cons, List.contains_nil, Nat.reduceBEq, BEq.rfl, chunk, setAt, List.lookup_cons, List.lookup_nil, reduceCtorEq, Nat.reduceEqDiff, reduceIte, implies_true, forall_const, Nat.reduceMul, Nat.reduceSub, Nat.reduceAdd, Nat.reduceLeDiff, hlen, *]) | (simp only [zgoO, zgoG, zO_nil, zthen_normal, zgoC]) | (with_reducible apply And.intro) | (with_reducible intro _))
  refine zW_forK [(1, Z64 x), (7, z)] l.length (fun k s' h' => h' = H ∧ x ∉ l.take k) (by omega) ⟨rfl, rfl, rfl, rfl, rfl, rfl⟩ rfl rfl (by repeat' (first | exact trivial | (refine ⟨rfl, ?_⟩) | (refine ⟨by simp only [zupd_at, Nat.reduceEqDiff, reduceIte]; assumption, ?_⟩))) rfl rfl (by decide) ⟨rfl, by simp⟩ ?_ ?_
  · rintro k s' h' hk ⟨rfl, hno⟩ hi hl ⟨f1, f7, -⟩
    obtain ⟨p, hp, hld⟩ := rows_at hz hk
    by_cases he : x = l[k]
    · have hy : decide (x ∈ l) = true := decide_eq_true (by rw [he]; exact List.getElem_mem _)
      rw [hy] at hK
      rw [← he] at hld
      clear he hy
      have fin := Fin.keep (H0 := h') hK
      repeat' (first | (simp only [zmPack, zxPack, ne_eq, zfree, owners, Nat.reduceLT, List.contains_cons, List.contains_nil, Nat.reduceBEq, BEq.rfl, chunk, setAt, List.lookup_cons, List.lookup_nil, reduceCtorEq, Nat.reduceEqDiff, reduceIte, implies_true, forall_const, Nat.reduceMul, Nat.reduceSub, Nat.reduceAdd, Nat.reduceLeDiff, hp, hld, *]) | (simp only [zgoO, zgoG, zO_nil, zthen_normal, zgoC]) | (with_reducible apply And.intro) | (with_reducible intro _))
    · have fin : x ∉ l.take (k + 1) := by
        rw [List.take_succ_eq_append_getElem hk]
        simp only [List.mem_append, List.mem_singleton, not_or]
        exact ⟨hno, he⟩
      clear hno
      repeat' (first | (simp only [zmPack, zxPack, ne_eq, zfree, owners, Nat.reduceLT, List.contains_cons, List.contains_nil, Nat.reduceBEq, BEq.rfl, chunk, setAt, List.lookup_cons, List.lookup_nil, reduceCtorEq, Nat.reduceEqDiff, reduceIte, implies_true, forall_const, Nat.reduceMul, Nat.reduceSub, Nat.reduceAdd, Nat.reduceLeDiff, hp, hld, *]) | (simp only [zgoO, zgoG, zO_nil, zthen_normal, zgoC]) | (with_reducible apply And.intro) | (with_reducible intro _))
  · rintro s' h' ⟨rfl, hno⟩ ⟨f1, f7, -⟩
    rw [List.take_of_length_le (Nat.le_refl _)] at hno
    have hy : decide (x ∈ l) = false := decide_eq_false hno
    rw [hy] at hK
    have fin := Fin.keep (H0 := h') hK
    clear hno hy
    repeat' (first | (simp only [zmPack, zxPack, ne_eq, zfree, owners, Nat.reduceLT, List.contains_cons, List.contains_nil, Nat.reduceBEq, BEq.rfl, chunk, setAt, List.lookup_cons, List.lookup_nil, reduceCtorEq, Nat.reduceEqDiff, reduceIte, implies_true, forall_const, Nat.reduceMul, Nat.reduceSub, Nat.reduceAdd, Nat.reduceLeDiff, *]) | (simp only [zgoO, zgoG, zO_nil, zthen_normal, zgoC]) | (with_reducible apply And.intro) | (with_reducible intro _))
theorem neqU (a b : Int) : binV .neq (.int .u64 a) (.int .u64 b) = some (.bool (!decide (a = b))) := by simp [binV]
theorem eqU_z {y z : ZV} {a b : List Int} (ha : rowsZ H 1 y = some (a.map eU)) (hb : rowsZ H 1 z = some (b.map eU)) (hl1 : a.length ≤ 1000000) (hl2 : b.length ≤ 1000000) (hK : K (ZBo (decide (a = b))) H) :
    ZC (boxX tb) (cFunc Try.prog) 12 [y, z] L H K := by
  refine ZC.enter Gh.no (boxX_none (by decide)) f_eqU (by simp) ?_
  simp only [c_eqU]
  have ha' := rows_len ha
  have hb' := rows_len hb
  rw [List.length_map] at ha' hb'
  by_cases hlen : a.length = b.length
  · rw [hlen] at ha'
    have hlen := Lib.hid hlen
    repeat' (first | (simp only [zmPack, zxPack, ne_eq, zfree, owners, Nat.reduceLT, List.contains_cons, List.contains_nil, Nat.reduceBEq, BEq.rfl, chunk, setAt, List.lookup_cons, List.lookup_nil, reduceCtorEq, Nat.reduceEqDiff, reduceIte, implies_true, forall_const, Nat.reduceMul, Nat.reduceSub, Nat.reduceAdd, Nat.reduceLeDiff, ha', hb', *]) | (simp only [zgoO, zgoG, zO_nil, zthen_normal, zgoC]) | (with_reducible apply And.intro) | (with_reducible intro _))
    refine zW_forK [(1, z), (12, y)] b.length (fun k s' h' => h' = H ∧ a.take k = b.take k) (by omega) ⟨rfl, rfl, rfl, rfl, rfl, rfl⟩ rfl rfl (by repeat' (first | exact trivial | (refine ⟨rfl, ?_⟩) | (refine ⟨by simp only [zupd_at, Nat.reduceEqDiff, reduceIte]; assumption, ?_⟩))) rfl rfl (by decide) ⟨rfl, by simp⟩ ?_ ?_
    · rintro k s' h' hk ⟨rfl, hyes⟩ hi hl ⟨f1, f12, -⟩
      have hka : k < a.length := by rw [hlen.out]; exact hk
      obtain ⟨p, hp, hld⟩ := rows_at ha hka
      obtain ⟨q, hq, hlq⟩ := rows_at hb hk
      by_cases he : a[k] = b[k]
      · have fin : a.take (k + 1) = b.take (k + 1) := by
          rw [List.take_succ_eq_append_getElem hka, List.take_succ_eq_append_getElem hk, hyes, he]
        rw [he] at hld
        clear hyes he
        repeat' (first | (simp only [zmPack, zxPack, ne_eq, zfree, owners, Nat.reduceLT, List.contains_cons, List.contains_nil, Nat.reduceBEq, BEq.rfl, chunk, setAt, List.lookup_cons, List.lookup_nil, reduceCtorEq, Nat.reduceEqDiff, reduceIte, implies_true, forall_const, Nat.reduceMul, Nat.reduceSub, Nat.reduceAdd, Nat.reduceLeDiff, hp, hld, hq, hlq, neqU, *]) | (simp only [zgoO, zgoG, zO_nil, zthen_normal, zgoC]) | (with_reducible apply And.intro) | (with_reducible intro _))
      · have hy : decide (a = b) = false := decide_eq_false fun e => he (by subst e; rfl)
        rw [hy] at hK
        have fin := Fin.keep (H0 := h') hK
        clear hyes hy
        repeat' (first | (simp only [zmPack, zxPack, ne_eq, zfree, owners, Nat.reduceLT, List.contains_cons, List.contains_nil, Nat.reduceBEq, BEq.rfl, chunk, setAt, List.lookup_cons, List.lookup_nil, reduceCtorEq, Nat.reduceEqDiff, reduceIte, implies_true, forall_const, Nat.reduceMul, Nat.reduceSub, Nat.reduceAdd, Nat.reduceLeDiff, hp, hld, hq, hlq, neqU, *]) | (simp only [zgoO, zgoG, zO_nil, zthen_normal, zgoC]) | (with_reducible apply And.intro) | (with_reducible intro _))
    · rintro s' h' ⟨rfl, hyes⟩ ⟨f1, f12, -⟩
      rw [← hlen.out, List.take_of_length_le (Nat.le_refl _), hlen.out, List.take_of_length_le (Nat.le_refl _)] at hyes
      have hy : decide (a = b) = true := decide_eq_true hyes
      rw [hy] at hK
      have fin := Fin.keep (H0 := h') hK
      clear hyes hy
      repeat' (first | (simp only [zmPack, zxPack, ne_eq, zfree, owners, Nat.reduceLT, List.contains_cons, List.contains_nil, Nat.reduceBEq, BEq.rfl, chunk, setAt, List.lookup_cons, List.lookup_nil, reduceCtorEq, Nat.reduceEqDiff, reduceIte, implies_true, forall_const, Nat.reduceMul, Nat.reduceSub, Nat.reduceAdd, Nat.reduceLeDiff, *]) | (simp only [zgoO, zgoG, zO_nil, zthen_normal, zgoC]) | (with_reducible apply And.intro) | (with_reducible intro _))
  · have hN : (decide ((a.length : Int) = (b.length : Int))) = false := by simp; omega
    have hy : decide (a = b) = false := decide_eq_false fun e => hlen (by rw [e])
    rw [hy] at hK
    have fin := Fin.keep (H0 := H) hK
    clear hlen hy
    repeat' (first | (simp only [zmPack, zxPack, ne_eq, zfree, owners, Nat.reduceLT, List.contains_cons, List.contains_nil, Nat.reduceBEq, BEq.rfl, chunk, setAt, List.lookup_cons, List.lookup_nil, reduceCtorEq, Nat.reduceEqDiff, reduceIte, implies_true, forall_const, Nat.reduceMul, Nat.reduceSub, Nat.reduceAdd, Nat.reduceLeDiff, ha', hb', hN, *]) | (simp only [zgoO, zgoG, zO_nil, zthen_normal, zgoC]) | (with_reducible apply And.intro) | (with_reducible intro _))
theorem rest_z {k m : Int} (hm : 0 < m ∧ m ≤ 1000000000) (hK : K (Z64 (k % m)) H) : ZC (boxX tb) (cFunc Try.prog) 13 [Z64 k, Z64 m] L H K := by
  refine ZC.enter Gh.no (boxX_none (by decide)) f_hl_rest (by simp) ?_
  simp only [c_hl_rest]
  have hr : binV .rem (.int .i64 k) (.int .i64 m) = some (.int .i64 (k.tmod m)) := by simp [binV]; omega
  have fin := Fin.keep (H0 := H) hK
  have h1 : -m < k.tmod m := by
    have := Int.lt_tmod_of_pos k hm.1
    omega
  have h2 : k.tmod m < m := Int.tmod_lt_of_pos k hm.1
  have h3 : k.tmod m = k % m ∨ k.tmod m = k % m - m := by
    rw [Int.tmod_eq_emod]
    split
    · left; omega
    · right; omega
  have h4 := Int.emod_nonneg k (b := m) (by omega)
  have h5 := Int.emod_lt_of_pos k hm.1
  clear hK
  by_cases hn : k.tmod m < 0
  · have hw : IntKind.i64.wrap (k.tmod m + m) = k % m := by
      rw [IntWalk.i64_in _ (by omega)]; omega
    have F := Lib.hid fin
    clear h3 h4 h5 h1 h2 fin
    obtain ⟨t, ht⟩ : ∃ t, t = k.tmod m := ⟨_, rfl⟩
    rw [← ht] at hr hn hw
    have fin := F.out
    clear ht
    repeat' (first | (simp only [zmPack, zxPack, ne_eq, zfree, owners, Nat.reduceLT, List.contains_cons, List.contains_nil, Nat.reduceBEq, BEq.rfl, chunk, setAt, List.lookup_cons, List.lookup_nil, reduceCtorEq, Nat.reduceEqDiff, reduceIte, implies_true, forall_const, Nat.reduceMul, Nat.reduceSub, Nat.reduceAdd, Nat.reduceLeDiff, hr, hn, hw, *]) | (simp only [zgoO, zgoG, zO_nil, zthen_normal, zgoC]) | (with_reducible apply And.intro) | (with_reducible intro _))
  · have hw : k.tmod m = k % m := by omega
    have F := Lib.hid fin
    clear h3 h4 h5 h1 h2 fin
    rw [hw] at hr hn
    have fin := F.out
    clear hw
    repeat' (first | (simp only [zmPack, zxPack, ne_eq, zfree, owners, Nat.reduceLT, List.contains_cons, List.contains_nil, Nat.reduceBEq, BEq.rfl, chunk, setAt, List.lookup_cons, List.lookup_nil, reduceCtorEq, Nat.reduceEqDiff, reduceIte, implies_true, forall_const, Nat.reduceMul, Nat.reduceSub, Nat.reduceAdd, Nat.reduceLeDiff, hr, hn, *]) | (simp only [zgoO, zgoG, zO_nil, zthen_normal, zgoC]) | (with_reducible apply And.intro) | (with_reducible intro _))

theorem Objects_z {exw exr : Bool} {F R : List Int} (huw : U64 F) (hur : U64 R) (hbW : F.length ≤ 100000000000000) (hbR : R.length ≤ 100000000000000) (hKe : chkE F R ≠ 0 → K (.tuple [.nil, Z64 (chkE F R)]) H) (hKo : chkE F R = 0 → K (.tuple [.fz 1 false ((objs F 0).map eN), Z64 0]) H) :
    ZC (boxX tb) (cFunc Try.prog) 14 [.agg [.fz 1 exw (F.map eU), .fz 1 exr (R.map eU)]] L H K := by
  refine ZC.enterL Gh.no (boxX_none (by decide)) f_hl_Objects (by simp) fun hL => ?_
  simp only [c_hl_Objects]
  have hL0 : L H.length = true := hL 0
  have g0 : ∀ A Y, (H ++ (A :: Y))[H.length]? = some A := fun A Y => hl_at0 A Y
  repeat' (first | (simp only [zmPack, zxPack, ne_eq, zfree, owners, Nat.reduceLT, List.contains_cons, List.contains_nil, Nat.reduceBEq, BEq.rfl, chunk, setAt, List.lookup_cons, List.lookup_nil, reduceCtorEq, Nat.reduceEqDiff, reduceIte, implies_true, forall_const, Nat.reduceMul, Nat.reduceSub, Nat.reduceAdd, Nat.reduceLeDiff, g0, *]) | (simp only [zgoO, zgoG, zO_nil, zthen_normal, zgoC]) | (with_reducible apply And.intro) | (with_reducible intro _))
  refine check_z (W := F) (R := R) rfl rfl (fun X => by simp [rowsZ]) (fun X => by simp [rowsZ]) huw hur ?_ hbW hbR
  by_cases hc : chkE F R = 0
  · have HKO := Lib.hid (hKo hc)
    clear hKe hKo
    repeat' (first | (simp only [zmPack, zxPack, ne_eq, zfree, owners, Nat.reduceLT, List.contains_cons, List.contains_nil, Nat.reduceBEq, BEq.rfl, chunk, setAt, List.lookup_cons, List.lookup_nil, reduceCtorEq, Nat.reduceEqDiff, reduceIte, implies_true, forall_const, Nat.reduceMul, Nat.reduceSub, Nat.reduceAdd, Nat.reduceLeDiff, g0, hc, *]) | (simp only [zgoO, zgoG, zO_nil, zthen_normal, zgoC]) | (with_reducible apply And.intro) | (with_reducible intro _))
    refine objects_z (l := F) (fun X => by simp [rowsZ]) (by have := (chk0 hc).1; omega) ?_
    have fin : ∀ X, Fin H (.tuple [.fz 1 false ((objs F 0).map eN), Z64 0]) (H ++ X) K := fun X => Fin.truncT (Mods.ext H X) rfl (by rw [List.take_left]; exact HKO.out)
    repeat' (first | (simp only [zmPack, zxPack, ne_eq, zfree, owners, Nat.reduceLT, List.contains_cons, List.contains_nil, Nat.reduceBEq, BEq.rfl, chunk, setAt, List.lookup_cons, List.lookup_nil, reduceCtorEq, Nat.reduceEqDiff, reduceIte, implies_true, forall_const, Nat.reduceMul, Nat.reduceSub, Nat.reduceAdd, Nat.reduceLeDiff, g0, *]) | (simp only [zgoO, zgoG, zO_nil, zthen_normal, zgoC]) | (with_reducible apply And.intro) | (with_reducible intro _))
  · have fin : ∀ X, Fin H (.tuple [.nil, Z64 (chkE F R)]) (H ++ X) K := fun X => Fin.truncT (Mods.ext H X) rfl (by rw [List.take_left]; exact hKe hc)
    clear hKe hKo
    repeat' (first | (simp only [zmPack, zxPack, ne_eq, zfree, owners, Nat.reduceLT, List.contains_cons, List.contains_nil, Nat.reduceBEq, BEq.rfl, chunk, setAt, List.lookup_cons, List.lookup_nil, reduceCtorEq, Nat.reduceEqDiff, reduceIte, implies_true, forall_const, Nat.reduceMul, Nat.reduceSub, Nat.reduceAdd, Nat.reduceLeDiff, g0, hc, *]) | (simp only [zgoO, zgoG, zO_nil, zthen_normal, zgoC]) | (with_reducible apply And.intro) | (with_reducible intro _))
end
abbrev tbH : List (FuncId × Bool) := [(8, true)]
theorem hauled_z {L : Nat → Bool} {H : ZH} {K : ZV → ZH → Prop} (hK : K (ZBo true) H) : ZC (boxX tbH) (cFunc Try.prog) 8 [] L H K := ZC.const (boxX_some rfl) hK
theorem numZ_none {S : ZS} {d : Nat} : numZ S d none = some d := rfl
theorem numZ_some {S : ZS} {d : Nat} {x : Opd} : numZ S d (some x) = (zev S x).bind natZ := by
  simp only [numZ]; cases zev S x <;> rfl
theorem cut_take {α : Type} {e : α → List ZV} {k n : Nat} {ex : Bool} {l : List α} (h : n ≤ l.length) : ∃ ex2, ∀ H, cutZ H k 0 n l.length false (.fz k ex (l.map e)) = some (.fz k ex2 ((l.take n).map e)) := by
  by_cases hl : l = []
  · subst hl
    have : n = 0 := by simpa using h
    subst this
    exact ⟨false, fun H => by simp [cutZ]⟩
  · refine ⟨(ex || false) && n == l.length, fun H => ?_⟩
    simp only [cutZ]
    rw [if_pos ⟨trivial, by omega, h, by simp⟩, if_neg (by simpa using hl)]
    simp [List.map_take]
theorem rows_eP {H : ZH} {ex : Bool} {T : List (Int × Int)} : rowsZ H 2 (.fz 2 ex (T.map eP)) = some (T.map eP) := by simp [rowsZ]
theorem rows_eU {H : ZH} {ex : Bool} {T : List Int} : rowsZ H 1 (.fz 1 ex (T.map eU)) = some (T.map eU) := by simp [rowsZ]
theorem chk_len {F R : List Int} (h : chkE F R = 0) : F.length ≤ 2000 := (chk0 h).1
/-- What a law hands back. -/
theorem finTrue (X : ZH) : Fin [] (ZBo true) X (fun z _ => z = ZBo true) := Fin.trunc (Mods.ext [] X) rfl rfl
/-- Collect, as the laws call it. -/
theorem coll_z {tb : List (FuncId × Bool)} {L : Nat → Bool} {H : ZH} {K : ZV → ZH → Prop} {exw : Bool} {zr : ZV} {F R : List Int} (hcr : zr.isCell = true) (hr : ∀ X, rowsZ (H ++ X) 1 zr = some (R.map eU)) (huw : U64 F) (hur : U64 R) (hbW : F.length ≤ 100000000000000) (hbR : R.length ≤ 100000000000000) (hKe : chkE F R ≠ 0 → K (.tuple [.agg [.nil, .nil], .nil, Z64 (chkE F R)]) H) (hKo : ∀ st, chkE F R = 0 → HRun F ⟨0, 0, (rootsF F R).2.1, (rootsF F R).2.2⟩ st → st.i = st.to.length → K (.tuple [.agg [.fz 1 false (st.to.map eU), .fz 1 false ((rootsF F R).1.map eU)], .fz 2 false (st.T.map eP), Z64 0]) H) :
    ZC (boxX tb) (cFunc Try.prog) 9 [.agg [.fz 1 exw (F.map eU), zr]] L H K := collect_z hcr hr huw hur hbW hbR hKe fun hc st h hi => hKo st hc h hi
end Go.Proofs.Ytijcjkgammldlaa

namespace Go.Proofs.Ytijcjkgammldlaa
open Go Go.RowKit
set_option linter.unusedVariables false
set_option linter.unusedSimpArgs false
theorem mapW_u {T : List (Int × Int)} {w : Int} (h : 0 ≤ w ∧ w < 18446744073709551616) : 0 ≤ mapW T w ∧ mapW T w < 18446744073709551616 := by
  unfold mapW
  split
  · exact h
  · split
    · exact boxW_range
    · exact h
theorem Done.u64 {F R to : List Int} {T : List (Int × Int)} (he : objEnd F 0 = F.length) (hu : U64 F) (h : Done F R to T) : U64 to := fun w hw => by
  obtain ⟨j, hj, e⟩ := List.getElem_of_mem hw
  by_cases hn : noHead F T j
  · obtain ⟨o, ho⟩ : ∃ o, (orig F T)[j]? = some o := ⟨_, List.getElem?_eq_getElem (by rw [← h.inv.len]; exact hj)⟩
    obtain ⟨a, b, c⟩ := h.cop j o ho hn
    have hm : o ∈ F := by
      have := List.mem_of_getElem? ho
      simp only [orig, List.mem_flatten, List.mem_map] at this
      obtain ⟨_, ⟨x, _, rfl⟩, hx⟩ := this
      exact List.mem_of_mem_drop (List.mem_of_mem_take hx)
    rw [List.getElem?_eq_getElem hj, e] at a
    injection a with a
    rw [a]; exact mapW_u (hu o hm)
  · have : ∃ (k : Nat) (x : Int × Int), T[k]? = some x ∧ ol F T k = j := Classical.byContradiction fun hx => hn fun k x hk e => hx ⟨k, x, hk, e⟩
    obtain ⟨k, x, hk, e2⟩ := this
    have := (h.osz he hk).1
    rw [e2, List.getElem?_eq_getElem hj, e] at this
    exact hu w (List.mem_of_getElem? this.symm)
theorem Done.ru64 {F R to : List Int} {T : List (Int × Int)} (hv : U64 R) (h : Done F R to T) : U64 (rootsF F R).1 := fun w hw => by
  rw [h.roots.1] at hw
  obtain ⟨v, hv', rfl⟩ := List.mem_map.1 hw
  exact mapW_u (hv v hv')
set_option maxHeartbeats 4000000 in
theorem haultwice_z {exw exr : Bool} {F R : List Int} (huw : U64 F) (hur : U64 R) (hbW : F.length ≤ 100000000000000) (hbR : R.length ≤ 100000000000000) :
    ZC (boxX tbH) (cFunc Try.prog) 4 [.agg [.fz 1 exw (F.map eU), .fz 1 exr (R.map eU)]] (fun _ => true) [] fun z _ => z = ZBo true := by
  refine ZC.enter Gh.no (boxX_none (by decide)) f_hl_twice (by simp) ?_
  simp only [c_hl_twice]
  have HU := Lib.hid huw
  have HV := Lib.hid hur
  have fin := finTrue
  clear huw hur
  repeat' (first | (simp only [zmPack, zxPack, ne_eq, zfree, owners, Nat.reduceLT, List.contains_cons, List.contains_nil, Nat.reduceBEq, BEq.rfl, chunk, setAt, List.lookup_cons, List.lookup_nil, reduceCtorEq, Nat.reduceEqDiff, reduceIte, implies_true, forall_const, Nat.reduceMul, Nat.reduceSub, Nat.reduceAdd, Nat.reduceLeDiff, *]) | (simp only [zgoO, zgoG, zO_nil, zthen_normal, zgoC]) | (with_reducible apply And.intro) | (with_reducible intro _))
  refine hauled_z ?_
  repeat' (first | (simp only [zmPack, zxPack, ne_eq, zfree, owners, Nat.reduceLT, List.contains_cons, List.contains_nil, Nat.reduceBEq, BEq.rfl, chunk, setAt, List.lookup_cons, List.lookup_nil, reduceCtorEq, Nat.reduceEqDiff, reduceIte, implies_true, forall_const, Nat.reduceMul, Nat.reduceSub, Nat.reduceAdd, Nat.reduceLeDiff, *]) | (simp only [zgoO, zgoG, zO_nil, zthen_normal, zgoC]) | (with_reducible apply And.intro) | (with_reducible intro _))
  refine coll_z (F := F) (R := R) rfl (fun X => rows_eU) HU.out HV.out hbW hbR (fun hc => ?_) (fun st hc hr hi => ?_)
  · repeat' (first | (simp only [zmPack, zxPack, ne_eq, zfree, owners, Nat.reduceLT, List.contains_cons, List.contains_nil, Nat.reduceBEq, BEq.rfl, chunk, setAt, List.lookup_cons, List.lookup_nil, reduceCtorEq, Nat.reduceEqDiff, reduceIte, implies_true, forall_const, Nat.reduceMul, Nat.reduceSub, Nat.reduceAdd, Nat.reduceLeDiff, hc, *]) | (simp only [zgoO, zgoG, zO_nil, zthen_normal, zgoC]) | (with_reducible apply And.intro) | (with_reducible intro _))
    refine hauled_z ?_
    repeat' (first | (simp only [zmPack, zxPack, ne_eq, zfree, owners, Nat.reduceLT, List.contains_cons, List.contains_nil, Nat.reduceBEq, BEq.rfl, chunk, setAt, List.lookup_cons, List.lookup_nil, reduceCtorEq, Nat.reduceEqDiff, reduceIte, implies_true, forall_const, Nat.reduceMul, Nat.reduceSub, Nat.reduceAdd, Nat.reduceLeDiff, *]) | (simp only [zgoO, zgoG, zO_nil, zthen_normal, zgoC]) | (with_reducible apply And.intro) | (with_reducible intro _))
  · have D := done_of hc hr hi
    obtain ⟨c1, c2, c3, c4, c5⟩ := chk0 hc
    have hsm := D.inv.small c3
    have hck := D.check hc
    have HC := Lib.hid hck
    have HR := Lib.hid hr
    have HI := Lib.hid hi
    have h0 := Lib.hid hc
    have u1 := Lib.hid (D.u64 c3 HU.out)
    have u2 := Lib.hid (D.ru64 HV.out)
    have hl : (rootsF F R).1.length ≤ 100 := by rw [rootsF_len]; exact c2
    have hl2 : st.to.length ≤ 2000 := by omega
    clear hr hi hck hc c1 c2 c3 c4 c5 D hsm
    repeat' (first | (simp only [zmPack, zxPack, ne_eq, zfree, owners, Nat.reduceLT, List.contains_cons, List.contains_nil, Nat.reduceBEq, BEq.rfl, chunk, setAt, List.lookup_cons, List.lookup_nil, reduceCtorEq, Nat.reduceEqDiff, reduceIte, implies_true, forall_const, Nat.reduceMul, Nat.reduceSub, Nat.reduceAdd, Nat.reduceLeDiff, *]) | (simp only [zgoO, zgoG, zO_nil, zthen_normal, zgoC]) | (with_reducible apply And.intro) | (with_reducible intro _))
    refine coll_z (F := st.to) (R := (rootsF F R).1) rfl (fun X => rows_eU) u1.out u2.out (by omega) (by omega) (fun hc => absurd HC.out hc) (fun st2 hc2 hr2 hi2 => ?_)
    obtain ⟨t1, t2, t3⟩ := twice h0.out HR.out HI.out hr2 hi2
    rw [t1, t2, t3]
    clear hc2 hr2 hi2 t1 t2 t3
    have hlT : (List.map dbl st.T).length = st.T.length := by simp
    rw [show List.map eP (List.map dbl st.T) = List.map (fun x => eP (dbl x)) st.T by rw [List.map_map]; rfl]
    clear hlT
    have hTl : st.T.length ≤ 2000 := by
      have := (done_of h0.out HR.out HI.out).inv.small (chk0 h0.out).2.2.1
      have := (chk0 h0.out).1
      omega
    repeat' (first | (simp only [zmPack, zxPack, ne_eq, zfree, owners, Nat.reduceLT, List.contains_cons, List.contains_nil, Nat.reduceBEq, BEq.rfl, chunk, setAt, List.lookup_cons, List.lookup_nil, reduceCtorEq, Nat.reduceEqDiff, reduceIte, implies_true, forall_const, Nat.reduceMul, Nat.reduceSub, Nat.reduceAdd, Nat.reduceLeDiff, *]) | (simp only [zgoO, zgoG, zO_nil, zthen_normal, zgoC]) | (with_reducible apply And.intro) | (with_reducible intro _))
    obtain ⟨b0, hb0⟩ : ∃ b, b = ZB.box [.fz 1 exw (F.map eU), .fz 1 exr (R.map eU)] := ⟨_, rfl⟩
    rw [← hb0]
    clear hb0
    refine zW_forK [(3, .ptr 1 0), (4, .fz 2 false (st.T.map eP)), (6, .ptr 2 0), (8, Z64 0), (28, .fz 2 false (st.T.map fun x => eP (dbl x))), (7, .fz 2 false (st.T.map fun x => eP (dbl x)))] st.T.length (fun k s' h' => ∃ X, h' = b0 :: .box [.fz 1 false (st.to.map eU), .fz 1 false ((rootsF F R).1.map eU)] :: .box [.fz 1 false (st.to.map eU), .fz 1 false ((rootsF F R).1.map eU)] :: X) (by omega) ⟨rfl, rfl, rfl, rfl, rfl, rfl⟩ rfl rfl (by repeat' (first | exact trivial | (refine ⟨rfl, ?_⟩) | (refine ⟨by simp only [zupd_at, Nat.reduceEqDiff, reduceIte]; assumption, ?_⟩))) rfl rfl (by decide) ⟨[], rfl⟩ ?_ ?_
    · rintro k s' h' hk ⟨X, rfl⟩ hi hl ⟨f3, f4, f6, f8, f28, f7, -⟩
      obtain ⟨q, hq, hld⟩ := rows_at (H := b0 :: .box [.fz 1 false (st.to.map eU), .fz 1 false ((rootsF F R).1.map eU)] :: .box [.fz 1 false (st.to.map eU), .fz 1 false ((rootsF F R).1.map eU)] :: X) (k := 2) (z := .fz 2 false (st.T.map fun x => eP (dbl x))) (f := fun x => eP (dbl x)) (l := st.T) (by simp [rowsZ]) hk
      obtain ⟨x, hx⟩ : ∃ x, x = st.T[k] := ⟨_, rfl⟩
      rw [← hx] at hld
      have hld : ∀ n, ldZ _ n q = partZ [Z64 x.1, Z64 x.1] 0 n := hld
      clear hx
      have aX : ∀ A B C D : ZB, (A :: B :: C :: (X ++ [D]))[X.length + 1 + 1 + 1]? = some D := fun A B C D => by simp
      have sX : ∀ A B C D E : ZB, (A :: B :: C :: (X ++ [D])).set (X.length + 1 + 1 + 1) E = A :: B :: C :: (X ++ [E]) := fun A B C D E => by simp
      repeat' (first | (simp only [zmPack, zxPack, ne_eq, zfree, owners, Nat.reduceLT, List.contains_cons, List.contains_nil, Nat.reduceBEq, BEq.rfl, chunk, setAt, List.lookup_cons, List.lookup_nil, reduceCtorEq, Nat.reduceEqDiff, reduceIte, implies_true, forall_const, Nat.reduceMul, Nat.reduceSub, Nat.reduceAdd, Nat.reduceLeDiff, hq, hld, aX, sX, *]) | (simp only [zgoO, zgoG, zO_nil, zthen_normal, zgoC]) | (with_reducible apply And.intro) | (with_reducible intro _))
      all_goals exact ⟨_, rfl⟩
    · rintro s' h' ⟨X, rfl⟩ ⟨f3, f4, f6, f8, f28, f7, -⟩
      repeat' (first | (simp only [zmPack, zxPack, ne_eq, zfree, owners, Nat.reduceLT, List.contains_cons, List.contains_nil, Nat.reduceBEq, BEq.rfl, chunk, setAt, List.lookup_cons, List.lookup_nil, reduceCtorEq, Nat.reduceEqDiff, reduceIte, implies_true, forall_const, Nat.reduceMul, Nat.reduceSub, Nat.reduceAdd, Nat.reduceLeDiff, *]) | (simp only [zgoO, zgoG, zO_nil, zthen_normal, zgoC]) | (with_reducible apply And.intro) | (with_reducible intro _))
      refine hauled_z ?_
      repeat' (first | (simp only [zmPack, zxPack, ne_eq, zfree, owners, Nat.reduceLT, List.contains_cons, List.contains_nil, Nat.reduceBEq, BEq.rfl, chunk, setAt, List.lookup_cons, List.lookup_nil, reduceCtorEq, Nat.reduceEqDiff, reduceIte, implies_true, forall_const, Nat.reduceMul, Nat.reduceSub, Nat.reduceAdd, Nat.reduceLeDiff, *]) | (simp only [zgoO, zgoG, zO_nil, zthen_normal, zgoC]) | (with_reducible apply And.intro) | (with_reducible intro _))
      refine eqU_z (a := st.to) (b := st.to) rows_eU rows_eU (by omega) (by omega) ?_
      rw [decide_eq_true rfl]
      repeat' (first | (simp only [zmPack, zxPack, ne_eq, zfree, owners, Nat.reduceLT, List.contains_cons, List.contains_nil, Nat.reduceBEq, BEq.rfl, chunk, setAt, List.lookup_cons, List.lookup_nil, reduceCtorEq, Nat.reduceEqDiff, reduceIte, implies_true, forall_const, Nat.reduceMul, Nat.reduceSub, Nat.reduceAdd, Nat.reduceLeDiff, *]) | (simp only [zgoO, zgoG, zO_nil, zthen_normal, zgoC]) | (with_reducible apply And.intro) | (with_reducible intro _))
      refine eqU_z (a := (rootsF F R).1) (b := (rootsF F R).1) rows_eU rows_eU (by omega) (by omega) ?_
      rw [decide_eq_true rfl]
      repeat' (first | (simp only [zmPack, zxPack, ne_eq, zfree, owners, Nat.reduceLT, List.contains_cons, List.contains_nil, Nat.reduceBEq, BEq.rfl, chunk, setAt, List.lookup_cons, List.lookup_nil, reduceCtorEq, Nat.reduceEqDiff, reduceIte, implies_true, forall_const, Nat.reduceMul, Nat.reduceSub, Nat.reduceAdd, Nat.reduceLeDiff, *]) | (simp only [zgoO, zgoG, zO_nil, zthen_normal, zgoC]) | (with_reducible apply And.intro) | (with_reducible intro _))
end Go.Proofs.Ytijcjkgammldlaa

namespace Go.Proofs.Ytijcjkgammldlaa
open Go Go.RowKit
set_option linter.unusedVariables false
set_option linter.unusedSimpArgs false
section
variable {tb : List (FuncId × Bool)} {L : Nat → Bool} {H : ZH} {K : ZV → ZH → Prop}
theorem eqlU (a b : Int) : binV .eql (.int .u64 a) (.int .u64 b) = some (.bool (decide (a = b))) := by simp [binV]
theorem shrU (a : Int) : binV .shr (.int .u64 a) (.int .u64 52) = some (.int .u64 (a.fdiv (2 ^ 52))) := by simp [binV, IntKind.bits]
theorem shrU48 (a : Int) : binV .shr (.int .u64 a) (.int .u64 48) = some (.int .u64 (a.fdiv (2 ^ 48))) := by simp [binV, IntKind.bits]
theorem remU (a b : Int) (h : b ≠ 0) : binV .rem (.int .u64 a) (.int .u64 b) = some (.int .u64 (a.tmod b)) := by simp [binV, h]
theorem shlU (a : Int) : binV .shl (.int .u64 a) (.int .u64 12) = some (.int .u64 (IntKind.u64.wrap (a * 2 ^ 12))) := by simp [binV, IntKind.bits]
theorem mulU (a b : Int) : binV .mul (.int .u64 a) (.int .u64 b) = some (.int .u64 (IntKind.u64.wrap (a * b))) := by simp [binV]
theorem addU (a b : Int) : binV .add (.int .u64 a) (.int .u64 b) = some (.int .u64 (IntKind.u64.wrap (a + b))) := by simp [binV]
theorem odd_z {w : Int} (hK : ∀ b, K (ZBo b) H) : ZC (boxX tb) (cFunc Try.prog) 31 [.val (.int .u64 w)] L H K := by
  refine ZC.enter Gh.no (boxX_none (by decide)) f_rOdd (by simp) ?_
  simp only [c_rOdd]
  have fin := fun b => Fin.keep (H0 := H) (hK b)
  have h1 := remU (w.fdiv (2 ^ 52)) 2048 (by decide)
  clear hK
  by_cases hc : (w.fdiv (2 ^ 52)).tmod 2048 = 2047
  · repeat' (first | (simp only [zmPack, zxPack, ne_eq, zfree, owners, Nat.reduceLT, List.contains_cons, List.contains_nil, Nat.reduceBEq, BEq.rfl, chunk, setAt, List.lookup_cons, List.lookup_nil, reduceCtorEq, Nat.reduceEqDiff, reduceIte, implies_true, forall_const, Nat.reduceMul, Nat.reduceSub, Nat.reduceAdd, Nat.reduceLeDiff, shrU, h1, shlU, eqlU, neqU, hc, *]) | (simp only [zgoO, zgoG, zO_nil, zthen_normal, zgoC]) | (with_reducible apply And.intro) | (with_reducible intro _))
  · repeat' (first | (simp only [zmPack, zxPack, ne_eq, zfree, owners, Nat.reduceLT, List.contains_cons, List.contains_nil, Nat.reduceBEq, BEq.rfl, chunk, setAt, List.lookup_cons, List.lookup_nil, reduceCtorEq, Nat.reduceEqDiff, reduceIte, implies_true, forall_const, Nat.reduceMul, Nat.reduceSub, Nat.reduceAdd, Nat.reduceLeDiff, shrU, h1, shlU, eqlU, neqU, hc, *]) | (simp only [zgoO, zgoG, zO_nil, zthen_normal, zgoC]) | (with_reducible apply And.intro) | (with_reducible intro _))
def tagR (k : Nat) : Int := [65529, 65530, 65531, 0, 65532, 65533, 65534].getD k 0
theorem rtag_z {k : Nat} (hk : k < 7) (hK : K (.val (.int .u64 (tagR k))) H) : ZC (boxX tb) (cFunc Try.prog) 27 [Z64 (k : Int)] L H K := by
  refine ZC.enter Gh.no (boxX_none (by decide)) f_rTag (by simp) ?_
  simp only [c_rTag]
  have FN := Lib.hid (Fin.keep (H0 := H) hK)
  clear hK
  rcases (show k = 0 ∨ k = 1 ∨ k = 2 ∨ k = 3 ∨ k = 4 ∨ k = 5 ∨ k = 6 by omega) with rfl | rfl | rfl | rfl | rfl | rfl | rfl
  · repeat' (first | (simp only [zmPack, zxPack, ne_eq, zfree, owners, Nat.reduceLT, List.contains_cons, List.contains_nil, Nat.reduceBEq, BEq.rfl, chunk, setAt, List.lookup_cons, List.lookup_nil, reduceCtorEq, Nat.reduceEqDiff, reduceIte, implies_true, forall_const, Nat.reduceMul, Nat.reduceSub, Nat.reduceAdd, Nat.reduceLeDiff, *]) | (simp only [zgoO, zgoG, zO_nil, zthen_normal, zgoC]) | (with_reducible apply And.intro) | (with_reducible intro _))
    exact FN.out
  · repeat' (first | (simp only [zmPack, zxPack, ne_eq, zfree, owners, Nat.reduceLT, List.contains_cons, List.contains_nil, Nat.reduceBEq, BEq.rfl, chunk, setAt, List.lookup_cons, List.lookup_nil, reduceCtorEq, Nat.reduceEqDiff, reduceIte, implies_true, forall_const, Nat.reduceMul, Nat.reduceSub, Nat.reduceAdd, Nat.reduceLeDiff, *]) | (simp only [zgoO, zgoG, zO_nil, zthen_normal, zgoC]) | (with_reducible apply And.intro) | (with_reducible intro _))
    exact FN.out
  · repeat' (first | (simp only [zmPack, zxPack, ne_eq, zfree, owners, Nat.reduceLT, List.contains_cons, List.contains_nil, Nat.reduceBEq, BEq.rfl, chunk, setAt, List.lookup_cons, List.lookup_nil, reduceCtorEq, Nat.reduceEqDiff, reduceIte, implies_true, forall_const, Nat.reduceMul, Nat.reduceSub, Nat.reduceAdd, Nat.reduceLeDiff, *]) | (simp only [zgoO, zgoG, zO_nil, zthen_normal, zgoC]) | (with_reducible apply And.intro) | (with_reducible intro _))
    exact FN.out
  · repeat' (first | (simp only [zmPack, zxPack, ne_eq, zfree, owners, Nat.reduceLT, List.contains_cons, List.contains_nil, Nat.reduceBEq, BEq.rfl, chunk, setAt, List.lookup_cons, List.lookup_nil, reduceCtorEq, Nat.reduceEqDiff, reduceIte, implies_true, forall_const, Nat.reduceMul, Nat.reduceSub, Nat.reduceAdd, Nat.reduceLeDiff, *]) | (simp only [zgoO, zgoG, zO_nil, zthen_normal, zgoC]) | (with_reducible apply And.intro) | (with_reducible intro _))
    exact FN.out
  · repeat' (first | (simp only [zmPack, zxPack, ne_eq, zfree, owners, Nat.reduceLT, List.contains_cons, List.contains_nil, Nat.reduceBEq, BEq.rfl, chunk, setAt, List.lookup_cons, List.lookup_nil, reduceCtorEq, Nat.reduceEqDiff, reduceIte, implies_true, forall_const, Nat.reduceMul, Nat.reduceSub, Nat.reduceAdd, Nat.reduceLeDiff, *]) | (simp only [zgoO, zgoG, zO_nil, zthen_normal, zgoC]) | (with_reducible apply And.intro) | (with_reducible intro _))
    exact FN.out
  · repeat' (first | (simp only [zmPack, zxPack, ne_eq, zfree, owners, Nat.reduceLT, List.contains_cons, List.contains_nil, Nat.reduceBEq, BEq.rfl, chunk, setAt, List.lookup_cons, List.lookup_nil, reduceCtorEq, Nat.reduceEqDiff, reduceIte, implies_true, forall_const, Nat.reduceMul, Nat.reduceSub, Nat.reduceAdd, Nat.reduceLeDiff, *]) | (simp only [zgoO, zgoG, zO_nil, zthen_normal, zgoC]) | (with_reducible apply And.intro) | (with_reducible intro _))
    exact FN.out
  · repeat' (first | (simp only [zmPack, zxPack, ne_eq, zfree, owners, Nat.reduceLT, List.contains_cons, List.contains_nil, Nat.reduceBEq, BEq.rfl, chunk, setAt, List.lookup_cons, List.lookup_nil, reduceCtorEq, Nat.reduceEqDiff, reduceIte, implies_true, forall_const, Nat.reduceMul, Nat.reduceSub, Nat.reduceAdd, Nat.reduceLeDiff, *]) | (simp only [zgoO, zgoG, zO_nil, zthen_normal, zgoC]) | (with_reducible apply And.intro) | (with_reducible intro _))
    exact FN.out
theorem rest32_z {k : Int} (hK : K (Z64 (k % 4294967296)) H) : ZC (boxX tb) (cFunc Try.prog) 13 [Z64 k, Z64 4294967296] L H K := by
  refine ZC.enter Gh.no (boxX_none (by decide)) f_hl_rest (by simp) ?_
  simp only [c_hl_rest]
  have hr : binV .rem (.int .i64 k) (.int .i64 4294967296) = some (.int .i64 (k.tmod 4294967296)) := by simp [binV]
  have fin := Fin.keep (H0 := H) hK
  have h1 : -4294967296 < k.tmod 4294967296 := Int.lt_tmod_of_pos k (by omega)
  have h2 : k.tmod 4294967296 < 4294967296 := Int.tmod_lt_of_pos k (by omega)
  have h3 : k.tmod 4294967296 = k % 4294967296 ∨ k.tmod 4294967296 = k % 4294967296 - 4294967296 := by
    rw [Int.tmod_eq_emod]
    split
    · left; omega
    · right; omega
  have h4 := Int.emod_nonneg k (b := 4294967296) (by omega)
  clear hK
  by_cases hn : k.tmod 4294967296 < 0
  · have hw : IntKind.i64.wrap (k.tmod 4294967296 + 4294967296) = k % 4294967296 := by
      rw [IntWalk.i64_in _ (by omega)]; omega
    have F := Lib.hid fin
    clear h3 h4 h1 h2 fin
    obtain ⟨t, ht⟩ : ∃ t, t = k.tmod 4294967296 := ⟨_, rfl⟩
    rw [← ht] at hr hn hw
    have fin := F.out
    clear ht
    repeat' (first | (simp only [zmPack, zxPack, ne_eq, zfree, owners, Nat.reduceLT, List.contains_cons, List.contains_nil, Nat.reduceBEq, BEq.rfl, chunk, setAt, List.lookup_cons, List.lookup_nil, reduceCtorEq, Nat.reduceEqDiff, reduceIte, implies_true, forall_const, Nat.reduceMul, Nat.reduceSub, Nat.reduceAdd, Nat.reduceLeDiff, hr, hn, hw, *]) | (simp only [zgoO, zgoG, zO_nil, zthen_normal, zgoC]) | (with_reducible apply And.intro) | (with_reducible intro _))
  · have hw : k.tmod 4294967296 = k % 4294967296 := by omega
    have F := Lib.hid fin
    clear h3 h4 h1 h2 fin
    rw [hw] at hr hn
    have fin := F.out
    clear hw
    repeat' (first | (simp only [zmPack, zxPack, ne_eq, zfree, owners, Nat.reduceLT, List.contains_cons, List.contains_nil, Nat.reduceBEq, BEq.rfl, chunk, setAt, List.lookup_cons, List.lookup_nil, reduceCtorEq, Nat.reduceEqDiff, reduceIte, implies_true, forall_const, Nat.reduceMul, Nat.reduceSub, Nat.reduceAdd, Nat.reduceLeDiff, hr, hn, *]) | (simp only [zgoO, zgoG, zO_nil, zthen_normal, zgoC]) | (with_reducible apply And.intro) | (with_reducible intro _))
set_option maxHeartbeats 2000000 in
/-- A reference's word, or none. -/
theorem rbox5_z {n : Int} (hL : ∀ k, L (H.length + k) = true) (hn : 0 ≤ n ∧ n < 281474976710656) (h1 : n < 4294967296 → K (.tuple [.val (.int .u64 (18445899648779419648 + n)), Z64 0]) H) (h2 : ¬ n < 4294967296 → K (.tuple [.val (.int .u64 0), Z64 1]) H) :
    ZC (boxX tb) (cFunc Try.prog) 28 [.agg [Z64 5, Z64 n]] L H K := by
  refine ZC.enter Gh.no (boxX_none (by decide)) f_rBox (by simp) ?_
  simp only [c_rBox]
  have hL0 : L H.length = true := hL 0
  have g0 : ∀ A Y, (H ++ (A :: Y))[H.length]? = some A := fun A Y => hl_at0 A Y
  have k0 : ¬ (n < 0) := by omega
  by_cases hc : n < 4294967296
  · have k1 : ¬ (n > 4294967295) := by omega
    have FN := Lib.hid (fun X => Fin.truncT (Mods.ext H X) rfl (by rw [List.take_left]; exact h1 hc) : ∀ X, Fin H (.tuple [.val (.int .u64 (18445899648779419648 + n)), Z64 0]) (H ++ X) K)
    have e1 : n % 4294967296 = n := by omega
    have e2 : IntKind.u64.wrap n = n := by simp only [IntKind.wrap_u64]; omega
    have m : binV .mul (.int .u64 65533) (.int .u64 281474976710656) = some (.int .u64 18445899648779419648) := by rfl
    have e4 : IntKind.u64.wrap (18445899648779419648 + n) = 18445899648779419648 + n := by simp only [IntKind.wrap_u64]; omega
    have HE := Lib.hid e1
    clear h1 h2 hn hc e1
    have q1 : ¬ ((5 : Int) < 0) := (by decide); have q2 : ¬ ((5 : Int) > 6) := (by decide); have q3 : ¬ ((5 : Int) = 3) := (by decide); have q4 : ¬ ((5 : Int) = 0) := (by decide); have q5 : ¬ ((5 : Int) = 1) := (by decide); have q6 : ¬ ((5 : Int) = 2) := (by decide)
    repeat' (first | (simp only [zmPack, zxPack, ne_eq, zfree, owners, Nat.reduceLT, List.contains_cons, List.contains_nil, Nat.reduceBEq, BEq.rfl, chunk, setAt, List.lookup_cons, List.lookup_nil, reduceCtorEq, Nat.reduceEqDiff, reduceIte, implies_true, forall_const, Nat.reduceMul, Nat.reduceSub, Nat.reduceAdd, Nat.reduceLeDiff, g0, k0, k1, q1, q2, q3, q4, q5, q6, *]) | (simp only [zgoO, zgoG, zO_nil, zthen_normal, zgoC]) | (with_reducible apply And.intro) | (with_reducible intro _))
    refine rtag_z (k := 5) (by omega) ?_
    rw [show tagR 5 = 65533 from rfl]
    repeat' (first | (simp only [zmPack, zxPack, ne_eq, zfree, owners, Nat.reduceLT, List.contains_cons, List.contains_nil, Nat.reduceBEq, BEq.rfl, chunk, setAt, List.lookup_cons, List.lookup_nil, reduceCtorEq, Nat.reduceEqDiff, reduceIte, implies_true, forall_const, Nat.reduceMul, Nat.reduceSub, Nat.reduceAdd, Nat.reduceLeDiff, g0, m, *]) | (simp only [zgoO, zgoG, zO_nil, zthen_normal, zgoC]) | (with_reducible apply And.intro) | (with_reducible intro _))
    refine rest32_z ?_
    rw [HE.out]
    repeat' (first | (simp only [zmPack, zxPack, ne_eq, zfree, owners, Nat.reduceLT, List.contains_cons, List.contains_nil, Nat.reduceBEq, BEq.rfl, chunk, setAt, List.lookup_cons, List.lookup_nil, reduceCtorEq, Nat.reduceEqDiff, reduceIte, implies_true, forall_const, Nat.reduceMul, Nat.reduceSub, Nat.reduceAdd, Nat.reduceLeDiff, addU, e2, e4, *]) | (simp only [zgoO, zgoG, zO_nil, zthen_normal, zgoC]) | (with_reducible apply And.intro) | (with_reducible intro _))
    all_goals exact FN.out _
  · have k1 : n > 4294967295 := by omega
    have fin : ∀ X, Fin H (.tuple [.val (.int .u64 0), Z64 1]) (H ++ X) K := fun X => Fin.truncT (Mods.ext H X) rfl (by rw [List.take_left]; exact h2 hc)
    clear h1 h2 hn hc
    have q1 : ¬ ((5 : Int) < 0) := (by decide); have q2 : ¬ ((5 : Int) > 6) := (by decide); have q3 : ¬ ((5 : Int) = 3) := (by decide); have q4 : ¬ ((5 : Int) = 0) := (by decide); have q5 : ¬ ((5 : Int) = 1) := (by decide); have q6 : ¬ ((5 : Int) = 2) := (by decide)
    repeat' (first | (simp only [zmPack, zxPack, ne_eq, zfree, owners, Nat.reduceLT, List.contains_cons, List.contains_nil, Nat.reduceBEq, BEq.rfl, chunk, setAt, List.lookup_cons, List.lookup_nil, reduceCtorEq, Nat.reduceEqDiff, reduceIte, implies_true, forall_const, Nat.reduceMul, Nat.reduceSub, Nat.reduceAdd, Nat.reduceLeDiff, g0, k0, k1, q1, q2, q3, q4, q5, q6, *]) | (simp only [zgoO, zgoG, zO_nil, zthen_normal, zgoC]) | (with_reducible apply And.intro) | (with_reducible intro _))
set_option maxHeartbeats 4000000 in
/-- Of another kind: some word, or none. -/
theorem rboxo_z {k : Int} {n : Int} (hL : ∀ k, L (H.length + k) = true) (hk : k = 0 ∨ k = 1 ∨ k = 2 ∨ k = 3 ∨ k = 4 ∨ k = 6) (hn : -9223372036854775808 ≤ n ∧ n ≤ 9223372036854775807) (hK : ∀ x e, K (.tuple [.val (.int .u64 x), Z64 e]) H) :
    ZC (boxX tb) (cFunc Try.prog) 28 [.agg [Z64 k, Z64 n]] L H K := by
  refine ZC.enter Gh.no (boxX_none (by decide)) f_rBox (by simp) ?_
  simp only [c_rBox]
  have hL0 : L H.length = true := hL 0
  have g0 : ∀ A Y, (H ++ (A :: Y))[H.length]? = some A := fun A Y => hl_at0 A Y
  have fin : ∀ x e X, Fin H (.tuple [.val (.int .u64 x), Z64 e]) (H ++ X) K := fun x e X => Fin.truncT (Mods.ext H X) rfl (by rw [List.take_left]; exact hK x e)
  clear hK hn
  rcases hk with rfl | rfl | rfl | rfl | rfl | rfl
  · have q1 : ¬ ((0 : Int) < 0) := (by decide); have q2 : ¬ ((0 : Int) > 6) := (by decide); have q3 : ¬ ((0 : Int) = 3) := (by decide); have q4 : (0 : Int) = 0 := (by decide); have q5 : ¬ ((0 : Int) = 1) := (by decide); have q6 : ¬ ((0 : Int) = 2) := (by decide)
    by_cases k0 : n < 0
    · repeat' (first | (simp only [zmPack, zxPack, ne_eq, zfree, owners, Nat.reduceLT, List.contains_cons, List.contains_nil, Nat.reduceBEq, BEq.rfl, chunk, setAt, List.lookup_cons, List.lookup_nil, reduceCtorEq, Nat.reduceEqDiff, reduceIte, implies_true, forall_const, Nat.reduceMul, Nat.reduceSub, Nat.reduceAdd, Nat.reduceLeDiff, g0, k0, q1, q2, q3, q4, q5, q6, *]) | (simp only [zgoO, zgoG, zO_nil, zthen_normal, zgoC]) | (with_reducible apply And.intro) | (with_reducible intro _))
    · by_cases k1 : n > 0
      · repeat' (first | (simp only [zmPack, zxPack, ne_eq, zfree, owners, Nat.reduceLT, List.contains_cons, List.contains_nil, Nat.reduceBEq, BEq.rfl, chunk, setAt, List.lookup_cons, List.lookup_nil, reduceCtorEq, Nat.reduceEqDiff, reduceIte, implies_true, forall_const, Nat.reduceMul, Nat.reduceSub, Nat.reduceAdd, Nat.reduceLeDiff, g0, k0, k1, q1, q2, q3, q4, q5, q6, *]) | (simp only [zgoO, zgoG, zO_nil, zthen_normal, zgoC]) | (with_reducible apply And.intro) | (with_reducible intro _))
      · repeat' (first | (simp only [zmPack, zxPack, ne_eq, zfree, owners, Nat.reduceLT, List.contains_cons, List.contains_nil, Nat.reduceBEq, BEq.rfl, chunk, setAt, List.lookup_cons, List.lookup_nil, reduceCtorEq, Nat.reduceEqDiff, reduceIte, implies_true, forall_const, Nat.reduceMul, Nat.reduceSub, Nat.reduceAdd, Nat.reduceLeDiff, g0, k0, k1, q1, q2, q3, q4, q5, q6, *]) | (simp only [zgoO, zgoG, zO_nil, zthen_normal, zgoC]) | (with_reducible apply And.intro) | (with_reducible intro _))
        refine rtag_z (k := 0) (by omega) ?_
        rw [show tagR 0 = 65529 from rfl]
        have m : binV .mul (.int .u64 65529) (.int .u64 281474976710656) = some (.int .u64 18444773748872577024) := by rfl
        repeat' (first | (simp only [zmPack, zxPack, ne_eq, zfree, owners, Nat.reduceLT, List.contains_cons, List.contains_nil, Nat.reduceBEq, BEq.rfl, chunk, setAt, List.lookup_cons, List.lookup_nil, reduceCtorEq, Nat.reduceEqDiff, reduceIte, implies_true, forall_const, Nat.reduceMul, Nat.reduceSub, Nat.reduceAdd, Nat.reduceLeDiff, g0, m, *]) | (simp only [zgoO, zgoG, zO_nil, zthen_normal, zgoC]) | (with_reducible apply And.intro) | (with_reducible intro _))
        refine rest32_z ?_
        repeat' (first | (simp only [zmPack, zxPack, ne_eq, zfree, owners, Nat.reduceLT, List.contains_cons, List.contains_nil, Nat.reduceBEq, BEq.rfl, chunk, setAt, List.lookup_cons, List.lookup_nil, reduceCtorEq, Nat.reduceEqDiff, reduceIte, implies_true, forall_const, Nat.reduceMul, Nat.reduceSub, Nat.reduceAdd, Nat.reduceLeDiff, addU, *]) | (simp only [zgoO, zgoG, zO_nil, zthen_normal, zgoC]) | (with_reducible apply And.intro) | (with_reducible intro _))
        all_goals exact fin _ _ _
  · have q1 : ¬ ((1 : Int) < 0) := (by decide); have q2 : ¬ ((1 : Int) > 6) := (by decide); have q3 : ¬ ((1 : Int) = 3) := (by decide); have q4 : ¬ ((1 : Int) = 0) := (by decide); have q5 : (1 : Int) = 1 := (by decide); have q6 : ¬ ((1 : Int) = 2) := (by decide)
    by_cases k0 : n < 0
    · repeat' (first | (simp only [zmPack, zxPack, ne_eq, zfree, owners, Nat.reduceLT, List.contains_cons, List.contains_nil, Nat.reduceBEq, BEq.rfl, chunk, setAt, List.lookup_cons, List.lookup_nil, reduceCtorEq, Nat.reduceEqDiff, reduceIte, implies_true, forall_const, Nat.reduceMul, Nat.reduceSub, Nat.reduceAdd, Nat.reduceLeDiff, g0, k0, q1, q2, q3, q4, q5, q6, *]) | (simp only [zgoO, zgoG, zO_nil, zthen_normal, zgoC]) | (with_reducible apply And.intro) | (with_reducible intro _))
    · by_cases k1 : n > 1
      · repeat' (first | (simp only [zmPack, zxPack, ne_eq, zfree, owners, Nat.reduceLT, List.contains_cons, List.contains_nil, Nat.reduceBEq, BEq.rfl, chunk, setAt, List.lookup_cons, List.lookup_nil, reduceCtorEq, Nat.reduceEqDiff, reduceIte, implies_true, forall_const, Nat.reduceMul, Nat.reduceSub, Nat.reduceAdd, Nat.reduceLeDiff, g0, k0, k1, q1, q2, q3, q4, q5, q6, *]) | (simp only [zgoO, zgoG, zO_nil, zthen_normal, zgoC]) | (with_reducible apply And.intro) | (with_reducible intro _))
      · repeat' (first | (simp only [zmPack, zxPack, ne_eq, zfree, owners, Nat.reduceLT, List.contains_cons, List.contains_nil, Nat.reduceBEq, BEq.rfl, chunk, setAt, List.lookup_cons, List.lookup_nil, reduceCtorEq, Nat.reduceEqDiff, reduceIte, implies_true, forall_const, Nat.reduceMul, Nat.reduceSub, Nat.reduceAdd, Nat.reduceLeDiff, g0, k0, k1, q1, q2, q3, q4, q5, q6, *]) | (simp only [zgoO, zgoG, zO_nil, zthen_normal, zgoC]) | (with_reducible apply And.intro) | (with_reducible intro _))
        refine rtag_z (k := 1) (by omega) ?_
        rw [show tagR 1 = 65530 from rfl]
        have m : binV .mul (.int .u64 65530) (.int .u64 281474976710656) = some (.int .u64 18445055223849287680) := by rfl
        repeat' (first | (simp only [zmPack, zxPack, ne_eq, zfree, owners, Nat.reduceLT, List.contains_cons, List.contains_nil, Nat.reduceBEq, BEq.rfl, chunk, setAt, List.lookup_cons, List.lookup_nil, reduceCtorEq, Nat.reduceEqDiff, reduceIte, implies_true, forall_const, Nat.reduceMul, Nat.reduceSub, Nat.reduceAdd, Nat.reduceLeDiff, g0, m, *]) | (simp only [zgoO, zgoG, zO_nil, zthen_normal, zgoC]) | (with_reducible apply And.intro) | (with_reducible intro _))
        refine rest32_z ?_
        repeat' (first | (simp only [zmPack, zxPack, ne_eq, zfree, owners, Nat.reduceLT, List.contains_cons, List.contains_nil, Nat.reduceBEq, BEq.rfl, chunk, setAt, List.lookup_cons, List.lookup_nil, reduceCtorEq, Nat.reduceEqDiff, reduceIte, implies_true, forall_const, Nat.reduceMul, Nat.reduceSub, Nat.reduceAdd, Nat.reduceLeDiff, addU, *]) | (simp only [zgoO, zgoG, zO_nil, zthen_normal, zgoC]) | (with_reducible apply And.intro) | (with_reducible intro _))
        all_goals exact fin _ _ _
  · have q1 : ¬ ((2 : Int) < 0) := (by decide); have q2 : ¬ ((2 : Int) > 6) := (by decide); have q3 : ¬ ((2 : Int) = 3) := (by decide); have q4 : ¬ ((2 : Int) = 0) := (by decide); have q5 : ¬ ((2 : Int) = 1) := (by decide); have q6 : (2 : Int) = 2 := (by decide)
    by_cases k0 : n < -2147483648
    · repeat' (first | (simp only [zmPack, zxPack, ne_eq, zfree, owners, Nat.reduceLT, List.contains_cons, List.contains_nil, Nat.reduceBEq, BEq.rfl, chunk, setAt, List.lookup_cons, List.lookup_nil, reduceCtorEq, Nat.reduceEqDiff, reduceIte, implies_true, forall_const, Nat.reduceMul, Nat.reduceSub, Nat.reduceAdd, Nat.reduceLeDiff, g0, k0, q1, q2, q3, q4, q5, q6, *]) | (simp only [zgoO, zgoG, zO_nil, zthen_normal, zgoC]) | (with_reducible apply And.intro) | (with_reducible intro _))
    · by_cases k1 : n > 2147483647
      · repeat' (first | (simp only [zmPack, zxPack, ne_eq, zfree, owners, Nat.reduceLT, List.contains_cons, List.contains_nil, Nat.reduceBEq, BEq.rfl, chunk, setAt, List.lookup_cons, List.lookup_nil, reduceCtorEq, Nat.reduceEqDiff, reduceIte, implies_true, forall_const, Nat.reduceMul, Nat.reduceSub, Nat.reduceAdd, Nat.reduceLeDiff, g0, k0, k1, q1, q2, q3, q4, q5, q6, *]) | (simp only [zgoO, zgoG, zO_nil, zthen_normal, zgoC]) | (with_reducible apply And.intro) | (with_reducible intro _))
      · repeat' (first | (simp only [zmPack, zxPack, ne_eq, zfree, owners, Nat.reduceLT, List.contains_cons, List.contains_nil, Nat.reduceBEq, BEq.rfl, chunk, setAt, List.lookup_cons, List.lookup_nil, reduceCtorEq, Nat.reduceEqDiff, reduceIte, implies_true, forall_const, Nat.reduceMul, Nat.reduceSub, Nat.reduceAdd, Nat.reduceLeDiff, g0, k0, k1, q1, q2, q3, q4, q5, q6, *]) | (simp only [zgoO, zgoG, zO_nil, zthen_normal, zgoC]) | (with_reducible apply And.intro) | (with_reducible intro _))
        refine rtag_z (k := 2) (by omega) ?_
        rw [show tagR 2 = 65531 from rfl]
        have m : binV .mul (.int .u64 65531) (.int .u64 281474976710656) = some (.int .u64 18445336698825998336) := by rfl
        repeat' (first | (simp only [zmPack, zxPack, ne_eq, zfree, owners, Nat.reduceLT, List.contains_cons, List.contains_nil, Nat.reduceBEq, BEq.rfl, chunk, setAt, List.lookup_cons, List.lookup_nil, reduceCtorEq, Nat.reduceEqDiff, reduceIte, implies_true, forall_const, Nat.reduceMul, Nat.reduceSub, Nat.reduceAdd, Nat.reduceLeDiff, g0, m, *]) | (simp only [zgoO, zgoG, zO_nil, zthen_normal, zgoC]) | (with_reducible apply And.intro) | (with_reducible intro _))
        refine rest32_z ?_
        repeat' (first | (simp only [zmPack, zxPack, ne_eq, zfree, owners, Nat.reduceLT, List.contains_cons, List.contains_nil, Nat.reduceBEq, BEq.rfl, chunk, setAt, List.lookup_cons, List.lookup_nil, reduceCtorEq, Nat.reduceEqDiff, reduceIte, implies_true, forall_const, Nat.reduceMul, Nat.reduceSub, Nat.reduceAdd, Nat.reduceLeDiff, addU, *]) | (simp only [zgoO, zgoG, zO_nil, zthen_normal, zgoC]) | (with_reducible apply And.intro) | (with_reducible intro _))
        all_goals exact fin _ _ _
  · have q1 : ¬ ((3 : Int) < 0) := (by decide); have q2 : ¬ ((3 : Int) > 6) := (by decide); have q3 : (3 : Int) = 3 := (by decide); have q4 : ¬ ((3 : Int) = 0) := (by decide); have q5 : ¬ ((3 : Int) = 1) := (by decide); have q6 : ¬ ((3 : Int) = 2) := (by decide)
    repeat' (first | (simp only [zmPack, zxPack, ne_eq, zfree, owners, Nat.reduceLT, List.contains_cons, List.contains_nil, Nat.reduceBEq, BEq.rfl, chunk, setAt, List.lookup_cons, List.lookup_nil, reduceCtorEq, Nat.reduceEqDiff, reduceIte, implies_true, forall_const, Nat.reduceMul, Nat.reduceSub, Nat.reduceAdd, Nat.reduceLeDiff, g0, q1, q2, q3, q4, q5, q6, *]) | (simp only [zgoO, zgoG, zO_nil, zthen_normal, zgoC]) | (with_reducible apply And.intro) | (with_reducible intro _))
    refine odd_z fun b => ?_
    cases b with
    | true => repeat' (first | (simp only [zmPack, zxPack, ne_eq, zfree, owners, Nat.reduceLT, List.contains_cons, List.contains_nil, Nat.reduceBEq, BEq.rfl, chunk, setAt, List.lookup_cons, List.lookup_nil, reduceCtorEq, Nat.reduceEqDiff, reduceIte, implies_true, forall_const, Nat.reduceMul, Nat.reduceSub, Nat.reduceAdd, Nat.reduceLeDiff, g0, *]) | (simp only [zgoO, zgoG, zO_nil, zthen_normal, zgoC]) | (with_reducible apply And.intro) | (with_reducible intro _))
    | false => repeat' (first | (simp only [zmPack, zxPack, ne_eq, zfree, owners, Nat.reduceLT, List.contains_cons, List.contains_nil, Nat.reduceBEq, BEq.rfl, chunk, setAt, List.lookup_cons, List.lookup_nil, reduceCtorEq, Nat.reduceEqDiff, reduceIte, implies_true, forall_const, Nat.reduceMul, Nat.reduceSub, Nat.reduceAdd, Nat.reduceLeDiff, g0, *]) | (simp only [zgoO, zgoG, zO_nil, zthen_normal, zgoC]) | (with_reducible apply And.intro) | (with_reducible intro _))
  · have q1 : ¬ ((4 : Int) < 0) := (by decide); have q2 : ¬ ((4 : Int) > 6) := (by decide); have q3 : ¬ ((4 : Int) = 3) := (by decide); have q4 : ¬ ((4 : Int) = 0) := (by decide); have q5 : ¬ ((4 : Int) = 1) := (by decide); have q6 : ¬ ((4 : Int) = 2) := (by decide)
    by_cases k0 : n < 0
    · repeat' (first | (simp only [zmPack, zxPack, ne_eq, zfree, owners, Nat.reduceLT, List.contains_cons, List.contains_nil, Nat.reduceBEq, BEq.rfl, chunk, setAt, List.lookup_cons, List.lookup_nil, reduceCtorEq, Nat.reduceEqDiff, reduceIte, implies_true, forall_const, Nat.reduceMul, Nat.reduceSub, Nat.reduceAdd, Nat.reduceLeDiff, g0, k0, q1, q2, q3, q4, q5, q6, *]) | (simp only [zgoO, zgoG, zO_nil, zthen_normal, zgoC]) | (with_reducible apply And.intro) | (with_reducible intro _))
    · by_cases k1 : n > 4294967295
      · repeat' (first | (simp only [zmPack, zxPack, ne_eq, zfree, owners, Nat.reduceLT, List.contains_cons, List.contains_nil, Nat.reduceBEq, BEq.rfl, chunk, setAt, List.lookup_cons, List.lookup_nil, reduceCtorEq, Nat.reduceEqDiff, reduceIte, implies_true, forall_const, Nat.reduceMul, Nat.reduceSub, Nat.reduceAdd, Nat.reduceLeDiff, g0, k0, k1, q1, q2, q3, q4, q5, q6, *]) | (simp only [zgoO, zgoG, zO_nil, zthen_normal, zgoC]) | (with_reducible apply And.intro) | (with_reducible intro _))
      · repeat' (first | (simp only [zmPack, zxPack, ne_eq, zfree, owners, Nat.reduceLT, List.contains_cons, List.contains_nil, Nat.reduceBEq, BEq.rfl, chunk, setAt, List.lookup_cons, List.lookup_nil, reduceCtorEq, Nat.reduceEqDiff, reduceIte, implies_true, forall_const, Nat.reduceMul, Nat.reduceSub, Nat.reduceAdd, Nat.reduceLeDiff, g0, k0, k1, q1, q2, q3, q4, q5, q6, *]) | (simp only [zgoO, zgoG, zO_nil, zthen_normal, zgoC]) | (with_reducible apply And.intro) | (with_reducible intro _))
        refine rtag_z (k := 4) (by omega) ?_
        rw [show tagR 4 = 65532 from rfl]
        have m : binV .mul (.int .u64 65532) (.int .u64 281474976710656) = some (.int .u64 18445618173802708992) := by rfl
        repeat' (first | (simp only [zmPack, zxPack, ne_eq, zfree, owners, Nat.reduceLT, List.contains_cons, List.contains_nil, Nat.reduceBEq, BEq.rfl, chunk, setAt, List.lookup_cons, List.lookup_nil, reduceCtorEq, Nat.reduceEqDiff, reduceIte, implies_true, forall_const, Nat.reduceMul, Nat.reduceSub, Nat.reduceAdd, Nat.reduceLeDiff, g0, m, *]) | (simp only [zgoO, zgoG, zO_nil, zthen_normal, zgoC]) | (with_reducible apply And.intro) | (with_reducible intro _))
        refine rest32_z ?_
        repeat' (first | (simp only [zmPack, zxPack, ne_eq, zfree, owners, Nat.reduceLT, List.contains_cons, List.contains_nil, Nat.reduceBEq, BEq.rfl, chunk, setAt, List.lookup_cons, List.lookup_nil, reduceCtorEq, Nat.reduceEqDiff, reduceIte, implies_true, forall_const, Nat.reduceMul, Nat.reduceSub, Nat.reduceAdd, Nat.reduceLeDiff, addU, *]) | (simp only [zgoO, zgoG, zO_nil, zthen_normal, zgoC]) | (with_reducible apply And.intro) | (with_reducible intro _))
        all_goals exact fin _ _ _
  · have q1 : ¬ ((6 : Int) < 0) := (by decide); have q2 : ¬ ((6 : Int) > 6) := (by decide); have q3 : ¬ ((6 : Int) = 3) := (by decide); have q4 : ¬ ((6 : Int) = 0) := (by decide); have q5 : ¬ ((6 : Int) = 1) := (by decide); have q6 : ¬ ((6 : Int) = 2) := (by decide)
    by_cases k0 : n < 0
    · repeat' (first | (simp only [zmPack, zxPack, ne_eq, zfree, owners, Nat.reduceLT, List.contains_cons, List.contains_nil, Nat.reduceBEq, BEq.rfl, chunk, setAt, List.lookup_cons, List.lookup_nil, reduceCtorEq, Nat.reduceEqDiff, reduceIte, implies_true, forall_const, Nat.reduceMul, Nat.reduceSub, Nat.reduceAdd, Nat.reduceLeDiff, g0, k0, q1, q2, q3, q4, q5, q6, *]) | (simp only [zgoO, zgoG, zO_nil, zthen_normal, zgoC]) | (with_reducible apply And.intro) | (with_reducible intro _))
    · by_cases k1 : n > 4294967295
      · repeat' (first | (simp only [zmPack, zxPack, ne_eq, zfree, owners, Nat.reduceLT, List.contains_cons, List.contains_nil, Nat.reduceBEq, BEq.rfl, chunk, setAt, List.lookup_cons, List.lookup_nil, reduceCtorEq, Nat.reduceEqDiff, reduceIte, implies_true, forall_const, Nat.reduceMul, Nat.reduceSub, Nat.reduceAdd, Nat.reduceLeDiff, g0, k0, k1, q1, q2, q3, q4, q5, q6, *]) | (simp only [zgoO, zgoG, zO_nil, zthen_normal, zgoC]) | (with_reducible apply And.intro) | (with_reducible intro _))
      · repeat' (first | (simp only [zmPack, zxPack, ne_eq, zfree, owners, Nat.reduceLT, List.contains_cons, List.contains_nil, Nat.reduceBEq, BEq.rfl, chunk, setAt, List.lookup_cons, List.lookup_nil, reduceCtorEq, Nat.reduceEqDiff, reduceIte, implies_true, forall_const, Nat.reduceMul, Nat.reduceSub, Nat.reduceAdd, Nat.reduceLeDiff, g0, k0, k1, q1, q2, q3, q4, q5, q6, *]) | (simp only [zgoO, zgoG, zO_nil, zthen_normal, zgoC]) | (with_reducible apply And.intro) | (with_reducible intro _))
        refine rtag_z (k := 6) (by omega) ?_
        rw [show tagR 6 = 65534 from rfl]
        have m : binV .mul (.int .u64 65534) (.int .u64 281474976710656) = some (.int .u64 18446181123756130304) := by rfl
        repeat' (first | (simp only [zmPack, zxPack, ne_eq, zfree, owners, Nat.reduceLT, List.contains_cons, List.contains_nil, Nat.reduceBEq, BEq.rfl, chunk, setAt, List.lookup_cons, List.lookup_nil, reduceCtorEq, Nat.reduceEqDiff, reduceIte, implies_true, forall_const, Nat.reduceMul, Nat.reduceSub, Nat.reduceAdd, Nat.reduceLeDiff, g0, m, *]) | (simp only [zgoO, zgoG, zO_nil, zthen_normal, zgoC]) | (with_reducible apply And.intro) | (with_reducible intro _))
        refine rest32_z ?_
        repeat' (first | (simp only [zmPack, zxPack, ne_eq, zfree, owners, Nat.reduceLT, List.contains_cons, List.contains_nil, Nat.reduceBEq, BEq.rfl, chunk, setAt, List.lookup_cons, List.lookup_nil, reduceCtorEq, Nat.reduceEqDiff, reduceIte, implies_true, forall_const, Nat.reduceMul, Nat.reduceSub, Nat.reduceAdd, Nat.reduceLeDiff, addU, *]) | (simp only [zgoO, zgoG, zO_nil, zthen_normal, zgoC]) | (with_reducible apply And.intro) | (with_reducible intro _))
        all_goals exact fin _ _ _
end
end Go.Proofs.Ytijcjkgammldlaa

namespace Go.Proofs.Ytijcjkgammldlaa
open Go Go.RowKit
set_option linter.unusedVariables false
set_option linter.unusedSimpArgs false
section
variable {tb : List (FuncId × Bool)} {L : Nat → Bool} {H : ZH} {K : ZV → ZH → Prop}
theorem hi_box5 {n : Int} (h0 : 0 ≤ n) (h1 : n < 4294967296) : boxE 5 n = 0 ∧ boxW 5 n = 65533 * 281474976710656 + n := by
  have hE : boxE 5 n = 0 := by
    unfold boxE
    rw [if_neg (by omega), if_neg (by omega), if_neg (by unfold loI hiI; simp; omega)]
  refine ⟨hE, ?_⟩
  rw [boxW_tag hE (by omega)]
  unfold tagI
  split <;> omega
theorem place_is {w : Int} (ht : w / 281474976710656 = 65533) (hr : w % 281474976710656 < 4294967296) : placeB w = true ∧ unNum w = w % 281474976710656 := by
  obtain ⟨e1, e2⟩ := hi_box5 (n := w % 281474976710656) (by omega) hr
  have e : boxW 5 (w % 281474976710656) = w := by rw [e2]; omega
  obtain ⟨a, b, c, _⟩ := tag_word e1 (by omega) (by omega)
  rw [e] at a b c
  exact ⟨by simp [placeB, a, b], c⟩
theorem place_no {w : Int} (h : placeB w = true) : w / 281474976710656 = 65533 ∧ w % 281474976710656 < 4294967296 := by
  simp only [placeB, Bool.and_eq_true, decide_eq_true_eq] at h
  obtain ⟨h1, h2⟩ := h
  unfold unKind at h2
  rw [if_pos h1] at h2
  cases ht : isTag w with
  | false => rw [ht] at h2; simp at h2
  | true =>
    rw [ht] at h2
    have h2 : unK w = 5 := by simpa using h2
    unfold unE at h1
    rw [ht] at h1
    simp only [if_true] at h1
    split at h1
    · rename_i h3
      rw [h2] at h3
      have hn : unN w = w % 4294967296 := by unfold unN; rw [if_neg (by omega)]
      rw [hn] at h3
      have e := (hi_box5 (n := w % 4294967296) (by omega) (by omega)).2
      rw [h3.2] at e
      omega
    · cases h1
def kindsR : List Int := [0, 1, 2, 4, 5, 6]
/-- What the document's Unbox has found so far. -/
def PvR (w : Int) (j : Nat) (k n : Int) : Prop := (0 ≤ k ∧ k ≤ 6) ∧ (-9223372036854775808 ≤ n ∧ n ≤ 9223372036854775807) ∧ (k = 5 ↔ w / 281474976710656 = 65533 ∧ 5 ≤ j) ∧ (k = 5 → n = w % 281474976710656)
set_option maxHeartbeats 8000000 in
theorem runbox_z {w : Int} (hL : ∀ k, L (H.length + k) = true) (h0 : 0 ≤ w ∧ w < 18446744073709551616) (hK : ∀ k n b, (placeB w = true → b = true ∧ k = 5 ∧ n = unNum w) → (placeB w = false → b = false ∨ k ≠ 5) → K (.tuple [.agg [Z64 k, Z64 n], ZBo b]) H) :
    ZC (boxX tb) (cFunc Try.prog) 20 [.val (.int .u64 w)] L H K := by
  refine ZC.enter Gh.no (boxX_none (by decide)) f_rUnbox (by simp) ?_
  simp only [c_rUnbox]
  have hL0 : L H.length = true := hL 0
  have hL1 : L (H.length + 1) = true := hL 1
  have g0 : ∀ A Y, (H ++ (A :: Y))[H.length]? = some A := fun A Y => hl_at0 A Y
  have g1 : ∀ A B Y, (H ++ (A :: B :: Y))[H.length + 1]? = some B := fun A B Y => hl_at1 A B Y
  have s0 : ∀ A C Y, (H ++ (A :: Y)).set H.length C = H ++ (C :: Y) := fun A C Y => hl_st0 A C Y
  have s1 : ∀ A B C Y, (H ++ (A :: B :: Y)).set (H.length + 1) C = H ++ (A :: C :: Y) := fun A B C Y => hl_st1 A B C Y
  have HKK := Lib.hid hK
  have H00 := Lib.hid h0
  clear hK h0
  repeat' (first | (simp only [zmPack, zxPack, ne_eq, zfree, owners, Nat.reduceLT, List.contains_cons, List.contains_nil, Nat.reduceBEq, BEq.rfl, chunk, setAt, List.lookup_cons, List.lookup_nil, reduceCtorEq, Nat.reduceEqDiff, reduceIte, implies_true, forall_const, Nat.reduceMul, Nat.reduceSub, Nat.reduceAdd, Nat.reduceLeDiff, g0, g1, s0, s1, *]) | (simp only [zgoO, zgoG, zO_nil, zthen_normal, zgoC]) | (with_reducible apply And.intro) | (with_reducible intro _))
  have hinit : PvR w 0 3 (IntKind.i64.wrap w) := ⟨by omega, by simp only [IntKind.wrap_i64]; omega, by omega, fun h => by omega⟩
  have W0 : -9223372036854775808 ≤ IntKind.i64.wrap w ∧ IntKind.i64.wrap w ≤ 9223372036854775807 := by simp only [IntKind.wrap_i64]; omega
  obtain ⟨t, ht⟩ : ∃ t, t = w / 281474976710656 := ⟨_, rfl⟩
  obtain ⟨r, hr⟩ : ∃ r, r = w % 281474976710656 := ⟨_, rfl⟩
  have ht' : w.fdiv (2 ^ 48) = t := by rw [ht]; have := H00.out; rw [Int.fdiv_eq_ediv_of_nonneg _ (by decide)]; rfl
  have hr' : binV .rem (.int .u64 w) (.int .u64 281474976710656) = some (.int .u64 r) := by
    have := H00.out
    rw [remU _ _ (by decide), Int.tmod_eq_emod_of_nonneg (by omega), hr]
  have hrr : 0 ≤ r ∧ r < 281474976710656 := by have := H00.out; omega
  have hrw : IntKind.i64.wrap r = r := IntWalk.i64_in _ (by omega)
  have hsh : binV .shr (.int .u64 w) (.int .u64 48) = some (.int .u64 t) := by rw [shrU48, ht']
  have RR := Lib.hid hrr
  have HT := Lib.hid ht
  have HR := Lib.hid hr
  clear W0 hrr ht hr ht'
  refine zW_forK [(0, .val (.int .u64 w)), (2, .ptr H.length 0), (4, .ptr (H.length + 1) 0), (12, .fz 1 true (kindsR.map eI))] 6 (fun j s' h' => ∃ k n, h' = H ++ [.box [Z64 0, Z64 0], .box [Z64 k, Z64 n]] ∧ PvR w j k n) (by omega) ⟨rfl, rfl, rfl, rfl, rfl, rfl⟩ rfl rfl (by repeat' (first | exact trivial | (refine ⟨rfl, ?_⟩) | (refine ⟨by simp only [zupd_at, Nat.reduceEqDiff, reduceIte]; assumption, ?_⟩))) rfl rfl (by decide) ⟨3, _, rfl, hinit⟩ ?_ ?_
  · rintro j s' h' hj ⟨k, n, rfl, hp⟩ hi hl ⟨f0, f2, f4, f12, -⟩
    have HP := Lib.hid hp
    clear hinit hp
    rcases (show j = 0 ∨ j = 1 ∨ j = 2 ∨ j = 3 ∨ j = 4 ∨ j = 5 by omega) with rfl | rfl | rfl | rfl | rfl | rfl
    · obtain ⟨q, hq, hld⟩ := rows_at (H := H ++ [.box [Z64 0, Z64 0], .box [Z64 k, Z64 n]]) (k := 1) (z := .fz 1 true (kindsR.map eI)) (f := eI) (l := kindsR) (j := 0) (by simp [rowsZ]) (by decide)
      have hld : ∀ n, ldZ _ n q = partZ [Z64 0] 0 n := hld
      repeat' (first | (simp only [zmPack, zxPack, ne_eq, zfree, owners, Nat.reduceLT, List.contains_cons, List.contains_nil, Nat.reduceBEq, BEq.rfl, chunk, setAt, List.lookup_cons, List.lookup_nil, reduceCtorEq, Nat.reduceEqDiff, reduceIte, implies_true, forall_const, Nat.reduceMul, Nat.reduceSub, Nat.reduceAdd, Nat.reduceLeDiff, hq, hld, *]) | (simp only [zgoO, zgoG, zO_nil, zthen_normal, zgoC]) | (with_reducible apply And.intro) | (with_reducible intro _))
      refine rtag_z (k := 0) (by omega) ?_
      rw [show tagR 0 = 65529 from rfl]
      by_cases hc : t = 65529
      · have q1 : ¬ ((0 : Int) = 2) := (by decide)
        repeat' (first | (simp only [zmPack, zxPack, ne_eq, zfree, owners, Nat.reduceLT, List.contains_cons, List.contains_nil, Nat.reduceBEq, BEq.rfl, chunk, setAt, List.lookup_cons, List.lookup_nil, reduceCtorEq, Nat.reduceEqDiff, reduceIte, implies_true, forall_const, Nat.reduceMul, Nat.reduceSub, Nat.reduceAdd, Nat.reduceLeDiff, hsh, eqlU, hc, hr', hrw, g1, s1, q1, *]) | (simp only [zgoO, zgoG, zO_nil, zthen_normal, zgoC]) | (with_reducible apply And.intro) | (with_reducible intro _))
        all_goals exact ⟨_, _, rfl, by have := RR.out; have := HT.out; have := HR.out; unfold PvR; omega⟩
      · repeat' (first | (simp only [zmPack, zxPack, ne_eq, zfree, owners, Nat.reduceLT, List.contains_cons, List.contains_nil, Nat.reduceBEq, BEq.rfl, chunk, setAt, List.lookup_cons, List.lookup_nil, reduceCtorEq, Nat.reduceEqDiff, reduceIte, implies_true, forall_const, Nat.reduceMul, Nat.reduceSub, Nat.reduceAdd, Nat.reduceLeDiff, hsh, eqlU, hc, g1, s1, *]) | (simp only [zgoO, zgoG, zO_nil, zthen_normal, zgoC]) | (with_reducible apply And.intro) | (with_reducible intro _))
        all_goals exact ⟨_, _, rfl, by have := HP.out; have := HT.out; unfold PvR at *; omega⟩
    · obtain ⟨q, hq, hld⟩ := rows_at (H := H ++ [.box [Z64 0, Z64 0], .box [Z64 k, Z64 n]]) (k := 1) (z := .fz 1 true (kindsR.map eI)) (f := eI) (l := kindsR) (j := 1) (by simp [rowsZ]) (by decide)
      have hld : ∀ n, ldZ _ n q = partZ [Z64 1] 0 n := hld
      repeat' (first | (simp only [zmPack, zxPack, ne_eq, zfree, owners, Nat.reduceLT, List.contains_cons, List.contains_nil, Nat.reduceBEq, BEq.rfl, chunk, setAt, List.lookup_cons, List.lookup_nil, reduceCtorEq, Nat.reduceEqDiff, reduceIte, implies_true, forall_const, Nat.reduceMul, Nat.reduceSub, Nat.reduceAdd, Nat.reduceLeDiff, hq, hld, *]) | (simp only [zgoO, zgoG, zO_nil, zthen_normal, zgoC]) | (with_reducible apply And.intro) | (with_reducible intro _))
      refine rtag_z (k := 1) (by omega) ?_
      rw [show tagR 1 = 65530 from rfl]
      by_cases hc : t = 65530
      · have q1 : ¬ ((1 : Int) = 2) := (by decide)
        repeat' (first | (simp only [zmPack, zxPack, ne_eq, zfree, owners, Nat.reduceLT, List.contains_cons, List.contains_nil, Nat.reduceBEq, BEq.rfl, chunk, setAt, List.lookup_cons, List.lookup_nil, reduceCtorEq, Nat.reduceEqDiff, reduceIte, implies_true, forall_const, Nat.reduceMul, Nat.reduceSub, Nat.reduceAdd, Nat.reduceLeDiff, hsh, eqlU, hc, hr', hrw, g1, s1, q1, *]) | (simp only [zgoO, zgoG, zO_nil, zthen_normal, zgoC]) | (with_reducible apply And.intro) | (with_reducible intro _))
        all_goals exact ⟨_, _, rfl, by have := RR.out; have := HT.out; have := HR.out; unfold PvR; omega⟩
      · repeat' (first | (simp only [zmPack, zxPack, ne_eq, zfree, owners, Nat.reduceLT, List.contains_cons, List.contains_nil, Nat.reduceBEq, BEq.rfl, chunk, setAt, List.lookup_cons, List.lookup_nil, reduceCtorEq, Nat.reduceEqDiff, reduceIte, implies_true, forall_const, Nat.reduceMul, Nat.reduceSub, Nat.reduceAdd, Nat.reduceLeDiff, hsh, eqlU, hc, g1, s1, *]) | (simp only [zgoO, zgoG, zO_nil, zthen_normal, zgoC]) | (with_reducible apply And.intro) | (with_reducible intro _))
        all_goals exact ⟨_, _, rfl, by have := HP.out; have := HT.out; unfold PvR at *; omega⟩
    · obtain ⟨q, hq, hld⟩ := rows_at (H := H ++ [.box [Z64 0, Z64 0], .box [Z64 k, Z64 n]]) (k := 1) (z := .fz 1 true (kindsR.map eI)) (f := eI) (l := kindsR) (j := 2) (by simp [rowsZ]) (by decide)
      have hld : ∀ n, ldZ _ n q = partZ [Z64 2] 0 n := hld
      repeat' (first | (simp only [zmPack, zxPack, ne_eq, zfree, owners, Nat.reduceLT, List.contains_cons, List.contains_nil, Nat.reduceBEq, BEq.rfl, chunk, setAt, List.lookup_cons, List.lookup_nil, reduceCtorEq, Nat.reduceEqDiff, reduceIte, implies_true, forall_const, Nat.reduceMul, Nat.reduceSub, Nat.reduceAdd, Nat.reduceLeDiff, hq, hld, *]) | (simp only [zgoO, zgoG, zO_nil, zthen_normal, zgoC]) | (with_reducible apply And.intro) | (with_reducible intro _))
      refine rtag_z (k := 2) (by omega) ?_
      rw [show tagR 2 = 65531 from rfl]
      by_cases hc : t = 65531
      · have q1 : (2 : Int) = 2 := rfl
        have hs : -9223372036854775808 ≤ r - 4294967296 ∧ r - 4294967296 ≤ 9223372036854775807 := by have := RR.out; omega
        have hw : IntKind.i64.wrap (r - 4294967296) = r - 4294967296 := IntWalk.i64_in _ (by have := RR.out; omega)
        have HS := Lib.hid hs
        clear hs
        by_cases hb : r ≥ 2147483648
        · repeat' (first | (simp only [zmPack, zxPack, ne_eq, zfree, owners, Nat.reduceLT, List.contains_cons, List.contains_nil, Nat.reduceBEq, BEq.rfl, chunk, setAt, List.lookup_cons, List.lookup_nil, reduceCtorEq, Nat.reduceEqDiff, reduceIte, implies_true, forall_const, Nat.reduceMul, Nat.reduceSub, Nat.reduceAdd, Nat.reduceLeDiff, hsh, eqlU, hc, hr', hrw, g1, s1, q1, hb, hw, *]) | (simp only [zgoO, zgoG, zO_nil, zthen_normal, zgoC]) | (with_reducible apply And.intro) | (with_reducible intro _))
          all_goals exact ⟨_, _, rfl, by have := HS.out; have := RR.out; have := HT.out; unfold PvR; omega⟩
        · repeat' (first | (simp only [zmPack, zxPack, ne_eq, zfree, owners, Nat.reduceLT, List.contains_cons, List.contains_nil, Nat.reduceBEq, BEq.rfl, chunk, setAt, List.lookup_cons, List.lookup_nil, reduceCtorEq, Nat.reduceEqDiff, reduceIte, implies_true, forall_const, Nat.reduceMul, Nat.reduceSub, Nat.reduceAdd, Nat.reduceLeDiff, hsh, eqlU, hc, hr', hrw, g1, s1, q1, hb, hw, *]) | (simp only [zgoO, zgoG, zO_nil, zthen_normal, zgoC]) | (with_reducible apply And.intro) | (with_reducible intro _))
          all_goals exact ⟨_, _, rfl, by have := HS.out; have := RR.out; have := HT.out; unfold PvR; omega⟩
      · repeat' (first | (simp only [zmPack, zxPack, ne_eq, zfree, owners, Nat.reduceLT, List.contains_cons, List.contains_nil, Nat.reduceBEq, BEq.rfl, chunk, setAt, List.lookup_cons, List.lookup_nil, reduceCtorEq, Nat.reduceEqDiff, reduceIte, implies_true, forall_const, Nat.reduceMul, Nat.reduceSub, Nat.reduceAdd, Nat.reduceLeDiff, hsh, eqlU, hc, g1, s1, *]) | (simp only [zgoO, zgoG, zO_nil, zthen_normal, zgoC]) | (with_reducible apply And.intro) | (with_reducible intro _))
        all_goals exact ⟨_, _, rfl, by have := HP.out; have := HT.out; unfold PvR at *; omega⟩
    · obtain ⟨q, hq, hld⟩ := rows_at (H := H ++ [.box [Z64 0, Z64 0], .box [Z64 k, Z64 n]]) (k := 1) (z := .fz 1 true (kindsR.map eI)) (f := eI) (l := kindsR) (j := 3) (by simp [rowsZ]) (by decide)
      have hld : ∀ n, ldZ _ n q = partZ [Z64 4] 0 n := hld
      repeat' (first | (simp only [zmPack, zxPack, ne_eq, zfree, owners, Nat.reduceLT, List.contains_cons, List.contains_nil, Nat.reduceBEq, BEq.rfl, chunk, setAt, List.lookup_cons, List.lookup_nil, reduceCtorEq, Nat.reduceEqDiff, reduceIte, implies_true, forall_const, Nat.reduceMul, Nat.reduceSub, Nat.reduceAdd, Nat.reduceLeDiff, hq, hld, *]) | (simp only [zgoO, zgoG, zO_nil, zthen_normal, zgoC]) | (with_reducible apply And.intro) | (with_reducible intro _))
      refine rtag_z (k := 4) (by omega) ?_
      rw [show tagR 4 = 65532 from rfl]
      by_cases hc : t = 65532
      · have q1 : ¬ ((4 : Int) = 2) := (by decide)
        repeat' (first | (simp only [zmPack, zxPack, ne_eq, zfree, owners, Nat.reduceLT, List.contains_cons, List.contains_nil, Nat.reduceBEq, BEq.rfl, chunk, setAt, List.lookup_cons, List.lookup_nil, reduceCtorEq, Nat.reduceEqDiff, reduceIte, implies_true, forall_const, Nat.reduceMul, Nat.reduceSub, Nat.reduceAdd, Nat.reduceLeDiff, hsh, eqlU, hc, hr', hrw, g1, s1, q1, *]) | (simp only [zgoO, zgoG, zO_nil, zthen_normal, zgoC]) | (with_reducible apply And.intro) | (with_reducible intro _))
        all_goals exact ⟨_, _, rfl, by have := RR.out; have := HT.out; have := HR.out; unfold PvR; omega⟩
      · repeat' (first | (simp only [zmPack, zxPack, ne_eq, zfree, owners, Nat.reduceLT, List.contains_cons, List.contains_nil, Nat.reduceBEq, BEq.rfl, chunk, setAt, List.lookup_cons, List.lookup_nil, reduceCtorEq, Nat.reduceEqDiff, reduceIte, implies_true, forall_const, Nat.reduceMul, Nat.reduceSub, Nat.reduceAdd, Nat.reduceLeDiff, hsh, eqlU, hc, g1, s1, *]) | (simp only [zgoO, zgoG, zO_nil, zthen_normal, zgoC]) | (with_reducible apply And.intro) | (with_reducible intro _))
        all_goals exact ⟨_, _, rfl, by have := HP.out; have := HT.out; unfold PvR at *; omega⟩
    · obtain ⟨q, hq, hld⟩ := rows_at (H := H ++ [.box [Z64 0, Z64 0], .box [Z64 k, Z64 n]]) (k := 1) (z := .fz 1 true (kindsR.map eI)) (f := eI) (l := kindsR) (j := 4) (by simp [rowsZ]) (by decide)
      have hld : ∀ n, ldZ _ n q = partZ [Z64 5] 0 n := hld
      repeat' (first | (simp only [zmPack, zxPack, ne_eq, zfree, owners, Nat.reduceLT, List.contains_cons, List.contains_nil, Nat.reduceBEq, BEq.rfl, chunk, setAt, List.lookup_cons, List.lookup_nil, reduceCtorEq, Nat.reduceEqDiff, reduceIte, implies_true, forall_const, Nat.reduceMul, Nat.reduceSub, Nat.reduceAdd, Nat.reduceLeDiff, hq, hld, *]) | (simp only [zgoO, zgoG, zO_nil, zthen_normal, zgoC]) | (with_reducible apply And.intro) | (with_reducible intro _))
      refine rtag_z (k := 5) (by omega) ?_
      rw [show tagR 5 = 65533 from rfl]
      by_cases hc : t = 65533
      · have q1 : ¬ ((5 : Int) = 2) := (by decide)
        repeat' (first | (simp only [zmPack, zxPack, ne_eq, zfree, owners, Nat.reduceLT, List.contains_cons, List.contains_nil, Nat.reduceBEq, BEq.rfl, chunk, setAt, List.lookup_cons, List.lookup_nil, reduceCtorEq, Nat.reduceEqDiff, reduceIte, implies_true, forall_const, Nat.reduceMul, Nat.reduceSub, Nat.reduceAdd, Nat.reduceLeDiff, hsh, eqlU, hc, hr', hrw, g1, s1, q1, *]) | (simp only [zgoO, zgoG, zO_nil, zthen_normal, zgoC]) | (with_reducible apply And.intro) | (with_reducible intro _))
        all_goals exact ⟨_, _, rfl, by have := RR.out; have := HT.out; have := HR.out; unfold PvR; omega⟩
      · repeat' (first | (simp only [zmPack, zxPack, ne_eq, zfree, owners, Nat.reduceLT, List.contains_cons, List.contains_nil, Nat.reduceBEq, BEq.rfl, chunk, setAt, List.lookup_cons, List.lookup_nil, reduceCtorEq, Nat.reduceEqDiff, reduceIte, implies_true, forall_const, Nat.reduceMul, Nat.reduceSub, Nat.reduceAdd, Nat.reduceLeDiff, hsh, eqlU, hc, g1, s1, *]) | (simp only [zgoO, zgoG, zO_nil, zthen_normal, zgoC]) | (with_reducible apply And.intro) | (with_reducible intro _))
        all_goals exact ⟨_, _, rfl, by have := HP.out; have := HT.out; unfold PvR at *; omega⟩
    · obtain ⟨q, hq, hld⟩ := rows_at (H := H ++ [.box [Z64 0, Z64 0], .box [Z64 k, Z64 n]]) (k := 1) (z := .fz 1 true (kindsR.map eI)) (f := eI) (l := kindsR) (j := 5) (by simp [rowsZ]) (by decide)
      have hld : ∀ n, ldZ _ n q = partZ [Z64 6] 0 n := hld
      repeat' (first | (simp only [zmPack, zxPack, ne_eq, zfree, owners, Nat.reduceLT, List.contains_cons, List.contains_nil, Nat.reduceBEq, BEq.rfl, chunk, setAt, List.lookup_cons, List.lookup_nil, reduceCtorEq, Nat.reduceEqDiff, reduceIte, implies_true, forall_const, Nat.reduceMul, Nat.reduceSub, Nat.reduceAdd, Nat.reduceLeDiff, hq, hld, *]) | (simp only [zgoO, zgoG, zO_nil, zthen_normal, zgoC]) | (with_reducible apply And.intro) | (with_reducible intro _))
      refine rtag_z (k := 6) (by omega) ?_
      rw [show tagR 6 = 65534 from rfl]
      by_cases hc : t = 65534
      · have q1 : ¬ ((6 : Int) = 2) := (by decide)
        repeat' (first | (simp only [zmPack, zxPack, ne_eq, zfree, owners, Nat.reduceLT, List.contains_cons, List.contains_nil, Nat.reduceBEq, BEq.rfl, chunk, setAt, List.lookup_cons, List.lookup_nil, reduceCtorEq, Nat.reduceEqDiff, reduceIte, implies_true, forall_const, Nat.reduceMul, Nat.reduceSub, Nat.reduceAdd, Nat.reduceLeDiff, hsh, eqlU, hc, hr', hrw, g1, s1, q1, *]) | (simp only [zgoO, zgoG, zO_nil, zthen_normal, zgoC]) | (with_reducible apply And.intro) | (with_reducible intro _))
        all_goals exact ⟨_, _, rfl, by have := RR.out; have := HT.out; have := HR.out; unfold PvR; omega⟩
      · repeat' (first | (simp only [zmPack, zxPack, ne_eq, zfree, owners, Nat.reduceLT, List.contains_cons, List.contains_nil, Nat.reduceBEq, BEq.rfl, chunk, setAt, List.lookup_cons, List.lookup_nil, reduceCtorEq, Nat.reduceEqDiff, reduceIte, implies_true, forall_const, Nat.reduceMul, Nat.reduceSub, Nat.reduceAdd, Nat.reduceLeDiff, hsh, eqlU, hc, g1, s1, *]) | (simp only [zgoO, zgoG, zO_nil, zthen_normal, zgoC]) | (with_reducible apply And.intro) | (with_reducible intro _))
        all_goals exact ⟨_, _, rfl, by have := HP.out; have := HT.out; unfold PvR at *; omega⟩
  · rintro s' h' ⟨k, n, rfl, hp⟩ ⟨f0, f2, f4, f12, -⟩
    obtain ⟨hk, hn, h5, h6⟩ := hp
    by_cases hk5 : k = 5
    · subst hk5
      obtain ⟨ht5, -⟩ := h5.1 rfl
      have hn5 := h6 rfl
      subst hn5
      have RH := Lib.hid hn
      clear hinit hn hk h5 h6
      repeat' (first | (simp only [zmPack, zxPack, ne_eq, zfree, owners, Nat.reduceLT, List.contains_cons, List.contains_nil, Nat.reduceBEq, BEq.rfl, chunk, setAt, List.lookup_cons, List.lookup_nil, reduceCtorEq, Nat.reduceEqDiff, reduceIte, implies_true, forall_const, Nat.reduceMul, Nat.reduceSub, Nat.reduceAdd, Nat.reduceLeDiff, g1, s0, s1, *]) | (simp only [zgoO, zgoG, zO_nil, zthen_normal, zgoC]) | (with_reducible apply And.intro) | (with_reducible intro _))
      refine rbox5_z (fun k => by have := hL (k + 2); simpa [Nat.add_assoc, Nat.add_comm, Nat.add_left_comm] using this) (by omega) (fun hr4 => ?_) (fun hr4 => ?_)
      · obtain ⟨p1, p2⟩ := place_is ht5 hr4
        have fin := fun X => Fin.truncT (K := K) (zs := [.agg [Z64 5, Z64 (w % 281474976710656)], ZBo true]) (Mods.ext H X) rfl (by rw [List.take_left]; exact HKK.out _ _ _ (fun _ => ⟨rfl, rfl, p2.symm⟩) (fun h => by rw [p1] at h; cases h))
        have hx : 18445899648779419648 + w % 281474976710656 = w := by omega
        have hne : binV .neq (.int .u64 (18445899648779419648 + w % 281474976710656)) (.int .u64 w) = some (.bool false) := by rw [hx, neqU, decide_eq_true rfl]; rfl
        clear p1 p2 hr4 ht5 hx
        repeat' (first | (simp only [zmPack, zxPack, ne_eq, zfree, owners, Nat.reduceLT, List.contains_cons, List.contains_nil, Nat.reduceBEq, BEq.rfl, chunk, setAt, List.lookup_cons, List.lookup_nil, reduceCtorEq, Nat.reduceEqDiff, reduceIte, implies_true, forall_const, Nat.reduceMul, Nat.reduceSub, Nat.reduceAdd, Nat.reduceLeDiff, g1, s0, s1, hne, *]) | (simp only [zgoO, zgoG, zO_nil, zthen_normal, zgoC]) | (with_reducible apply And.intro) | (with_reducible intro _))
      · have hpf : placeB w = false := by
          cases hb : placeB w with
          | false => rfl
          | true => have := place_no hb; omega
        have fin := fun X => Fin.truncT (K := K) (zs := [.agg [Z64 0, Z64 0], ZBo false]) (Mods.ext H X) rfl (by rw [List.take_left]; exact HKK.out _ _ _ (fun h => by rw [hpf] at h; cases h) (fun _ => .inl rfl))
        have q1 : ¬ ((1 : Int) = 0) := (by decide)
        have HW0 := neqU 0 w
        clear hpf hr4 ht5
        repeat' (first | (simp only [zmPack, zxPack, ne_eq, zfree, owners, Nat.reduceLT, List.contains_cons, List.contains_nil, Nat.reduceBEq, BEq.rfl, chunk, setAt, List.lookup_cons, List.lookup_nil, reduceCtorEq, Nat.reduceEqDiff, reduceIte, implies_true, forall_const, Nat.reduceMul, Nat.reduceSub, Nat.reduceAdd, Nat.reduceLeDiff, g1, s0, s1, q1, HW0, *]) | (simp only [zgoO, zgoG, zO_nil, zthen_normal, zgoC]) | (with_reducible apply And.intro) | (with_reducible intro _))
    · have ht5 : ¬ (w / 281474976710656 = 65533) := fun h => hk5 (h5.2 ⟨h, by omega⟩)
      have hpf : placeB w = false := by
        cases hb : placeB w with
        | false => rfl
        | true => exact absurd (place_no hb).1 ht5
      have fin0 := fun X => Fin.truncT (K := K) (zs := [.agg [Z64 0, Z64 0], ZBo false]) (Mods.ext H X) rfl (by rw [List.take_left]; exact HKK.out _ _ _ (fun h => by rw [hpf] at h; cases h) (fun _ => .inl rfl))
      have fin1 := fun X => Fin.truncT (K := K) (zs := [.agg [Z64 k, Z64 n], ZBo true]) (Mods.ext H X) rfl (by rw [List.take_left]; exact HKK.out _ _ _ (fun h => by rw [hpf] at h; cases h) (fun _ => .inr hk5))
      have HK5 := Lib.hid hk5
      have hk7 := Lib.hid (show k = 0 ∨ k = 1 ∨ k = 2 ∨ k = 3 ∨ k = 4 ∨ k = 6 by omega)
      have HN := Lib.hid hn
      clear hinit hn hk h5 h6 hk5 ht5 hpf
      repeat' (first | (simp only [zmPack, zxPack, ne_eq, zfree, owners, Nat.reduceLT, List.contains_cons, List.contains_nil, Nat.reduceBEq, BEq.rfl, chunk, setAt, List.lookup_cons, List.lookup_nil, reduceCtorEq, Nat.reduceEqDiff, reduceIte, implies_true, forall_const, Nat.reduceMul, Nat.reduceSub, Nat.reduceAdd, Nat.reduceLeDiff, g1, s0, s1, *]) | (simp only [zgoO, zgoG, zO_nil, zthen_normal, zgoC]) | (with_reducible apply And.intro) | (with_reducible intro _))
      refine rboxo_z (fun k => by have := hL (k + 2); simpa [Nat.add_assoc, Nat.add_comm, Nat.add_left_comm] using this) hk7.out HN.out fun x e => ?_
      by_cases he : e = 0
      · subst he
        by_cases hx : x = w
        · subst hx
          have hne : binV .neq (.int .u64 x) (.int .u64 x) = some (.bool false) := by rw [neqU, decide_eq_true rfl]; rfl
          repeat' (first | (simp only [zmPack, zxPack, ne_eq, zfree, owners, Nat.reduceLT, List.contains_cons, List.contains_nil, Nat.reduceBEq, BEq.rfl, chunk, setAt, List.lookup_cons, List.lookup_nil, reduceCtorEq, Nat.reduceEqDiff, reduceIte, implies_true, forall_const, Nat.reduceMul, Nat.reduceSub, Nat.reduceAdd, Nat.reduceLeDiff, g1, s0, s1, hne, *]) | (simp only [zgoO, zgoG, zO_nil, zthen_normal, zgoC]) | (with_reducible apply And.intro) | (with_reducible intro _))
        · have hne : binV .neq (.int .u64 x) (.int .u64 w) = some (.bool true) := by rw [neqU, decide_eq_false hx]; rfl
          clear hx
          repeat' (first | (simp only [zmPack, zxPack, ne_eq, zfree, owners, Nat.reduceLT, List.contains_cons, List.contains_nil, Nat.reduceBEq, BEq.rfl, chunk, setAt, List.lookup_cons, List.lookup_nil, reduceCtorEq, Nat.reduceEqDiff, reduceIte, implies_true, forall_const, Nat.reduceMul, Nat.reduceSub, Nat.reduceAdd, Nat.reduceLeDiff, g1, s0, s1, hne, *]) | (simp only [zgoO, zgoG, zO_nil, zthen_normal, zgoC]) | (with_reducible apply And.intro) | (with_reducible intro _))
      · repeat' (first | (simp only [zmPack, zxPack, ne_eq, zfree, owners, Nat.reduceLT, List.contains_cons, List.contains_nil, Nat.reduceBEq, BEq.rfl, chunk, setAt, List.lookup_cons, List.lookup_nil, reduceCtorEq, Nat.reduceEqDiff, reduceIte, implies_true, forall_const, Nat.reduceMul, Nat.reduceSub, Nat.reduceAdd, Nat.reduceLeDiff, g1, s0, s1, he, *]) | (simp only [zgoO, zgoG, zO_nil, zthen_normal, zgoC]) | (with_reducible apply And.intro) | (with_reducible intro _))
end
end Go.Proofs.Ytijcjkgammldlaa

namespace Go.Proofs.Ytijcjkgammldlaa
open Go Go.RowKit
set_option linter.unusedVariables false
set_option linter.unusedSimpArgs false
section
variable {tb : List (FuncId × Bool)} {L : Nat → Bool} {H : ZH} {K : ZV → ZH → Prop}
theorem find_first {T : List (Int × Int)} {n : Int} {j : Nat} (hj : j < T.length) (hno : ∀ i (hi : i < T.length), i < j → T[i].2 ≠ n) (h : n = T[j].2) : T.find? (fun x => decide (n = x.2)) = some T[j] := by
  rw [List.find?_eq_some_iff_append]
  refine ⟨decide_eq_true h, T.take j, T.drop (j + 1), ?_, fun a ha => ?_⟩
  · conv => lhs; rw [← List.take_append_drop j T, List.drop_eq_getElem_cons hj]
  · obtain ⟨i, hi, e⟩ := List.getElem_of_mem ha
    rw [List.length_take] at hi
    rw [List.getElem_take] at e
    have := hno i (by omega) (by omega)
    rw [e] at this
    simpa using Ne.symm this
set_option maxHeartbeats 8000000 in
theorem alike_z {a : Int} {ex : Bool} {T : List (Int × Int)} (hL : ∀ k, L (H.length + k) = true) (ha : 0 ≤ a ∧ a < 18446744073709551616) (hT : T.length ≤ 2000) (hb : ∀ x ∈ T, 0 ≤ x.1 ∧ x.1 ≤ 2000) (hin : placeB a = true → ∃ y ∈ T, y.2 = unNum a) (hK : K (ZBo true) H) :
    ZC (boxX tb) (cFunc Try.prog) 10 [.val (.int .u64 a), .val (.int .u64 (mapW T a)), .fz 2 ex (T.map eP)] L H K := by
  refine ZC.enter Gh.no (boxX_none (by decide)) f_hl_alk (by simp) ?_
  simp only [c_hl_alk]
  have hL0 : L H.length = true := hL 0
  have hL1 : L (H.length + 1) = true := hL 1
  have g0 : ∀ A Y, (H ++ (A :: Y))[H.length]? = some A := fun A Y => hl_at0 A Y
  have g1 : ∀ A B Y, (H ++ (A :: B :: Y))[H.length + 1]? = some B := fun A B Y => hl_at1 A B Y
  have s0 : ∀ A C Y, (H ++ (A :: Y)).set H.length C = H ++ (C :: Y) := fun A C Y => hl_st0 A C Y
  have s1 : ∀ A B C Y, (H ++ (A :: B :: Y)).set (H.length + 1) C = H ++ (A :: C :: Y) := fun A B C Y => hl_st1 A B C Y
  have fin : ∀ X, Fin H (ZBo true) (H ++ X) K := fun X => Fin.trunc (Mods.ext H X) rfl (by rw [List.take_left]; exact hK)
  have fin0 : Fin H (ZBo true) H K := Fin.keep hK
  have HA := Lib.hid ha
  have HB := Lib.hid hb
  have HIN := Lib.hid hin
  clear hK ha hb hin
  repeat' (first | (simp only [zmPack, zxPack, ne_eq, zfree, owners, Nat.reduceLT, List.contains_cons, List.contains_nil, Nat.reduceBEq, BEq.rfl, chunk, setAt, List.lookup_cons, List.lookup_nil, reduceCtorEq, Nat.reduceEqDiff, reduceIte, implies_true, forall_const, Nat.reduceMul, Nat.reduceSub, Nat.reduceAdd, Nat.reduceLeDiff, *]) | (simp only [zgoO, zgoG, zO_nil, zthen_normal, zgoC]) | (with_reducible apply And.intro) | (with_reducible intro _))
  refine runbox_z hL HA.out fun k n b hp hn => ?_
  cases hpl : placeB a with
  | false =>
    have hm : mapW T a = a := by unfold mapW; rw [if_pos hpl]
    have hq := eqlU a a
    rw [decide_eq_true rfl] at hq
    have hn := hn hpl
    rw [hm]
    clear hp hpl hm
    cases b with
    | false => repeat' (first | (simp only [zmPack, zxPack, ne_eq, zfree, owners, Nat.reduceLT, List.contains_cons, List.contains_nil, Nat.reduceBEq, BEq.rfl, chunk, setAt, List.lookup_cons, List.lookup_nil, reduceCtorEq, Nat.reduceEqDiff, reduceIte, implies_true, forall_const, Nat.reduceMul, Nat.reduceSub, Nat.reduceAdd, Nat.reduceLeDiff, g0, g1, s0, s1, hq, *]) | (simp only [zgoO, zgoG, zO_nil, zthen_normal, zgoC]) | (with_reducible apply And.intro) | (with_reducible intro _))
    | true =>
      have hk : ¬ (k = 5) := by rcases hn with hn | hn; cases hn; exact hn
      clear hn
      repeat' (first | (simp only [zmPack, zxPack, ne_eq, zfree, owners, Nat.reduceLT, List.contains_cons, List.contains_nil, Nat.reduceBEq, BEq.rfl, chunk, setAt, List.lookup_cons, List.lookup_nil, reduceCtorEq, Nat.reduceEqDiff, reduceIte, implies_true, forall_const, Nat.reduceMul, Nat.reduceSub, Nat.reduceAdd, Nat.reduceLeDiff, g0, g1, s0, s1, hq, hk, *]) | (simp only [zgoO, zgoG, zO_nil, zthen_normal, zgoC]) | (with_reducible apply And.intro) | (with_reducible intro _))
  | true =>
    obtain ⟨rfl, rfl, rfl⟩ := hp hpl
    obtain ⟨x, hx, hxe, hf⟩ := find_ex (HIN.out hpl)
    have hm : mapW T a = boxW 5 x.1 := by unfold mapW; rw [if_neg (by rw [hpl]; decide), hf]
    obtain ⟨hx0, hx1⟩ := HB.out x hx
    obtain ⟨_, _, b3, b4, _, _⟩ := box5 (n := x.1) (by omega) (by omega)
    rw [hm]
    have q5 : (5 : Int) = 5 := rfl
    obtain ⟨N, hN⟩ : ∃ N, N = unNum a := ⟨_, rfl⟩
    rw [← hN] at hf ⊢
    have HF := Lib.hid hf
    have HX := Lib.hid (⟨x, hx, hxe.trans hN.symm⟩ : ∃ x ∈ T, x.2 = N)
    have B4 := Lib.hid b4
    have B3 := Lib.hid b3
    clear hn hp hpl hm hf hx hxe hN b3 b4 hx0 hx1
    repeat' (first | (simp only [zmPack, zxPack, ne_eq, zfree, owners, Nat.reduceLT, List.contains_cons, List.contains_nil, Nat.reduceBEq, BEq.rfl, chunk, setAt, List.lookup_cons, List.lookup_nil, reduceCtorEq, Nat.reduceEqDiff, reduceIte, implies_true, forall_const, Nat.reduceMul, Nat.reduceSub, Nat.reduceAdd, Nat.reduceLeDiff, g0, g1, s0, s1, q5, *]) | (simp only [zgoO, zgoG, zO_nil, zthen_normal, zgoC]) | (with_reducible apply And.intro) | (with_reducible intro _))
    refine runbox_z (fun k => by have := hL (1 + k); simpa [Nat.add_assoc, Nat.add_comm, Nat.add_left_comm] using this) boxW_range fun k n b hp hn => ?_
    obtain ⟨rfl, rfl, rfl⟩ := hp B4.out
    rw [B3.out]
    clear hp hn
    repeat' (first | (simp only [zmPack, zxPack, ne_eq, zfree, owners, Nat.reduceLT, List.contains_cons, List.contains_nil, Nat.reduceBEq, BEq.rfl, chunk, setAt, List.lookup_cons, List.lookup_nil, reduceCtorEq, Nat.reduceEqDiff, reduceIte, implies_true, forall_const, Nat.reduceMul, Nat.reduceSub, Nat.reduceAdd, Nat.reduceLeDiff, g0, g1, s0, s1, *]) | (simp only [zgoO, zgoG, zO_nil, zthen_normal, zgoC]) | (with_reducible apply And.intro) | (with_reducible intro _))
    refine zW_forK [(7, .ptr H.length 0), (9, .ptr (H.length + 1) 0), (10, ZBo true), (33, .fz 2 ex (T.map eP))] T.length (fun j s' h' => (∃ X, h' = H ++ (.box [Z64 5, Z64 N] :: .box [Z64 5, Z64 x.1] :: X)) ∧ ∀ i (hi : i < T.length), i < j → T[i].2 ≠ N) (by omega) ⟨rfl, rfl, rfl, rfl, rfl, rfl⟩ rfl rfl (by repeat' (first | exact trivial | (refine ⟨rfl, ?_⟩) | (refine ⟨by simp only [zupd_at, Nat.reduceEqDiff, reduceIte]; assumption, ?_⟩))) rfl rfl (by decide) ⟨⟨[], rfl⟩, fun i hi h => absurd h (by omega)⟩ ?_ ?_
    · rintro j s' h' hj ⟨⟨X, rfl⟩, hno⟩ hi hl ⟨f7, f9, f10, f33, -⟩
      obtain ⟨q, hq, hld⟩ := rows_at (H := H ++ (.box [Z64 5, Z64 N] :: .box [Z64 5, Z64 x.1] :: X)) (k := 2) (z := .fz 2 ex (T.map eP)) (f := eP) (l := T) rows_eP hj
      have aX : ∀ A B C, (H ++ (A :: B :: (X ++ [C])))[H.length + (X.length + 1 + 1)]? = some C := fun A B C => hl_atX A B C
      have sX : ∀ A B C D, (H ++ (A :: B :: (X ++ [C]))).set (H.length + (X.length + 1 + 1)) D = H ++ (A :: B :: (X ++ [D])) := fun A B C D => hl_stX A B C D
      have lX : L (H.length + (X.length + 1 + 1)) = true := hL _
      by_cases he : T[j].2 = N
      · have hfx : T[j] = x := by
          have h1 := find_first hj hno he.symm
          rw [HF.out] at h1
          injection h1 with h1
          exact h1.symm
        have hxn : x.2 = N := by rw [← hfx]; exact he
        rw [hfx] at hld
        clear he hno hfx
        repeat' (first | (simp only [zmPack, zxPack, ne_eq, zfree, owners, Nat.reduceLT, List.contains_cons, List.contains_nil, Nat.reduceBEq, BEq.rfl, chunk, setAt, List.lookup_cons, List.lookup_nil, reduceCtorEq, Nat.reduceEqDiff, reduceIte, implies_true, forall_const, Nat.reduceMul, Nat.reduceSub, Nat.reduceAdd, Nat.reduceLeDiff, hq, hld, g0, g1, aX, sX, lX, hxn, q5, *]) | (simp only [zgoO, zgoG, zO_nil, zthen_normal, zgoC]) | (with_reducible apply And.intro) | (with_reducible intro _))
      · have hgo : ∀ i (hi : i < T.length), i < j + 1 → T[i].2 ≠ N := fun i hi hij => by
          by_cases e : i = j
          · subst e; exact he
          · exact hno i hi (by omega)
        obtain ⟨y, hy⟩ : ∃ y, y = T[j] := ⟨_, rfl⟩
        rw [← hy] at hld he
        have HG := Lib.hid hgo
        clear hgo hno hy
        repeat' (first | (simp only [zmPack, zxPack, ne_eq, zfree, owners, Nat.reduceLT, List.contains_cons, List.contains_nil, Nat.reduceBEq, BEq.rfl, chunk, setAt, List.lookup_cons, List.lookup_nil, reduceCtorEq, Nat.reduceEqDiff, reduceIte, implies_true, forall_const, Nat.reduceMul, Nat.reduceSub, Nat.reduceAdd, Nat.reduceLeDiff, hq, hld, g0, g1, aX, sX, lX, he, *]) | (simp only [zgoO, zgoG, zO_nil, zthen_normal, zgoC]) | (with_reducible apply And.intro) | (with_reducible intro _))
        all_goals first | exact ⟨_, rfl⟩ | exact HG.out _ _ (by assumption) | exact HG.out
    · rintro s' h' ⟨⟨X, rfl⟩, hno⟩ ⟨f7, f9, f10, f33, -⟩
      obtain ⟨y, hy, e⟩ := HX.out
      obtain ⟨i, hi, e2⟩ := List.getElem_of_mem hy
      exact absurd (by rw [e2]; exact e) (hno i hi hi)
end
end Go.Proofs.Ytijcjkgammldlaa

namespace Go.Proofs.Ytijcjkgammldlaa
open Go Go.RowKit
set_option linter.unusedVariables false
set_option linter.unusedSimpArgs false
theorem fz_at {α : Type} {f : α → List ZV} {k : Nat} {ex : Bool} {l : List α} {j : Nat} {x : α} (hj : l[j]? = some x) : ∃ q, (∀ Z, elemZ Z k j (.fz k ex (l.map f)) = some q) ∧ ∀ Z n, ldZ Z n q = partZ (f x) 0 n := by
  obtain ⟨hl, e⟩ := List.getElem?_eq_some_iff.1 hj
  exact ⟨.fptr k (l.map f) j 0, fun Z => by simp [elemZ, hl], fun Z n => by simp [ldZ, hl, e]⟩
set_option maxHeartbeats 16000000 in
theorem haulalike_z {exw exr : Bool} {F R : List Int} (huw : U64 F) (hur : U64 R) (hbW : F.length ≤ 100000000000000) (hbR : R.length ≤ 100000000000000) :
    ZC (boxX tbH) (cFunc Try.prog) 3 [.agg [.fz 1 exw (F.map eU), .fz 1 exr (R.map eU)]] (fun _ => true) [] fun z _ => z = ZBo true := by
  refine ZC.enter Gh.no (boxX_none (by decide)) f_hl_alike (by simp) ?_
  simp only [c_hl_alike]
  have HU := Lib.hid huw
  have HV := Lib.hid hur
  have fin := finTrue
  clear huw hur
  repeat' (first | (simp only [zmPack, zxPack, ne_eq, zfree, owners, Nat.reduceLT, List.contains_cons, List.contains_nil, Nat.reduceBEq, BEq.rfl, chunk, setAt, List.lookup_cons, List.lookup_nil, reduceCtorEq, Nat.reduceEqDiff, reduceIte, implies_true, forall_const, Nat.reduceMul, Nat.reduceSub, Nat.reduceAdd, Nat.reduceLeDiff, *]) | (simp only [zgoO, zgoG, zO_nil, zthen_normal, zgoC]) | (with_reducible apply And.intro) | (with_reducible intro _))
  refine hauled_z ?_
  repeat' (first | (simp only [zmPack, zxPack, ne_eq, zfree, owners, Nat.reduceLT, List.contains_cons, List.contains_nil, Nat.reduceBEq, BEq.rfl, chunk, setAt, List.lookup_cons, List.lookup_nil, reduceCtorEq, Nat.reduceEqDiff, reduceIte, implies_true, forall_const, Nat.reduceMul, Nat.reduceSub, Nat.reduceAdd, Nat.reduceLeDiff, *]) | (simp only [zgoO, zgoG, zO_nil, zthen_normal, zgoC]) | (with_reducible apply And.intro) | (with_reducible intro _))
  refine coll_z (F := F) (R := R) rfl (fun X => rows_eU) HU.out HV.out hbW hbR (fun hc => ?_) (fun st hc hr hi => ?_)
  · have w0 : IntKind.i64.wrap (((0 : Nat) : Int) + ((0 : Nat) : Int)) = 0 := rfl
    have w1 : IntKind.i64.wrap (0 + ((0 : Nat) : Int)) = 0 := rfl
    repeat' (first | (simp only [zmPack, zxPack, ne_eq, zfree, owners, Nat.reduceLT, List.contains_cons, List.contains_nil, Nat.reduceBEq, BEq.rfl, chunk, setAt, List.lookup_cons, List.lookup_nil, reduceCtorEq, Nat.reduceEqDiff, reduceIte, implies_true, forall_const, Nat.reduceMul, Nat.reduceSub, Nat.reduceAdd, Nat.reduceLeDiff, hc, *]) | (simp only [zgoO, zgoG, zO_nil, zthen_normal, zgoC]) | (with_reducible apply And.intro) | (with_reducible intro _))
    refine hauled_z ?_
    repeat' (first | (simp only [zmPack, zxPack, ne_eq, zfree, owners, Nat.reduceLT, List.contains_cons, List.contains_nil, Nat.reduceBEq, BEq.rfl, chunk, setAt, List.lookup_cons, List.lookup_nil, reduceCtorEq, Nat.reduceEqDiff, reduceIte, implies_true, forall_const, Nat.reduceMul, Nat.reduceSub, Nat.reduceAdd, Nat.reduceLeDiff, w0, w1, *]) | (simp only [zgoO, zgoG, zO_nil, zthen_normal, zgoC]) | (with_reducible apply And.intro) | (with_reducible intro _))
  · obtain ⟨c1, c2, c3, c4, c5⟩ := chk0 hc
    have D := done_of hc hr hi
    have hsm := D.inv.small c3
    have hck := Lib.hid (D.check hc)
    have u1 := Lib.hid (D.u64 c3 HU.out)
    have u2 := Lib.hid (D.ru64 HV.out)
    obtain ⟨r1, r2⟩ := D.roots
    obtain ⟨RR, hRR⟩ : ∃ RR, RR = (rootsF F R).1 := ⟨_, rfl⟩
    have hRl : RR.length = R.length := by rw [hRR, rootsF_len]
    have hRg : ∀ (i : Nat) w, R[i]? = some w → RR[i]? = some (mapW st.T w) := fun i w h => by rw [hRR, r1, List.getElem?_map, h]; rfl
    rw [← hRR] at hck u2 ⊢
    have hTl : st.T.length ≤ 2000 := by omega
    have hto : st.to.length ≤ 2000 := by omega
    have hT1 : ∀ x ∈ st.T, 0 ≤ x.1 ∧ x.1 ≤ 2000 := fun x hx => by
      obtain ⟨k, _, e, h⟩ := D.to_lt c3 hx
      omega
    have HD := Lib.hid D
    have HE := Lib.hid c3
    have HT1 := Lib.hid hT1
    have HRL := Lib.hid hRl
    have HRG := Lib.hid hRg
    have HR2 := Lib.hid r2
    have hend := Lib.hid (show ol F st.T st.T.length = st.to.length by rw [ol_full (Nat.le_refl _), D.inv.len])
    clear hr hi hc c3 c4 c5 D hsm r1 r2 hRR hRl hRg hT1
    repeat' (first | (simp only [zmPack, zxPack, ne_eq, zfree, owners, Nat.reduceLT, List.contains_cons, List.contains_nil, Nat.reduceBEq, BEq.rfl, chunk, setAt, List.lookup_cons, List.lookup_nil, reduceCtorEq, Nat.reduceEqDiff, reduceIte, implies_true, forall_const, Nat.reduceMul, Nat.reduceSub, Nat.reduceAdd, Nat.reduceLeDiff, *]) | (simp only [zgoO, zgoG, zO_nil, zthen_normal, zgoC]) | (with_reducible apply And.intro) | (with_reducible intro _))
    refine zW_forK [(1, .ptr 0 0), (3, .ptr 1 0), (4, .fz 2 false (st.T.map eP)), (36, .fz 2 false (st.T.map eP))] st.T.length (fun k s' h' => s' 6 = Z64 (ol F st.T k : Int) ∧ ∃ X, h' = .box [.fz 1 exw (F.map eU), .fz 1 exr (R.map eU)] :: .box [.fz 1 false (st.to.map eU), .fz 1 false (RR.map eU)] :: X) (by omega) ⟨rfl, rfl, rfl, rfl, rfl, rfl⟩ rfl rfl (by repeat' (first | exact trivial | (refine ⟨rfl, ?_⟩) | (refine ⟨by simp only [zupd_at, Nat.reduceEqDiff, reduceIte]; assumption, ?_⟩))) rfl rfl (by decide) ⟨rfl, [], rfl⟩ ?_ ?_
    · rintro k s' h' hk ⟨f6, X, rfl⟩ hi hl ⟨f1, f3, f4, f36, -⟩
      have hx := List.getElem?_eq_getElem hk
      obtain ⟨o1, o2, o3, o4⟩ := HD.out.osz HE.out hx
      have ho := HS.obj HE.out HD.out.inv hx
      have hfr := (HD.out.inv.frm _ (List.getElem_mem hk)).1
      have hto' : st.T[k].1 = (ol F st.T k : Int) := HD.out.inv.tos k _ hx
      have hwd := fun d h1 h2 => HD.out.words HE.out hx (d := d) h1 h2
      have hle4 : ol F st.T (k + 1) ≤ st.to.length := by rw [HD.out.inv.len]; exact ol_all
      obtain ⟨q, hq, hld⟩ := fz_at (f := eP) (k := 2) (ex := false) hx
      have hxe : eP st.T[k] = [Z64 (ol F st.T k : Int), Z64 (st.T[k].2.toNat : Int)] := by
        unfold eP; rw [hto', show ((st.T[k].2.toNat : Nat) : Int) = st.T[k].2 by omega]
      rw [hxe] at hld
      obtain ⟨fr, hfr'⟩ : ∃ fr, fr = st.T[k].2.toNat := ⟨_, rfl⟩
      rw [← hfr'] at hld o1 o3 o4 ho hwd
      obtain ⟨a, haa⟩ : ∃ a, a = ol F st.T k := ⟨_, rfl⟩
      rw [← haa] at hld f6 o1 o2 o3 o4 hwd
      rw [o4] at hle4 ⊢
      obtain ⟨v, hv⟩ : ∃ v, F[fr]? = some v := ⟨_, List.getElem?_eq_getElem ho.2.1⟩
      rw [hv] at o1
      have hvu := HU.out v (List.mem_of_getElem? hv)
      have hsz : osz F fr = 1 + lng v := by unfold osz; rw [hv]; rfl
      rw [hsz] at o3 o4 ho hwd hle4 ⊢
      have hlg : (lng v : Int) = v % 4294967296 := by unfold lng; omega
      obtain ⟨q1, hq1, hl1⟩ := fz_at (f := eU) (k := 1) (ex := exw) hv
      obtain ⟨q2, hq2, hl2⟩ := fz_at (f := eU) (k := 1) (ex := false) o1
      have e1 : binV .rem (.int .u64 v) (.int .u64 4294967296) = some (.int .u64 (lng v : Int)) := by
        rw [remU _ _ (by decide), Int.tmod_eq_emod_of_nonneg (by omega), hlg]
      have e2 : IntKind.i64.wrap (lng v : Int) = (lng v : Int) := IntWalk.i64_in _ (by omega)
      have e3 : IntKind.i64.wrap ((lng v : Int) + 1) = ((1 + lng v : Nat) : Int) := by rw [IntWalk.i64_in _ (by omega)]; omega
      have e4 : IntKind.i64.wrap ((a : Int) + ((1 + lng v : Nat) : Int)) = ((a + (1 + lng v) : Nat) : Int) := by rw [IntWalk.i64_in _ (by omega)]; omega
      have k1 : ¬ (((a + (1 + lng v) : Nat) : Int) > (st.to.length : Int)) := by omega
      have e5 : binV .neq (.int .u64 v) (.int .u64 v) = some (.bool false) := by rw [neqU, decide_eq_true rfl]; rfl
      have b1 : fr + (1 + lng v) ≤ 2000 := by omega
      have b2 : a + (1 + lng v) ≤ 2000 := by omega
      have k2 : (a : Int) < (st.to.length : Int) := by omega
      have k3 : (fr : Int) < (F.length : Int) := by omega
      have HWD := Lib.hid hwd
      have HO4 := Lib.hid o4
      have B1 := Lib.hid b1
      have B2 := Lib.hid b2
      have HHO := Lib.hid ho
      have O2 := Lib.hid o2
      clear hx o1 o2 o3 o4 ho hfr hto' hwd hle4 hxe hfr' haa hv hvu hsz hlg b1 b2
      have aX : ∀ (A B E : ZB), (A :: B :: (X ++ [E]))[X.length + 1 + 1]? = some E := fun A B E => by simp
      have sX : ∀ (A B E G : ZB), (A :: B :: (X ++ [E])).set (X.length + 1 + 1) G = A :: B :: (X ++ [G]) := fun A B E G => by simp
      repeat' (first | (simp only [zmPack, zxPack, ne_eq, zfree, owners, Nat.reduceLT, List.contains_cons, List.contains_nil, Nat.reduceBEq, BEq.rfl, chunk, setAt, List.lookup_cons, List.lookup_nil, reduceCtorEq, Nat.reduceEqDiff, reduceIte, implies_true, forall_const, Nat.reduceMul, Nat.reduceSub, Nat.reduceAdd, Nat.reduceLeDiff, hq, hld, aX, sX, hq1, hl1, hq2, hl2, e1, e2, e3, e4, k1, e5, *]) | (simp only [zgoO, zgoG, zO_nil, zthen_normal, zgoC]) | (with_reducible apply And.intro) | (with_reducible intro _))
      refine zW_whileK [(1, .ptr 0 0), (3, .ptr 1 0), (4, .fz 2 false (st.T.map eP)), (6, Z64 (a : Int)), (8, .ptr (X.length + 1 + 1) 0), (9, Z64 ((1 + lng v : Nat) : Int))] (lng v) (fun m s' h' => ∃ i, m = 1 + lng v - i ∧ 1 ≤ i ∧ i ≤ 1 + lng v ∧ s' 10 = Z64 (i : Int) ∧ h' = .box [.fz 1 exw (F.map eU), .fz 1 exr (R.map eU)] :: .box [.fz 1 false (st.to.map eU), .fz 1 false (RR.map eU)] :: (X ++ [.box [Z64 (a : Int), Z64 (fr : Int)]])) (by repeat' (first | exact trivial | (refine ⟨rfl, ?_⟩) | (refine ⟨by simp only [zupd_at, Nat.reduceEqDiff, reduceIte]; assumption, ?_⟩))) rfl ⟨1, by omega, Nat.le_refl _, by omega, rfl, rfl⟩ ?_
      rintro m s' h' ⟨i, rfl, hi1, hi2, f10, rfl⟩ ⟨f1, f3, f4, f6, f8, f9, -⟩
      have HI1 := Lib.hid hi1
      have HI2 := Lib.hid hi2
      by_cases hlt : i < 1 + lng v
      · obtain ⟨o, w1, w2, w3, w4⟩ := HWD.out i hi1 hlt
        have hou := HU.out o (List.mem_of_getElem? w1)
        obtain ⟨q3, hq3, hl3⟩ := fz_at (f := eU) (k := 1) (ex := exw) w1
        obtain ⟨q4, hq4, hl4⟩ := fz_at (f := eU) (k := 1) (ex := false) w2
        have g1 : (i : Int) < ((1 + lng v : Nat) : Int) := by omega
        have g2 : IntKind.i64.wrap ((fr : Int) + (i : Int)) = ((fr + i : Nat) : Int) := by rw [IntWalk.i64_in _ (by have := B1.out; omega)]; omega
        have g3 : IntKind.i64.wrap ((a : Int) + (i : Int)) = ((a + i : Nat) : Int) := by rw [IntWalk.i64_in _ (by have := B2.out; omega)]; omega
        have g4 : IntKind.i64.wrap ((i : Int) + 1) = ((i + 1 : Nat) : Int) := by rw [IntWalk.i64_in _ (by have := B2.out; omega)]; omega
        have W3 := Lib.hid w3
        have HOU := Lib.hid hou
        have HFIN := Lib.hid (show 1 + lng v - (i + 1) < 1 + lng v - i ∧ 1 ≤ i + 1 ∧ i + 1 ≤ 1 + lng v by omega)
        clear w1 w2 w3 w4 hou hlt hi1 hi2 hl1 hl2 hq1 hq2 hq hld e1 e2 e3 e4
        repeat' (first | (simp only [zmPack, zxPack, ne_eq, zfree, owners, Nat.reduceLT, List.contains_cons, List.contains_nil, Nat.reduceBEq, BEq.rfl, chunk, setAt, List.lookup_cons, List.lookup_nil, reduceCtorEq, Nat.reduceEqDiff, reduceIte, implies_true, forall_const, Nat.reduceMul, Nat.reduceSub, Nat.reduceAdd, Nat.reduceLeDiff, aX, sX, hq3, hl3, hq4, hl4, g1, g2, g3, *]) | (simp only [zgoO, zgoG, zO_nil, zthen_normal, zgoC]) | (with_reducible apply And.intro) | (with_reducible intro _))
        refine alike_z (T := st.T) (fun _ => rfl) HOU.out hTl HT1.out W3.out ?_
        repeat' (first | (simp only [zmPack, zxPack, ne_eq, zfree, owners, Nat.reduceLT, List.contains_cons, List.contains_nil, Nat.reduceBEq, BEq.rfl, chunk, setAt, List.lookup_cons, List.lookup_nil, reduceCtorEq, Nat.reduceEqDiff, reduceIte, implies_true, forall_const, Nat.reduceMul, Nat.reduceSub, Nat.reduceAdd, Nat.reduceLeDiff, g4, *]) | (simp only [zgoO, zgoG, zO_nil, zthen_normal, zgoC]) | (with_reducible apply And.intro) | (with_reducible intro _))
        all_goals exact ⟨_, HFIN.out.1, i + 1, rfl, HFIN.out.2.1, HFIN.out.2.2, rfl⟩
      · have g1 : ¬ ((i : Int) < ((1 + lng v : Nat) : Int)) := by omega
        clear hlt hi1 hi2 hl1 hl2 hq1 hq2 hq hld e1 e2 e3
        repeat' (first | (simp only [zmPack, zxPack, ne_eq, zfree, owners, Nat.reduceLT, List.contains_cons, List.contains_nil, Nat.reduceBEq, BEq.rfl, chunk, setAt, List.lookup_cons, List.lookup_nil, reduceCtorEq, Nat.reduceEqDiff, reduceIte, implies_true, forall_const, Nat.reduceMul, Nat.reduceSub, Nat.reduceAdd, Nat.reduceLeDiff, g1, e4, *]) | (simp only [zgoO, zgoG, zO_nil, zthen_normal, zgoC]) | (with_reducible apply And.intro) | (with_reducible intro _))
        all_goals first | exact ⟨_, rfl⟩ | rfl
    · rintro s' h' ⟨f6, X, rfl⟩ ⟨f1, f3, f4, f36, -⟩
      rw [hend.out] at f6
      have hrl : (RR.length : Int) = (R.length : Int) := by rw [HRL.out]
      repeat' (first | (simp only [zmPack, zxPack, ne_eq, zfree, owners, Nat.reduceLT, List.contains_cons, List.contains_nil, Nat.reduceBEq, BEq.rfl, chunk, setAt, List.lookup_cons, List.lookup_nil, reduceCtorEq, Nat.reduceEqDiff, reduceIte, implies_true, forall_const, Nat.reduceMul, Nat.reduceSub, Nat.reduceAdd, Nat.reduceLeDiff, hrl, *]) | (simp only [zgoO, zgoG, zO_nil, zthen_normal, zgoC]) | (with_reducible apply And.intro) | (with_reducible intro _))
      refine zW_forK [(1, .ptr 0 0), (3, .ptr 1 0), (4, .fz 2 false (st.T.map eP)), (6, Z64 (st.to.length : Int))] R.length (fun k s' h' => ∃ X, h' = .box [.fz 1 exw (F.map eU), .fz 1 exr (R.map eU)] :: .box [.fz 1 false (st.to.map eU), .fz 1 false (RR.map eU)] :: X) (by omega) ⟨rfl, rfl, rfl, rfl, rfl, rfl⟩ rfl rfl (by repeat' (first | exact trivial | (refine ⟨rfl, ?_⟩) | (refine ⟨by simp only [zupd_at, Nat.reduceEqDiff, reduceIte]; assumption, ?_⟩))) rfl rfl (by decide) ⟨X, rfl⟩ ?_ ?_
      · rintro k s' h' hk ⟨X, rfl⟩ hi hl ⟨f1, f3, f4, f6, -⟩
        have hx := List.getElem?_eq_getElem hk
        obtain ⟨w, hw⟩ : ∃ w, w = R[k] := ⟨_, rfl⟩
        rw [← hw] at hx
        obtain ⟨q3, hq3, hl3⟩ := fz_at (f := eU) (k := 1) (ex := exr) hx
        obtain ⟨q4, hq4, hl4⟩ := fz_at (f := eU) (k := 1) (ex := false) (HRG.out k w hx)
        have HOU := Lib.hid (HV.out w (List.mem_of_getElem? hx))
        have W3 := Lib.hid (HR2.out w (List.mem_of_getElem? hx))
        clear hx hw
        repeat' (first | (simp only [zmPack, zxPack, ne_eq, zfree, owners, Nat.reduceLT, List.contains_cons, List.contains_nil, Nat.reduceBEq, BEq.rfl, chunk, setAt, List.lookup_cons, List.lookup_nil, reduceCtorEq, Nat.reduceEqDiff, reduceIte, implies_true, forall_const, Nat.reduceMul, Nat.reduceSub, Nat.reduceAdd, Nat.reduceLeDiff, hq3, hl3, hq4, hl4, *]) | (simp only [zgoO, zgoG, zO_nil, zthen_normal, zgoC]) | (with_reducible apply And.intro) | (with_reducible intro _))
        refine alike_z (T := st.T) (fun _ => rfl) HOU.out hTl HT1.out W3.out ?_
        repeat' (first | (simp only [zmPack, zxPack, ne_eq, zfree, owners, Nat.reduceLT, List.contains_cons, List.contains_nil, Nat.reduceBEq, BEq.rfl, chunk, setAt, List.lookup_cons, List.lookup_nil, reduceCtorEq, Nat.reduceEqDiff, reduceIte, implies_true, forall_const, Nat.reduceMul, Nat.reduceSub, Nat.reduceAdd, Nat.reduceLeDiff, *]) | (simp only [zgoO, zgoG, zO_nil, zthen_normal, zgoC]) | (with_reducible apply And.intro) | (with_reducible intro _))
        all_goals exact ⟨_, rfl⟩
      · rintro s' h' ⟨X, rfl⟩ ⟨f1, f3, f4, f6, -⟩
        repeat' (first | (simp only [zmPack, zxPack, ne_eq, zfree, owners, Nat.reduceLT, List.contains_cons, List.contains_nil, Nat.reduceBEq, BEq.rfl, chunk, setAt, List.lookup_cons, List.lookup_nil, reduceCtorEq, Nat.reduceEqDiff, reduceIte, implies_true, forall_const, Nat.reduceMul, Nat.reduceSub, Nat.reduceAdd, Nat.reduceLeDiff, *]) | (simp only [zgoO, zgoG, zO_nil, zthen_normal, zgoC]) | (with_reducible apply And.intro) | (with_reducible intro _))
        refine hauled_z ?_
        repeat' (first | (simp only [zmPack, zxPack, ne_eq, zfree, owners, Nat.reduceLT, List.contains_cons, List.contains_nil, Nat.reduceBEq, BEq.rfl, chunk, setAt, List.lookup_cons, List.lookup_nil, reduceCtorEq, Nat.reduceEqDiff, reduceIte, implies_true, forall_const, Nat.reduceMul, Nat.reduceSub, Nat.reduceAdd, Nat.reduceLeDiff, *]) | (simp only [zgoO, zgoG, zO_nil, zthen_normal, zgoC]) | (with_reducible apply And.intro) | (with_reducible intro _))
        refine check_z (W := st.to) (R := RR) rfl rfl (fun X => rows_eU) (fun X => rows_eU) u1.out u2.out ?_ (by omega) (by have := HRL.out; omega)
        rw [hck.out]
        repeat' (first | (simp only [zmPack, zxPack, ne_eq, zfree, owners, Nat.reduceLT, List.contains_cons, List.contains_nil, Nat.reduceBEq, BEq.rfl, chunk, setAt, List.lookup_cons, List.lookup_nil, reduceCtorEq, Nat.reduceEqDiff, reduceIte, implies_true, forall_const, Nat.reduceMul, Nat.reduceSub, Nat.reduceAdd, Nat.reduceLeDiff, *]) | (simp only [zgoO, zgoG, zO_nil, zthen_normal, zgoC]) | (with_reducible apply And.intro) | (with_reducible intro _))
end Go.Proofs.Ytijcjkgammldlaa

namespace Go.Proofs.Ytijcjkgammldlaa
open Go Go.RowKit Go.ChangeShapes Go.WideShapes Go.ChangeAt
set_option linter.unusedVariables false
set_option linter.unusedSimpArgs false
theorem u64_of {l : List Int} {by_ : Nat} (h : TOk (.slice by_ (.int .u64)) l) : U64 l := fun x hx => u64_bounds (h.2 x hx)
set_option maxRecDepth 100000 in
theorem haulalike_lifted (os : Os) (started : os.Started) (H : Type) (enc : TypeId × Value → H) :
    ReturnsInHanded {} Try.checked os 3 .any (Rows.haulAlikeSpec.pre6 enc Try.prog Try.f3 Rows.haulAlikeRow.domain false) (Rows.haulAlikeSpec.post enc Try.prog Try.f3 false true false false) := by
  refine law_lifted (C := Try.checked) 12 [(true, .prod (.slice 8 (.int .u64)) (.slice 8 (.int .u64)))] 4 Try.own Try.laidOut started (by kernel_rfl) Try.func3
    (ChangeSpec.witness6 (enc := enc) (C := Try.checked) false ⟨#[], #[.agg #[.slice none 0 0, .slice none 0 0]], []⟩ 8 (by kernel_rfl) (by kernel_rfl) (by kernel_rfl) (by kernel_rfl))
    rfl (by kernel_rfl) Try.underlying4 (fun ds h => ?_) (by kernel_rfl) (by kernel_rfl) (fun W args h => ?_)
  · match ds, h with
    | [d0], _ => rfl
  · refine zm_walk (by kernel_rfl) (boxX_ok (constX_ok (n := 100) (F := cFunc Try.prog) (by kernel_rfl) (fun f af h => h) tbH (by intro p hp; rw [List.mem_singleton.1 hp]; kernel_rfl))) (fun f af h => h) rfl (fun zl hz => ?_) W args h
    obtain ⟨l, _, rfl, hl, sl, rfl⟩ := hz
    have h1 := sl.1.1
    have h2 := sl.2.1
    exact haulalike_z (F := l.1) (R := l.2) (u64_of hl.1) (u64_of hl.2) (by omega) (by omega)
theorem haulalike_holds : Rows.HaulAlikeSaid :=
  OpenClaim.holds_of_wide 3 Try.f3 rfl rfl rfl rfl rfl rfl rfl ⟨rfl, rfl, rfl, rfl, rfl⟩ rfl rfl rfl rfl rfl (by kernel_rfl) Try.func3 (by kernel_rfl) (of_decide_eq_true (by kernel_rfl)) (by unfold Func.isWrapper; first | (rw [if_pos (by decide +kernel)]; kernel_rfl) | (rw [if_neg (by decide +kernel)]; exact ⟨rfl, rfl⟩))
    (fun os started H enc _ => haulalike_lifted os started H enc)
end Go.Proofs.Ytijcjkgammldlaa
