/-
  The marker in ZM: hold; set; make; New.
-/
import Derived.Test.YtpeagenjmmkohaaMrA10
namespace Go.Proofs.Ytpeagenjmmkohaa
open Go Go.RowKit
set_option linter.unusedVariables false
set_option linter.unusedSimpArgs false
variable {tb : List (FuncId × Bool)} {L : Nat → Bool} {H : ZH} {K : ZV → ZH → Prop} {p t g : Nat} {kd : Int} {mk : Bool} {T : List TB}
/-- What hold does: its error, the state. -/
noncomputable def holdT (kd : Int) (mk : Bool) (T : List TB) (n : Int) (b : Bool) : Int × List TB :=
  if namedE T [n] ≠ 0 then (namedE T [n], T) else
  if b = false ∧ ((T[n.toNat]?).map (·.2.2.2)).getD false = false then (8, T) else
  (0, let T1 := if b = decide (kd = 1) then shadeT mk T n else T
    match T1[n.toNat]? with
    | some x => T1.set n.toNat (x.1, x.2.1, x.2.2.1, b)
    | none => T1)
theorem namedE_zero {l : List Int} (h : namedE T l = 0) : (∀ n ∈ l, 0 ≤ n ∧ n < (T.length : Int)) ∧ ∀ n ∈ l, Sn (needT T) n.toNat := by
  unfold namedE at h
  split at h
  · rename_i h1
    split at h
    · rename_i h2; exact ⟨h1, h2⟩
    · cases h
  · cases h
theorem getB {n : Nat} {x : TB} (hx : T[n]? = some x) : ((T[n]?).map (·.2.2.2)).getD false = x.2.2.2 := by rw [hx]; rfl
set_option maxHeartbeats 2000000 in
theorem hold_z {n : Int} {b : Bool} (h : MkAt H p t g kd mk T) (hr : Rng T) (hL : L t = true) (hK : K (Z64 (holdT kd mk T n b).1) (thH H t g (holdT kd mk T n b).2)) :
    ZC (constX tb) (cFunc Try.prog) 41 [.ptr p 0, Z64 n, ZBo b] L H K := by
  refine ZC.enter Gh.no constX_none f_mk_hold (by simp) ?_
  simp only [c_mk_hold]
  have hb := h.box
  have HM := Lib.hid h
  have HR := Lib.hid hr
  have HL := Lib.hid hL
  have HK := Lib.hid hK
  clear hK hr h hL
  repeat' (first | (simp only [zmPack, zxPack, ne_eq, zfree, owners, Nat.reduceLT, List.contains_cons, List.contains_nil, Nat.reduceBEq, BEq.rfl, chunk, setAt, List.lookup_cons, List.lookup_nil, reduceCtorEq, Nat.reduceEqDiff, reduceIte, implies_true, forall_const, Nat.reduceMul, Nat.reduceSub, Nat.reduceAdd, Nat.reduceLeDiff, *]) | (simp only [zgoO, zgoG, zO_nil, zthen_normal, zgoC]) | (with_reducible apply And.intro) | (with_reducible intro _))
  refine named_z (l := [n]) HM.out HR.out (fun _ => by simp [rowsZ]) (by simp) ?_
  by_cases he : namedE T [n] = 0
  · obtain ⟨h1, h2⟩ := namedE_zero he
    obtain ⟨m, rfl⟩ := Int.eq_ofNat_of_zero_le (h1 n (by simp)).1
    have hm : m < T.length := by have := (h1 (m : Int) (by simp)).2; omega
    have hx : T[m]? = some T[m] := List.getElem?_eq_getElem hm
    have hel := t_el HM.out hm
    obtain ⟨x, hxe⟩ : ∃ x, x = T[m] := ⟨_, rfl⟩
    rw [← hxe] at hx
    have hld : ldZ H none (.eptr t g m 2) = some (ZBo x.2.2.2) := (t_ld HM.out (o := 2) hx).trans rfl
    have hg := getB hx
    have hfin : ∀ T1 : List TB, T1 = (if b = decide (kd = 1) then shadeT mk T (m : Int) else T) → ¬ (b = false ∧ x.2.2.2 = false) → ∃ y, T1[m]? = some y ∧ Fin H (Z64 0) (thH H t g (T1.set m (y.1, y.2.1, y.2.2.1, b))) K := fun T1 hT1 hc => by
      have hl : T1.length = T.length := by rw [hT1]; split; exact shade_len; rfl
      have hy : T1[m]? = some (T1[m]'(by omega)) := List.getElem?_eq_getElem _
      have := HK.out
      unfold holdT at this
      rw [if_neg (by simp [he]), Int.toNat_natCast, hg, if_neg hc, ← hT1] at this
      simp only [hy] at this
      exact ⟨_, hy, Fin.keep this⟩
    have h8 : b = false → x.2.2.2 = false → Fin H (Z64 8) H K := fun e1 e2 => by
      have := HK.out
      unfold holdT at this
      rw [if_neg (by simp [he]), Int.toNat_natCast, hg, if_pos ⟨e1, e2⟩] at this
      simp only [HM.out.same] at this
      exact Fin.keep this
    have hke : ∀ T1 : List TB, T1 = (if b = decide (kd = 1) then shadeT mk T (m : Int) else T) → T1.map keyT = T.map keyT := fun T1 hT1 => by rw [hT1]; split; exact shade_key; rfl
    obtain ⟨c, hc⟩ : ∃ c, c = x.2.2.2 := ⟨_, rfl⟩
    rw [← hc] at hld hfin h8
    have HF := Lib.hid hfin
    have H8 := Lib.hid h8
    have HKE := Lib.hid hke
    have hm0 : (0 : Int) ≤ (m : Int) := by omega
    rw [he]
    have HX := Lib.hid hm
    clear hfin h8 hke h1 h2 hx hg hxe hc he
    -- behind the test
    have go : ∀ (b0 : Bool), b0 = b → ¬ (b0 = false ∧ c = false) → True := fun _ _ _ => trivial
    clear go
    cases b with
    | false =>
      cases c with
      | false =>
        have fin := H8.out rfl rfl
        repeat' (first | (simp only [zmPack, zxPack, ne_eq, zfree, owners, Nat.reduceLT, List.contains_cons, List.contains_nil, Nat.reduceBEq, BEq.rfl, chunk, setAt, List.lookup_cons, List.lookup_nil, reduceCtorEq, Nat.reduceEqDiff, reduceIte, implies_true, forall_const, Nat.reduceMul, Nat.reduceSub, Nat.reduceAdd, Nat.reduceLeDiff, hb, hel, hld, *]) | (simp only [zgoO, zgoG, zO_nil, zthen_normal, zgoC]) | (with_reducible apply And.intro) | (with_reducible intro _))
      | true =>
        by_cases hk1 : kd = 1
        · have e0 : ¬ (false = decide (kd = 1)) := by simp [hk1]
          obtain ⟨y, hy, fin⟩ := HF.out T (by rw [if_neg e0]) (by simp)
          have hst := t_sth HM.out HL.out hy false
          subst hk1
          clear hy e0 hm
          repeat' (first | (simp only [zmPack, zxPack, ne_eq, zfree, owners, Nat.reduceLT, List.contains_cons, List.contains_nil, Nat.reduceBEq, BEq.rfl, chunk, setAt, List.lookup_cons, List.lookup_nil, reduceCtorEq, Nat.reduceEqDiff, reduceIte, implies_true, forall_const, Nat.reduceMul, Nat.reduceSub, Nat.reduceAdd, Nat.reduceLeDiff, hb, hel, hld, hst, *]) | (simp only [zgoO, zgoG, zO_nil, zthen_normal, zgoC]) | (with_reducible apply And.intro) | (with_reducible intro _))
        · have e0 : false = decide (kd = 1) := by simp [hk1]
          obtain ⟨y, hy, fin⟩ := HF.out _ (by rw [if_pos e0]) (by simp)
          have hke := HKE.out _ (by rw [if_pos e0])
          have hM2 := HM.out.upd hke
          have hb2 := hM2.box
          have hel2 := t_el hM2 (n := m) (by rw [shade_len]; exact HX.out)
          rw [shade_len] at hb2 hel2
          have hst2 := t_sth hM2 HL.out hy false
          rw [thH_thH] at hst2
          have HM2 := Lib.hid hM2
          clear hke hM2 hy e0
          repeat' (first | (simp only [zmPack, zxPack, ne_eq, zfree, owners, Nat.reduceLT, List.contains_cons, List.contains_nil, Nat.reduceBEq, BEq.rfl, chunk, setAt, List.lookup_cons, List.lookup_nil, reduceCtorEq, Nat.reduceEqDiff, reduceIte, implies_true, forall_const, Nat.reduceMul, Nat.reduceSub, Nat.reduceAdd, Nat.reduceLeDiff, hb, hel, hld, *]) | (simp only [zgoO, zgoG, zO_nil, zthen_normal, zgoC]) | (with_reducible apply And.intro) | (with_reducible intro _))
          refine shade_z HM.out HL.out (fun _ _ => by have := HX.out; omega) ?_
          repeat' (first | (simp only [zmPack, zxPack, ne_eq, zfree, owners, Nat.reduceLT, List.contains_cons, List.contains_nil, Nat.reduceBEq, BEq.rfl, chunk, setAt, List.lookup_cons, List.lookup_nil, reduceCtorEq, Nat.reduceEqDiff, reduceIte, implies_true, forall_const, Nat.reduceMul, Nat.reduceSub, Nat.reduceAdd, Nat.reduceLeDiff, hb2, hel2, hst2, *]) | (simp only [zgoO, zgoG, zO_nil, zthen_normal, zgoC]) | (with_reducible apply And.intro) | (with_reducible intro _))
    | true =>
      by_cases hk1 : kd = 1
      · have e0 : true = decide (kd = 1) := by simp [hk1]
        obtain ⟨y, hy, fin⟩ := HF.out _ (by rw [if_pos e0]) (by simp)
        have hke := HKE.out _ (by rw [if_pos e0])
        have hM2 := HM.out.upd hke
        have hb2 := hM2.box
        have hel2 := t_el hM2 (n := m) (by rw [shade_len]; exact HX.out)
        rw [shade_len] at hb2 hel2
        have hst2 := t_sth hM2 HL.out hy true
        rw [thH_thH] at hst2
        subst hk1
        clear hke hM2 hy e0
        repeat' (first | (simp only [zmPack, zxPack, ne_eq, zfree, owners, Nat.reduceLT, List.contains_cons, List.contains_nil, Nat.reduceBEq, BEq.rfl, chunk, setAt, List.lookup_cons, List.lookup_nil, reduceCtorEq, Nat.reduceEqDiff, reduceIte, implies_true, forall_const, Nat.reduceMul, Nat.reduceSub, Nat.reduceAdd, Nat.reduceLeDiff, hb, hel, hld, *]) | (simp only [zgoO, zgoG, zO_nil, zthen_normal, zgoC]) | (with_reducible apply And.intro) | (with_reducible intro _))
        refine shade_z HM.out HL.out (fun _ _ => by have := HX.out; omega) ?_
        repeat' (first | (simp only [zmPack, zxPack, ne_eq, zfree, owners, Nat.reduceLT, List.contains_cons, List.contains_nil, Nat.reduceBEq, BEq.rfl, chunk, setAt, List.lookup_cons, List.lookup_nil, reduceCtorEq, Nat.reduceEqDiff, reduceIte, implies_true, forall_const, Nat.reduceMul, Nat.reduceSub, Nat.reduceAdd, Nat.reduceLeDiff, hb2, hel2, hst2, *]) | (simp only [zgoO, zgoG, zO_nil, zthen_normal, zgoC]) | (with_reducible apply And.intro) | (with_reducible intro _))
      · have e0 : ¬ (true = decide (kd = 1)) := by simp [hk1]
        obtain ⟨y, hy, fin⟩ := HF.out T (by rw [if_neg e0]) (by simp)
        have hst := t_sth HM.out HL.out hy true
        clear hy e0
        repeat' (first | (simp only [zmPack, zxPack, ne_eq, zfree, owners, Nat.reduceLT, List.contains_cons, List.contains_nil, Nat.reduceBEq, BEq.rfl, chunk, setAt, List.lookup_cons, List.lookup_nil, reduceCtorEq, Nat.reduceEqDiff, reduceIte, implies_true, forall_const, Nat.reduceMul, Nat.reduceSub, Nat.reduceAdd, Nat.reduceLeDiff, hb, hel, hld, hst, *]) | (simp only [zgoO, zgoG, zO_nil, zthen_normal, zgoC]) | (with_reducible apply And.intro) | (with_reducible intro _))
  · have fin : Fin H (Z64 (namedE T [n])) H K := by
      have := HK.out
      unfold holdT at this
      rw [if_pos he] at this
      simp only [HM.out.same] at this
      exact Fin.keep this
    obtain ⟨e, hee⟩ : ∃ e, e = namedE T [n] := ⟨_, rfl⟩
    rw [← hee] at he fin ⊢
    clear hee
    repeat' (first | (simp only [zmPack, zxPack, ne_eq, zfree, owners, Nat.reduceLT, List.contains_cons, List.contains_nil, Nat.reduceBEq, BEq.rfl, chunk, setAt, List.lookup_cons, List.lookup_nil, reduceCtorEq, Nat.reduceEqDiff, reduceIte, implies_true, forall_const, Nat.reduceMul, Nat.reduceSub, Nat.reduceAdd, Nat.reduceLeDiff, *]) | (simp only [zgoO, zgoG, zO_nil, zthen_normal, zgoC]) | (with_reducible apply And.intro) | (with_reducible intro _))
end Go.Proofs.Ytpeagenjmmkohaa

namespace Go.Proofs.Ytpeagenjmmkohaa
open Go Go.RowKit
set_option linter.unusedVariables false
set_option linter.unusedSimpArgs false
variable {tb : List (FuncId × Bool)} {L : Nat → Bool} {H : ZH} {K : ZV → ZH → Prop} {p t g : Nat} {kd : Int} {mk : Bool} {T : List TB}
/-- Boxes but the marker's own stay. -/
def FrB (p : Nat) (H H' : ZH) : Prop := ∀ (i : Nat) cs, i ≠ p → H[i]? = some (.box cs) → H'[i]? = some (.box cs)
theorem FrB.refl : FrB p H H := fun _ _ _ h => h
theorem FrB.trans {A B C : ZH} (h1 : FrB p A B) (h2 : FrB p B C) : FrB p A C := fun i cs hi h => h2 i cs hi (h1 i cs hi h)
theorem FrB.ext {A X : ZH} : FrB p A (A ++ X) := fun i cs _ h => by rw [List.getElem?_append_left (lt_of_get h)]; exact h
theorem FrB.grow {A : ZH} {i g k : Nat} {rows rows' : List (List ZV)} {g' k' : Nat} (h : A[i]? = some (.grow g k rows)) : FrB p A (A.set i (.grow g' k' rows')) := fun j cs _ hj => by
  rw [List.getElem?_set_ne (fun e => by subst e; rw [h] at hj; cases hj)]; exact hj
theorem FrB.own {A : ZH} {B : ZB} : FrB p A (A.set p B) := fun j cs hj h => by rw [List.getElem?_set_ne (Ne.symm hj)]; exact h
theorem MkAt.frT (h : MkAt H p t g kd mk T) {T' : List TB} {g' : Nat} : FrB p H (thH H t g' T') := FrB.grow h.arr
theorem nod_inj : ∀ {l : List TB} {i a j : Nat} {x y : TB}, (l.filterMap Prod.fst).Nodup → l[i]? = some x → l[a]? = some y → x.1 = some j → y.1 = some j → i = a
  | [], i, a, j, x, y, _, h, _, _, _ => by simp at h
  | z :: l, 0, 0, j, x, y, _, _, _, _, _ => rfl
  | z :: l, 0, a + 1, j, x, y, hn, hx, hy, e1, e2 => by
    have hx : z = x := by simpa using hx
    subst hx
    rw [show (z :: l).filterMap Prod.fst = j :: l.filterMap Prod.fst by simp [List.filterMap_cons, e1]] at hn
    exact absurd (List.mem_filterMap.2 ⟨y, List.mem_of_getElem? (by simpa using hy), e2⟩) (List.nodup_cons.1 hn).1
  | z :: l, i + 1, 0, j, x, y, hn, hx, hy, e1, e2 => by
    have hy : z = y := by simpa using hy
    subst hy
    rw [show (z :: l).filterMap Prod.fst = j :: l.filterMap Prod.fst by simp [List.filterMap_cons, e2]] at hn
    exact absurd (List.mem_filterMap.2 ⟨x, List.mem_of_getElem? (by simpa using hx), e1⟩) (List.nodup_cons.1 hn).1
  | z :: l, i + 1, a + 1, j, x, y, hn, hx, hy, e1, e2 => by
    have hn2 : (l.filterMap Prod.fst).Nodup := by
      cases hz : z.1 with
      | none => rw [show (z :: l).filterMap Prod.fst = l.filterMap Prod.fst by simp [List.filterMap_cons, hz]] at hn; exact hn
      | some b => rw [show (z :: l).filterMap Prod.fst = b :: l.filterMap Prod.fst by simp [List.filterMap_cons, hz]] at hn; exact (List.nodup_cons.1 hn).2
    have := nod_inj (i := i) (a := a) (x := x) (y := y) hn2 (by simpa using hx) (by simpa using hy) e1 e2
    omega
/-- Other places in a thing. -/
theorem MkAt.place (h : MkAt H p t g kd mk T) {a j : Nat} {x : TB} (hx : T[a]? = some x) (hj : x.1 = some j) {pl' : List Int} (hl : pl'.length = x.2.1.length) : MkAt (H.set j (.grow 0 1 (pl'.map eI))) p t g kd mk (T.set a (x.1, pl', x.2.2)) := by
  have hm := List.mem_of_getElem? hx
  obtain ⟨ht, hp⟩ := h.jt hm hj
  have hjx := h.pl x hm
  rw [hj] at hjx
  have he : (T.set a (x.1, pl', x.2.2)).map eT = T.map eT := by
    have e : eT (x.1, pl', x.2.2) = eT x := by
      obtain ⟨o, pl, y⟩ := x
      simp only at hj hl ⊢; subst hj
      simp only [eT, plZ, hl]
    rw [List.map_set, e]
    apply List.ext_getElem?
    intro i
    rw [List.getElem?_set]
    split
    · rename_i e; subst e; rw [if_pos (by simpa using (List.getElem?_eq_some_iff.1 hx).1), List.getElem?_map, hx]; rfl
    · rfl
  refine ⟨by rw [List.getElem?_set_ne hp, List.length_set]; exact h.box, by rw [List.getElem?_set_ne ht, he]; exact h.arr, fun y hy => ?_, ?_, by rw [List.length_set]; exact h.len, fun y hy => ?_⟩
  · obtain ⟨i, hi, rfl⟩ := List.getElem_of_mem hy
    rw [List.length_set] at hi
    by_cases e : a = i
    · subst e
      rw [List.getElem_set_self]
      simp only [hj]
      refine ⟨fun e => ?_, by rw [List.getElem?_set_self (lt_of_get hjx.2)]⟩
      rw [e] at hl
      exact hjx.1 (List.eq_nil_of_length_eq_zero hl.symm)
    · rw [List.getElem_set_ne e]
      have h1 := h.pl T[i] (List.getElem_mem hi)
      have h2 : ∀ j', T[i].1 = some j' → j' ≠ j := fun j' hj' e2 => by
        subst e2
        exact e (nod_inj h.nod (List.getElem?_eq_getElem hi) hx hj' hj).symm
      revert h1 h2
      cases T[i].1 with
      | none => exact fun h1 _ => h1
      | some j' => exact fun h1 h2 => ⟨h1.1, by rw [List.getElem?_set_ne (Ne.symm (h2 j' rfl))]; exact h1.2⟩
  · have e : (T.set a (x.1, pl', x.2.2)).filterMap Prod.fst = T.filterMap Prod.fst := by
      have h1 : ∀ l : List TB, l.filterMap Prod.fst = (l.map Prod.fst).filterMap id := fun l => by rw [List.filterMap_map]; rfl
      rw [h1, h1 T, List.map_set]
      congr 1
      apply List.ext_getElem?
      intro i
      rw [List.getElem?_set]
      split
      · rename_i e; subst e; rw [if_pos (by simpa using (List.getElem?_eq_some_iff.1 hx).1), List.getElem?_map, hx]; rfl
      · rfl
    rw [e]; exact h.nod
  · rcases List.mem_or_eq_of_mem_set hy with hy | rfl
    · exact h.sm y hy
    · simp only; rw [hl]; exact h.sm x hm
def setL (a b : Int) : List Int := if b = -1 then [a] else [a, b]
/-- What set does: its error, the state. -/
noncomputable def setT (kd : Int) (mk : Bool) (T : List TB) (a b n : Int) : Int × List TB :=
  if namedE T (setL a b) ≠ 0 then (namedE T (setL a b), T) else
  match T[a.toNat]? with
  | none => (0, T)
  | some x => if n < 0 ∨ (x.2.1.length : Int) ≤ n then (1, T) else
    (0, let T1 := shadeT mk T (if kd = 1 then b else x.2.1.getD n.toNat 0)
      match T1[a.toNat]? with
      | some y => T1.set a.toNat (y.1, x.2.1.set n.toNat b, y.2.2)
      | none => T1)
noncomputable def setX (kd : Int) (mk : Bool) (T : List TB) (m : Nat) (x : TB) (b n : Int) : Int × List TB :=
  if n < 0 ∨ (x.2.1.length : Int) ≤ n then (1, T) else
    (0, match (shadeT mk T (if kd = 1 then b else x.2.1.getD n.toNat 0))[m]? with
      | some y => (shadeT mk T (if kd = 1 then b else x.2.1.getD n.toNat 0)).set m (y.1, x.2.1.set n.toNat b, y.2.2)
      | none => (shadeT mk T (if kd = 1 then b else x.2.1.getD n.toNat 0)))
theorem setT_X {m : Nat} {x : TB} {b n : Int} (he : namedE T (setL (m : Int) b) = 0) (hx : T[m]? = some x) : setT kd mk T (m : Int) b n = setX kd mk T m x b n := by
  unfold setT setX
  rw [if_neg (by simp [he]), Int.toNat_natCast, hx]
theorem p_el {j m : Nat} {pl : List Int} (hj : H[j]? = some (.grow 0 1 (pl.map eI))) (hm : m < pl.length) : elemZ H 1 m (.own j 0 0 pl.length false) = some (.eptr j 0 m 0) := by
  rw [elem_own]; exact ⟨_, hj, by simp, hm, by simp⟩
theorem p_ld {j m : Nat} {pl : List Int} {y : Int} (hj : H[j]? = some (.grow 0 1 (pl.map eI))) (hm : pl[m]? = some y) : ldZ H none (.eptr j 0 m 0) = some (Z64 y) := by
  rw [ld_eptr]; exact ⟨_, _, eI y, hj, by rw [List.getElem?_map, hm]; rfl, rfl⟩
theorem p_st {j m : Nat} {pl : List Int} {b : Int} (hj : H[j]? = some (.grow 0 1 (pl.map eI))) (hm : m < pl.length) (hL : L j = true) : stZ L H [Z64 b] (.eptr j 0 m 0) = some (H.set j (.grow 0 1 ((pl.set m b).map eI))) := by
  rw [st_eptr]
  refine ⟨1, _, eI pl[m], hj, by rw [List.getElem?_map, List.getElem?_eq_getElem hm]; rfl, hL, by simp, ?_⟩
  rw [List.map_set]; rfl
theorem sameKey {i : Nat} {x y : TB} {T1 : List TB} (hk : T1.map keyT = T.map keyT) (hx : T[i]? = some x) (hy : T1[i]? = some y) : y.1 = x.1 ∧ y.2.1 = x.2.1 := by
  have : (T1.map keyT)[i]? = (T.map keyT)[i]? := by rw [hk]
  rw [List.getElem?_map, List.getElem?_map, hx, hy] at this
  injection this with this
  injection this with e1 e2
  exact ⟨e1, e2⟩
set_option maxHeartbeats 4000000 in
theorem set_z {dd a b n : Int} (h : MkAt H p t g kd mk T) (hr : Rng T) (hL : ∀ i, L i = true) (hK : ∀ H', MkAt H' p t g kd mk (setT kd mk T a b n).2 → FrB p H H' → K (Z64 (setT kd mk T a b n).1) H') :
    ZC (constX tb) (cFunc Try.prog) 40 [.ptr p 0, .agg [Z64 dd, Z64 a, Z64 b, Z64 n]] L H K := by
  refine ZC.enter Gh.no constX_none f_mk_set (by simp) ?_
  simp only [c_mk_set]
  have hb : ∀ X, (H ++ X)[p]? = some (.box [Z64 kd, ZBo mk, .own t g 0 T.length false]) := fun X => (h.ext X).box
  have HM := Lib.hid h
  have HR := Lib.hid hr
  have HL := Lib.hid hL
  have HK := Lib.hid hK
  clear hK hr h hL
  have hcut : ∀ H, cutZ H 1 0 1 2 false (.fz 1 true [[Z64 a], [Z64 (-1)]]) = some (.fz 1 false [[Z64 a]]) := fun H => by simp [cutZ]
  have hn1 : natZ (Z64 1) = some 1 := rfl
  by_cases hb1 : b = -1
  · subst hb1
    repeat' (first | (simp only [zmPack, zxPack, ne_eq, zfree, owners, Nat.reduceLT, List.contains_cons, List.contains_nil, Nat.reduceBEq, BEq.rfl, chunk, setAt, List.lookup_cons, List.lookup_nil, reduceCtorEq, Nat.reduceEqDiff, reduceIte, implies_true, forall_const, Nat.reduceMul, Nat.reduceSub, Nat.reduceAdd, Nat.reduceLeDiff, mv_num0, mv_num1, hcut, hn1, Option.bind_some, Option.isSome_none, *]) | (simp only [zgoO, zgoG, zO_nil, zthen_normal, zgoC]) | (with_reducible apply And.intro) | (with_reducible intro _))
    refine named_z (l := [a]) (HM.out.ext _) HR.out (fun _ => rows_fz) (by simp) ?_
    clear hcut hn1
    by_cases he : namedE T [a] = 0
    · obtain ⟨h1, -⟩ := namedE_zero he
      obtain ⟨m, hma⟩ := Int.eq_ofNat_of_zero_le (h1 a (by simp)).1
      subst hma
      have hm : m < T.length := by have := (h1 (m : Int) (by simp)).2; omega
      have hx : T[m]? = some T[m] := List.getElem?_eq_getElem hm
      have hmem : T[m] ∈ T := List.getElem_mem hm
      obtain ⟨x, hxe⟩ : ∃ x, x = T[m] := ⟨_, rfl⟩
      rw [← hxe] at hx hmem
      have hel := fun Y => t_el (HM.out.ext Y) hm
      have hld : ∀ Y, ldZ (H ++ Y) (some 3) (.eptr t g m 0) = some (.agg [plZ x, Z64 x.2.2.1, ZBo x.2.2.2]) := fun Y => by
        rw [ld_eptr]; exact ⟨_, _, eT x, (HM.out.ext Y).arr, by rw [List.getElem?_map, hx]; rfl, rfl⟩
      have hcl : (plZ x).isCell = true := by obtain ⟨o, y⟩ := x; cases o <;> rfl
      have hlen : ∀ Y, lenZ (H ++ Y) (plZ x) = some x.2.1.length := fun Y => by have := rows_len ((HM.out.ext Y).rows hmem); rwa [List.length_map] at this
      have hST : setT kd mk T (m : Int) (-1) n = setX kd mk T m x (-1) n := by
        have e : setL (m : Int) (-1) = [(m : Int)] := by unfold setL; rw [if_pos rfl]
        exact setT_X (by rw [e]; exact he) hx
      unfold setX at hST
      have l0 := HL.out H.length
      have l1 := HL.out (H.length + 1)
      obtain ⟨pz, hpz⟩ : ∃ pz, pz = plZ x := ⟨_, rfl⟩
      obtain ⟨c, hc⟩ : ∃ c, c = x.2.2.1 := ⟨_, rfl⟩
      obtain ⟨hbo, hbo2⟩ : ∃ hbo, hbo = x.2.2.2 := ⟨_, rfl⟩
      rw [← hpz, ← hc, ← hbo2] at hld
      rw [← hpz] at hcl hlen
      rw [he]
      have HS := Lib.hid hST
      have HX := Lib.hid hx
      have HMM := Lib.hid hmem
      have HPZ := Lib.hid hpz
      have HM0 := Lib.hid hm
      have H1 := Lib.hid h1
      have hm0 : (0 : Int) ≤ (m : Int) := by omega
      clear hST hx hmem hxe hpz hc hbo2 h1 he
      by_cases hno : n < 0 ∨ (x.2.1.length : Int) ≤ n
      · have fin : ∀ X, Fin H (Z64 1) (H ++ X) K := fun X => by
          have hk := HK.out (H ++ X) (by rw [HS.out, if_pos hno]; exact HM.out.ext X) FrB.ext
          rw [HS.out, if_pos hno] at hk
          exact Fin.keep hk
        by_cases hn0 : n < 0
        · clear hno
          repeat' (first | (simp only [zmPack, zxPack, ne_eq, zfree, owners, Nat.reduceLT, List.contains_cons, List.contains_nil, Nat.reduceBEq, BEq.rfl, chunk, setAt, List.lookup_cons, List.lookup_nil, reduceCtorEq, Nat.reduceEqDiff, reduceIte, implies_true, forall_const, Nat.reduceMul, Nat.reduceSub, Nat.reduceAdd, Nat.reduceLeDiff, hb, hel, hld, hcl, hlen, l0, l1, *]) | (simp only [zgoO, zgoG, zO_nil, zthen_normal, zgoC]) | (with_reducible apply And.intro) | (with_reducible intro _))
        · have hn1 : (x.2.1.length : Int) ≤ n := by omega
          clear hno
          repeat' (first | (simp only [zmPack, zxPack, ne_eq, zfree, owners, Nat.reduceLT, List.contains_cons, List.contains_nil, Nat.reduceBEq, BEq.rfl, chunk, setAt, List.lookup_cons, List.lookup_nil, reduceCtorEq, Nat.reduceEqDiff, reduceIte, implies_true, forall_const, Nat.reduceMul, Nat.reduceSub, Nat.reduceAdd, Nat.reduceLeDiff, hb, hel, hld, hcl, hlen, l0, l1, *]) | (simp only [zgoO, zgoG, zO_nil, zthen_normal, zgoC]) | (with_reducible apply And.intro) | (with_reducible intro _))
      · obtain ⟨q, rfl⟩ := Int.eq_ofNat_of_zero_le (show 0 ≤ n by omega)
        have hq : q < x.2.1.length := by omega
        have hST := HS.out
        rw [if_neg hno, Int.toNat_natCast] at hST
        obtain ⟨j, hj⟩ : ∃ j, x.1 = some j := by
          have := HM.out.pl x HMM.out
          cases hj : x.1 with
          | none => rw [hj] at this; simp only at this; rw [this] at hq; simp at hq
          | some j => exact ⟨j, rfl⟩
        have hpl := HM.out.pl x HMM.out
        rw [hj] at hpl
        have hpz1 : pz = .own j 0 0 x.2.1.length false := by rw [HPZ.out]; obtain ⟨o, y⟩ := x; simp only at hj; subst hj; rfl
        obtain ⟨y0, hy0⟩ : ∃ y0, y0 = x.2.1[q] := ⟨_, rfl⟩
        have hgd : x.2.1.getD q 0 = y0 := by rw [hy0]; simp [List.getD, hq]
        have hyq : x.2.1[q]? = some y0 := by rw [hy0]; exact List.getElem?_eq_getElem hq
        rw [hgd] at hST
        have hyr := HR.out.rng x HMM.out y0 (by rw [hy0]; exact List.getElem_mem hq)
        obtain ⟨sb, hsb⟩ : ∃ sb, sb = (if kd = 1 then (-1) else y0) := ⟨_, rfl⟩
        rw [← hsb] at hST
        have hsr : 0 ≤ sb → sb < (T.length : Int) := fun h0 => by
          rw [hsb] at h0 ⊢
          split
          · rename_i hk; rw [if_pos hk] at h0; omega
          · exact hyr
        have hkey : (shadeT mk T sb).map keyT = T.map keyT := shade_key
        have hM1 := HM.out.upd hkey
        have hs1 : m < (shadeT mk T sb).length := by rw [key_len hkey]; exact HM0.out
        have hy1 : (shadeT mk T sb)[m]? = some ((shadeT mk T sb)[m]'hs1) := List.getElem?_eq_getElem hs1
        obtain ⟨y, hye⟩ : ∃ y, y = ((shadeT mk T sb)[m]'hs1) := ⟨_, rfl⟩
        rw [← hye] at hy1
        rw [hy1] at hST
        simp only at hST
        obtain ⟨k1, k2⟩ := sameKey hkey HX.out hy1
        have hjW : (thH H t g (shadeT mk T sb))[j]? = some (.grow 0 1 (x.2.1.map eI)) := by
          have h3 := hM1.pl y (List.mem_of_getElem? hy1)
          rw [k1, hj, k2] at h3
          exact h3.2
        have hM2 := hM1.place hy1 (k1.trans hj) (pl' := x.2.1.set q (-1)) (by rw [k2]; simp)
        obtain ⟨W, hW⟩ : ∃ W, W = thH H t g (shadeT mk T sb) := ⟨_, rfl⟩
        rw [← hW] at hM1 hjW hM2
        have hWl : W.length = H.length := by rw [hW]; simp
        have fr : FrB p H W := by rw [hW]; exact HM.out.frT
        have fin : ∀ X, Fin H (Z64 0) (W.set j (.grow 0 1 ((x.2.1.set q (-1)).map eI)) ++ X) K := fun X => by
          have hk := HK.out (W.set j (.grow 0 1 ((x.2.1.set q (-1)).map eI)) ++ X) (by rw [hST]; exact hM2.ext X) (fr.trans ((FrB.grow hjW).trans FrB.ext))
          rw [hST] at hk
          exact Fin.keep hk
        have e : ∀ Y, thH (H ++ Y) t g (shadeT mk T sb) = W ++ Y := fun Y => by
          rw [hW]; unfold thH; rw [List.set_append_left _ _ (lt_of_get HM.out.arr)]
        have hjX : ∀ Y, (W ++ Y)[j]? = some (.grow 0 1 (x.2.1.map eI)) := fun Y => by rw [List.getElem?_append_left (lt_of_get hjW)]; exact hjW
        have hjH : ∀ Y, (H ++ Y)[j]? = some (.grow 0 1 (x.2.1.map eI)) := fun Y => by rw [List.getElem?_append_left (lt_of_get hpl.2)]; exact hpl.2
        have r0 : ∀ A B : ZB, (W ++ [A, B])[H.length]? = some A := fun A B => by rw [← hWl]; exact mv_at0 _ _
        have r1 : ∀ A B : ZB, (W ++ [A, B])[H.length + 1]? = some B := fun A B => by rw [← hWl]; exact mv_at1 _ _ _
        have pe : ∀ Y, elemZ (H ++ Y) 1 q pz = some (.eptr j 0 q 0) := fun Y => by rw [hpz1]; exact p_el (hjH Y) hq
        have pld : ∀ Y, ldZ (H ++ Y) none (.eptr j 0 q 0) = some (Z64 y0) := fun Y => p_ld (hjH Y) hyq
        have we : ∀ Y, elemZ (W ++ Y) 1 q pz = some (.eptr j 0 q 0) := fun Y => by rw [hpz1]; exact p_el (hjX Y) hq
        have wst : ∀ Y, stZ L (W ++ Y) [Z64 (-1)] (.eptr j 0 q 0) = some (W.set j (.grow 0 1 ((x.2.1.set q (-1)).map eI)) ++ Y) := fun Y => by
          rw [p_st (hjX Y) hq (HL.out j), List.set_append_left _ _ (lt_of_get hjW)]
        obtain ⟨W2, hW2⟩ : ∃ W2, W2 = W.set j (.grow 0 1 ((x.2.1.set q (-1)).map eI)) := ⟨_, rfl⟩
        rw [← hW2] at wst fin
        have HE := Lib.hid e
        have HSR := Lib.hid hsr
        have HSB := Lib.hid hsb
        have hq0 : ¬ ((q : Int) < 0) := by omega
        have hq1 : ¬ ((x.2.1.length : Int) ≤ (q : Int)) := by omega
        have hq2 : (0 : Int) ≤ (q : Int) := by omega
        clear hST hj hpl hpz1 hy0 hgd hyq hyr hsb hsr hkey hM1 hs1 hy1 hye k1 k2 hjW hM2 hW hWl fr e hjX hjH hW2 hno
        by_cases hk1 : kd = 1
        · have hs : sb = (-1) := by rw [HSB.out, if_pos hk1]
          subst hk1
          clear pe pld
          repeat' (first | (simp only [zmPack, zxPack, ne_eq, zfree, owners, Nat.reduceLT, List.contains_cons, List.contains_nil, Nat.reduceBEq, BEq.rfl, chunk, setAt, List.lookup_cons, List.lookup_nil, reduceCtorEq, Nat.reduceEqDiff, reduceIte, implies_true, forall_const, Nat.reduceMul, Nat.reduceSub, Nat.reduceAdd, Nat.reduceLeDiff, hb, hel, hld, hcl, hlen, l0, l1, *]) | (simp only [zgoO, zgoG, zO_nil, zthen_normal, zgoC]) | (with_reducible apply And.intro) | (with_reducible intro _))
          rw [← hs]
          rw [← hs] at wst
          refine shade_z (HM.out.ext _) (HL.out t) (fun _ h0 => HSR.out h0) ?_
          rw [HE.out]
          have hs2 := Lib.hid hs
          clear hs hel hld hlen hb
          repeat' (first | (simp only [zmPack, zxPack, ne_eq, zfree, owners, Nat.reduceLT, List.contains_cons, List.contains_nil, Nat.reduceBEq, BEq.rfl, chunk, setAt, List.lookup_cons, List.lookup_nil, reduceCtorEq, Nat.reduceEqDiff, reduceIte, implies_true, forall_const, Nat.reduceMul, Nat.reduceSub, Nat.reduceAdd, Nat.reduceLeDiff, r0, r1, we, wst, *]) | (simp only [zgoO, zgoG, zO_nil, zthen_normal, zgoC]) | (with_reducible apply And.intro) | (with_reducible intro _))
        · have hs : sb = y0 := by rw [HSB.out, if_neg hk1]
          repeat' (first | (simp only [zmPack, zxPack, ne_eq, zfree, owners, Nat.reduceLT, List.contains_cons, List.contains_nil, Nat.reduceBEq, BEq.rfl, chunk, setAt, List.lookup_cons, List.lookup_nil, reduceCtorEq, Nat.reduceEqDiff, reduceIte, implies_true, forall_const, Nat.reduceMul, Nat.reduceSub, Nat.reduceAdd, Nat.reduceLeDiff, hb, hel, hld, hcl, hlen, l0, l1, pe, pld, *]) | (simp only [zgoO, zgoG, zO_nil, zthen_normal, zgoC]) | (with_reducible apply And.intro) | (with_reducible intro _))
          rw [← hs]
          refine shade_z (HM.out.ext _) (HL.out t) (fun _ h0 => HSR.out h0) ?_
          rw [HE.out]
          clear hs hel hld hlen hb pe pld
          repeat' (first | (simp only [zmPack, zxPack, ne_eq, zfree, owners, Nat.reduceLT, List.contains_cons, List.contains_nil, Nat.reduceBEq, BEq.rfl, chunk, setAt, List.lookup_cons, List.lookup_nil, reduceCtorEq, Nat.reduceEqDiff, reduceIte, implies_true, forall_const, Nat.reduceMul, Nat.reduceSub, Nat.reduceAdd, Nat.reduceLeDiff, r0, r1, we, wst, *]) | (simp only [zgoO, zgoG, zO_nil, zthen_normal, zgoC]) | (with_reducible apply And.intro) | (with_reducible intro _))
    · have e : setL a (-1) = [a] := by unfold setL; rw [if_pos rfl]
      have fin : ∀ X, Fin H (Z64 (namedE T [a])) (H ++ X) K := fun X => by
        have hST : setT kd mk T a (-1) n = (namedE T [a], T) := by unfold setT; rw [e, if_pos he]
        have hk := HK.out (H ++ X) (by rw [hST]; exact HM.out.ext X) FrB.ext
        rw [hST] at hk
        exact Fin.keep hk
      obtain ⟨ee, hee⟩ : ∃ ee, ee = namedE T [a] := ⟨_, rfl⟩
      rw [← hee] at he fin ⊢
      clear hee e
      repeat' (first | (simp only [zmPack, zxPack, ne_eq, zfree, owners, Nat.reduceLT, List.contains_cons, List.contains_nil, Nat.reduceBEq, BEq.rfl, chunk, setAt, List.lookup_cons, List.lookup_nil, reduceCtorEq, Nat.reduceEqDiff, reduceIte, implies_true, forall_const, Nat.reduceMul, Nat.reduceSub, Nat.reduceAdd, Nat.reduceLeDiff, hb, *]) | (simp only [zgoO, zgoG, zO_nil, zthen_normal, zgoC]) | (with_reducible apply And.intro) | (with_reducible intro _))
  · have HB1 := Lib.hid hb1
    clear hcut hn1
    repeat' (first | (simp only [zmPack, zxPack, ne_eq, zfree, owners, Nat.reduceLT, List.contains_cons, List.contains_nil, Nat.reduceBEq, BEq.rfl, chunk, setAt, List.lookup_cons, List.lookup_nil, reduceCtorEq, Nat.reduceEqDiff, reduceIte, implies_true, forall_const, Nat.reduceMul, Nat.reduceSub, Nat.reduceAdd, Nat.reduceLeDiff, *]) | (simp only [zgoO, zgoG, zO_nil, zthen_normal, zgoC]) | (with_reducible apply And.intro) | (with_reducible intro _))
    refine named_z (l := [a, b]) (HM.out.ext _) HR.out (fun _ => rows_fz) (by simp) ?_
    clear hb1
    by_cases he : namedE T [a, b] = 0
    · obtain ⟨h1, -⟩ := namedE_zero he
      obtain ⟨m, hma⟩ := Int.eq_ofNat_of_zero_le (h1 a (by simp)).1
      subst hma
      have hm : m < T.length := by have := (h1 (m : Int) (by simp)).2; omega
      have hx : T[m]? = some T[m] := List.getElem?_eq_getElem hm
      have hmem : T[m] ∈ T := List.getElem_mem hm
      obtain ⟨x, hxe⟩ : ∃ x, x = T[m] := ⟨_, rfl⟩
      rw [← hxe] at hx hmem
      have hel := fun Y => t_el (HM.out.ext Y) hm
      have hld : ∀ Y, ldZ (H ++ Y) (some 3) (.eptr t g m 0) = some (.agg [plZ x, Z64 x.2.2.1, ZBo x.2.2.2]) := fun Y => by
        rw [ld_eptr]; exact ⟨_, _, eT x, (HM.out.ext Y).arr, by rw [List.getElem?_map, hx]; rfl, rfl⟩
      have hcl : (plZ x).isCell = true := by obtain ⟨o, y⟩ := x; cases o <;> rfl
      have hlen : ∀ Y, lenZ (H ++ Y) (plZ x) = some x.2.1.length := fun Y => by have := rows_len ((HM.out.ext Y).rows hmem); rwa [List.length_map] at this
      have hST : setT kd mk T (m : Int) (b) n = setX kd mk T m x (b) n := by
        have e : setL (m : Int) (b) = [(m : Int), b] := by unfold setL; rw [if_neg HB1.out]
        exact setT_X (by rw [e]; exact he) hx
      unfold setX at hST
      have l0 := HL.out H.length
      have l1 := HL.out (H.length + 1)
      obtain ⟨pz, hpz⟩ : ∃ pz, pz = plZ x := ⟨_, rfl⟩
      obtain ⟨c, hc⟩ : ∃ c, c = x.2.2.1 := ⟨_, rfl⟩
      obtain ⟨hbo, hbo2⟩ : ∃ hbo, hbo = x.2.2.2 := ⟨_, rfl⟩
      rw [← hpz, ← hc, ← hbo2] at hld
      rw [← hpz] at hcl hlen
      rw [he]
      have HS := Lib.hid hST
      have HX := Lib.hid hx
      have HMM := Lib.hid hmem
      have HPZ := Lib.hid hpz
      have HM0 := Lib.hid hm
      have H1 := Lib.hid h1
      have hm0 : (0 : Int) ≤ (m : Int) := by omega
      clear hST hx hmem hxe hpz hc hbo2 h1 he
      by_cases hno : n < 0 ∨ (x.2.1.length : Int) ≤ n
      · have fin : ∀ X, Fin H (Z64 1) (H ++ X) K := fun X => by
          have hk := HK.out (H ++ X) (by rw [HS.out, if_pos hno]; exact HM.out.ext X) FrB.ext
          rw [HS.out, if_pos hno] at hk
          exact Fin.keep hk
        by_cases hn0 : n < 0
        · clear hno
          repeat' (first | (simp only [zmPack, zxPack, ne_eq, zfree, owners, Nat.reduceLT, List.contains_cons, List.contains_nil, Nat.reduceBEq, BEq.rfl, chunk, setAt, List.lookup_cons, List.lookup_nil, reduceCtorEq, Nat.reduceEqDiff, reduceIte, implies_true, forall_const, Nat.reduceMul, Nat.reduceSub, Nat.reduceAdd, Nat.reduceLeDiff, hb, hel, hld, hcl, hlen, l0, l1, *]) | (simp only [zgoO, zgoG, zO_nil, zthen_normal, zgoC]) | (with_reducible apply And.intro) | (with_reducible intro _))
        · have hn1 : (x.2.1.length : Int) ≤ n := by omega
          clear hno
          repeat' (first | (simp only [zmPack, zxPack, ne_eq, zfree, owners, Nat.reduceLT, List.contains_cons, List.contains_nil, Nat.reduceBEq, BEq.rfl, chunk, setAt, List.lookup_cons, List.lookup_nil, reduceCtorEq, Nat.reduceEqDiff, reduceIte, implies_true, forall_const, Nat.reduceMul, Nat.reduceSub, Nat.reduceAdd, Nat.reduceLeDiff, hb, hel, hld, hcl, hlen, l0, l1, *]) | (simp only [zgoO, zgoG, zO_nil, zthen_normal, zgoC]) | (with_reducible apply And.intro) | (with_reducible intro _))
      · obtain ⟨q, rfl⟩ := Int.eq_ofNat_of_zero_le (show 0 ≤ n by omega)
        have hq : q < x.2.1.length := by omega
        have hST := HS.out
        rw [if_neg hno, Int.toNat_natCast] at hST
        obtain ⟨j, hj⟩ : ∃ j, x.1 = some j := by
          have := HM.out.pl x HMM.out
          cases hj : x.1 with
          | none => rw [hj] at this; simp only at this; rw [this] at hq; simp at hq
          | some j => exact ⟨j, rfl⟩
        have hpl := HM.out.pl x HMM.out
        rw [hj] at hpl
        have hpz1 : pz = .own j 0 0 x.2.1.length false := by rw [HPZ.out]; obtain ⟨o, y⟩ := x; simp only at hj; subst hj; rfl
        obtain ⟨y0, hy0⟩ : ∃ y0, y0 = x.2.1[q] := ⟨_, rfl⟩
        have hgd : x.2.1.getD q 0 = y0 := by rw [hy0]; simp [List.getD, hq]
        have hyq : x.2.1[q]? = some y0 := by rw [hy0]; exact List.getElem?_eq_getElem hq
        rw [hgd] at hST
        have hyr := HR.out.rng x HMM.out y0 (by rw [hy0]; exact List.getElem_mem hq)
        obtain ⟨sb, hsb⟩ : ∃ sb, sb = (if kd = 1 then (b) else y0) := ⟨_, rfl⟩
        rw [← hsb] at hST
        have hsr : 0 ≤ sb → sb < (T.length : Int) := fun h0 => by
          rw [hsb] at h0 ⊢
          split
          · rename_i hk; rw [if_pos hk] at h0; exact (H1.out b (by simp)).2
          · exact hyr
        have hkey : (shadeT mk T sb).map keyT = T.map keyT := shade_key
        have hM1 := HM.out.upd hkey
        have hs1 : m < (shadeT mk T sb).length := by rw [key_len hkey]; exact HM0.out
        have hy1 : (shadeT mk T sb)[m]? = some ((shadeT mk T sb)[m]'hs1) := List.getElem?_eq_getElem hs1
        obtain ⟨y, hye⟩ : ∃ y, y = ((shadeT mk T sb)[m]'hs1) := ⟨_, rfl⟩
        rw [← hye] at hy1
        rw [hy1] at hST
        simp only at hST
        obtain ⟨k1, k2⟩ := sameKey hkey HX.out hy1
        have hjW : (thH H t g (shadeT mk T sb))[j]? = some (.grow 0 1 (x.2.1.map eI)) := by
          have h3 := hM1.pl y (List.mem_of_getElem? hy1)
          rw [k1, hj, k2] at h3
          exact h3.2
        have hM2 := hM1.place hy1 (k1.trans hj) (pl' := x.2.1.set q (b)) (by rw [k2]; simp)
        obtain ⟨W, hW⟩ : ∃ W, W = thH H t g (shadeT mk T sb) := ⟨_, rfl⟩
        rw [← hW] at hM1 hjW hM2
        have hWl : W.length = H.length := by rw [hW]; simp
        have fr : FrB p H W := by rw [hW]; exact HM.out.frT
        have fin : ∀ X, Fin H (Z64 0) (W.set j (.grow 0 1 ((x.2.1.set q (b)).map eI)) ++ X) K := fun X => by
          have hk := HK.out (W.set j (.grow 0 1 ((x.2.1.set q (b)).map eI)) ++ X) (by rw [hST]; exact hM2.ext X) (fr.trans ((FrB.grow hjW).trans FrB.ext))
          rw [hST] at hk
          exact Fin.keep hk
        have e : ∀ Y, thH (H ++ Y) t g (shadeT mk T sb) = W ++ Y := fun Y => by
          rw [hW]; unfold thH; rw [List.set_append_left _ _ (lt_of_get HM.out.arr)]
        have hjX : ∀ Y, (W ++ Y)[j]? = some (.grow 0 1 (x.2.1.map eI)) := fun Y => by rw [List.getElem?_append_left (lt_of_get hjW)]; exact hjW
        have hjH : ∀ Y, (H ++ Y)[j]? = some (.grow 0 1 (x.2.1.map eI)) := fun Y => by rw [List.getElem?_append_left (lt_of_get hpl.2)]; exact hpl.2
        have r0 : ∀ A B : ZB, (W ++ [A, B])[H.length]? = some A := fun A B => by rw [← hWl]; exact mv_at0 _ _
        have r1 : ∀ A B : ZB, (W ++ [A, B])[H.length + 1]? = some B := fun A B => by rw [← hWl]; exact mv_at1 _ _ _
        have pe : ∀ Y, elemZ (H ++ Y) 1 q pz = some (.eptr j 0 q 0) := fun Y => by rw [hpz1]; exact p_el (hjH Y) hq
        have pld : ∀ Y, ldZ (H ++ Y) none (.eptr j 0 q 0) = some (Z64 y0) := fun Y => p_ld (hjH Y) hyq
        have we : ∀ Y, elemZ (W ++ Y) 1 q pz = some (.eptr j 0 q 0) := fun Y => by rw [hpz1]; exact p_el (hjX Y) hq
        have wst : ∀ Y, stZ L (W ++ Y) [Z64 (b)] (.eptr j 0 q 0) = some (W.set j (.grow 0 1 ((x.2.1.set q (b)).map eI)) ++ Y) := fun Y => by
          rw [p_st (hjX Y) hq (HL.out j), List.set_append_left _ _ (lt_of_get hjW)]
        obtain ⟨W2, hW2⟩ : ∃ W2, W2 = W.set j (.grow 0 1 ((x.2.1.set q (b)).map eI)) := ⟨_, rfl⟩
        rw [← hW2] at wst fin
        have HE := Lib.hid e
        have HSR := Lib.hid hsr
        have HSB := Lib.hid hsb
        have hq0 : ¬ ((q : Int) < 0) := by omega
        have hq1 : ¬ ((x.2.1.length : Int) ≤ (q : Int)) := by omega
        have hq2 : (0 : Int) ≤ (q : Int) := by omega
        clear hST hj hpl hpz1 hy0 hgd hyq hyr hsb hsr hkey hM1 hs1 hy1 hye k1 k2 hjW hM2 hW hWl fr e hjX hjH hW2 hno
        by_cases hk1 : kd = 1
        · have hs : sb = (b) := by rw [HSB.out, if_pos hk1]
          subst hk1
          clear pe pld
          repeat' (first | (simp only [zmPack, zxPack, ne_eq, zfree, owners, Nat.reduceLT, List.contains_cons, List.contains_nil, Nat.reduceBEq, BEq.rfl, chunk, setAt, List.lookup_cons, List.lookup_nil, reduceCtorEq, Nat.reduceEqDiff, reduceIte, implies_true, forall_const, Nat.reduceMul, Nat.reduceSub, Nat.reduceAdd, Nat.reduceLeDiff, hb, hel, hld, hcl, hlen, l0, l1, *]) | (simp only [zgoO, zgoG, zO_nil, zthen_normal, zgoC]) | (with_reducible apply And.intro) | (with_reducible intro _))
          rw [← hs]
          rw [← hs] at wst
          refine shade_z (HM.out.ext _) (HL.out t) (fun _ h0 => HSR.out h0) ?_
          rw [HE.out]
          have hs2 := Lib.hid hs
          clear hs hel hld hlen hb
          repeat' (first | (simp only [zmPack, zxPack, ne_eq, zfree, owners, Nat.reduceLT, List.contains_cons, List.contains_nil, Nat.reduceBEq, BEq.rfl, chunk, setAt, List.lookup_cons, List.lookup_nil, reduceCtorEq, Nat.reduceEqDiff, reduceIte, implies_true, forall_const, Nat.reduceMul, Nat.reduceSub, Nat.reduceAdd, Nat.reduceLeDiff, r0, r1, we, wst, *]) | (simp only [zgoO, zgoG, zO_nil, zthen_normal, zgoC]) | (with_reducible apply And.intro) | (with_reducible intro _))
        · have hs : sb = y0 := by rw [HSB.out, if_neg hk1]
          repeat' (first | (simp only [zmPack, zxPack, ne_eq, zfree, owners, Nat.reduceLT, List.contains_cons, List.contains_nil, Nat.reduceBEq, BEq.rfl, chunk, setAt, List.lookup_cons, List.lookup_nil, reduceCtorEq, Nat.reduceEqDiff, reduceIte, implies_true, forall_const, Nat.reduceMul, Nat.reduceSub, Nat.reduceAdd, Nat.reduceLeDiff, hb, hel, hld, hcl, hlen, l0, l1, pe, pld, *]) | (simp only [zgoO, zgoG, zO_nil, zthen_normal, zgoC]) | (with_reducible apply And.intro) | (with_reducible intro _))
          rw [← hs]
          refine shade_z (HM.out.ext _) (HL.out t) (fun _ h0 => HSR.out h0) ?_
          rw [HE.out]
          clear hs hel hld hlen hb pe pld
          repeat' (first | (simp only [zmPack, zxPack, ne_eq, zfree, owners, Nat.reduceLT, List.contains_cons, List.contains_nil, Nat.reduceBEq, BEq.rfl, chunk, setAt, List.lookup_cons, List.lookup_nil, reduceCtorEq, Nat.reduceEqDiff, reduceIte, implies_true, forall_const, Nat.reduceMul, Nat.reduceSub, Nat.reduceAdd, Nat.reduceLeDiff, r0, r1, we, wst, *]) | (simp only [zgoO, zgoG, zO_nil, zthen_normal, zgoC]) | (with_reducible apply And.intro) | (with_reducible intro _))
    · have e : setL a (b) = [a, b] := by unfold setL; rw [if_neg HB1.out]
      have fin : ∀ X, Fin H (Z64 (namedE T [a, b])) (H ++ X) K := fun X => by
        have hST : setT kd mk T a (b) n = (namedE T [a, b], T) := by unfold setT; rw [e, if_pos he]
        have hk := HK.out (H ++ X) (by rw [hST]; exact HM.out.ext X) FrB.ext
        rw [hST] at hk
        exact Fin.keep hk
      obtain ⟨ee, hee⟩ : ∃ ee, ee = namedE T [a, b] := ⟨_, rfl⟩
      rw [← hee] at he fin ⊢
      clear hee e
      repeat' (first | (simp only [zmPack, zxPack, ne_eq, zfree, owners, Nat.reduceLT, List.contains_cons, List.contains_nil, Nat.reduceBEq, BEq.rfl, chunk, setAt, List.lookup_cons, List.lookup_nil, reduceCtorEq, Nat.reduceEqDiff, reduceIte, implies_true, forall_const, Nat.reduceMul, Nat.reduceSub, Nat.reduceAdd, Nat.reduceLeDiff, hb, *]) | (simp only [zgoO, zgoG, zO_nil, zthen_normal, zgoC]) | (with_reducible apply And.intro) | (with_reducible intro _))
end Go.Proofs.Ytpeagenjmmkohaa
