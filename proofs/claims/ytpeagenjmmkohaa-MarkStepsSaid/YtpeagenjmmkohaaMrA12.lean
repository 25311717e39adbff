/-
  The marker in ZM: make; New; Do.
-/
import Derived.Test.YtpeagenjmmkohaaMrA11
namespace Go.Proofs.Ytpeagenjmmkohaa
open Go Go.RowKit
set_option linter.unusedVariables false
set_option linter.unusedSimpArgs false
variable {tb : List (FuncId × Bool)} {L : Nat → Bool} {H : ZH} {K : ZV → ZH → Prop} {p t g : Nat} {kd : Int} {mk : Bool} {T : List TB}
theorem repeat_z0 {z : ZV} {x : Int} (hz : rowsZ H 1 z = some [[Z64 x]]) (hK : K (.fz 1 false []) H) :
    ZC (constX tb) (cFunc Try.prog) 49 [z, Z64 ((0 : Nat) : Int)] L H K := by
  refine ZC.frzF (n := 0) (k := 1) (rows := []) (repeat_z hz (by omega) ⟨rfl, rfl⟩) rfl rfl hK
/-- A thing more. -/
theorem MkAt.push (h : MkAt H p t g kd mk T) {x : TB} {Y : ZH} (hlen : T.length < 100) (hsm : x.2.1.length ≤ 10) (hx : (x.1 = none ∧ x.2.1 = []) ∨ ∃ j, x.1 = some j ∧ x.2.1 ≠ [] ∧ H.length ≤ j ∧ (H ++ Y)[j]? = some (.grow 0 1 (x.2.1.map eI))) :
    MkAt (((H ++ Y).set t (.grow (g + 1) 3 ((T ++ [x]).map eT))).set p (.box [Z64 kd, ZBo mk, .own t (g + 1) 0 (T.length + 1) false])) p t (g + 1) kd mk (T ++ [x]) := by
  have h0 := h.ext Y
  have hpl := lt_of_get h0.box
  have htl := lt_of_get h0.arr
  refine ⟨by rw [List.getElem?_set_self (by rw [List.length_set]; exact hpl), List.length_append]; rfl, by rw [List.getElem?_set_ne h.pt, List.getElem?_set_self htl], fun y hy => ?_, ?_, by simp; omega, fun y hy => ?_⟩
  · rcases List.mem_append.1 hy with hy | hy
    · have h1 := h0.pl y hy
      have h2 : ∀ j, y.1 = some j → j ≠ t ∧ j ≠ p := fun j hj => h0.jt hy hj
      revert h1 h2
      cases y.1 with
      | none => exact fun h1 _ => h1
      | some j => exact fun h1 h2 => ⟨h1.1, by rw [List.getElem?_set_ne (Ne.symm (h2 j rfl).2), List.getElem?_set_ne (Ne.symm (h2 j rfl).1)]; exact h1.2⟩
    · rw [List.mem_singleton.1 hy]
      rcases hx with ⟨e1, e2⟩ | ⟨j, e1, e2, e3, e4⟩
      · rw [e1]; exact e2
      · rw [e1]
        have := lt_of_get h.box
        have := lt_of_get h.arr
        exact ⟨e2, by rw [List.getElem?_set_ne (by omega), List.getElem?_set_ne (by omega)]; exact e4⟩
  · rw [List.filterMap_append]
    rcases hx with ⟨e1, e2⟩ | ⟨j, e1, e2, e3, e4⟩
    · rw [show [x].filterMap Prod.fst = [] by simp [List.filterMap_cons, e1], List.append_nil]; exact h.nod
    · rw [show [x].filterMap Prod.fst = [j] by simp [List.filterMap_cons, e1], List.nodup_append]
      refine ⟨h.nod, by simp, fun a ha b hb e => ?_⟩
      simp at hb
      subst hb; subst e
      obtain ⟨y, hy, e5⟩ := List.mem_filterMap.1 ha
      have h1 := h.pl y hy
      rw [e5] at h1
      have := lt_of_get h1.2
      omega
  · rcases List.mem_append.1 hy with hy | hy
    · exact h.sm y hy
    · rw [List.mem_singleton.1 hy]; exact hsm
/-- What make does. -/
def newTh (mk : Bool) (n : Int) (o : Option Nat) : TB := (o, List.replicate n.toNat (-1), if mk = true then 2 else 0, true)
structure MadeT (mk : Bool) (T : List TB) (n : Int) (r e : Int) (T' : List TB) : Prop where
  arg : n < 0 ∨ 10 < n → r = 0 ∧ e = 1 ∧ T' = T
  large : ¬ (n < 0 ∨ 10 < n) → 100 ≤ T.length → r = 0 ∧ e = 2 ∧ T' = T
  ok : ¬ (n < 0 ∨ 10 < n) → T.length < 100 → r = T.length ∧ e = 0 ∧ ∃ o, T' = T ++ [newTh mk n o]
set_option maxHeartbeats 4000000 in
theorem make_z {n : Int} (h : MkAt H p t g kd mk T) (hL : ∀ i, L i = true) (hK : ∀ H' g' r e T', MadeT mk T n r e T' → MkAt H' p t g' kd mk T' → FrB p H H' → K (.tuple [Z64 r, Z64 e]) H') :
    ZC (constX tb) (cFunc Try.prog) 39 [.ptr p 0, Z64 n] L H K := by
  refine ZC.enter ⟨[], [36], []⟩ constX_none f_mk_make (by simp) ?_
  simp only [c_mk_make]
  have hb := h.box
  have h3 : rowsZ H 3 (.own t g 0 T.length false) = some (T.map eT) := rows_whole h.arr (by simp)
  have hl3 := rows_len h3
  rw [List.length_map] at hl3
  have HM := Lib.hid h
  have HL := Lib.hid hL
  have HK := Lib.hid hK
  clear hK h hL h3
  by_cases ha : n < 0 ∨ 10 < n
  · have fin : Fin H (.tuple [Z64 0, Z64 1]) H K := Fin.keep (HK.out H g 0 1 T ⟨fun _ => ⟨rfl, rfl, rfl⟩, fun h => absurd ha h, fun h => absurd ha h⟩ HM.out FrB.refl)
    by_cases hn : n < 0
    · clear ha
      repeat' (first | (simp only [zmPack, zxPack, ne_eq, zfree, owners, Nat.reduceLT, List.contains_cons, List.contains_nil, Nat.reduceBEq, BEq.rfl, chunk, setAt, List.lookup_cons, List.lookup_nil, reduceCtorEq, Nat.reduceEqDiff, reduceIte, implies_true, forall_const, Nat.reduceMul, Nat.reduceSub, Nat.reduceAdd, Nat.reduceLeDiff, hb, hl3, *]) | (simp only [zgoO, zgoG, zO_nil, zthen_normal, zgoC]) | (with_reducible apply And.intro) | (with_reducible intro _))
    · have hn2 : 10 < n := by omega
      clear ha
      repeat' (first | (simp only [zmPack, zxPack, ne_eq, zfree, owners, Nat.reduceLT, List.contains_cons, List.contains_nil, Nat.reduceBEq, BEq.rfl, chunk, setAt, List.lookup_cons, List.lookup_nil, reduceCtorEq, Nat.reduceEqDiff, reduceIte, implies_true, forall_const, Nat.reduceMul, Nat.reduceSub, Nat.reduceAdd, Nat.reduceLeDiff, hb, hl3, *]) | (simp only [zgoO, zgoG, zO_nil, zthen_normal, zgoC]) | (with_reducible apply And.intro) | (with_reducible intro _))
  · by_cases hl : 100 ≤ T.length
    · have fin : Fin H (.tuple [Z64 0, Z64 2]) H K := Fin.keep (HK.out H g 0 2 T ⟨fun h => absurd h ha, fun _ _ => ⟨rfl, rfl, rfl⟩, fun _ h => absurd hl (by omega)⟩ HM.out FrB.refl)
      have g1 : ¬ n < 0 := by omega
      have g2 : ¬ 10 < n := by omega
      have g3 : (100 : Int) ≤ (T.length : Int) := by omega
      clear ha hl
      repeat' (first | (simp only [zmPack, zxPack, ne_eq, zfree, owners, Nat.reduceLT, List.contains_cons, List.contains_nil, Nat.reduceBEq, BEq.rfl, chunk, setAt, List.lookup_cons, List.lookup_nil, reduceCtorEq, Nat.reduceEqDiff, reduceIte, implies_true, forall_const, Nat.reduceMul, Nat.reduceSub, Nat.reduceAdd, Nat.reduceLeDiff, hb, hl3, *]) | (simp only [zgoO, zgoG, zO_nil, zthen_normal, zgoC]) | (with_reducible apply And.intro) | (with_reducible intro _))
    · obtain ⟨m, rfl⟩ := Int.eq_ofNat_of_zero_le (show 0 ≤ n by omega)
      have hm : m ≤ 10 := by omega
      have g1 : ¬ (m : Int) < 0 := by omega
      have g2 : ¬ 10 < (m : Int) := by omega
      have g3 : ¬ (100 : Int) ≤ (T.length : Int) := by omega
      have HA := Lib.hid ha
      have HT := Lib.hid hl
      have HMM := Lib.hid hm
      clear ha hl hm
      have hbX : ∀ Y, (H ++ Y)[p]? = some (.box [Z64 kd, ZBo mk, .own t g 0 T.length false]) := fun Y => (HM.out.ext Y).box
      have hap : ∀ x Y, appZ L (H ++ Y) 3 40 [eT x] (.own t g 0 T.length false) = some (.own t (g + 1) 0 (T.length + 1) false, (H ++ Y).set t (.grow (g + 1) 3 ((T ++ [x]).map eT))) := fun x Y => by
        rw [app_ownN (HM.out.ext Y).arr (by simp) (by have := HT.out; unfold reach; simp; omega) (HL.out t), List.map_append]; rfl
      have hst : ∀ x Y, stZ L ((H ++ Y).set t (.grow (g + 1) 3 ((T ++ [x]).map eT))) [.own t (g + 1) 0 (T.length + 1) false] (.ptr p 2) = some (((H ++ Y).set t (.grow (g + 1) 3 ((T ++ [x]).map eT))).set p (.box [Z64 kd, ZBo mk, .own t (g + 1) 0 (T.length + 1) false])) := fun x Y => by
        rw [st_ptr]
        exact ⟨_, by rw [List.getElem?_set_ne (Ne.symm HM.out.pt)]; exact hbX Y, HL.out p, by simp, rfl⟩
      have fin : ∀ (o : Option Nat) (Y : ZH), ((newTh mk m o).1 = none ∧ (newTh mk m o).2.1 = []) ∨ (∃ j, (newTh mk m o).1 = some j ∧ (newTh mk m o).2.1 ≠ [] ∧ H.length ≤ j ∧ (H ++ Y)[j]? = some (.grow 0 1 ((newTh mk m o).2.1.map eI))) →
          Fin H (.tuple [Z64 T.length, Z64 0]) (((H ++ Y).set t (.grow (g + 1) 3 ((T ++ [newTh mk m o]).map eT))).set p (.box [Z64 kd, ZBo mk, .own t (g + 1) 0 (T.length + 1) false])) K := fun o Y hx => by
        have hM2 := HM.out.push (x := newTh mk m o) (Y := Y) (by have := HT.out; omega) (by simp [newTh]; exact HMM.out) hx
        exact Fin.keep (HK.out _ _ _ _ _ ⟨fun h => absurd h HA.out, fun _ h => absurd h HT.out, fun _ _ => ⟨rfl, rfl, o, rfl⟩⟩ hM2 (FrB.ext.trans ((FrB.grow (HM.out.ext Y).arr).trans FrB.own)))
      have hl4 : ∀ x Y, lenZ (((H ++ Y).set t (.grow (g + 1) 3 ((T ++ [x]).map eT))).set p (.box [Z64 kd, ZBo mk, .own t (g + 1) 0 (T.length + 1) false])) (.own t (g + 1) 0 (T.length + 1) false) = some (T.length + 1) := fun x Y => by
        have hq : (((H ++ Y).set t (.grow (g + 1) 3 ((T ++ [x]).map eT))).set p (.box [Z64 kd, ZBo mk, .own t (g + 1) 0 (T.length + 1) false]))[t]? = some (.grow (g + 1) 3 ((T ++ [x]).map eT)) := by
          rw [List.getElem?_set_ne HM.out.pt, List.getElem?_set_self (lt_of_get (HM.out.ext Y).arr)]
        have := rows_len (rows_whole (ex := false) hq rfl)
        simpa using this
      have hb4 : ∀ x Y, (((H ++ Y).set t (.grow (g + 1) 3 ((T ++ [x]).map eT))).set p (.box [Z64 kd, ZBo mk, .own t (g + 1) 0 (T.length + 1) false]))[p]? = some (.box [Z64 kd, ZBo mk, .own t (g + 1) 0 (T.length + 1) false]) := fun x Y => by
        rw [List.getElem?_set_self (by rw [List.length_set]; exact lt_of_get (hbX Y))]
      have w1 : IntKind.i64.wrap (((T.length + 1 : Nat) : Int) - 1) = (T.length : Int) := by have := HT.out; rw [IntWalk.i64_in _ (by omega)]; omega
      have FN := Lib.hid fin
      have HAP := Lib.hid hap
      have HST := Lib.hid hst
      have HL4 := Lib.hid hl4
      have HB4 := Lib.hid hb4
      have l0 := HL.out H.length
      have l1 := HL.out (H.length + 1)
      clear fin hap hst hl4 hb4
      rcases Nat.eq_zero_or_pos m with rfl | hp
      · repeat' (first | (simp only [zmPack, zxPack, ne_eq, zfree, owners, Nat.reduceLT, List.contains_cons, List.contains_nil, Nat.reduceBEq, BEq.rfl, chunk, setAt, List.lookup_cons, List.lookup_nil, reduceCtorEq, Nat.reduceEqDiff, reduceIte, implies_true, forall_const, Nat.reduceMul, Nat.reduceSub, Nat.reduceAdd, Nat.reduceLeDiff, hb, hl3, l0, *]) | (simp only [zgoO, zgoG, zO_nil, zthen_normal, zgoC]) | (with_reducible apply And.intro) | (with_reducible intro _))
        refine repeat_z0 (x := -1) rows_fz ?_
        cases mk with
        | true =>
          have fin := FN.out none [.box (eT (newTh true (0 : Nat) none)), .grow 0 3 [eT (newTh true (0 : Nat) none)]] (.inl ⟨rfl, rfl⟩)
          have hap := HAP.out (newTh true (0 : Nat) none) [.box (eT (newTh true (0 : Nat) none)), .grow 0 3 [eT (newTh true (0 : Nat) none)]]
          have hst := HST.out (newTh true (0 : Nat) none) [.box (eT (newTh true (0 : Nat) none)), .grow 0 3 [eT (newTh true (0 : Nat) none)]]
          have hl4 := HL4.out (newTh true (0 : Nat) none) [.box (eT (newTh true (0 : Nat) none)), .grow 0 3 [eT (newTh true (0 : Nat) none)]]
          have hb4 := HB4.out (newTh true (0 : Nat) none) [.box (eT (newTh true (0 : Nat) none)), .grow 0 3 [eT (newTh true (0 : Nat) none)]]
          have e : eT (newTh true (0 : Nat) none) = [.fz 1 false [], Z64 2, ZBo true] := rfl
          rw [e] at fin hap hst hl4 hb4
          obtain ⟨R, hR⟩ : ∃ R, R = (T ++ [(newTh true (0 : Nat) none)]).map eT := ⟨_, rfl⟩
          rw [← hR] at fin hap hst hl4 hb4
          clear hR e
          repeat' (first | (simp only [zmPack, zxPack, ne_eq, zfree, owners, Nat.reduceLT, List.contains_cons, List.contains_nil, Nat.reduceBEq, BEq.rfl, chunk, setAt, List.lookup_cons, List.lookup_nil, reduceCtorEq, Nat.reduceEqDiff, reduceIte, implies_true, forall_const, Nat.reduceMul, Nat.reduceSub, Nat.reduceAdd, Nat.reduceLeDiff, hbX, hap, hst, hl4, hb4, w1, l0, *]) | (simp only [zgoO, zgoG, zO_nil, zthen_normal, zgoC]) | (with_reducible apply And.intro) | (with_reducible intro _))
        | false =>
          have fin := FN.out none [.box (eT (newTh false (0 : Nat) none)), .grow 0 3 [eT (newTh false (0 : Nat) none)]] (.inl ⟨rfl, rfl⟩)
          have hap := HAP.out (newTh false (0 : Nat) none) [.box (eT (newTh false (0 : Nat) none)), .grow 0 3 [eT (newTh false (0 : Nat) none)]]
          have hst := HST.out (newTh false (0 : Nat) none) [.box (eT (newTh false (0 : Nat) none)), .grow 0 3 [eT (newTh false (0 : Nat) none)]]
          have hl4 := HL4.out (newTh false (0 : Nat) none) [.box (eT (newTh false (0 : Nat) none)), .grow 0 3 [eT (newTh false (0 : Nat) none)]]
          have hb4 := HB4.out (newTh false (0 : Nat) none) [.box (eT (newTh false (0 : Nat) none)), .grow 0 3 [eT (newTh false (0 : Nat) none)]]
          have e : eT (newTh false (0 : Nat) none) = [.fz 1 false [], Z64 0, ZBo true] := rfl
          rw [e] at fin hap hst hl4 hb4
          obtain ⟨R, hR⟩ : ∃ R, R = (T ++ [(newTh false (0 : Nat) none)]).map eT := ⟨_, rfl⟩
          rw [← hR] at fin hap hst hl4 hb4
          clear hR e
          repeat' (first | (simp only [zmPack, zxPack, ne_eq, zfree, owners, Nat.reduceLT, List.contains_cons, List.contains_nil, Nat.reduceBEq, BEq.rfl, chunk, setAt, List.lookup_cons, List.lookup_nil, reduceCtorEq, Nat.reduceEqDiff, reduceIte, implies_true, forall_const, Nat.reduceMul, Nat.reduceSub, Nat.reduceAdd, Nat.reduceLeDiff, hbX, hap, hst, hl4, hb4, w1, l0, *]) | (simp only [zgoO, zgoG, zO_nil, zthen_normal, zgoC]) | (with_reducible apply And.intro) | (with_reducible intro _))
      · repeat' (first | (simp only [zmPack, zxPack, ne_eq, zfree, owners, Nat.reduceLT, List.contains_cons, List.contains_nil, Nat.reduceBEq, BEq.rfl, chunk, setAt, List.lookup_cons, List.lookup_nil, reduceCtorEq, Nat.reduceEqDiff, reduceIte, implies_true, forall_const, Nat.reduceMul, Nat.reduceSub, Nat.reduceAdd, Nat.reduceLeDiff, hb, hl3, l0, *]) | (simp only [zgoO, zgoG, zO_nil, zthen_normal, zgoC]) | (with_reducible apply And.intro) | (with_reducible intro _))
        refine repeat_z (x := -1) rows_fz (by have := HMM.out; omega) ?_
        cases mk with
        | true =>
          have fin := FN.out (some H.length) [.grow 0 1 ((List.replicate m (-1)).map eI), .box (eT (newTh true m (some H.length))), .grow 0 3 [eT (newTh true m (some H.length))]] (.inr ⟨H.length, rfl, by simp [newTh]; omega, Nat.le_refl _, by rw [List.getElem?_append_right (Nat.le_refl _), Nat.sub_self]; simp [newTh]⟩)
          have hap := HAP.out (newTh true m (some H.length)) [.grow 0 1 ((List.replicate m (-1)).map eI), .box (eT (newTh true m (some H.length))), .grow 0 3 [eT (newTh true m (some H.length))]]
          have hst := HST.out (newTh true m (some H.length)) [.grow 0 1 ((List.replicate m (-1)).map eI), .box (eT (newTh true m (some H.length))), .grow 0 3 [eT (newTh true m (some H.length))]]
          have hl4 := HL4.out (newTh true m (some H.length)) [.grow 0 1 ((List.replicate m (-1)).map eI), .box (eT (newTh true m (some H.length))), .grow 0 3 [eT (newTh true m (some H.length))]]
          have hb4 := HB4.out (newTh true m (some H.length)) [.grow 0 1 ((List.replicate m (-1)).map eI), .box (eT (newTh true m (some H.length))), .grow 0 3 [eT (newTh true m (some H.length))]]
          have e : eT (newTh true m (some H.length)) = [.own H.length 0 0 m false, Z64 2, ZBo true] := by simp [newTh, eT, plZ]
          rw [e] at fin hap hst hl4 hb4
          obtain ⟨R, hR⟩ : ∃ R, R = (T ++ [(newTh true m (some H.length))]).map eT := ⟨_, rfl⟩
          rw [← hR] at fin hap hst hl4 hb4
          obtain ⟨Q, hQ⟩ : ∃ Q, Q = (List.replicate m (-1)).map eI := ⟨_, rfl⟩
          rw [← hQ] at fin hap hst hl4 hb4 ⊢
          clear hQ hp
          clear hR e
          repeat' (first | (simp only [zmPack, zxPack, ne_eq, zfree, owners, Nat.reduceLT, List.contains_cons, List.contains_nil, Nat.reduceBEq, BEq.rfl, chunk, setAt, List.lookup_cons, List.lookup_nil, reduceCtorEq, Nat.reduceEqDiff, reduceIte, implies_true, forall_const, Nat.reduceMul, Nat.reduceSub, Nat.reduceAdd, Nat.reduceLeDiff, hbX, hap, hst, hl4, hb4, w1, l0, l1, *]) | (simp only [zgoO, zgoG, zO_nil, zthen_normal, zgoC]) | (with_reducible apply And.intro) | (with_reducible intro _))
        | false =>
          have fin := FN.out (some H.length) [.grow 0 1 ((List.replicate m (-1)).map eI), .box (eT (newTh false m (some H.length))), .grow 0 3 [eT (newTh false m (some H.length))]] (.inr ⟨H.length, rfl, by simp [newTh]; omega, Nat.le_refl _, by rw [List.getElem?_append_right (Nat.le_refl _), Nat.sub_self]; simp [newTh]⟩)
          have hap := HAP.out (newTh false m (some H.length)) [.grow 0 1 ((List.replicate m (-1)).map eI), .box (eT (newTh false m (some H.length))), .grow 0 3 [eT (newTh false m (some H.length))]]
          have hst := HST.out (newTh false m (some H.length)) [.grow 0 1 ((List.replicate m (-1)).map eI), .box (eT (newTh false m (some H.length))), .grow 0 3 [eT (newTh false m (some H.length))]]
          have hl4 := HL4.out (newTh false m (some H.length)) [.grow 0 1 ((List.replicate m (-1)).map eI), .box (eT (newTh false m (some H.length))), .grow 0 3 [eT (newTh false m (some H.length))]]
          have hb4 := HB4.out (newTh false m (some H.length)) [.grow 0 1 ((List.replicate m (-1)).map eI), .box (eT (newTh false m (some H.length))), .grow 0 3 [eT (newTh false m (some H.length))]]
          have e : eT (newTh false m (some H.length)) = [.own H.length 0 0 m false, Z64 0, ZBo true] := by simp [newTh, eT, plZ]
          rw [e] at fin hap hst hl4 hb4
          obtain ⟨R, hR⟩ : ∃ R, R = (T ++ [(newTh false m (some H.length))]).map eT := ⟨_, rfl⟩
          rw [← hR] at fin hap hst hl4 hb4
          obtain ⟨Q, hQ⟩ : ∃ Q, Q = (List.replicate m (-1)).map eI := ⟨_, rfl⟩
          rw [← hQ] at fin hap hst hl4 hb4 ⊢
          clear hQ hp
          clear hR e
          repeat' (first | (simp only [zmPack, zxPack, ne_eq, zfree, owners, Nat.reduceLT, List.contains_cons, List.contains_nil, Nat.reduceBEq, BEq.rfl, chunk, setAt, List.lookup_cons, List.lookup_nil, reduceCtorEq, Nat.reduceEqDiff, reduceIte, implies_true, forall_const, Nat.reduceMul, Nat.reduceSub, Nat.reduceAdd, Nat.reduceLeDiff, hbX, hap, hst, hl4, hb4, w1, l0, l1, *]) | (simp only [zgoO, zgoG, zO_nil, zthen_normal, zgoC]) | (with_reducible apply And.intro) | (with_reducible intro _))
theorem new_z {k : Int} (hk : k = 1 ∨ k = 2) (hK : ∀ H' p t, MkAt H' p t 0 k false [] → K (.tuple [.ptr p 0, Z64 0]) H') :
    ZC (constX tb) (cFunc Try.prog) 22 [Z64 k] L H K := by
  refine ZC.enterL ⟨[(11, [(2, 3)])], [], []⟩ constX_none f_mk_new (by simp) fun hL => ?_
  simp only [c_mk_new]
  have fin : Fin H (.tuple [.ptr (H.length + 1) 0, Z64 0]) (H ++ [.grow 0 3 [], .box [Z64 k, ZBo false, .own H.length 0 0 0 false]]) K :=
    Fin.keep (hK _ (H.length + 1) H.length ⟨mv_at1 _ _ _, mv_at0 _ _, by simp, by simp, by simp, by simp⟩)
  clear hK
  rcases hk with rfl | rfl
  · repeat' (first | (simp only [zmPack, zxPack, ne_eq, zfree, owners, Nat.reduceLT, List.contains_cons, List.contains_nil, Nat.reduceBEq, BEq.rfl, chunk, setAt, List.lookup_cons, List.lookup_nil, reduceCtorEq, Nat.reduceEqDiff, reduceIte, implies_true, forall_const, Nat.reduceMul, Nat.reduceSub, Nat.reduceAdd, Nat.reduceLeDiff, *]) | (simp only [zgoO, zgoG, zO_nil, zthen_normal, zgoC]) | (with_reducible apply And.intro) | (with_reducible intro _))
  · repeat' (first | (simp only [zmPack, zxPack, ne_eq, zfree, owners, Nat.reduceLT, List.contains_cons, List.contains_nil, Nat.reduceBEq, BEq.rfl, chunk, setAt, List.lookup_cons, List.lookup_nil, reduceCtorEq, Nat.reduceEqDiff, reduceIte, implies_true, forall_const, Nat.reduceMul, Nat.reduceSub, Nat.reduceAdd, Nat.reduceLeDiff, *]) | (simp only [zgoO, zgoG, zO_nil, zthen_normal, zgoC]) | (with_reducible apply And.intro) | (with_reducible intro _))
/-- What a deed does. -/
inductive DoT (kd : Int) (mk : Bool) (T : List TB) (a b n : Int) : Int → Int → Int → Bool → List TB → Prop
  | new {r e : Int} {T' : List TB} : MadeT mk T n r e T' → DoT kd mk T a b n 1 r e mk T'
  | set : DoT kd mk T a b n 2 0 (setT kd mk T a b n).1 mk (setT kd mk T a b n).2
  | drop : DoT kd mk T a b n 3 0 (holdT kd mk T a false).1 mk (holdT kd mk T a false).2
  | hold : DoT kd mk T a b n 4 0 (holdT kd mk T a true).1 mk (holdT kd mk T a true).2
  | stepNo : mk = false → DoT kd mk T a b n 5 0 8 mk T
  | stepArg : mk = true → n < 0 → DoT kd mk T a b n 5 0 1 mk T
  | step {m : Nat} {T1 : List TB} : mk = true → 0 ≤ n → Stp mk m T T1 → (m : Int) ≤ n → ((m : Int) < n → stepT mk T1 = none) → DoT kd mk T a b n 5 m 0 mk T1
  | beginNo : mk = true → DoT kd mk T a b n 6 0 8 mk T
  | begn : mk = false → DoT kd mk T a b n 6 (rising (heldB T)).length 0 true (begT T)
  | endNo : mk = false → DoT kd mk T a b n 7 0 8 mk T
  | done {m : Nat} {T1 : List TB} : mk = true → Stp true m T T1 → stepT true T1 = none → DoT kd mk T a b n 7 (whiteN T1) 0 false (T1.map endX)
  | other {d : Int} : d < 1 ∨ 7 < d → DoT kd mk T a b n d 0 7 mk T
theorem hold_key {n : Int} {b : Bool} : ((holdT kd mk T n b).2).map keyT = T.map keyT := by
  unfold holdT
  split
  · rfl
  · split
    · rfl
    · simp only
      have hk : (if b = decide (kd = 1) then shadeT mk T n else T).map keyT = T.map keyT := by split; exact shade_key; rfl
      split
      · rename_i x hx
        rw [key_set (y := (x.1, x.2.1, x.2.2.1, b)) hx rfl, hk]
      · exact hk
set_option maxHeartbeats 4000000 in
theorem do_z {d a b n : Int} (h : MkAt H p t g kd mk T) (hr : Rng T) (hL : ∀ i, L i = true) (hK : ∀ H' g' r e mk' T', DoT kd mk T a b n d r e mk' T' → MkAt H' p t g' kd mk' T' → FrB p H H' → K (.tuple [Z64 r, Z64 e]) H') :
    ZC (constX tb) (cFunc Try.prog) 26 [.ptr p 0, .agg [Z64 d, Z64 a, Z64 b, Z64 n]] L H K := by
  refine ZC.enter Gh.no constX_none f_mk_do (by simp) ?_
  simp only [c_mk_do]
  obtain ⟨X, hX⟩ : ∃ X, X = [ZB.box [Z64 d, Z64 a, Z64 b, Z64 n]] := ⟨_, rfl⟩
  have F : ∀ H' g' r e mk' T', DoT kd mk T a b n d r e mk' T' → MkAt H' p t g' kd mk' T' → FrB p (H ++ [ZB.box [Z64 d, Z64 a, Z64 b, Z64 n]]) H' → Fin H (.tuple [Z64 r, Z64 e]) H' K := fun H' g' r e mk' T' h1 h2 h3 => Fin.keep (hK H' g' r e mk' T' h1 h2 (FrB.ext.trans h3))
  have FF := Lib.hid F
  have HM := Lib.hid (h.ext [ZB.box [Z64 d, Z64 a, Z64 b, Z64 n]])
  have HR := Lib.hid hr
  have HL := Lib.hid hL
  clear hK h hr hL F hX
  by_cases h1 : d = 1
  · subst h1
    repeat' (first | (simp only [zmPack, zxPack, ne_eq, zfree, owners, Nat.reduceLT, List.contains_cons, List.contains_nil, Nat.reduceBEq, BEq.rfl, chunk, setAt, List.lookup_cons, List.lookup_nil, reduceCtorEq, Nat.reduceEqDiff, reduceIte, implies_true, forall_const, Nat.reduceMul, Nat.reduceSub, Nat.reduceAdd, Nat.reduceLeDiff, *]) | (simp only [zgoO, zgoG, zO_nil, zthen_normal, zgoC]) | (with_reducible apply And.intro) | (with_reducible intro _))
    refine make_z HM.out HL.out fun H' g' r e T' q1 q2 q3 => ?_
    have fin := FF.out H' g' r e mk T' (.new q1) q2 q3
    clear q1 q2 q3
    repeat' (first | (simp only [zmPack, zxPack, ne_eq, zfree, owners, Nat.reduceLT, List.contains_cons, List.contains_nil, Nat.reduceBEq, BEq.rfl, chunk, setAt, List.lookup_cons, List.lookup_nil, reduceCtorEq, Nat.reduceEqDiff, reduceIte, implies_true, forall_const, Nat.reduceMul, Nat.reduceSub, Nat.reduceAdd, Nat.reduceLeDiff, *]) | (simp only [zgoO, zgoG, zO_nil, zthen_normal, zgoC]) | (with_reducible apply And.intro) | (with_reducible intro _))
  · by_cases h2 : d = 2
    · subst h2
      repeat' (first | (simp only [zmPack, zxPack, ne_eq, zfree, owners, Nat.reduceLT, List.contains_cons, List.contains_nil, Nat.reduceBEq, BEq.rfl, chunk, setAt, List.lookup_cons, List.lookup_nil, reduceCtorEq, Nat.reduceEqDiff, reduceIte, implies_true, forall_const, Nat.reduceMul, Nat.reduceSub, Nat.reduceAdd, Nat.reduceLeDiff, *]) | (simp only [zgoO, zgoG, zO_nil, zthen_normal, zgoC]) | (with_reducible apply And.intro) | (with_reducible intro _))
      refine set_z HM.out HR.out HL.out fun H' q2 q3 => ?_
      have fin := FF.out H' g 0 _ mk _ .set q2 q3
      obtain ⟨e, he⟩ : ∃ e, e = (setT kd mk T a b n).1 := ⟨_, rfl⟩
      rw [← he] at fin ⊢
      clear q2 q3 he
      repeat' (first | (simp only [zmPack, zxPack, ne_eq, zfree, owners, Nat.reduceLT, List.contains_cons, List.contains_nil, Nat.reduceBEq, BEq.rfl, chunk, setAt, List.lookup_cons, List.lookup_nil, reduceCtorEq, Nat.reduceEqDiff, reduceIte, implies_true, forall_const, Nat.reduceMul, Nat.reduceSub, Nat.reduceAdd, Nat.reduceLeDiff, *]) | (simp only [zgoO, zgoG, zO_nil, zthen_normal, zgoC]) | (with_reducible apply And.intro) | (with_reducible intro _))
    · by_cases h4 : d = 4
      · subst h4
        repeat' (first | (simp only [zmPack, zxPack, ne_eq, zfree, owners, Nat.reduceLT, List.contains_cons, List.contains_nil, Nat.reduceBEq, BEq.rfl, chunk, setAt, List.lookup_cons, List.lookup_nil, reduceCtorEq, Nat.reduceEqDiff, reduceIte, implies_true, forall_const, Nat.reduceMul, Nat.reduceSub, Nat.reduceAdd, Nat.reduceLeDiff, *]) | (simp only [zgoO, zgoG, zO_nil, zthen_normal, zgoC]) | (with_reducible apply And.intro) | (with_reducible intro _))
        refine hold_z HM.out HR.out (HL.out _) ?_
        have hk : ((holdT kd mk T a true).2).map keyT = T.map keyT := hold_key
        have fin := FF.out _ g 0 _ mk _ .hold (HM.out.upd hk) HM.out.frT
        obtain ⟨e, he⟩ : ∃ e, e = (holdT kd mk T a true).1 := ⟨_, rfl⟩
        rw [← he] at fin ⊢
        obtain ⟨W, hW⟩ : ∃ W, W = thH (H ++ [.box [Z64 4, Z64 a, Z64 b, Z64 n]]) t g (holdT kd mk T a true).2 := ⟨_, rfl⟩
        rw [← hW] at fin ⊢
        clear he hk hW
        repeat' (first | (simp only [zmPack, zxPack, ne_eq, zfree, owners, Nat.reduceLT, List.contains_cons, List.contains_nil, Nat.reduceBEq, BEq.rfl, chunk, setAt, List.lookup_cons, List.lookup_nil, reduceCtorEq, Nat.reduceEqDiff, reduceIte, implies_true, forall_const, Nat.reduceMul, Nat.reduceSub, Nat.reduceAdd, Nat.reduceLeDiff, *]) | (simp only [zgoO, zgoG, zO_nil, zthen_normal, zgoC]) | (with_reducible apply And.intro) | (with_reducible intro _))
      · by_cases h3 : d = 3
        · subst h3
          repeat' (first | (simp only [zmPack, zxPack, ne_eq, zfree, owners, Nat.reduceLT, List.contains_cons, List.contains_nil, Nat.reduceBEq, BEq.rfl, chunk, setAt, List.lookup_cons, List.lookup_nil, reduceCtorEq, Nat.reduceEqDiff, reduceIte, implies_true, forall_const, Nat.reduceMul, Nat.reduceSub, Nat.reduceAdd, Nat.reduceLeDiff, *]) | (simp only [zgoO, zgoG, zO_nil, zthen_normal, zgoC]) | (with_reducible apply And.intro) | (with_reducible intro _))
          refine hold_z HM.out HR.out (HL.out _) ?_
          have hk : ((holdT kd mk T a false).2).map keyT = T.map keyT := hold_key
          have fin := FF.out _ g 0 _ mk _ .drop (HM.out.upd hk) HM.out.frT
          obtain ⟨e, he⟩ : ∃ e, e = (holdT kd mk T a false).1 := ⟨_, rfl⟩
          rw [← he] at fin ⊢
          obtain ⟨W, hW⟩ : ∃ W, W = thH (H ++ [.box [Z64 3, Z64 a, Z64 b, Z64 n]]) t g (holdT kd mk T a false).2 := ⟨_, rfl⟩
          rw [← hW] at fin ⊢
          clear he hk hW
          repeat' (first | (simp only [zmPack, zxPack, ne_eq, zfree, owners, Nat.reduceLT, List.contains_cons, List.contains_nil, Nat.reduceBEq, BEq.rfl, chunk, setAt, List.lookup_cons, List.lookup_nil, reduceCtorEq, Nat.reduceEqDiff, reduceIte, implies_true, forall_const, Nat.reduceMul, Nat.reduceSub, Nat.reduceAdd, Nat.reduceLeDiff, *]) | (simp only [zgoO, zgoG, zO_nil, zthen_normal, zgoC]) | (with_reducible apply And.intro) | (with_reducible intro _))
        · by_cases h6 : d = 6
          · subst h6
            repeat' (first | (simp only [zmPack, zxPack, ne_eq, zfree, owners, Nat.reduceLT, List.contains_cons, List.contains_nil, Nat.reduceBEq, BEq.rfl, chunk, setAt, List.lookup_cons, List.lookup_nil, reduceCtorEq, Nat.reduceEqDiff, reduceIte, implies_true, forall_const, Nat.reduceMul, Nat.reduceSub, Nat.reduceAdd, Nat.reduceLeDiff, *]) | (simp only [zgoO, zgoG, zO_nil, zthen_normal, zgoC]) | (with_reducible apply And.intro) | (with_reducible intro _))
            refine begin_z HM.out HR.out (HL.out _) (HL.out _) (fun hm => ?_) (fun hm => ?_)
            · have fin := FF.out _ g 0 8 mk T (.beginNo hm) HM.out FrB.refl
              repeat' (first | (simp only [zmPack, zxPack, ne_eq, zfree, owners, Nat.reduceLT, List.contains_cons, List.contains_nil, Nat.reduceBEq, BEq.rfl, chunk, setAt, List.lookup_cons, List.lookup_nil, reduceCtorEq, Nat.reduceEqDiff, reduceIte, implies_true, forall_const, Nat.reduceMul, Nat.reduceSub, Nat.reduceAdd, Nat.reduceLeDiff, *]) | (simp only [zgoO, zgoG, zO_nil, zthen_normal, zgoC]) | (with_reducible apply And.intro) | (with_reducible intro _))
            · have hM2 := (HM.out.flag true).upd (T' := begT T) shades_key
              have fin := FF.out _ g _ 0 true _ (.begn hm) hM2 (FrB.own.trans (HM.out.flag true).frT)
              obtain ⟨q, hq⟩ : ∃ q, q = (rising (heldB T)).length := ⟨_, rfl⟩
              rw [← hq] at fin ⊢
              obtain ⟨W, hW⟩ : ∃ W, W = thH (pH (H ++ [.box [Z64 6, Z64 a, Z64 b, Z64 n]]) p t g kd true T.length) t g (begT T) := ⟨_, rfl⟩
              rw [← hW] at fin ⊢
              clear hM2 hq hW
              repeat' (first | (simp only [zmPack, zxPack, ne_eq, zfree, owners, Nat.reduceLT, List.contains_cons, List.contains_nil, Nat.reduceBEq, BEq.rfl, chunk, setAt, List.lookup_cons, List.lookup_nil, reduceCtorEq, Nat.reduceEqDiff, reduceIte, implies_true, forall_const, Nat.reduceMul, Nat.reduceSub, Nat.reduceAdd, Nat.reduceLeDiff, *]) | (simp only [zgoO, zgoG, zO_nil, zthen_normal, zgoC]) | (with_reducible apply And.intro) | (with_reducible intro _))
          · by_cases h5 : d = 5
            · subst h5
              repeat' (first | (simp only [zmPack, zxPack, ne_eq, zfree, owners, Nat.reduceLT, List.contains_cons, List.contains_nil, Nat.reduceBEq, BEq.rfl, chunk, setAt, List.lookup_cons, List.lookup_nil, reduceCtorEq, Nat.reduceEqDiff, reduceIte, implies_true, forall_const, Nat.reduceMul, Nat.reduceSub, Nat.reduceAdd, Nat.reduceLeDiff, *]) | (simp only [zgoO, zgoG, zO_nil, zthen_normal, zgoC]) | (with_reducible apply And.intro) | (with_reducible intro _))
              refine steps_z HM.out HR.out (HL.out _) (fun hm => ?_) (fun hm hn => ?_) (fun m T1 hm h0 hS q1 q2 => ?_)
              · have fin := FF.out _ g 0 8 mk T (.stepNo hm) HM.out FrB.refl
                repeat' (first | (simp only [zmPack, zxPack, ne_eq, zfree, owners, Nat.reduceLT, List.contains_cons, List.contains_nil, Nat.reduceBEq, BEq.rfl, chunk, setAt, List.lookup_cons, List.lookup_nil, reduceCtorEq, Nat.reduceEqDiff, reduceIte, implies_true, forall_const, Nat.reduceMul, Nat.reduceSub, Nat.reduceAdd, Nat.reduceLeDiff, *]) | (simp only [zgoO, zgoG, zO_nil, zthen_normal, zgoC]) | (with_reducible apply And.intro) | (with_reducible intro _))
              · have fin := FF.out _ g 0 1 mk T (.stepArg hm hn) HM.out FrB.refl
                clear hn
                repeat' (first | (simp only [zmPack, zxPack, ne_eq, zfree, owners, Nat.reduceLT, List.contains_cons, List.contains_nil, Nat.reduceBEq, BEq.rfl, chunk, setAt, List.lookup_cons, List.lookup_nil, reduceCtorEq, Nat.reduceEqDiff, reduceIte, implies_true, forall_const, Nat.reduceMul, Nat.reduceSub, Nat.reduceAdd, Nat.reduceLeDiff, *]) | (simp only [zgoO, zgoG, zO_nil, zthen_normal, zgoC]) | (with_reducible apply And.intro) | (with_reducible intro _))
              · have fin := FF.out _ g m 0 mk T1 (.step hm h0 hS q1 q2) (HM.out.upd hS.key) HM.out.frT
                obtain ⟨W, hW⟩ : ∃ W, W = thH (H ++ [.box [Z64 5, Z64 a, Z64 b, Z64 n]]) t g T1 := ⟨_, rfl⟩
                rw [← hW] at fin ⊢
                clear hW h0 q1 q2 hS
                repeat' (first | (simp only [zmPack, zxPack, ne_eq, zfree, owners, Nat.reduceLT, List.contains_cons, List.contains_nil, Nat.reduceBEq, BEq.rfl, chunk, setAt, List.lookup_cons, List.lookup_nil, reduceCtorEq, Nat.reduceEqDiff, reduceIte, implies_true, forall_const, Nat.reduceMul, Nat.reduceSub, Nat.reduceAdd, Nat.reduceLeDiff, *]) | (simp only [zgoO, zgoG, zO_nil, zthen_normal, zgoC]) | (with_reducible apply And.intro) | (with_reducible intro _))
            · by_cases h7 : d = 7
              · subst h7
                repeat' (first | (simp only [zmPack, zxPack, ne_eq, zfree, owners, Nat.reduceLT, List.contains_cons, List.contains_nil, Nat.reduceBEq, BEq.rfl, chunk, setAt, List.lookup_cons, List.lookup_nil, reduceCtorEq, Nat.reduceEqDiff, reduceIte, implies_true, forall_const, Nat.reduceMul, Nat.reduceSub, Nat.reduceAdd, Nat.reduceLeDiff, *]) | (simp only [zgoO, zgoG, zO_nil, zthen_normal, zgoC]) | (with_reducible apply And.intro) | (with_reducible intro _))
                refine end_z HM.out HR.out (HL.out _) (HL.out _) (fun hm => ?_) (fun m T1 hm hS hno => ?_)
                · have fin := FF.out _ g 0 8 mk T (.endNo hm) HM.out FrB.refl
                  repeat' (first | (simp only [zmPack, zxPack, ne_eq, zfree, owners, Nat.reduceLT, List.contains_cons, List.contains_nil, Nat.reduceBEq, BEq.rfl, chunk, setAt, List.lookup_cons, List.lookup_nil, reduceCtorEq, Nat.reduceEqDiff, reduceIte, implies_true, forall_const, Nat.reduceMul, Nat.reduceSub, Nat.reduceAdd, Nat.reduceLeDiff, *]) | (simp only [zgoO, zgoG, zO_nil, zthen_normal, zgoC]) | (with_reducible apply And.intro) | (with_reducible intro _))
                · have hM1 := HM.out.upd hS.key
                  have hM2 := (hM1.endTo T1.length).flag false
                  rw [thH_thH] at hM2
                  have e1 : endTo T1 T1.length = T1.map endX := by unfold endTo; rw [List.take_length, List.drop_length, List.append_nil]
                  rw [e1] at hM2
                  have e2 : (T1.map endX).length = T.length := by rw [List.length_map]; exact key_len hS.key
                  rw [e2] at hM2
                  have fin := FF.out _ g _ 0 false _ (.done hm hS hno) hM2 (HM.out.frT.trans FrB.own)
                  obtain ⟨q, hq⟩ : ∃ q, q = whiteN T1 := ⟨_, rfl⟩
                  rw [← hq] at fin ⊢
                  obtain ⟨W, hW⟩ : ∃ W, W = pH (thH (H ++ [.box [Z64 7, Z64 a, Z64 b, Z64 n]]) t g (T1.map endX)) p t g kd false T.length := ⟨_, rfl⟩
                  rw [← hW] at fin ⊢
                  clear hM1 hM2 e1 e2 hq hW hS hno
                  repeat' (first | (simp only [zmPack, zxPack, ne_eq, zfree, owners, Nat.reduceLT, List.contains_cons, List.contains_nil, Nat.reduceBEq, BEq.rfl, chunk, setAt, List.lookup_cons, List.lookup_nil, reduceCtorEq, Nat.reduceEqDiff, reduceIte, implies_true, forall_const, Nat.reduceMul, Nat.reduceSub, Nat.reduceAdd, Nat.reduceLeDiff, *]) | (simp only [zgoO, zgoG, zO_nil, zthen_normal, zgoC]) | (with_reducible apply And.intro) | (with_reducible intro _))
              · have fin := FF.out _ g 0 7 mk T (.other (by omega)) HM.out FrB.refl
                repeat' (first | (simp only [zmPack, zxPack, ne_eq, zfree, owners, Nat.reduceLT, List.contains_cons, List.contains_nil, Nat.reduceBEq, BEq.rfl, chunk, setAt, List.lookup_cons, List.lookup_nil, reduceCtorEq, Nat.reduceEqDiff, reduceIte, implies_true, forall_const, Nat.reduceMul, Nat.reduceSub, Nat.reduceAdd, Nat.reduceLeDiff, *]) | (simp only [zgoO, zgoG, zO_nil, zthen_normal, zgoC]) | (with_reducible apply And.intro) | (with_reducible intro _))
end Go.Proofs.Ytpeagenjmmkohaa

namespace Go.Proofs.Ytpeagenjmmkohaa
open Go Go.RowKit
set_option linter.unusedVariables false
set_option linter.unusedSimpArgs false
section
variable {c c' : Nat → Int} {e e' : Nat → Nat → Prop} {r r' : Nat → Prop} {kd : Int} {mk : Bool}
inductive Nd (e : Nat → Nat → Prop) (r : Nat → Prop) : Nat → Prop
  | root {n : Nat} : r n → Nd e r n
  | edge {n k : Nat} : Nd e r n → e n k → Nd e r k
/-- Reached from a grey one by white ones. -/
inductive Wr (c : Nat → Int) (e : Nat → Nat → Prop) : Nat → Prop
  | grey {n : Nat} : c n = 1 → Wr c e n
  | edge {n k : Nat} : Wr c e n → c n = 0 ∨ c n = 1 → e n k → Wr c e k
structure Good (kd : Int) (mk : Bool) (c : Nat → Int) (e : Nat → Nat → Prop) (r : Nat → Prop) : Prop where
  kind : kd = 1 ∨ kd = 2
  rngc : ∀ n, c n = 0 ∨ c n = 1 ∨ c n = 2 ∨ c n = 3
  keep : ∀ n, Nd e r n → c n ≠ 3
  idle : mk = false → ∀ n, c n = 0 ∨ c n = 3
  d1 : mk = true → kd = 1 → ∀ n k, c n = 2 → e n k → c k ≠ 0
  d2 : mk = true → kd = 1 → ∀ n, r n → c n ≠ 0
  y1 : mk = true → kd = 2 → ∀ n, Nd e r n → c n = 0 → Wr c e n
/-- Those of U were not needed when marking began. -/
structure UIn (U : Nat → Prop) (c : Nat → Int) (e : Nat → Nat → Prop) (r : Nat → Prop) : Prop where
  u1 : ∀ n, r n → ¬ U n
  u2 : ∀ n k, ¬ U n → e n k → ¬ U k
  u3 : ∀ n, U n → c n = 0 ∨ c n = 3
theorem UIn.nd {U : Nat → Prop} (h : UIn U c e r) {n : Nat} (hn : Nd e r n) : ¬ U n := by
  induction hn with
  | root hr => exact h.u1 _ hr
  | edge _ he ih => exact h.u2 _ _ ih he
theorem Nd.sub (hr : ∀ n, r' n → Nd e r n) (he : ∀ n k, e' n k → e n k ∨ Nd e r k) {n : Nat} (h : Nd e' r' n) : Nd e r n := by
  induction h with
  | root h => exact hr _ h
  | edge _ h ih => exact (he _ _ h).elim (fun q => .edge ih q) id
section
variable (hS : ∀ k, c' k = c k ∨ (c k = 0 ∧ c' k = 1 ∧ Nd e r k)) (hm : mk = false → ∀ k, c' k = c k) (he : ∀ n k, e' n k → e n k ∨ Nd e r k) (hr : ∀ n, r' n → Nd e r n)
include hS he hr
theorem UIn.mut {U : Nat → Prop} (h : UIn U c e r) : UIn U c' e' r' := by
  refine ⟨fun n hn => h.nd (hr n hn), fun n k hn hk => (he n k hk).elim (fun q => h.u2 n k hn q) (fun q => h.nd q), fun n hn => ?_⟩
  rcases hS n with q | ⟨_, _, q⟩
  · rw [q]; exact h.u3 n hn
  · exact absurd hn (h.nd q)
include hm
theorem Good.mut (h : Good kd mk c e r) (he1 : mk = true → kd = 1 → ∀ n k, e' n k → e n k ∨ c' k ≠ 0) (he2 : mk = true → kd = 2 → ∀ n k, e n k → e' n k ∨ c' k ≠ 0) (hr1 : mk = true → kd = 1 → ∀ n, r' n → r n ∨ c' n ≠ 0) : Good kd mk c' e' r' := by
  have hsub : ∀ n, Nd e' r' n → Nd e r n := fun n => Nd.sub hr he
  have h0 : ∀ k, c' k = 0 → c k = 0 := fun k hk => by rcases hS k with q | q <;> omega
  refine ⟨h.kind, fun n => ?_, fun n hn => ?_, fun hmk n => ?_, fun hmk hk n k hn hnk => ?_, fun hmk hk n hn => ?_, fun hmk hk n hn hc => ?_⟩
  · rcases hS n with q | q
    · rw [q]; exact h.rngc n
    · omega
  · have := h.keep n (hsub n hn)
    rcases hS n with q | q <;> omega
  · rw [hm hmk n]; exact h.idle hmk n
  · rcases he1 hmk hk n k hnk with q | q
    · have hn2 : c n = 2 := by rcases hS n with q | q <;> omega
      exact fun hz => h.d1 hmk hk n k hn2 q (h0 k hz)
    · exact q
  · rcases hr1 hmk hk n hn with q | q
    · exact fun hz => h.d2 hmk hk n q (h0 n hz)
    · exact q
  · have key : ∀ n, Wr c e n → (c' n = 0 ∨ c' n = 1) → Wr c' e' n := by
      intro n hw
      induction hw with
      | @grey n hg => intro _; exact .grey (by rcases hS n with q | q <;> omega)
      | @edge n k _ hcn hnk ih =>
        intro hck
        have hcn' : c' n = 0 ∨ c' n = 1 := by rcases hS n with q | q <;> omega
        rcases he2 hmk hk n k hnk with q | q
        · exact .edge (ih hcn') hcn' q
        · exact .grey (by omega)
    exact key n (h.y1 hmk hk n (hsub n hn) (h0 n hc)) (.inl hc)
end
section
variable {l : Nat} (hl : ∀ k, ¬ e l k ∧ ¬ e k l) (hc : ∀ k, k ≠ l → c' k = c k) (hcl : c' l = if mk = true then 2 else 0) (he : ∀ n k, e' n k ↔ e n k) (hr : ∀ n, r' n ↔ r n ∨ n = l)
include hl he hr
theorem Nd.new {n : Nat} (h : Nd e' r' n) : Nd e r n ∨ n = l := by
  induction h with
  | root h => exact ((hr _).1 h).imp .root id
  | @edge n k _ h ih =>
    rcases ih with ih | rfl
    · exact .inl (.edge ih ((he _ _).1 h))
    · exact absurd ((he _ _).1 h) (hl k).1
include hc hcl
theorem Good.new (h : Good kd mk c e r) : Good kd mk c' e' r' := by
  refine ⟨h.kind, fun n => ?_, fun n hn => ?_, fun hmk n => ?_, fun hmk hk n k hn hnk => ?_, fun hmk hk n hn => ?_, fun hmk hk n hn hcn => ?_⟩
  · by_cases hn : n = l
    · subst hn; rw [hcl]; split <;> simp
    · rw [hc n hn]; exact h.rngc n
  · by_cases hnl : n = l
    · subst hnl; rw [hcl]; split <;> simp
    · rw [hc n hnl]
      rcases Nd.new hl he hr hn with q | q
      · exact h.keep n q
      · exact absurd q hnl
  · by_cases hn : n = l
    · subst hn; rw [hcl, hmk]; simp
    · rw [hc n hn]; exact h.idle hmk n
  · have hnk := (he n k).1 hnk
    have h1 : n ≠ l := fun q => (hl k).1 (q ▸ hnk)
    have h2 : k ≠ l := fun q => (hl n).2 (q ▸ hnk)
    rw [hc n h1] at hn
    rw [hc k h2]; exact h.d1 hmk hk n k hn hnk
  · by_cases hnl : n = l
    · subst hnl; rw [hcl, hmk]; simp
    · rw [hc n hnl]
      rcases (hr n).1 hn with q | q
      · exact h.d2 hmk hk n q
      · exact absurd q hnl
  · have hnl : n ≠ l := fun q => by rw [q, hcl, hmk] at hcn; simp at hcn
    rw [hc n hnl] at hcn
    rcases Nd.new hl he hr hn with q | q
    · have key : ∀ n, Wr c e n → n ≠ l → Wr c' e' n := by
        intro n hw
        induction hw with
        | @grey n hg => intro q; exact .grey (by rw [hc n q]; exact hg)
        | @edge n k _ h1 h2 ih =>
          intro q
          have h3 : n ≠ l := fun q => (hl k).1 (q ▸ h2)
          exact .edge (ih h3) (by rw [hc n h3]; exact h1) ((he n k).2 h2)
      exact key n (h.y1 hmk hk n q hcn) hnl
    · exact absurd q hnl
omit hl hcl in
theorem UIn.new {U : Nat → Prop} (h : UIn U c e r) (hU : ¬ U l) : UIn U c' e' r' := by
  refine ⟨fun n hn => ?_, fun n k hn hnk => h.u2 n k hn ((he n k).1 hnk), fun n hn => ?_⟩
  · rcases (hr n).1 hn with q | rfl
    · exact h.u1 n q
    · exact hU
  · rw [hc n fun q => hU (q ▸ hn)]; exact h.u3 n hn
end
section
variable {i : Nat} (hi : c i = 1) (hci : c' i = 2) (hc : ∀ k, k ≠ i → c' k = c k ∨ (c k = 0 ∧ c' k = 1 ∧ e i k)) (hsh : ∀ k, k ≠ i → e i k → c k = 0 → c' k = 1)
include hi hci hc hsh
theorem Good.step (h : Good kd true c e r) : Good kd true c' e r := by
  have h0 : ∀ k, c' k = 0 → c k = 0 ∧ k ≠ i := fun k hk => by
    have hki : k ≠ i := fun q => by rw [q, hci] at hk; simp at hk
    rcases hc k hki with q | q <;> exact ⟨by omega, hki⟩
  refine ⟨h.kind, fun n => ?_, fun n hn => ?_, fun hmk n => (by cases hmk), fun hmk hk n k hn hnk hz => ?_, fun hmk hk n hn hz => ?_, fun hmk hk n hn hcn => ?_⟩
  · by_cases hni : n = i
    · subst hni; omega
    · have := h.rngc n
      rcases hc n hni with q | q <;> omega
  · by_cases hni : n = i
    · subst hni; omega
    · have := h.keep n hn
      rcases hc n hni with q | q <;> omega
  · obtain ⟨hz0, hki⟩ := h0 k hz
    by_cases hni : n = i
    · subst hni
      have := hsh k hki hnk hz0
      omega
    · have hn2 : c n = 2 := by rcases hc n hni with q | q <;> omega
      exact h.d1 hmk hk n k hn2 hnk hz0
  · exact h.d2 hmk hk n hn (h0 n hz).1
  · have key : ∀ n, Wr c e n → (c' n = 0 ∨ c' n = 1) → Wr c' e n := by
      intro n hw
      induction hw with
      | @grey n hg =>
        intro q
        have hni : n ≠ i := fun q2 => by rw [q2, hci] at q; omega
        exact .grey (by rcases hc n hni with q | q <;> omega)
      | @edge n k _ hcn hnk ih =>
        intro q
        have hki : k ≠ i := fun q2 => by rw [q2, hci] at q; omega
        by_cases hni : n = i
        · subst hni
          by_cases hk0 : c k = 0
          · exact .grey (hsh k hki hnk hk0)
          · exact .grey (by rcases hc k hki with q | q <;> omega)
        · have hcn' : c' n = 0 ∨ c' n = 1 := by rcases hc n hni with q | q <;> omega
          exact .edge (ih hcn') hcn' hnk
    exact key n (h.y1 hmk hk n hn (h0 n hcn).1) (.inl hcn)
omit hci hsh in
theorem UIn.step {U : Nat → Prop} (h : UIn U c e r) : UIn U c' e r := by
  have hUi : ¬ U i := fun q => by have := h.u3 i q; omega
  refine ⟨h.u1, h.u2, fun n hn => ?_⟩
  have hni : n ≠ i := fun q => hUi (q ▸ hn)
  rcases hc n hni with q | ⟨_, _, q⟩
  · rw [q]; exact h.u3 n hn
  · exact absurd hn (h.u2 i n hUi q)
end
section
variable (hc : ∀ k, c' k = c k ∨ (c k = 0 ∧ c' k = 1 ∧ r k)) (hsh : ∀ k, r k → c k = 0 → c' k = 1)
include hc hsh
theorem Good.begin (h : Good kd false c e r) : Good kd true c' e r := by
  refine ⟨h.kind, fun n => ?_, fun n hn => ?_, fun hmk n => (by cases hmk), fun hmk hk n k hn hnk => ?_, fun hmk hk n hn hz => ?_, fun hmk hk n hn hcn => ?_⟩
  · have := h.rngc n
    rcases hc n with q | q <;> omega
  · have := h.keep n hn
    rcases hc n with q | q <;> omega
  · have := h.idle rfl n
    rcases hc n with q | q <;> omega
  · have h1 := h.keep n (.root hn)
    have h2 := h.idle rfl n
    have := hsh n hn (by omega)
    omega
  · clear hcn
    induction hn with
    | @root n hr =>
      have h1 := h.keep n (.root hr)
      have h2 := h.idle rfl n
      exact .grey (hsh n hr (by omega))
    | @edge n k hn hnk ih =>
      have h1 := h.keep n hn
      have h2 := h.idle rfl n
      exact .edge ih (by rcases hc n with q | q <;> omega) hnk
omit hsh in
theorem UIn.begin {U : Nat → Prop} (h : Good kd false c e r) (hU : ∀ n, U n → ¬ Nd e r n) (hU2 : ∀ n k, ¬ U n → e n k → Nd e r n) : UIn U c' e r := by
  refine ⟨fun n hn q => hU n q (.root hn), fun n k hn hnk q => hU k q (.edge (hU2 n k hn hnk) hnk), fun n hn => ?_⟩
  rcases hc n with q | ⟨_, _, q⟩
  · rw [q]; exact h.idle rfl n
  · exact absurd (.root q) (hU n hn)
end
section
variable (hng : ∀ n, c n ≠ 1)
include hng
theorem Wr.none {n : Nat} (h : Wr c e n) : False := by
  induction h with
  | grey h => exact hng _ h
  | edge _ _ _ ih => exact ih
theorem Good.black (h : Good kd true c e r) {n : Nat} (hn : Nd e r n) : c n = 2 := by
  rcases h.kind with hk | hk
  · induction hn with
    | @root n hr =>
      have h1 := h.keep n (.root hr); have h2 := h.d2 rfl hk n hr; have h3 := h.rngc n; have h4 := hng n; omega
    | @edge n k hn hnk ih =>
      have h1 := h.keep k (.edge hn hnk); have h2 := h.d1 rfl hk n k ih hnk; have h3 := h.rngc k; have h4 := hng k; omega
  · have h1 := h.keep n hn; have h3 := h.rngc n; have h4 := hng n
    have h2 : c n ≠ 0 := fun hz => Wr.none hng (h.y1 rfl hk n hn hz)
    omega
theorem Good.done (h : Good kd true c e r) (hc : ∀ n, c' n = if c n = 0 then 3 else if c n = 2 then 0 else c n) (he : ∀ n k, e' n k → e n k) (hr : ∀ n, r' n → r n) : Good kd false c' e' r' := by
  have hsub : ∀ n, Nd e' r' n → Nd e r n := fun n => Nd.sub (fun n hn => .root (hr n hn)) (fun n k hk => .inl (he n k hk))
  have hid : ∀ n, c' n = 0 ∨ c' n = 3 := fun n => by
    have h1 := h.rngc n; have h2 := hng n; rw [hc n]
    split
    · exact .inr rfl
    · split
      · exact .inl rfl
      · right; omega
  exact ⟨h.kind, fun n => by rcases hid n with q | q <;> omega, fun n hn => by rw [hc n, h.black hng (hsub n hn)]; simp, fun _ n => hid n, fun q => (by cases q), fun q => (by cases q), fun q => (by cases q)⟩
end
end
end Go.Proofs.Ytpeagenjmmkohaa

namespace Go.Proofs.Ytpeagenjmmkohaa
open Go Go.RowKit
set_option linter.unusedVariables false
set_option linter.unusedSimpArgs false
variable {kd : Int} {mk : Bool} {T T' : List TB}
def cF (T : List TB) (n : Nat) : Int := ((T[n]?).map fun x => x.2.2.1).getD 3
def eF (T : List TB) (n k : Nat) : Prop := ∃ x, T[n]? = some x ∧ (k : Int) ∈ x.2.1
def rF (T : List TB) (n : Nat) : Prop := ∃ x, T[n]? = some x ∧ x.2.2.2 = true
theorem cF_at {n : Nat} {x : TB} (h : T[n]? = some x) : cF T n = x.2.2.1 := by unfold cF; rw [h]; rfl
theorem cF_no {n : Nat} (h : T.length ≤ n) : cF T n = 3 := by unfold cF; rw [List.getElem?_eq_none h]; rfl
theorem eF_key (hk : T'.map keyT = T.map keyT) {n k : Nat} : eF T' n k ↔ eF T n k := by
  have h : ∀ {A B : List TB}, A.map keyT = B.map keyT → eF A n k → eF B n k := fun {A B} h ⟨x, hx, hm⟩ => by
    have hl := key_len h
    have hn : n < A.length := (List.getElem?_eq_some_iff.1 hx).1
    have hy : B[n]? = some (B[n]'(by omega)) := List.getElem?_eq_getElem _
    obtain ⟨_, e2⟩ := sameKey h hy hx
    exact ⟨_, hy, by rw [← e2]; exact hm⟩
  exact ⟨h hk, h hk.symm⟩
theorem rF_held {n : Nat} : rF T n ↔ Sn (heldB T) n := by
  unfold rF Sn heldB
  rw [List.getD_eq_getElem?_getD, List.getElem?_map]
  cases T[n]? with
  | none => simp
  | some x => simp
theorem rF_same (hh : heldB T' = heldB T) {n : Nat} : rF T' n ↔ rF T n := by rw [rF_held, rF_held, hh]
theorem eF_lt (hr : Rng T) {n k : Nat} (h : eF T n k) : n < T.length ∧ k < T.length := by
  obtain ⟨x, hx, hm⟩ := h
  have := hr.rng x (List.mem_of_getElem? hx) _ hm
  exact ⟨(List.getElem?_eq_some_iff.1 hx).1, by omega⟩
theorem rF_lt {n : Nat} (h : rF T n) : n < T.length := by obtain ⟨x, hx, _⟩ := h; exact (List.getElem?_eq_some_iff.1 hx).1
theorem has_mem {n : Nat} {y : Int} : y ∈ (hasOf T).getD n [] ↔ 0 ≤ y ∧ eF T n y.toNat := by
  unfold hasOf eF
  rw [List.getD_eq_getElem?_getD, List.getElem?_map]
  cases T[n]? with
  | none => simp
  | some x =>
    simp only [Option.map_some, Option.getD_some, keepN, List.mem_filter]
    constructor
    · rintro ⟨h1, h2⟩
      have h2 : ¬ y < 0 := by simpa using h2
      exact ⟨by omega, x, rfl, by rw [Int.toNat_of_nonneg (by omega)]; exact h1⟩
    · rintro ⟨h0, z, hz, hm⟩
      injection hz with hz
      subst hz
      rw [Int.toNat_of_nonneg h0] at hm
      exact ⟨hm, by simp; omega⟩
theorem liv_nd {n : Nat} : Liv (hasOf T) [] (rising (heldB T)) n ↔ Nd (eF T) (rF T) n := by
  constructor
  · intro h
    refine h (Nd (eF T) (rF T)) (fun n hn y hy => ?_) (fun p hp => (by cases hp)) (fun x hx => ?_)
    · exact .edge hn (has_mem.1 hy).2
    · exact .root (rF_held.2 (mem_rising.1 hx).2)
  · intro h
    induction h with
    | @root n hr =>
      have : ((n : Nat) : Int) ∈ rising (heldB T) := mem_rising.2 ⟨by omega, by rw [Int.toNat_natCast]; exact rF_held.1 hr⟩
      have := Liv.base (has := hasOf T) (ps := []) this
      rwa [Int.toNat_natCast] at this
    | @edge n k _ he ih =>
      have := Liv.cl (hasOf T) [] (rising (heldB T)) n ih (k : Int) (has_mem.2 ⟨by omega, by rw [Int.toNat_natCast]; exact he⟩)
      rwa [Int.toNat_natCast] at this
theorem nd_lt (hr : Rng T) {n : Nat} (h : Nd (eF T) (rF T) n) : n < T.length := by
  cases h with
  | root h => exact rF_lt h
  | edge _ h => exact (eF_lt hr h).2
theorem need_nd (hr : Rng T) {n : Nat} : Sn (needT T) n ↔ Nd (eF T) (rF T) n := by
  unfold needT
  rw [Sn_liveSb, liv_nd, hasOf_len]
  exact ⟨fun h => h.2, fun h => ⟨nd_lt hr h, h⟩⟩
/-- A state as it should be. -/
def GS (kd : Int) (mk : Bool) (T : List TB) : Prop := Rng T ∧ Good kd mk (cF T) (eF T) (rF T)
theorem cF_set {n k : Nat} {x y : TB} (hx : T[n]? = some x) : cF (T.set n y) k = if k = n then y.2.2.1 else cF T k := by
  have hn := (List.getElem?_eq_some_iff.1 hx).1
  split
  · rename_i e; subst e; exact cF_at (List.getElem?_set_self hn)
  · rename_i e; unfold cF; rw [List.getElem?_set_ne (fun q => e q.symm)]
theorem cF_shade {z : Int} {k : Nat} : cF (shadeT mk T z) k = if mk = true ∧ (k : Int) = z ∧ cF T k = 0 then 1 else cF T k := by
  unfold shadeT
  split
  · rename_i h
    obtain ⟨m, rfl⟩ := Int.eq_ofNat_of_zero_le h.2
    rw [Int.toNat_natCast]
    split
    · rename_i x hx
      split
      · rename_i h0
        rw [cF_set hx]
        split
        · rename_i e; subst e
          rw [if_pos ⟨h.1, rfl, by rw [cF_at hx]; exact h0⟩]
        · rename_i e
          rw [if_neg fun q => e (by have := q.2.1; omega)]
      · rename_i h0
        rw [if_neg]
        rintro ⟨_, q1, q2⟩
        have : k = m := by omega
        subst this
        rw [cF_at hx] at q2; exact h0 q2
    · rename_i hx
      rw [if_neg]
      rintro ⟨_, q1, q2⟩
      have : k = m := by omega
      subst this
      unfold cF at q2; rw [hx] at q2; simp at q2
  · rename_i h
    rw [if_neg]
    rintro ⟨q0, q1, q2⟩
    exact h ⟨q0, by omega⟩
theorem cF_shades {l : List Int} {k : Nat} : ∀ {T : List TB}, cF (shades mk T l) k = if mk = true ∧ (k : Int) ∈ l ∧ cF T k = 0 then 1 else cF T k := by
  induction l with
  | nil => intro T; simp [shades]
  | cons a l ih =>
    intro T
    have : shades mk T (a :: l) = shades mk (shadeT mk T a) l := rfl
    rw [this, ih, cF_shade]
    by_cases h1 : mk = true <;> by_cases h2 : (k : Int) = a <;> by_cases h3 : cF T k = 0 <;> by_cases h4 : (k : Int) ∈ l <;> simp [h1, h2, h3, h4]
    all_goals (try simp_all)
theorem Rng.set {a : Nat} {x : TB} (h : Rng T) (hx : T[a]? = some x) {pl : List Int} {y : Int × Bool} {o : Option Nat} (hl : pl.length ≤ 10) (hp : ∀ z ∈ pl, z < (T.length : Int)) : Rng (T.set a (o, pl, y)) := by
  refine ⟨by rw [List.length_set]; exact h.len, fun z hz => ?_, fun z hz w hw => ?_⟩
  · rcases List.mem_or_eq_of_mem_set hz with hz | rfl
    · exact h.sm z hz
    · exact hl
  · rw [List.length_set]
    rcases List.mem_or_eq_of_mem_set hz with hz | rfl
    · exact h.rng z hz w hw
    · exact hp w hw
theorem eF_set {a n k : Nat} {x y : TB} (hx : T[a]? = some x) : eF (T.set a y) n k ↔ if n = a then (k : Int) ∈ y.2.1 else eF T n k := by
  have ha := (List.getElem?_eq_some_iff.1 hx).1
  unfold eF
  split
  · rename_i e; subst e
    rw [List.getElem?_set_self ha]
    exact ⟨fun ⟨z, hz, hm⟩ => by injection hz with hz; subst hz; exact hm, fun h => ⟨y, rfl, h⟩⟩
  · rename_i e
    rw [List.getElem?_set_ne (fun q => e q.symm)]
theorem rF_set {a n : Nat} {x y : TB} (hx : T[a]? = some x) : rF (T.set a y) n ↔ if n = a then y.2.2.2 = true else rF T n := by
  have ha := (List.getElem?_eq_some_iff.1 hx).1
  unfold rF
  split
  · rename_i e; subst e
    rw [List.getElem?_set_self ha]
    exact ⟨fun ⟨z, hz, hm⟩ => by injection hz with hz; subst hz; exact hm, fun h => ⟨y, rfl, h⟩⟩
  · rename_i e
    rw [List.getElem?_set_ne (fun q => e q.symm)]
theorem rF_key_shade {z : Int} {n : Nat} : rF (shadeT mk T z) n ↔ rF T n := rF_same shade_held
theorem eF_key_shade {z : Int} {n k : Nat} : eF (shadeT mk T z) n k ↔ eF T n k := eF_key shade_key
/-- What 'mut' wants to know: of GS and of U. -/
structure Mut (kd : Int) (mk : Bool) (T T' : List TB) : Prop where
  rng : Rng T'
  hS : ∀ k, cF T' k = cF T k ∨ (cF T k = 0 ∧ cF T' k = 1 ∧ Nd (eF T) (rF T) k)
  hm : mk = false → ∀ k, cF T' k = cF T k
  he : ∀ n k, eF T' n k → eF T n k ∨ Nd (eF T) (rF T) k
  hr : ∀ n, rF T' n → Nd (eF T) (rF T) n
  he1 : mk = true → kd = 1 → ∀ n k, eF T' n k → eF T n k ∨ cF T' k ≠ 0
  he2 : mk = true → kd = 2 → ∀ n k, eF T n k → eF T' n k ∨ cF T' k ≠ 0
  hr1 : mk = true → kd = 1 → ∀ n, rF T' n → rF T n ∨ cF T' n ≠ 0
theorem Mut.same (h : Rng T) : Mut kd mk T T := ⟨h, fun _ => .inl rfl, fun _ _ => rfl, fun _ _ h => .inl h, fun _ h => .root h, fun _ _ _ _ h => .inl h, fun _ _ _ _ h => .inl h, fun _ _ _ h => .inl h⟩
theorem Mut.good (h : Mut kd mk T T') (g : GS kd mk T) : GS kd mk T' := ⟨h.rng, g.2.mut h.hS h.hm h.he h.hr h.he1 h.he2 h.hr1⟩
theorem Mut.un (h : Mut kd mk T T') {U : Nat → Prop} (u : UIn U (cF T) (eF T) (rF T)) : UIn U (cF T') (eF T') (rF T') := u.mut h.hS h.he h.hr
theorem cF_shade0 {z : Int} {k : Nat} (h : mk = true) (hz : (k : Int) = z) : cF (shadeT mk T z) k ≠ 0 := by
  rw [cF_shade]
  split
  · decide
  · rename_i q; exact fun q2 => q ⟨h, hz, q2⟩
theorem named_nd (hr : Rng T) {l : List Int} (h : namedE T l = 0) {z : Int} (hz : z ∈ l) : 0 ≤ z ∧ z < (T.length : Int) ∧ Nd (eF T) (rF T) z.toNat := by
  obtain ⟨h1, h2⟩ := namedE_zero h
  exact ⟨(h1 z hz).1, (h1 z hz).2, (need_nd hr).1 (h2 z hz)⟩
theorem hold_mut (hr : Rng T) (hkd : kd = 1 ∨ kd = 2) {n : Int} {b : Bool} : Mut kd mk T (holdT kd mk T n b).2 := by
  unfold holdT
  split
  · exact Mut.same hr
  · rename_i he
    split
    · exact Mut.same hr
    · simp only
      have he : namedE T [n] = 0 := Decidable.not_not.1 he
      obtain ⟨h0, h1, hnd⟩ := named_nd hr he (z := n) (by simp)
      obtain ⟨m, rfl⟩ := Int.eq_ofNat_of_zero_le h0
      rw [Int.toNat_natCast] at hnd ⊢
      obtain ⟨T1, hT1⟩ : ∃ T1, T1 = (if b = decide (kd = 1) then shadeT mk T (m : Int) else T) := ⟨_, rfl⟩
      rw [← hT1]
      have hk : T1.map keyT = T.map keyT := by rw [hT1]; split; exact shade_key; rfl
      have hh : heldB T1 = heldB T := by rw [hT1]; split; exact shade_held; rfl
      have hml : m < T1.length := by rw [key_len hk]; omega
      have hx : T1[m]? = some T1[m] := List.getElem?_eq_getElem hml
      rw [hx]
      simp only
      have hc : ∀ k, cF (T1.set m (T1[m].1, T1[m].2.1, T1[m].2.2.1, b)) k = cF T1 k := fun k => by
        rw [cF_set hx]; split
        · rename_i e; subst e; exact (cF_at hx).symm
        · rfl
      have hc1 : ∀ k, cF T1 k = if b = decide (kd = 1) ∧ mk = true ∧ k = m ∧ cF T k = 0 then 1 else cF T k := fun k => by
        rw [hT1]
        split
        · rename_i hb
          rw [cF_shade]
          by_cases q : mk = true ∧ (k : Int) = (m : Int) ∧ cF T k = 0
          · rw [if_pos q, if_pos ⟨hb, q.1, by have := q.2.1; omega, q.2.2⟩]
          · rw [if_neg q, if_neg fun q2 => q ⟨q2.2.1, by have := q2.2.2.1; omega, q2.2.2.2⟩]
        · rename_i hb; rw [if_neg fun q => hb q.1]
      have hek : ((T1.set m (T1[m].1, T1[m].2.1, T1[m].2.2.1, b))).map keyT = T.map keyT := (key_set (y := (T1[m].1, T1[m].2.1, T1[m].2.2.1, b)) hx rfl).trans hk
      have hE : ∀ n k, eF (T1.set m (T1[m].1, T1[m].2.1, T1[m].2.2.1, b)) n k ↔ eF T n k := fun n k => eF_key hek
      have hR : ∀ n, rF (T1.set m (T1[m].1, T1[m].2.1, T1[m].2.2.1, b)) n ↔ if n = m then b = true else rF T n := fun n => by
        rw [rF_set hx]
        split
        · exact Iff.rfl
        · exact rF_same hh
      refine ⟨hr.key hek, fun k => ?_, fun hmk k => ?_, fun n k h => .inl ((hE n k).1 h), fun n h => ?_, fun _ _ n k h => .inl ((hE n k).1 h), fun _ _ n k h => .inl ((hE n k).2 h), fun hmk hk1 n h => ?_⟩
      · rw [hc, hc1]
        split
        · rename_i q; right; obtain ⟨_, _, q1, q2⟩ := q; subst q1; exact ⟨q2, rfl, hnd⟩
        · exact .inl rfl
      · rw [hc, hc1, if_neg]
        rintro ⟨_, q, _⟩
        rw [hmk] at q; cases q
      · have := (hR n).1 h
        split at this
        · rename_i q; subst q; exact hnd
        · exact .root this
      · have := (hR n).1 h
        split at this
        · rename_i q; subst q
          right
          rw [hc, hc1]
          split
          · decide
          · rename_i q; exact fun q2 => q ⟨by rw [this, hk1]; rfl, hmk, rfl, q2⟩
        · exact .inl this
theorem set_mut (hr : Rng T) (hkd : kd = 1 ∨ kd = 2) {a b n : Int} : Mut kd mk T (setT kd mk T a b n).2 := by
  by_cases he : namedE T (setL a b) = 0
  · have ha : a ∈ setL a b := by unfold setL; split <;> simp
    obtain ⟨h0, h1, hnd⟩ := named_nd hr he ha
    obtain ⟨m, rfl⟩ := Int.eq_ofNat_of_zero_le h0
    rw [Int.toNat_natCast] at hnd
    have hx : T[m]? = some (T[m]'(by omega)) := List.getElem?_eq_getElem _
    obtain ⟨x, hxe⟩ : ∃ x, x = (T[m]'(by omega)) := ⟨_, rfl⟩
    rw [← hxe] at hx
    rw [setT_X he hx]
    unfold setX
    split
    · exact Mut.same hr
    · rename_i hn
      obtain ⟨q, rfl⟩ := Int.eq_ofNat_of_zero_le (show 0 ≤ n by omega)
      have hq : q < x.2.1.length := by omega
      rw [Int.toNat_natCast]
      have hgd : x.2.1.getD q 0 = x.2.1[q] := by simp [List.getD, hq]
      rw [hgd]
      obtain ⟨sb, hsb⟩ : ∃ sb, sb = (if kd = 1 then b else x.2.1[q]) := ⟨_, rfl⟩
      rw [← hsb]
      have hkey : (shadeT mk T sb).map keyT = T.map keyT := shade_key
      have hml : m < (shadeT mk T sb).length := by rw [key_len hkey]; omega
      have hy : (shadeT mk T sb)[m]? = some ((shadeT mk T sb)[m]'hml) := List.getElem?_eq_getElem _
      rw [hy]
      simp only
      obtain ⟨y, hye⟩ : ∃ y, y = ((shadeT mk T sb)[m]'hml) := ⟨_, rfl⟩
      rw [← hye] at hy ⊢
      obtain ⟨k1, k2⟩ := sameKey hkey hx hy
      have hbn : ∀ k : Nat, (k : Int) = b → Nd (eF T) (rF T) k := fun k hk => by
        have hb : b ∈ setL (m : Int) b := by unfold setL; split; omega; simp
        have := (named_nd hr he hb).2.2
        rw [← hk, Int.toNat_natCast] at this; exact this
      have hbl : b < (T.length : Int) := by
        by_cases hb1 : b = -1
        · omega
        · have hb : b ∈ setL (m : Int) b := by unfold setL; rw [if_neg hb1]; simp
          exact (named_nd hr he hb).2.1
      have hon : ∀ k : Nat, (k : Int) = x.2.1[q] → Nd (eF T) (rF T) k := fun k hk => .edge hnd ⟨x, hx, by rw [hk]; exact List.getElem_mem hq⟩
      have hc : ∀ k, cF ((shadeT mk T sb).set m (y.1, x.2.1.set q b, y.2.2)) k = cF (shadeT mk T sb) k := fun k => by
        rw [cF_set hy]; split
        · rename_i e; subst e; exact (cF_at hy).symm
        · rfl
      have hE : ∀ n k, eF ((shadeT mk T sb).set m (y.1, x.2.1.set q b, y.2.2)) n k ↔ if n = m then (k : Int) ∈ x.2.1.set q b else eF T n k := fun n k => by
        rw [eF_set hy]
        split
        · exact Iff.rfl
        · exact eF_key hkey
      have hR : ∀ n, rF ((shadeT mk T sb).set m (y.1, x.2.1.set q b, y.2.2)) n ↔ rF T n := fun n => by
        rw [rF_set hy]
        split
        · rename_i e; subst e
          rw [← rF_key_shade (mk := mk) (z := sb)]
          exact ⟨fun h => ⟨y, hy, h⟩, fun ⟨z, hz, h⟩ => by rw [hy] at hz; injection hz with hz; rw [hz]; exact h⟩
        · exact rF_key_shade
      have hold : ∀ k, eF T m k ↔ (k : Int) ∈ x.2.1 := fun k => ⟨fun ⟨z, hz, h⟩ => by rw [hx] at hz; injection hz with hz; rw [hz]; exact h, fun h => ⟨x, hx, h⟩⟩
      refine ⟨?_, fun k => ?_, fun hmk k => ?_, fun n k h => ?_, fun n h => .root ((hR n).1 h), fun hmk hk1 n k h => ?_, fun hmk hk2 n k h => ?_, fun _ _ n h => .inl ((hR n).1 h)⟩
      · have hl := key_len hkey
        refine (hr.key hkey).set hy (by rw [List.length_set]; exact hr.sm x (List.mem_of_getElem? hx)) (fun z hz => ?_)
        rw [hl]
        rcases List.mem_or_eq_of_mem_set hz with hz | rfl
        · exact hr.rng x (List.mem_of_getElem? hx) z hz
        · exact hbl
      · rw [hc, cF_shade]
        split
        · rename_i h
          right
          refine ⟨h.2.2, rfl, ?_⟩
          have h2 := h.2.1
          rw [hsb] at h2
          split at h2
          · exact hbn k h2
          · exact hon k h2
        · exact .inl rfl
      · rw [hc, cF_shade, if_neg]
        rintro ⟨h, _⟩
        rw [hmk] at h; cases h
      · have := (hE n k).1 h
        split at this
        · rename_i e; subst e
          rcases List.mem_or_eq_of_mem_set this with h2 | h2
          · exact .inl ((hold k).2 h2)
          · exact .inr (hbn k h2)
        · exact .inl this
      · have := (hE n k).1 h
        split at this
        · rename_i e; subst e
          rcases List.mem_or_eq_of_mem_set this with h2 | h2
          · exact .inl ((hold k).2 h2)
          · right; rw [hc]; exact cF_shade0 hmk (by rw [hsb, if_pos hk1]; exact h2)
        · exact .inl this
      · by_cases e : n = m
        · subst e
          have hk := (hold k).1 h
          by_cases h3 : (k : Int) = x.2.1[q]
          · right; rw [hc]; exact cF_shade0 hmk (by rw [hsb, if_neg (by omega)]; exact h3)
          · left
            refine (hE n k).2 ?_
            rw [if_pos rfl]
            obtain ⟨i, hi, hie⟩ := List.getElem_of_mem hk
            have hiq : i ≠ q := fun q2 => by subst q2; exact h3 hie.symm
            exact List.mem_iff_getElem.2 ⟨i, by rw [List.length_set]; exact hi, by rw [List.getElem_set_ne (Ne.symm hiq)]; exact hie⟩
        · exact .inl ((hE n k).2 (by rw [if_neg e]; exact h))
  · unfold setT
    rw [if_pos he]
    exact Mut.same hr
end Go.Proofs.Ytpeagenjmmkohaa

namespace Go.Proofs.Ytpeagenjmmkohaa
open Go Go.RowKit
set_option linter.unusedVariables false
set_option linter.unusedSimpArgs false
variable {kd : Int} {mk : Bool} {T T' : List TB}
theorem app_at {x : TB} {n : Nat} : (T ++ [x])[n]? = if n = T.length then some x else T[n]? := by
  split
  · rename_i e; subst e; simp
  · rename_i e
    by_cases h : n < T.length
    · rw [List.getElem?_append_left h]
    · rw [List.getElem?_eq_none (by simp; omega), List.getElem?_eq_none (by omega)]
theorem made_facts {n : Int} {o : Option Nat} (hr : Rng T) (hn : ¬ (n < 0 ∨ 10 < n)) (hl : T.length < 100) :
    Rng (T ++ [newTh mk n o]) ∧ (∀ k, k ≠ T.length → cF (T ++ [newTh mk n o]) k = cF T k) ∧ cF (T ++ [newTh mk n o]) T.length = (if mk = true then 2 else 0) ∧
    (∀ a k, eF (T ++ [newTh mk n o]) a k ↔ eF T a k) ∧ (∀ a, rF (T ++ [newTh mk n o]) a ↔ rF T a ∨ a = T.length) := by
  refine ⟨⟨by simp; omega, fun x hx => ?_, fun x hx y hy => ?_⟩, fun k hk => ?_, ?_, fun a k => ?_, fun a => ?_⟩
  · rcases List.mem_append.1 hx with hx | hx
    · exact hr.sm x hx
    · rw [List.mem_singleton.1 hx]; simp [newTh]; omega
  · rcases List.mem_append.1 hx with hx | hx
    · have := hr.rng x hx y hy; simp; omega
    · rw [List.mem_singleton.1 hx] at hy
      have := (List.mem_replicate.1 hy).2
      simp; omega
  · unfold cF; rw [app_at, if_neg hk]
  · unfold cF; rw [app_at, if_pos rfl]; rfl
  · unfold eF
    by_cases ha : a = T.length
    · rw [app_at, if_pos ha]
      constructor
      · rintro ⟨x, hx, h⟩
        injection hx with hx
        subst hx
        have := (List.mem_replicate.1 h).2
        omega
      · rintro ⟨x, hx, h⟩
        rw [ha, List.getElem?_eq_none (Nat.le_refl _)] at hx; cases hx
    · rw [app_at, if_neg ha]
  · unfold rF
    by_cases ha : a = T.length
    · rw [app_at, if_pos ha]
      exact ⟨fun _ => .inr ha, fun _ => ⟨_, rfl, rfl⟩⟩
    · rw [app_at, if_neg ha]
      exact ⟨fun h => .inl h, fun h => h.elim id fun q => absurd q ha⟩
theorem new_lt (hr : Rng T) (k : Nat) : ¬ eF T T.length k ∧ ¬ eF T k T.length := ⟨fun h => absurd (eF_lt hr h).1 (by omega), fun h => absurd (eF_lt hr h).2 (by omega)⟩
theorem made_good {n r e : Int} (h : MadeT mk T n r e T') (g : GS kd mk T) : GS kd mk T' := by
  by_cases ha : n < 0 ∨ 10 < n
  · rw [(h.arg ha).2.2]; exact g
  · by_cases hl : 100 ≤ T.length
    · rw [(h.large ha hl).2.2]; exact g
    · obtain ⟨-, -, o, rfl⟩ := h.ok ha (by omega)
      obtain ⟨q1, q2, q3, q4, q5⟩ := made_facts (mk := mk) (o := o) g.1 ha (by omega)
      exact ⟨q1, g.2.new (new_lt g.1) q2 q3 q4 q5⟩
theorem made_un {n r e : Int} (h : MadeT mk T n r e T') (g : Rng T) {U : Nat → Prop} (u : UIn U (cF T) (eF T) (rF T)) (hU : ∀ n, U n → n < T.length) : UIn U (cF T') (eF T') (rF T') ∧ T.length ≤ T'.length := by
  by_cases ha : n < 0 ∨ 10 < n
  · rw [(h.arg ha).2.2]; exact ⟨u, Nat.le_refl _⟩
  · by_cases hl : 100 ≤ T.length
    · rw [(h.large ha hl).2.2]; exact ⟨u, Nat.le_refl _⟩
    · obtain ⟨-, -, o, rfl⟩ := h.ok ha (by omega)
      obtain ⟨q1, q2, q3, q4, q5⟩ := made_facts (mk := mk) (o := o) g ha (by omega)
      exact ⟨u.new q2 q4 q5 (fun q => absurd (hU _ q) (by omega)), by simp⟩
theorem step_facts (h : stepT true T = some T') : ∃ i, cF T i = 1 ∧ cF T' i = 2 ∧ (∀ k, k ≠ i → cF T' k = cF T k ∨ (cF T k = 0 ∧ cF T' k = 1 ∧ eF T i k)) ∧ (∀ k, k ≠ i → eF T i k → cF T k = 0 → cF T' k = 1) ∧ T'.map keyT = T.map keyT ∧ heldB T' = heldB T := by
  obtain ⟨i, x, hx, h1, rfl, _⟩ := stepT_some h
  have hc : ∀ k, cF (shades true (T.set i (colX x 2)) x.2.1) k = if (k : Int) ∈ x.2.1 ∧ k ≠ i ∧ cF T k = 0 then 1 else if k = i then 2 else cF T k := fun k => by
    rw [cF_shades, cF_set hx]
    by_cases hk : k = i
    · simp [hk]
    · simp [hk]
  have hE : ∀ k, eF T i k ↔ (k : Int) ∈ x.2.1 := fun k => ⟨fun ⟨z, hz, h⟩ => by rw [hx] at hz; injection hz with hz; rw [hz]; exact h, fun h => ⟨x, hx, h⟩⟩
  refine ⟨i, by rw [cF_at hx]; exact h1, by rw [hc, if_neg (fun q => q.2.1 rfl), if_pos rfl], fun k hk => ?_, fun k hk he h0 => ?_, by rw [shades_key, key_set (y := colX x 2) hx rfl], ?_⟩
  · rw [hc]
    split
    · rename_i q; exact .inr ⟨q.2.2, rfl, (hE k).2 q.1⟩
    · first | exact .inl rfl | (rw [if_neg hk]; exact .inl rfl)
  · rw [hc, if_pos ⟨(hE k).1 he, hk, h0⟩]
  · rw [shades_held]
    unfold heldB
    rw [List.map_set]
    apply List.ext_getElem?
    intro j
    rw [List.getElem?_set]
    split
    · rename_i e; subst e; rw [if_pos (by simpa using (List.getElem?_eq_some_iff.1 hx).1), List.getElem?_map, hx]; rfl
    · rfl
theorem ef_fun (hk : T'.map keyT = T.map keyT) : eF T' = eF T := by funext n k; exact propext (eF_key hk)
theorem rf_fun (hh : heldB T' = heldB T) : rF T' = rF T := by funext n; exact propext (rF_same hh)
theorem step_good (h : stepT true T = some T') (g : GS kd true T) : GS kd true T' := by
  obtain ⟨i, q1, q2, q3, q4, q5, q6⟩ := step_facts h
  refine ⟨g.1.key q5, ?_⟩
  rw [ef_fun q5, rf_fun q6]
  exact g.2.step q1 q2 q3 q4
theorem step_un (h : stepT true T = some T') {U : Nat → Prop} (u : UIn U (cF T) (eF T) (rF T)) : UIn U (cF T') (eF T') (rF T') := by
  obtain ⟨i, q1, q2, q3, q4, q5, q6⟩ := step_facts h
  rw [ef_fun q5, rf_fun q6]
  exact u.step q1 q3
theorem Stp.good {m : Nat} (h : Stp true m T T') (g : GS kd true T) : GS kd true T' := by
  induction h with
  | zero => exact g
  | next _ h2 ih => exact step_good h2 (ih g)
theorem Stp.un {m : Nat} (h : Stp true m T T') {U : Nat → Prop} (u : UIn U (cF T) (eF T) (rF T)) : UIn U (cF T') (eF T') (rF T') := by
  induction h with
  | zero => exact u
  | next _ h2 ih => exact step_un h2 (ih u)
theorem Stp.held {m : Nat} (h : Stp true m T T') : heldB T' = heldB T := by
  induction h with
  | zero => rfl
  | next _ h2 ih => obtain ⟨i, _, _, _, _, _, q6⟩ := step_facts h2; rw [q6, ih]
open Classical in
theorem begin_facts : (∀ k, cF (begT T) k = cF T k ∨ (cF T k = 0 ∧ cF (begT T) k = 1 ∧ rF T k)) ∧ (∀ k, rF T k → cF T k = 0 → cF (begT T) k = 1) := by
  have hm : ∀ k : Nat, (k : Int) ∈ rising (heldB T) ↔ rF T k := fun k => by rw [mem_rising, Int.toNat_natCast, rF_held]; exact ⟨fun h => h.2, fun h => ⟨by omega, h⟩⟩
  have hc : ∀ k, cF (begT T) k = if rF T k ∧ cF T k = 0 then 1 else cF T k := fun k => by
    unfold begT
    rw [cF_shades]
    by_cases q : rF T k ∧ cF T k = 0
    · rw [if_pos q, if_pos ⟨rfl, (hm k).2 q.1, q.2⟩]
    · rw [if_neg q, if_neg fun q2 => q ⟨(hm k).1 q2.2.1, q2.2.2⟩]
  refine ⟨fun k => ?_, fun k h1 h2 => by rw [hc, if_pos ⟨h1, h2⟩]⟩
  rw [hc]
  split
  · rename_i q; exact .inr ⟨q.2, rfl, q.1⟩
  · exact .inl rfl
theorem beg_key : (begT T).map keyT = T.map keyT := shades_key
theorem beg_held : heldB (begT T) = heldB T := shades_held
theorem begin_good (g : GS kd false T) : GS kd true (begT T) := by
  refine ⟨g.1.key beg_key, ?_⟩
  rw [ef_fun beg_key, rf_fun beg_held]
  exact g.2.begin begin_facts.1 begin_facts.2
/-- Those that were not needed when marking began. -/
def Un (b : List Bool) (n : Nat) : Prop := n < b.length ∧ ¬ Sn b n
theorem need_len (T : List TB) : (needT T).length = T.length := by unfold needT; rw [liveSb_length, hasOf_len]
theorem begin_un (g : GS kd false T) : UIn (Un (needT T)) (cF (begT T)) (eF (begT T)) (rF (begT T)) := by
  rw [ef_fun beg_key, rf_fun beg_held]
  refine UIn.begin begin_facts.1 g.2 (fun n hn hnd => hn.2 ((need_nd g.1).2 hnd)) (fun n k hn he => ?_)
  have hl := (eF_lt g.1 he).1
  exact (need_nd g.1).1 (Decidable.not_not.1 fun q => hn ⟨by rw [need_len]; exact hl, q⟩)
theorem noGrey (h : stepT true T = none) : ∀ n, cF T n ≠ 1 := fun n hc => by
  unfold stepT at h
  cases hf : T.findIdx? greyB with
  | none =>
    have h1 := List.findIdx?_eq_none_iff.1 hf
    cases hx : T[n]? with
    | none => unfold cF at hc; rw [hx] at hc; simp at hc
    | some x =>
      have := h1 x (List.mem_of_getElem? hx)
      rw [cF_at hx] at hc
      simp [greyB, hc] at this
  | some i =>
    obtain ⟨h1, _, _⟩ := List.findIdx?_eq_some_iff_getElem.1 hf
    rw [hf] at h
    simp [List.getElem?_eq_getElem h1] at h
theorem end_at (n : Nat) : (T.map endX)[n]? = (T[n]?).map endX := List.getElem?_map ..
theorem end_c (n : Nat) : cF (T.map endX) n = if cF T n = 0 then 3 else if cF T n = 2 then 0 else cF T n := by
  unfold cF
  rw [end_at]
  cases T[n]? with
  | none => simp
  | some x =>
    simp only [Option.map_some, Option.getD_some]
    unfold endX
    split
    · rfl
    · split <;> rfl
theorem end_sub : (∀ n k, eF (T.map endX) n k → eF T n k) ∧ ∀ n, rF (T.map endX) n → rF T n := by
  have h : ∀ (n : Nat) (y : TB), (T.map endX)[n]? = some y → ∃ x : TB, T[n]? = some x ∧ (∀ z ∈ y.2.1, z ∈ x.2.1) ∧ (y.2.2.2 = true → x.2.2.2 = true) := fun n y hy => by
    rw [end_at] at hy
    cases hx : T[n]? with
    | none => rw [hx] at hy; cases hy
    | some x =>
      rw [hx] at hy
      simp only [Option.map_some, Option.some.injEq] at hy
      subst hy
      refine ⟨x, rfl, fun z hz => ?_, fun hz => ?_⟩
      · unfold endX at hz
        split at hz
        · simp at hz
        · split at hz <;> exact hz
      · unfold endX at hz
        split at hz
        · simp at hz
        · split at hz <;> exact hz
  exact ⟨fun n k ⟨y, hy, hm⟩ => by obtain ⟨x, hx, h1, _⟩ := h n y hy; exact ⟨x, hx, h1 _ hm⟩, fun n ⟨y, hy, hm⟩ => by obtain ⟨x, hx, _, h2⟩ := h n y hy; exact ⟨x, hx, h2 hm⟩⟩
theorem end_rng (hr : Rng T) : Rng (T.map endX) := by
  refine ⟨by rw [List.length_map]; exact hr.len, fun x hx => ?_, fun x hx y hy => ?_⟩
  · obtain ⟨w, hw, rfl⟩ := List.mem_map.1 hx
    rcases endX_mem hw with q | ⟨z, hz, _, e⟩
    · rw [q.2]; simp
    · rw [← e]; exact hr.sm z hz
  · rw [List.length_map]
    obtain ⟨w, hw, rfl⟩ := List.mem_map.1 hx
    rcases endX_mem hw with q | ⟨z, hz, _, e⟩
    · rw [q.2] at hy; simp at hy
    · rw [← e] at hy; exact hr.rng z hz y hy
theorem end_good (g : GS kd true T) (hn : stepT true T = none) : GS kd false (T.map endX) :=
  ⟨end_rng g.1, g.2.done (noGrey hn) end_c end_sub.1 end_sub.2⟩
theorem do_good {a b n d r e : Int} {mk' : Bool} (h : DoT kd mk T a b n d r e mk' T') (g : GS kd mk T) : GS kd mk' T' := by
  cases h with
  | new h => exact made_good h g
  | set => exact (set_mut g.1 g.2.kind).good g
  | drop => exact (hold_mut g.1 g.2.kind).good g
  | hold => exact (hold_mut g.1 g.2.kind).good g
  | stepNo _ => exact g
  | stepArg _ _ => exact g
  | step hm _ hS _ _ => subst hm; exact hS.good g
  | beginNo _ => exact g
  | begn hm => subst hm; exact begin_good g
  | endNo _ => exact g
  | done hm hS hno => subst hm; exact end_good (hS.good g) hno
  | other _ => exact g
/-- Things are never fewer. -/
theorem do_len {a b n d r e : Int} {mk' : Bool} (h : DoT kd mk T a b n d r e mk' T') : T.length ≤ T'.length := by
  cases h with
  | new h =>
    by_cases ha : n < 0 ∨ 10 < n
    · rw [(h.arg ha).2.2]; exact Nat.le_refl _
    · by_cases hl : 100 ≤ T.length
      · rw [(h.large ha hl).2.2]; exact Nat.le_refl _
      · obtain ⟨-, -, o, rfl⟩ := h.ok ha (by omega); simp
  | set =>
    unfold setT
    split
    · exact Nat.le_refl _
    · split
      · exact Nat.le_refl _
      · split
        · exact Nat.le_refl _
        · simp only
          split
          · rw [List.length_set, shade_len]; exact Nat.le_refl _
          · rw [shade_len]; exact Nat.le_refl _
  | drop => exact Nat.le_of_eq (key_len hold_key).symm
  | hold => exact Nat.le_of_eq (key_len hold_key).symm
  | step _ _ hS _ _ => exact Nat.le_of_eq (key_len hS.key).symm
  | begn _ => exact Nat.le_of_eq (key_len beg_key).symm
  | done _ hS _ => rw [List.length_map]; exact Nat.le_of_eq (key_len hS.key).symm
  | _ => exact Nat.le_refl _
theorem do_un {a b n d r e : Int} {mk' : Bool} (h : DoT kd mk T a b n d r e mk' T') (g : GS kd mk T) (hm : mk = true) (hm' : mk' = true) {U : Nat → Prop} (u : UIn U (cF T) (eF T) (rF T)) (hU : ∀ n, U n → n < T.length) : UIn U (cF T') (eF T') (rF T') := by
  cases h with
  | new h => exact (made_un h g.1 u hU).1
  | set => exact (set_mut g.1 g.2.kind).un u
  | drop => exact (hold_mut g.1 g.2.kind).un u
  | hold => exact (hold_mut g.1 g.2.kind).un u
  | step hm _ hS _ _ => subst hm; exact hS.un u
  | begn q => rw [hm] at q; cases q
  | done _ _ _ => cases hm'
  | _ => exact u
end Go.Proofs.Ytpeagenjmmkohaa

namespace Go.Proofs.Ytpeagenjmmkohaa
open Go Go.RowKit
set_option linter.unusedVariables false
set_option linter.unusedSimpArgs false
abbrev tbMk : List (FuncId × Bool) := [(21, true)]
theorem marked_z {L : Nat → Bool} {H : ZH} {K : ZV → ZH → Prop} (k : K (ZBo true) H) : ZC (constX tbMk) (cFunc Try.prog) 21 [] L H K := ZC.const (constX_some rfl) k
abbrev Dd := Int × Int × Int × Int
abbrev eD (d : Dd) : List ZV := [Z64 d.1, Z64 d.2.1, Z64 d.2.2.1, Z64 d.2.2.2]
theorem best_min {n m : Nat} : bestZ false (Z64 (n : Nat)) [Z64 (m : Nat)] = some (Z64 ((min n m : Nat) : Int)) := by
  simp only [bestZ]
  by_cases h : m < n
  · rw [show min n m = m by omega]
    have : ((m : Nat) : Int) < ((n : Nat) : Int) := by omega
    simp [this]
  · rw [show min n m = n by omega]
    have : ¬ ((m : Nat) : Int) < ((n : Nat) : Int) := by omega
    simp [this]
theorem dd_cut {α : Type} {e : α → List ZV} {k n : Nat} {ex : Bool} {l : List α} (h : n ≤ l.length) : ∃ ex2, ∀ H, cutZ H k 0 n l.length false (.fz k ex (l.map e)) = some (.fz k ex2 ((l.take n).map e)) := by
  by_cases hl : l = []
  · subst hl
    have : n = 0 := by simpa using h
    subst this
    exact ⟨false, fun H => by simp [cutZ]⟩
  · refine ⟨(ex || false) && n == l.length, fun H => ?_⟩
    simp only [cutZ]
    rw [if_pos ⟨trivial, Nat.zero_le _, h, by simp⟩, if_neg (by simpa using hl)]
    simp only [List.drop_zero, Nat.sub_zero, List.map_take]
theorem zown_nil1 {K : ZV → ZH → Prop} {H : ZH} : zown [(0, 1001)] K (.val (.slice none 0 0)) H ↔ K (.fz 1 false []) H := by
  constructor
  · rintro ⟨z, H', h1, h2⟩
    simp [ownCells] at h1
    obtain ⟨rfl, rfl⟩ := h1
    exact h2
  · intro h
    exact ⟨_, _, rfl, h⟩
theorem zown_fz1 {l : List (Nat × Nat)} {K : ZV → ZH → Prop} {H : ZH} {k : Nat} {ex : Bool} {r : List (List ZV)} : zown l K (.fz k ex r) H ↔ K (.fz k ex r) H := Iff.rfl
theorem fr_two {p : Nat} {h H2 : ZH} {a b : List ZV} (hf : FrB p (h ++ [.box a, .box b]) H2) (hp : p < h.length) : (∀ Y, (H2 ++ Y)[h.length]? = some (.box a)) ∧ ∀ Y, (H2 ++ Y)[h.length + 1]? = some (.box b) := by
  have h1 := hf h.length a (by omega) (mv_at0 _ _)
  have h2 := hf (h.length + 1) b (by omega) (mv_at1 _ _ _)
  exact ⟨fun Y => by rw [List.getElem?_append_left (lt_of_get h1)]; exact h1, fun Y => by rw [List.getElem?_append_left (lt_of_get h2)]; exact h2⟩
theorem fr_one {p : Nat} {h H2 : ZH} {a : List ZV} (hf : FrB p (h ++ [.box a]) H2) (hp : p < h.length) : ∀ Y, (H2 ++ Y)[h.length]? = some (.box a) := by
  have h1 := hf h.length a (by omega) (mv_at0 _ _)
  exact fun Y => by rw [List.getElem?_append_left (lt_of_get h1)]; exact h1
section
variable {kd : Int} {mk mk' : Bool} {T T' : List TB} {a b n d r e : Int}
theorem gs_start (hk : kd = 1 ∨ kd = 2) : GS kd false [] := by
  have hn : ∀ n, ¬ Nd (eF []) (rF []) n := fun n hn => by
    cases hn with
    | root h => obtain ⟨x, hx, _⟩ := h; simp at hx
    | edge _ h => obtain ⟨x, hx, _⟩ := h; simp at hx
  exact ⟨⟨by simp, by simp, by simp⟩, hk, fun n => .inr (.inr (.inr rfl)), fun n h => absurd h (hn n), fun _ n => .inr rfl, fun q => (by cases q), fun q => (by cases q), fun q => (by cases q)⟩
/-- What MarkKeeps knows between two deeds. -/
structure KI (kd : Int) (bg : List Bool) (mk : Bool) (T : List TB) : Prop where
  gs : GS kd mk T
  un : mk = true → UIn (Un bg) (cF T) (eF T) (rF T)
  len : bg.length ≤ T.length
theorem KI.go {bg : List Bool} (k : KI kd bg mk T) (h : DoT kd mk T a b n d r e mk' T') (hm : mk = true) : KI kd bg mk' T' :=
  ⟨do_good h k.gs, fun hm' => do_un h k.gs hm hm' (k.un hm) (fun n hn => Nat.lt_of_lt_of_le hn.1 k.len), Nat.le_trans k.len (do_len h)⟩
theorem KI.idle {bg : List Bool} (k : KI kd bg mk T) (h : DoT kd mk T a b n d r e mk' T') (hm : mk' = false) : KI kd bg mk' T' :=
  ⟨do_good h k.gs, fun q => (by rw [hm] at q; cases q), Nat.le_trans k.len (do_len h)⟩
theorem do_start (h : DoT kd mk T a b n d r e mk' T') (hm : mk = false) (hm' : mk' = true) : T' = begT T := by
  cases h with
  | begn _ => rfl
  | done q _ _ => cases hm'
  | _ => rw [hm] at hm'; cases hm'
theorem KI.begun {bg : List Bool} (k : KI kd bg mk T) (h : DoT kd mk T a b n d r e mk' T') (hm : mk = false) (hm' : mk' = true) : KI kd (needT T) mk' T' := by
  have e1 := do_start h hm hm'
  refine ⟨do_good h k.gs, fun _ => ?_, by rw [need_len]; exact do_len h⟩
  rw [e1]
  subst hm
  exact begin_un k.gs
theorem do_major {bg : List Bool} (k : KI kd bg mk T) (h : DoT kd mk T a b n 7 r 0 mk' T') {m : Nat} (hm : Un bg m) : cF T' m = 3 := by
  cases h with
  | @done j T1 q hS hno =>
    have u := hS.un (k.un q)
    rw [end_c]
    rcases u.u3 m hm with q2 | q2 <;> rw [q2] <;> simp
theorem do_major_no (h : DoT kd false T a b n 7 r 0 mk' T') : False := by
  cases h with
  | done q _ _ => cases q
theorem cols_at (hl : n = n) {m : Nat} (hm : m < T.length) : (colsOf T)[m]? = some (cF T m) := by
  unfold colsOf
  rw [List.getElem?_map, List.getElem?_eq_getElem hm]
  rw [cF_at (List.getElem?_eq_getElem hm)]; rfl
theorem cols_len : (colsOf T).length = T.length := by simp [colsOf]
theorem need_at {x : Int} (g : GS kd mk T) (h : x ∈ rising (needT T)) : ∃ m : Nat, x = m ∧ m < T.length ∧ (colsOf T)[m]? = some (cF T m) ∧ cF T m ≠ 3 := by
  obtain ⟨h0, h1⟩ := mem_rising.1 h
  obtain ⟨m, rfl⟩ := Int.eq_ofNat_of_zero_le h0
  rw [Int.toNat_natCast] at h1
  have hl := Sn_lt h1
  rw [need_len] at hl
  exact ⟨m, rfl, hl, cols_at (n := 0) rfl hl, g.2.keep m ((need_nd g.1).1 h1)⟩
theorem need_cnt (g : GS kd mk T) : (rising (needT T)).length ≤ 100 := by
  have := riseTo_length (needT T) (needT T).length
  have h1 := g.1.len
  unfold rising
  rw [need_len] at this ⊢; omega
theorem needL_eq : liveL (hasOf T) [] (rising (heldB T)) = rising (needT T) := rfl
end
end Go.Proofs.Ytpeagenjmmkohaa
