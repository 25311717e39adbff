/-
  Generations in ZM: make; Do.
-/
import Derived.Test.YtblgljahhhdlhaaMrD10
namespace Go.Proofs.Ytblgljahhhdlhaa
open Go Go.RowKit
set_option linter.unusedVariables false
set_option linter.unusedSimpArgs false
variable {U : Nat → Prop}
variable {tb : List (FuncId × Bool)} {nd : Bool} {L : Nat → Bool} {H : ZH} {K : ZV → ZH → Prop} {p t g m : Nat} {nu : Int} {T : List TB} {R : List Int}
def c_nT1 : ACode := .seq (.opsD [⟨(some 31), .mv (.tmp 0), none, true⟩,
 ⟨(some 32), .mv (.tmp 0), none, true⟩,
 ⟨(some 33), .nilCheck (.tmp 32), none, true⟩,
 ⟨(some 34), .fieldAddr 1 (.tmp 33), none, true⟩,
 ⟨(some 35), .load none (.tmp 34), none, false⟩,
 ⟨(some 36), .lits 1 1 [(.val (.int .i64 0))] [(0, 1, (.av (.val (.int .i64 (-1)))))], none, true⟩,
 ⟨(some 37), .mv (.tmp 1), none, true⟩,
 ⟨(some 38), .call (.av (.func 28 [])) [(.tmp 36), (.tmp 37)], none, false⟩,
 ⟨(some 39), .build [(.val (.slice none 0 0)), (.val (.int .i64 0)), (.val (.bool false))] [(0, 1, (.tmp 38)), (2, 1, (.av (.val (.bool true))))], none, true⟩,
 ⟨(some 40), .lits 3 1 [(.val (.slice none 0 0)), (.val (.int .i64 0)), (.val (.bool false))] [(0, 3, (.tmp 39))], none, true⟩,
 ⟨(some 41), .append 3 40 (.tmp 35) (.tmp 40), none, true⟩,
 ⟨(some 42), .nilCheck (.tmp 31), none, true⟩,
 ⟨(some 43), .fieldAddr 1 (.tmp 42), none, true⟩,
 ⟨none, .store 1 (.tmp 43) (.tmp 41), none, true⟩])
 (.seq (.ops [⟨(some 44), .mv (.tmp 0), none, true⟩,
 ⟨(some 45), .nilCheck (.tmp 44), none, true⟩,
 ⟨(some 46), .fieldAddr 1 (.tmp 45), none, true⟩,
 ⟨(some 47), .load none (.tmp 46), none, true⟩,
 ⟨(some 48), .len (.tmp 47), none, true⟩,
 ⟨(some 49), .bin .sub (.tmp 48) (.av (.val (.int .i64 1))), none, true⟩,
 ⟨(some 4), .mv (.tmp 49), none, true⟩,
 ⟨(some 5), .mv (.av (.val (.int .i64 0))), none, true⟩])
 (.ret))
theorem c_ge_make_cut : c_ge_make = .seq (.ops [⟨(some 4), .mv (.av (.val (.int .i64 0))), none, true⟩,
 ⟨(some 5), .mv (.av (.val (.int .i64 0))), none, true⟩])
 (.seq (.block 0 (.seq (.ops [⟨(some 7), .mv (.tmp 1), none, true⟩,
 ⟨(some 8), .bin .lss (.tmp 7) (.av (.val (.int .i64 0))), none, true⟩,
 ⟨(some 9), .mv (.tmp 8), none, true⟩,
 ⟨(some 10), .mv (.tmp 1), (some (9, false)), true⟩,
 ⟨(some 11), .bin .gtr (.tmp 10) (.av (.val (.int .i64 10))), (some (9, false)), true⟩,
 ⟨(some 12), .pick (.tmp 9) (.av (.val (.bool true))) (.tmp 11), none, true⟩,
 ⟨(some 6), .mv (.tmp 12), none, true⟩])
 (.cond (.tmp 6)
 (.seq (.ops [⟨(some 4), .mv (.av (.val (.int .i64 0))), none, true⟩,
 ⟨(some 5), .mv (.av (.val (.int .i64 1))), none, true⟩])
 (.ret))
 (.seq (.ops [⟨(some 14), .mv (.tmp 0), none, true⟩,
 ⟨(some 15), .nilCheck (.tmp 14), none, true⟩,
 ⟨(some 16), .fieldAddr 1 (.tmp 15), none, true⟩,
 ⟨(some 17), .load none (.tmp 16), none, true⟩,
 ⟨(some 18), .len (.tmp 17), none, true⟩,
 ⟨(some 19), .bin .geq (.tmp 18) (.av (.val (.int .i64 100))), none, true⟩,
 ⟨(some 13), .mv (.tmp 19), none, true⟩])
 (.cond (.tmp 13)
 (.seq (.ops [⟨(some 4), .mv (.av (.val (.int .i64 0))), none, true⟩,
 ⟨(some 5), .mv (.av (.val (.int .i64 2))), none, true⟩])
 (.ret))
 (.seq (.opsD [⟨(some 21), .mv (.tmp 0), none, true⟩,
 ⟨(some 22), .call (.av (.func 10 [])) [(.tmp 21)], none, false⟩,
 ⟨(some 23), .len (.tmp 22), none, true⟩,
 ⟨(some 24), .mv (.tmp 0), none, true⟩,
 ⟨(some 25), .nilCheck (.tmp 24), none, true⟩,
 ⟨(some 26), .fieldAddr 0 (.tmp 25), none, true⟩,
 ⟨(some 27), .load none (.tmp 26), none, false⟩,
 ⟨(some 28), .bin .geq (.tmp 23) (.tmp 27), none, true⟩,
 ⟨(some 20), .mv (.tmp 28), none, true⟩])
 (.cond (.tmp 20)
 (.ops [⟨(some 29), .mv (.tmp 0), none, true⟩,
 ⟨(some 30), .call (.av (.func 21 [])) [(.tmp 29)], none, true⟩])
 (.skip))))))))
 c_nT1) := rfl

theorem repeat_z0 {z : ZV} {x : Int} (hz : rowsZ H 1 z = some [[Z64 x]]) (hK : K (.fz 1 false []) H) :
    ZC (constX tb) (cFunc Try.prog) 28 [z, Z64 ((0 : Nat) : Int)] L H K := by
  refine ZC.frzF (n := 0) (k := 1) (rows := []) (repeat_z hz (by omega) ⟨rfl, rfl⟩) rfl rfl hK
theorem GeAt.push (h : GeAt U H p t g m nu T R) {x : TB} {Y : ZH} (hlen : T.length < 100) (hsm : x.2.1.length ≤ 10) (hx : (x.1 = none ∧ x.2.1 = []) ∨ ∃ j, x.1 = some j ∧ x.2.1 ≠ [] ∧ H.length ≤ j ∧ (H ++ Y)[j]? = some (.grow 0 1 (x.2.1.map eI))) :
    GeAt U (((H ++ Y).set t (.grow (g + 1) 3 ((T ++ [x]).map eT))).set p (.box [Z64 nu, .own t (g + 1) 0 (T.length + 1) false, .mp m])) p t (g + 1) m nu (T ++ [x]) R := by
  have h0 := h.ext Y
  have hpl := lt_of_get h0.box
  have htl := lt_of_get h0.arr
  refine ⟨by rw [List.getElem?_set_self (by rw [List.length_set]; exact hpl), List.length_append]; rfl, by rw [List.getElem?_set_ne h.pt, List.getElem?_set_self htl], by rw [List.getElem?_set_ne h.pm, List.getElem?_set_ne (Ne.symm h.mt)]; exact h0.rem, h.pm, fun y hy => ?_, ?_, by simp; omega, fun y hy => ?_, ⟨h.un.1, h.un.2.1, h.un.2.2.1, fun y hy i hi => ?_⟩, fun i hi => by have := h.ub i hi; rw [List.length_set, List.length_set, List.length_append]; omega⟩
  · rcases List.mem_append.1 hy with hy | hy
    · have h1 := h0.pl y hy
      have h2 : ∀ j, y.1 = some j → j ≠ t ∧ j ≠ p ∧ j ≠ m := fun j hj => h0.jt hy hj
      revert h1 h2
      cases y.1 with
      | none => exact fun h1 _ => h1
      | some j => exact fun h1 h2 => ⟨h1.1, by rw [List.getElem?_set_ne (Ne.symm (h2 j rfl).2.1), List.getElem?_set_ne (Ne.symm (h2 j rfl).1)]; exact h1.2⟩
    · rw [List.mem_singleton.1 hy]
      rcases hx with ⟨e1, e2⟩ | ⟨j, e1, e2, e3, e4⟩
      · rw [e1]; exact e2
      · rw [e1]
        have := lt_of_get h.box
        have := lt_of_get h.arr
        exact ⟨e2, by rw [List.getElem?_set_ne (by omega), List.getElem?_set_ne (by omega)]; exact e4⟩
  · rw [List.filterMap_append]
    rcases hx with ⟨e1, e2⟩ | ⟨j, e1, e2, e3, e4⟩
    · rw [show [x].filterMap Prod.fst = [] by simp [List.filterMap_cons, e1], List.append_nil]; exact h.nod
    · rw [show [x].filterMap Prod.fst = [j] by simp [List.filterMap_cons, e1], List.nodup_append]
      refine ⟨h.nod, by simp, fun a ha b hb e => ?_⟩
      simp at hb
      subst hb; subst e
      obtain ⟨y, hy, e5⟩ := List.mem_filterMap.1 ha
      have h1 := h.pl y hy
      rw [e5] at h1
      have := lt_of_get h1.2
      omega
  · rcases List.mem_append.1 hy with hy | hy
    · exact h.sm y hy
    · rw [List.mem_singleton.1 hy]; exact hsm
  · rcases List.mem_append.1 hy with hy | hy
    · exact h.un.2.2.2 y hy i hi
    · rw [List.mem_singleton.1 hy] at hi
      rcases hx with ⟨e1, e2⟩ | ⟨j, e1, e2, e3, e4⟩
      · rw [e1] at hi; cases hi
      · rw [e1] at hi; injection hi with hi; subst hi
        exact fun hu => by have := h.ub _ hu; omega
def newTh (n : Nat) (o : Option Nat) : TB := (o, List.replicate n (-1), 0, true)
set_option maxHeartbeats 4000000 in
theorem nT1_z {S : ZS} {KK : AExit → ZS → ZH → Prop} {q : Nat} (h : GeAt U H p t g m nu T R) (hL : ∀ i, L i = true) (h0 : S 0 = .ptr p 0) (h1 : S 1 = Z64 (q : Nat)) (hq : q ≤ 10) (ht : T.length < 100)
    (hk : ∀ S' H' o, S' 4 = Z64 T.length → S' 5 = Z64 0 → GeAt U H' p t (g + 1) m nu (T ++ [newTh q o]) R → FrG U p m H H' → KK .ret S' H') : zW (XG tb nd) (cFunc Try.prog) ⟨[], [40], []⟩ L c_nT1 S H KK := by
  simp only [c_nT1]
  have HM := Lib.hid h
  have HL := Lib.hid hL
  have HK := Lib.hid hk
  have HT := Lib.hid ht
  have HQ := Lib.hid hq
  have hb := h.box
  have hpL := lt_of_get h.box
  have htL := lt_of_get h.arr
  clear h hL hk ht hq
  have hbX : ∀ Y, (H ++ Y)[p]? = some (.box [Z64 nu, .own t g 0 T.length false, .mp m]) := fun Y => (HM.out.ext Y).box
  have hap : ∀ x Y, appZ L (H ++ Y) 3 40 [eT x] (.own t g 0 T.length false) = some (.own t (g + 1) 0 (T.length + 1) false, (H ++ Y).set t (.grow (g + 1) 3 ((T ++ [x]).map eT))) := fun x Y => by
    rw [app_ownN (HM.out.ext Y).arr (by simp) (by have := HT.out; unfold reach; simp; omega) (HL.out t), List.map_append]; rfl
  have hst : ∀ x Y, stZ L ((H ++ Y).set t (.grow (g + 1) 3 ((T ++ [x]).map eT))) [.own t (g + 1) 0 (T.length + 1) false] (.ptr p 1) = some (((H ++ Y).set t (.grow (g + 1) 3 ((T ++ [x]).map eT))).set p (.box [Z64 nu, .own t (g + 1) 0 (T.length + 1) false, .mp m])) := fun x Y => by
    rw [st_ptr]
    exact ⟨_, by rw [List.getElem?_set_ne (Ne.symm HM.out.pt)]; exact hbX Y, HL.out p, by simp, rfl⟩
  have fin : ∀ (o : Option Nat) (Y : ZH), ((newTh q o).1 = none ∧ (newTh q o).2.1 = []) ∨ (∃ j, (newTh q o).1 = some j ∧ (newTh q o).2.1 ≠ [] ∧ H.length ≤ j ∧ (H ++ Y)[j]? = some (.grow 0 1 ((newTh q o).2.1.map eI))) →
      ∀ S', S' 4 = Z64 T.length → S' 5 = Z64 0 → KK .ret S' (((H ++ Y).set t (.grow (g + 1) 3 ((T ++ [newTh q o]).map eT))).set p (.box [Z64 nu, .own t (g + 1) 0 (T.length + 1) false, .mp m])) := fun o Y hx S' e4 e5 => by
    have hM2 := HM.out.push (x := newTh q o) (Y := Y) HT.out (by simp [newTh]; exact HQ.out) hx
    exact HK.out _ _ o e4 e5 hM2 (FrG.ext.trans ((FrG.grow (HM.out.ext Y).arr (.inl (by decide)) HM.out.un.2.2.1).trans (FrG.own (cs0 := _) (by rw [List.getElem?_set_ne (Ne.symm HM.out.pt)]; exact hbX Y) HM.out.un.1)))
  have hl4 : ∀ x Y, lenZ (((H ++ Y).set t (.grow (g + 1) 3 ((T ++ [x]).map eT))).set p (.box [Z64 nu, .own t (g + 1) 0 (T.length + 1) false, .mp m])) (.own t (g + 1) 0 (T.length + 1) false) = some (T.length + 1) := fun x Y => by
    have hq : (((H ++ Y).set t (.grow (g + 1) 3 ((T ++ [x]).map eT))).set p (.box [Z64 nu, .own t (g + 1) 0 (T.length + 1) false, .mp m]))[t]? = some (.grow (g + 1) 3 ((T ++ [x]).map eT)) := by
      rw [List.getElem?_set_ne HM.out.pt, List.getElem?_set_self (lt_of_get (HM.out.ext Y).arr)]
    have := rows_len (rows_whole (ex := false) hq rfl)
    simpa using this
  have hb4 : ∀ x Y, (((H ++ Y).set t (.grow (g + 1) 3 ((T ++ [x]).map eT))).set p (.box [Z64 nu, .own t (g + 1) 0 (T.length + 1) false, .mp m]))[p]? = some (.box [Z64 nu, .own t (g + 1) 0 (T.length + 1) false, .mp m]) := fun x Y => by
    rw [List.getElem?_set_self (by rw [List.length_set]; exact lt_of_get (hbX Y))]
  have w1 : IntKind.i64.wrap (((T.length + 1 : Nat) : Int) - 1) = (T.length : Int) := by have := HT.out; rw [IntWalk.i64_in _ (by omega)]; omega
  have FN := Lib.hid fin
  have HAP := Lib.hid hap
  have HST := Lib.hid hst
  have HL4 := Lib.hid hl4
  have HB4 := Lib.hid hb4
  have l0 := HL.out H.length
  have l1 := HL.out (H.length + 1)
  clear fin hap hst hl4 hb4
  rcases Nat.eq_zero_or_pos q with rfl | hp
  · repeat' (first | (simp only [zmPack, zxPack, ne_eq, zfree, owners, Nat.reduceLT, List.contains_cons, List.contains_nil, Nat.reduceBEq, BEq.rfl, chunk, setAt, List.lookup_cons, List.lookup_nil, reduceCtorEq, Nat.reduceEqDiff, reduceIte, implies_true, forall_const, Nat.reduceMul, Nat.reduceSub, Nat.reduceAdd, Nat.reduceLeDiff, h0, h1, hb, l0, hpL, htL, *]) | (simp only [zgoO, zgoG, zO_nil, zthen_normal, zgoC]) | (with_reducible apply And.intro) | (with_reducible intro _))
    refine repeat_z0 (x := -1) rows_fz ?_
    have fin := FN.out none [.grow 0 3 [eT (newTh 0 none)]] (.inl ⟨rfl, rfl⟩)
    have hap := HAP.out (newTh 0 none) [.grow 0 3 [eT (newTh 0 none)]]
    have hst := HST.out (newTh 0 none) [.grow 0 3 [eT (newTh 0 none)]]
    have hl4 := HL4.out (newTh 0 none) [.grow 0 3 [eT (newTh 0 none)]]
    have hb4 := HB4.out (newTh 0 none) [.grow 0 3 [eT (newTh 0 none)]]
    have e : eT (newTh 0 none) = [.fz 1 false [], Z64 0, ZBo true] := rfl
    rw [e] at fin hap hst hl4 hb4
    obtain ⟨Q, hQ⟩ : ∃ Q, Q = (T ++ [newTh 0 none]).map eT := ⟨_, rfl⟩
    rw [← hQ] at fin hap hst hl4 hb4
    have FF := Lib.hid fin
    clear hQ e fin
    repeat' (first | (simp only [zmPack, zxPack, ne_eq, zfree, owners, Nat.reduceLT, List.contains_cons, List.contains_nil, Nat.reduceBEq, BEq.rfl, chunk, setAt, List.lookup_cons, List.lookup_nil, reduceCtorEq, Nat.reduceEqDiff, reduceIte, implies_true, forall_const, Nat.reduceMul, Nat.reduceSub, Nat.reduceAdd, Nat.reduceLeDiff, hbX, hap, hst, hl4, hb4, w1, l0, *]) | (simp only [zgoO, zgoG, zO_nil, zthen_normal, zgoC]) | (with_reducible apply And.intro) | (with_reducible intro _))
    exact FF.out _ (by simp [zupd]) (by simp [zupd])
  · repeat' (first | (simp only [zmPack, zxPack, ne_eq, zfree, owners, Nat.reduceLT, List.contains_cons, List.contains_nil, Nat.reduceBEq, BEq.rfl, chunk, setAt, List.lookup_cons, List.lookup_nil, reduceCtorEq, Nat.reduceEqDiff, reduceIte, implies_true, forall_const, Nat.reduceMul, Nat.reduceSub, Nat.reduceAdd, Nat.reduceLeDiff, h0, h1, hb, l0, hpL, htL, *]) | (simp only [zgoO, zgoG, zO_nil, zthen_normal, zgoC]) | (with_reducible apply And.intro) | (with_reducible intro _))
    refine repeat_z (x := -1) rows_fz (by have := HQ.out; omega) ?_
    have fin := FN.out (some H.length) [.grow 0 1 ((List.replicate q (-1)).map eI), .grow 0 3 [eT (newTh q (some H.length))]] (.inr ⟨H.length, rfl, by simp [newTh]; omega, Nat.le_refl _, by rw [List.getElem?_append_right (Nat.le_refl _), Nat.sub_self]; simp [newTh]⟩)
    have hap := HAP.out (newTh q (some H.length)) [.grow 0 1 ((List.replicate q (-1)).map eI), .grow 0 3 [eT (newTh q (some H.length))]]
    have hst := HST.out (newTh q (some H.length)) [.grow 0 1 ((List.replicate q (-1)).map eI), .grow 0 3 [eT (newTh q (some H.length))]]
    have hl4 := HL4.out (newTh q (some H.length)) [.grow 0 1 ((List.replicate q (-1)).map eI), .grow 0 3 [eT (newTh q (some H.length))]]
    have hb4 := HB4.out (newTh q (some H.length)) [.grow 0 1 ((List.replicate q (-1)).map eI), .grow 0 3 [eT (newTh q (some H.length))]]
    have e : eT (newTh q (some H.length)) = [.own H.length 0 0 q false, Z64 0, ZBo true] := by simp [newTh, eT, plZ]
    rw [e] at fin hap hst hl4 hb4
    obtain ⟨Q, hQ⟩ : ∃ Q, Q = (T ++ [newTh q (some H.length)]).map eT := ⟨_, rfl⟩
    rw [← hQ] at fin hap hst hl4 hb4
    obtain ⟨Q2, hQ2⟩ : ∃ Q2, Q2 = (List.replicate q (-1)).map eI := ⟨_, rfl⟩
    rw [← hQ2] at fin hap hst hl4 hb4 ⊢
    have FF := Lib.hid fin
    clear hQ hQ2 e hp fin
    repeat' (first | (simp only [zmPack, zxPack, ne_eq, zfree, owners, Nat.reduceLT, List.contains_cons, List.contains_nil, Nat.reduceBEq, BEq.rfl, chunk, setAt, List.lookup_cons, List.lookup_nil, reduceCtorEq, Nat.reduceEqDiff, reduceIte, implies_true, forall_const, Nat.reduceMul, Nat.reduceSub, Nat.reduceAdd, Nat.reduceLeDiff, hbX, hap, hst, hl4, hb4, w1, l0, l1, *]) | (simp only [zgoO, zgoG, zO_nil, zthen_normal, zgoC]) | (with_reducible apply And.intro) | (with_reducible intro _))
    exact FF.out _ (by simp [zupd]) (by simp [zupd])
theorem colT_len {ages : List Int} {sb : List Bool} (hs : sb.length = T.length) : (colT ages sb T).length = T.length := by unfold colT; rw [List.length_map, colTo_len hs]
def Mid (nu : Int) (T : List TB) (R : List Int) (T1 : List TB) (R1 : List Int) : Prop :=
  (((rising (ageB T 0)).length : Int) < nu ∧ T1 = T ∧ R1 = R) ∨ (nu ≤ ((rising (ageB T 0)).length : Int) ∧ ∃ sb, Stays T R sb ∧ T1 = colT [0] sb T ∧ R1 = [])
structure MadeG (nu : Int) (T : List TB) (R : List Int) (n r e : Int) (T' : List TB) (R' : List Int) : Prop where
  arg : n < 0 ∨ 10 < n → r = 0 ∧ e = 1 ∧ T' = T ∧ R' = R
  large : ¬ (n < 0 ∨ 10 < n) → 100 ≤ T.length → r = 0 ∧ e = 2 ∧ T' = T ∧ R' = R
  ok : ¬ (n < 0 ∨ 10 < n) → T.length < 100 → r = T.length ∧ e = 0 ∧ ∃ T1 o, Mid nu T R T1 R' ∧ T' = T1 ++ [newTh n.toNat o]
set_option maxHeartbeats 4000000 in
theorem make_z {n : Int} (h : GeAt U H p t g m nu T R) (hr : Rng T) (hR : ∀ r ∈ R, 0 ≤ r ∧ r < (T.length : Int)) (hL : ∀ i, L i = true) (hK : ∀ H' g' r e T' R', MadeG nu T R n r e T' R' → GeAt U H' p t g' m nu T' R' → FrG U p m H H' → K (.tuple [Z64 r, Z64 e]) H') :
    ZC (XG tb true) (cFunc Try.prog) 18 [.ptr p 0, Z64 n] L H K := by
  refine ZC.enter ⟨[], [40], []⟩ constX_none f_ge_make (by simp) ?_
  simp only [c_ge_make_cut]
  have hb := h.box
  have hl3 := rows_len (rows_whole (ex := false) (n := T.length) h.arr (by simp))
  rw [List.length_map] at hl3
  have HM := Lib.hid h
  have HR := Lib.hid hr
  have HRR := Lib.hid hR
  have HL := Lib.hid hL
  have HK := Lib.hid hK
  have hpL := lt_of_get h.box
  have hrl : (rising (ageB T 0)).length ≤ 100 := by
    have h1 := riseTo_length (ageB T 0) (ageB T 0).length
    have h2 := h.len
    unfold rising
    rw [show (ageB T 0).length = T.length by simp [ageB]] at h1 ⊢
    omega
  clear hK h hL hr hR
  by_cases ha : n < 0 ∨ 10 < n
  · have fin : Fin H (.tuple [Z64 0, Z64 1]) H K := Fin.keep (HK.out H g 0 1 T R ⟨fun _ => ⟨rfl, rfl, rfl, rfl⟩, fun h => absurd ha h, fun h => absurd ha h⟩ HM.out FrG.refl)
    by_cases hn : n < 0
    · clear ha
      repeat' (first | (simp only [zmPack, zxPack, ne_eq, zfree, owners, Nat.reduceLT, List.contains_cons, List.contains_nil, Nat.reduceBEq, BEq.rfl, chunk, setAt, List.lookup_cons, List.lookup_nil, reduceCtorEq, Nat.reduceEqDiff, reduceIte, implies_true, forall_const, Nat.reduceMul, Nat.reduceSub, Nat.reduceAdd, Nat.reduceLeDiff, hb, hl3, hn, *]) | (simp only [zgoO, zgoG, zO_nil, zthen_normal, zgoC]) | (with_reducible apply And.intro) | (with_reducible intro _))
    · have hn2 : 10 < n := by omega
      clear ha
      repeat' (first | (simp only [zmPack, zxPack, ne_eq, zfree, owners, Nat.reduceLT, List.contains_cons, List.contains_nil, Nat.reduceBEq, BEq.rfl, chunk, setAt, List.lookup_cons, List.lookup_nil, reduceCtorEq, Nat.reduceEqDiff, reduceIte, implies_true, forall_const, Nat.reduceMul, Nat.reduceSub, Nat.reduceAdd, Nat.reduceLeDiff, hb, hl3, hn, hn2, *]) | (simp only [zgoO, zgoG, zO_nil, zthen_normal, zgoC]) | (with_reducible apply And.intro) | (with_reducible intro _))
  · by_cases hl : 100 ≤ T.length
    · have fin : Fin H (.tuple [Z64 0, Z64 2]) H K := Fin.keep (HK.out H g 0 2 T R ⟨fun h => absurd h ha, fun _ _ => ⟨rfl, rfl, rfl, rfl⟩, fun _ h => absurd hl (by omega)⟩ HM.out FrG.refl)
      have g1 : ¬ n < 0 := by omega
      have g2 : ¬ 10 < n := by omega
      have g3 : (100 : Int) ≤ (T.length : Int) := by omega
      clear ha hl
      repeat' (first | (simp only [zmPack, zxPack, ne_eq, zfree, owners, Nat.reduceLT, List.contains_cons, List.contains_nil, Nat.reduceBEq, BEq.rfl, chunk, setAt, List.lookup_cons, List.lookup_nil, reduceCtorEq, Nat.reduceEqDiff, reduceIte, implies_true, forall_const, Nat.reduceMul, Nat.reduceSub, Nat.reduceAdd, Nat.reduceLeDiff, hb, hl3, g1, g2, g3, *]) | (simp only [zgoO, zgoG, zO_nil, zthen_normal, zgoC]) | (with_reducible apply And.intro) | (with_reducible intro _))
    · obtain ⟨q, rfl⟩ := Int.eq_ofNat_of_zero_le (show 0 ≤ n by omega)
      have hm : q ≤ 10 := by omega
      have g1 : ¬ (q : Int) < 0 := by omega
      have g2 : ¬ 10 < (q : Int) := by omega
      have g3 : ¬ (100 : Int) ≤ (T.length : Int) := by omega
      have HA := Lib.hid ha
      have HT := Lib.hid hl
      have HQ := Lib.hid hm
      clear ha hl hm
      have goOn : ∀ (H1 : ZH) (T1 : List TB) (R1 : List Int), GeAt U H1 p t g m nu T1 R1 → FrG U p m H H1 → T1.length = T.length → Mid nu T R T1 R1 → ∀ (S : ZS) (KK : AExit → ZS → ZH → Prop), S 0 = .ptr p 0 → S 1 = Z64 (q : Nat) → (∀ S' H', S' 4 = Z64 T.length → S' 5 = Z64 0 → Fin H (.tuple [Z64 T.length, Z64 0]) H' K → KK .ret S' H') →
          zW (XG tb true) (cFunc Try.prog) ⟨[], [40], []⟩ L c_nT1 S H1 KK := fun H1 T1 R1 hG hF hTl hMid S KK h0 h1 hkk => by
        refine nT1_z hG HL.out h0 h1 HQ.out (by have := HT.out; omega) fun S' H' o h4 h5 hG' hF' => ?_
        rw [hTl] at h4
        exact hkk S' H' h4 h5 (Fin.keep (HK.out H' _ _ _ _ R1 ⟨fun h => absurd h HA.out, fun _ h => absurd h HT.out, fun _ _ => ⟨rfl, rfl, T1, o, hMid, by rw [Int.toNat_natCast]⟩⟩ hG' (hF.trans hF')))
      have GO := Lib.hid goOn
      clear goOn
      repeat' (first | (simp only [zmPack, zxPack, ne_eq, zfree, owners, Nat.reduceLT, List.contains_cons, List.contains_nil, Nat.reduceBEq, BEq.rfl, chunk, setAt, List.lookup_cons, List.lookup_nil, reduceCtorEq, Nat.reduceEqDiff, reduceIte, implies_true, forall_const, Nat.reduceMul, Nat.reduceSub, Nat.reduceAdd, Nat.reduceLeDiff, hb, hl3, g1, g2, g3, hpL, *]) | (simp only [zgoO, zgoG, zO_nil, zthen_normal, zgoC]) | (with_reducible apply And.intro) | (with_reducible intro _))
      refine young_z HM.out ?_
      obtain ⟨yc, hyc⟩ : ∃ yc, yc = (rising (ageB T 0)).length := ⟨_, rfl⟩
      have hym : ((rising (ageB T 0)).map eI).length = yc := by rw [hyc]; simp
      rw [← hyc] at hrl
      have HYC := Lib.hid hyc
      obtain ⟨yr, hyr⟩ : ∃ yr, yr = (rising (ageB T 0)).map eI := ⟨_, rfl⟩
      rw [← hyr] at hym ⊢
      clear hyc hyr
      by_cases hy : nu ≤ (yc : Int)
      · repeat' (first | (simp only [zmPack, zxPack, ne_eq, zfree, owners, Nat.reduceLT, List.contains_cons, List.contains_nil, Nat.reduceBEq, BEq.rfl, chunk, setAt, List.lookup_cons, List.lookup_nil, reduceCtorEq, Nat.reduceEqDiff, reduceIte, implies_true, forall_const, Nat.reduceMul, Nat.reduceSub, Nat.reduceAdd, Nat.reduceLeDiff, hb, hym, hy, *]) | (simp only [zgoO, zgoG, zO_nil, zthen_normal, zgoC]) | (with_reducible apply And.intro) | (with_reducible intro _))
        refine minor_z HM.out HR.out HRR.out HL.out fun H1 sb hS hG hF => ?_
        have G := Lib.hid (GO.out H1 (colT [0] sb T) [] hG hF (colT_len hS.len) (.inr ⟨by rw [← HYC.out]; exact hy, sb, hS, rfl, rfl⟩))
        clear hS hG hF GO
        repeat' (first | (simp only [zmPack, zxPack, ne_eq, zfree, owners, Nat.reduceLT, List.contains_cons, List.contains_nil, Nat.reduceBEq, BEq.rfl, chunk, setAt, List.lookup_cons, List.lookup_nil, reduceCtorEq, Nat.reduceEqDiff, reduceIte, implies_true, forall_const, Nat.reduceMul, Nat.reduceSub, Nat.reduceAdd, Nat.reduceLeDiff, *]) | (simp only [zgoO, zgoG, zO_nil, zthen_normal, zgoC]) | (with_reducible apply And.intro) | (with_reducible intro _))
        refine G.out _ _ (by simp [zupd]) (by simp [zupd]) fun S' H' h4 h5 hf => ?_
        show _ ∧ Fin H (.tuple [S' 4, S' 5]) H' K
        rw [h4, h5]; exact ⟨.inr rfl, hf⟩
      · have G := Lib.hid (GO.out H T R HM.out FrG.refl rfl (.inl ⟨by rw [← HYC.out]; omega, rfl, rfl⟩))
        clear GO
        repeat' (first | (simp only [zmPack, zxPack, ne_eq, zfree, owners, Nat.reduceLT, List.contains_cons, List.contains_nil, Nat.reduceBEq, BEq.rfl, chunk, setAt, List.lookup_cons, List.lookup_nil, reduceCtorEq, Nat.reduceEqDiff, reduceIte, implies_true, forall_const, Nat.reduceMul, Nat.reduceSub, Nat.reduceAdd, Nat.reduceLeDiff, hb, hym, hy, *]) | (simp only [zgoO, zgoG, zO_nil, zthen_normal, zgoC]) | (with_reducible apply And.intro) | (with_reducible intro _))
        refine G.out _ _ (by simp [zupd]) (by simp [zupd]) fun S' H' h4 h5 hf => ?_
        show _ ∧ Fin H (.tuple [S' 4, S' 5]) H' K
        rw [h4, h5]; exact ⟨.inr rfl, hf⟩
end Go.Proofs.Ytblgljahhhdlhaa

namespace Go.Proofs.Ytblgljahhhdlhaa
open Go Go.RowKit
set_option linter.unusedVariables false
set_option linter.unusedSimpArgs false
variable {U : Nat → Prop}
variable {tb : List (FuncId × Bool)} {nd : Bool} {L : Nat → Bool} {H : ZH} {K : ZV → ZH → Prop} {p t g m : Nat} {nu : Int} {T : List TB} {R : List Int}
theorem hold_key {n : Int} {b : Bool} : ((holdT T n b).2).map keyT = T.map keyT := by
  unfold holdT
  split
  · rfl
  · split
    · rfl
    · exact heldT_key
inductive DoG (nu : Int) (T : List TB) (R : List Int) (a b n : Int) : Int → Int → Int → List TB → List Int → Prop
  | new {r e : Int} {T' : List TB} {R' : List Int} : MadeG nu T R n r e T' R' → DoG nu T R a b n 1 r e T' R'
  | set : DoG nu T R a b n 2 0 (setT T R a b n).1 (setT T R a b n).2.1 (setT T R a b n).2.2
  | drop : DoG nu T R a b n 3 0 (holdT T a false).1 (holdT T a false).2 R
  | hold : DoG nu T R a b n 4 0 (holdT T a true).1 (holdT T a true).2 R
  | minor {sb : List Bool} : Stays T R sb → DoG nu T R a b n 6 (cntTo [0] sb T T.length) 0 (colT [0] sb T) []
  | major : DoG nu T R a b n 7 (cntTo [0, 1] (needT T) T T.length) 0 (colT [0, 1] (needT T) T) []
  | other {d : Int} : d ≠ 1 → d ≠ 2 → d ≠ 3 → d ≠ 4 → d ≠ 6 → d ≠ 7 → DoG nu T R a b n d 0 7 T R
set_option maxHeartbeats 4000000 in
theorem do_z {d a b n : Int} (h : GeAt U H p t g m nu T R) (hr : Rng T) (hR : ∀ r ∈ R, 0 ≤ r ∧ r < (T.length : Int)) (hL : ∀ i, L i = true) (hK : ∀ H' g' r e T' R', DoG nu T R a b n d r e T' R' → GeAt U H' p t g' m nu T' R' → FrG U p m H H' → K (.tuple [Z64 r, Z64 e]) H') :
    ZC (XG tb true) (cFunc Try.prog) 11 [.ptr p 0, .agg [Z64 d, Z64 a, Z64 b, Z64 n]] L H K := by
  refine ZC.enter Gh.no constX_none f_ge_do (by simp) ?_
  simp only [c_ge_do]
  have F : ∀ H' g' r e T' R', DoG nu T R a b n d r e T' R' → GeAt U H' p t g' m nu T' R' → FrG U p m (H ++ [ZB.box [Z64 d, Z64 a, Z64 b, Z64 n]]) H' → Fin H (.tuple [Z64 r, Z64 e]) H' K := fun H' g' r e T' R' h1 h2 h3 => Fin.keep (hK H' g' r e T' R' h1 h2 (FrG.ext.trans h3))
  have FF := Lib.hid F
  have HM := Lib.hid (h.ext [ZB.box [Z64 d, Z64 a, Z64 b, Z64 n]])
  have HR := Lib.hid hr
  have HRR := Lib.hid hR
  have HL := Lib.hid hL
  clear hK h hr hL F hR
  have a0 : ∀ A, (H ++ [A])[H.length]? = some A := fun A => atN0 rfl A []
  by_cases h1 : d = 1
  · subst h1
    have z1 : (1 : Int) = 1 := rfl
    repeat' (first | (simp only [zmPack, zxPack, ne_eq, zfree, owners, Nat.reduceLT, List.contains_cons, List.contains_nil, Nat.reduceBEq, BEq.rfl, chunk, setAt, List.lookup_cons, List.lookup_nil, reduceCtorEq, Nat.reduceEqDiff, reduceIte, implies_true, forall_const, Nat.reduceMul, Nat.reduceSub, Nat.reduceAdd, Nat.reduceLeDiff, a0, *]) | (simp only [zgoO, zgoG, zO_nil, zthen_normal, zgoC]) | (with_reducible apply And.intro) | (with_reducible intro _))
    refine make_z HM.out HR.out HRR.out HL.out fun H' g' r e T' R' q1 q2 q3 => ?_
    have fin := FF.out H' g' r e T' R' (.new q1) q2 q3
    clear q1 q2 q3
    repeat' (first | (simp only [zmPack, zxPack, ne_eq, zfree, owners, Nat.reduceLT, List.contains_cons, List.contains_nil, Nat.reduceBEq, BEq.rfl, chunk, setAt, List.lookup_cons, List.lookup_nil, reduceCtorEq, Nat.reduceEqDiff, reduceIte, implies_true, forall_const, Nat.reduceMul, Nat.reduceSub, Nat.reduceAdd, Nat.reduceLeDiff, *]) | (simp only [zgoO, zgoG, zO_nil, zthen_normal, zgoC]) | (with_reducible apply And.intro) | (with_reducible intro _))
  · by_cases h2 : d = 2
    · subst h2
      have e1 : ¬ ((2 : Int) = 1) := by omega
      repeat' (first | (simp only [zmPack, zxPack, ne_eq, zfree, owners, Nat.reduceLT, List.contains_cons, List.contains_nil, Nat.reduceBEq, BEq.rfl, chunk, setAt, List.lookup_cons, List.lookup_nil, reduceCtorEq, Nat.reduceEqDiff, reduceIte, implies_true, forall_const, Nat.reduceMul, Nat.reduceSub, Nat.reduceAdd, Nat.reduceLeDiff, a0, e1, *]) | (simp only [zgoO, zgoG, zO_nil, zthen_normal, zgoC]) | (with_reducible apply And.intro) | (with_reducible intro _))
      refine set_z HM.out HR.out HL.out fun H' q2 q3 => ?_
      have fin := FF.out H' g 0 _ _ _ .set q2 q3
      obtain ⟨e, he⟩ : ∃ e, e = (setT T R a b n).1 := ⟨_, rfl⟩
      rw [← he] at fin ⊢
      clear q2 q3 he
      repeat' (first | (simp only [zmPack, zxPack, ne_eq, zfree, owners, Nat.reduceLT, List.contains_cons, List.contains_nil, Nat.reduceBEq, BEq.rfl, chunk, setAt, List.lookup_cons, List.lookup_nil, reduceCtorEq, Nat.reduceEqDiff, reduceIte, implies_true, forall_const, Nat.reduceMul, Nat.reduceSub, Nat.reduceAdd, Nat.reduceLeDiff, *]) | (simp only [zgoO, zgoG, zO_nil, zthen_normal, zgoC]) | (with_reducible apply And.intro) | (with_reducible intro _))
    · by_cases h4 : d = 4
      · subst h4
        have e1 : ¬ ((4 : Int) = 1) := by omega
        have e2 : ¬ ((4 : Int) = 2) := by omega
        repeat' (first | (simp only [zmPack, zxPack, ne_eq, zfree, owners, Nat.reduceLT, List.contains_cons, List.contains_nil, Nat.reduceBEq, BEq.rfl, chunk, setAt, List.lookup_cons, List.lookup_nil, reduceCtorEq, Nat.reduceEqDiff, reduceIte, implies_true, forall_const, Nat.reduceMul, Nat.reduceSub, Nat.reduceAdd, Nat.reduceLeDiff, a0, e1, e2, *]) | (simp only [zgoO, zgoG, zO_nil, zthen_normal, zgoC]) | (with_reducible apply And.intro) | (with_reducible intro _))
        refine hold_z HM.out HR.out (HL.out _) ?_
        have hk : ((holdT T a true).2).map keyT = T.map keyT := hold_key
        have fin := FF.out _ g 0 _ _ _ .hold (HM.out.upd hk) HM.out.frT
        obtain ⟨e, he⟩ : ∃ e, e = (holdT T a true).1 := ⟨_, rfl⟩
        rw [← he] at fin ⊢
        obtain ⟨W, hW⟩ : ∃ W, W = thH (H ++ [.box [Z64 4, Z64 a, Z64 b, Z64 n]]) t g (holdT T a true).2 := ⟨_, rfl⟩
        rw [← hW] at fin ⊢
        clear he hk hW
        repeat' (first | (simp only [zmPack, zxPack, ne_eq, zfree, owners, Nat.reduceLT, List.contains_cons, List.contains_nil, Nat.reduceBEq, BEq.rfl, chunk, setAt, List.lookup_cons, List.lookup_nil, reduceCtorEq, Nat.reduceEqDiff, reduceIte, implies_true, forall_const, Nat.reduceMul, Nat.reduceSub, Nat.reduceAdd, Nat.reduceLeDiff, *]) | (simp only [zgoO, zgoG, zO_nil, zthen_normal, zgoC]) | (with_reducible apply And.intro) | (with_reducible intro _))
      · by_cases h3 : d = 3
        · subst h3
          have e1 : ¬ ((3 : Int) = 1) := by omega
          have e2 : ¬ ((3 : Int) = 2) := by omega
          have e3 : ¬ ((3 : Int) = 4) := by omega
          repeat' (first | (simp only [zmPack, zxPack, ne_eq, zfree, owners, Nat.reduceLT, List.contains_cons, List.contains_nil, Nat.reduceBEq, BEq.rfl, chunk, setAt, List.lookup_cons, List.lookup_nil, reduceCtorEq, Nat.reduceEqDiff, reduceIte, implies_true, forall_const, Nat.reduceMul, Nat.reduceSub, Nat.reduceAdd, Nat.reduceLeDiff, a0, e1, e2, e3, *]) | (simp only [zgoO, zgoG, zO_nil, zthen_normal, zgoC]) | (with_reducible apply And.intro) | (with_reducible intro _))
          refine hold_z HM.out HR.out (HL.out _) ?_
          have hk : ((holdT T a false).2).map keyT = T.map keyT := hold_key
          have fin := FF.out _ g 0 _ _ _ .drop (HM.out.upd hk) HM.out.frT
          obtain ⟨e, he⟩ : ∃ e, e = (holdT T a false).1 := ⟨_, rfl⟩
          rw [← he] at fin ⊢
          obtain ⟨W, hW⟩ : ∃ W, W = thH (H ++ [.box [Z64 3, Z64 a, Z64 b, Z64 n]]) t g (holdT T a false).2 := ⟨_, rfl⟩
          rw [← hW] at fin ⊢
          clear he hk hW
          repeat' (first | (simp only [zmPack, zxPack, ne_eq, zfree, owners, Nat.reduceLT, List.contains_cons, List.contains_nil, Nat.reduceBEq, BEq.rfl, chunk, setAt, List.lookup_cons, List.lookup_nil, reduceCtorEq, Nat.reduceEqDiff, reduceIte, implies_true, forall_const, Nat.reduceMul, Nat.reduceSub, Nat.reduceAdd, Nat.reduceLeDiff, *]) | (simp only [zgoO, zgoG, zO_nil, zthen_normal, zgoC]) | (with_reducible apply And.intro) | (with_reducible intro _))
        · by_cases h6 : d = 6
          · subst h6
            have e1 : ¬ ((6 : Int) = 1) := by omega
            have e2 : ¬ ((6 : Int) = 2) := by omega
            have e3 : ¬ ((6 : Int) = 4) := by omega
            have e4 : ¬ ((6 : Int) = 3) := by omega
            repeat' (first | (simp only [zmPack, zxPack, ne_eq, zfree, owners, Nat.reduceLT, List.contains_cons, List.contains_nil, Nat.reduceBEq, BEq.rfl, chunk, setAt, List.lookup_cons, List.lookup_nil, reduceCtorEq, Nat.reduceEqDiff, reduceIte, implies_true, forall_const, Nat.reduceMul, Nat.reduceSub, Nat.reduceAdd, Nat.reduceLeDiff, a0, e1, e2, e3, e4, *]) | (simp only [zgoO, zgoG, zO_nil, zthen_normal, zgoC]) | (with_reducible apply And.intro) | (with_reducible intro _))
            refine minor_z HM.out HR.out HRR.out HL.out fun H' sb hS hG hF => ?_
            have fin := FF.out H' g _ 0 _ _ (.minor hS) hG hF
            generalize cntTo [0] sb T T.length = cn at fin ⊢
            clear hS hG hF
            repeat' (first | (simp only [zmPack, zxPack, ne_eq, zfree, owners, Nat.reduceLT, List.contains_cons, List.contains_nil, Nat.reduceBEq, BEq.rfl, chunk, setAt, List.lookup_cons, List.lookup_nil, reduceCtorEq, Nat.reduceEqDiff, reduceIte, implies_true, forall_const, Nat.reduceMul, Nat.reduceSub, Nat.reduceAdd, Nat.reduceLeDiff, *]) | (simp only [zgoO, zgoG, zO_nil, zthen_normal, zgoC]) | (with_reducible apply And.intro) | (with_reducible intro _))
          · by_cases h7 : d = 7
            · subst h7
              have e1 : ¬ ((7 : Int) = 1) := by omega
              have e2 : ¬ ((7 : Int) = 2) := by omega
              have e3 : ¬ ((7 : Int) = 4) := by omega
              have e4 : ¬ ((7 : Int) = 3) := by omega
              have e5 : ¬ ((7 : Int) = 6) := by omega
              repeat' (first | (simp only [zmPack, zxPack, ne_eq, zfree, owners, Nat.reduceLT, List.contains_cons, List.contains_nil, Nat.reduceBEq, BEq.rfl, chunk, setAt, List.lookup_cons, List.lookup_nil, reduceCtorEq, Nat.reduceEqDiff, reduceIte, implies_true, forall_const, Nat.reduceMul, Nat.reduceSub, Nat.reduceAdd, Nat.reduceLeDiff, a0, e1, e2, e3, e4, e5, *]) | (simp only [zgoO, zgoG, zO_nil, zthen_normal, zgoC]) | (with_reducible apply And.intro) | (with_reducible intro _))
              refine major_z HM.out HR.out HL.out fun H' hG hF => ?_
              have fin := FF.out H' g _ 0 _ _ .major hG hF
              generalize cntTo [0, 1] (needT T) T T.length = cn at fin ⊢
              clear hG hF
              repeat' (first | (simp only [zmPack, zxPack, ne_eq, zfree, owners, Nat.reduceLT, List.contains_cons, List.contains_nil, Nat.reduceBEq, BEq.rfl, chunk, setAt, List.lookup_cons, List.lookup_nil, reduceCtorEq, Nat.reduceEqDiff, reduceIte, implies_true, forall_const, Nat.reduceMul, Nat.reduceSub, Nat.reduceAdd, Nat.reduceLeDiff, *]) | (simp only [zgoO, zgoG, zO_nil, zthen_normal, zgoC]) | (with_reducible apply And.intro) | (with_reducible intro _))
            · have fin := FF.out _ g 0 7 T R (.other h1 h2 h3 h4 h6 h7) HM.out FrG.refl
              repeat' (first | (simp only [zmPack, zxPack, ne_eq, zfree, owners, Nat.reduceLT, List.contains_cons, List.contains_nil, Nat.reduceBEq, BEq.rfl, chunk, setAt, List.lookup_cons, List.lookup_nil, reduceCtorEq, Nat.reduceEqDiff, reduceIte, implies_true, forall_const, Nat.reduceMul, Nat.reduceSub, Nat.reduceAdd, Nat.reduceLeDiff, a0, h1, h2, h3, h4, h6, h7, *]) | (simp only [zgoO, zgoG, zO_nil, zthen_normal, zgoC]) | (with_reducible apply And.intro) | (with_reducible intro _))
end Go.Proofs.Ytblgljahhhdlhaa

namespace Go.Proofs.Ytblgljahhhdlhaa
open Go Go.RowKit
set_option linter.unusedVariables false
set_option linter.unusedSimpArgs false
variable {T T' : List TB} {R R' : List Int} {nu : Int}
abbrev yF (T : List TB) (n : Nat) : Prop := Sn (ageB T 0) n
theorem yF_at {n : Nat} : yF T n ↔ ∃ x, T[n]? = some x ∧ x.2.2.1 = 0 := by
  unfold yF Sn ageB
  rw [List.getD_eq_getElem?_getD, List.getElem?_map]
  cases T[n]? with
  | none => simp
  | some x => simp
def yN (T : List TB) : Nat := T.countP fun x => decide (x.2.2.1 = 0)
theorem riseTo_cnt {sb : List Bool} : ∀ {k : Nat}, k ≤ sb.length → (riseTo sb k).length = (sb.take k).countP id
  | 0, _ => rfl
  | k + 1, h => by
    have hk : k < sb.length := by omega
    rw [riseTo_succ, List.take_succ_eq_append_getElem hk, List.countP_append, ← riseTo_cnt (by omega)]
    have : sb.getD k false = sb[k] := by simp [List.getD, hk]
    rw [this]
    cases sb[k] <;> simp
theorem young_cnt : (rising (ageB T 0)).length = yN T := by
  unfold rising
  rw [riseTo_cnt (Nat.le_refl _), List.take_of_length_le (Nat.le_refl _)]
  unfold ageB yN
  rw [List.countP_map]; rfl
structure Kp (T T' : List TB) : Prop where
  len : T'.length = T.length
  yng : ∀ n, yF T' n → yF T n
theorem yN_keep (h : T'.map (fun x => x.2.2.1) = T.map (fun x => x.2.2.1)) : yN T' = yN T ∧ Kp T T' := by
  have hb : ageB T' 0 = ageB T 0 := by
    have e : ∀ l : List TB, ageB l 0 = (l.map (fun x => x.2.2.1)).map (fun a => decide (a = 0)) := fun l => by unfold ageB; rw [List.map_map]; rfl
    rw [e, e, h]
  refine ⟨by rw [← young_cnt, ← young_cnt, hb], by have := congrArg List.length h; simpa using this, fun n hn => by unfold yF at hn ⊢; rw [← hb]; exact hn⟩
theorem set_ages {q : Nat} {x : TB} {y : Option Nat × List Int} {z : Int × Bool} (hx : T[q]? = some x) (hz : z.1 = x.2.2.1) : (T.set q (y.1, y.2, z)).map (fun x => x.2.2.1) = T.map (fun x => x.2.2.1) := by
  rw [List.map_set]
  exact set_same' (by rw [List.getElem?_map, hx]; simp [hz])
theorem col_mem {ages : List Int} {sb : List Bool} {x : TB} (h : x ∈ colT ages sb T) : ∃ y ∈ T, (x.2.1 = [] ∨ ∀ z ∈ x.2.1, z = -1 ∨ z ∈ y.2.1) ∧ x.2.1.length ≤ y.2.1.length ∧ (x.2.2.1 = y.2.2.1 ∧ y.2.2.1 ∉ ages ∨ x.2.2.1 = 1 ∨ x.2.2.1 = 2) := by
  unfold colT at h
  obtain ⟨w, hw, rfl⟩ := List.mem_map.1 h
  unfold colTo at hw
  rw [List.drop_of_length_le (Nat.le_refl _), List.append_nil, List.take_of_length_le (Nat.le_refl _)] at hw
  obtain ⟨y, b, hy, rfl⟩ := mem_zip hw
  refine ⟨y, hy, ?_⟩
  have hc : ∀ (l : List Int), ∀ z ∈ l.map (cutY (colTo ages sb T T.length)), z = -1 ∨ z ∈ l := fun l z hz => by
    obtain ⟨v, hv, rfl⟩ := List.mem_map.1 hz
    unfold cutY
    split
    · exact .inl rfl
    · exact .inr hv
  unfold colX
  split
  · split
    · exact ⟨.inr (hc _), by simp [cutX, ageX], .inr (.inl rfl)⟩
    · exact ⟨.inl rfl, by simp [cutX], .inr (.inr rfl)⟩
  · rename_i ha
    exact ⟨.inr (hc _), by simp [cutX], .inl ⟨rfl, ha⟩⟩
theorem col_keep {ages : List Int} {sb : List Bool} (hs : sb.length = T.length) (h0 : (0 : Int) ∈ ages) (hr : Rng T) : Rng (colT ages sb T) ∧ yN (colT ages sb T) = 0 ∧ Kp T (colT ages sb T) := by
  have hl := colT_len (T := T) (ages := ages) hs
  have hage : ∀ x ∈ colT ages sb T, x.2.2.1 ≠ 0 := fun x hx e => by
    obtain ⟨y, _, _, _, h1 | h1 | h1⟩ := col_mem hx
    · rw [← h1.1, e] at h1; exact h1.2 h0
    · omega
    · omega
  refine ⟨⟨by rw [hl]; exact hr.len, fun x hx => ?_, fun x hx z hz => ?_⟩, ?_, hl, fun n hn => ?_⟩
  · obtain ⟨y, hy, _, h2, _⟩ := col_mem hx
    have := hr.sm y hy; omega
  · obtain ⟨y, hy, h1, _, _⟩ := col_mem hx
    rw [hl]
    rcases h1 with h1 | h1
    · rw [h1] at hz; cases hz
    · rcases h1 z hz with rfl | h
      · omega
      · exact hr.rng y hy z h
  · unfold yN
    rw [List.countP_eq_zero]
    intro x hx; simpa using hage x hx
  · obtain ⟨x, hx, ha⟩ := yF_at.1 hn
    exact absurd ha (hage x (List.mem_of_getElem? hx))
theorem cnt_young {sb : List Bool} : cntTo [0] sb T T.length ≤ yN T := by
  unfold cntTo yN
  rw [List.take_of_length_le (Nat.le_refl _)]
  induction T generalizing sb with
  | nil => simp
  | cons x T ih =>
    cases sb with
    | nil => simp
    | cons b sb =>
      have := ih (sb := sb)
      rw [List.zip_cons_cons, List.filter_cons, List.countP_cons]
      simp only [List.mem_singleton] at this ⊢
      by_cases h : x.2.2.1 = 0
      · cases b <;> simp [h] <;> omega
      · simp [h]; exact this
end Go.Proofs.Ytblgljahhhdlhaa

namespace Go.Proofs.Ytblgljahhhdlhaa
open Go Go.RowKit
set_option linter.unusedVariables false
set_option linter.unusedSimpArgs false
variable {T T' T2 : List TB} {R R' : List Int} {nu : Int}
inductive Nd (e : Nat → Nat → Prop) (r : Nat → Prop) : Nat → Prop
  | root {n : Nat} : r n → Nd e r n
  | edge {n k : Nat} : Nd e r n → e n k → Nd e r k
def cF (T : List TB) (n : Nat) : Int := ((T[n]?).map fun x => x.2.2.1).getD 3
def eF (T : List TB) (n k : Nat) : Prop := ∃ x, T[n]? = some x ∧ (k : Int) ∈ x.2.1
def rF (T : List TB) (n : Nat) : Prop := ∃ x, T[n]? = some x ∧ x.2.2.2 = true
theorem cF_at {n : Nat} {x : TB} (h : T[n]? = some x) : cF T n = x.2.2.1 := by unfold cF; rw [h]; rfl
theorem cF_no {n : Nat} (h : T.length ≤ n) : cF T n = 3 := by unfold cF; rw [List.getElem?_eq_none h]; rfl
theorem rF_held {n : Nat} : rF T n ↔ Sn (heldB T) n := by
  unfold rF Sn heldB
  rw [List.getD_eq_getElem?_getD, List.getElem?_map]
  cases T[n]? with
  | none => simp
  | some x => simp
theorem eF_lt (hr : Rng T) {n k : Nat} (h : eF T n k) : n < T.length ∧ k < T.length := by
  obtain ⟨x, hx, hm⟩ := h
  have := hr.rng x (List.mem_of_getElem? hx) _ hm
  exact ⟨(List.getElem?_eq_some_iff.1 hx).1, by omega⟩
theorem rF_lt {n : Nat} (h : rF T n) : n < T.length := by obtain ⟨x, hx, _⟩ := h; exact (List.getElem?_eq_some_iff.1 hx).1
theorem has_mem {n : Nat} {y : Int} : y ∈ (hasOf T).getD n [] ↔ 0 ≤ y ∧ eF T n y.toNat := by
  unfold hasOf eF
  rw [List.getD_eq_getElem?_getD, List.getElem?_map]
  cases T[n]? with
  | none => simp
  | some x =>
    simp only [Option.map_some, Option.getD_some, keepN, List.mem_filter]
    constructor
    · rintro ⟨h1, h2⟩
      have h2 : ¬ y < 0 := by simpa using h2
      exact ⟨by omega, x, rfl, by rw [Int.toNat_of_nonneg (by omega)]; exact h1⟩
    · rintro ⟨h0, z, hz, hm⟩
      injection hz with hz
      subst hz
      rw [Int.toNat_of_nonneg h0] at hm
      exact ⟨hm, by simp; omega⟩
theorem liv_nd {n : Nat} : Liv (hasOf T) [] (rising (heldB T)) n ↔ Nd (eF T) (rF T) n := by
  constructor
  · intro h
    refine h (Nd (eF T) (rF T)) (fun n hn y hy => ?_) (fun p hp => (by cases hp)) (fun x hx => ?_)
    · exact .edge hn (has_mem.1 hy).2
    · exact .root (rF_held.2 (mem_rising.1 hx).2)
  · intro h
    induction h with
    | @root n hr =>
      have : ((n : Nat) : Int) ∈ rising (heldB T) := mem_rising.2 ⟨by omega, by rw [Int.toNat_natCast]; exact rF_held.1 hr⟩
      have := Liv.base (has := hasOf T) (ps := []) this
      rwa [Int.toNat_natCast] at this
    | @edge n k _ he ih =>
      have := Liv.cl (hasOf T) [] (rising (heldB T)) n ih (k : Int) (has_mem.2 ⟨by omega, by rw [Int.toNat_natCast]; exact he⟩)
      rwa [Int.toNat_natCast] at this
theorem nd_lt (hr : Rng T) {n : Nat} (h : Nd (eF T) (rF T) n) : n < T.length := by
  cases h with
  | root h => exact rF_lt h
  | edge _ h => exact (eF_lt hr h).2
theorem need_nd (hr : Rng T) {n : Nat} : Sn (needT T) n ↔ Nd (eF T) (rF T) n := by
  unfold needT
  rw [Sn_liveSb, liv_nd, hasOf_len]
  exact ⟨fun h => h.2, fun h => ⟨nd_lt hr h, h⟩⟩
theorem cF_set {n k : Nat} {x y : TB} (hx : T[n]? = some x) : cF (T.set n y) k = if k = n then y.2.2.1 else cF T k := by
  have hn := (List.getElem?_eq_some_iff.1 hx).1
  split
  · rename_i e; subst e; exact cF_at (List.getElem?_set_self hn)
  · rename_i e; unfold cF; rw [List.getElem?_set_ne (fun q => e q.symm)]
theorem Rng.set {a : Nat} {x : TB} (h : Rng T) (hx : T[a]? = some x) {pl : List Int} {y : Int × Bool} {o : Option Nat} (hl : pl.length ≤ 10) (hp : ∀ z ∈ pl, z < (T.length : Int)) : Rng (T.set a (o, pl, y)) := by
  refine ⟨by rw [List.length_set]; exact h.len, fun z hz => ?_, fun z hz w hw => ?_⟩
  · rcases List.mem_or_eq_of_mem_set hz with hz | rfl
    · exact h.sm z hz
    · exact hl
  · rw [List.length_set]
    rcases List.mem_or_eq_of_mem_set hz with hz | rfl
    · exact h.rng z hz w hw
    · exact hp w hw
theorem eF_set {a n k : Nat} {x y : TB} (hx : T[a]? = some x) : eF (T.set a y) n k ↔ if n = a then (k : Int) ∈ y.2.1 else eF T n k := by
  have ha := (List.getElem?_eq_some_iff.1 hx).1
  unfold eF
  split
  · rename_i e; subst e
    rw [List.getElem?_set_self ha]
    exact ⟨fun ⟨z, hz, hm⟩ => by injection hz with hz; subst hz; exact hm, fun h => ⟨y, rfl, h⟩⟩
  · rename_i e
    rw [List.getElem?_set_ne (fun q => e q.symm)]
theorem rF_set {a n : Nat} {x y : TB} (hx : T[a]? = some x) : rF (T.set a y) n ↔ if n = a then y.2.2.2 = true else rF T n := by
  have ha := (List.getElem?_eq_some_iff.1 hx).1
  unfold rF
  split
  · rename_i e; subst e
    rw [List.getElem?_set_self ha]
    exact ⟨fun ⟨z, hz, hm⟩ => by injection hz with hz; subst hz; exact hm, fun h => ⟨y, rfl, h⟩⟩
  · rename_i e
    rw [List.getElem?_set_ne (fun q => e q.symm)]
theorem named_nd (hr : Rng T) {l : List Int} (h : namedE T l = 0) {z : Int} (hz : z ∈ l) : 0 ≤ z ∧ z < (T.length : Int) ∧ Nd (eF T) (rF T) z.toNat := by
  obtain ⟨h1, h2⟩ := namedE_zero h
  exact ⟨(h1 z hz).1, (h1 z hz).2, (need_nd hr).1 (h2 z hz)⟩
theorem app_at {x : TB} {n : Nat} : (T ++ [x])[n]? = if n = T.length then some x else T[n]? := by
  split
  · rename_i e; subst e; simp
  · rename_i e
    by_cases h : n < T.length
    · rw [List.getElem?_append_left h]
    · rw [List.getElem?_eq_none (by simp; omega), List.getElem?_eq_none (by omega)]
abbrev NdT (T : List TB) (n : Nat) : Prop := Nd (eF T) (rF T) n
theorem yF_c {n : Nat} : yF T n ↔ cF T n = 0 := by
  rw [yF_at]; unfold cF
  cases T[n]? with
  | none => simp
  | some x => simp
theorem yngB_c {n : Nat} : yngB T n = true ↔ cF T n = 0 := by
  rw [← yF_c]; unfold yngB; simp; rfl
/-! ### What a collection leaves -/
section
variable {ages : List Int} {sb : List Bool}
theorem zip_at {α β γ : Type} {f : α → β → γ} : ∀ {l : List α} {l2 : List β} {n : Nat}, (l.zipWith f l2)[n]? = match l[n]?, l2[n]? with | some a, some b => some (f a b) | _, _ => none
  | [], l2, n => by simp
  | a :: l, [], n => by cases n <;> simp <;> split <;> simp_all
  | a :: l, b :: l2, 0 => by simp
  | a :: l, b :: l2, n + 1 => by simpa using zip_at (l := l) (l2 := l2) (n := n)
theorem col_to (hs : sb.length = T.length) {n : Nat} {x : TB} (hx : T[n]? = some x) : (colTo ages sb T T.length)[n]? = some (colX ages (sb.getD n false) x) := by
  have hn := (List.getElem?_eq_some_iff.1 hx).1
  have hb : sb[n]? = some (sb.getD n false) := by rw [List.getD_eq_getElem?_getD, List.getElem?_eq_getElem (by omega)]; rfl
  unfold colTo
  rw [List.drop_of_length_le (Nat.le_refl _), List.append_nil, List.take_of_length_le (Nat.le_refl _), zip_at, hx, hb]
theorem col_at (hs : sb.length = T.length) {n : Nat} {x : TB} (hx : T[n]? = some x) : (colT ages sb T)[n]? = some (cutX (colTo ages sb T T.length) (colX ages (sb.getD n false) x)) := by
  unfold colT; rw [List.getElem?_map, col_to hs hx]; rfl
theorem col_inv (hs : sb.length = T.length) {n : Nat} {z : TB} (hz : (colT ages sb T)[n]? = some z) : ∃ x, T[n]? = some x ∧ z = cutX (colTo ages sb T T.length) (colX ages (sb.getD n false) x) := by
  have hn := (List.getElem?_eq_some_iff.1 hz).1
  rw [colT_len hs] at hn
  have hx : T[n]? = some T[n] := List.getElem?_eq_getElem hn
  rw [col_at hs hx] at hz
  injection hz with hz
  exact ⟨_, hx, hz.symm⟩
theorem col_age (hs : sb.length = T.length) {n : Nat} {x : TB} (hx : T[n]? = some x) : cF (colT ages sb T) n = if x.2.2.1 ∈ ages then (if Sn sb n then 1 else 2) else x.2.2.1 := by
  rw [cF_at (col_at hs hx)]
  show (colX ages (sb.getD n false) x).2.2.1 = _
  unfold colX
  split
  · by_cases hb : sb.getD n false = true
    · rw [if_pos hb, if_pos (show Sn sb n from hb)]; rfl
    · rw [if_neg hb, if_neg (show ¬ Sn sb n from hb)]
  · rfl
theorem cut_c (hs : sb.length = T.length) {y : Int} : cutY (colTo ages sb T T.length) y = if 0 ≤ y ∧ y.toNat < T.length ∧ cF (colT ages sb T) y.toNat = 2 then -1 else y := by
  unfold cutY
  by_cases hy : y.toNat < T.length
  · have hx : T[y.toNat]? = some T[y.toNat] := List.getElem?_eq_getElem hy
    rw [col_to hs hx, cF_at (col_at hs hx)]
    simp [hy, cutX]
  · have hl : (colTo ages sb T T.length)[y.toNat]? = none := List.getElem?_eq_none (by rw [colTo_len hs]; omega)
    rw [hl]; simp [hy]
end
structure Alk (T T' : List TB) : Prop where
  len : T'.length = T.length
  pl : ∀ n, NdT T n → ∀ x x' : TB, T[n]? = some x → T'[n]? = some x' → x'.2.1 = x.2.1 ∧ x'.2.2.2 = x.2.2.2
  rt : ∀ n, rF T' n → rF T n
theorem Alk.get (h : Alk T T') {n : Nat} {x : TB} (hx : T[n]? = some x) : ∃ x', T'[n]? = some x' := by
  have := (List.getElem?_eq_some_iff.1 hx).1
  exact ⟨_, List.getElem?_eq_getElem (by rw [h.len]; exact this)⟩
theorem Alk.get' (h : Alk T T') {n : Nat} {x : TB} (hx : T'[n]? = some x) : ∃ x', T[n]? = some x' := by
  have := (List.getElem?_eq_some_iff.1 hx).1
  exact ⟨_, List.getElem?_eq_getElem (by rw [← h.len]; exact this)⟩
theorem Alk.nd (h : Alk T T') {n : Nat} : NdT T' n ↔ NdT T n := by
  constructor
  · intro hn
    induction hn with
    | root hr => exact .root (h.rt _ hr)
    | @edge n k _ he ih =>
      obtain ⟨x', hx', hm⟩ := he
      obtain ⟨x, hx⟩ := h.get' hx'
      exact .edge ih ⟨x, hx, by rw [← (h.pl n ih x x' hx hx').1]; exact hm⟩
  · intro hn
    induction hn with
    | @root n hr =>
      obtain ⟨x, hx, hh⟩ := hr
      obtain ⟨x', hx'⟩ := h.get hx
      exact .root ⟨x', hx', by rw [(h.pl n (.root ⟨x, hx, hh⟩) x x' hx hx').2]; exact hh⟩
    | @edge n k hn he ih =>
      obtain ⟨x, hx, hm⟩ := he
      obtain ⟨x', hx'⟩ := h.get hx
      exact .edge ih ⟨x', hx', by rw [(h.pl n hn x x' hx hx').1]; exact hm⟩
theorem Alk.root (h : Alk T T') {n : Nat} : rF T' n ↔ rF T n := ⟨h.rt n, fun hr => by
  obtain ⟨x, hx, hh⟩ := hr
  obtain ⟨x', hx'⟩ := h.get hx
  exact ⟨x', hx', by rw [(h.pl n (.root ⟨x, hx, hh⟩) x x' hx hx').2]; exact hh⟩⟩
theorem Alk.symm (h : Alk T T') : Alk T' T := ⟨h.len.symm, fun n hn x x' hx hx' => by
  have := h.pl n (h.nd.1 hn) x' x hx' hx
  exact ⟨this.1.symm, this.2.symm⟩, fun n hn => h.root.2 hn⟩
theorem Alk.trans (h : Alk T T') (h2 : Alk T' T2) : Alk T T2 := ⟨h2.len.trans h.len, fun n hn x x2 hx hx2 => by
  obtain ⟨x', hx'⟩ := h.get hx
  have a := h.pl n hn x x' hx hx'
  have b := h2.pl n (h.nd.2 hn) x' x2 hx' hx2
  exact ⟨b.1.trans a.1, b.2.trans a.2⟩, fun n hn => h.rt n (h2.rt n hn)⟩
theorem Alk.refl : Alk T T := ⟨rfl, fun n _ x x' hx hx' => by rw [hx] at hx'; injection hx' with e; subst e; exact ⟨rfl, rfl⟩, fun _ h => h⟩
structure GI (nu : Int) (T : List TB) (R : List Int) : Prop where
  rng : Rng T
  rr : ∀ r ∈ R, 0 ≤ r ∧ r < (T.length : Int)
  ro : ∀ r ∈ R, cF T r.toNat ≠ 0
  yc : (yN T : Int) ≤ nu
  ag : ∀ (n : Nat) x, T[n]? = some x → x.2.2.1 = 0 ∨ x.2.2.1 = 1 ∨ x.2.2.1 = 2
  gn : ∀ (n : Nat) x, T[n]? = some x → x.2.2.1 = 2 → x.2.1 = [] ∧ x.2.2.2 = false
  ng : ∀ n k, eF T n k → cF T k ≠ 2
  rem : ∀ n k, eF T n k → cF T n ≠ 0 → cF T k = 0 → (n : Int) ∈ R
theorem GI.live (h : GI nu T R) {n : Nat} (hn : NdT T n) : cF T n ≠ 2 := by
  cases hn with
  | root hr =>
    obtain ⟨x, hx, hh⟩ := hr
    rw [cF_at hx]
    intro e
    rw [(h.gn n x hx e).2] at hh; cases hh
  | edge _ he => exact h.ng _ _ he
theorem GI.start (hnu : 1 ≤ nu) : GI nu [] [] := by
  refine ⟨⟨by simp, by simp, by simp⟩, by simp, by simp, by simp [yN]; omega, fun n x hx => by simp at hx, fun n x hx => by simp at hx, fun n k h => ?_, fun n k h => ?_⟩ <;> (obtain ⟨x, hx, _⟩ := h; simp at hx)
theorem GI.col {ages : List Int} {sb : List Bool} (h : GI nu T R) (hnu : 0 ≤ nu) (hs : sb.length = T.length) (h0 : (0 : Int) ∈ ages) (hkeep : ∀ n, NdT T n → cF T n ∈ ages → Sn sb n) :
    GI nu (colT ages sb T) [] ∧ yN (colT ages sb T) = 0 ∧ Kp T (colT ages sb T) ∧ Alk T (colT ages sb T) := by
  obtain ⟨k1, k2, k3⟩ := col_keep (ages := ages) (sb := sb) hs h0 h.rng
  have hno : ∀ n, cF (colT ages sb T) n ≠ 0 := fun n hc => by
    have : yF (colT ages sb T) n := yF_c.2 hc
    have hp : 0 < yN (colT ages sb T) := by
      obtain ⟨x, hx, ha⟩ := yF_at.1 this
      unfold yN
      exact List.countP_pos_iff.2 ⟨x, List.mem_of_getElem? hx, by simpa using ha⟩
    omega
  have hlive : ∀ n, NdT T n → cF (colT ages sb T) n ≠ 2 := fun n hn => by
    have hl := nd_lt h.rng hn
    have hx : T[n]? = some T[n] := List.getElem?_eq_getElem hl
    have h1 := h.live hn
    have h2 := hkeep n hn
    rw [cF_at hx] at h1 h2
    rw [col_age hs hx]
    split
    · rename_i ha; rw [if_pos (h2 ha)]; decide
    · exact h1
  refine ⟨⟨k1, by simp, by simp, by omega, fun n z hz => ?_, fun n z hz ha => ?_, fun n k he hc => ?_, fun n k _ _ hc => absurd hc (hno k)⟩, k2, k3, ⟨colT_len hs, fun n hn x z hx hz => ?_, fun n hn => ?_⟩⟩
  · obtain ⟨x, hx, rfl⟩ := col_inv hs hz
    have := col_age (ages := ages) hs hx
    rw [cF_at hz] at this
    rw [this]
    split
    · split
      · exact .inr (.inl rfl)
      · exact .inr (.inr rfl)
    · exact h.ag n x hx
  · obtain ⟨x, hx, rfl⟩ := col_inv hs hz
    unfold colX at ha ⊢
    split at ha
    · rename_i hm
      rw [if_pos hm]
      split at ha
      · cases ha
      · rename_i hb
        rw [if_neg hb]; exact ⟨rfl, rfl⟩
    · rename_i hm
      rw [if_neg hm]
      have := h.gn n x hx ha
      exact ⟨by simp [cutX, this.1], by simp [cutX, this.2]⟩
  · obtain ⟨z, hz, hm⟩ := he
    obtain ⟨x, hx, rfl⟩ := col_inv hs hz
    obtain ⟨y, hy, hk⟩ := List.mem_map.1 (show (k : Int) ∈ (colX ages (sb.getD n false) x).2.1.map (cutY (colTo ages sb T T.length)) from hm)
    rw [cut_c hs] at hk
    split at hk
    · omega
    · rename_i hq
      subst hk
      rw [Int.toNat_natCast] at hq
      refine hq ⟨by omega, ?_, hc⟩
      apply Decidable.byContradiction
      intro hl
      have : cF (colT ages sb T) k = 3 := cF_no (by rw [colT_len hs]; omega)
      omega
  · rw [col_at hs hx] at hz
    injection hz with hz
    subst hz
    have h1 := h.live hn
    have h2 := hkeep n hn
    rw [cF_at hx] at h1 h2
    have hcx : (colX ages (sb.getD n false) x).2.1 = x.2.1 ∧ (colX ages (sb.getD n false) x).2.2.2 = x.2.2.2 := by
      unfold colX
      split
      · rename_i ha
        rw [if_pos (show sb.getD n false = true from h2 ha)]; exact ⟨rfl, rfl⟩
      · exact ⟨rfl, rfl⟩
    refine ⟨?_, hcx.2⟩
    show (colX ages (sb.getD n false) x).2.1.map (cutY (colTo ages sb T T.length)) = x.2.1
    rw [hcx.1]
    refine (List.map_congr_left fun y hy => ?_).trans (List.map_id _)
    rw [cut_c hs, if_neg]
    · rfl
    · rintro ⟨q1, q2, q3⟩
      exact hlive y.toNat (.edge hn ⟨x, hx, by rw [Int.toNat_of_nonneg q1]; exact hy⟩) q3
  · obtain ⟨z, hz, hh⟩ := hn
    obtain ⟨x, hx, rfl⟩ := col_inv hs hz
    refine ⟨x, hx, ?_⟩
    unfold colX at hh
    split at hh
    · split at hh
      · exact hh
      · cases hh
    · exact hh
theorem stays_keep {sb : List Bool} (h : GI nu T R) (hs : Stays T R sb) : ∀ n, NdT T n → cF T n ∈ [(0 : Int)] → Sn sb n := by
  intro n hn
  induction hn with
  | @root n hr =>
    intro hc
    obtain ⟨x, hx, hh⟩ := hr
    rw [cF_at hx] at hc
    exact hs.held n x hx hh (by simpa using hc)
  | @edge n k hn he ih =>
    intro hc
    have hc : cF T k = 0 := by simpa using hc
    obtain ⟨x, hx, hm⟩ := he
    have hy : yngB T (k : Int) = true := yngB_c.2 hc
    by_cases hn0 : cF T n = 0
    · have := hs.cl n (ih (by simp [hn0])) x hx k hm hy
      rwa [Int.toNat_natCast] at this
    · have hR := h.rem n k ⟨x, hx, hm⟩ hn0 hc
      have := hs.rem n hR x (by rw [Int.toNat_natCast]; exact hx) k hm hy
      rwa [Int.toNat_natCast] at this
theorem GI.minor {sb : List Bool} (h : GI nu T R) (hnu : 0 ≤ nu) (hs : Stays T R sb) : GI nu (colT [0] sb T) [] ∧ yN (colT [0] sb T) = 0 ∧ Kp T (colT [0] sb T) ∧ Alk T (colT [0] sb T) :=
  h.col hnu hs.len (by simp) (stays_keep h hs)
theorem need_len (T : List TB) : (needT T).length = T.length := by unfold needT; rw [liveSb_length, hasOf_len]
theorem GI.major (h : GI nu T R) (hnu : 0 ≤ nu) : GI nu (colT [0, 1] (needT T) T) [] ∧ yN (colT [0, 1] (needT T) T) = 0 ∧ Kp T (colT [0, 1] (needT T) T) ∧ Alk T (colT [0, 1] (needT T) T) :=
  h.col hnu (need_len T) (by simp) (fun n hn _ => (need_nd h.rng).2 hn)
end Go.Proofs.Ytblgljahhhdlhaa

namespace Go.Proofs.Ytblgljahhhdlhaa
open Go Go.RowKit
set_option linter.unusedVariables false
set_option linter.unusedSimpArgs false
variable {T T' T1 T2 T1' T2' : List TB} {R R' R1 R2 R1' R2' : List Int} {nu nu1 nu2 a b n d r e r1 r2 e1 e2 : Int}
theorem Nd.sub {e e' : Nat → Nat → Prop} {r r' : Nat → Prop} (hr : ∀ n, r' n → Nd e r n) (he : ∀ n k, e' n k → e n k ∨ Nd e r k) {n : Nat} (h : Nd e' r' n) : Nd e r n := by
  induction h with
  | root h => exact hr _ h
  | edge _ h ih => exact (he _ _ h).elim (fun q => .edge ih q) id
theorem app_facts {q : Nat} {o : Option Nat} (hr : Rng T) (hq : q ≤ 10) (hl : T.length < 100) :
    Rng (T ++ [newTh q o]) ∧ (∀ k, cF (T ++ [newTh q o]) k = if k = T.length then 0 else cF T k) ∧
    (∀ a k, eF (T ++ [newTh q o]) a k ↔ eF T a k) ∧ (∀ a, rF (T ++ [newTh q o]) a ↔ rF T a ∨ a = T.length) ∧ yN (T ++ [newTh q o]) = yN T + 1 := by
  refine ⟨⟨by simp; omega, fun x hx => ?_, fun x hx y hy => ?_⟩, fun k => ?_, fun a k => ?_, fun a => ?_, ?_⟩
  · rcases List.mem_append.1 hx with hx | hx
    · exact hr.sm x hx
    · rw [List.mem_singleton.1 hx]; simp [newTh]; omega
  · rcases List.mem_append.1 hx with hx | hx
    · have := hr.rng x hx y hy; simp; omega
    · rw [List.mem_singleton.1 hx] at hy
      have := (List.mem_replicate.1 hy).2
      simp; omega
  · unfold cF; rw [app_at]; split <;> rfl
  · unfold eF
    by_cases ha : a = T.length
    · rw [app_at, if_pos ha]
      constructor
      · rintro ⟨x, hx, h⟩
        injection hx with hx
        subst hx
        have := (List.mem_replicate.1 h).2
        omega
      · rintro ⟨x, hx, h⟩
        rw [ha, List.getElem?_eq_none (Nat.le_refl _)] at hx; cases hx
    · rw [app_at, if_neg ha]
  · unfold rF
    by_cases ha : a = T.length
    · rw [app_at, if_pos ha]
      exact ⟨fun _ => .inr ha, fun _ => ⟨_, rfl, rfl⟩⟩
    · rw [app_at, if_neg ha]
      exact ⟨fun h => .inl h, fun h => h.elim id fun q => absurd q ha⟩
  · unfold yN; rw [List.countP_append]; rfl
theorem GI.app {q : Nat} {o : Option Nat} (h : GI nu T R) (hq : q ≤ 10) (hl : T.length < 100) (hy : (yN T : Int) < nu) : GI nu (T ++ [newTh q o]) R := by
  obtain ⟨f1, f2, f3, f4, f5⟩ := app_facts (o := o) h.rng hq hl
  refine ⟨f1, fun r hr => by have := h.rr r hr; simp; omega, fun r hr => ?_, by rw [f5]; omega, fun n x hx => ?_, fun n x hx ha => ?_, fun n k he => ?_, fun n k he hn hk => ?_⟩
  · have h1 := h.rr r hr
    rw [f2, if_neg (by omega)]; exact h.ro r hr
  · rw [app_at] at hx
    split at hx
    · injection hx with hx; subst hx; exact .inl rfl
    · exact h.ag n x hx
  · rw [app_at] at hx
    split at hx
    · injection hx with hx; subst hx; cases ha
    · exact h.gn n x hx ha
  · have he := (f3 n k).1 he
    rw [f2, if_neg (by have := (eF_lt h.rng he).2; omega)]
    exact h.ng n k he
  · have he := (f3 n k).1 he
    have hlt := eF_lt h.rng he
    rw [f2, if_neg (by omega)] at hn hk
    exact h.rem n k he hn hk
theorem Alk.app {q : Nat} {o1 o2 : Option Nat} (s : Alk T1 T2) (h1 : Rng T1) (h2 : Rng T2) (hq : q ≤ 10) (hl : T1.length < 100) : Alk (T1 ++ [newTh q o1]) (T2 ++ [newTh q o2]) := by
  have hlen := s.len
  obtain ⟨-, -, f3, f4, -⟩ := app_facts (o := o1) h1 hq hl
  obtain ⟨-, -, -, g4, -⟩ := app_facts (o := o2) h2 hq (by omega)
  have hnd : ∀ n, NdT (T1 ++ [newTh q o1]) n → NdT T1 n ∨ n = T1.length := fun n hn => by
    induction hn with
    | @root n hr => exact ((f4 n).1 hr).elim (fun h => .inl (.root h)) .inr
    | @edge n k _ he ih =>
      have he := (f3 n k).1 he
      rcases ih with ih | ih
      · exact .inl (.edge ih he)
      · have := (eF_lt h1 he).1; omega
  refine ⟨by simp [hlen], fun n hn x x' hx hx' => ?_, fun n hn => ?_⟩
  · rw [app_at] at hx hx'
    split at hx
    · rename_i en
      rw [if_pos (by omega)] at hx'
      injection hx with hx; injection hx' with hx'
      subst hx; subst hx'; exact ⟨rfl, rfl⟩
    · rename_i en
      rw [if_neg (by omega)] at hx'
      exact s.pl n ((hnd n hn).resolve_right en) x x' hx hx'
  · rcases (g4 n).1 hn with q | q
    · exact (f4 n).2 (.inl (s.rt n q))
    · exact (f4 n).2 (.inr (by omega))
theorem Alk.set {q : Nat} {x1 x2 y1 y2 : TB} (s : Alk T1 T2) (hx1 : T1[q]? = some x1) (hx2 : T2[q]? = some x2) (hp : y2.2.1 = y1.2.1) (hh : y2.2.2.2 = y1.2.2.2) (hnd : ∀ n, NdT (T1.set q y1) n → NdT T1 n) : Alk (T1.set q y1) (T2.set q y2) := by
  have hlen := s.len
  refine ⟨by simp [hlen], fun n hn x x' hx hx' => ?_, fun n hn => ?_⟩
  · by_cases e : q = n
    · subst e
      rw [List.getElem?_set_self (List.getElem?_eq_some_iff.1 hx1).1] at hx
      rw [List.getElem?_set_self (List.getElem?_eq_some_iff.1 hx2).1] at hx'
      injection hx with hx; injection hx' with hx'
      subst hx; subst hx'; exact ⟨hp, hh⟩
    · rw [List.getElem?_set_ne e] at hx hx'
      exact s.pl n (hnd n hn) x x' hx hx'
  · rw [rF_set hx2] at hn
    rw [rF_set hx1]
    split at hn
    · rename_i e; rw [if_pos e, ← hh]; exact hn
    · rename_i e; rw [if_neg e]; exact s.rt n hn
theorem named_sim (s : Alk T1 T2) (h1 : Rng T1) (h2 : Rng T2) {l : List Int} : namedE T2 l = namedE T1 l := by
  unfold namedE
  rw [s.len]
  have : ∀ n : Nat, Sn (needT T2) n ↔ Sn (needT T1) n := fun n => by rw [need_nd h1, need_nd h2]; exact s.nd
  have e : (∀ n ∈ l, Sn (needT T2) n.toNat) ↔ (∀ n ∈ l, Sn (needT T1) n.toNat) := ⟨fun h n hn => (this _).1 (h n hn), fun h n hn => (this _).2 (h n hn)⟩
  simp only [e]
/-! ### hold -/
theorem holdT_cases {b : Bool} (h : Rng T) (n : Int) (b : Bool) : (holdT T n b).2 = T ∨ ∃ (q : Nat) (x : TB), n = q ∧ T[q]? = some x ∧ NdT T q ∧ (holdT T n b) = (0, T.set q (x.1, x.2.1, x.2.2.1, b)) := by
  unfold holdT
  split
  · exact .inl rfl
  · rename_i he
    have he := Decidable.not_not.1 he
    split
    · exact .inl rfl
    · obtain ⟨h0, h1, hnd⟩ := named_nd h he (z := n) (by simp)
      obtain ⟨q, rfl⟩ := Int.eq_ofNat_of_zero_le h0
      rw [Int.toNat_natCast] at hnd ⊢
      have hx : T[q]? = some (T[q]'(by omega)) := List.getElem?_eq_getElem _
      refine .inr ⟨q, _, rfl, hx, hnd, ?_⟩
      unfold heldT; rw [hx]
theorem Rng.upd {q : Nat} {x : TB} (h : Rng T) (hx : T[q]? = some x) {y : Int × Bool} : Rng (T.set q (x.1, x.2.1, y)) :=
  h.set hx (h.sm x (List.mem_of_getElem? hx)) (h.rng x (List.mem_of_getElem? hx))
theorem GI.hold {c : Bool} (h : GI nu T R) (n : Int) : GI nu (holdT T n c).2 R ∧ Kp T (holdT T n c).2 := by
  rcases holdT_cases (b := c) h.rng n c with q | ⟨q, x, rfl, hx, hnd, e⟩
  · rw [q]; exact ⟨h, rfl, fun _ h => h⟩
  · rw [e]
    have hlv := h.live hnd
    rw [cF_at hx] at hlv
    have hc : ∀ k, cF (T.set q (x.1, x.2.1, x.2.2.1, c)) k = cF T k := fun k => by
      rw [cF_set hx]; split
      · rename_i e; subst e; exact (cF_at hx).symm
      · rfl
    have he : ∀ n k, eF (T.set q (x.1, x.2.1, x.2.2.1, c)) n k ↔ eF T n k := fun n k => by
      rw [eF_set hx]; split
      · rename_i e; subst e
        exact ⟨fun h => ⟨x, hx, h⟩, fun ⟨z, hz, h⟩ => by rw [hx] at hz; injection hz with hz; subst hz; exact h⟩
      · exact Iff.rfl
    obtain ⟨hy, hk⟩ := yN_keep (set_ages (y := (x.1, x.2.1)) (z := (x.2.2.1, c)) hx rfl)
    refine ⟨⟨h.rng.upd hx, fun r hr => by rw [List.length_set]; exact h.rr r hr, fun r hr => by rw [hc]; exact h.ro r hr, by rw [hy]; exact h.yc, fun n z hz => ?_, fun n z hz ha => ?_, fun n k hnk => by rw [hc]; exact h.ng n k ((he n k).1 hnk), fun n k hnk q1 q2 => ?_⟩, hk⟩
    · by_cases en : q = n
      · subst en
        rw [List.getElem?_set_self (List.getElem?_eq_some_iff.1 hx).1] at hz
        injection hz with hz; subst hz; exact h.ag q x hx
      · rw [List.getElem?_set_ne en] at hz; exact h.ag n z hz
    · by_cases en : q = n
      · subst en
        rw [List.getElem?_set_self (List.getElem?_eq_some_iff.1 hx).1] at hz
        injection hz with hz; subst hz; exact absurd ha hlv
      · rw [List.getElem?_set_ne en] at hz; exact h.gn n z hz ha
    · rw [hc] at q1 q2
      exact h.rem n k ((he n k).1 hnk) q1 q2
theorem hold_sim {c : Bool} (s : Alk T1 T2) (h1 : Rng T1) (h2 : Rng T2) (n : Int) : (holdT T2 n c).1 = (holdT T1 n c).1 ∧ Alk (holdT T1 n c).2 (holdT T2 n c).2 := by
  unfold holdT
  rw [named_sim s h1 h2]
  split
  · exact ⟨rfl, s⟩
  · rename_i he
    have he := Decidable.not_not.1 he
    obtain ⟨h0, hl, hnd⟩ := named_nd h1 he (z := n) (by simp)
    obtain ⟨q, rfl⟩ := Int.eq_ofNat_of_zero_le h0
    rw [Int.toNat_natCast] at hnd ⊢
    have hx : T1[q]? = some (T1[q]'(by omega)) := List.getElem?_eq_getElem _
    obtain ⟨x, hxe⟩ : ∃ x, x = (T1[q]'(by omega)) := ⟨_, rfl⟩
    rw [← hxe] at hx
    obtain ⟨x2, hx2⟩ := s.get hx
    obtain ⟨e1, e2⟩ := s.pl q hnd x x2 hx hx2
    rw [getB hx, getB hx2, e2]
    split
    · exact ⟨rfl, s⟩
    · refine ⟨rfl, ?_⟩
      unfold heldT
      rw [hx, hx2]
      refine s.set hx hx2 e1 rfl fun k0 hk0 => Nd.sub (fun k hk => ?_) (fun i k hk => .inl ?_) hk0
      · rw [rF_set hx] at hk
        split at hk
        · rename_i e; subst e; exact hnd
        · exact .root hk
      · rw [eF_set hx] at hk
        split at hk
        · rename_i e; subst e; exact ⟨x, hx, hk⟩
        · exact hk
/-! ### set -/
theorem set_in (h : Rng T) (he : namedE T (setL a b) = 0) : ∃ (q : Nat) (x : TB), a = q ∧ T[q]? = some x ∧ NdT T q ∧ b < (T.length : Int) ∧ ∀ k : Nat, (k : Int) = b → NdT T k := by
  have ha : a ∈ setL a b := by unfold setL; split <;> simp
  obtain ⟨h0, h1, hnd⟩ := named_nd h he ha
  obtain ⟨q, rfl⟩ := Int.eq_ofNat_of_zero_le h0
  rw [Int.toNat_natCast] at hnd
  have hx : T[q]? = some (T[q]'(by omega)) := List.getElem?_eq_getElem _
  refine ⟨q, _, rfl, hx, hnd, ?_, fun k hk => ?_⟩
  · by_cases hb1 : b = -1
    · omega
    · have hb : b ∈ setL (q : Int) b := by unfold setL; rw [if_neg hb1]; simp
      exact (named_nd h he hb).2.1
  · have hb : b ∈ setL (q : Int) b := by unfold setL; split; omega; simp
    have := (named_nd h he hb).2.2
    rw [← hk, Int.toNat_natCast] at this; exact this
theorem set_sub {q : Nat} {x : TB} {pl : List Int} {y : Int × Bool} (hx : T[q]? = some x) (hy : y.2 = x.2.2.2) (hp : ∀ k : Nat, (k : Int) ∈ pl → (k : Int) ∈ x.2.1 ∨ NdT T k) {n : Nat} (h : NdT (T.set q (x.1, pl, y)) n) : NdT T n := by
  refine Nd.sub (fun k hk => ?_) (fun i k hk => ?_) h
  · rw [rF_set hx] at hk
    split at hk
    · rename_i e; subst e; exact .root ⟨x, hx, by rw [← hy]; exact hk⟩
    · exact .root hk
  · rw [eF_set hx] at hk
    split at hk
    · rename_i e; subst e
      exact (hp k hk).imp (fun h => ⟨x, hx, h⟩) id
    · exact .inl hk
theorem GI.setX {q : Nat} {x : TB} (h : GI nu T R) (hx : T[q]? = some x) (hnd : NdT T q) (hb : b < (T.length : Int)) (hbn : ∀ k : Nat, (k : Int) = b → NdT T k) : GI nu (setX T R q x b n).2.1 (setX T R q x b n).2.2 ∧ Kp T (setX T R q x b n).2.1 := by
  unfold Proofs.Ytblgljahhhdlhaa.setX
  split
  · exact ⟨h, rfl, fun _ h => h⟩
  · have hlv := h.live hnd
    rw [cF_at hx] at hlv
    have hq := (List.getElem?_eq_some_iff.1 hx).1
    obtain ⟨pl, hpl⟩ : ∃ pl, pl = x.2.1.set n.toNat b := ⟨_, rfl⟩
    have hm : ∀ z ∈ pl, z ∈ x.2.1 ∨ z = b := fun z hz => by rw [hpl] at hz; exact List.mem_or_eq_of_mem_set hz
    have hll : pl.length = x.2.1.length := by rw [hpl]; simp
    simp only
    rw [← hpl]
    obtain ⟨R', hR'⟩ : ∃ R', R' = (if x.2.2.1 = 1 ∧ yngB T b = true then putR R (q : Int) else R) := ⟨_, rfl⟩
    rw [← hR']
    have hsub : ∀ r ∈ R, r ∈ R' := fun r hr => by
      rw [hR']; split
      · unfold putR; split
        · exact hr
        · exact List.mem_append_left _ hr
      · exact hr
    have hinv : ∀ r ∈ R', r ∈ R ∨ (r = q ∧ x.2.2.1 = 1) := fun r hr => by
      rw [hR'] at hr; split at hr
      · rename_i hc
        unfold putR at hr; split at hr
        · exact .inl hr
        · rcases List.mem_append.1 hr with hr | hr
          · exact .inl hr
          · exact .inr ⟨List.mem_singleton.1 hr, hc.1⟩
      · exact .inl hr
    have hput : x.2.2.1 = 1 → yngB T b = true → (q : Int) ∈ R' := fun h1 h2 => by
      rw [hR', if_pos ⟨h1, h2⟩]; unfold putR; split
      · assumption
      · simp
    have hc : ∀ k, cF (T.set q (x.1, pl, x.2.2)) k = cF T k := fun k => by
      rw [cF_set hx]; split
      · rename_i e; subst e; exact (cF_at hx).symm
      · rfl
    have he : ∀ i k, eF (T.set q (x.1, pl, x.2.2)) i k → eF T i k ∨ (i = q ∧ (k : Int) = b) := fun i k hk => by
      rw [eF_set hx] at hk; split at hk
      · rename_i e; subst e
        exact (hm _ hk).imp (fun h => ⟨x, hx, h⟩) (fun h => ⟨rfl, h⟩)
      · exact .inl hk
    obtain ⟨hy, hk⟩ := yN_keep (set_ages (y := (x.1, pl)) (z := x.2.2) hx rfl)
    refine ⟨⟨h.rng.set hx (by rw [hll]; exact h.rng.sm x (List.mem_of_getElem? hx)) (fun z hz => ?_), fun r hr => ?_, fun r hr => ?_, by rw [hy]; exact h.yc, fun i z hz => ?_, fun i z hz ha => ?_, fun i k hnk => ?_, fun i k hnk q1 q2 => ?_⟩, hk⟩
    · rcases hm z hz with q | rfl
      · exact h.rng.rng x (List.mem_of_getElem? hx) z q
      · exact hb
    · rw [List.length_set]
      rcases hinv r hr with q | ⟨rfl, _⟩
      · exact h.rr r q
      · omega
    · rw [hc]
      rcases hinv r hr with q | ⟨rfl, q⟩
      · exact h.ro r q
      · rw [Int.toNat_natCast, cF_at hx, q]; decide
    · by_cases en : q = i
      · subst en
        rw [List.getElem?_set_self hq] at hz
        injection hz with hz; subst hz; exact h.ag q x hx
      · rw [List.getElem?_set_ne en] at hz; exact h.ag i z hz
    · by_cases en : q = i
      · subst en
        rw [List.getElem?_set_self hq] at hz
        injection hz with hz; subst hz; exact absurd ha hlv
      · rw [List.getElem?_set_ne en] at hz; exact h.gn i z hz ha
    · rw [hc]
      rcases he i k hnk with q | ⟨rfl, q⟩
      · exact h.ng i k q
      · exact h.live (hbn k q)
    · rw [hc] at q1 q2
      rcases he i k hnk with q | ⟨rfl, q⟩
      · exact hsub _ (h.rem i k q q1 q2)
      · rw [cF_at hx] at q1
        rcases h.ag i x hx with w | w | w
        · exact absurd w q1
        · exact hput w (by rw [← q]; exact yngB_c.2 q2)
        · exact absurd w hlv
theorem GI.set (h : GI nu T R) : GI nu (setT T R a b n).2.1 (setT T R a b n).2.2 ∧ Kp T (setT T R a b n).2.1 := by
  by_cases he : namedE T (setL a b) = 0
  · obtain ⟨q, x, rfl, hx, hnd, hb, hbn⟩ := set_in h.rng he
    rw [setT_X he hx]
    exact h.setX hx hnd hb hbn
  · unfold setT; rw [if_pos he]; exact ⟨h, rfl, fun _ h => h⟩
theorem set_sim (s : Alk T1 T2) (h1 : Rng T1) (h2 : Rng T2) : (setT T2 R2 a b n).1 = (setT T1 R1 a b n).1 ∧ Alk (setT T1 R1 a b n).2.1 (setT T2 R2 a b n).2.1 := by
  have hn := named_sim s h1 h2 (l := setL a b)
  by_cases he : namedE T1 (setL a b) = 0
  · obtain ⟨q, x, rfl, hx, hnd, hb, hbn⟩ := set_in h1 he
    obtain ⟨x2, hx2⟩ := s.get hx
    obtain ⟨e1, e2⟩ := s.pl q hnd x x2 hx hx2
    rw [setT_X he hx, setT_X (by rw [hn]; exact he) hx2]
    unfold setX
    rw [e1]
    split
    · exact ⟨rfl, s⟩
    · refine ⟨rfl, s.set hx hx2 rfl e2 fun k hk => set_sub hx rfl (fun k hk => ?_) hk⟩
      exact (List.mem_or_eq_of_mem_set hk).imp id (fun h => hbn k h)
  · unfold setT; rw [if_pos he, if_pos (by rw [hn]; exact he)]; exact ⟨hn, s⟩
/-! ### All deeds -/
theorem Mid.facts (h : Mid nu T R T1 R1) (g : GI nu T R) (hnu : 1 ≤ nu) : GI nu T1 R1 ∧ (yN T1 : Int) < nu ∧ Kp T T1 ∧ Alk T T1 := by
  rcases h with ⟨q, rfl, rfl⟩ | ⟨q, sb, hs, rfl, rfl⟩
  · rw [young_cnt] at q
    exact ⟨g, q, ⟨rfl, fun _ h => h⟩, Alk.refl⟩
  · obtain ⟨a1, a2, a3, a4⟩ := g.minor (by omega) hs
    exact ⟨a1, by omega, a3, a4⟩
structure Yng (d r e : Int) (T T' : List TB) : Prop where
  len : T.length ≤ T'.length
  yng : ∀ n, n < T.length → yF T' n → yF T n
  new : d = 1 → e = 0 → r = T.length ∧ T'.length = T.length + 1 ∧ yF T' T.length
  old : ¬ (d = 1 ∧ e = 0) → T'.length = T.length
  minor : d = 6 → e = 0 ∧ 0 ≤ r ∧ r ≤ yN T
theorem Kp.toY {T T' : List TB} (h : Kp T T') (h1 : d ≠ 1) (h6 : d ≠ 6) : Yng d r e T T' := ⟨by rw [h.len]; exact Nat.le_refl _, fun n _ hn => h.yng n hn, fun q => absurd q h1, fun _ => h.len, fun q => absurd q h6⟩
theorem do_gi (h : DoG nu T R a b n d r e T' R') (g : GI nu T R) (hnu : 1 ≤ nu) : GI nu T' R' ∧ Yng d r e T T' := by
  cases h with
  | new hm =>
    by_cases ha : n < 0 ∨ 10 < n
    · obtain ⟨rfl, rfl, rfl, rfl⟩ := hm.arg ha
      exact ⟨g, Nat.le_refl _, fun _ _ h => h, fun _ q => by omega, fun _ => rfl, fun q => by omega⟩
    · by_cases hl : 100 ≤ T.length
      · obtain ⟨rfl, rfl, rfl, rfl⟩ := hm.large ha hl
        exact ⟨g, Nat.le_refl _, fun _ _ h => h, fun _ q => by omega, fun _ => rfl, fun q => by omega⟩
      · obtain ⟨rfl, rfl, T1, o, hmid, rfl⟩ := hm.ok ha (by omega)
        obtain ⟨g1, hy, hk, -⟩ := hmid.facts g hnu
        have hlk := hk.len
        obtain ⟨-, f2, -, -, -⟩ := app_facts (q := n.toNat) (o := o) g1.rng (by omega) (by omega)
        refine ⟨g1.app (by omega) (by omega) hy, by simp; omega, fun k hk1 hkk => ?_, fun _ _ => ⟨rfl, by simp; omega, ?_⟩, fun q => absurd ⟨rfl, rfl⟩ q, fun q => by omega⟩
        · rw [yF_c, f2, if_neg (by omega), ← yF_c] at hkk
          exact hk.yng k hkk
        · rw [yF_c, f2, if_pos hlk.symm]
  | set => exact ⟨g.set.1, g.set.2.toY (by decide) (by decide)⟩
  | drop => exact ⟨(g.hold a).1, (g.hold a).2.toY (by decide) (by decide)⟩
  | hold => exact ⟨(g.hold a).1, (g.hold a).2.toY (by decide) (by decide)⟩
  | minor hs =>
    obtain ⟨a1, a2, a3, a4⟩ := g.minor (by omega) hs
    exact ⟨a1, by rw [a3.len]; exact Nat.le_refl _, fun n _ hn => a3.yng n hn, fun q => by omega, fun _ => a3.len, fun _ => ⟨rfl, by omega, Int.ofNat_le.2 cnt_young⟩⟩
  | major =>
    obtain ⟨a1, a2, a3, a4⟩ := g.major (by omega)
    exact ⟨a1, a3.toY (by decide) (by decide)⟩
  | other q1 _ _ _ q6 _ => exact ⟨g, Kp.toY ⟨rfl, fun _ h => h⟩ q1 q6⟩
structure Clt (d r e : Int) (T T' : List TB) (R' : List Int) : Prop where
  ok : e = 0 ∧ 0 ≤ r
  none : yN T' = 0
  rem : R' = []
  sim : Alk T T'
  all : d = 7 → ∀ n k, eF T' n k → NdT T' n
theorem do_col (h : DoG nu T R a b n d r e T' R') (g : GI nu T R) (hnu : 1 ≤ nu) (hd : d = 6 ∨ d = 7) : Clt d r e T T' R' := by
  cases h with
  | new _ => omega
  | set => omega
  | drop => omega
  | hold => omega
  | minor hs =>
    obtain ⟨a1, a2, a3, a4⟩ := g.minor (by omega) hs
    exact ⟨⟨rfl, by omega⟩, a2, rfl, a4, fun q => by omega⟩
  | major =>
    obtain ⟨a1, a2, a3, a4⟩ := g.major (by omega)
    refine ⟨⟨rfl, by omega⟩, a2, rfl, a4, fun _ i k he => ?_⟩
    obtain ⟨z, hz, hm⟩ := he
    obtain ⟨x, hx, rfl⟩ := col_inv (need_len T) hz
    refine a4.nd.2 ((need_nd g.rng).1 ?_)
    apply Decidable.byContradiction
    intro hno
    have hb : (needT T).getD i false = false := by simpa [Sn] using hno
    rw [hb] at hm
    unfold cutX colX at hm
    split at hm
    · simp at hm
    · rename_i hag
      have := (g.gn i x hx (by
        rcases g.ag i x hx with w | w | w
        · exact absurd (by rw [w]; simp) hag
        · exact absurd (by rw [w]; simp) hag
        · exact w)).1
      rw [this] at hm; simp at hm
  | other _ _ _ _ _ _ => omega
theorem do_sim (h1 : DoG nu1 T1 R1 a b n d r1 e1 T1' R1') (h2 : DoG nu2 T2 R2 a b n d r2 e2 T2' R2') (g1 : GI nu1 T1 R1) (g2 : GI nu2 T2 R2) (hn1 : 1 ≤ nu1) (hn2 : 1 ≤ nu2) (s : Alk T1 T2) (hd6 : d ≠ 6) (hd7 : d ≠ 7) : r2 = r1 ∧ e2 = e1 ∧ Alk T1' T2' := by
  have hlen := s.len
  cases h1 with
  | new m1 =>
    cases h2 with
    | new m2 =>
      by_cases ha : n < 0 ∨ 10 < n
      · obtain ⟨rfl, rfl, rfl, rfl⟩ := m1.arg ha
        obtain ⟨rfl, rfl, rfl, rfl⟩ := m2.arg ha
        exact ⟨rfl, rfl, s⟩
      · by_cases hl : 100 ≤ T1.length
        · obtain ⟨rfl, rfl, rfl, rfl⟩ := m1.large ha hl
          obtain ⟨rfl, rfl, rfl, rfl⟩ := m2.large ha (by omega)
          exact ⟨rfl, rfl, s⟩
        · obtain ⟨rfl, rfl, A1, o1, hmid1, rfl⟩ := m1.ok ha (by omega)
          obtain ⟨rfl, rfl, A2, o2, hmid2, rfl⟩ := m2.ok ha (by omega)
          obtain ⟨q1, -, k1, s1⟩ := hmid1.facts g1 hn1
          obtain ⟨q2, -, k2, s2⟩ := hmid2.facts g2 hn2
          have := s1.len
          exact ⟨by rw [hlen], rfl, ((s1.symm.trans s).trans s2).app q1.rng q2.rng (by omega) (by omega)⟩
    | other q _ _ _ _ _ => exact absurd rfl q
  | set =>
    cases h2 with
    | set => exact ⟨rfl, (set_sim s g1.rng g2.rng).1, (set_sim s g1.rng g2.rng).2⟩
    | other _ q _ _ _ _ => exact absurd rfl q
  | drop =>
    cases h2 with
    | drop => exact ⟨rfl, (hold_sim s g1.rng g2.rng a).1, (hold_sim s g1.rng g2.rng a).2⟩
    | other _ _ q _ _ _ => exact absurd rfl q
  | hold =>
    cases h2 with
    | hold => exact ⟨rfl, (hold_sim s g1.rng g2.rng a).1, (hold_sim s g1.rng g2.rng a).2⟩
    | other _ _ _ q _ _ => exact absurd rfl q
  | minor _ => exact absurd rfl hd6
  | major => exact absurd rfl hd7
  | other p1 p2 p3 p4 p6 p7 =>
    cases h2 with
    | new _ => exact absurd rfl p1
    | set => exact absurd rfl p2
    | drop => exact absurd rfl p3
    | hold => exact absurd rfl p4
    | minor _ => exact absurd rfl p6
    | major => exact absurd rfl p7
    | other _ _ _ _ _ _ => exact ⟨rfl, rfl, s⟩
end Go.Proofs.Ytblgljahhhdlhaa

namespace Go.Proofs.Ytblgljahhhdlhaa
open Go Go.RowKit
set_option linter.unusedVariables false
set_option linter.unusedSimpArgs false
variable {U : Nat → Prop}
section
variable {tb : List (FuncId × Bool)} {L : Nat → Bool} {H : ZH} {K : ZV → ZH → Prop}
theorem rest_z {k m : Int} (hm : 0 < m ∧ m ≤ 1000000000) (hK : K (Z64 (k % m)) H) : ZC (constX tb) (cFunc Try.prog) 9 [Z64 k, Z64 m] L H K := by
  refine ZC.enter Gh.no (constX_none) f_mk_rest (by simp) ?_
  simp only [c_mk_rest]
  have hr : binV .rem (.int .i64 k) (.int .i64 m) = some (.int .i64 (k.tmod m)) := by simp [binV]; omega
  have fin := Fin.keep (H0 := H) hK
  have h1 : -m < k.tmod m := by
    have := Int.lt_tmod_of_pos k hm.1
    omega
  have h2 : k.tmod m < m := Int.tmod_lt_of_pos k hm.1
  have h3 : k.tmod m = k % m ∨ k.tmod m = k % m - m := by
    rw [Int.tmod_eq_emod]
    split
    · left; omega
    · right; omega
  have h4 := Int.emod_nonneg k (b := m) (by omega)
  have h5 := Int.emod_lt_of_pos k hm.1
  clear hK
  by_cases hn : k.tmod m < 0
  · have hw : IntKind.i64.wrap (k.tmod m + m) = k % m := by
      rw [IntWalk.i64_in _ (by omega)]; omega
    have F := Lib.hid fin
    clear h3 h4 h5 h1 h2 fin
    obtain ⟨t, ht⟩ : ∃ t, t = k.tmod m := ⟨_, rfl⟩
    rw [← ht] at hr hn hw
    have fin := F.out
    clear ht
    repeat' (first | (simp only [zmPack, zxPack, ne_eq, zfree, owners, Nat.reduceLT, List.contains_cons, List.contains_nil, Nat.reduceBEq, BEq.rfl, chunk, setAt, List.lookup_cons, List.lookup_nil, reduceCtorEq, Nat.reduceEqDiff, reduceIte, implies_true, forall_const, Nat.reduceMul, Nat.reduceSub, Nat.reduceAdd, Nat.reduceLeDiff, hr, hn, hw, *]) | (simp only [zgoO, zgoG, zO_nil, zthen_normal, zgoC]) | (with_reducible apply And.intro) | (with_reducible intro _))
  · have hw : k.tmod m = k % m := by omega
    have F := Lib.hid fin
    clear h3 h4 h5 h1 h2 fin
    rw [hw] at hr hn
    have fin := F.out
    clear hw
    repeat' (first | (simp only [zmPack, zxPack, ne_eq, zfree, owners, Nat.reduceLT, List.contains_cons, List.contains_nil, Nat.reduceBEq, BEq.rfl, chunk, setAt, List.lookup_cons, List.lookup_nil, reduceCtorEq, Nat.reduceEqDiff, reduceIte, implies_true, forall_const, Nat.reduceMul, Nat.reduceSub, Nat.reduceAdd, Nat.reduceLeDiff, hr, hn, *]) | (simp only [zgoO, zgoG, zO_nil, zthen_normal, zgoC]) | (with_reducible apply And.intro) | (with_reducible intro _))
end
abbrev tbGe : List (FuncId × Bool) := [(7, true)]
theorem yes_z {nd : Bool} {L : Nat → Bool} {H : ZH} {K : ZV → ZH → Prop} (k : K (ZBo true) H) : ZC (XG tbGe nd) (cFunc Try.prog) 7 [] L H K := by
  have h : ZC (constX tbGe) (cFunc Try.prog) 7 [] L H K := ZC.const (fun args fl hp ha => constX_some (l := tbGe) (f := 7) (b := true) rfl args fl hp ha) k
  exact ZC.up h
abbrev U0 : Nat → Prop := fun _ => False
abbrev Dd := Int × Int × Int × Int
abbrev eD (d : Dd) : List ZV := [Z64 d.1, Z64 d.2.1, Z64 d.2.2.1, Z64 d.2.2.2]
theorem best_min {n m : Nat} : bestZ false (Z64 (n : Nat)) [Z64 (m : Nat)] = some (Z64 ((min n m : Nat) : Int)) := by
  simp only [bestZ]
  by_cases h : m < n
  · rw [show min n m = m by omega]
    have : ((m : Nat) : Int) < ((n : Nat) : Int) := by omega
    simp [this]
  · rw [show min n m = n by omega]
    have : ¬ ((m : Nat) : Int) < ((n : Nat) : Int) := by omega
    simp [this]
theorem dd_cut {α : Type} {e : α → List ZV} {k n : Nat} {ex : Bool} {l : List α} (h : n ≤ l.length) : ∃ ex2, ∀ H, cutZ H k 0 n l.length false (.fz k ex (l.map e)) = some (.fz k ex2 ((l.take n).map e)) := by
  by_cases hl : l = []
  · subst hl
    have : n = 0 := by simpa using h
    subst this
    exact ⟨false, fun H => by simp [cutZ]⟩
  · refine ⟨(ex || false) && n == l.length, fun H => ?_⟩
    simp only [cutZ]
    rw [if_pos ⟨trivial, Nat.zero_le _, h, by simp⟩, if_neg (by simpa using hl)]
    simp only [List.drop_zero, Nat.sub_zero, List.map_take]
variable {nd : Bool} {L : Nat → Bool} {H : ZH} {K : ZV → ZH → Prop} {p t g m : Nat} {nu : Int} {T : List TB} {R : List Int}
end Go.Proofs.Ytblgljahhhdlhaa
