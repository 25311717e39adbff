/-
  The document's From, Rising; neededIn: in ZM.
-/
import Derived.Test.YtpeagenjmmkohaaMrA8
namespace Go.Proofs.Ytpeagenjmmkohaa
open Go Go.RowKit
set_option linter.unusedVariables false
set_option linter.unusedSimpArgs false
variable {tb : List (FuncId × Bool)} {L : Nat → Bool} {H : ZH} {K : ZV → ZH → Prop}
theorem froma_z {i j t n x : Nat} {b : Bool} {sb : List Bool} {c : Bool} (hi : H[i]? = some (.box [ZBo b])) (hj : H[j]? = some (.box [.own t 0 0 n true])) (ht : H[t]? = some (.grow 0 1 (sb.map eB))) (hn : sb.length = n) (hx : sb[x]? = some c) (h1 : i ≠ j) (l1 : L i = true) (l2 : L t = true)
    (hK : K .no ((H.set i (.box [ZBo (b || !c)])).set t (.grow 0 1 ((sb.set x true).map eB)))) :
    ZC (constX tb) (cFunc Try.prog) 48 [Z64 (x : Nat), .ptr i 0, .ptr j 0] L H K := by
  refine ZC.enter Gh.no constX_none f_mk_froma (by simp) ?_
  simp only [c_mk_froma]
  have hit : i ≠ t := fun e => by subst e; rw [hi] at ht; cases ht
  have hjt : j ≠ t := fun e => by subst e; rw [hj] at ht; cases ht
  have hxl : x < sb.length := (List.getElem?_eq_some_iff.1 hx).1
  have he : elemZ H 1 x (.own t 0 0 n true) = some (.eptr t 0 x 0) := by
    rw [elem_own]; exact ⟨_, ht, by simp [hn], by omega, by simp⟩
  have hl : ldZ H none (.eptr t 0 x 0) = some (ZBo c) := by
    rw [ld_eptr]; exact ⟨_, _, _, ht, by rw [List.getElem?_map, hx]; rfl, rfl⟩
  have hil := lt_of_get hi
  have q2 : ∀ B, (H.set i B)[j]? = some (.box [.own t 0 0 n true]) := fun B => by rw [List.getElem?_set_ne h1]; exact hj
  have q3 : ∀ B, (H.set i B)[t]? = some (.grow 0 1 (sb.map eB)) := fun B => by rw [List.getElem?_set_ne hit]; exact ht
  have he2 : ∀ B, elemZ (H.set i B) 1 x (.own t 0 0 n true) = some (.eptr t 0 x 0) := fun B => by
    rw [elem_own]; exact ⟨_, q3 B, by simp [hn], by omega, by simp⟩
  have hst : ∀ B, stZ L (H.set i B) [ZBo true] (.eptr t 0 x 0) = some ((H.set i B).set t (.grow 0 1 ((sb.set x true).map eB))) := fun B => by
    rw [st_eptr]
    refine ⟨1, _, _, q3 B, by rw [List.getElem?_map, hx]; rfl, l2, by simp, ?_⟩
    rw [List.map_set]; rfl
  have HK := Lib.hid hK
  clear hK hn hx hxl h1 hit hjt q3 ht hil
  cases b with
  | true =>
    have fin := Fin.keep (H0 := H) HK.out
    simp only [Bool.true_or] at fin
    clear he hl
    repeat' (first | (simp only [zmPack, zxPack, ne_eq, zfree, owners, Nat.reduceLT, List.contains_cons, List.contains_nil, Nat.reduceBEq, BEq.rfl, chunk, setAt, List.lookup_cons, List.lookup_nil, reduceCtorEq, Nat.reduceEqDiff, reduceIte, implies_true, forall_const, Nat.reduceMul, Nat.reduceSub, Nat.reduceAdd, Nat.reduceLeDiff, hi, hj, he2, q2, hst, l1, *]) | (simp only [zgoO, zgoG, zO_nil, zthen_normal, zgoC]) | (with_reducible apply And.intro) | (with_reducible intro _))
    all_goals exact ⟨_, rfl, fin⟩
  | false =>
    have fin := Fin.keep (H0 := H) HK.out
    simp only [Bool.false_or] at fin
    repeat' (first | (simp only [zmPack, zxPack, ne_eq, zfree, owners, Nat.reduceLT, List.contains_cons, List.contains_nil, Nat.reduceBEq, BEq.rfl, chunk, setAt, List.lookup_cons, List.lookup_nil, reduceCtorEq, Nat.reduceEqDiff, reduceIte, implies_true, forall_const, Nat.reduceMul, Nat.reduceSub, Nat.reduceAdd, Nat.reduceLeDiff, hi, hj, he, hl, he2, q2, hst, l1, *]) | (simp only [zgoO, zgoG, zO_nil, zthen_normal, zgoC]) | (with_reducible apply And.intro) | (with_reducible intro _))
    all_goals exact ⟨_, rfl, fin⟩
/-- How far From's round is. -/
structure FI (has : List (List Int)) (l : List Int) (sb sb' : List Bool) (b : Bool) (P : Prop) : Prop where
  len : sb'.length = has.length
  base : ∀ x ∈ l, Sn sb' x.toNat
  sub : ∀ n, Sn sb' n → Liv has [] l n
  no : b = false → sb' = sb ∧ P
  yes : b = true → unseen sb' < unseen sb
theorem FI.mono {has : List (List Int)} {l : List Int} {sb sb' : List Bool} {b : Bool} {P Q : Prop} (h : FI has l sb sb' b P) (hq : sb' = sb → P → Q) : FI has l sb sb' b Q :=
  ⟨h.len, h.base, h.sub, fun hb => ⟨(h.no hb).1, hq (h.no hb).1 (h.no hb).2⟩, h.yes⟩
theorem FI.see {has : List (List Int)} {l : List Int} {sb sb' : List Bool} {b : Bool} {P Q : Prop} (h : FI has l sb sb' b P) {x : Nat} (hx : x < sb'.length) (hl : Liv has [] l x) (hq : sb' = sb → P → Sn sb x → Q) :
    FI has l sb (sb'.set x true) (b || !sb'[x]) Q := by
  have hs : ∀ n, Sn (sb'.set x true) n ↔ Sn sb' n ∨ n = x := fun n => Sn_set hx
  have hun : unseen (sb'.set x true) ≤ unseen sb' := unseen_le (by simp) fun n hn => (hs n).2 (.inl hn)
  refine ⟨by simp [h.len], fun y hy => (hs _).2 (.inl (h.base y hy)), fun n hn => ?_, fun hb => ?_, fun hb => ?_⟩
  · rcases (hs n).1 hn with hn | rfl
    · exact h.sub n hn
    · exact hl
  · simp only [Bool.or_eq_false_iff, Bool.not_eq_false'] at hb
    obtain ⟨e, hp⟩ := h.no hb.1
    have hset : sb'.set x true = sb' := by
      apply List.ext_getElem (by simp)
      intro i h1 h2
      rw [List.getElem_set]
      split
      · rename_i hxi; subst hxi; exact hb.2.symm
      · rfl
    rw [hset]
    refine ⟨e, hq e hp ?_⟩
    subst e
    unfold Sn; simp [List.getD, hx, hb.2]
  · cases hb0 : b with
    | true => have := h.yes hb0; omega
    | false =>
      obtain ⟨e, -⟩ := h.no hb0
      subst e
      rw [hb0, Bool.false_or, Bool.not_eq_true'] at hb
      have := unseen_set (l := sb') (i := x) hx (by simp [List.getD, hx, hb])
      omega
theorem FI.start {has : List (List Int)} {l : List Int} {sb : List Bool} {P : Prop} (h1 : sb.length = has.length) (h2 : ∀ x ∈ l, Sn sb x.toNat) (h3 : ∀ n, Sn sb n → Liv has [] l n) (hp : P) : FI has l sb sb false P :=
  ⟨h1, h2, h3, fun _ => ⟨rfl, hp⟩, fun h => by cases h⟩
theorem setTrue_take {sb0 sb : List Bool} {l : List Int} : True := trivial
/-- From's outer state: more is to be done, or it is closed. -/
structure FO (has : List (List Int)) (l : List Int) (sb : List Bool) (b : Bool) : Prop where
  len : sb.length = has.length
  base : ∀ x ∈ l, Sn sb x.toNat
  sub : ∀ n, Sn sb n → Liv has [] l n
  clo : b = false → Cl has (Sn sb)
def ClTo (has : List (List Int)) (sb : List Bool) (k : Nat) : Prop := ∀ n, n < k → Sn sb n → ∀ y ∈ has.getD n [], Sn sb y.toNat
def ClIn (has : List (List Int)) (sb : List Bool) (k : Nat) (own : List Int) (m : Nat) : Prop := ClTo has sb k ∧ (Sn sb k → ∀ y ∈ own.take m, Sn sb y.toNat)
/-- The first loop: roots are seen. -/
structure FB (has : List (List Int)) (l : List Int) (k : Nat) (sb : List Bool) : Prop where
  len : sb.length = has.length
  base : ∀ x ∈ l.take k, Sn sb x.toNat
  sub : ∀ n, Sn sb n → Liv has [] l n
theorem FB.next {has : List (List Int)} {l : List Int} {k : Nat} {sb : List Bool} (h : FB has l k sb) (hk : k < l.length) {m : Nat} (hm : l[k] = (m : Int)) (hmn : m < has.length) : FB has l (k + 1) (sb.set m true) := by
  have hs : ∀ n, Sn (sb.set m true) n ↔ Sn sb n ∨ n = m := fun n => Sn_set (by rw [h.len]; exact hmn)
  refine ⟨by simp [h.len], fun x hx => ?_, fun n hn => ?_⟩
  · rw [List.take_succ_eq_append_getElem hk] at hx
    rcases List.mem_append.1 hx with hx | hx
    · exact (hs _).2 (.inl (h.base x hx))
    · rw [List.mem_singleton.1 hx, hm]; exact (hs _).2 (.inr (by omega))
  · rcases (hs n).1 hn with hn | rfl
    · exact h.sub n hn
    · have := Liv.base (has := has) (ps := []) (l := l) (x := l[k]) (List.getElem_mem hk)
      rw [hm] at this; simpa using this
theorem fr_el {A : ZB} {sb : List Bool} {n m : Nat} {Y : ZH} (hn : sb.length = n) (hm : m < n) : elemZ (H ++ (A :: .grow 0 1 (sb.map eB) :: Y)) 1 m (.own (H.length + 1) 0 0 n true) = some (.eptr (H.length + 1) 0 m 0) := by
  rw [elem_own]; exact ⟨_, mv_at1 _ _ _, by simp [hn], hm, by simp⟩
theorem fr_ld {A : ZB} {sb : List Bool} {m : Nat} {Y : ZH} {c : Bool} (hm : sb[m]? = some c) : ldZ (H ++ (A :: .grow 0 1 (sb.map eB) :: Y)) none (.eptr (H.length + 1) 0 m 0) = some (ZBo c) := by
  rw [ld_eptr]; exact ⟨_, _, _, mv_at1 _ _ _, by rw [List.getElem?_map, hm]; rfl, rfl⟩
theorem fr_st {A : ZB} {sb : List Bool} {m : Nat} {Y : ZH} (hm : m < sb.length) (hl : L (H.length + 1) = true) : stZ L (H ++ (A :: .grow 0 1 (sb.map eB) :: Y)) [ZBo true] (.eptr (H.length + 1) 0 m 0) = some (H ++ (A :: .grow 0 1 ((sb.set m true).map eB) :: Y)) := by
  rw [st_eptr]
  refine ⟨1, _, _, mv_at1 _ _ _, by rw [List.getElem?_map, List.getElem?_eq_getElem hm]; rfl, hl, by simp, ?_⟩
  rw [mv_st1, List.map_set]; rfl
theorem ClIn.start {has : List (List Int)} {sb : List Bool} {k : Nat} {own : List Int} (h : ClTo has sb k) : ClIn has sb k own 0 := ⟨h, fun _ y hy => by simp at hy⟩
theorem ClIn.next {has : List (List Int)} {sb : List Bool} {k m : Nat} {own : List Int} (h : ClIn has sb k own m) (hm : m < own.length) (hs : Sn sb k → Sn sb own[m].toNat) : ClIn has sb k own (m + 1) := ⟨h.1, fun hk y hy => by
  rw [List.take_succ_eq_append_getElem hm] at hy
  rcases List.mem_append.1 hy with hy | hy
  · exact h.2 hk y hy
  · rw [List.mem_singleton.1 hy]; exact hs hk⟩
theorem ClIn.done {has : List (List Int)} {sb : List Bool} {k : Nat} {own : List Int} (h : ClIn has sb k own own.length) (ho : has.getD k [] = own) : ClTo has sb (k + 1) := fun n hn hs y hy => by
  rcases Nat.lt_succ_iff_lt_or_eq.1 hn with hn | rfl
  · exact h.1 n hn hs y hy
  · rw [ho] at hy; exact h.2 hs y (by rw [List.take_length]; exact hy)
theorem ClTo.all {has : List (List Int)} {sb : List Bool} (h : ClTo has sb has.length) : Cl has (Sn sb) := fun n hn y hy => by
  by_cases hl : n < has.length
  · exact h n hl hn y hy
  · simp [List.getD, List.getElem?_eq_none (Nat.not_lt.1 hl)] at hy
theorem FI.out {has : List (List Int)} {l : List Int} {sb sb' : List Bool} {b : Bool} (h : FI has l sb sb' b (ClTo has sb has.length)) : FO has l sb' b :=
  ⟨h.len, h.base, h.sub, fun hb => by obtain ⟨e, hc⟩ := h.no hb; subst e; exact hc.all⟩
theorem FI.less {has : List (List Int)} {l : List Int} {sb sb' : List Bool} {b : Bool} {P : Prop} (h : FI has l sb sb' b P) : 2 * unseen sb' + (if b = true then 1 else 0) < 2 * unseen sb + 1 := by
  cases b with
  | true => have := h.yes rfl; simp; omega
  | false => have := (h.no rfl).1; subst this; simp
set_option maxHeartbeats 8000000 in
theorem rfrom_z {z1 z2 z3 : ZV} {has : List (List Int)} {l : List Int} (h1 : rowsZ H 1 z1 = some (has.map eL)) (hc1 : z1.isCell = true) (hc2 : z2.isCell = true) (h3 : rowsZ H 1 z3 = some (l.map eI)) (hN : has.length ≤ 1000) (hll : l.length ≤ 1000000) (hls : ∀ o ∈ has, o.length ≤ 1000) (hok : okHas has has.length) (hb : ∀ x ∈ l, 0 ≤ x ∧ x < (has.length : Int))
    (e1 : ∀ X, rowsZ (H ++ X) 1 z1 = some (has.map eL)) (e3 : ∀ X, rowsZ (H ++ X) 1 z3 = some (l.map eI))
    (hK : ∀ ex, K (.fz 1 ex ((liveSb has [] l).map eB)) H) :
    ZC (constX tb) (cFunc Try.prog) 28 [.agg [z1, z2], z3, .nil] L H K := by
  refine ZC.enterL ⟨[], [], []⟩ constX_none f_mk_from (by simp) fun hL => ?_
  simp only [c_mk_from]
  have q1 : ∀ X, lenZ (H ++ X) z1 = some has.length := fun X => by have := rows_len (e1 X); rwa [List.length_map] at this
  have q3 : ∀ X, lenZ (H ++ X) z3 = some l.length := fun X => by have := rows_len (e3 X); rwa [List.length_map] at this
  have hr : has.length ≤ reach := by unfold reach; omega
  have lx : ∀ n, L (H.length + n) = true := fun n => by cases n with
    | zero => exact hL 0
    | succ n => exact hL (n + 1)
  have hrep : List.replicate has.length [ZBo false] = (List.replicate has.length false).map eB := by simp
  have HK := Lib.hid hK
  have HH := Lib.hid (And.intro hN (And.intro hll (And.intro hls (And.intro hok hb))))
  have E1 := Lib.hid e1
  have E3 := Lib.hid e3
  clear hK hN hll hls hok hb e1 e3 h1 h3
  repeat' (first | (simp only [zmPack, zxPack, ne_eq, zfree, owners, Nat.reduceLT, List.contains_cons, List.contains_nil, Nat.reduceBEq, BEq.rfl, chunk, setAt, List.lookup_cons, List.lookup_nil, reduceCtorEq, Nat.reduceEqDiff, reduceIte, implies_true, forall_const, Nat.reduceMul, Nat.reduceSub, Nat.reduceAdd, Nat.reduceLeDiff, q1, q3, hr, hc1, hc2, lx, hrep, beq_self_eq_true, *]) | (simp only [zgoO, zgoG, zO_nil, zthen_normal, zgoC]) | (with_reducible apply And.intro) | (with_reducible intro _))
  clear hrep hr
  have hlt : l.length < 9223372036854775807 := by have := HH.out.2.1; omega
  refine zW_forK [(22, z3), (7, .ptr (H.length + 2) 0), (3, .ptr H.length 0), (2, .nil)] l.length (fun k s' h' => ∃ sb, FB has l k sb ∧ h' = H ++ (.box [z1, z2] :: .grow 0 1 (sb.map eB) :: .box [.own (H.length + 1) 0 0 has.length true] :: [])) hlt ⟨rfl, rfl, rfl, rfl, rfl, rfl⟩ rfl rfl (by repeat' (first | exact trivial | (refine ⟨rfl, ?_⟩) | (refine ⟨by simp only [zupd_at, Nat.reduceEqDiff, reduceIte]; assumption, ?_⟩))) rfl rfl (by decide) ⟨_, ⟨by simp, by simp, fun n hn => absurd hn (Sn_falses _ n)⟩, rfl⟩ ?_ ?_
  · rintro k s' h' hk ⟨sb, hF, rfl⟩ hi hl ⟨f22, f7, f3, -⟩
    obtain ⟨pp, hp, hld⟩ := rows_at (E3.out (.box [z1, z2] :: .grow 0 1 (sb.map eB) :: .box [.own (H.length + 1) 0 0 has.length true] :: [])) hk
    obtain ⟨m, hm⟩ := Int.eq_ofNat_of_zero_le (HH.out.2.2.2.2 _ (List.getElem_mem hk)).1
    have hmn : m < has.length := by have := (HH.out.2.2.2.2 _ (List.getElem_mem hk)).2; omega
    have fin := hF.next hk hm hmn
    have hel := fun A Y => fr_el (H := H) (A := A) (Y := Y) hF.len hmn
    have hst := fun A Y => fr_st (L := L) (H := H) (A := A) (Y := Y) (by rw [hF.len]; exact hmn) (lx 1)
    rw [hm] at hld
    have FN := Lib.hid fin
    clear hm fin hmn hF q1 q3
    repeat' (first | (simp only [zmPack, zxPack, ne_eq, zfree, owners, Nat.reduceLT, List.contains_cons, List.contains_nil, Nat.reduceBEq, BEq.rfl, chunk, setAt, List.lookup_cons, List.lookup_nil, reduceCtorEq, Nat.reduceEqDiff, reduceIte, implies_true, forall_const, Nat.reduceMul, Nat.reduceSub, Nat.reduceAdd, Nat.reduceLeDiff, hp, hld, hel, hst, *]) | (simp only [zgoO, zgoG, zO_nil, zthen_normal, zgoC]) | (with_reducible apply And.intro) | (with_reducible intro _))
    all_goals exact ⟨_, FN.out, rfl⟩
  · rintro s' h' ⟨sb, hF, rfl⟩ ⟨f22, f7, f3, f2, -⟩
    have hB := hF.base
    rw [List.take_of_length_le (Nat.le_refl _)] at hB
    have hO : FO has l sb true := ⟨hF.len, hB, hF.sub, fun h => by cases h⟩
    have l3 := lx 3
    clear hF hB q3 hlt
    have HO := Lib.hid hO
    clear hO
    repeat' (first | (simp only [zmPack, zxPack, ne_eq, zfree, owners, Nat.reduceLT, List.contains_cons, List.contains_nil, Nat.reduceBEq, BEq.rfl, chunk, setAt, List.lookup_cons, List.lookup_nil, reduceCtorEq, Nat.reduceEqDiff, reduceIte, implies_true, forall_const, Nat.reduceMul, Nat.reduceSub, Nat.reduceAdd, Nat.reduceLeDiff, l3, *]) | (simp only [zgoO, zgoG, zO_nil, zthen_normal, zgoC]) | (with_reducible apply And.intro) | (with_reducible intro _))
    refine zW_whileK [(7, .ptr (H.length + 2) 0), (3, .ptr H.length 0), (2, .nil)] (2 * unseen sb + 1) (fun n s' h' => ∃ sb b X, s' 10 = .ptr (H.length + (X.length + 3)) 0 ∧ h' = H ++ (.box [z1, z2] :: .grow 0 1 (sb.map eB) :: .box [.own (H.length + 1) 0 0 has.length true] :: (X ++ [.box [ZBo b]])) ∧ FO has l sb b ∧ n = 2 * unseen sb + (if b = true then 1 else 0)) (by repeat' (first | exact trivial | (refine ⟨rfl, ?_⟩) | (refine ⟨by simp only [zupd_at, Nat.reduceEqDiff, reduceIte]; assumption, ?_⟩))) rfl ⟨sb, true, [], rfl, rfl, HO.out, rfl⟩ ?_
    clear HO f22 f7 f3 f2 l3
    rintro n s' h' ⟨sb, b, X, f10, rfl, hO, rfl⟩ ⟨f7, f3, f2, -⟩
    have a0 : ∀ A B C D : ZB, (H ++ (A :: B :: C :: (X ++ [D])))[H.length + (X.length + 3)]? = some D := fun A B C D => by
      rw [List.getElem?_append_right (by omega), Nat.add_sub_cancel_left]; simp
    have s0 : ∀ A B C D E : ZB, (H ++ (A :: B :: C :: (X ++ [D]))).set (H.length + (X.length + 3)) E = H ++ (A :: B :: C :: (X ++ [E])) := fun A B C D E => by
      rw [List.set_append_right _ _ (by omega), Nat.add_sub_cancel_left]; simp
    have a1 : ∀ A B C D E : ZB, (H ++ (A :: B :: C :: (X ++ [D, E])))[H.length + (X.length + 4)]? = some E := fun A B C D E => by
      rw [List.getElem?_append_right (by omega), Nat.add_sub_cancel_left]; simp
    have s1 : ∀ A B C D E F : ZB, (H ++ (A :: B :: C :: (X ++ [D, E]))).set (H.length + (X.length + 4)) F = H ++ (A :: B :: C :: (X ++ [D, F])) := fun A B C D E F => by
      rw [List.set_append_right _ _ (by omega), Nat.add_sub_cancel_left]; simp
    have l0 := lx (X.length + 3)
    have l4 := lx (X.length + 4)
    have HO := Lib.hid hO
    cases b with
    | false =>
      have hsb : sb = liveSb has [] l := eq_liveSb hO.len (fun n => LInv.iff ⟨hO.base, hO.clo rfl, hO.sub⟩ (fun p hp => by cases hp) n)
      have hln := hO.len
      have fin : Fin H (.own (H.length + 1) 0 0 has.length true) (H ++ (.box [z1, z2] :: .grow 0 1 (sb.map eB) :: .box [.own (H.length + 1) 0 0 has.length true] :: (X ++ [.box [ZBo false]]))) K := by
        refine Fin.frz (k := 1) (rows := sb.map eB) (mv_at1 _ _ _) (by simp [hln]) (mv_pure (fun r hr => by obtain ⟨x, _, rfl⟩ := List.mem_map.1 hr; rfl)) ?_
        rw [mv_st1, List.drop_zero, List.take_of_length_le (by simp [hln]), hsb]
        exact Fin.trunc (Mods.ext H _) rfl (by rw [List.take_left]; exact HK.out _)
      clear hsb hln hO
      repeat' (first | (simp only [zmPack, zxPack, ne_eq, zfree, owners, Nat.reduceLT, List.contains_cons, List.contains_nil, Nat.reduceBEq, BEq.rfl, chunk, setAt, List.lookup_cons, List.lookup_nil, reduceCtorEq, Nat.reduceEqDiff, reduceIte, implies_true, forall_const, Nat.reduceMul, Nat.reduceSub, Nat.reduceAdd, Nat.reduceLeDiff, a0, *]) | (simp only [zgoO, zgoG, zO_nil, zthen_normal, zgoC]) | (with_reducible apply And.intro) | (with_reducible intro _))
    | true =>
      clear hO
      repeat' (first | (simp only [zmPack, zxPack, ne_eq, zfree, owners, Nat.reduceLT, List.contains_cons, List.contains_nil, Nat.reduceBEq, BEq.rfl, chunk, setAt, List.lookup_cons, List.lookup_nil, reduceCtorEq, Nat.reduceEqDiff, reduceIte, implies_true, forall_const, Nat.reduceMul, Nat.reduceSub, Nat.reduceAdd, Nat.reduceLeDiff, a0, s0, l0, q1, *]) | (simp only [zgoO, zgoG, zO_nil, zthen_normal, zgoC]) | (with_reducible apply And.intro) | (with_reducible intro _))
      have hN : has.length < 9223372036854775807 := by have := HH.out.1; omega
      refine zW_forK [(35, z1), (11, .func 48 [.ptr (H.length + (X.length + 3)) 0, .ptr (H.length + 2) 0]), (7, .ptr (H.length + 2) 0), (10, .ptr (H.length + (X.length + 3)) 0), (2, .nil)] has.length (fun k s' h' => ∃ sb' b', FI has l sb sb' b' (ClTo has sb k) ∧ h' = H ++ (.box [z1, z2] :: .grow 0 1 (sb'.map eB) :: .box [.own (H.length + 1) 0 0 has.length true] :: (X ++ [.box [ZBo b']]))) hN ⟨rfl, rfl, rfl, rfl, rfl, rfl⟩ rfl rfl (by repeat' (first | exact trivial | (refine ⟨rfl, ?_⟩) | (refine ⟨by simp only [zupd_at, Nat.reduceEqDiff, reduceIte]; assumption, ?_⟩))) rfl rfl (by decide) ⟨sb, false, FI.start HO.out.len HO.out.base HO.out.sub (fun n hn => absurd hn (by omega)), rfl⟩ ?_ ?_
      · rintro k s' h' hk ⟨sb', b', hI, rfl⟩ hi hl ⟨g35, g11, g7, g10, -⟩
        obtain ⟨pp, hp, hld⟩ := rows_at (E1.out (.box [z1, z2] :: .grow 0 1 (sb'.map eB) :: .box [.own (H.length + 1) 0 0 has.length true] :: (X ++ [.box [ZBo b']]))) hk
        have hgd : has.getD k [] = has[k] := by simp [List.getD, hk]
        have hos := HH.out.2.2.1 _ (List.getElem_mem hk)
        have hoi := HH.out.2.2.2.1.2 _ (List.getElem_mem hk)
        obtain ⟨o, ho⟩ : ∃ o, o = has[k] := ⟨_, rfl⟩
        rw [← ho] at hld hgd hos hoi
        have HOS := Lib.hid hos
        have HOI := Lib.hid hoi
        have HGD := Lib.hid hgd
        have HI := Lib.hid hI
        clear ho hos hoi hgd hI hN
        repeat' (first | (simp only [zmPack, zxPack, ne_eq, zfree, owners, Nat.reduceLT, List.contains_cons, List.contains_nil, Nat.reduceBEq, BEq.rfl, chunk, setAt, List.lookup_cons, List.lookup_nil, reduceCtorEq, Nat.reduceEqDiff, reduceIte, implies_true, forall_const, Nat.reduceMul, Nat.reduceSub, Nat.reduceAdd, Nat.reduceLeDiff, hp, hld, *]) | (simp only [zgoO, zgoG, zO_nil, zthen_normal, zgoC]) | (with_reducible apply And.intro) | (with_reducible intro _))
        refine zW_forK [(42, zI o), (12, Z64 (k : Nat)), (11, .func 48 [.ptr (H.length + (X.length + 3)) 0, .ptr (H.length + 2) 0]), (7, .ptr (H.length + 2) 0)] o.length (fun m s' h' => ∃ sb' b', FI has l sb sb' b' (ClIn has sb k o m) ∧ h' = H ++ (.box [z1, z2] :: .grow 0 1 (sb'.map eB) :: .box [.own (H.length + 1) 0 0 has.length true] :: (X ++ [.box [ZBo b']]))) (by have := HOS.out; omega) ⟨rfl, rfl, rfl, rfl, rfl, rfl⟩ rfl rfl (by repeat' (first | exact trivial | (refine ⟨rfl, ?_⟩) | (refine ⟨by simp only [zupd_at, Nat.reduceEqDiff, reduceIte]; assumption, ?_⟩))) rfl rfl (by decide) ⟨sb', b', HI.out.mono fun _ h => ClIn.start h, rfl⟩ ?_ ?_
        · clear HI hp hld
          rintro m s' h' hm ⟨sb2, b2, hI, rfl⟩ hi hl ⟨g42, g12, g11, g7, -⟩
          have hy : o[m]? = some o[m] := List.getElem?_eq_getElem hm
          have hyr := HOI.out _ (List.getElem_mem hm)
          have hym : o[m] ∈ has.getD k [] := by rw [HGD.out]; exact List.getElem_mem hm
          have hnx := fun h => ClIn.next (has := has) (sb := sb) (k := k) h hm
          obtain ⟨j, hj⟩ := Int.eq_ofNat_of_zero_le hyr.1
          rw [hj] at hy hyr hym hnx
          have hjl : j < sb2.length := by rw [hI.len]; omega
          have hkl : k < sb2.length := by rw [hI.len]; exact hk
          have hjg : sb2[j]? = some sb2[j] := List.getElem?_eq_getElem hjl
          have hkg : sb2[k]? = some sb2[k] := List.getElem?_eq_getElem hkl
          have hel := fun A Y => fr_el (H := H) (A := A) (Y := Y) hI.len hk
          have hskI : Sn sb2 k ↔ sb2[k] = true := by unfold Sn; simp [List.getD, hkl]
          have hsee := fun hl hq => hI.see (Q := ClIn has sb k o (m + 1)) hjl hl hq
          have hmono := fun hq => hI.mono (Q := ClIn has sb k o (m + 1)) hq
          have hlivk := hI.sub k
          have hlen2 := hI.len
          obtain ⟨c, hc⟩ : ∃ c, c = sb2[k] := ⟨_, rfl⟩
          obtain ⟨d, hd⟩ : ∃ d, d = sb2[j] := ⟨_, rfl⟩
          rw [← hc] at hkg hskI
          rw [← hd] at hjg hsee
          have hldk := fun A Y => fr_ld (H := H) (A := A) (Y := Y) hkg
          have HSEE := Lib.hid hsee
          have HMO := Lib.hid hmono
          have HLK := Lib.hid hlivk
          have HYM := Lib.hid hym
          have HNX := Lib.hid hnx
          have HJG := Lib.hid hjg
          have HL2 := Lib.hid hlen2
          have HSK := Lib.hid hskI
          have HJL := Lib.hid hjl
          clear hj hyr hym hnx hjl hkl hjg hkg hskI hsee hmono hlivk hlen2 hc hd hI
          cases c with
          | true =>
            repeat' (first | (simp only [zmPack, zxPack, ne_eq, zfree, owners, Nat.reduceLT, List.contains_cons, List.contains_nil, Nat.reduceBEq, BEq.rfl, chunk, setAt, List.lookup_cons, List.lookup_nil, reduceCtorEq, Nat.reduceEqDiff, reduceIte, implies_true, forall_const, Nat.reduceMul, Nat.reduceSub, Nat.reduceAdd, Nat.reduceLeDiff, hy, hel, hldk, *]) | (simp only [zgoO, zgoG, zO_nil, zthen_normal, zgoC]) | (with_reducible apply And.intro) | (with_reducible intro _))
            refine froma_z (sb := sb2) (c := d) (a0 _ _ _ _) (by rw [List.getElem?_append_right (by omega), Nat.add_sub_cancel_left]; rfl) (mv_at1 _ _ _) HL2.out HJG.out (by omega) l0 (lx 1) ?_
            have fin := HSEE.out (Liv.cl has [] l k (HLK.out (HSK.out.2 rfl)) _ HYM.out) (fun _ h hs => HNX.out h fun _ => hs)
            rw [s0, mv_st1]
            have FN := Lib.hid fin
            clear fin hel hldk hy
            repeat' (first | (simp only [zmPack, zxPack, ne_eq, zfree, owners, Nat.reduceLT, List.contains_cons, List.contains_nil, Nat.reduceBEq, BEq.rfl, chunk, setAt, List.lookup_cons, List.lookup_nil, reduceCtorEq, Nat.reduceEqDiff, reduceIte, implies_true, forall_const, Nat.reduceMul, Nat.reduceSub, Nat.reduceAdd, Nat.reduceLeDiff, *]) | (simp only [zgoO, zgoG, zO_nil, zthen_normal, zgoC]) | (with_reducible apply And.intro) | (with_reducible intro _))
            all_goals exact ⟨_, _, FN.out, rfl⟩
          | false =>
            have fin := HMO.out (fun e h => HNX.out h fun hs => absurd (HSK.out.1 (e ▸ hs)) (by simp))
            have FN := Lib.hid fin
            clear fin
            repeat' (first | (simp only [zmPack, zxPack, ne_eq, zfree, owners, Nat.reduceLT, List.contains_cons, List.contains_nil, Nat.reduceBEq, BEq.rfl, chunk, setAt, List.lookup_cons, List.lookup_nil, reduceCtorEq, Nat.reduceEqDiff, reduceIte, implies_true, forall_const, Nat.reduceMul, Nat.reduceSub, Nat.reduceAdd, Nat.reduceLeDiff, hy, hel, hldk, *]) | (simp only [zgoO, zgoG, zO_nil, zthen_normal, zgoC]) | (with_reducible apply And.intro) | (with_reducible intro _))
            all_goals exact ⟨_, _, FN.out, rfl⟩
        · rintro s' h' ⟨sb2, b2, hI, rfl⟩ ⟨g42, g12, g11, g7, -⟩
          have fin := hI.mono fun _ h => ClIn.done h HGD.out
          have FN := Lib.hid fin
          clear fin hI hp hld
          repeat' (first | (simp only [zmPack, zxPack, ne_eq, zfree, owners, Nat.reduceLT, List.contains_cons, List.contains_nil, Nat.reduceBEq, BEq.rfl, chunk, setAt, List.lookup_cons, List.lookup_nil, reduceCtorEq, Nat.reduceEqDiff, reduceIte, implies_true, forall_const, Nat.reduceMul, Nat.reduceSub, Nat.reduceAdd, Nat.reduceLeDiff, *]) | (simp only [zgoO, zgoG, zO_nil, zthen_normal, zgoC]) | (with_reducible apply And.intro) | (with_reducible intro _))
          all_goals exact ⟨_, _, FN.out, rfl⟩
      · rintro s' h' ⟨sb', b', hI, rfl⟩ ⟨g35, g11, g7, g10, g2, -⟩
        have HI := Lib.hid hI
        clear hI hN
        repeat' (first | (simp only [zmPack, zxPack, ne_eq, zfree, owners, Nat.reduceLT, List.contains_cons, List.contains_nil, Nat.reduceBEq, BEq.rfl, chunk, setAt, List.lookup_cons, List.lookup_nil, reduceCtorEq, Nat.reduceEqDiff, reduceIte, implies_true, forall_const, Nat.reduceMul, Nat.reduceSub, Nat.reduceAdd, Nat.reduceLeDiff, *]) | (simp only [zgoO, zgoG, zO_nil, zthen_normal, zgoC]) | (with_reducible apply And.intro) | (with_reducible intro _))
        refine zW_forK [(10, .ptr (H.length + (X.length + 3)) 0)] 0 (fun k s2 h2 => h2 = H ++ (.box [z1, z2] :: .grow 0 1 (sb'.map eB) :: .box [.own (H.length + 1) 0 0 has.length true] :: (X ++ [.box [ZBo b']]))) (by omega) ⟨rfl, rfl, rfl, rfl, rfl, rfl⟩ rfl rfl (by repeat' (first | exact trivial | (refine ⟨rfl, ?_⟩) | (refine ⟨by simp only [zupd_at, Nat.reduceEqDiff, reduceIte]; assumption, ?_⟩))) rfl rfl (by decide) rfl ?_ ?_
        · rintro k s' h' hk
          omega
        · rintro s' h' rfl ⟨r10, -⟩
          repeat' (first | (simp only [zmPack, zxPack, ne_eq, zfree, owners, Nat.reduceLT, List.contains_cons, List.contains_nil, Nat.reduceBEq, BEq.rfl, chunk, setAt, List.lookup_cons, List.lookup_nil, reduceCtorEq, Nat.reduceEqDiff, reduceIte, implies_true, forall_const, Nat.reduceMul, Nat.reduceSub, Nat.reduceAdd, Nat.reduceLeDiff, a0, s0, a1, s1, l4, *]) | (simp only [zgoO, zgoG, zO_nil, zthen_normal, zgoC]) | (with_reducible apply And.intro) | (with_reducible intro _))
          all_goals exact ⟨_, HI.out.less, sb', b', X ++ [.box [ZBo b']], by simp, by simp, HI.out.out, rfl⟩
theorem rising_z {ex : Bool} {sb : List Bool} (hl : sb.length ≤ 1000000) (hK : K (.fz 1 false ((rising sb).map eI)) H) :
    ZC (constX tb) (cFunc Try.prog) 35 [.fz 1 ex (sb.map eB)] L H K := by
  refine ZC.enterL ⟨[(3, [(0, 1)])], [], []⟩ constX_none f_mk_rising (by simp) fun hL => ?_
  simp only [c_mk_rising]
  have F : ∀ g' X, Fin H (.own H.length g' 0 (riseTo sb sb.length).length false) (H ++ (.grow g' 1 ((riseTo sb sb.length).map eI) :: X)) K := fun g' X => by
    refine Fin.frz (k := 1) (rows := (riseTo sb sb.length).map eI) (mv_at0 _ _) (by simp) (mv_pure (fun r hr => by obtain ⟨x, _, rfl⟩ := List.mem_map.1 hr; rfl)) ?_
    rw [mv_st0, List.drop_zero, List.take_of_length_le (by simp)]
    exact Fin.trunc (Mods.ext H _) rfl (by rw [List.take_left]; exact hK)
  have FF := Lib.hid F
  have HL := Lib.hid hl
  have l0 : L H.length = true := hL 0
  clear hK F hl
  repeat' (first | (simp only [zmPack, zxPack, ne_eq, zfree, owners, Nat.reduceLT, List.contains_cons, List.contains_nil, Nat.reduceBEq, BEq.rfl, chunk, setAt, List.lookup_cons, List.lookup_nil, reduceCtorEq, Nat.reduceEqDiff, reduceIte, implies_true, forall_const, Nat.reduceMul, Nat.reduceSub, Nat.reduceAdd, Nat.reduceLeDiff, *]) | (simp only [zgoO, zgoG, zO_nil, zthen_normal, zgoC]) | (with_reducible apply And.intro) | (with_reducible intro _))
  refine zW_forK [(6, .fz 1 ex (sb.map eB))] sb.length (fun k s' h' => ∃ g' X, s' 3 = .own H.length g' 0 (riseTo sb k).length false ∧ h' = H ++ (.grow g' 1 ((riseTo sb k).map eI) :: X)) (by have := HL.out; omega) ⟨rfl, rfl, rfl, rfl, rfl, rfl⟩ rfl rfl (by repeat' (first | exact trivial | (refine ⟨rfl, ?_⟩) | (refine ⟨by simp only [zupd_at, Nat.reduceEqDiff, reduceIte]; assumption, ?_⟩))) rfl rfl (by decide) ⟨0, [], rfl, rfl⟩ ?_ ?_
  · rintro k s' h' hk ⟨g', X, f3, rfl⟩ hi hll ⟨f6, -⟩
    have hx : sb[k]? = some sb[k] := List.getElem?_eq_getElem hk
    have hru := riseTo_succ sb k
    have hgd : sb.getD k false = sb[k] := by simp [hk]
    rw [hgd] at hru
    have hrl := riseTo_length sb k
    obtain ⟨c, hc⟩ : ∃ c, c = sb[k] := ⟨_, rfl⟩
    rw [← hc] at hx hru
    have hap : ∀ Y, appZ L (H ++ (.grow g' 1 ((riseTo sb k).map eI) :: Y)) 1 8 [[Z64 k]] (.own H.length g' 0 (riseTo sb k).length false) = some (.own H.length (g' + 1) 0 ((riseTo sb k).length + 1) false, H ++ (.grow (g' + 1) 1 ((riseTo sb k ++ [(k : Int)]).map eI) :: Y)) := fun Y => by
      rw [app_ownN (mv_at0 _ _) (by simp) (by have := HL.out; unfold reach; simp; omega) l0, mv_st0, List.map_append]; rfl
    have HRU := Lib.hid hru
    clear hc hgd hru hrl
    cases c with
    | true =>
      repeat' (first | (simp only [zmPack, zxPack, ne_eq, zfree, owners, Nat.reduceLT, List.contains_cons, List.contains_nil, Nat.reduceBEq, BEq.rfl, chunk, setAt, List.lookup_cons, List.lookup_nil, reduceCtorEq, Nat.reduceEqDiff, reduceIte, implies_true, forall_const, Nat.reduceMul, Nat.reduceSub, Nat.reduceAdd, Nat.reduceLeDiff, hx, hap, *]) | (simp only [zgoO, zgoG, zO_nil, zthen_normal, zgoC]) | (with_reducible apply And.intro) | (with_reducible intro _))
      all_goals first | (rw [HRU.out, if_pos rfl, List.length_append]; done) | (rw [HRU.out, if_pos rfl, List.length_append]; rfl) | (rw [HRU.out, if_pos rfl]; exact ⟨_, rfl⟩)
    | false =>
      repeat' (first | (simp only [zmPack, zxPack, ne_eq, zfree, owners, Nat.reduceLT, List.contains_cons, List.contains_nil, Nat.reduceBEq, BEq.rfl, chunk, setAt, List.lookup_cons, List.lookup_nil, reduceCtorEq, Nat.reduceEqDiff, reduceIte, implies_true, forall_const, Nat.reduceMul, Nat.reduceSub, Nat.reduceAdd, Nat.reduceLeDiff, hx, *]) | (simp only [zgoO, zgoG, zO_nil, zthen_normal, zgoC]) | (with_reducible apply And.intro) | (with_reducible intro _))
      all_goals first | (rw [HRU.out, if_neg (by decide)]; done) | (rw [HRU.out, if_neg (by decide)]; exact ⟨_, rfl⟩)
  · rintro s' h' ⟨g', X, f3, rfl⟩ ⟨f6, -⟩
    have fin := FF.out g' X
    repeat' (first | (simp only [zmPack, zxPack, ne_eq, zfree, owners, Nat.reduceLT, List.contains_cons, List.contains_nil, Nat.reduceBEq, BEq.rfl, chunk, setAt, List.lookup_cons, List.lookup_nil, reduceCtorEq, Nat.reduceEqDiff, reduceIte, implies_true, forall_const, Nat.reduceMul, Nat.reduceSub, Nat.reduceAdd, Nat.reduceLeDiff, *]) | (simp only [zgoO, zgoG, zO_nil, zthen_normal, zgoC]) | (with_reducible apply And.intro) | (with_reducible intro _))
theorem neededin_z {has : List (List Int)} {l : List Int} (hN : has.length ≤ 1000) (hll : l.length ≤ 1000000) (hls : ∀ o ∈ has, o.length ≤ 1000) (hok : okHas has has.length) (hb : ∀ x ∈ l, 0 ≤ x ∧ x < (has.length : Int)) (hK : K (.fz 1 false ((liveL has [] l).map eI)) H) :
    ZC (constX tb) (cFunc Try.prog) 18 [.agg [.fz 1 false (has.map eL), .fz 1 false (l.map eI)]] L H K := by
  refine ZC.enterL Gh.no constX_none f_mk_neededin (by simp) fun hL => ?_
  simp only [c_mk_neededin]
  have fin : ∀ X, Fin H (.fz 1 false ((liveL has [] l).map eI)) (H ++ X) K := fun X => Fin.trunc (Mods.ext H X) rfl (by rw [List.take_left]; exact hK)
  have HH := Lib.hid (And.intro hN (And.intro hll (And.intro hls (And.intro hok hb))))
  clear hK hN hll hls hok hb
  repeat' (first | (simp only [zmPack, zxPack, ne_eq, zfree, owners, Nat.reduceLT, List.contains_cons, List.contains_nil, Nat.reduceBEq, BEq.rfl, chunk, setAt, List.lookup_cons, List.lookup_nil, reduceCtorEq, Nat.reduceEqDiff, reduceIte, implies_true, forall_const, Nat.reduceMul, Nat.reduceSub, Nat.reduceAdd, Nat.reduceLeDiff, *]) | (simp only [zgoO, zgoG, zO_nil, zthen_normal, zgoC]) | (with_reducible apply And.intro) | (with_reducible intro _))
  refine rfrom_z rows_fz rfl rfl rows_fz HH.out.1 HH.out.2.1 HH.out.2.2.1 HH.out.2.2.2.1 HH.out.2.2.2.2 (fun _ => rows_fz) (fun _ => rows_fz) fun ex => ?_
  repeat' (first | (simp only [zmPack, zxPack, ne_eq, zfree, owners, Nat.reduceLT, List.contains_cons, List.contains_nil, Nat.reduceBEq, BEq.rfl, chunk, setAt, List.lookup_cons, List.lookup_nil, reduceCtorEq, Nat.reduceEqDiff, reduceIte, implies_true, forall_const, Nat.reduceMul, Nat.reduceSub, Nat.reduceAdd, Nat.reduceLeDiff, *]) | (simp only [zgoO, zgoG, zO_nil, zthen_normal, zgoC]) | (with_reducible apply And.intro) | (with_reducible intro _))
  refine rising_z (by rw [liveSb_length]; have := HH.out.1; omega) ?_
  rw [show rising (liveSb has [] l) = liveL has [] l by rfl]
  repeat' (first | (simp only [zmPack, zxPack, ne_eq, zfree, owners, Nat.reduceLT, List.contains_cons, List.contains_nil, Nat.reduceBEq, BEq.rfl, chunk, setAt, List.lookup_cons, List.lookup_nil, reduceCtorEq, Nat.reduceEqDiff, reduceIte, implies_true, forall_const, Nat.reduceMul, Nat.reduceSub, Nat.reduceAdd, Nat.reduceLeDiff, *]) | (simp only [zgoO, zgoG, zO_nil, zthen_normal, zgoC]) | (with_reducible apply And.intro) | (with_reducible intro _))
end Go.Proofs.Ytpeagenjmmkohaa

namespace Go.Proofs.Ytpeagenjmmkohaa
open Go Go.RowKit
set_option linter.unusedVariables false
set_option linter.unusedSimpArgs false
section
variable {tb : List (FuncId × Bool)} {fl : Nat → Bool} {h : Heap} {K : AV → Heap → Prop}
theorem from_am2 {v1 v2 lv : AV} {has : List (List Int)} {l : List Int} (h1 : LL h v1 has) (hc2 : v2.isCell = true) (hl : IL h lv l) (hN : has.length ≤ 100) (hls : ∀ l ∈ has, l.length ≤ 1000) (hll : l.length ≤ 1000000) (hok : okHas has has.length)
    (hb : ∀ x ∈ l, 0 ≤ x ∧ x < (has.length : Int)) (hf : ∀ i, h.length ≤ i → fl i = true)
    (hK : ∀ h' sb, BL h' (.slice (h.length + 1) 0 has.length has.length true 1) sb → sb.length = has.length → LInv has [] l sb → Keep h h' [] → K (.slice (h.length + 1) 0 has.length has.length true 1) h') :
    AC (constX tb) (cFunc Try.prog) 53 [.agg [v1, v2], lv] fl h K := by
  refine AC.enter rfl f_wk_from (by simp) ?_
  simp only [c_wk_from]
  have hl1 := h1.len
  have hc1 := h1.cell
  have hre : has.length ≤ reach := by unfold reach; omega
  obtain ⟨H, hH⟩ : ∃ H, H = h ++ [some [v1, v2], some (List.replicate has.length (BV false)), some [v1, v2, .slice (h.length + 1) 0 has.length has.length true 1, .nil]] := ⟨_, rfl⟩
  have kH : Keep h H [] := by rw [hH]; exact Keep.ext _ _
  have hHl : H.length = h.length + 3 := by rw [hH]; simp
  have hR : RSt H (h.length + 2) v1 v2 (.slice (h.length + 1) 0 has.length has.length true 1) (List.replicate has.length false) .nil [] := by
    refine ⟨by rw [hH, blk_atK]; rfl, BL.made (by rw [hH, blk_atK]; rfl), OL.nil, by simp [idOf], by simp [idOf], by simp [idOf]⟩
  have hW : Wri fl H (h.length + 2) (.slice (h.length + 1) 0 has.length has.length true 1) .nil := ⟨hf _ (by omega), fun i hi => hf _ (by simp [idOf] at hi; omega), fun i hi => by simp [idOf] at hi, fun i hi => hf _ (by omega)⟩
  have hgo := fun (K2 : AV → Heap → Prop) (k2 : _) => reach_am (tb := tb) (K := K2) hR (hl.keep kH (by simp)) (fun i hi hm => by have := Sl.lt hl i hi; simp [idOf] at hm; omega) (by simpa using hb) hll (by rw [replicate_unseen]; simp; omega) hW k2
  have HH := Lib.hid hH
  have HL := Lib.hid hHl
  clear hH hHl
  repeat' (first | (simp only [AW_next, AW_ops, AW_cond, AW_block, AW_exit, AW_ret, AW_skip, AW_scope, AO_nil, AO_next, AO_nextW, wantB_bool, wantK_some, then_normal, then_exit, then_ret, inBlk_normal, inBlk_exit, inBlk_ret, A1_mv, A1_pick, A1_box, A1_zero, A1_build, A1_lits, A1_load, shallow_none, A1_store, A1_nilCheckI, nilOk_ptr, nilOk_func, A1_bin, A1_eqNil, A1_eqBool, A1_eqAgg, A1_un, A1_conv, A1_field, A1_fieldAddr, A1_indexAddr, A1_indexArr, A1_index, A1_slice, A1_mkSlice, A1_extract, A1_func, A1_call, A1_append, A1_len, A1_minmax, put_some, put_none, upd_at, ev_tmp, ev_av, bin_lss, bin_leq, bin_gtr, bin_geq, bin_eql, bin_neq, bin_add, bin_sub, bin_mul, un_not, natOf_nat, Bool.not_eq_false', Prod.mk.injEq, and_assoc, decide_false, decide_true, Bool.not_false, Bool.not_true, Bool.true_eq_false, Bool.false_eq_true, exists_false, Bool.not_eq_false, Bool.not_not, AV.val.injEq, AV.ptr.injEq, AV.slice.injEq, AV.func.injEq, AV.tuple.injEq, AV.agg.injEq, Value.bool.injEq, Value.int.injEq, Option.some.injEq, exists_eq_left', exists_eq_left, exists_and_left, exists_and_right, and_true, true_and, decide_eq_true_eq, decide_eq_false_iff_not, if_true, if_false, Bool.not_eq_true', beq_true, beq_false, ne_eq, not_true_eq_false, not_false_eq_true, reduceCtorEq, List.getD_cons_zero, List.getD_cons_succ, List.map_cons, List.map_nil, List.append_nil, Nat.reduceEqDiff, reduceIte, ite_true, ite_false, or_true, true_or, or_false, false_or, resA, resultsA, true_imp_iff, false_imp_iff, implies_true, imp_false, and_self, imp_self, and_false, false_and, forall_const, cell_val, cell_ptr, cell_slice, cell_func, cell_hole, cells_agg, cells_val, cells_ptr, cells_slice, cells_func, cells_hole, cells_cell, List.length_cons, List.length_nil, List.all_cons, List.all_nil, Bool.and_self, ldA, List.mapM_cons, List.mapM_nil, Option.bind_eq_bind, Option.bind_some, Option.pure_def, Option.map_none, Option.map_some, List.set_cons_zero, List.set_cons_succ, Nat.lt_add_one, List.append_assoc, List.cons_append, List.nil_append, List.append_nil, List.length_append, rd1_n0, rd1_nK, rd1_c0, rd1_cS, rd_n0, rd_nK, rd_c0, rd_cS, fillA, List.take_zero, List.take_succ_cons, List.take_nil, List.drop_zero, List.drop_succ_cons, List.drop_nil, List.getElem?_cons_zero, List.getElem?_cons_succ, Nat.reduceAdd, Nat.reduceLeDiff, Nat.add_eq_zero_iff, and_self, Nat.zero_add, Nat.add_zero, Nat.mul_one, hl1, natOf_nat, hre, Nat.le_refl, beq_self_eq_true, flat_one, *]) | (simp only [goO, AO_nil, then_normal, goC]) | (with_reducible apply And.intro) | (with_reducible intro _))
  rw [← HH.out]
  refine hgo _ fun h2 tv2 r1 r2 r3 => ?_
  repeat' (first | (simp only [AW_next, AW_ops, AW_cond, AW_block, AW_exit, AW_ret, AW_skip, AW_scope, AO_nil, AO_next, AO_nextW, wantB_bool, wantK_some, then_normal, then_exit, then_ret, inBlk_normal, inBlk_exit, inBlk_ret, A1_mv, A1_pick, A1_box, A1_zero, A1_build, A1_lits, A1_load, shallow_none, A1_store, A1_nilCheckI, nilOk_ptr, nilOk_func, A1_bin, A1_eqNil, A1_eqBool, A1_eqAgg, A1_un, A1_conv, A1_field, A1_fieldAddr, A1_indexAddr, A1_indexArr, A1_index, A1_slice, A1_mkSlice, A1_extract, A1_func, A1_call, A1_append, A1_len, A1_minmax, put_some, put_none, upd_at, ev_tmp, ev_av, bin_lss, bin_leq, bin_gtr, bin_geq, bin_eql, bin_neq, bin_add, bin_sub, bin_mul, un_not, natOf_nat, Bool.not_eq_false', Prod.mk.injEq, and_assoc, decide_false, decide_true, Bool.not_false, Bool.not_true, Bool.true_eq_false, Bool.false_eq_true, exists_false, Bool.not_eq_false, Bool.not_not, AV.val.injEq, AV.ptr.injEq, AV.slice.injEq, AV.func.injEq, AV.tuple.injEq, AV.agg.injEq, Value.bool.injEq, Value.int.injEq, Option.some.injEq, exists_eq_left', exists_eq_left, exists_and_left, exists_and_right, and_true, true_and, decide_eq_true_eq, decide_eq_false_iff_not, if_true, if_false, Bool.not_eq_true', beq_true, beq_false, ne_eq, not_true_eq_false, not_false_eq_true, reduceCtorEq, List.getD_cons_zero, List.getD_cons_succ, List.map_cons, List.map_nil, List.append_nil, Nat.reduceEqDiff, reduceIte, ite_true, ite_false, or_true, true_or, or_false, false_or, resA, resultsA, true_imp_iff, false_imp_iff, implies_true, imp_false, and_self, imp_self, and_false, false_and, forall_const, cell_val, cell_ptr, cell_slice, cell_func, cell_hole, cells_agg, cells_val, cells_ptr, cells_slice, cells_func, cells_hole, cells_cell, List.length_cons, List.length_nil, List.all_cons, List.all_nil, Bool.and_self, ldA, List.mapM_cons, List.mapM_nil, Option.bind_eq_bind, Option.bind_some, Option.pure_def, Option.map_none, Option.map_some, List.set_cons_zero, List.set_cons_succ, Nat.lt_add_one, List.append_assoc, List.cons_append, List.nil_append, List.append_nil, List.length_append, rd1_n0, rd1_nK, rd1_c0, rd1_cS, rd_n0, rd_nK, rd_c0, rd_cS, fillA, List.take_zero, List.take_succ_cons, List.take_nil, List.drop_zero, List.drop_succ_cons, List.drop_nil, List.getElem?_cons_zero, List.getElem?_cons_succ, Nat.reduceAdd, Nat.reduceLeDiff, Nat.add_eq_zero_iff, and_self, Nat.zero_add, Nat.add_zero, Nat.mul_one, *]) | (simp only [goO, AO_nil, then_normal, goC]) | (with_reducible apply And.intro) | (with_reducible intro _))
  have hG : GInv has (Liv has [] l) (reachL (List.replicate has.length false, []) l) := (GInv.start has _ has.length).reach fun x hx => ⟨by simpa using hb x hx, Liv.base hx⟩
  have hsn := reachL_seen l (List.replicate has.length false, []) (fun x hx => by have := hb x hx; simp; omega)
  have hll := reachL_length l (List.replicate has.length false, [])
  have hbd := reachL_bound l (List.replicate has.length false, []) (fun x hx => by have := hb x hx; simp; omega)
  obtain ⟨⟨sb1, td1⟩, hst⟩ : ∃ st, st = reachL (List.replicate has.length false, []) l := ⟨_, rfl⟩
  rw [← hst] at r1 hG hsn hll hbd
  clear hst
  dsimp only at r1 hsn hll hbd
  rw [List.length_replicate] at hll
  rw [replicate_unseen, List.length_nil] at hbd
  have hk2 : Keep h h2 [] := kH.then r2 (fun i hi => .inl hi) fun i hi => .inr (by simp [idOf] at hi; omega)
  have hL' := HL.out
  have hW2 : Wri fl h2 (h.length + 2) (.slice (h.length + 1) 0 has.length has.length true 1) tv2 := ⟨hW.f1, hW.f2, fun i hi => (r3 i hi).elim (fun q => by simp [idOf] at q) (fun q => hf i (by omega)), fun i hi => hf i (by have := hk2.1; omega)⟩
  have hge : ∀ i ∈ (h.length + 2) :: (idOf (.slice (h.length + 1) 0 has.length has.length true 1) ++ idOf tv2), h.length ≤ i := fun i hi => by
    simp only [List.mem_cons, List.mem_append] at hi
    rcases hi with q | q | q
    · omega
    · simp [idOf] at q; omega
    · exact (r3 i q).elim (fun q => by simp [idOf] at q) (fun q => by omega)
  refine all_am r1 hG.toA (by rw [hll]; exact hok) hk2 h1 hge hls (by omega) hW2 fun h3 tv3 sb3 q1 q2 q3 q4 => ?_
  have hlen3 : sb3.length = has.length := by
    have a := q1.seen.len
    simp [lenA] at a
    exact a.symm
  have fin := hK h3 sb3 q1.seen hlen3 (LInv.ofA q2 (fun n hn => hG.sub n hn) (fun x hx => (hsn _).2 (.inr ⟨x, hx, rfl⟩))) (hk2.then q3 (fun i hi => .inl hi) fun i hi => .inr (hge i hi))
  have rc := q1.rc
  clear hgo
  repeat' (first | (simp only [AW_next, AW_ops, AW_cond, AW_block, AW_exit, AW_ret, AW_skip, AW_scope, AO_nil, AO_next, AO_nextW, wantB_bool, wantK_some, then_normal, then_exit, then_ret, inBlk_normal, inBlk_exit, inBlk_ret, A1_mv, A1_pick, A1_box, A1_zero, A1_build, A1_lits, A1_load, shallow_none, A1_store, A1_nilCheckI, nilOk_ptr, nilOk_func, A1_bin, A1_eqNil, A1_eqBool, A1_eqAgg, A1_un, A1_conv, A1_field, A1_fieldAddr, A1_indexAddr, A1_indexArr, A1_index, A1_slice, A1_mkSlice, A1_extract, A1_func, A1_call, A1_append, A1_len, A1_minmax, put_some, put_none, upd_at, ev_tmp, ev_av, bin_lss, bin_leq, bin_gtr, bin_geq, bin_eql, bin_neq, bin_add, bin_sub, bin_mul, un_not, natOf_nat, Bool.not_eq_false', Prod.mk.injEq, and_assoc, decide_false, decide_true, Bool.not_false, Bool.not_true, Bool.true_eq_false, Bool.false_eq_true, exists_false, Bool.not_eq_false, Bool.not_not, AV.val.injEq, AV.ptr.injEq, AV.slice.injEq, AV.func.injEq, AV.tuple.injEq, AV.agg.injEq, Value.bool.injEq, Value.int.injEq, Option.some.injEq, exists_eq_left', exists_eq_left, exists_and_left, exists_and_right, and_true, true_and, decide_eq_true_eq, decide_eq_false_iff_not, if_true, if_false, Bool.not_eq_true', beq_true, beq_false, ne_eq, not_true_eq_false, not_false_eq_true, reduceCtorEq, List.getD_cons_zero, List.getD_cons_succ, List.map_cons, List.map_nil, List.append_nil, Nat.reduceEqDiff, reduceIte, ite_true, ite_false, or_true, true_or, or_false, false_or, resA, resultsA, true_imp_iff, false_imp_iff, implies_true, imp_false, and_self, imp_self, and_false, false_and, forall_const, cell_val, cell_ptr, cell_slice, cell_func, cell_hole, cells_agg, cells_val, cells_ptr, cells_slice, cells_func, cells_hole, cells_cell, List.length_cons, List.length_nil, List.all_cons, List.all_nil, Bool.and_self, ldA, List.mapM_cons, List.mapM_nil, Option.bind_eq_bind, Option.bind_some, Option.pure_def, Option.map_none, Option.map_some, List.set_cons_zero, List.set_cons_succ, Nat.lt_add_one, List.append_assoc, List.cons_append, List.nil_append, List.append_nil, List.length_append, rd1_n0, rd1_nK, rd1_c0, rd1_cS, rd_n0, rd_nK, rd_c0, rd_cS, fillA, List.take_zero, List.take_succ_cons, List.take_nil, List.drop_zero, List.drop_succ_cons, List.drop_nil, List.getElem?_cons_zero, List.getElem?_cons_succ, Nat.reduceAdd, Nat.reduceLeDiff, Nat.add_eq_zero_iff, and_self, Nat.zero_add, Nat.add_zero, Nat.mul_one, rd1_of rc, *]) | (simp only [goO, AO_nil, then_normal, goC]) | (with_reducible apply And.intro) | (with_reducible intro _))

end
section
variable {tb : List (FuncId × Bool)} {L : Nat → Bool} {H : ZH} {K : ZV → ZH → Prop}
theorem ZC.frzF {X : CallT} {F : FuncId → Option AFunc} {f : FuncId} {zs : List ZV} {k n : Nat} {rows : List (List ZV)} (h : ZC X F f zs L H fun z H' => z = .own H.length 0 0 n false ∧ H' = H ++ [.grow 0 k rows]) (hn : rows.length = n) (hp : rows.flatten.all pureZ = true) (hK : K (.fz k false rows) H) : ZC X F f zs L H K := by
  refine h.thenF fun z H' ⟨e1, e2⟩ => ?_
  subst e1; subst e2
  refine Fin.frz (k := k) (rows := rows) (H_at0 ..) (by omega) hp ?_
  rw [List.drop_zero, List.take_of_length_le (by omega)]
  exact Fin.trunc (by rw [List.set_append_right _ _ (Nat.le_refl _)]; exact Mods.ext H _) rfl (by rw [List.set_append_right _ _ (Nat.le_refl _), List.take_left]; exact hK)
theorem wfrom_z {z1 z2 z3 : ZV} {has : List (List Int)} {l : List Int} (h1 : rowsZ H 1 z1 = some (has.map eL)) (hc : z2.isCell = true) (h3 : rowsZ H 1 z3 = some (l.map eI)) (hN : has.length ≤ 100) (hls : ∀ l ∈ has, l.length ≤ 1000) (hll : l.length ≤ 1000000) (hok : okHas has has.length)
    (hb : ∀ x ∈ l, 0 ≤ x ∧ x < (has.length : Int)) (hK : K (.fz 1 false ((liveSb has [] l).map eB)) H) :
    ZC (constX tb) (cFunc Try.prog) 53 [.agg [z1, z2], z3] L H K := by
  refine ZC.frzF (n := has.length) (k := 1) (rows := (liveSb has [] l).map eB) ?_ (by simp [liveSb_length]) (mv_pure (fun r hr => by obtain ⟨x, _, rfl⟩ := List.mem_map.1 hr; rfl)) hK
  intro fl w args r e ha
  subst e
  obtain ⟨a, ha0, ha1⟩ := ha.get (i := 0) rfl
  obtain ⟨b, hb0, hb1⟩ := ha.get (i := 1) rfl
  obtain ⟨ys, rfl, hys⟩ := ha1.agg_inv
  obtain ⟨v1, hv0, hv1⟩ := hys.get (i := 0) rfl
  obtain ⟨v2, hu0, hu1⟩ := hys.get (i := 1) rfl
  have e1 : ys = [v1, v2] := by
    have := hys.1
    match ys, this, hv0, hu0 with
    | [x, y], _, hv0, hu0 => simp at hv0 hu0; rw [hv0, hu0]
  have e2 : args = [.agg ys, b] := by
    have := ha.1
    match args, this, ha0, hb0 with
    | [x, y], _, hv0, hu0 => simp at hv0 hu0; rw [hv0, hu0]
  subst e1; subst e2
  refine from_am2 (ll_of r hv1 h1) (by rw [← hu1.isCell]; exact hc) (il_of r hb1 h3) hN hls hll hok hb r.fresh fun h' sb hBL hln hInv hKp => ?_
  have hsb : sb = liveSb has [] l := eq_liveSb hln (fun n => hInv.iff (fun p hp => by cases hp) n)
  obtain ⟨s1, s2⟩ := hBL
  have hex : ∃ row, blk h' (w.h.length + 1) = some row ∧ has.length ≤ row.length ∧ row.take has.length = sb.map BV := by
    rcases s2 with ⟨_, e | e⟩ | ⟨id, off, lb, ex, row, e, _, q1, q2, q3⟩
    · cases e
    · cases e
    · injection e with t1 t2 t3 t4
      subst t1; subst t2
      rw [hln] at q2 q3
      exact ⟨row, q1, by omega, by rw [← q3, List.drop_zero, Nat.mul_one]⟩
  obtain ⟨row, hrow, hr0, hr1⟩ := hex
  have hnew : New w.h h' 1 (.slice (w.h.length + 1) 0 has.length has.length false 1) (sb.map BV) has.length := by
    refine ⟨⟨by simp [hln], .inr ⟨_, has.length, row, rfl, Nat.le_refl _, by omega, hrow, by rw [Nat.mul_one]; exact hr1⟩⟩, by simp [idOf], hKp⟩
  obtain ⟨w', q1, q2, q3, q4, q5⟩ := new_w (rows := sb.map eB) r hnew (by intro x hx; obtain ⟨y, _, rfl⟩ := List.mem_map.1 hx; rfl) (by simp [hln]) (fun w' => by rw [zflat_one sb ZBo]; exact vals_zrs sb w')
  exact ⟨_, w', q1, q3, q4, q5.ownEx, rfl, by rw [q2, hsb]⟩
/-- What the heap's graph is like. -/
structure Rng (T : List TB) : Prop where
  len : T.length ≤ 100
  sm : ∀ x ∈ T, x.2.1.length ≤ 10
  rng : ∀ x ∈ T, ∀ y ∈ x.2.1, y < (T.length : Int)
theorem hasOf_len (T : List TB) : (hasOf T).length = T.length := by simp [hasOf]
theorem Rng.ok {T : List TB} (h : Rng T) : okHas (hasOf T) (hasOf T).length := by
  refine ⟨rfl, fun o ho y hy => ?_⟩
  obtain ⟨x, hx, rfl⟩ := List.mem_map.1 ho
  have hm := List.mem_filter.1 hy
  have := h.rng x hx y hm.1
  have h0 : ¬ y < 0 := by simpa using hm.2
  rw [hasOf_len]; omega
theorem Rng.own {T : List TB} (h : Rng T) : ∀ o ∈ hasOf T, o.length ≤ 1000 := fun o ho => by
  obtain ⟨x, hx, rfl⟩ := List.mem_map.1 ho
  have h1 := h.sm x hx
  have h2 := List.length_filter_le (fun x => !decide (x < 0)) x.2.1
  unfold keepN; omega
theorem Rng.root {T : List TB} (h : Rng T) : ∀ x ∈ rising (heldB T), 0 ≤ x ∧ x < ((hasOf T).length : Int) := fun x hx => by
  obtain ⟨h0, h1⟩ := mem_rising.1 hx
  have := Sn_lt h1
  rw [hasOf_len]; simp [heldB] at this; omega
theorem rootsLen {T : List TB} (h : Rng T) : (rising (heldB T)).length ≤ 1000000 := by
  have := riseTo_length (heldB T) (heldB T).length
  have h1 := h.len
  unfold rising
  rw [show (heldB T).length = T.length by simp [heldB]] at this ⊢; omega
/-- What is needed. -/
noncomputable def needT (T : List TB) : List Bool := liveSb (hasOf T) [] (rising (heldB T))
instance {l : List Bool} {n : Nat} : Decidable (Sn l n) := inferInstanceAs (Decidable (_ = true))
noncomputable def namedE (T : List TB) (l : List Int) : Int := if ∀ n ∈ l, 0 ≤ n ∧ n < (T.length : Int) then (if ∀ n ∈ l, Sn (needT T) n.toNat then 0 else 8) else 5
variable {p t g : Nat} {kd : Int} {mk : Bool} {T : List TB}
theorem named_z {z : ZV} {l : List Int} (h : MkAt H p t g kd mk T) (hr : Rng T) (hz : ∀ X, rowsZ (H ++ X) 1 z = some (l.map eI)) (hl : l.length ≤ 1000) (hK : K (Z64 (namedE T l)) H) :
    ZC (constX tb) (cFunc Try.prog) 57 [.ptr p 0, z] L H K := by
  refine ZC.enterL Gh.no constX_none f_mk_named (by simp) fun hL => ?_
  simp only [c_mk_named]
  have hz0 := hz []
  rw [List.append_nil] at hz0
  have hb := h.box
  have ha := h.arr
  have h3 : rowsZ H 3 (.own t g 0 T.length false) = some (T.map eT) := rows_whole ha (by simp)
  have hl3 := rows_len h3
  rw [List.length_map] at hl3
  have hlz : ∀ X, lenZ (H ++ X) z = some l.length := fun X => by have := rows_len (hz X); rwa [List.length_map] at this
  have hlz0 := hlz []
  rw [List.append_nil] at hlz0
  have F : ∀ e X, namedE T l = e → Fin H (Z64 e) (H ++ X) K := fun e X he => Fin.trunc (Mods.ext H X) rfl (by rw [List.take_left, ← he]; exact hK)
  have FF := Lib.hid F
  have HM := Lib.hid h
  have HR := Lib.hid hr
  have HZ := Lib.hid hz
  have HL := Lib.hid hl
  clear F h hr hz hl hK h3 ha
  repeat' (first | (simp only [zmPack, zxPack, ne_eq, zfree, owners, Nat.reduceLT, List.contains_cons, List.contains_nil, Nat.reduceBEq, BEq.rfl, chunk, setAt, List.lookup_cons, List.lookup_nil, reduceCtorEq, Nat.reduceEqDiff, reduceIte, implies_true, forall_const, Nat.reduceMul, Nat.reduceSub, Nat.reduceAdd, Nat.reduceLeDiff, hb, hlz0, *]) | (simp only [zgoO, zgoG, zO_nil, zthen_normal, zgoC]) | (with_reducible apply And.intro) | (with_reducible intro _))
  refine zW_forK [(1, z), (0, .ptr p 0), (11, z)] l.length (fun k s' h' => h' = H ∧ ∀ n ∈ l.take k, 0 ≤ n ∧ n < (T.length : Int)) (by have := HL.out; omega) ⟨rfl, rfl, rfl, rfl, rfl, rfl⟩ rfl rfl (by repeat' (first | exact trivial | (refine ⟨rfl, ?_⟩) | (refine ⟨by simp only [zupd_at, Nat.reduceEqDiff, reduceIte]; assumption, ?_⟩))) rfl rfl (by decide) ⟨rfl, by simp⟩ ?_ ?_
  · rintro k s' h' hk ⟨rfl, hok⟩ hi hll ⟨f1, f0, f11, -⟩
    obtain ⟨pp, hp, hld⟩ := rows_at hz0 hk
    have hnx : ∀ P : Int → Prop, (∀ n ∈ l.take k, P n) → P l[k] → ∀ n ∈ l.take (k + 1), P n := fun P h1 h2 n hn => by
      rw [List.take_succ_eq_append_getElem hk] at hn
      rcases List.mem_append.1 hn with hn | hn
      · exact h1 n hn
      · rw [List.mem_singleton.1 hn]; exact h2
    have hbad : ¬ (0 ≤ l[k] ∧ l[k] < (T.length : Int)) → namedE T l = 5 := fun hc => by
      unfold namedE; rw [if_neg fun h => hc (h _ (List.getElem_mem hk))]
    obtain ⟨q, hq⟩ : ∃ q, q = l[k] := ⟨_, rfl⟩
    rw [← hq] at hld hnx hbad
    have NX := Lib.hid (hnx (fun n => 0 ≤ n ∧ n < (T.length : Int)) hok)
    have BAD := Lib.hid hbad
    clear hq hnx hbad hok
    by_cases hn : q < 0
    · have fin := FF.out 5 [] (BAD.out (by omega))
      rw [List.append_nil] at fin
      repeat' (first | (simp only [zmPack, zxPack, ne_eq, zfree, owners, Nat.reduceLT, List.contains_cons, List.contains_nil, Nat.reduceBEq, BEq.rfl, chunk, setAt, List.lookup_cons, List.lookup_nil, reduceCtorEq, Nat.reduceEqDiff, reduceIte, implies_true, forall_const, Nat.reduceMul, Nat.reduceSub, Nat.reduceAdd, Nat.reduceLeDiff, hp, hld, hb, hl3, *]) | (simp only [zgoO, zgoG, zO_nil, zthen_normal, zgoC]) | (with_reducible apply And.intro) | (with_reducible intro _))
    · by_cases hn2 : (T.length : Int) ≤ q
      · have fin := FF.out 5 [] (BAD.out (by omega))
        rw [List.append_nil] at fin
        repeat' (first | (simp only [zmPack, zxPack, ne_eq, zfree, owners, Nat.reduceLT, List.contains_cons, List.contains_nil, Nat.reduceBEq, BEq.rfl, chunk, setAt, List.lookup_cons, List.lookup_nil, reduceCtorEq, Nat.reduceEqDiff, reduceIte, implies_true, forall_const, Nat.reduceMul, Nat.reduceSub, Nat.reduceAdd, Nat.reduceLeDiff, hp, hld, hb, hl3, *]) | (simp only [zgoO, zgoG, zO_nil, zthen_normal, zgoC]) | (with_reducible apply And.intro) | (with_reducible intro _))
      · have fin := NX.out (by omega)
        repeat' (first | (simp only [zmPack, zxPack, ne_eq, zfree, owners, Nat.reduceLT, List.contains_cons, List.contains_nil, Nat.reduceBEq, BEq.rfl, chunk, setAt, List.lookup_cons, List.lookup_nil, reduceCtorEq, Nat.reduceEqDiff, reduceIte, implies_true, forall_const, Nat.reduceMul, Nat.reduceSub, Nat.reduceAdd, Nat.reduceLeDiff, hp, hld, hb, hl3, *]) | (simp only [zgoO, zgoG, zO_nil, zthen_normal, zgoC]) | (with_reducible apply And.intro) | (with_reducible intro _))
  · rintro s' h' ⟨rfl, hok⟩ ⟨f1, f0, f11, -⟩
    rw [List.take_of_length_le (Nat.le_refl _)] at hok
    have HOK := Lib.hid hok
    clear hok hlz0 hz0
    repeat' (first | (simp only [zmPack, zxPack, ne_eq, zfree, owners, Nat.reduceLT, List.contains_cons, List.contains_nil, Nat.reduceBEq, BEq.rfl, chunk, setAt, List.lookup_cons, List.lookup_nil, reduceCtorEq, Nat.reduceEqDiff, reduceIte, implies_true, forall_const, Nat.reduceMul, Nat.reduceSub, Nat.reduceAdd, Nat.reduceLeDiff, *]) | (simp only [zgoO, zgoG, zO_nil, zthen_normal, zgoC]) | (with_reducible apply And.intro) | (with_reducible intro _))
    refine graph_z HM.out ?_
    have l0 : L h'.length = true := hL 0
    repeat' (first | (simp only [zmPack, zxPack, ne_eq, zfree, owners, Nat.reduceLT, List.contains_cons, List.contains_nil, Nat.reduceBEq, BEq.rfl, chunk, setAt, List.lookup_cons, List.lookup_nil, reduceCtorEq, Nat.reduceEqDiff, reduceIte, implies_true, forall_const, Nat.reduceMul, Nat.reduceSub, Nat.reduceAdd, Nat.reduceLeDiff, l0, *]) | (simp only [zgoO, zgoG, zO_nil, zthen_normal, zgoC]) | (with_reducible apply And.intro) | (with_reducible intro _))
    refine wfrom_z (z2 := .fz 1 false ((rising (heldB T)).map eI)) rows_fz rfl rows_fz (by rw [hasOf_len]; exact HR.out.len) HR.out.own (rootsLen HR.out) HR.out.ok HR.out.root ?_
    repeat' (first | (simp only [zmPack, zxPack, ne_eq, zfree, owners, Nat.reduceLT, List.contains_cons, List.contains_nil, Nat.reduceBEq, BEq.rfl, chunk, setAt, List.lookup_cons, List.lookup_nil, reduceCtorEq, Nat.reduceEqDiff, reduceIte, implies_true, forall_const, Nat.reduceMul, Nat.reduceSub, Nat.reduceAdd, Nat.reduceLeDiff, hlz, l0, *]) | (simp only [zgoO, zgoG, zO_nil, zthen_normal, zgoC]) | (with_reducible apply And.intro) | (with_reducible intro _))
    have hbl : (needT T).length = T.length := by unfold needT; rw [liveSb_length, hasOf_len]
    have e : liveSb (hasOf T) [] (rising (heldB T)) = needT T := rfl
    rw [e]
    obtain ⟨nb, hnb⟩ : ∃ nb, nb = needT T := ⟨_, rfl⟩
    rw [← hnb] at hbl ⊢
    have HNB := Lib.hid hnb
    have HBL := Lib.hid hbl
    clear e hnb hbl
    refine zW_forK [(8, .fz 1 false (nb.map eB)), (35, z)] l.length (fun k s' h2 => (∃ X, h2 = h' ++ X) ∧ ∀ n ∈ l.take k, Sn nb n.toNat) (by have := HL.out; omega) ⟨rfl, rfl, rfl, rfl, rfl, rfl⟩ rfl rfl (by repeat' (first | exact trivial | (refine ⟨rfl, ?_⟩) | (refine ⟨by simp only [zupd_at, Nat.reduceEqDiff, reduceIte]; assumption, ?_⟩))) rfl rfl (by decide) ⟨⟨_, rfl⟩, by simp⟩ ?_ ?_
    · rintro k s' h2 hk ⟨⟨X, rfl⟩, hsn⟩ hi hll ⟨f8, f35, -⟩
      obtain ⟨pp, hp, hld⟩ := rows_at (HZ.out X) hk
      have hnx : ∀ P : Int → Prop, (∀ n ∈ l.take k, P n) → P l[k] → ∀ n ∈ l.take (k + 1), P n := fun P h1 h2 n hn => by
        rw [List.take_succ_eq_append_getElem hk] at hn
        rcases List.mem_append.1 hn with hn | hn
        · exact h1 n hn
        · rw [List.mem_singleton.1 hn]; exact h2
      have hrg := HOK.out _ (List.getElem_mem hk)
      have hbad : ¬ Sn nb l[k].toNat → namedE T l = 8 := fun hc => by
        unfold namedE; rw [if_pos HOK.out, if_neg fun h => hc (by rw [HNB.out]; exact h _ (List.getElem_mem hk))]
      obtain ⟨m, hm⟩ := Int.eq_ofNat_of_zero_le hrg.1
      rw [hm] at hld hnx hbad hrg
      have hml : m < nb.length := by rw [HBL.out]; omega
      have hx : nb[m]? = some nb[m] := List.getElem?_eq_getElem hml
      have hs : Sn nb m ↔ nb[m] = true := by unfold Sn; simp [List.getD, hml]
      obtain ⟨c, hc⟩ : ∃ c, c = nb[m] := ⟨_, rfl⟩
      rw [← hc] at hx hs
      have NX := Lib.hid (hnx (fun n => Sn nb n.toNat) hsn)
      have BAD := Lib.hid hbad
      have HS := Lib.hid hs
      clear hm hrg hbad hnx hsn hc hs
      cases c with
      | true =>
        have fin := NX.out (HS.out.2 rfl)
        have FN := Lib.hid fin
        clear fin
        repeat' (first | (simp only [zmPack, zxPack, ne_eq, zfree, owners, Nat.reduceLT, List.contains_cons, List.contains_nil, Nat.reduceBEq, BEq.rfl, chunk, setAt, List.lookup_cons, List.lookup_nil, reduceCtorEq, Nat.reduceEqDiff, reduceIte, implies_true, forall_const, Nat.reduceMul, Nat.reduceSub, Nat.reduceAdd, Nat.reduceLeDiff, hp, hld, hx, hml, *]) | (simp only [zgoO, zgoG, zO_nil, zthen_normal, zgoC]) | (with_reducible apply And.intro) | (with_reducible intro _))
        all_goals first | exact FN.out | exact FN.out _ (by assumption) | exact ⟨_, rfl⟩
      | false =>
        have fin := FF.out 8 X (BAD.out fun h => by have := HS.out.1 h; cases this)
        repeat' (first | (simp only [zmPack, zxPack, ne_eq, zfree, owners, Nat.reduceLT, List.contains_cons, List.contains_nil, Nat.reduceBEq, BEq.rfl, chunk, setAt, List.lookup_cons, List.lookup_nil, reduceCtorEq, Nat.reduceEqDiff, reduceIte, implies_true, forall_const, Nat.reduceMul, Nat.reduceSub, Nat.reduceAdd, Nat.reduceLeDiff, hp, hld, hx, hml, *]) | (simp only [zgoO, zgoG, zO_nil, zthen_normal, zgoC]) | (with_reducible apply And.intro) | (with_reducible intro _))
    · rintro s' h2 ⟨⟨X, rfl⟩, hsn⟩ ⟨f8, f35, -⟩
      rw [List.take_of_length_le (Nat.le_refl _)] at hsn
      have fin := FF.out 0 X (by unfold namedE; rw [if_pos HOK.out, if_pos (by rw [← HNB.out]; exact hsn)])
      clear hsn hlz
      repeat' (first | (simp only [zmPack, zxPack, ne_eq, zfree, owners, Nat.reduceLT, List.contains_cons, List.contains_nil, Nat.reduceBEq, BEq.rfl, chunk, setAt, List.lookup_cons, List.lookup_nil, reduceCtorEq, Nat.reduceEqDiff, reduceIte, implies_true, forall_const, Nat.reduceMul, Nat.reduceSub, Nat.reduceAdd, Nat.reduceLeDiff, *]) | (simp only [zgoO, zgoG, zO_nil, zthen_normal, zgoC]) | (with_reducible apply And.intro) | (with_reducible intro _))
end
end Go.Proofs.Ytpeagenjmmkohaa

namespace Go.Proofs.Ytpeagenjmmkohaa
open Go Go.RowKit
set_option linter.unusedVariables false
set_option linter.unusedSimpArgs false
variable {tb : List (FuncId × Bool)} {L : Nat → Bool} {H : ZH} {K : ZV → ZH → Prop} {p t g : Nat} {kd : Int} {mk : Bool} {T : List TB}
/-- What is not a colour, nor whether it is held. -/
abbrev keyT (x : TB) : Option Nat × List Int := (x.1, x.2.1)
abbrev thH (H : ZH) (t g : Nat) (T : List TB) : ZH := H.set t (.grow g 3 (T.map eT))
theorem MkAt.pt (h : MkAt H p t g kd mk T) : p ≠ t := fun e => by
  have h1 := h.box; have h2 := h.arr
  rw [e, h2] at h1; cases h1
theorem MkAt.jt (h : MkAt H p t g kd mk T) {x : TB} {j : Nat} (hx : x ∈ T) (hj : x.1 = some j) : j ≠ t ∧ j ≠ p := by
  have h1 := h.pl x hx
  rw [hj] at h1
  refine ⟨fun e => ?_, fun e => ?_⟩
  · have h2 := h.arr; rw [← e, h1.2] at h2; cases h2
  · have h2 := h.box; rw [← e, h1.2] at h2; cases h2
theorem set_same {l : ZH} {i : Nat} {B : ZB} (h : l[i]? = some B) : l.set i B = l := by
  apply List.ext_getElem? 
  intro j
  rw [List.getElem?_set]
  split
  · rename_i e; subst e; rw [if_pos (lt_of_get h), h]
  · rfl
theorem MkAt.same (h : MkAt H p t g kd mk T) : thH H t g T = H := set_same h.arr
theorem MkAt.upd (h : MkAt H p t g kd mk T) {T' : List TB} (hk : T'.map keyT = T.map keyT) : MkAt (thH H t g T') p t g kd mk T' := by
  have hl : T'.length = T.length := by have := congrArg List.length hk; simpa using this
  have hmem : ∀ x ∈ T', ∃ y ∈ T, y.1 = x.1 ∧ y.2.1 = x.2.1 := fun x hx => by
    have : keyT x ∈ T.map keyT := by rw [← hk]; exact List.mem_map_of_mem hx
    obtain ⟨y, hy, e⟩ := List.mem_map.1 this
    injection e with e1 e2
    exact ⟨y, hy, e1, e2⟩
  refine ⟨by rw [List.getElem?_set_ne (Ne.symm h.pt), hl]; exact h.box, by rw [List.getElem?_set_self (lt_of_get h.arr)], fun x hx => ?_, ?_, by rw [hl]; exact h.len, fun x hx => ?_⟩
  · obtain ⟨y, hy, e1, e2⟩ := hmem x hx
    have h1 := h.pl y hy
    have h2 : ∀ j, y.1 = some j → j ≠ t ∧ j ≠ p := fun j hj => h.jt hy hj
    rw [e1, e2] at h1
    rw [e1] at h2
    revert h1 h2
    cases x.1 with
    | none => exact fun h1 _ => h1
    | some j => exact fun h1 h2 => ⟨h1.1, by rw [List.getElem?_set_ne (Ne.symm (h2 j rfl).1)]; exact h1.2⟩
  · have e : T'.filterMap Prod.fst = T.filterMap Prod.fst := by
      have h1 : ∀ l : List TB, l.filterMap Prod.fst = (l.map keyT).filterMap Prod.fst := fun l => by rw [List.filterMap_map]; rfl
      rw [h1, h1 T, hk]
    rw [e]; exact h.nod
  · obtain ⟨y, hy, e1, e2⟩ := hmem x hx
    rw [← e2]; exact h.sm y hy
theorem thH_thH {T1 T2 : List TB} : thH (thH H t g T1) t g T2 = thH H t g T2 := by unfold thH; rw [List.set_set]
/-- A colour set. -/
abbrev colX (x : TB) (c : Int) : TB := (x.1, x.2.1, c, x.2.2.2)
theorem key_set {n : Nat} {x y : TB} (hx : T[n]? = some x) (hk : keyT y = keyT x) : (T.set n y).map keyT = T.map keyT := by
  rw [List.map_set, hk]
  apply List.ext_getElem?
  intro j
  rw [List.getElem?_set]
  split
  · rename_i e; subst e; rw [if_pos (by simpa using (List.getElem?_eq_some_iff.1 hx).1), List.getElem?_map, hx]; rfl
  · rfl
def shadeT (mk : Bool) (T : List TB) (n : Int) : List TB := if mk = true ∧ 0 ≤ n then (match T[n.toNat]? with
  | some x => if x.2.2.1 = 0 then T.set n.toNat (colX x 1) else T
  | none => T) else T
theorem shade_key {n : Int} : (shadeT mk T n).map keyT = T.map keyT := by
  unfold shadeT
  split
  · split
    · rename_i x hx
      split
      · exact key_set hx rfl
      · rfl
    · rfl
  · rfl
theorem shade_len {n : Int} : (shadeT mk T n).length = T.length := by have := congrArg List.length (shade_key (mk := mk) (T := T) (n := n)); simpa using this
theorem t_el (h : MkAt H p t g kd mk T) {n : Nat} (hn : n < T.length) : elemZ H 3 n (.own t g 0 T.length false) = some (.eptr t g n 0) := by
  rw [elem_own]; exact ⟨_, h.arr, by simp, hn, by simp⟩
theorem t_ld (h : MkAt H p t g kd mk T) {n o : Nat} {x : TB} (hx : T[n]? = some x) : ldZ H none (.eptr t g n o) = (eT x)[o]? := by
  cases hv : (eT x)[o]? with
  | some v => rw [ld_eptr]; exact ⟨_, _, _, h.arr, by rw [List.getElem?_map, hx]; rfl, hv⟩
  | none =>
    cases hl : ldZ H none (.eptr t g n o) with
    | none => rfl
    | some v =>
      rw [ld_eptr] at hl
      obtain ⟨k2, rows, r, h1, h2, h3⟩ := hl
      rw [h.arr] at h1; injection h1 with h1; injection h1 with _ _ h1
      rw [← h1, List.getElem?_map, hx] at h2
      injection h2 with h2
      rw [← h2] at h3
      have h3 : (eT x)[o]? = some v := h3
      rw [hv] at h3; cases h3
theorem t_st (h : MkAt H p t g kd mk T) (hL : L t = true) {n : Nat} {x : TB} (hx : T[n]? = some x) (c : Int) : stZ L H [Z64 c] (.eptr t g n 1) = some (thH H t g (T.set n (colX x c))) := by
  rw [st_eptr]
  refine ⟨3, _, eT x, h.arr, by rw [List.getElem?_map, hx]; rfl, hL, by simp [eT], ?_⟩
  unfold thH; rw [List.map_set]; rfl
theorem t_sth (h : MkAt H p t g kd mk T) (hL : L t = true) {n : Nat} {x : TB} (hx : T[n]? = some x) (b : Bool) : stZ L H [ZBo b] (.eptr t g n 2) = some (thH H t g (T.set n (x.1, x.2.1, x.2.2.1, b))) := by
  rw [st_eptr]
  refine ⟨3, _, eT x, h.arr, by rw [List.getElem?_map, hx]; rfl, hL, by simp [eT], ?_⟩
  unfold thH; rw [List.map_set]; rfl
end Go.Proofs.Ytpeagenjmmkohaa

namespace Go.Proofs.Ytpeagenjmmkohaa
open Go Go.RowKit
set_option linter.unusedVariables false
set_option linter.unusedSimpArgs false
variable {tb : List (FuncId × Bool)} {L : Nat → Bool} {H : ZH} {K : ZV → ZH → Prop} {p t g : Nat} {kd : Int} {mk : Bool} {T : List TB}
set_option maxHeartbeats 400000 in
theorem shade_z {n : Int} (h : MkAt H p t g kd mk T) (hL : L t = true) (hn : mk = true → 0 ≤ n → n < (T.length : Int)) (hK : K .no (thH H t g (shadeT mk T n))) :
    ZC (constX tb) (cFunc Try.prog) 58 [.ptr p 0, Z64 n] L H K := by
  refine ZC.enter Gh.no constX_none f_mk_shade (by simp) ?_
  simp only [c_mk_shade]
  have hb := h.box
  have HK := Lib.hid hK
  cases mk with
  | false =>
    have fin : K .no H := by have := HK.out; unfold shadeT at this; rw [if_neg (by simp), h.same] at this; exact this
    have fin := Fin.keep (H0 := H) fin
    clear h hn hK
    repeat' (first | (simp only [zmPack, zxPack, ne_eq, zfree, owners, Nat.reduceLT, List.contains_cons, List.contains_nil, Nat.reduceBEq, BEq.rfl, chunk, setAt, List.lookup_cons, List.lookup_nil, reduceCtorEq, Nat.reduceEqDiff, reduceIte, implies_true, forall_const, Nat.reduceMul, Nat.reduceSub, Nat.reduceAdd, Nat.reduceLeDiff, hb, *]) | (simp only [zgoO, zgoG, zO_nil, zthen_normal, zgoC]) | (with_reducible apply And.intro) | (with_reducible intro _))
    all_goals exact ⟨_, rfl, fin⟩
  | true =>
    by_cases h0 : 0 ≤ n
    · obtain ⟨m, rfl⟩ := Int.eq_ofNat_of_zero_le h0
      have hm : m < T.length := by have := hn rfl h0; omega
      have hx : T[m]? = some T[m] := List.getElem?_eq_getElem hm
      obtain ⟨x, hxe⟩ : ∃ x, x = T[m] := ⟨_, rfl⟩
      rw [← hxe] at hx
      have hel := t_el h hm
      have hld := t_ld h (o := 1) hx
      have hst := t_st h hL hx 1
      have hld : ldZ H none (.eptr t g m 1) = some (Z64 x.2.2.1) := hld
      by_cases hc : x.2.2.1 = 0
      · have fin : K .no (thH H t g (T.set m (colX x 1))) := by have := HK.out; unfold shadeT at this; rw [if_pos ⟨rfl, h0⟩, Int.toNat_natCast, hx] at this; simp only at this; rw [if_pos hc] at this; exact this
        have fin := Fin.keep (H0 := H) fin
        rw [hc] at hld
        clear h hn hK hxe hc hx
        repeat' (first | (simp only [zmPack, zxPack, ne_eq, zfree, owners, Nat.reduceLT, List.contains_cons, List.contains_nil, Nat.reduceBEq, BEq.rfl, chunk, setAt, List.lookup_cons, List.lookup_nil, reduceCtorEq, Nat.reduceEqDiff, reduceIte, implies_true, forall_const, Nat.reduceMul, Nat.reduceSub, Nat.reduceAdd, Nat.reduceLeDiff, hb, hel, hld, hst, *]) | (simp only [zgoO, zgoG, zO_nil, zthen_normal, zgoC]) | (with_reducible apply And.intro) | (with_reducible intro _))
        all_goals exact ⟨_, rfl, fin⟩
      · have fin : K .no H := by have := HK.out; unfold shadeT at this; rw [if_pos ⟨rfl, h0⟩, Int.toNat_natCast, hx] at this; simp only at this; rw [if_neg hc, h.same] at this; exact this
        have fin := Fin.keep (H0 := H) fin
        obtain ⟨c, hcc⟩ : ∃ c, c = x.2.2.1 := ⟨_, rfl⟩
        rw [← hcc] at hld hc
        clear h hn hK hxe hx hst hcc
        repeat' (first | (simp only [zmPack, zxPack, ne_eq, zfree, owners, Nat.reduceLT, List.contains_cons, List.contains_nil, Nat.reduceBEq, BEq.rfl, chunk, setAt, List.lookup_cons, List.lookup_nil, reduceCtorEq, Nat.reduceEqDiff, reduceIte, implies_true, forall_const, Nat.reduceMul, Nat.reduceSub, Nat.reduceAdd, Nat.reduceLeDiff, hb, hel, hld, *]) | (simp only [zgoO, zgoG, zO_nil, zthen_normal, zgoC]) | (with_reducible apply And.intro) | (with_reducible intro _))
        all_goals exact ⟨_, rfl, fin⟩
    · have fin : K .no H := by have := HK.out; unfold shadeT at this; rw [if_neg (fun h => h0 h.2), h.same] at this; exact this
      have fin := Fin.keep (H0 := H) fin
      clear h hn hK
      repeat' (first | (simp only [zmPack, zxPack, ne_eq, zfree, owners, Nat.reduceLT, List.contains_cons, List.contains_nil, Nat.reduceBEq, BEq.rfl, chunk, setAt, List.lookup_cons, List.lookup_nil, reduceCtorEq, Nat.reduceEqDiff, reduceIte, implies_true, forall_const, Nat.reduceMul, Nat.reduceSub, Nat.reduceAdd, Nat.reduceLeDiff, hb, *]) | (simp only [zgoO, zgoG, zO_nil, zthen_normal, zgoC]) | (with_reducible apply And.intro) | (with_reducible intro _))
      all_goals exact ⟨_, rfl, fin⟩
end Go.Proofs.Ytpeagenjmmkohaa
