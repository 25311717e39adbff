/-
  The document's From, Rising; neededIn: in ZM.
-/
import Derived.Test.YtblgljahhhdlhaaMrD11
import Derived.Test.YtblgljahhhdlhaaMrD7
namespace Go.Proofs.Ytblgljahhhdlhaa
open Go Go.RowKit
set_option linter.unusedVariables false
set_option linter.unusedSimpArgs false
variable {tb : List (FuncId × Bool)} {L : Nat → Bool} {H : ZH} {K : ZV → ZH → Prop}
theorem froma_z {i j t n x : Nat} {b : Bool} {sb : List Bool} {c : Bool} (hi : H[i]? = some (.box [ZBo b])) (hj : H[j]? = some (.box [.own t 0 0 n true])) (ht : H[t]? = some (.grow 0 1 (sb.map eB))) (hn : sb.length = n) (hx : sb[x]? = some c) (h1 : i ≠ j) (l1 : L i = true) (l2 : L t = true)
    (hK : K .no ((H.set i (.box [ZBo (b || !c)])).set t (.grow 0 1 ((sb.set x true).map eB)))) :
    ZC (constX tb) (cFunc Try.prog) 33 [Z64 (x : Nat), .ptr i 0, .ptr j 0] L H K := by
  refine ZC.enter Gh.no constX_none f_mk_froma (by simp) ?_
  simp only [c_mk_froma]
  have hit : i ≠ t := fun e => by subst e; rw [hi] at ht; cases ht
  have hjt : j ≠ t := fun e => by subst e; rw [hj] at ht; cases ht
  have hxl : x < sb.length := (List.getElem?_eq_some_iff.1 hx).1
  have he : elemZ H 1 x (.own t 0 0 n true) = some (.eptr t 0 x 0) := by
    rw [elem_own]; exact ⟨_, ht, by simp [hn], by omega, by simp⟩
  have hl : ldZ H none (.eptr t 0 x 0) = some (ZBo c) := by
    rw [ld_eptr]; exact ⟨_, _, _, ht, by rw [List.getElem?_map, hx]; rfl, rfl⟩
  have hil := lt_of_get hi
  have q2 : ∀ B, (H.set i B)[j]? = some (.box [.own t 0 0 n true]) := fun B => by rw [List.getElem?_set_ne h1]; exact hj
  have q3 : ∀ B, (H.set i B)[t]? = some (.grow 0 1 (sb.map eB)) := fun B => by rw [List.getElem?_set_ne hit]; exact ht
  have he2 : ∀ B, elemZ (H.set i B) 1 x (.own t 0 0 n true) = some (.eptr t 0 x 0) := fun B => by
    rw [elem_own]; exact ⟨_, q3 B, by simp [hn], by omega, by simp⟩
  have hst : ∀ B, stZ L (H.set i B) [ZBo true] (.eptr t 0 x 0) = some ((H.set i B).set t (.grow 0 1 ((sb.set x true).map eB))) := fun B => by
    rw [st_eptr]
    refine ⟨1, _, _, q3 B, by rw [List.getElem?_map, hx]; rfl, l2, by simp, ?_⟩
    rw [List.map_set]; rfl
  have HK := Lib.hid hK
  clear hK hn hx hxl h1 hit hjt q3 ht hil
  cases b with
  | true =>
    have fin := Fin.keep (H0 := H) HK.out
    simp only [Bool.true_or] at fin
    clear he hl
    repeat' (first | (simp only [zmPack, zxPack, ne_eq, zfree, owners, Nat.reduceLT, List.contains_cons, List.contains_nil, Nat.reduceBEq, BEq.rfl, chunk, setAt, List.lookup_cons, List.lookup_nil, reduceCtorEq, Nat.reduceEqDiff, reduceIte, implies_true, forall_const, Nat.reduceMul, Nat.reduceSub, Nat.reduceAdd, Nat.reduceLeDiff, hi, hj, he2, q2, hst, l1, *]) | (simp only [zgoO, zgoG, zO_nil, zthen_normal, zgoC]) | (with_reducible apply And.intro) | (with_reducible intro _))
    all_goals exact ⟨_, rfl, fin⟩
  | false =>
    have fin := Fin.keep (H0 := H) HK.out
    simp only [Bool.false_or] at fin
    repeat' (first | (simp only [zmPack, zxPack, ne_eq, zfree, owners, Nat.reduceLT, List.contains_cons, List.contains_nil, Nat.reduceBEq, BEq.rfl, chunk, setAt, List.lookup_cons, List.lookup_nil, reduceCtorEq, Nat.reduceEqDiff, reduceIte, implies_true, forall_const, Nat.reduceMul, Nat.reduceSub, Nat.reduceAdd, Nat.reduceLeDiff, hi, hj, he, hl, he2, q2, hst, l1, *]) | (simp only [zgoO, zgoG, zO_nil, zthen_normal, zgoC]) | (with_reducible apply And.intro) | (with_reducible intro _))
    all_goals exact ⟨_, rfl, fin⟩
structure FI (has : List (List Int)) (l : List Int) (sb sb' : List Bool) (b : Bool) (P : Prop) : Prop where
  len : sb'.length = has.length
  base : ∀ x ∈ l, Sn sb' x.toNat
  sub : ∀ n, Sn sb' n → Liv has [] l n
  no : b = false → sb' = sb ∧ P
  yes : b = true → unseen sb' < unseen sb
theorem FI.mono {has : List (List Int)} {l : List Int} {sb sb' : List Bool} {b : Bool} {P Q : Prop} (h : FI has l sb sb' b P) (hq : sb' = sb → P → Q) : FI has l sb sb' b Q :=
  ⟨h.len, h.base, h.sub, fun hb => ⟨(h.no hb).1, hq (h.no hb).1 (h.no hb).2⟩, h.yes⟩
theorem FI.see {has : List (List Int)} {l : List Int} {sb sb' : List Bool} {b : Bool} {P Q : Prop} (h : FI has l sb sb' b P) {x : Nat} (hx : x < sb'.length) (hl : Liv has [] l x) (hq : sb' = sb → P → Sn sb x → Q) :
    FI has l sb (sb'.set x true) (b || !sb'[x]) Q := by
  have hs : ∀ n, Sn (sb'.set x true) n ↔ Sn sb' n ∨ n = x := fun n => Sn_set hx
  have hun : unseen (sb'.set x true) ≤ unseen sb' := unseen_le (by simp) fun n hn => (hs n).2 (.inl hn)
  refine ⟨by simp [h.len], fun y hy => (hs _).2 (.inl (h.base y hy)), fun n hn => ?_, fun hb => ?_, fun hb => ?_⟩
  · rcases (hs n).1 hn with hn | rfl
    · exact h.sub n hn
    · exact hl
  · simp only [Bool.or_eq_false_iff, Bool.not_eq_false'] at hb
    obtain ⟨e, hp⟩ := h.no hb.1
    have hset : sb'.set x true = sb' := by
      apply List.ext_getElem (by simp)
      intro i h1 h2
      rw [List.getElem_set]
      split
      · rename_i hxi; subst hxi; exact hb.2.symm
      · rfl
    rw [hset]
    refine ⟨e, hq e hp ?_⟩
    subst e
    unfold Sn; simp [List.getD, hx, hb.2]
  · cases hb0 : b with
    | true => have := h.yes hb0; omega
    | false =>
      obtain ⟨e, -⟩ := h.no hb0
      subst e
      rw [hb0, Bool.false_or, Bool.not_eq_true'] at hb
      have := unseen_set (l := sb') (i := x) hx (by simp [List.getD, hx, hb])
      omega
theorem FI.start {has : List (List Int)} {l : List Int} {sb : List Bool} {P : Prop} (h1 : sb.length = has.length) (h2 : ∀ x ∈ l, Sn sb x.toNat) (h3 : ∀ n, Sn sb n → Liv has [] l n) (hp : P) : FI has l sb sb false P :=
  ⟨h1, h2, h3, fun _ => ⟨rfl, hp⟩, fun h => by cases h⟩
structure FO (has : List (List Int)) (l : List Int) (sb : List Bool) (b : Bool) : Prop where
  len : sb.length = has.length
  base : ∀ x ∈ l, Sn sb x.toNat
  sub : ∀ n, Sn sb n → Liv has [] l n
  clo : b = false → Cl has (Sn sb)
def ClTo (has : List (List Int)) (sb : List Bool) (k : Nat) : Prop := ∀ n, n < k → Sn sb n → ∀ y ∈ has.getD n [], Sn sb y.toNat
def ClIn (has : List (List Int)) (sb : List Bool) (k : Nat) (own : List Int) (m : Nat) : Prop := ClTo has sb k ∧ (Sn sb k → ∀ y ∈ own.take m, Sn sb y.toNat)
structure FB (has : List (List Int)) (l : List Int) (k : Nat) (sb : List Bool) : Prop where
  len : sb.length = has.length
  base : ∀ x ∈ l.take k, Sn sb x.toNat
  sub : ∀ n, Sn sb n → Liv has [] l n
theorem FB.next {has : List (List Int)} {l : List Int} {k : Nat} {sb : List Bool} (h : FB has l k sb) (hk : k < l.length) {m : Nat} (hm : l[k] = (m : Int)) (hmn : m < has.length) : FB has l (k + 1) (sb.set m true) := by
  have hs : ∀ n, Sn (sb.set m true) n ↔ Sn sb n ∨ n = m := fun n => Sn_set (by rw [h.len]; exact hmn)
  refine ⟨by simp [h.len], fun x hx => ?_, fun n hn => ?_⟩
  · rw [List.take_succ_eq_append_getElem hk] at hx
    rcases List.mem_append.1 hx with hx | hx
    · exact (hs _).2 (.inl (h.base x hx))
    · rw [List.mem_singleton.1 hx, hm]; exact (hs _).2 (.inr (by omega))
  · rcases (hs n).1 hn with hn | rfl
    · exact h.sub n hn
    · have := Liv.base (has := has) (ps := []) (l := l) (x := l[k]) (List.getElem_mem hk)
      rw [hm] at this; simpa using this
theorem fr_el {A : ZB} {sb : List Bool} {n m : Nat} {Y : ZH} (hn : sb.length = n) (hm : m < n) : elemZ (H ++ (A :: .grow 0 1 (sb.map eB) :: Y)) 1 m (.own (H.length + 1) 0 0 n true) = some (.eptr (H.length + 1) 0 m 0) := by
  rw [elem_own]; exact ⟨_, mv_at1 _ _ _, by simp [hn], hm, by simp⟩
theorem fr_ld {A : ZB} {sb : List Bool} {m : Nat} {Y : ZH} {c : Bool} (hm : sb[m]? = some c) : ldZ (H ++ (A :: .grow 0 1 (sb.map eB) :: Y)) none (.eptr (H.length + 1) 0 m 0) = some (ZBo c) := by
  rw [ld_eptr]; exact ⟨_, _, _, mv_at1 _ _ _, by rw [List.getElem?_map, hm]; rfl, rfl⟩
theorem fr_st {A : ZB} {sb : List Bool} {m : Nat} {Y : ZH} (hm : m < sb.length) (hl : L (H.length + 1) = true) : stZ L (H ++ (A :: .grow 0 1 (sb.map eB) :: Y)) [ZBo true] (.eptr (H.length + 1) 0 m 0) = some (H ++ (A :: .grow 0 1 ((sb.set m true).map eB) :: Y)) := by
  rw [st_eptr]
  refine ⟨1, _, _, mv_at1 _ _ _, by rw [List.getElem?_map, List.getElem?_eq_getElem hm]; rfl, hl, by simp, ?_⟩
  rw [mv_st1, List.map_set]; rfl
theorem ClIn.start {has : List (List Int)} {sb : List Bool} {k : Nat} {own : List Int} (h : ClTo has sb k) : ClIn has sb k own 0 := ⟨h, fun _ y hy => by simp at hy⟩
theorem ClIn.next {has : List (List Int)} {sb : List Bool} {k m : Nat} {own : List Int} (h : ClIn has sb k own m) (hm : m < own.length) (hs : Sn sb k → Sn sb own[m].toNat) : ClIn has sb k own (m + 1) := ⟨h.1, fun hk y hy => by
  rw [List.take_succ_eq_append_getElem hm] at hy
  rcases List.mem_append.1 hy with hy | hy
  · exact h.2 hk y hy
  · rw [List.mem_singleton.1 hy]; exact hs hk⟩
theorem ClIn.done {has : List (List Int)} {sb : List Bool} {k : Nat} {own : List Int} (h : ClIn has sb k own own.length) (ho : has.getD k [] = own) : ClTo has sb (k + 1) := fun n hn hs y hy => by
  rcases Nat.lt_succ_iff_lt_or_eq.1 hn with hn | rfl
  · exact h.1 n hn hs y hy
  · rw [ho] at hy; exact h.2 hs y (by rw [List.take_length]; exact hy)
theorem ClTo.all {has : List (List Int)} {sb : List Bool} (h : ClTo has sb has.length) : Cl has (Sn sb) := fun n hn y hy => by
  by_cases hl : n < has.length
  · exact h n hl hn y hy
  · simp [List.getD, List.getElem?_eq_none (Nat.not_lt.1 hl)] at hy
theorem FI.out {has : List (List Int)} {l : List Int} {sb sb' : List Bool} {b : Bool} (h : FI has l sb sb' b (ClTo has sb has.length)) : FO has l sb' b :=
  ⟨h.len, h.base, h.sub, fun hb => by obtain ⟨e, hc⟩ := h.no hb; subst e; exact hc.all⟩
theorem FI.less {has : List (List Int)} {l : List Int} {sb sb' : List Bool} {b : Bool} {P : Prop} (h : FI has l sb sb' b P) : 2 * unseen sb' + (if b = true then 1 else 0) < 2 * unseen sb + 1 := by
  cases b with
  | true => have := h.yes rfl; simp; omega
  | false => have := (h.no rfl).1; subst this; simp
set_option maxHeartbeats 8000000 in
theorem rfrom_z {z1 z2 z3 : ZV} {has : List (List Int)} {l : List Int} (h1 : rowsZ H 1 z1 = some (has.map eL)) (hc1 : z1.isCell = true) (hc2 : z2.isCell = true) (h3 : rowsZ H 1 z3 = some (l.map eI)) (hN : has.length ≤ 1000) (hll : l.length ≤ 1000000) (hls : ∀ o ∈ has, o.length ≤ 1000) (hok : okHas has has.length) (hb : ∀ x ∈ l, 0 ≤ x ∧ x < (has.length : Int))
    (e1 : ∀ X, rowsZ (H ++ X) 1 z1 = some (has.map eL)) (e3 : ∀ X, rowsZ (H ++ X) 1 z3 = some (l.map eI))
    (hK : ∀ ex, K (.fz 1 ex ((liveSb has [] l).map eB)) H) :
    ZC (constX tb) (cFunc Try.prog) 24 [.agg [z1, z2], z3, .nil] L H K := by
  refine ZC.enterL ⟨[], [], []⟩ constX_none f_mk_from (by simp) fun hL => ?_
  simp only [c_mk_from]
  have q1 : ∀ X, lenZ (H ++ X) z1 = some has.length := fun X => by have := rows_len (e1 X); rwa [List.length_map] at this
  have q3 : ∀ X, lenZ (H ++ X) z3 = some l.length := fun X => by have := rows_len (e3 X); rwa [List.length_map] at this
  have hr : has.length ≤ reach := by unfold reach; omega
  have lx : ∀ n, L (H.length + n) = true := fun n => by cases n with
    | zero => exact hL 0
    | succ n => exact hL (n + 1)
  have hrep : List.replicate has.length [ZBo false] = (List.replicate has.length false).map eB := by simp
  have HK := Lib.hid hK
  have HH := Lib.hid (And.intro hN (And.intro hll (And.intro hls (And.intro hok hb))))
  have E1 := Lib.hid e1
  have E3 := Lib.hid e3
  clear hK hN hll hls hok hb e1 e3 h1 h3
  repeat' (first | (simp only [zmPack, zxPack, ne_eq, zfree, owners, Nat.reduceLT, List.contains_cons, List.contains_nil, Nat.reduceBEq, BEq.rfl, chunk, setAt, List.lookup_cons, List.lookup_nil, reduceCtorEq, Nat.reduceEqDiff, reduceIte, implies_true, forall_const, Nat.reduceMul, Nat.reduceSub, Nat.reduceAdd, Nat.reduceLeDiff, q1, q3, hr, hc1, hc2, lx, hrep, beq_self_eq_true, *]) | (simp only [zgoO, zgoG, zO_nil, zthen_normal, zgoC]) | (with_reducible apply And.intro) | (with_reducible intro _))
  clear hrep hr
  have hlt : l.length < 9223372036854775807 := by have := HH.out.2.1; omega
  refine zW_forK [(22, z3), (7, .ptr (H.length + 2) 0), (3, .ptr H.length 0), (2, .nil)] l.length (fun k s' h' => ∃ sb, FB has l k sb ∧ h' = H ++ (.box [z1, z2] :: .grow 0 1 (sb.map eB) :: .box [.own (H.length + 1) 0 0 has.length true] :: [])) hlt ⟨rfl, rfl, rfl, rfl, rfl, rfl⟩ rfl rfl (by repeat' (first | exact trivial | (refine ⟨rfl, ?_⟩) | (refine ⟨by simp only [zupd_at, Nat.reduceEqDiff, reduceIte]; assumption, ?_⟩))) rfl rfl (by decide) ⟨_, ⟨by simp, by simp, fun n hn => absurd hn (Sn_falses _ n)⟩, rfl⟩ ?_ ?_
  · rintro k s' h' hk ⟨sb, hF, rfl⟩ hi hl ⟨f22, f7, f3, -⟩
    obtain ⟨pp, hp, hld⟩ := rows_at (E3.out (.box [z1, z2] :: .grow 0 1 (sb.map eB) :: .box [.own (H.length + 1) 0 0 has.length true] :: [])) hk
    obtain ⟨m, hm⟩ := Int.eq_ofNat_of_zero_le (HH.out.2.2.2.2 _ (List.getElem_mem hk)).1
    have hmn : m < has.length := by have := (HH.out.2.2.2.2 _ (List.getElem_mem hk)).2; omega
    have fin := hF.next hk hm hmn
    have hel := fun A Y => fr_el (H := H) (A := A) (Y := Y) hF.len hmn
    have hst := fun A Y => fr_st (L := L) (H := H) (A := A) (Y := Y) (by rw [hF.len]; exact hmn) (lx 1)
    rw [hm] at hld
    have FN := Lib.hid fin
    clear hm fin hmn hF q1 q3
    repeat' (first | (simp only [zmPack, zxPack, ne_eq, zfree, owners, Nat.reduceLT, List.contains_cons, List.contains_nil, Nat.reduceBEq, BEq.rfl, chunk, setAt, List.lookup_cons, List.lookup_nil, reduceCtorEq, Nat.reduceEqDiff, reduceIte, implies_true, forall_const, Nat.reduceMul, Nat.reduceSub, Nat.reduceAdd, Nat.reduceLeDiff, hp, hld, hel, hst, *]) | (simp only [zgoO, zgoG, zO_nil, zthen_normal, zgoC]) | (with_reducible apply And.intro) | (with_reducible intro _))
    all_goals exact ⟨_, FN.out, rfl⟩
  · rintro s' h' ⟨sb, hF, rfl⟩ ⟨f22, f7, f3, f2, -⟩
    have hB := hF.base
    rw [List.take_of_length_le (Nat.le_refl _)] at hB
    have hO : FO has l sb true := ⟨hF.len, hB, hF.sub, fun h => by cases h⟩
    have l3 := lx 3
    clear hF hB q3 hlt
    have HO := Lib.hid hO
    clear hO
    repeat' (first | (simp only [zmPack, zxPack, ne_eq, zfree, owners, Nat.reduceLT, List.contains_cons, List.contains_nil, Nat.reduceBEq, BEq.rfl, chunk, setAt, List.lookup_cons, List.lookup_nil, reduceCtorEq, Nat.reduceEqDiff, reduceIte, implies_true, forall_const, Nat.reduceMul, Nat.reduceSub, Nat.reduceAdd, Nat.reduceLeDiff, l3, *]) | (simp only [zgoO, zgoG, zO_nil, zthen_normal, zgoC]) | (with_reducible apply And.intro) | (with_reducible intro _))
    refine zW_whileK [(7, .ptr (H.length + 2) 0), (3, .ptr H.length 0), (2, .nil)] (2 * unseen sb + 1) (fun n s' h' => ∃ sb b X, s' 10 = .ptr (H.length + (X.length + 3)) 0 ∧ h' = H ++ (.box [z1, z2] :: .grow 0 1 (sb.map eB) :: .box [.own (H.length + 1) 0 0 has.length true] :: (X ++ [.box [ZBo b]])) ∧ FO has l sb b ∧ n = 2 * unseen sb + (if b = true then 1 else 0)) (by repeat' (first | exact trivial | (refine ⟨rfl, ?_⟩) | (refine ⟨by simp only [zupd_at, Nat.reduceEqDiff, reduceIte]; assumption, ?_⟩))) rfl ⟨sb, true, [], rfl, rfl, HO.out, rfl⟩ ?_
    clear HO f22 f7 f3 f2 l3
    rintro n s' h' ⟨sb, b, X, f10, rfl, hO, rfl⟩ ⟨f7, f3, f2, -⟩
    have a0 : ∀ A B C D : ZB, (H ++ (A :: B :: C :: (X ++ [D])))[H.length + (X.length + 3)]? = some D := fun A B C D => by
      rw [List.getElem?_append_right (by omega), Nat.add_sub_cancel_left]; simp
    have s0 : ∀ A B C D E : ZB, (H ++ (A :: B :: C :: (X ++ [D]))).set (H.length + (X.length + 3)) E = H ++ (A :: B :: C :: (X ++ [E])) := fun A B C D E => by
      rw [List.set_append_right _ _ (by omega), Nat.add_sub_cancel_left]; simp
    have a1 : ∀ A B C D E : ZB, (H ++ (A :: B :: C :: (X ++ [D, E])))[H.length + (X.length + 4)]? = some E := fun A B C D E => by
      rw [List.getElem?_append_right (by omega), Nat.add_sub_cancel_left]; simp
    have s1 : ∀ A B C D E F : ZB, (H ++ (A :: B :: C :: (X ++ [D, E]))).set (H.length + (X.length + 4)) F = H ++ (A :: B :: C :: (X ++ [D, F])) := fun A B C D E F => by
      rw [List.set_append_right _ _ (by omega), Nat.add_sub_cancel_left]; simp
    have l0 := lx (X.length + 3)
    have l4 := lx (X.length + 4)
    have HO := Lib.hid hO
    cases b with
    | false =>
      have hsb : sb = liveSb has [] l := eq_liveSb hO.len (fun n => LInv.iff ⟨hO.base, hO.clo rfl, hO.sub⟩ (fun p hp => by cases hp) n)
      have hln := hO.len
      have fin : Fin H (.own (H.length + 1) 0 0 has.length true) (H ++ (.box [z1, z2] :: .grow 0 1 (sb.map eB) :: .box [.own (H.length + 1) 0 0 has.length true] :: (X ++ [.box [ZBo false]]))) K := by
        refine Fin.frz (k := 1) (rows := sb.map eB) (mv_at1 _ _ _) (by simp [hln]) (mv_pure (fun r hr => by obtain ⟨x, _, rfl⟩ := List.mem_map.1 hr; rfl)) ?_
        rw [mv_st1, List.drop_zero, List.take_of_length_le (by simp [hln]), hsb]
        exact Fin.trunc (Mods.ext H _) rfl (by rw [List.take_left]; exact HK.out _)
      clear hsb hln hO
      repeat' (first | (simp only [zmPack, zxPack, ne_eq, zfree, owners, Nat.reduceLT, List.contains_cons, List.contains_nil, Nat.reduceBEq, BEq.rfl, chunk, setAt, List.lookup_cons, List.lookup_nil, reduceCtorEq, Nat.reduceEqDiff, reduceIte, implies_true, forall_const, Nat.reduceMul, Nat.reduceSub, Nat.reduceAdd, Nat.reduceLeDiff, a0, *]) | (simp only [zgoO, zgoG, zO_nil, zthen_normal, zgoC]) | (with_reducible apply And.intro) | (with_reducible intro _))
    | true =>
      clear hO
      repeat' (first | (simp only [zmPack, zxPack, ne_eq, zfree, owners, Nat.reduceLT, List.contains_cons, List.contains_nil, Nat.reduceBEq, BEq.rfl, chunk, setAt, List.lookup_cons, List.lookup_nil, reduceCtorEq, Nat.reduceEqDiff, reduceIte, implies_true, forall_const, Nat.reduceMul, Nat.reduceSub, Nat.reduceAdd, Nat.reduceLeDiff, a0, s0, l0, q1, *]) | (simp only [zgoO, zgoG, zO_nil, zthen_normal, zgoC]) | (with_reducible apply And.intro) | (with_reducible intro _))
      have hN : has.length < 9223372036854775807 := by have := HH.out.1; omega
      refine zW_forK [(35, z1), (11, .func 33 [.ptr (H.length + (X.length + 3)) 0, .ptr (H.length + 2) 0]), (7, .ptr (H.length + 2) 0), (10, .ptr (H.length + (X.length + 3)) 0), (2, .nil)] has.length (fun k s' h' => ∃ sb' b', FI has l sb sb' b' (ClTo has sb k) ∧ h' = H ++ (.box [z1, z2] :: .grow 0 1 (sb'.map eB) :: .box [.own (H.length + 1) 0 0 has.length true] :: (X ++ [.box [ZBo b']]))) hN ⟨rfl, rfl, rfl, rfl, rfl, rfl⟩ rfl rfl (by repeat' (first | exact trivial | (refine ⟨rfl, ?_⟩) | (refine ⟨by simp only [zupd_at, Nat.reduceEqDiff, reduceIte]; assumption, ?_⟩))) rfl rfl (by decide) ⟨sb, false, FI.start HO.out.len HO.out.base HO.out.sub (fun n hn => absurd hn (by omega)), rfl⟩ ?_ ?_
      · rintro k s' h' hk ⟨sb', b', hI, rfl⟩ hi hl ⟨g35, g11, g7, g10, -⟩
        obtain ⟨pp, hp, hld⟩ := rows_at (E1.out (.box [z1, z2] :: .grow 0 1 (sb'.map eB) :: .box [.own (H.length + 1) 0 0 has.length true] :: (X ++ [.box [ZBo b']]))) hk
        have hgd : has.getD k [] = has[k] := by simp [List.getD, hk]
        have hos := HH.out.2.2.1 _ (List.getElem_mem hk)
        have hoi := HH.out.2.2.2.1.2 _ (List.getElem_mem hk)
        obtain ⟨o, ho⟩ : ∃ o, o = has[k] := ⟨_, rfl⟩
        rw [← ho] at hld hgd hos hoi
        have HOS := Lib.hid hos
        have HOI := Lib.hid hoi
        have HGD := Lib.hid hgd
        have HI := Lib.hid hI
        clear ho hos hoi hgd hI hN
        repeat' (first | (simp only [zmPack, zxPack, ne_eq, zfree, owners, Nat.reduceLT, List.contains_cons, List.contains_nil, Nat.reduceBEq, BEq.rfl, chunk, setAt, List.lookup_cons, List.lookup_nil, reduceCtorEq, Nat.reduceEqDiff, reduceIte, implies_true, forall_const, Nat.reduceMul, Nat.reduceSub, Nat.reduceAdd, Nat.reduceLeDiff, hp, hld, *]) | (simp only [zgoO, zgoG, zO_nil, zthen_normal, zgoC]) | (with_reducible apply And.intro) | (with_reducible intro _))
        refine zW_forK [(42, zI o), (12, Z64 (k : Nat)), (11, .func 33 [.ptr (H.length + (X.length + 3)) 0, .ptr (H.length + 2) 0]), (7, .ptr (H.length + 2) 0)] o.length (fun m s' h' => ∃ sb' b', FI has l sb sb' b' (ClIn has sb k o m) ∧ h' = H ++ (.box [z1, z2] :: .grow 0 1 (sb'.map eB) :: .box [.own (H.length + 1) 0 0 has.length true] :: (X ++ [.box [ZBo b']]))) (by have := HOS.out; omega) ⟨rfl, rfl, rfl, rfl, rfl, rfl⟩ rfl rfl (by repeat' (first | exact trivial | (refine ⟨rfl, ?_⟩) | (refine ⟨by simp only [zupd_at, Nat.reduceEqDiff, reduceIte]; assumption, ?_⟩))) rfl rfl (by decide) ⟨sb', b', HI.out.mono fun _ h => ClIn.start h, rfl⟩ ?_ ?_
        · clear HI hp hld
          rintro m s' h' hm ⟨sb2, b2, hI, rfl⟩ hi hl ⟨g42, g12, g11, g7, -⟩
          have hy : o[m]? = some o[m] := List.getElem?_eq_getElem hm
          have hyr := HOI.out _ (List.getElem_mem hm)
          have hym : o[m] ∈ has.getD k [] := by rw [HGD.out]; exact List.getElem_mem hm
          have hnx := fun h => ClIn.next (has := has) (sb := sb) (k := k) h hm
          obtain ⟨j, hj⟩ := Int.eq_ofNat_of_zero_le hyr.1
          rw [hj] at hy hyr hym hnx
          have hjl : j < sb2.length := by rw [hI.len]; omega
          have hkl : k < sb2.length := by rw [hI.len]; exact hk
          have hjg : sb2[j]? = some sb2[j] := List.getElem?_eq_getElem hjl
          have hkg : sb2[k]? = some sb2[k] := List.getElem?_eq_getElem hkl
          have hel := fun A Y => fr_el (H := H) (A := A) (Y := Y) hI.len hk
          have hskI : Sn sb2 k ↔ sb2[k] = true := by unfold Sn; simp [List.getD, hkl]
          have hsee := fun hl hq => hI.see (Q := ClIn has sb k o (m + 1)) hjl hl hq
          have hmono := fun hq => hI.mono (Q := ClIn has sb k o (m + 1)) hq
          have hlivk := hI.sub k
          have hlen2 := hI.len
          obtain ⟨c, hc⟩ : ∃ c, c = sb2[k] := ⟨_, rfl⟩
          obtain ⟨d, hd⟩ : ∃ d, d = sb2[j] := ⟨_, rfl⟩
          rw [← hc] at hkg hskI
          rw [← hd] at hjg hsee
          have hldk := fun A Y => fr_ld (H := H) (A := A) (Y := Y) hkg
          have HSEE := Lib.hid hsee
          have HMO := Lib.hid hmono
          have HLK := Lib.hid hlivk
          have HYM := Lib.hid hym
          have HNX := Lib.hid hnx
          have HJG := Lib.hid hjg
          have HL2 := Lib.hid hlen2
          have HSK := Lib.hid hskI
          have HJL := Lib.hid hjl
          clear hj hyr hym hnx hjl hkl hjg hkg hskI hsee hmono hlivk hlen2 hc hd hI
          cases c with
          | true =>
            repeat' (first | (simp only [zmPack, zxPack, ne_eq, zfree, owners, Nat.reduceLT, List.contains_cons, List.contains_nil, Nat.reduceBEq, BEq.rfl, chunk, setAt, List.lookup_cons, List.lookup_nil, reduceCtorEq, Nat.reduceEqDiff, reduceIte, implies_true, forall_const, Nat.reduceMul, Nat.reduceSub, Nat.reduceAdd, Nat.reduceLeDiff, hy, hel, hldk, *]) | (simp only [zgoO, zgoG, zO_nil, zthen_normal, zgoC]) | (with_reducible apply And.intro) | (with_reducible intro _))
            refine froma_z (sb := sb2) (c := d) (a0 _ _ _ _) (by rw [List.getElem?_append_right (by omega), Nat.add_sub_cancel_left]; rfl) (mv_at1 _ _ _) HL2.out HJG.out (by omega) l0 (lx 1) ?_
            have fin := HSEE.out (Liv.cl has [] l k (HLK.out (HSK.out.2 rfl)) _ HYM.out) (fun _ h hs => HNX.out h fun _ => hs)
            rw [s0, mv_st1]
            have FN := Lib.hid fin
            clear fin hel hldk hy
            repeat' (first | (simp only [zmPack, zxPack, ne_eq, zfree, owners, Nat.reduceLT, List.contains_cons, List.contains_nil, Nat.reduceBEq, BEq.rfl, chunk, setAt, List.lookup_cons, List.lookup_nil, reduceCtorEq, Nat.reduceEqDiff, reduceIte, implies_true, forall_const, Nat.reduceMul, Nat.reduceSub, Nat.reduceAdd, Nat.reduceLeDiff, *]) | (simp only [zgoO, zgoG, zO_nil, zthen_normal, zgoC]) | (with_reducible apply And.intro) | (with_reducible intro _))
            all_goals exact ⟨_, _, FN.out, rfl⟩
          | false =>
            have fin := HMO.out (fun e h => HNX.out h fun hs => absurd (HSK.out.1 (e ▸ hs)) (by simp))
            have FN := Lib.hid fin
            clear fin
            repeat' (first | (simp only [zmPack, zxPack, ne_eq, zfree, owners, Nat.reduceLT, List.contains_cons, List.contains_nil, Nat.reduceBEq, BEq.rfl, chunk, setAt, List.lookup_cons, List.lookup_nil, reduceCtorEq, Nat.reduceEqDiff, reduceIte, implies_true, forall_const, Nat.reduceMul, Nat.reduceSub, Nat.reduceAdd, Nat.reduceLeDiff, hy, hel, hldk, *]) | (simp only [zgoO, zgoG, zO_nil, zthen_normal, zgoC]) | (with_reducible apply And.intro) | (with_reducible intro _))
            all_goals exact ⟨_, _, FN.out, rfl⟩
        · rintro s' h' ⟨sb2, b2, hI, rfl⟩ ⟨g42, g12, g11, g7, -⟩
          have fin := hI.mono fun _ h => ClIn.done h HGD.out
          have FN := Lib.hid fin
          clear fin hI hp hld
          repeat' (first | (simp only [zmPack, zxPack, ne_eq, zfree, owners, Nat.reduceLT, List.contains_cons, List.contains_nil, Nat.reduceBEq, BEq.rfl, chunk, setAt, List.lookup_cons, List.lookup_nil, reduceCtorEq, Nat.reduceEqDiff, reduceIte, implies_true, forall_const, Nat.reduceMul, Nat.reduceSub, Nat.reduceAdd, Nat.reduceLeDiff, *]) | (simp only [zgoO, zgoG, zO_nil, zthen_normal, zgoC]) | (with_reducible apply And.intro) | (with_reducible intro _))
          all_goals exact ⟨_, _, FN.out, rfl⟩
      · rintro s' h' ⟨sb', b', hI, rfl⟩ ⟨g35, g11, g7, g10, g2, -⟩
        have HI := Lib.hid hI
        clear hI hN
        repeat' (first | (simp only [zmPack, zxPack, ne_eq, zfree, owners, Nat.reduceLT, List.contains_cons, List.contains_nil, Nat.reduceBEq, BEq.rfl, chunk, setAt, List.lookup_cons, List.lookup_nil, reduceCtorEq, Nat.reduceEqDiff, reduceIte, implies_true, forall_const, Nat.reduceMul, Nat.reduceSub, Nat.reduceAdd, Nat.reduceLeDiff, *]) | (simp only [zgoO, zgoG, zO_nil, zthen_normal, zgoC]) | (with_reducible apply And.intro) | (with_reducible intro _))
        refine zW_forK [(10, .ptr (H.length + (X.length + 3)) 0)] 0 (fun k s2 h2 => h2 = H ++ (.box [z1, z2] :: .grow 0 1 (sb'.map eB) :: .box [.own (H.length + 1) 0 0 has.length true] :: (X ++ [.box [ZBo b']]))) (by omega) ⟨rfl, rfl, rfl, rfl, rfl, rfl⟩ rfl rfl (by repeat' (first | exact trivial | (refine ⟨rfl, ?_⟩) | (refine ⟨by simp only [zupd_at, Nat.reduceEqDiff, reduceIte]; assumption, ?_⟩))) rfl rfl (by decide) rfl ?_ ?_
        · rintro k s' h' hk
          omega
        · rintro s' h' rfl ⟨r10, -⟩
          repeat' (first | (simp only [zmPack, zxPack, ne_eq, zfree, owners, Nat.reduceLT, List.contains_cons, List.contains_nil, Nat.reduceBEq, BEq.rfl, chunk, setAt, List.lookup_cons, List.lookup_nil, reduceCtorEq, Nat.reduceEqDiff, reduceIte, implies_true, forall_const, Nat.reduceMul, Nat.reduceSub, Nat.reduceAdd, Nat.reduceLeDiff, a0, s0, a1, s1, l4, *]) | (simp only [zgoO, zgoG, zO_nil, zthen_normal, zgoC]) | (with_reducible apply And.intro) | (with_reducible intro _))
          all_goals exact ⟨_, HI.out.less, sb', b', X ++ [.box [ZBo b']], by simp, by simp, HI.out.out, rfl⟩
theorem rising_z {ex : Bool} {sb : List Bool} (hl : sb.length ≤ 1000000) (hK : K (.fz 1 false ((rising sb).map eI)) H) :
    ZC (constX tb) (cFunc Try.prog) 23 [.fz 1 ex (sb.map eB)] L H K := by
  refine ZC.enterL ⟨[(3, [(0, 1)])], [], []⟩ constX_none f_mk_rising (by simp) fun hL => ?_
  simp only [c_mk_rising]
  have F : ∀ g' X, Fin H (.own H.length g' 0 (riseTo sb sb.length).length false) (H ++ (.grow g' 1 ((riseTo sb sb.length).map eI) :: X)) K := fun g' X => by
    refine Fin.frz (k := 1) (rows := (riseTo sb sb.length).map eI) (mv_at0 _ _) (by simp) (mv_pure (fun r hr => by obtain ⟨x, _, rfl⟩ := List.mem_map.1 hr; rfl)) ?_
    rw [mv_st0, List.drop_zero, List.take_of_length_le (by simp)]
    exact Fin.trunc (Mods.ext H _) rfl (by rw [List.take_left]; exact hK)
  have FF := Lib.hid F
  have HL := Lib.hid hl
  have l0 : L H.length = true := hL 0
  clear hK F hl
  repeat' (first | (simp only [zmPack, zxPack, ne_eq, zfree, owners, Nat.reduceLT, List.contains_cons, List.contains_nil, Nat.reduceBEq, BEq.rfl, chunk, setAt, List.lookup_cons, List.lookup_nil, reduceCtorEq, Nat.reduceEqDiff, reduceIte, implies_true, forall_const, Nat.reduceMul, Nat.reduceSub, Nat.reduceAdd, Nat.reduceLeDiff, *]) | (simp only [zgoO, zgoG, zO_nil, zthen_normal, zgoC]) | (with_reducible apply And.intro) | (with_reducible intro _))
  refine zW_forK [(6, .fz 1 ex (sb.map eB))] sb.length (fun k s' h' => ∃ g' X, s' 3 = .own H.length g' 0 (riseTo sb k).length false ∧ h' = H ++ (.grow g' 1 ((riseTo sb k).map eI) :: X)) (by have := HL.out; omega) ⟨rfl, rfl, rfl, rfl, rfl, rfl⟩ rfl rfl (by repeat' (first | exact trivial | (refine ⟨rfl, ?_⟩) | (refine ⟨by simp only [zupd_at, Nat.reduceEqDiff, reduceIte]; assumption, ?_⟩))) rfl rfl (by decide) ⟨0, [], rfl, rfl⟩ ?_ ?_
  · rintro k s' h' hk ⟨g', X, f3, rfl⟩ hi hll ⟨f6, -⟩
    have hx : sb[k]? = some sb[k] := List.getElem?_eq_getElem hk
    have hru := riseTo_succ sb k
    have hgd : sb.getD k false = sb[k] := by simp [hk]
    rw [hgd] at hru
    have hrl := riseTo_length sb k
    obtain ⟨c, hc⟩ : ∃ c, c = sb[k] := ⟨_, rfl⟩
    rw [← hc] at hx hru
    have hap : ∀ Y, appZ L (H ++ (.grow g' 1 ((riseTo sb k).map eI) :: Y)) 1 8 [[Z64 k]] (.own H.length g' 0 (riseTo sb k).length false) = some (.own H.length (g' + 1) 0 ((riseTo sb k).length + 1) false, H ++ (.grow (g' + 1) 1 ((riseTo sb k ++ [(k : Int)]).map eI) :: Y)) := fun Y => by
      rw [app_ownN (mv_at0 _ _) (by simp) (by have := HL.out; unfold reach; simp; omega) l0, mv_st0, List.map_append]; rfl
    have HRU := Lib.hid hru
    clear hc hgd hru hrl
    cases c with
    | true =>
      repeat' (first | (simp only [zmPack, zxPack, ne_eq, zfree, owners, Nat.reduceLT, List.contains_cons, List.contains_nil, Nat.reduceBEq, BEq.rfl, chunk, setAt, List.lookup_cons, List.lookup_nil, reduceCtorEq, Nat.reduceEqDiff, reduceIte, implies_true, forall_const, Nat.reduceMul, Nat.reduceSub, Nat.reduceAdd, Nat.reduceLeDiff, hx, hap, *]) | (simp only [zgoO, zgoG, zO_nil, zthen_normal, zgoC]) | (with_reducible apply And.intro) | (with_reducible intro _))
      all_goals first | (rw [HRU.out, if_pos rfl, List.length_append]; done) | (rw [HRU.out, if_pos rfl, List.length_append]; rfl) | (rw [HRU.out, if_pos rfl]; exact ⟨_, rfl⟩)
    | false =>
      repeat' (first | (simp only [zmPack, zxPack, ne_eq, zfree, owners, Nat.reduceLT, List.contains_cons, List.contains_nil, Nat.reduceBEq, BEq.rfl, chunk, setAt, List.lookup_cons, List.lookup_nil, reduceCtorEq, Nat.reduceEqDiff, reduceIte, implies_true, forall_const, Nat.reduceMul, Nat.reduceSub, Nat.reduceAdd, Nat.reduceLeDiff, hx, *]) | (simp only [zgoO, zgoG, zO_nil, zthen_normal, zgoC]) | (with_reducible apply And.intro) | (with_reducible intro _))
      all_goals first | (rw [HRU.out, if_neg (by decide)]; done) | (rw [HRU.out, if_neg (by decide)]; exact ⟨_, rfl⟩)
  · rintro s' h' ⟨g', X, f3, rfl⟩ ⟨f6, -⟩
    have fin := FF.out g' X
    repeat' (first | (simp only [zmPack, zxPack, ne_eq, zfree, owners, Nat.reduceLT, List.contains_cons, List.contains_nil, Nat.reduceBEq, BEq.rfl, chunk, setAt, List.lookup_cons, List.lookup_nil, reduceCtorEq, Nat.reduceEqDiff, reduceIte, implies_true, forall_const, Nat.reduceMul, Nat.reduceSub, Nat.reduceAdd, Nat.reduceLeDiff, *]) | (simp only [zgoO, zgoG, zO_nil, zthen_normal, zgoC]) | (with_reducible apply And.intro) | (with_reducible intro _))
theorem neededin_z {has : List (List Int)} {l : List Int} (hN : has.length ≤ 1000) (hll : l.length ≤ 1000000) (hls : ∀ o ∈ has, o.length ≤ 1000) (hok : okHas has has.length) (hb : ∀ x ∈ l, 0 ≤ x ∧ x < (has.length : Int)) (hK : K (.fz 1 false ((liveL has [] l).map eI)) H) :
    ZC (constX tb) (cFunc Try.prog) 14 [.agg [.fz 1 false (has.map eL), .fz 1 false (l.map eI)]] L H K := by
  refine ZC.enterL Gh.no constX_none f_mk_neededin (by simp) fun hL => ?_
  simp only [c_mk_neededin]
  have fin : ∀ X, Fin H (.fz 1 false ((liveL has [] l).map eI)) (H ++ X) K := fun X => Fin.trunc (Mods.ext H X) rfl (by rw [List.take_left]; exact hK)
  have HH := Lib.hid (And.intro hN (And.intro hll (And.intro hls (And.intro hok hb))))
  clear hK hN hll hls hok hb
  repeat' (first | (simp only [zmPack, zxPack, ne_eq, zfree, owners, Nat.reduceLT, List.contains_cons, List.contains_nil, Nat.reduceBEq, BEq.rfl, chunk, setAt, List.lookup_cons, List.lookup_nil, reduceCtorEq, Nat.reduceEqDiff, reduceIte, implies_true, forall_const, Nat.reduceMul, Nat.reduceSub, Nat.reduceAdd, Nat.reduceLeDiff, *]) | (simp only [zgoO, zgoG, zO_nil, zthen_normal, zgoC]) | (with_reducible apply And.intro) | (with_reducible intro _))
  refine rfrom_z rows_fz rfl rfl rows_fz HH.out.1 HH.out.2.1 HH.out.2.2.1 HH.out.2.2.2.1 HH.out.2.2.2.2 (fun _ => rows_fz) (fun _ => rows_fz) fun ex => ?_
  repeat' (first | (simp only [zmPack, zxPack, ne_eq, zfree, owners, Nat.reduceLT, List.contains_cons, List.contains_nil, Nat.reduceBEq, BEq.rfl, chunk, setAt, List.lookup_cons, List.lookup_nil, reduceCtorEq, Nat.reduceEqDiff, reduceIte, implies_true, forall_const, Nat.reduceMul, Nat.reduceSub, Nat.reduceAdd, Nat.reduceLeDiff, *]) | (simp only [zgoO, zgoG, zO_nil, zthen_normal, zgoC]) | (with_reducible apply And.intro) | (with_reducible intro _))
  refine rising_z (by rw [liveSb_length]; have := HH.out.1; omega) ?_
  rw [show rising (liveSb has [] l) = liveL has [] l by rfl]
  repeat' (first | (simp only [zmPack, zxPack, ne_eq, zfree, owners, Nat.reduceLT, List.contains_cons, List.contains_nil, Nat.reduceBEq, BEq.rfl, chunk, setAt, List.lookup_cons, List.lookup_nil, reduceCtorEq, Nat.reduceEqDiff, reduceIte, implies_true, forall_const, Nat.reduceMul, Nat.reduceSub, Nat.reduceAdd, Nat.reduceLeDiff, *]) | (simp only [zgoO, zgoG, zO_nil, zthen_normal, zgoC]) | (with_reducible apply And.intro) | (with_reducible intro _))
end Go.Proofs.Ytblgljahhhdlhaa

namespace Go.Proofs.Ytblgljahhhdlhaa
open Go Go.RowKit
set_option linter.unusedVariables false
set_option linter.unusedSimpArgs false
variable {U : Nat → Prop}
variable {tb : List (FuncId × Bool)} {nd : Bool} {L : Nat → Bool} {H : ZH} {K : ZV → ZH → Prop} {p t g m : Nat} {nu : Int} {T : List TB} {R : List Int}
def yoT (T : List TB) (r : Int) : Prop := ∃ x, T[r.toNat]? = some x ∧ x.2.1.any (yngB T) = true
structure BrI (H : ZH) (T : List TB) (R : List Int) (rem : List (Int × ZV)) (s3 : ZV) (h' : ZH) : Prop where
  ex : ∃ g' out X, s3 = .own H.length g' 0 (List.length out) false ∧ h' = H ++ (.grow g' 1 (out.map eI) :: X) ∧ (∀ r ∈ out, r ∈ R ∧ yoT T r) ∧ (∀ r ∈ R, (r, .agg []) ∈ rem ∨ (yoT T r → r ∈ out)) ∧ out.length + rem.length ≤ R.length
  sub : ∀ e ∈ rem, e.1 ∈ R
end Go.Proofs.Ytblgljahhhdlhaa
