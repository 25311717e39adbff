/-
  The document's From, Rising; neededIn: in ZM.
-/
import Derived.Test.YtblgljahhhdlhaaMrB11
import Derived.Test.YtblgljahhhdlhaaMrB7
namespace Go.Proofs.Ytblgljahhhdlhaa
open Go Go.RowKit
set_option linter.unusedVariables false
set_option linter.unusedSimpArgs false
variable {tb : List (FuncId × Bool)} {L : Nat → Bool} {H : ZH} {K : ZV → ZH → Prop}
/-- How far From's round is. -/
structure FI (has : List (List Int)) (l : List Int) (sb sb' : List Bool) (b : Bool) (P : Prop) : Prop where
  len : sb'.length = has.length
  base : ∀ x ∈ l, Sn sb' x.toNat
  sub : ∀ n, Sn sb' n → Liv has [] l n
  no : b = false → sb' = sb ∧ P
  yes : b = true → unseen sb' < unseen sb
theorem FI.mono {has : List (List Int)} {l : List Int} {sb sb' : List Bool} {b : Bool} {P Q : Prop} (h : FI has l sb sb' b P) (hq : sb' = sb → P → Q) : FI has l sb sb' b Q :=
  ⟨h.len, h.base, h.sub, fun hb => ⟨(h.no hb).1, hq (h.no hb).1 (h.no hb).2⟩, h.yes⟩
theorem FI.see {has : List (List Int)} {l : List Int} {sb sb' : List Bool} {b : Bool} {P Q : Prop} (h : FI has l sb sb' b P) {x : Nat} (hx : x < sb'.length) (hl : Liv has [] l x) (hq : sb' = sb → P → Sn sb x → Q) :
    FI has l sb (sb'.set x true) (b || !sb'[x]) Q := by
  have hs : ∀ n, Sn (sb'.set x true) n ↔ Sn sb' n ∨ n = x := fun n => Sn_set hx
  have hun : unseen (sb'.set x true) ≤ unseen sb' := unseen_le (by simp) fun n hn => (hs n).2 (.inl hn)
  refine ⟨by simp [h.len], fun y hy => (hs _).2 (.inl (h.base y hy)), fun n hn => ?_, fun hb => ?_, fun hb => ?_⟩
  · rcases (hs n).1 hn with hn | rfl
    · exact h.sub n hn
    · exact hl
  · simp only [Bool.or_eq_false_iff, Bool.not_eq_false'] at hb
    obtain ⟨e, hp⟩ := h.no hb.1
    have hset : sb'.set x true = sb' := by
      apply List.ext_getElem (by simp)
      intro i h1 h2
      rw [List.getElem_set]
      split
      · rename_i hxi; subst hxi; exact hb.2.symm
      · rfl
    rw [hset]
    refine ⟨e, hq e hp ?_⟩
    subst e
    unfold Sn; simp [List.getD, hx, hb.2]
  · cases hb0 : b with
    | true => have := h.yes hb0; omega
    | false =>
      obtain ⟨e, -⟩ := h.no hb0
      subst e
      rw [hb0, Bool.false_or, Bool.not_eq_true'] at hb
      have := unseen_set (l := sb') (i := x) hx (by simp [List.getD, hx, hb])
      omega
theorem FI.start {has : List (List Int)} {l : List Int} {sb : List Bool} {P : Prop} (h1 : sb.length = has.length) (h2 : ∀ x ∈ l, Sn sb x.toNat) (h3 : ∀ n, Sn sb n → Liv has [] l n) (hp : P) : FI has l sb sb false P :=
  ⟨h1, h2, h3, fun _ => ⟨rfl, hp⟩, fun h => by cases h⟩
/-- From's outer state: more is to be done, or it is closed. -/
structure FO (has : List (List Int)) (l : List Int) (sb : List Bool) (b : Bool) : Prop where
  len : sb.length = has.length
  base : ∀ x ∈ l, Sn sb x.toNat
  sub : ∀ n, Sn sb n → Liv has [] l n
  clo : b = false → Cl has (Sn sb)
def ClTo (has : List (List Int)) (sb : List Bool) (k : Nat) : Prop := ∀ n, n < k → Sn sb n → ∀ y ∈ has.getD n [], Sn sb y.toNat
def ClIn (has : List (List Int)) (sb : List Bool) (k : Nat) (own : List Int) (m : Nat) : Prop := ClTo has sb k ∧ (Sn sb k → ∀ y ∈ own.take m, Sn sb y.toNat)
/-- The first loop: roots are seen. -/
structure FB (has : List (List Int)) (l : List Int) (k : Nat) (sb : List Bool) : Prop where
  len : sb.length = has.length
  base : ∀ x ∈ l.take k, Sn sb x.toNat
  sub : ∀ n, Sn sb n → Liv has [] l n
theorem FB.next {has : List (List Int)} {l : List Int} {k : Nat} {sb : List Bool} (h : FB has l k sb) (hk : k < l.length) {m : Nat} (hm : l[k] = (m : Int)) (hmn : m < has.length) : FB has l (k + 1) (sb.set m true) := by
  have hs : ∀ n, Sn (sb.set m true) n ↔ Sn sb n ∨ n = m := fun n => Sn_set (by rw [h.len]; exact hmn)
  refine ⟨by simp [h.len], fun x hx => ?_, fun n hn => ?_⟩
  · rw [List.take_succ_eq_append_getElem hk] at hx
    rcases List.mem_append.1 hx with hx | hx
    · exact (hs _).2 (.inl (h.base x hx))
    · rw [List.mem_singleton.1 hx, hm]; exact (hs _).2 (.inr (by omega))
  · rcases (hs n).1 hn with hn | rfl
    · exact h.sub n hn
    · have := Liv.base (has := has) (ps := []) (l := l) (x := l[k]) (List.getElem_mem hk)
      rw [hm] at this; simpa using this
theorem ClIn.start {has : List (List Int)} {sb : List Bool} {k : Nat} {own : List Int} (h : ClTo has sb k) : ClIn has sb k own 0 := ⟨h, fun _ y hy => by simp at hy⟩
theorem ClIn.next {has : List (List Int)} {sb : List Bool} {k m : Nat} {own : List Int} (h : ClIn has sb k own m) (hm : m < own.length) (hs : Sn sb k → Sn sb own[m].toNat) : ClIn has sb k own (m + 1) := ⟨h.1, fun hk y hy => by
  rw [List.take_succ_eq_append_getElem hm] at hy
  rcases List.mem_append.1 hy with hy | hy
  · exact h.2 hk y hy
  · rw [List.mem_singleton.1 hy]; exact hs hk⟩
theorem ClIn.done {has : List (List Int)} {sb : List Bool} {k : Nat} {own : List Int} (h : ClIn has sb k own own.length) (ho : has.getD k [] = own) : ClTo has sb (k + 1) := fun n hn hs y hy => by
  rcases Nat.lt_succ_iff_lt_or_eq.1 hn with hn | rfl
  · exact h.1 n hn hs y hy
  · rw [ho] at hy; exact h.2 hs y (by rw [List.take_length]; exact hy)
theorem ClTo.all {has : List (List Int)} {sb : List Bool} (h : ClTo has sb has.length) : Cl has (Sn sb) := fun n hn y hy => by
  by_cases hl : n < has.length
  · exact h n hl hn y hy
  · simp [List.getD, List.getElem?_eq_none (Nat.not_lt.1 hl)] at hy
theorem FI.out {has : List (List Int)} {l : List Int} {sb sb' : List Bool} {b : Bool} (h : FI has l sb sb' b (ClTo has sb has.length)) : FO has l sb' b :=
  ⟨h.len, h.base, h.sub, fun hb => by obtain ⟨e, hc⟩ := h.no hb; subst e; exact hc.all⟩
theorem FI.less {has : List (List Int)} {l : List Int} {sb sb' : List Bool} {b : Bool} {P : Prop} (h : FI has l sb sb' b P) : 2 * unseen sb' + (if b = true then 1 else 0) < 2 * unseen sb + 1 := by
  cases b with
  | true => have := h.yes rfl; simp; omega
  | false => have := (h.no rfl).1; subst this; simp
end Go.Proofs.Ytblgljahhhdlhaa

namespace Go.Proofs.Ytblgljahhhdlhaa
open Go Go.RowKit
set_option linter.unusedVariables false
set_option linter.unusedSimpArgs false
variable {tb : List (FuncId × Bool)} {nd : Bool} {L : Nat → Bool} {H : ZH} {K : ZV → ZH → Prop} {p t g m : Nat} {nu : Int} {T : List TB} {R : List Int}
/-- The first one of which it is true. -/
def idxP {α : Type} (p : α → Bool) (l : List α) : Int := match l.findIdx? p with
  | some i => (i : Int)
  | none => -1
theorem idx_ge {α : Type} {p : α → Bool} {l : List α} : decide ((0 : Int) ≤ idxP p l) = l.any p := by
  unfold idxP
  cases h : l.findIdx? p with
  | none =>
    have := List.findIdx?_eq_none_iff.1 h
    simp only [Int.reduceNeg, show ¬ ((0 : Int) ≤ -1) by omega, decide_false]
    symm
    rw [List.any_eq_false]
    intro x hx; rw [this x hx]; simp
  | some i =>
    obtain ⟨h1, h2, _⟩ := List.findIdx?_eq_some_iff_getElem.1 h
    have h3 : (0 : Int) ≤ (i : Int) := by omega
    simp only [h3, decide_true]
    symm
    exact List.any_eq_true.2 ⟨_, List.getElem_mem h1, h2⟩
def NoneY {α : Type} (p : α → Bool) (l : List α) : Prop := ∀ x ∈ l, p x = false
theorem idxY_z {z : ZV} {l : List Int} (hz : rowsZ H 1 z = some (l.map eI)) (hb : l.length ≤ 100000000000000) (h : GeAt H p t g m nu T R) (hl : ∀ y ∈ l, y < (T.length : Int)) (hK : K (Z64 (idxP (yngB T) l)) H) :
    ZC (XG tb nd) (cFunc Try.prog) 34 [z, .bfunc 26 [.ptr p 0] []] L H K := by
  refine ZC.enter Gh.no constX_none f_mk_idxf (by simp) ?_
  simp only [c_mk_idxf]
  have hlen := rows_len hz
  rw [List.length_map] at hlen
  have HM := Lib.hid h
  have HL := Lib.hid hl
  have HK := Lib.hid hK
  clear h hK hl
  repeat' (first | (simp only [zmPack, zxPack, ne_eq, zfree, owners, Nat.reduceLT, List.contains_cons, List.contains_nil, Nat.reduceBEq, BEq.rfl, chunk, setAt, List.lookup_cons, List.lookup_nil, reduceCtorEq, Nat.reduceEqDiff, reduceIte, implies_true, forall_const, Nat.reduceMul, Nat.reduceSub, Nat.reduceAdd, Nat.reduceLeDiff, hlen, *]) | (simp only [zgoO, zgoG, zO_nil, zthen_normal, zgoC]) | (with_reducible apply And.intro) | (with_reducible intro _))
  refine zW_forK [(0, z), (1, .bfunc 26 [.ptr p 0] [])] l.length (fun k s' h' => h' = H ∧ NoneY (yngB T) (l.take k)) (by omega) ⟨rfl, rfl, rfl, rfl, rfl, rfl⟩ rfl rfl (by repeat' (first | exact trivial | (refine ⟨rfl, ?_⟩) | (refine ⟨by simp only [zupd_at, Nat.reduceEqDiff, reduceIte]; assumption, ?_⟩))) rfl rfl (by decide) ⟨rfl, by simp [NoneY]⟩ ?_ ?_
  · rintro k s' h' hk ⟨rfl, hno⟩ hi hl ⟨f0, f1, -⟩
    obtain ⟨q, hq, hld⟩ := rows_at hz hk
    have HN := Lib.hid hno
    clear hno
    repeat' (first | (simp only [zmPack, zxPack, ne_eq, zfree, owners, Nat.reduceLT, List.contains_cons, List.contains_nil, Nat.reduceBEq, BEq.rfl, chunk, setAt, List.lookup_cons, List.lookup_nil, reduceCtorEq, Nat.reduceEqDiff, reduceIte, implies_true, forall_const, Nat.reduceMul, Nat.reduceSub, Nat.reduceAdd, Nat.reduceLeDiff, hq, hld, zcallee_bfunc, List.append_nil, List.cons_append, List.nil_append, *]) | (simp only [zgoO, zgoG, zO_nil, zthen_normal, zgoC]) | (with_reducible apply And.intro) | (with_reducible intro _))
    refine isyoung_z HM.out (HL.out _ (List.getElem_mem hk)) ?_
    cases hp : yngB T l[k] with
    | true =>
      have hi : idxP (yngB T) l = (k : Int) := by
        have : l.findIdx? (yngB T) = some k := by
          rw [List.findIdx?_eq_some_iff_getElem]
          exact ⟨hk, hp, fun j hj => by simp only [Bool.not_eq_true]; exact HN.out _ (by rw [List.mem_take_iff_getElem]; exact ⟨j, by omega, rfl⟩)⟩
        simp only [idxP, this]
      have hK := HK.out
      rw [hi] at hK
      have fin := Fin.keep (H0 := h') hK
      clear hp hi hK hld
      repeat' (first | (simp only [zmPack, zxPack, ne_eq, zfree, owners, Nat.reduceLT, List.contains_cons, List.contains_nil, Nat.reduceBEq, BEq.rfl, chunk, setAt, List.lookup_cons, List.lookup_nil, reduceCtorEq, Nat.reduceEqDiff, reduceIte, implies_true, forall_const, Nat.reduceMul, Nat.reduceSub, Nat.reduceAdd, Nat.reduceLeDiff, *]) | (simp only [zgoO, zgoG, zO_nil, zthen_normal, zgoC]) | (with_reducible apply And.intro) | (with_reducible intro _))
    | false =>
      have fin : NoneY (yngB T) (l.take (k + 1)) := fun x hx => by
        rw [List.take_succ_eq_append_getElem hk] at hx
        rcases List.mem_append.1 hx with hx | hx
        · exact HN.out x hx
        · rw [List.mem_singleton.1 hx]; exact hp
      clear hp hld
      repeat' (first | (simp only [zmPack, zxPack, ne_eq, zfree, owners, Nat.reduceLT, List.contains_cons, List.contains_nil, Nat.reduceBEq, BEq.rfl, chunk, setAt, List.lookup_cons, List.lookup_nil, reduceCtorEq, Nat.reduceEqDiff, reduceIte, implies_true, forall_const, Nat.reduceMul, Nat.reduceSub, Nat.reduceAdd, Nat.reduceLeDiff, *]) | (simp only [zgoO, zgoG, zO_nil, zthen_normal, zgoC]) | (with_reducible apply And.intro) | (with_reducible intro _))
  · rintro s' h' ⟨rfl, hno⟩ ⟨f0, f1, -⟩
    rw [List.take_of_length_le (Nat.le_refl _)] at hno
    have hi : idxP (yngB T) l = -1 := by
      have : l.findIdx? (yngB T) = none := List.findIdx?_eq_none_iff.2 fun x hx => by rw [hno x hx]
      simp only [idxP, this]
    have hK := HK.out
    rw [hi] at hK
    have fin := Fin.keep (H0 := h') hK
    clear hno hi hK
    repeat' (first | (simp only [zmPack, zxPack, ne_eq, zfree, owners, Nat.reduceLT, List.contains_cons, List.contains_nil, Nat.reduceBEq, BEq.rfl, chunk, setAt, List.lookup_cons, List.lookup_nil, reduceCtorEq, Nat.reduceEqDiff, reduceIte, implies_true, forall_const, Nat.reduceMul, Nat.reduceSub, Nat.reduceAdd, Nat.reduceLeDiff, *]) | (simp only [zgoO, zgoG, zO_nil, zthen_normal, zgoC]) | (with_reducible apply And.intro) | (with_reducible intro _))
theorem cfY_z {z : ZV} {l : List Int} (hz : rowsZ H 1 z = some (l.map eI)) (hb : l.length ≤ 100000000000000) (h : GeAt H p t g m nu T R) (hl : ∀ y ∈ l, y < (T.length : Int)) (hK : K (ZBo (l.any (yngB T))) H) :
    ZC (XG tb nd) (cFunc Try.prog) 25 [z, .bfunc 26 [.ptr p 0] []] L H K := by
  refine ZC.enter Gh.no constX_none f_ge_cf (by simp) ?_
  simp only [c_ge_cf]
  have fin := Fin.keep (H0 := H) hK
  have HM := Lib.hid h
  have HL := Lib.hid hl
  have HZ := Lib.hid hz
  clear hz h hl hK
  repeat' (first | (simp only [zmPack, zxPack, ne_eq, zfree, owners, Nat.reduceLT, List.contains_cons, List.contains_nil, Nat.reduceBEq, BEq.rfl, chunk, setAt, List.lookup_cons, List.lookup_nil, reduceCtorEq, Nat.reduceEqDiff, reduceIte, implies_true, forall_const, Nat.reduceMul, Nat.reduceSub, Nat.reduceAdd, Nat.reduceLeDiff, *]) | (simp only [zgoO, zgoG, zO_nil, zthen_normal, zgoC]) | (with_reducible apply And.intro) | (with_reducible intro _))
  refine idxY_z HZ.out hb HM.out HL.out ?_
  repeat' (first | (simp only [zmPack, zxPack, ne_eq, zfree, owners, Nat.reduceLT, List.contains_cons, List.contains_nil, Nat.reduceBEq, BEq.rfl, chunk, setAt, List.lookup_cons, List.lookup_nil, reduceCtorEq, Nat.reduceEqDiff, reduceIte, implies_true, forall_const, Nat.reduceMul, Nat.reduceSub, Nat.reduceAdd, Nat.reduceLeDiff, idx_ge, *]) | (simp only [zgoO, zgoG, zO_nil, zthen_normal, zgoC]) | (with_reducible apply And.intro) | (with_reducible intro _))
theorem nod_le : ∀ {n : Nat} {R : List Int}, R.Nodup → (∀ r ∈ R, 0 ≤ r ∧ r < (n : Int)) → R.length ≤ n
  | 0, R, _, h => by
    cases R with
    | nil => simp
    | cons a R => have := h a (by simp); omega
  | n + 1, R, hn, h => by
    by_cases hm : (n : Int) ∈ R
    · have h1 := nod_le (n := n) (R := R.erase n) (hn.erase _) (fun r hr => by
        obtain ⟨q1, q2⟩ := hn.mem_erase_iff.1 hr
        have := h r q2; omega)
      rw [List.length_erase_of_mem hm] at h1
      omega
    · have h1 := nod_le (n := n) (R := R) hn (fun r hr => by
        have := h r hr
        have : r ≠ n := fun e => hm (e ▸ hr)
        omega)
      omega
/-- An old one that has a young one. -/
def yoT (T : List TB) (r : Int) : Prop := ∃ x, T[r.toNat]? = some x ∧ x.2.1.any (yngB T) = true
structure BrI (H : ZH) (T : List TB) (R : List Int) (rem : List (Int × ZV)) (s3 : ZV) (h' : ZH) : Prop where
  ex : ∃ g' out X, s3 = .own H.length g' 0 (List.length out) false ∧ h' = H ++ (.grow g' 1 (out.map eI) :: X) ∧ (∀ r ∈ out, r ∈ R ∧ yoT T r) ∧ (∀ r ∈ R, (r, .agg []) ∈ rem ∨ (yoT T r → r ∈ out)) ∧ out.length + rem.length ≤ R.length
  sub : ∀ e ∈ rem, e.1 ∈ R
set_option maxHeartbeats 4000000 in
theorem barrier_z (h : GeAt H p t g m nu T R) (hr : Rng T) (hR : ∀ r ∈ R, 0 ≤ r ∧ r < (T.length : Int)) (hn : R.Nodup) (hL : ∀ i, L i = true) (hK : ∀ out : List Int, (∀ r, r ∈ out ↔ r ∈ R ∧ yoT T r) → out.length ≤ 100 → K (.fz 1 false (out.map eI)) H) :
    ZC (XG tb true) (cFunc Try.prog) 16 [.ptr p 0] L H K := by
  refine ZC.enter ⟨[(3, [(0, 1)])], [], []⟩ constX_none f_ge_barrier (by simp) ?_
  simp only [c_ge_barrier]
  have hRl := nod_le hn hR
  have hTl := hr.len
  have HG := Lib.hid h
  have HR := Lib.hid hr
  have HRR := Lib.hid hR
  have HK := Lib.hid hK
  have HL := Lib.hid hL
  have HRL := Lib.hid (Nat.le_trans hRl hTl)
  have hb : ∀ Y, (H ++ Y)[p]? = some (.box [Z64 nu, .own t g 0 T.length false, .mp m]) := fun Y => (HG.out.ext Y).box
  have hm : ∀ Y, (H ++ Y)[m]? = some (.box ((rE R).map ent)) := fun Y => (HG.out.ext Y).rem
  have hmlt := lt_of_get h.rem
  have l0 : L H.length = true := hL _
  clear h hr hR hK hL hn hRl hTl
  repeat' (first | (simp only [zmPack, zxPack, ne_eq, zfree, owners, Nat.reduceLT, List.contains_cons, List.contains_nil, Nat.reduceBEq, BEq.rfl, chunk, setAt, List.lookup_cons, List.lookup_nil, reduceCtorEq, Nat.reduceEqDiff, reduceIte, implies_true, forall_const, Nat.reduceMul, Nat.reduceSub, Nat.reduceAdd, Nat.reduceLeDiff, *]) | (simp only [zgoO, zgoG, zO_nil, zthen_normal, zgoC]) | (with_reducible apply And.intro) | (with_reducible intro _))
  refine zW_map rfl ?_
  repeat' (first | (simp only [zmPack, zxPack, ne_eq, zfree, owners, Nat.reduceLT, List.contains_cons, List.contains_nil, Nat.reduceBEq, BEq.rfl, chunk, setAt, List.lookup_cons, List.lookup_nil, reduceCtorEq, Nat.reduceEqDiff, reduceIte, implies_true, forall_const, Nat.reduceMul, Nat.reduceSub, Nat.reduceAdd, Nat.reduceLeDiff, hb, *]) | (simp only [zgoO, zgoG, zO_nil, zthen_normal, zgoC]) | (with_reducible apply And.intro) | (with_reducible intro _))
  refine ⟨m, rfl, _, hm _, ?_⟩
  refine zmap_for (G := ⟨[(3, [(0, 1)])], [], []⟩) rfl (l := rE R) (I := fun rem s' h' => s' 0 = .ptr p 0 ∧ BrI H T R rem (s' 3) h') ⟨by simp [zupd], ⟨⟨0, [], _, rfl, rfl, by simp, fun r hr => .inl (List.mem_map.2 ⟨r, hr, rfl⟩), by simp [rE]⟩, fun e he => by
    obtain ⟨k, hk, rfl⟩ := List.mem_map.1 he; exact hk⟩⟩ ?_ ?_
  · rintro rem j n v S' H' hj ⟨f0, ⟨g', out, X, f3, rfl, ho1, ho2, ho3⟩, hsub⟩ hs
    have hnR : n ∈ R := hsub (n, v) (List.mem_of_getElem? hj)
    obtain ⟨hn0, hn1⟩ := HRR.out n hnR
    obtain ⟨q, rfl⟩ := Int.eq_ofNat_of_zero_le hn0
    have hql : q < T.length := by omega
    have hw : T[q]? = some T[q] := List.getElem?_eq_getElem hql
    obtain ⟨w, hwe⟩ : ∃ w, w = T[q] := ⟨_, rfl⟩
    rw [← hwe] at hw
    have hwm := List.mem_of_getElem? hw
    have hel : ∀ Y, elemZ (H ++ Y) 3 q (.own t g 0 T.length false) = some (.eptr t g q 0) := fun Y => t_el (HG.out.ext Y) hql
    have hld : ∀ Y, ldZ (H ++ Y) none (.eptr t g q 0) = some (plZ w) := fun Y => (t_ld (HG.out.ext Y) (o := 0) hw).trans rfl
    have hzr : ∀ Y, rowsZ (H ++ Y) 1 (plZ w) = some (w.2.1.map eI) := fun Y => (HG.out.ext Y).rows hwm
    have hcl : (plZ w).isCell = true := plz_cell
    have hsm := HR.out.sm w hwm
    have hrg := HR.out.rng w hwm
    have hjl := (List.getElem?_eq_some_iff.1 hj).1
    have hel2 : (rem.eraseIdx j).length + 1 = rem.length := by rw [List.length_eraseIdx_of_lt hjl]; omega
    have hyo : yoT T (q : Nat) ↔ w.2.1.any (yngB T) = true := by
      unfold yoT
      rw [Int.toNat_natCast, hw]
      exact ⟨fun ⟨x, hx, h⟩ => by injection hx with hx; subst hx; exact h, fun h => ⟨w, rfl, h⟩⟩
    have hrem : ∀ r ∈ R, (r, ZV.agg []) ∈ rem → (r, ZV.agg []) ∈ rem.eraseIdx j ∨ r = (q : Int) := fun r _ hd => by
      rcases mem_erase (j := j) hd with hd | hd
      · exact .inl hd
      · right
        rw [hj] at hd
        injection hd with hd
        injection hd with hd _
        exact hd.symm
    have hap : ∀ Y, appZ (fun q => L q && !(q == m)) (H ++ (.grow g' 1 (out.map eI) :: Y)) 1 8 [[Z64 (q : Nat)]] (.own H.length g' 0 out.length false) = some (.own H.length (g' + 1) 0 (out.length + 1) false, H ++ (.grow (g' + 1) 1 ((out ++ [(q : Int)]).map eI) :: Y)) := fun Y => by
      rw [app_ownN (mv_at0 _ _) (by simp) (by have := HRL.out; unfold reach; simp; omega) (by simp [l0]; omega), mv_st0, List.map_append]; rfl
    have finY : w.2.1.any (yngB T) = true → ∀ Y, BrI H T R (rem.eraseIdx j) (.own H.length (g' + 1) 0 (out.length + 1) false) (H ++ (.grow (g' + 1) 1 ((out ++ [(q : Int)]).map eI) :: Y)) := fun hy Y => by
      refine ⟨⟨g' + 1, out ++ [(q : Int)], Y, by simp, rfl, fun r hr => ?_, fun r hr => ?_, by simp; omega⟩, fun e he => hsub e (List.mem_of_mem_eraseIdx he)⟩
      · rcases List.mem_append.1 hr with hr | hr
        · exact ho1 r hr
        · rw [List.mem_singleton.1 hr]; exact ⟨hnR, hyo.2 hy⟩
      · rcases ho2 r hr with hd | hd
        · rcases hrem r hr hd with hd | rfl
          · exact .inl hd
          · exact .inr fun _ => by simp
        · exact .inr fun hh => List.mem_append_left _ (hd hh)
    have finN : w.2.1.any (yngB T) = false → ∀ Y, BrI H T R (rem.eraseIdx j) (.own H.length g' 0 out.length false) (H ++ (.grow g' 1 (out.map eI) :: Y)) := fun hy Y => by
      refine ⟨⟨g', out, Y, rfl, rfl, ho1, fun r hr => ?_, by omega⟩, fun e he => hsub e (List.mem_of_mem_eraseIdx he)⟩
      rcases ho2 r hr with hd | hd
      · rcases hrem r hr hd with hd | rfl
        · exact .inl hd
        · exact .inr fun hh => by rw [hyo, hy] at hh; cases hh
      · exact .inr hd
    have FY := Lib.hid finY
    have FN := Lib.hid finN
    have HZR := Lib.hid hzr
    have HRG := Lib.hid hrg
    have HSM := Lib.hid hsm
    clear hj hsub hs hnR hn0 hn1 hwe hw hwm hzr hsm hrg hjl hel2 hyo hrem finY finN ho1 ho2 ho3
    simp only [zrngM]
    repeat' (first | (simp only [zmPack, zxPack, ne_eq, zfree, owners, Nat.reduceLT, List.contains_cons, List.contains_nil, Nat.reduceBEq, BEq.rfl, chunk, setAt, List.lookup_cons, List.lookup_nil, reduceCtorEq, Nat.reduceEqDiff, reduceIte, implies_true, forall_const, Nat.reduceMul, Nat.reduceSub, Nat.reduceAdd, Nat.reduceLeDiff, hb, hel, hld, hcl, *]) | (simp only [zgoO, zgoG, zO_nil, zthen_normal, zgoC]) | (with_reducible apply And.intro) | (with_reducible intro _))
    refine cfY_z (HZR.out _) (by have := HSM.out; omega) (HG.out.ext _) HRG.out ?_
    cases hy : w.2.1.any (yngB T) with
    | true =>
      have fin := FY.out hy
      clear hy
      repeat' (first | (simp only [zmPack, zxPack, ne_eq, zfree, owners, Nat.reduceLT, List.contains_cons, List.contains_nil, Nat.reduceBEq, BEq.rfl, chunk, setAt, List.lookup_cons, List.lookup_nil, reduceCtorEq, Nat.reduceEqDiff, reduceIte, implies_true, forall_const, Nat.reduceMul, Nat.reduceSub, Nat.reduceAdd, Nat.reduceLeDiff, hap, *]) | (simp only [zgoO, zgoG, zO_nil, zthen_normal, zgoC]) | (with_reducible apply And.intro) | (with_reducible intro _))
    | false =>
      have fin := FN.out hy
      clear hy
      repeat' (first | (simp only [zmPack, zxPack, ne_eq, zfree, owners, Nat.reduceLT, List.contains_cons, List.contains_nil, Nat.reduceBEq, BEq.rfl, chunk, setAt, List.lookup_cons, List.lookup_nil, reduceCtorEq, Nat.reduceEqDiff, reduceIte, implies_true, forall_const, Nat.reduceMul, Nat.reduceSub, Nat.reduceAdd, Nat.reduceLeDiff, *]) | (simp only [zgoO, zgoG, zO_nil, zthen_normal, zgoC]) | (with_reducible apply And.intro) | (with_reducible intro _))
  · rintro S' H' ⟨f0, ⟨g', out, X, f3, rfl, ho1, ho2, ho3⟩, hsub⟩ hs
    have hol : out.length ≤ 100 := by have := HRL.out; omega
    have hiff : ∀ r, r ∈ out ↔ r ∈ R ∧ yoT T r := fun r => ⟨ho1 r, fun ⟨h1, h2⟩ => by
      rcases ho2 r h1 with hd | hd
      · simp at hd
      · exact hd h2⟩
    simp only [zrngEnd]
    have fin : ∀ (o : List Int) Y, (∀ r, r ∈ o ↔ r ∈ R ∧ yoT T r) → o.length ≤ 100 → Fin H (.own H.length g' 0 o.length false) (H ++ (.grow g' 1 (o.map eI) :: Y)) K := fun o Y h1 h2 => by
      refine Fin.frz (k := 1) (rows := o.map eI) (mv_at0 _ _) (by simp) (mv_pure (fun r hr => by obtain ⟨x, _, rfl⟩ := List.mem_map.1 hr; rfl)) ?_
      rw [mv_st0, List.drop_zero, List.take_of_length_le (by simp)]
      exact Fin.trunc (Mods.ext H _) rfl (by rw [List.take_left]; exact HK.out o h1 h2)
    have hrw : rowsZ (H ++ (.grow g' 1 (out.map eI) :: X)) 1 (.own H.length g' 0 out.length false) = some (out.map eI) := rows_whole (mv_at0 _ _) (by simp)
    have FF := Lib.hid fin
    have HIF := Lib.hid hiff
    have HOL := Lib.hid hol
    have HRW := Lib.hid hrw
    clear fin hiff hol hrw ho1 ho2 ho3 hsub hs
    repeat' (first | (simp only [zmPack, zxPack, ne_eq, zfree, owners, Nat.reduceLT, List.contains_cons, List.contains_nil, Nat.reduceBEq, BEq.rfl, chunk, setAt, List.lookup_cons, List.lookup_nil, reduceCtorEq, Nat.reduceEqDiff, reduceIte, implies_true, forall_const, Nat.reduceMul, Nat.reduceSub, Nat.reduceAdd, Nat.reduceLeDiff, *]) | (simp only [zgoO, zgoG, zO_nil, zthen_normal, zgoC]) | (with_reducible apply And.intro) | (with_reducible intro _))
    by_cases he : out = []
    · subst he
      refine ZC.up (sort_z0 HRW.out ?_)
      have fn := FF.out [] X HIF.out HOL.out
      repeat' (first | (simp only [zmPack, zxPack, ne_eq, zfree, owners, Nat.reduceLT, List.contains_cons, List.contains_nil, Nat.reduceBEq, BEq.rfl, chunk, setAt, List.lookup_cons, List.lookup_nil, reduceCtorEq, Nat.reduceEqDiff, reduceIte, implies_true, forall_const, Nat.reduceMul, Nat.reduceSub, Nat.reduceAdd, Nat.reduceLeDiff, *]) | (simp only [zgoO, zgoG, zO_nil, zthen_normal, zgoC]) | (with_reducible apply And.intro) | (with_reducible intro _))
      all_goals exact fn
    · have hcp : copyZ L (H ++ (.grow g' 1 (out.map eI) :: X)) 1 ((srt out).map eI) (.own H.length g' 0 out.length false) = some (out.length, H ++ (.grow g' 1 ((srt out).map eI) :: X)) := by
        have hpos : 0 < out.length := List.length_pos_iff.2 he
        simp only [copyZ, mv_at0]
        rw [if_pos ⟨trivial, trivial, by simp, l0, hpos⟩]
        simp [srt_len, mv_st0]
        rw [List.take_of_length_le (by simp [srt_len]), List.drop_of_length_le (by simp), List.append_nil]
      refine ZC.up (sort_z HRW.out he (by have := HOL.out; omega) hcp ?_)
      have fn := FF.out (srt out) X (fun r => by rw [mem_srt]; exact HIF.out r) (by rw [srt_len]; exact HOL.out)
      rw [srt_len] at fn
      repeat' (first | (simp only [zmPack, zxPack, ne_eq, zfree, owners, Nat.reduceLT, List.contains_cons, List.contains_nil, Nat.reduceBEq, BEq.rfl, chunk, setAt, List.lookup_cons, List.lookup_nil, reduceCtorEq, Nat.reduceEqDiff, reduceIte, implies_true, forall_const, Nat.reduceMul, Nat.reduceSub, Nat.reduceAdd, Nat.reduceLeDiff, *]) | (simp only [zgoO, zgoG, zO_nil, zthen_normal, zgoC]) | (with_reducible apply And.intro) | (with_reducible intro _))
      all_goals exact fn
end Go.Proofs.Ytblgljahhhdlhaa
