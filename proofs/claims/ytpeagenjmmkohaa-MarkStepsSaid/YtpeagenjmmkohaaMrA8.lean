/-
  Mark in ZM: what it takes out of other packages: Rest, IndexFunc, Clone, DeleteFunc of whole numbers.
-/
import Derived.Lib.Hide
import Derived.Test.YtpeagenjmmkohaaMrA6
import Derived.Test.YtpeagenjmmkohaaMrA7
namespace Go.Proofs.Ytpeagenjmmkohaa
open Go Go.RowKit
set_option linter.unusedVariables false
set_option linter.unusedSimpArgs false
variable {tb : List (FuncId × Bool)} {L : Nat → Bool} {H : ZH} {K : ZV → ZH → Prop}
theorem mv_at0 {W : ZH} (A : ZB) (X : ZH) : (W ++ (A :: X))[W.length]? = some A := by rw [List.getElem?_append_right (Nat.le_refl _), Nat.sub_self]; rfl
theorem mv_at1 {W : ZH} (A B : ZB) (X : ZH) : (W ++ (A :: B :: X))[W.length + 1]? = some B := by rw [List.getElem?_append_right (by omega), Nat.add_sub_cancel_left]; rfl
theorem mv_st0 {W : ZH} (A C : ZB) (X : ZH) : (W ++ (A :: X)).set W.length C = W ++ (C :: X) := by rw [List.set_append_right _ _ (Nat.le_refl _), Nat.sub_self]; rfl
theorem mv_st1 {W : ZH} (A B C : ZB) (X : ZH) : (W ++ (A :: B :: X)).set (W.length + 1) C = W ++ (A :: C :: X) := by rw [List.set_append_right _ _ (by omega), Nat.add_sub_cancel_left]; rfl
theorem mv_atX {W X : ZH} (A B : ZB) : (W ++ (A :: (X ++ [B])))[W.length + (X.length + 1)]? = some B := by rw [List.getElem?_append_right (by omega), Nat.add_sub_cancel_left, List.getElem?_cons_succ, List.getElem?_append_right (Nat.le_refl _), Nat.sub_self]; rfl
theorem mv_stX {W X : ZH} (A B C : ZB) : (W ++ (A :: (X ++ [B]))).set (W.length + (X.length + 1)) C = W ++ (A :: (X ++ [C])) := by rw [List.set_append_right _ _ (by omega), Nat.add_sub_cancel_left, List.set_cons_succ, List.set_append_right _ _ (Nat.le_refl _), Nat.sub_self]; rfl
theorem mv_num0 {S : ZS} {d : Nat} : numZ S d none = some d := rfl
theorem mv_num1 {S : ZS} {d : Nat} {x : Opd} : numZ S d (some x) = (zev S x).bind natZ := by
  simp only [numZ]; cases zev S x <;> rfl
theorem rest_z {k m : Int} (hm : 0 < m ∧ m ≤ 1000000000) (hK : K (Z64 (k % m)) H) : ZC (constX tb) (cFunc Try.prog) 13 [Z64 k, Z64 m] L H K := by
  refine ZC.enter Gh.no (constX_none) f_mk_rest (by simp) ?_
  simp only [c_mk_rest]
  have hr : binV .rem (.int .i64 k) (.int .i64 m) = some (.int .i64 (k.tmod m)) := by simp [binV]; omega
  have fin := Fin.keep (H0 := H) hK
  have h1 : -m < k.tmod m := by
    have := Int.lt_tmod_of_pos k hm.1
    omega
  have h2 : k.tmod m < m := Int.tmod_lt_of_pos k hm.1
  have h3 : k.tmod m = k % m ∨ k.tmod m = k % m - m := by
    rw [Int.tmod_eq_emod]
    split
    · left; omega
    · right; omega
  have h4 := Int.emod_nonneg k (b := m) (by omega)
  have h5 := Int.emod_lt_of_pos k hm.1
  clear hK
  by_cases hn : k.tmod m < 0
  · have hw : IntKind.i64.wrap (k.tmod m + m) = k % m := by
      rw [IntWalk.i64_in _ (by omega)]; omega
    have F := Lib.hid fin
    clear h3 h4 h5 h1 h2 fin
    obtain ⟨t, ht⟩ : ∃ t, t = k.tmod m := ⟨_, rfl⟩
    rw [← ht] at hr hn hw
    have fin := F.out
    clear ht
    repeat' (first | (simp only [zmPack, zxPack, ne_eq, zfree, owners, Nat.reduceLT, List.contains_cons, List.contains_nil, Nat.reduceBEq, BEq.rfl, chunk, setAt, List.lookup_cons, List.lookup_nil, reduceCtorEq, Nat.reduceEqDiff, reduceIte, implies_true, forall_const, Nat.reduceMul, Nat.reduceSub, Nat.reduceAdd, Nat.reduceLeDiff, hr, hn, hw, *]) | (simp only [zgoO, zgoG, zO_nil, zthen_normal, zgoC]) | (with_reducible apply And.intro) | (with_reducible intro _))
  · have hw : k.tmod m = k % m := by omega
    have F := Lib.hid fin
    clear h3 h4 h5 h1 h2 fin
    rw [hw] at hr hn
    have fin := F.out
    clear hw
    repeat' (first | (simp only [zmPack, zxPack, ne_eq, zfree, owners, Nat.reduceLT, List.contains_cons, List.contains_nil, Nat.reduceBEq, BEq.rfl, chunk, setAt, List.lookup_cons, List.lookup_nil, reduceCtorEq, Nat.reduceEqDiff, reduceIte, implies_true, forall_const, Nat.reduceMul, Nat.reduceSub, Nat.reduceAdd, Nat.reduceLeDiff, hr, hn, *]) | (simp only [zgoO, zgoG, zO_nil, zthen_normal, zgoC]) | (with_reducible apply And.intro) | (with_reducible intro _))
/-- The first one of which it is true. -/
def idxP {α : Type} (p : α → Bool) (l : List α) : Int := match l.findIdx? p with
  | some i => (i : Int)
  | none => -1
def NoneYet {α : Type} (p : α → Bool) (l : List α) : Prop := ∀ x ∈ l, p x = false
theorem idxi_z {z : ZV} {l : List Int} {p : Int → Bool} {f : FuncId} {caps : List ZV} (hz : rowsZ H 1 z = some (l.map eI)) (hb : l.length ≤ 100000000000000) (hf : ∀ m ∈ l, ∀ K, K (ZBo (p m)) H → ZC (constX tb) (cFunc Try.prog) f (Z64 m :: caps) L H K) (hK : K (Z64 (idxP p l)) H) :
    ZC (constX tb) (cFunc Try.prog) 54 [z, .func f caps] L H K := by
  refine ZC.enter Gh.no constX_none f_mk_idxf (by simp) ?_
  simp only [c_mk_idxf]
  have hlen := rows_len hz
  rw [List.length_map] at hlen
  have HF := Lib.hid hf
  have HK := Lib.hid hK
  clear hf hK
  repeat' (first | (simp only [zmPack, zxPack, ne_eq, zfree, owners, Nat.reduceLT, List.contains_cons, List.contains_nil, Nat.reduceBEq, BEq.rfl, chunk, setAt, List.lookup_cons, List.lookup_nil, reduceCtorEq, Nat.reduceEqDiff, reduceIte, implies_true, forall_const, Nat.reduceMul, Nat.reduceSub, Nat.reduceAdd, Nat.reduceLeDiff, hlen, *]) | (simp only [zgoO, zgoG, zO_nil, zthen_normal, zgoC]) | (with_reducible apply And.intro) | (with_reducible intro _))
  refine zW_forK [(0, z), (1, .func f caps)] l.length (fun k s' h' => h' = H ∧ NoneYet p (l.take k)) (by omega) ⟨rfl, rfl, rfl, rfl, rfl, rfl⟩ rfl rfl (by repeat' (first | exact trivial | (refine ⟨rfl, ?_⟩) | (refine ⟨by simp only [zupd_at, Nat.reduceEqDiff, reduceIte]; assumption, ?_⟩))) rfl rfl (by decide) ⟨rfl, by simp [NoneYet]⟩ ?_ ?_
  · rintro k s' h' hk ⟨rfl, hno⟩ hi hl ⟨f0, f1, -⟩
    obtain ⟨q, hq, hld⟩ := rows_at hz hk
    have HN := Lib.hid hno
    clear hno
    repeat' (first | (simp only [zmPack, zxPack, ne_eq, zfree, owners, Nat.reduceLT, List.contains_cons, List.contains_nil, Nat.reduceBEq, BEq.rfl, chunk, setAt, List.lookup_cons, List.lookup_nil, reduceCtorEq, Nat.reduceEqDiff, reduceIte, implies_true, forall_const, Nat.reduceMul, Nat.reduceSub, Nat.reduceAdd, Nat.reduceLeDiff, hq, hld, *]) | (simp only [zgoO, zgoG, zO_nil, zthen_normal, zgoC]) | (with_reducible apply And.intro) | (with_reducible intro _))
    refine HF.out _ (List.getElem_mem hk) _ ?_
    cases hp : p l[k] with
    | true =>
      have hi : idxP p l = (k : Int) := by
        have : l.findIdx? p = some k := by
          rw [List.findIdx?_eq_some_iff_getElem]
          exact ⟨hk, hp, fun j hj => by simp only [Bool.not_eq_true]; exact HN.out _ (by rw [List.mem_take_iff_getElem]; exact ⟨j, by omega, rfl⟩)⟩
        simp only [idxP, this]
      have hK := HK.out
      rw [hi] at hK
      have fin := Fin.keep (H0 := h') hK
      clear hp hi hK hld
      repeat' (first | (simp only [zmPack, zxPack, ne_eq, zfree, owners, Nat.reduceLT, List.contains_cons, List.contains_nil, Nat.reduceBEq, BEq.rfl, chunk, setAt, List.lookup_cons, List.lookup_nil, reduceCtorEq, Nat.reduceEqDiff, reduceIte, implies_true, forall_const, Nat.reduceMul, Nat.reduceSub, Nat.reduceAdd, Nat.reduceLeDiff, *]) | (simp only [zgoO, zgoG, zO_nil, zthen_normal, zgoC]) | (with_reducible apply And.intro) | (with_reducible intro _))
    | false =>
      have fin : NoneYet p (l.take (k + 1)) := fun x hx => by
        rw [List.take_succ_eq_append_getElem hk] at hx
        rcases List.mem_append.1 hx with hx | hx
        · exact HN.out x hx
        · rw [List.mem_singleton.1 hx]; exact hp
      clear hp hld
      repeat' (first | (simp only [zmPack, zxPack, ne_eq, zfree, owners, Nat.reduceLT, List.contains_cons, List.contains_nil, Nat.reduceBEq, BEq.rfl, chunk, setAt, List.lookup_cons, List.lookup_nil, reduceCtorEq, Nat.reduceEqDiff, reduceIte, implies_true, forall_const, Nat.reduceMul, Nat.reduceSub, Nat.reduceAdd, Nat.reduceLeDiff, *]) | (simp only [zgoO, zgoG, zO_nil, zthen_normal, zgoC]) | (with_reducible apply And.intro) | (with_reducible intro _))
  · rintro s' h' ⟨rfl, hno⟩ ⟨f0, f1, -⟩
    rw [List.take_of_length_le (Nat.le_refl _)] at hno
    have hi : idxP p l = -1 := by
      have : l.findIdx? p = none := List.findIdx?_eq_none_iff.2 fun x hx => by rw [hno x hx]
      simp only [idxP, this]
    have hK := HK.out
    rw [hi] at hK
    have fin := Fin.keep (H0 := h') hK
    clear hno hi hK
    repeat' (first | (simp only [zmPack, zxPack, ne_eq, zfree, owners, Nat.reduceLT, List.contains_cons, List.contains_nil, Nat.reduceBEq, BEq.rfl, chunk, setAt, List.lookup_cons, List.lookup_nil, reduceCtorEq, Nat.reduceEqDiff, reduceIte, implies_true, forall_const, Nat.reduceMul, Nat.reduceSub, Nat.reduceAdd, Nat.reduceLeDiff, *]) | (simp only [zgoO, zgoG, zO_nil, zthen_normal, zgoC]) | (with_reducible apply And.intro) | (with_reducible intro _))
/-- Those that are none. -/
def keepN (l : List Int) : List Int := l.filter fun x => !decide (x < 0)
theorem grapha_z {x : Int} (hK : K (ZBo (decide (x < 0))) H) :
    ZC (constX tb) (cFunc Try.prog) 47 [Z64 x] L H K := by
  refine ZC.enterL Gh.no constX_none f_mk_grapha (by simp) fun hL => ?_
  simp only [c_mk_grapha]
  have fin := Fin.keep (H0 := H) hK
  clear hK
  repeat' (first | (simp only [zmPack, zxPack, ne_eq, zfree, owners, Nat.reduceLT, List.contains_cons, List.contains_nil, Nat.reduceBEq, BEq.rfl, chunk, setAt, List.lookup_cons, List.lookup_nil, reduceCtorEq, Nat.reduceEqDiff, reduceIte, implies_true, forall_const, Nat.reduceMul, Nat.reduceSub, Nat.reduceAdd, Nat.reduceLeDiff, *]) | (simp only [zgoO, zgoG, zO_nil, zthen_normal, zgoC]) | (with_reducible apply And.intro) | (with_reducible intro _))
theorem mv_pure {R : List (List ZV)} (h : ∀ r ∈ R, r.all pureZ = true) : R.flatten.all pureZ = true := by
  rw [List.all_eq_true]
  intro z hz
  obtain ⟨r, hr, h1⟩ := List.mem_flatten.1 hz
  exact List.all_eq_true.1 (h r hr) z h1
theorem mv_refs {n : Nat} {R : List (List ZV)} (h : ∀ r ∈ R, r.all pureZ = true) : R.flatten.all (refs1 n) = true := by
  have h := mv_pure h
  rw [List.all_eq_true] at h ⊢
  intro z hz
  have := h z hz
  cases z <;> simp_all [pureZ, refs1]
/-- How far the loop is. -/
structure DInv (l : List Int) (m j i : Nat) (R : List (List ZV)) : Prop where
  hj : j ≤ l.length
  hm : m = l.length - j
  hi : i = (keepN (l.take j)).length
  hij : i < j
  hR : R.length = l.length
  ht : R.take i = (keepN (l.take j)).map eI
  hd : ∀ t, i ≤ t → R[t]? = (l.map eI)[t]?
theorem keepN_next {l : List Int} {j : Nat} (hj : j < l.length) : keepN (l.take (j + 1)) = keepN (l.take j) ++ (if l[j] < 0 then [] else [l[j]]) := by
  rw [List.take_succ_eq_append_getElem hj]
  unfold keepN
  rw [List.filter_append]
  congr 1
  by_cases h : l[j] < 0 <;> simp [h]
theorem DInv.skip {l : List Int} {m j i : Nat} {R : List (List ZV)} (h : DInv l m j i R) (hj : j < l.length) (he : l[j] < 0) : DInv l (m - 1) (j + 1) i R := by
  have hn := keepN_next hj
  rw [if_pos he, List.append_nil] at hn
  exact ⟨hj, by have := h.hm; omega, by rw [hn]; exact h.hi, by have := h.hij; omega, h.hR, by rw [hn]; exact h.ht, h.hd⟩
theorem DInv.keep {l : List Int} {m j i : Nat} {R : List (List ZV)} (h : DInv l m j i R) (hj : j < l.length) (he : ¬ l[j] < 0) : DInv l (m - 1) (j + 1) (i + 1) (R.set i (eI l[j])) := by
  have hn := keepN_next hj
  rw [if_neg he] at hn
  have hiR : i < R.length := by have := h.hR; have := h.hij; omega
  refine ⟨hj, by have := h.hm; omega, by rw [hn, List.length_append, ← h.hi]; rfl, by have := h.hij; omega, by rw [List.length_set]; exact h.hR, ?_, fun t ht => ?_⟩
  · rw [List.take_succ_eq_append_getElem (by rw [List.length_set]; exact hiR), List.take_set_of_le (Nat.le_refl _), h.ht, hn, List.map_append, List.getElem_set_self]; rfl
  · rw [List.getElem?_set, if_neg (by omega)]; exact h.hd t (by omega)
theorem DInv.start {l : List Int} {i : Nat} (h : l.findIdx? (fun m => decide (m < 0)) = some i) : DInv l (l.length - (i + 1)) (i + 1) i (l.map eI) := by
  obtain ⟨h1, h2, h3⟩ := List.findIdx?_eq_some_iff_getElem.1 h
  have hn := keepN_next h1
  rw [if_pos (by simpa using h2), List.append_nil] at hn
  have ht : keepN (l.take i) = l.take i := by
    unfold keepN
    rw [List.filter_eq_self]
    intro x hx
    obtain ⟨j, hj, rfl⟩ := List.mem_take_iff_getElem.1 hx
    have := h3 j (by omega)
    simpa using this
  refine ⟨h1, rfl, by rw [hn, ht, List.length_take]; omega, by omega, by simp, ?_, fun _ _ => rfl⟩
  rw [hn, ht, List.map_take]
set_option maxHeartbeats 4000000 in
theorem delfi_z {l : List Int} (hb : l.length ≤ 60) (l0 : L H.length = true) (hK : ∀ R : List (List ZV), R.take (keepN l).length = (keepN l).map eI → (keepN l).length ≤ R.length → (∀ r ∈ R, r.all pureZ = true) → K (.own H.length 0 0 (keepN l).length false) (H ++ [.grow 0 1 R])) :
    ZC (constX tb) (cFunc Try.prog) 45 [.own H.length 0 0 l.length false, .func 47 []] L (H ++ [.grow 0 1 (l.map eI)]) K := by
  refine ZC.enterL Gh.no constX_none f_mk_delf (by simp) fun hL => ?_
  simp only [c_mk_delf]
  have hL' : ∀ k, L (H.length + (k + 1)) = true := fun k => by
    have := hL k
    rw [List.length_append, List.length_singleton, Nat.add_assoc, Nat.add_comm 1 k] at this
    exact this
  have HK := Lib.hid hK
  have HB := Lib.hid hb
  clear hK hb hL
  repeat' (first | (simp only [zmPack, zxPack, ne_eq, zfree, owners, Nat.reduceLT, List.contains_cons, List.contains_nil, Nat.reduceBEq, BEq.rfl, chunk, setAt, List.lookup_cons, List.lookup_nil, reduceCtorEq, Nat.reduceEqDiff, reduceIte, implies_true, forall_const, Nat.reduceMul, Nat.reduceSub, Nat.reduceAdd, Nat.reduceLeDiff, *]) | (simp only [zgoO, zgoG, zO_nil, zthen_normal, zgoC]) | (with_reducible apply And.intro) | (with_reducible intro _))
  refine idxi_z (l := l) (p := fun m => decide (m < 0)) (rows_whole (mv_at0 _ _) (by simp)) (by have := HB.out; omega) (fun m _ K2 k2 => grapha_z k2) ?_
  cases hf : l.findIdx? fun m => decide (m < 0) with
  | none =>
    have hi : idxP (fun m : Int => decide (m < 0)) l = -1 := by simp only [idxP, hf]
    have hl : keepN l = l := by
      unfold keepN
      rw [List.filter_eq_self]
      intro x hx
      have := List.findIdx?_eq_none_iff.1 hf x hx
      simpa using this
    have hk := HK.out (l.map eI) (by rw [hl]; exact take_map_all) (by rw [hl]; simp) (fun r hr => by obtain ⟨x, _, rfl⟩ := List.mem_map.1 hr; rfl)
    rw [hl] at hk
    have fin := Fin.keep (H0 := H ++ [.grow 0 1 (l.map eI)]) hk
    clear hk hl hf
    rw [hi]
    clear hi
    repeat' (first | (simp only [zmPack, zxPack, ne_eq, zfree, owners, Nat.reduceLT, List.contains_cons, List.contains_nil, Nat.reduceBEq, BEq.rfl, chunk, setAt, List.lookup_cons, List.lookup_nil, reduceCtorEq, Nat.reduceEqDiff, reduceIte, implies_true, forall_const, Nat.reduceMul, Nat.reduceSub, Nat.reduceAdd, Nat.reduceLeDiff, *]) | (simp only [zgoO, zgoG, zO_nil, zthen_normal, zgoC]) | (with_reducible apply And.intro) | (with_reducible intro _))
  | some i0 =>
    have hi : idxP (fun m : Int => decide (m < 0)) l = (i0 : Int) := by simp only [idxP, hf]
    have hD := DInv.start hf
    rw [hi]
    have hne : ¬ ((i0 : Int) = -1) := by omega
    have hi0 := hD.hj
    have e1 : IntKind.i64.wrap ((i0 : Int) + 1) = ((i0 + 1 : Nat) : Int) := by have := HB.out; rw [IntWalk.i64_in _ (by omega)]; omega
    clear hf hi
    repeat' (first | (simp only [zmPack, zxPack, ne_eq, zfree, owners, Nat.reduceLT, List.contains_cons, List.contains_nil, Nat.reduceBEq, BEq.rfl, chunk, setAt, List.lookup_cons, List.lookup_nil, reduceCtorEq, Nat.reduceEqDiff, reduceIte, implies_true, forall_const, Nat.reduceMul, Nat.reduceSub, Nat.reduceAdd, Nat.reduceLeDiff, e1, *]) | (simp only [zgoO, zgoG, zO_nil, zthen_normal, zgoC]) | (with_reducible apply And.intro) | (with_reducible intro _))
    refine zW_whileK [(0, .own H.length 0 0 l.length false), (1, .func 47 [])] (l.length - (i0 + 1)) (fun m s' h' => ∃ j i R X, s' 6 = Z64 (j : Nat) ∧ s' 5 = Z64 (i : Nat) ∧ h' = H ++ (.grow 0 1 R :: X) ∧ DInv l m j i R) (by repeat' (first | exact trivial | (refine ⟨rfl, ?_⟩) | (refine ⟨by simp only [zupd_at, Nat.reduceEqDiff, reduceIte]; assumption, ?_⟩))) rfl ⟨i0 + 1, i0, _, [], rfl, rfl, rfl, hD⟩ ?_
    clear hD hne hi0 e1
    rintro m s' h' ⟨j, i, R, X, f6, f5, rfl, hD⟩ ⟨f0, f1, -⟩
    have hjl := hD.hj
    have hij := hD.hij
    have hR := hD.hR
    have hle : l.length ≤ R.length := Nat.le_of_eq hR.symm
    have HD := Lib.hid hD
    have HR := Lib.hid hR
    clear hD hR
    by_cases hj : j < l.length
    · have g1 : (j : Int) < (l.length : Int) := by omega
      have hx : R[j]? = some (eI l[j]) := by rw [HD.out.hd j (by omega)]; simp [hj]
      have hy : R[i]? = some (eI (l[i]'(by omega))) := by rw [HD.out.hd i (by omega)]; simp [show i < l.length by omega]
      have hil : i < l.length := by omega
      have hiR : i < R.length := by omega
      have hjR : j < R.length := by omega
      have hm : m - 1 < m := by have := HD.out.hm; omega
      have wj : IntKind.i64.wrap ((j : Int) + 1) = ((j + 1 : Nat) : Int) := by have := HB.out; rw [IntWalk.i64_in _ (by omega)]; omega
      have wi : IntKind.i64.wrap ((i : Int) + 1) = ((i + 1 : Nat) : Int) := by have := HB.out; rw [IntWalk.i64_in _ (by omega)]; omega
      have sk := fun he => HD.out.skip hj he
      have kp := fun he => HD.out.keep hj he
      obtain ⟨q, hq⟩ : ∃ q, q = l[j] := ⟨_, rfl⟩
      obtain ⟨q', hq'⟩ : ∃ q', q' = l[i]'(by omega) := ⟨_, rfl⟩
      rw [← hq] at hx sk kp
      rw [← hq'] at hy
      have SK := Lib.hid sk
      have KP := Lib.hid kp
      have g0 : ∀ A Y, (H ++ (A :: Y))[H.length]? = some A := fun A Y => mv_at0 A Y
      have gs : ∀ A C Y, (H ++ (A :: Y)).set H.length C = H ++ (C :: Y) := fun A C Y => mv_st0 A C Y
      have a0 : ∀ A C : ZB, (H ++ (A :: (X ++ [C])))[H.length + (X.length + 1)]? = some C := fun A C => mv_atX A C
      have s0 : ∀ A C D : ZB, (H ++ (A :: (X ++ [C]))).set (H.length + (X.length + 1)) D = H ++ (A :: (X ++ [D])) := fun A C D => mv_stX A C D
      have lx : L (H.length + (X.length + 1)) = true := hL' _
      clear hq hq' sk kp hjl hij
      have hj' : j < l.length := hj
      repeat' (first | (simp only [zmPack, zxPack, ne_eq, zfree, owners, Nat.reduceLT, List.contains_cons, List.contains_nil, Nat.reduceBEq, BEq.rfl, chunk, setAt, List.lookup_cons, List.lookup_nil, reduceCtorEq, Nat.reduceEqDiff, reduceIte, implies_true, forall_const, Nat.reduceMul, Nat.reduceSub, Nat.reduceAdd, Nat.reduceLeDiff, hx, hy, g0, gs, a0, s0, lx, wj, wi, *]) | (simp only [zgoO, zgoG, zO_nil, zthen_normal, zgoC]) | (with_reducible apply And.intro) | (with_reducible intro _))
      refine grapha_z (x := q) ?_
      by_cases he : q < 0
      · have hd : decide (q < 0) = true := decide_eq_true he
        rw [hd]
        have fin := SK.out he
        clear hd he
        repeat' (first | (simp only [zmPack, zxPack, ne_eq, zfree, owners, Nat.reduceLT, List.contains_cons, List.contains_nil, Nat.reduceBEq, BEq.rfl, chunk, setAt, List.lookup_cons, List.lookup_nil, reduceCtorEq, Nat.reduceEqDiff, reduceIte, implies_true, forall_const, Nat.reduceMul, Nat.reduceSub, Nat.reduceAdd, Nat.reduceLeDiff, hx, hy, g0, gs, a0, s0, lx, wj, wi, *]) | (simp only [zgoO, zgoG, zO_nil, zthen_normal, zgoC]) | (with_reducible apply And.intro) | (with_reducible intro _))
        all_goals exact ⟨_, hm, _, rfl, _, rfl, _, ⟨_, rfl⟩, fin⟩
      · have hd : decide (q < 0) = false := decide_eq_false he
        rw [hd]
        have fin := KP.out he
        clear hd he
        repeat' (first | (simp only [zmPack, zxPack, ne_eq, zfree, owners, Nat.reduceLT, List.contains_cons, List.contains_nil, Nat.reduceBEq, BEq.rfl, chunk, setAt, List.lookup_cons, List.lookup_nil, reduceCtorEq, Nat.reduceEqDiff, reduceIte, implies_true, forall_const, Nat.reduceMul, Nat.reduceSub, Nat.reduceAdd, Nat.reduceLeDiff, hx, hy, g0, gs, a0, s0, lx, wj, wi, *]) | (simp only [zgoO, zgoG, zO_nil, zthen_normal, zgoC]) | (with_reducible apply And.intro) | (with_reducible intro _))
        all_goals exact ⟨_, hm, _, rfl, _, rfl, _, ⟨_, rfl⟩, fin⟩
    · have hjn : j = l.length := by omega
      have g1 : ((j : Int) < (l.length : Int)) = False := by simp; omega
      have hin : i < l.length := by omega
      have hlose : keepN (l.take j) = keepN l := by rw [hjn, List.take_length]
      have hil : i = (keepN l).length := by rw [HD.out.hi, hlose]
      have hRt := HD.out.ht
      rw [hlose] at hRt
      obtain ⟨R2, hR2⟩ : ∃ R2, R2 = R.take i ++ (List.replicate (l.length - i) [Z64 (0 : Int)]).take (min (List.replicate (l.length - i) [Z64 (0 : Int)]).length (l.length - i)) ++ R.drop (i + min (List.replicate (l.length - i) [Z64 (0 : Int)]).length (l.length - i)) := ⟨_, rfl⟩
      have hiR : i ≤ R.length := by omega
      have c1 : ∀ Y, cutZ (H ++ (.grow 0 1 R :: Y)) 1 i l.length l.length false (.own H.length 0 0 l.length false) = some (.own H.length 0 i (l.length - i) false) := fun Y => by
        simp only [cutZ, mv_at0]
        rw [if_pos ⟨trivial, trivial, by omega, Nat.le_refl _, Nat.le_refl _, by omega⟩]; simp
      have c2 : ∀ Y, cutZ (H ++ (.grow 0 1 R2 :: Y)) 1 0 i l.length false (.own H.length 0 0 l.length false) = some (.own H.length 0 0 i false) := fun Y => by
        simp only [cutZ, mv_at0]
        rw [if_pos ⟨trivial, trivial, Nat.zero_le _, by omega, Nat.le_refl _, by rw [hR2]; simp; omega⟩]; simp
      have c3 : ∀ Y, copyZ L (H ++ (.grow 0 1 R :: Y)) 1 (List.replicate (l.length - i) [Z64 (0 : Int)]) (.own H.length 0 i (l.length - i) false) = some (l.length - i, H ++ (.grow 0 1 R2 :: Y)) := fun Y => by
        simp only [copyZ, mv_at0]
        rw [if_pos ⟨trivial, trivial, by omega, l0, by omega⟩, hR2, mv_st0]; simp
      have fin : Fin (H ++ [.grow 0 1 (l.map eI)]) (.own H.length 0 0 i false) (H ++ (.grow 0 1 R2 :: X)) K := by
        have hp : ∀ r ∈ R2, r.all pureZ = true := fun r hr => by
          rw [hR2] at hr
          simp only [List.mem_append] at hr
          rcases hr with (hr | hr) | hr
          · rw [hRt] at hr; obtain ⟨x, _, rfl⟩ := List.mem_map.1 hr; rfl
          · rw [(List.mem_replicate.1 (List.mem_of_mem_take hr)).2]; rfl
          · obtain ⟨t, ht, rfl⟩ := List.getElem_of_mem hr
            have ht2 : R[i + min (List.replicate (l.length - i) [Z64 (0 : Int)]).length (l.length - i) + t]? = some ((R.drop (i + min (List.replicate (l.length - i) [Z64 (0 : Int)]).length (l.length - i)))[t]) := by
              rw [← List.getElem?_drop, List.getElem?_eq_getElem ht]
            rw [HD.out.hd _ (by omega)] at ht2
            obtain ⟨x, _, h⟩ := List.mem_map.1 (List.mem_of_getElem? ht2)
            rw [← h]; rfl
        have hh : H ++ (.grow 0 1 R2 :: X) = ((H ++ [ZB.grow 0 1 (l.map eI)]) ++ X).set H.length (.grow 0 1 R2) := by rw [List.append_assoc, List.singleton_append, mv_st0]
        refine Fin.trunc (by rw [hh]; exact Mods.set (Mods.ext _ _) (mv_refs hp)) (by simp [refs, refs1]) ?_
        have : (H ++ (.grow 0 1 R2 :: X)).take (H ++ [ZB.grow 0 1 (l.map eI)]).length = H ++ [.grow 0 1 R2] := by
          rw [List.length_append, List.length_singleton, show H ++ (ZB.grow 0 1 R2 :: X) = (H ++ [.grow 0 1 R2]) ++ X by simp, List.take_left' (by simp)]
        rw [this, hil]
        refine HK.out R2 ?_ (by rw [hR2, ← hil]; simp; omega) hp
        rw [hR2, ← hil, List.append_assoc, List.take_left' (by simp; omega), hRt]
      clear hR2 hRt hlose hil hjl hij hjn
      have g0 : ∀ A Y, (H ++ (A :: Y))[H.length]? = some A := fun A Y => mv_at0 A Y
      repeat' (first | (simp only [zmPack, zxPack, ne_eq, zfree, owners, Nat.reduceLT, List.contains_cons, List.contains_nil, Nat.reduceBEq, BEq.rfl, chunk, setAt, List.lookup_cons, List.lookup_nil, reduceCtorEq, Nat.reduceEqDiff, reduceIte, implies_true, forall_const, Nat.reduceMul, Nat.reduceSub, Nat.reduceAdd, Nat.reduceLeDiff, c1, c2, c3, g0, mv_num0, mv_num1, Option.bind_some, Option.isSome_none, z_clear, zh_clear, zu_clear, zf_clear, zp0_clear, zp1_clear, zr_clear, List.length_replicate, *]) | (simp only [zgoO, zgoG, zO_nil, zthen_normal, zgoC]) | (with_reducible apply And.intro) | (with_reducible intro _))
end Go.Proofs.Ytpeagenjmmkohaa

namespace Go.Proofs.Ytpeagenjmmkohaa
open Go Go.RowKit
set_option linter.unusedVariables false
set_option linter.unusedSimpArgs false
section
variable {tb : List (FuncId × Bool)} {fl : Nat → Bool} {h : Heap} {K : AV → Heap → Prop}
abbrev U64 (n : Int) : AV := .val (.int .u64 n)
theorem and_small (n : Nat) (hn : n ≤ 1000) : binV .and (.int .u64 (n : Nat)) (.int .u64 4294967295) = some (.int .u64 (n : Nat)) := by
  have h : ∀ n : _root_.Fin 1001, (match binV .and (.int .u64 ((n.val : Nat) : Int)) (.int .u64 4294967295) with | some (.int .u64 z) => z == ((n.val : Nat) : Int) | _ => false) = true := by decide +kernel
  have := h ⟨n, by omega⟩
  revert this
  simp only
  generalize binV .and (.int .u64 ((n : Nat) : Int)) (.int .u64 4294967295) = r
  intro this
  split at this
  · simp at this; rw [this]
  · cases this
theorem shr_small (n : Nat) (hn : n ≤ 1000) : binV .shr (.int .u64 (n : Nat)) (.int .u64 32) = some (.int .u64 0) := by
  have h : ∀ n : _root_.Fin 1001, (match binV .shr (.int .u64 ((n.val : Nat) : Int)) (.int .u64 32) with | some (.int .u64 z) => z == 0 | _ => false) = true := by decide +kernel
  have := h ⟨n, by omega⟩
  revert this
  generalize binV .shr (.int .u64 ((n : Nat) : Int)) (.int .u64 32) = r
  intro this
  split at this
  · simp at this; rw [this]
  · cases this
theorem mul_u {a b : Int} : binV .mul (.int .u64 a) (.int .u64 b) = some (.int .u64 (IntKind.u64.wrap (a * b))) := by simp [binV]
theorem add_u {a b : Int} : binV .add (.int .u64 a) (.int .u64 b) = some (.int .u64 (IntKind.u64.wrap (a + b))) := by simp [binV]
theorem gtr_u {a b : Int} : binV .gtr (.int .u64 a) (.int .u64 b) = some (.bool (decide (b < a))) := by simp [binV]
theorem mul64_am {n : Nat} (hn : n ≤ 1000) (hK : K (.tuple [U64 0, U64 (n : Nat)]) h) : AC (constX tb) (cFunc Try.prog) 78 [U64 1, U64 (n : Nat)] fl h K := by
  refine AC.enter rfl f_mk_mul64 (by simp) ?_
  simp only [c_mk_mul64]
  have a1 : binV .and (.int .u64 1) (.int .u64 4294967295) = some (.int .u64 1) := and_small 1 (by omega)
  have s1 : binV .shr (.int .u64 1) (.int .u64 32) = some (.int .u64 0) := shr_small 1 (by omega)
  have a0 : binV .and (.int .u64 0) (.int .u64 4294967295) = some (.int .u64 0) := and_small 0 (by omega)
  have s0 : binV .shr (.int .u64 0) (.int .u64 32) = some (.int .u64 0) := shr_small 0 (by omega)
  have an := and_small n hn
  have sn := shr_small n hn
  have w0 : IntKind.u64.wrap 0 = 0 := by rfl
  have wn : IntKind.u64.wrap (n : Int) = (n : Int) := IntWalk.u64_in _ (by omega)
  clear hn
  repeat' (first | (simp only [AW_next, AW_ops, AW_cond, AW_block, AW_exit, AW_ret, AW_skip, AW_scope, AO_nil, AO_next, AO_nextW, wantB_bool, wantK_some, then_normal, then_exit, then_ret, inBlk_normal, inBlk_exit, inBlk_ret, A1_mv, A1_pick, A1_box, A1_zero, A1_build, A1_lits, A1_load, shallow_none, A1_store, A1_nilCheckI, nilOk_ptr, nilOk_func, A1_bin, A1_eqNil, A1_eqBool, A1_eqAgg, A1_un, A1_conv, A1_field, A1_fieldAddr, A1_indexAddr, A1_indexArr, A1_index, A1_slice, A1_mkSlice, A1_extract, A1_func, A1_call, A1_append, A1_len, A1_minmax, put_some, put_none, upd_at, ev_tmp, ev_av, bin_lss, bin_leq, bin_gtr, bin_geq, bin_eql, bin_neq, bin_add, bin_sub, bin_mul, un_not, natOf_nat, Bool.not_eq_false', Prod.mk.injEq, and_assoc, decide_false, decide_true, Bool.not_false, Bool.not_true, Bool.true_eq_false, Bool.false_eq_true, exists_false, Bool.not_eq_false, Bool.not_not, AV.val.injEq, AV.ptr.injEq, AV.slice.injEq, AV.func.injEq, AV.tuple.injEq, AV.agg.injEq, Value.bool.injEq, Value.int.injEq, Option.some.injEq, exists_eq_left', exists_eq_left, exists_and_left, exists_and_right, and_true, true_and, decide_eq_true_eq, decide_eq_false_iff_not, if_true, if_false, Bool.not_eq_true', beq_true, beq_false, ne_eq, not_true_eq_false, not_false_eq_true, reduceCtorEq, List.getD_cons_zero, List.getD_cons_succ, List.map_cons, List.map_nil, List.append_nil, Nat.reduceEqDiff, reduceIte, ite_true, ite_false, or_true, true_or, or_false, false_or, resA, resultsA, true_imp_iff, false_imp_iff, implies_true, imp_false, and_self, imp_self, and_false, false_and, forall_const, cell_val, cell_ptr, cell_slice, cell_func, cell_hole, cells_agg, cells_val, cells_ptr, cells_slice, cells_func, cells_hole, cells_cell, List.length_cons, List.length_nil, List.all_cons, List.all_nil, Bool.and_self, ldA, List.mapM_cons, List.mapM_nil, Option.bind_eq_bind, Option.bind_some, Option.pure_def, Option.map_none, Option.map_some, List.set_cons_zero, List.set_cons_succ, Nat.lt_add_one, List.append_assoc, List.cons_append, List.nil_append, List.append_nil, List.length_append, rd1_n0, rd1_nK, rd1_c0, rd1_cS, rd_n0, rd_nK, rd_c0, rd_cS, fillA, List.take_zero, List.take_succ_cons, List.take_nil, List.drop_zero, List.drop_succ_cons, List.drop_nil, List.getElem?_cons_zero, List.getElem?_cons_succ, Nat.reduceAdd, Nat.reduceLeDiff, Nat.add_eq_zero_iff, and_self, Nat.zero_add, Nat.add_zero, Nat.mul_one, a1, s1, a0, s0, an, sn, mul_u, add_u, Int.one_mul, Int.zero_mul, Int.mul_zero, Int.add_zero, Int.zero_add, w0, wn, *]) | (simp only [goO, AO_nil, then_normal, goC]) | (with_reducible apply And.intro) | (with_reducible intro _))
theorem mul_am {n : Nat} (hn : n ≤ 1000) (hK : K (.tuple [U64 0, U64 (n : Nat)]) h) : AC (constX tb) (cFunc Try.prog) 60 [U64 1, U64 (n : Nat)] fl h K := by
  refine AC.enter rfl f_mk_mul (by simp) ?_
  simp only [c_mk_mul]
  have HN := Lib.hid hn
  clear hn
  repeat' (first | (simp only [AW_next, AW_ops, AW_cond, AW_block, AW_exit, AW_ret, AW_skip, AW_scope, AO_nil, AO_next, AO_nextW, wantB_bool, wantK_some, then_normal, then_exit, then_ret, inBlk_normal, inBlk_exit, inBlk_ret, A1_mv, A1_pick, A1_box, A1_zero, A1_build, A1_lits, A1_load, shallow_none, A1_store, A1_nilCheckI, nilOk_ptr, nilOk_func, A1_bin, A1_eqNil, A1_eqBool, A1_eqAgg, A1_un, A1_conv, A1_field, A1_fieldAddr, A1_indexAddr, A1_indexArr, A1_index, A1_slice, A1_mkSlice, A1_extract, A1_func, A1_call, A1_append, A1_len, A1_minmax, put_some, put_none, upd_at, ev_tmp, ev_av, bin_lss, bin_leq, bin_gtr, bin_geq, bin_eql, bin_neq, bin_add, bin_sub, bin_mul, un_not, natOf_nat, Bool.not_eq_false', Prod.mk.injEq, and_assoc, decide_false, decide_true, Bool.not_false, Bool.not_true, Bool.true_eq_false, Bool.false_eq_true, exists_false, Bool.not_eq_false, Bool.not_not, AV.val.injEq, AV.ptr.injEq, AV.slice.injEq, AV.func.injEq, AV.tuple.injEq, AV.agg.injEq, Value.bool.injEq, Value.int.injEq, Option.some.injEq, exists_eq_left', exists_eq_left, exists_and_left, exists_and_right, and_true, true_and, decide_eq_true_eq, decide_eq_false_iff_not, if_true, if_false, Bool.not_eq_true', beq_true, beq_false, ne_eq, not_true_eq_false, not_false_eq_true, reduceCtorEq, List.getD_cons_zero, List.getD_cons_succ, List.map_cons, List.map_nil, List.append_nil, Nat.reduceEqDiff, reduceIte, ite_true, ite_false, or_true, true_or, or_false, false_or, resA, resultsA, true_imp_iff, false_imp_iff, implies_true, imp_false, and_self, imp_self, and_false, false_and, forall_const, cell_val, cell_ptr, cell_slice, cell_func, cell_hole, cells_agg, cells_val, cells_ptr, cells_slice, cells_func, cells_hole, cells_cell, List.length_cons, List.length_nil, List.all_cons, List.all_nil, Bool.and_self, ldA, List.mapM_cons, List.mapM_nil, Option.bind_eq_bind, Option.bind_some, Option.pure_def, Option.map_none, Option.map_some, List.set_cons_zero, List.set_cons_succ, Nat.lt_add_one, List.append_assoc, List.cons_append, List.nil_append, List.append_nil, List.length_append, rd1_n0, rd1_nK, rd1_c0, rd1_cS, rd_n0, rd_nK, rd_c0, rd_cS, fillA, List.take_zero, List.take_succ_cons, List.take_nil, List.drop_zero, List.drop_succ_cons, List.drop_nil, List.getElem?_cons_zero, List.getElem?_cons_succ, Nat.reduceAdd, Nat.reduceLeDiff, Nat.add_eq_zero_iff, and_self, Nat.zero_add, Nat.add_zero, Nat.mul_one, *]) | (simp only [goO, AO_nil, then_normal, goC]) | (with_reducible apply And.intro) | (with_reducible intro _))
  refine mul64_am HN.out ?_
  repeat' (first | (simp only [AW_next, AW_ops, AW_cond, AW_block, AW_exit, AW_ret, AW_skip, AW_scope, AO_nil, AO_next, AO_nextW, wantB_bool, wantK_some, then_normal, then_exit, then_ret, inBlk_normal, inBlk_exit, inBlk_ret, A1_mv, A1_pick, A1_box, A1_zero, A1_build, A1_lits, A1_load, shallow_none, A1_store, A1_nilCheckI, nilOk_ptr, nilOk_func, A1_bin, A1_eqNil, A1_eqBool, A1_eqAgg, A1_un, A1_conv, A1_field, A1_fieldAddr, A1_indexAddr, A1_indexArr, A1_index, A1_slice, A1_mkSlice, A1_extract, A1_func, A1_call, A1_append, A1_len, A1_minmax, put_some, put_none, upd_at, ev_tmp, ev_av, bin_lss, bin_leq, bin_gtr, bin_geq, bin_eql, bin_neq, bin_add, bin_sub, bin_mul, un_not, natOf_nat, Bool.not_eq_false', Prod.mk.injEq, and_assoc, decide_false, decide_true, Bool.not_false, Bool.not_true, Bool.true_eq_false, Bool.false_eq_true, exists_false, Bool.not_eq_false, Bool.not_not, AV.val.injEq, AV.ptr.injEq, AV.slice.injEq, AV.func.injEq, AV.tuple.injEq, AV.agg.injEq, Value.bool.injEq, Value.int.injEq, Option.some.injEq, exists_eq_left', exists_eq_left, exists_and_left, exists_and_right, and_true, true_and, decide_eq_true_eq, decide_eq_false_iff_not, if_true, if_false, Bool.not_eq_true', beq_true, beq_false, ne_eq, not_true_eq_false, not_false_eq_true, reduceCtorEq, List.getD_cons_zero, List.getD_cons_succ, List.map_cons, List.map_nil, List.append_nil, Nat.reduceEqDiff, reduceIte, ite_true, ite_false, or_true, true_or, or_false, false_or, resA, resultsA, true_imp_iff, false_imp_iff, implies_true, imp_false, and_self, imp_self, and_false, false_and, forall_const, cell_val, cell_ptr, cell_slice, cell_func, cell_hole, cells_agg, cells_val, cells_ptr, cells_slice, cells_func, cells_hole, cells_cell, List.length_cons, List.length_nil, List.all_cons, List.all_nil, Bool.and_self, ldA, List.mapM_cons, List.mapM_nil, Option.bind_eq_bind, Option.bind_some, Option.pure_def, Option.map_none, Option.map_some, List.set_cons_zero, List.set_cons_succ, Nat.lt_add_one, List.append_assoc, List.cons_append, List.nil_append, List.append_nil, List.length_append, rd1_n0, rd1_nK, rd1_c0, rd1_cS, rd_n0, rd_nK, rd_c0, rd_cS, fillA, List.take_zero, List.take_succ_cons, List.take_nil, List.drop_zero, List.drop_succ_cons, List.drop_nil, List.getElem?_cons_zero, List.getElem?_cons_succ, Nat.reduceAdd, Nat.reduceLeDiff, Nat.add_eq_zero_iff, and_self, Nat.zero_add, Nat.add_zero, Nat.mul_one, *]) | (simp only [goO, AO_nil, then_normal, goC]) | (with_reducible apply And.intro) | (with_reducible intro _))
def copyA (fl : Nat → Bool) (h : Heap) (k : Nat) (x y : AV) : Option (AV × Heap) := match x, rowOf h k y with
    | .val (.slice none 0 0), some _ => some (.val (.int .i64 0), h)
    | .hole, some _ => some (.val (.int .i64 0), h)
    | .slice id off len _ _ _, some (n, cs) => match wr fl h id off (cs.take (min n len * k)) with
      | some h' => some (.val (.int .i64 (min n len : Nat)), h')
      | none => none
    | _, _ => none
theorem A1_copyG {X : CallT} {F : FuncId → Option AFunc} {top : Option (Nat × Option (List Nat))} {s : Slots} {kk : Nat} {x y : Opd} : A1 X F top fl (.copy kk x y) s h K ↔ ∃ v h', copyA fl h kk (x.ev s) (y.ev s) = some (v, h') ∧ K v h' := Iff.rfl
/-- A block of one's own behind all, copied to. -/
theorem copy_last {c cs : List AV} {o ln lb ns : Nat} {ex : Bool} {src : AV} (hs : rowOf (h ++ [some c]) 1 src = some (ns, cs)) (hf : fl h.length = true) (hfit : o + (cs.take (min ns ln * 1)).length ≤ c.length) :
    copyA fl (h ++ [some c]) 1 (.slice h.length o ln lb ex 1) src = some (.val (.int .i64 (min ns ln : Nat)), h ++ [some (c.take o ++ cs.take (min ns ln) ++ c.drop (o + (cs.take (min ns ln)).length))]) := by
  have hb : blk (h ++ [some c]) h.length = some c := by rw [blk_at0]; rfl
  rw [Nat.mul_one] at hfit
  simp only [copyA, hs, Nat.mul_one, wr, hb]
  rw [if_pos ⟨hf, hfit⟩]
  simp only [List.set_append_right _ _ (Nat.le_refl _), Nat.sub_self, List.set_cons_zero]
theorem row_last {c : List AV} {o ln lb : Nat} {ex : Bool} (hl : o + ln ≤ c.length) : rowOf (h ++ [some c]) 1 (.slice h.length o ln lb ex 1) = some (ln, (c.drop o).take ln) := by
  have hb : blk (h ++ [some c]) h.length = some c := by rw [blk_at0]; rfl
  simp only [rowOf, rd, hb, Nat.mul_one]
  rw [if_pos hl]
theorem cut_lo {id o ln : Nat} {m : Nat} (hm : m ≤ ln) : sliceA 1 (.slice id o ln ln true 1) (some (I64 (m : Nat))) none none = some (.slice id (o + m) (ln - m) (ln - m) true 1) := by
  simp [sliceA, natOfA, intOfA, hm]
theorem cut_hi {id o ln : Nat} {m : Nat} (hm : m ≤ ln) : sliceA 1 (.slice id o ln ln true 1) none (some (I64 (m : Nat))) none = some (.slice id o m ln true 1) := by
  simp [sliceA, natOfA, intOfA, hm]
/-- So many of it, zeros behind. -/
def repC (x : Int) (m n : Nat) : List AV := List.replicate m (I64 x) ++ List.replicate (n - m) (I64 0)
theorem repC_len {x : Int} {m n : Nat} (h : m ≤ n) : (repC x m n).length = n := by simp [repC]; omega
theorem repC_step {x : Int} {m n j : Nat} (h : m ≤ n) (hj : j ≤ m) (hmj : m + j ≤ n) : (repC x m n).take m ++ (((repC x m n).drop 0).take m).take j ++ (repC x m n).drop (m + j) = repC x (m + j) n := by
  have e : (repC x m n).take m = List.replicate m (I64 x) := by unfold repC; rw [List.take_left' (by simp)]
  rw [List.drop_zero, e, List.take_replicate, Nat.min_eq_left hj]
  unfold repC
  rw [List.drop_append, List.length_replicate, List.drop_eq_nil_of_le (by simp)]
  rw [Nat.add_sub_cancel_left, List.drop_replicate, List.nil_append, List.replicate_append_replicate, Nat.sub_sub]
set_option maxHeartbeats 2000000 in
theorem repeat_am {lv : AV} {x : Int} {n : Nat} (hn : n ≤ 1000) (hl : IL h lv [x]) (hf : ∀ i, h.length ≤ i → fl i = true) (hK : K (.slice h.length 0 n n true 1) (h ++ [some ((List.replicate n x).map I64)])) :
    AC (constX tb) (cFunc Try.prog) 49 [lv, I64 (n : Nat)] fl h K := by
  refine AC.enter rfl f_mk_repeat (by simp) ?_
  simp only [c_mk_repeat]
  have HN := Lib.hid hn
  have l1 := hl.len
  have w1 : IntKind.u64.wrap 1 = 1 := by rfl
  have wn : IntKind.u64.wrap (n : Int) = (n : Int) := IntWalk.u64_in _ (by omega)
  have wi : IntKind.i64.wrap (n : Int) = (n : Int) := IntWalk.i64_in _ (by omega)
  have g0 : ¬ ((n : Int) < 0) := by omega
  have g1 : ¬ ((0 : Int) < 0) := by omega
  have g2 : ¬ ((9223372036854775807 : Int) < (n : Int)) := by omega
  have hr : n * 8 ≤ reach := by unfold reach; omega
  have HL := Lib.hid hl
  have HF := Lib.hid hf
  have HK := Lib.hid hK
  clear hl hf hK hn
  simp only [List.length_singleton] at l1
  repeat' (first | (simp only [AW_next, AW_ops, AW_cond, AW_block, AW_exit, AW_ret, AW_skip, AW_scope, AO_nil, AO_next, AO_nextW, wantB_bool, wantK_some, then_normal, then_exit, then_ret, inBlk_normal, inBlk_exit, inBlk_ret, A1_mv, A1_pick, A1_box, A1_zero, A1_build, A1_lits, A1_load, shallow_none, A1_store, A1_nilCheckI, nilOk_ptr, nilOk_func, A1_bin, A1_eqNil, A1_eqBool, A1_eqAgg, A1_un, A1_conv, A1_field, A1_fieldAddr, A1_indexAddr, A1_indexArr, A1_index, A1_slice, A1_mkSlice, A1_extract, A1_func, A1_call, A1_append, A1_len, A1_minmax, put_some, put_none, upd_at, ev_tmp, ev_av, bin_lss, bin_leq, bin_gtr, bin_geq, bin_eql, bin_neq, bin_add, bin_sub, bin_mul, un_not, natOf_nat, Bool.not_eq_false', Prod.mk.injEq, and_assoc, decide_false, decide_true, Bool.not_false, Bool.not_true, Bool.true_eq_false, Bool.false_eq_true, exists_false, Bool.not_eq_false, Bool.not_not, AV.val.injEq, AV.ptr.injEq, AV.slice.injEq, AV.func.injEq, AV.tuple.injEq, AV.agg.injEq, Value.bool.injEq, Value.int.injEq, Option.some.injEq, exists_eq_left', exists_eq_left, exists_and_left, exists_and_right, and_true, true_and, decide_eq_true_eq, decide_eq_false_iff_not, if_true, if_false, Bool.not_eq_true', beq_true, beq_false, ne_eq, not_true_eq_false, not_false_eq_true, reduceCtorEq, List.getD_cons_zero, List.getD_cons_succ, List.map_cons, List.map_nil, List.append_nil, Nat.reduceEqDiff, reduceIte, ite_true, ite_false, or_true, true_or, or_false, false_or, resA, resultsA, true_imp_iff, false_imp_iff, implies_true, imp_false, and_self, imp_self, and_false, false_and, forall_const, cell_val, cell_ptr, cell_slice, cell_func, cell_hole, cells_agg, cells_val, cells_ptr, cells_slice, cells_func, cells_hole, cells_cell, List.length_cons, List.length_nil, List.all_cons, List.all_nil, Bool.and_self, ldA, List.mapM_cons, List.mapM_nil, Option.bind_eq_bind, Option.bind_some, Option.pure_def, Option.map_none, Option.map_some, List.set_cons_zero, List.set_cons_succ, Nat.lt_add_one, List.append_assoc, List.cons_append, List.nil_append, List.append_nil, List.length_append, rd1_n0, rd1_nK, rd1_c0, rd1_cS, rd_n0, rd_nK, rd_c0, rd_cS, fillA, List.take_zero, List.take_succ_cons, List.take_nil, List.drop_zero, List.drop_succ_cons, List.drop_nil, List.getElem?_cons_zero, List.getElem?_cons_succ, Nat.reduceAdd, Nat.reduceLeDiff, Nat.add_eq_zero_iff, and_self, Nat.zero_add, Nat.add_zero, Nat.mul_one, l1, w1, wn, Int.natCast_one, *]) | (simp only [goO, AO_nil, then_normal, goC]) | (with_reducible apply And.intro) | (with_reducible intro _))
  refine mul_am HN.out ?_
  have hflat : (List.replicate n [I64 0]).flatten = repC x 0 n := by
    unfold repC
    simp only [List.replicate_zero, List.nil_append, Nat.sub_zero]
    induction n with
    | zero => rfl
    | succ n ih => simp [List.replicate_succ]
  have hrow : rowOf (h ++ [some (repC x 0 n)]) 1 lv = some (1, [I64 x]) := (HL.out.ext _).row
  have hc := copy_last (fl := fl) (o := 0) (ln := n) (lb := n) (ex := true) hrow (HF.out _ (Nat.le_refl _)) (by rw [repC_len (by omega)]; simp; omega)
  have hc2 : (repC x 0 n).take 0 ++ [I64 x].take (min 1 n) ++ (repC x 0 n).drop (0 + ([I64 x].take (min 1 n)).length) = repC x (min 1 n) n := by
    rcases Nat.eq_zero_or_pos n with rfl | hp
    · rfl
    · rw [Nat.min_eq_left hp]
      unfold repC
      simp [List.drop_replicate]
  rw [hc2] at hc
  clear hc2 hrow
  have hln : ∀ lb, lenA (.slice h.length 0 n lb true 1) = some n := fun _ => rfl
  obtain ⟨m0, hm0⟩ : ∃ m0, m0 = min 1 n := ⟨_, rfl⟩
  rw [← hm0] at hc
  have HM := Lib.hid hm0
  clear hm0
  repeat' (first | (simp only [AW_next, AW_ops, AW_cond, AW_block, AW_exit, AW_ret, AW_skip, AW_scope, AO_nil, AO_next, AO_nextW, wantB_bool, wantK_some, then_normal, then_exit, then_ret, inBlk_normal, inBlk_exit, inBlk_ret, A1_mv, A1_pick, A1_box, A1_zero, A1_build, A1_lits, A1_load, shallow_none, A1_store, A1_nilCheckI, nilOk_ptr, nilOk_func, A1_bin, A1_eqNil, A1_eqBool, A1_eqAgg, A1_un, A1_conv, A1_field, A1_fieldAddr, A1_indexAddr, A1_indexArr, A1_index, A1_slice, A1_mkSlice, A1_extract, A1_func, A1_call, A1_append, A1_len, A1_minmax, put_some, put_none, upd_at, ev_tmp, ev_av, bin_lss, bin_leq, bin_gtr, bin_geq, bin_eql, bin_neq, bin_add, bin_sub, bin_mul, un_not, natOf_nat, Bool.not_eq_false', Prod.mk.injEq, and_assoc, decide_false, decide_true, Bool.not_false, Bool.not_true, Bool.true_eq_false, Bool.false_eq_true, exists_false, Bool.not_eq_false, Bool.not_not, AV.val.injEq, AV.ptr.injEq, AV.slice.injEq, AV.func.injEq, AV.tuple.injEq, AV.agg.injEq, Value.bool.injEq, Value.int.injEq, Option.some.injEq, exists_eq_left', exists_eq_left, exists_and_left, exists_and_right, and_true, true_and, decide_eq_true_eq, decide_eq_false_iff_not, if_true, if_false, Bool.not_eq_true', beq_true, beq_false, ne_eq, not_true_eq_false, not_false_eq_true, reduceCtorEq, List.getD_cons_zero, List.getD_cons_succ, List.map_cons, List.map_nil, List.append_nil, Nat.reduceEqDiff, reduceIte, ite_true, ite_false, or_true, true_or, or_false, false_or, resA, resultsA, true_imp_iff, false_imp_iff, implies_true, imp_false, and_self, imp_self, and_false, false_and, forall_const, cell_val, cell_ptr, cell_slice, cell_func, cell_hole, cells_agg, cells_val, cells_ptr, cells_slice, cells_func, cells_hole, cells_cell, List.length_cons, List.length_nil, List.all_cons, List.all_nil, Bool.and_self, ldA, List.mapM_cons, List.mapM_nil, Option.bind_eq_bind, Option.bind_some, Option.pure_def, Option.map_none, Option.map_some, List.set_cons_zero, List.set_cons_succ, Nat.lt_add_one, List.append_assoc, List.cons_append, List.nil_append, List.append_nil, List.length_append, rd1_n0, rd1_nK, rd1_c0, rd1_cS, rd_n0, rd_nK, rd_c0, rd_cS, fillA, List.take_zero, List.take_succ_cons, List.take_nil, List.drop_zero, List.drop_succ_cons, List.drop_nil, List.getElem?_cons_zero, List.getElem?_cons_succ, Nat.reduceAdd, Nat.reduceLeDiff, Nat.add_eq_zero_iff, and_self, Nat.zero_add, Nat.add_zero, Nat.mul_one, A1_copyG, gtr_u, g1, g2, wi, natOf_nat, hr, Nat.le_refl, beq_self_eq_true, hflat, hc, *]) | (simp only [goO, AO_nil, then_normal, goC]) | (with_reducible apply And.intro) | (with_reducible intro _))
  refine AW.named fun S hS => ?_
  have s7 : S 7 = .slice h.length 0 n n true 1 := by rw [hS]; rfl
  have s8 : S 8 = I64 (m0 : Nat) := by rw [hS]; rfl
  clear hS hc hflat
  refine AW_while (fun r s' h' => ∃ m : Nat, r = n - m ∧ m ≤ n ∧ (n = 0 ∨ 0 < m) ∧ s' 8 = I64 (m : Nat) ∧ h' = h ++ [some (repC x m n)]) (n - m0) ⟨m0, rfl, by have := HM.out; omega, by have := HM.out; omega, s8, rfl⟩ ?_
  clear s8
  rintro r s' h' ⟨m, rfl, hmn, hpos, s8, rfl⟩ hs
  have f7 := (hs 7 (by decide)).trans s7
  clear hs s7
  by_cases hlt : m < n
  · have g3 : (m : Int) < (n : Int) := by omega
    have c1 := cut_lo (id := h.length) (o := 0) hmn
    have c2 := cut_hi (id := h.length) (o := 0) hmn
    rw [Nat.zero_add] at c1
    have hrow := row_last (h := h) (c := repC x m n) (o := 0) (ln := m) (lb := n) (ex := true) (by rw [repC_len hmn]; omega)
    have htl : (((repC x m n).drop 0).take m).length = m := by rw [List.length_take, List.drop_zero, repC_len hmn]; omega
    have hc := copy_last (fl := fl) (o := m) (ln := n - m) (lb := n - m) (ex := true) hrow (HF.out _ (Nat.le_refl _)) (by rw [repC_len hmn, List.length_take, htl]; omega)
    rw [show (List.take (min m (n - m)) (((repC x m n).drop 0).take m)).length = min m (n - m) by rw [List.length_take, htl]; omega] at hc
    rw [repC_step hmn (Nat.min_le_left _ _) (by omega)] at hc
    have wa : IntKind.i64.wrap ((m : Int) + ((min m (n - m) : Nat) : Int)) = ((m + min m (n - m) : Nat) : Int) := by have := HN.out; rw [IntWalk.i64_in _ (by omega)]; omega
    obtain ⟨q, hq⟩ : ∃ q, q = min m (n - m) := ⟨_, rfl⟩
    rw [← hq] at hc wa
    have fin : ∃ r2, r2 < n - m ∧ ∃ m2 : Nat, r2 = n - m2 ∧ m2 ≤ n ∧ (n = 0 ∨ 0 < m2) ∧ ((m + q : Nat) : Int) = ((m2 : Nat) : Int) ∧ h ++ [some (repC x (m + q) n)] = h ++ [some (repC x m2 n)] :=
      ⟨n - (m + q), by omega, m + q, rfl, by omega, by omega, rfl, rfl⟩
    have FI := Lib.hid fin
    clear hrow htl hq fin g0 g1 g2 hpos hmn
    repeat' (first | (simp only [AW_next, AW_ops, AW_cond, AW_block, AW_exit, AW_ret, AW_skip, AW_scope, AO_nil, AO_next, AO_nextW, wantB_bool, wantK_some, then_normal, then_exit, then_ret, inBlk_normal, inBlk_exit, inBlk_ret, A1_mv, A1_pick, A1_box, A1_zero, A1_build, A1_lits, A1_load, shallow_none, A1_store, A1_nilCheckI, nilOk_ptr, nilOk_func, A1_bin, A1_eqNil, A1_eqBool, A1_eqAgg, A1_un, A1_conv, A1_field, A1_fieldAddr, A1_indexAddr, A1_indexArr, A1_index, A1_slice, A1_mkSlice, A1_extract, A1_func, A1_call, A1_append, A1_len, A1_minmax, put_some, put_none, upd_at, ev_tmp, ev_av, bin_lss, bin_leq, bin_gtr, bin_geq, bin_eql, bin_neq, bin_add, bin_sub, bin_mul, un_not, natOf_nat, Bool.not_eq_false', Prod.mk.injEq, and_assoc, decide_false, decide_true, Bool.not_false, Bool.not_true, Bool.true_eq_false, Bool.false_eq_true, exists_false, Bool.not_eq_false, Bool.not_not, AV.val.injEq, AV.ptr.injEq, AV.slice.injEq, AV.func.injEq, AV.tuple.injEq, AV.agg.injEq, Value.bool.injEq, Value.int.injEq, Option.some.injEq, exists_eq_left', exists_eq_left, exists_and_left, exists_and_right, and_true, true_and, decide_eq_true_eq, decide_eq_false_iff_not, if_true, if_false, Bool.not_eq_true', beq_true, beq_false, ne_eq, not_true_eq_false, not_false_eq_true, reduceCtorEq, List.getD_cons_zero, List.getD_cons_succ, List.map_cons, List.map_nil, List.append_nil, Nat.reduceEqDiff, reduceIte, ite_true, ite_false, or_true, true_or, or_false, false_or, resA, resultsA, true_imp_iff, false_imp_iff, implies_true, imp_false, and_self, imp_self, and_false, false_and, forall_const, cell_val, cell_ptr, cell_slice, cell_func, cell_hole, cells_agg, cells_val, cells_ptr, cells_slice, cells_func, cells_hole, cells_cell, List.length_cons, List.length_nil, List.all_cons, List.all_nil, Bool.and_self, ldA, List.mapM_cons, List.mapM_nil, Option.bind_eq_bind, Option.bind_some, Option.pure_def, Option.map_none, Option.map_some, List.set_cons_zero, List.set_cons_succ, Nat.lt_add_one, List.append_assoc, List.cons_append, List.nil_append, List.append_nil, List.length_append, rd1_n0, rd1_nK, rd1_c0, rd1_cS, rd_n0, rd_nK, rd_c0, rd_cS, fillA, List.take_zero, List.take_succ_cons, List.take_nil, List.drop_zero, List.drop_succ_cons, List.drop_nil, List.getElem?_cons_zero, List.getElem?_cons_succ, Nat.reduceAdd, Nat.reduceLeDiff, Nat.add_eq_zero_iff, and_self, Nat.zero_add, Nat.add_zero, Nat.mul_one, A1_copyG, c1, c2, hc, wa, hln, *]) | (simp only [goO, AO_nil, then_normal, goC]) | (with_reducible apply And.intro) | (with_reducible intro _))
    exact FI.out
  · have hm : m = n := by omega
    subst hm
    have g3 : ((m : Int) < (m : Int)) = False := by simp
    have hrp : repC x m m = (List.replicate m x).map I64 := by unfold repC; simp
    have fin : K (.slice h.length 0 m m true 1) (h ++ [some (repC x m m)]) := by rw [hrp]; exact HK.out
    clear hrp
    clear g0 g1 g2
    have g4 : ¬ ((m : Int) < (m : Int)) := by omega
    repeat' (first | (simp only [AW_next, AW_ops, AW_cond, AW_block, AW_exit, AW_ret, AW_skip, AW_scope, AO_nil, AO_next, AO_nextW, wantB_bool, wantK_some, then_normal, then_exit, then_ret, inBlk_normal, inBlk_exit, inBlk_ret, A1_mv, A1_pick, A1_box, A1_zero, A1_build, A1_lits, A1_load, shallow_none, A1_store, A1_nilCheckI, nilOk_ptr, nilOk_func, A1_bin, A1_eqNil, A1_eqBool, A1_eqAgg, A1_un, A1_conv, A1_field, A1_fieldAddr, A1_indexAddr, A1_indexArr, A1_index, A1_slice, A1_mkSlice, A1_extract, A1_func, A1_call, A1_append, A1_len, A1_minmax, put_some, put_none, upd_at, ev_tmp, ev_av, bin_lss, bin_leq, bin_gtr, bin_geq, bin_eql, bin_neq, bin_add, bin_sub, bin_mul, un_not, natOf_nat, Bool.not_eq_false', Prod.mk.injEq, and_assoc, decide_false, decide_true, Bool.not_false, Bool.not_true, Bool.true_eq_false, Bool.false_eq_true, exists_false, Bool.not_eq_false, Bool.not_not, AV.val.injEq, AV.ptr.injEq, AV.slice.injEq, AV.func.injEq, AV.tuple.injEq, AV.agg.injEq, Value.bool.injEq, Value.int.injEq, Option.some.injEq, exists_eq_left', exists_eq_left, exists_and_left, exists_and_right, and_true, true_and, decide_eq_true_eq, decide_eq_false_iff_not, if_true, if_false, Bool.not_eq_true', beq_true, beq_false, ne_eq, not_true_eq_false, not_false_eq_true, reduceCtorEq, List.getD_cons_zero, List.getD_cons_succ, List.map_cons, List.map_nil, List.append_nil, Nat.reduceEqDiff, reduceIte, ite_true, ite_false, or_true, true_or, or_false, false_or, resA, resultsA, true_imp_iff, false_imp_iff, implies_true, imp_false, and_self, imp_self, and_false, false_and, forall_const, cell_val, cell_ptr, cell_slice, cell_func, cell_hole, cells_agg, cells_val, cells_ptr, cells_slice, cells_func, cells_hole, cells_cell, List.length_cons, List.length_nil, List.all_cons, List.all_nil, Bool.and_self, ldA, List.mapM_cons, List.mapM_nil, Option.bind_eq_bind, Option.bind_some, Option.pure_def, Option.map_none, Option.map_some, List.set_cons_zero, List.set_cons_succ, Nat.lt_add_one, List.append_assoc, List.cons_append, List.nil_append, List.append_nil, List.length_append, rd1_n0, rd1_nK, rd1_c0, rd1_cS, rd_n0, rd_nK, rd_c0, rd_cS, fillA, List.take_zero, List.take_succ_cons, List.take_nil, List.drop_zero, List.drop_succ_cons, List.drop_nil, List.getElem?_cons_zero, List.getElem?_cons_succ, Nat.reduceAdd, Nat.reduceLeDiff, Nat.add_eq_zero_iff, and_self, Nat.zero_add, Nat.add_zero, Nat.mul_one, hln, *]) | (simp only [goO, AO_nil, then_normal, goC]) | (with_reducible apply And.intro) | (with_reducible intro _))
theorem ZR.ownEx {w : Wd} {i g off len id o lb k : Nat} (h : ZR w (.own i g off len false) (.slice id o len lb false k)) : ZR w (.own i g off len false) (.slice id o len lb true k) := by
  cases h with
  | fr hf => cases hf
  | own h1 h2 h3 h4 =>
    refine .own h1 (fun g' k' rows hb => ⟨(h2 g' k' rows hb).1, fun he => ?_⟩) (fun id hid => h3 id hid) rfl
    rcases (h2 g' k' rows hb).2 he with ⟨_, _, _, _, e | ⟨_, _, _, e, _⟩⟩ | ⟨id2, b, lb2, ex2, row, q1, q2, q3, q4, q5, q6, q7⟩
    · cases e
    · cases e
    · injection q2 with t1 t2 t3 t4 t5 t6
      subst t1; subst t2; subst t4; subst t6
      exact .inr ⟨_, b, _, true, row, q1, rfl, q3, q4, q5, q6, fun h => by cases h⟩
end
section
variable {tb : List (FuncId × Bool)} {L : Nat → Bool} {H : ZH} {K : ZV → ZH → Prop}
theorem repeat_z {z : ZV} {x : Int} {n : Nat} (hz : rowsZ H 1 z = some [[Z64 x]]) (hn : n ≤ 1000) (hK : K (.own H.length 0 0 n false) (H ++ [.grow 0 1 ((List.replicate n x).map eI)])) :
    ZC (constX tb) (cFunc Try.prog) 49 [z, Z64 (n : Nat)] L H K := by
  intro fl w args r e ha
  subst e
  obtain ⟨a, ha0, ha1⟩ := ha.get (i := 0) rfl
  obtain ⟨b, hb0, hb1⟩ := ha.get (i := 1) rfl
  have e2 : args = [a, b] := by
    have := ha.1
    match args, this, ha0, hb0 with
    | [x, y], _, hv0, hu0 => simp at hv0 hu0; rw [hv0, hu0]
  subst e2
  have e3 := hb1.val_inv
  subst e3
  refine repeat_am hn (il_of r ha1 (l := [x]) hz) r.fresh ?_
  have hnew : NewI w.h (w.h ++ [some ((List.replicate n x).map I64)]) (.slice w.h.length 0 n n false 1) (List.replicate n x) := by
    refine ⟨⟨by simp, .inr ⟨w.h.length, n, (List.replicate n x).map I64, by simp, by simp, by simp, by rw [blk_at0]; rfl, by simp⟩⟩, by simp [idOf], Keep.ext _ _⟩
  obtain ⟨w', q1, q2, q3, q4, q5⟩ := newI_w r hnew
  rw [List.length_replicate] at q5
  exact ⟨_, w', q1, q3, q4, q5.ownEx, by rw [q2]; exact hK⟩
end
end Go.Proofs.Ytpeagenjmmkohaa

namespace Go.Proofs.Ytpeagenjmmkohaa
open Go Go.RowKit
set_option linter.unusedVariables false
set_option linter.unusedSimpArgs false
section
variable {L : Nat → Bool} {H : ZH} {K : ZV → ZH → Prop}
theorem FR.weak {Fr : Nat → Prop} {h : Heap} {k : Nat} {ex : Bool} {rows : List (List ZV)} {a : AV} (hf : FR Fr h (.fz k ex rows) a) : FR Fr h (.fz k false rows) a := by
  cases hf with
  | fnil h => rcases h with rfl | ⟨rfl, _⟩; exact .fnil (.inl rfl); exact .fnil (.inr ⟨rfl, rfl⟩)
  | fz cell h1 h2 h3 h4 h5 h6 h7 h8 => exact .fz cell h1 h2 h3 h4 (fun h => by cases h) h6 h7 h8
theorem Fin.weak {H0 : ZH} {k : Nat} {ex : Bool} {rows : List (List ZV)} {H' : ZH} {K : ZV → ZH → Prop} (hk : Fin H0 (.fz k false rows) H' K) : Fin H0 (.fz k ex rows) H' K := fun fl L w w' a r e r' e' he hz => hk fl L w w' a r e r' e' he (.fr (FR.weak hz.fz_inv))
theorem Fin.nilFz {H0 : ZH} {k : Nat} {H' : ZH} {K : ZV → ZH → Prop} (hk : Fin H0 (.fz k false []) H' K) : Fin H0 .nil H' K := fun fl L w w' a r e r' e' he hz => hk fl L w w' a r e r' e' he (.fr (by rw [hz.val_inv]; exact .fnil (.inl rfl)))
theorem ZC.thenF {X : CallT} {F : FuncId → Option AFunc} {f : FuncId} {zs : List ZV} {K1 : ZV → ZH → Prop} (h : ZC X F f zs L H K1) (hk : ∀ z H', K1 z H' → Fin H z H' K) : ZC X F f zs L H K := fun fl w args r e ha => (h fl w args r e ha).mono fun a h' ⟨z, w', e1, r', x, hz, k⟩ => e1 ▸ hk z _ k fl L w w' a r e r' x rfl hz
theorem Fin.frzA {H0 : ZH} {i g off len : Nat} {ex : Bool} {H' : ZH} {K : ZV → ZH → Prop} {k : Nat} {rows : List (List ZV)} {vs : List ZV} {j : Nat} (hj : vs[j]? = some (.own i g off len ex)) (hb : H'[i]? = some (.grow g k rows)) (hle : off + len ≤ rows.length) (hp : rows.flatten.all pureZ = true) (hk : Fin H0 (.agg (vs.set j (.fz k ex ((rows.drop off).take len)))) (H'.set i .dead) K) : Fin H0 (.agg vs) H' K := fun fl L w w' a r e r' e' he hz => by
  subst he
  obtain ⟨ys, rfl, hys⟩ := hz.agg_inv
  obtain ⟨y, hy, hyz⟩ := hys.get hj
  obtain ⟨w2, e1, e2, e3, e4, e5⟩ := freeze_own r' hb hle hp hyz
  rw [← e1]
  refine hk fl L w w2 _ r e e3 (e'.trans e4) e2 (ZRs.toAgg ⟨by simp [hys.1], fun m z a hz' ha' => ?_⟩)
  have hjl : j < vs.length := (List.getElem?_eq_some_iff.1 hj).1
  by_cases hm : m = j
  · subst hm
    rw [List.getElem?_set] at hz'
    simp [hjl] at hz'
    rw [hy] at ha'; injection ha' with ha'
    subst hz'; subst ha'; exact e5
  · rw [List.getElem?_set, if_neg (Ne.symm hm)] at hz'
    exact (hys.2 m z a hz' ha').ext e4
end
/-- A thing: its places, its colour, whether it is held. -/
abbrev Th := List Int × Int × Bool
/-- With the block that its places stand in. -/
abbrev TB := Option Nat × Th
abbrev plZ (x : TB) : ZV := match x.1 with
  | none => .fz 1 false []
  | some j => .own j 0 0 x.2.1.length false
def eT (x : TB) : List ZV := [plZ x, Z64 x.2.2.1, ZBo x.2.2.2]
structure MkAt (H : ZH) (p t g : Nat) (kd : Int) (mk : Bool) (T : List TB) : Prop where
  box : H[p]? = some (.box [Z64 kd, ZBo mk, .own t g 0 T.length false])
  arr : H[t]? = some (.grow g 3 (T.map eT))
  pl : ∀ x ∈ T, match x.1 with
    | none => x.2.1 = []
    | some j => x.2.1 ≠ [] ∧ H[j]? = some (.grow 0 1 (x.2.1.map eI))
  nod : (T.filterMap Prod.fst).Nodup
  len : T.length ≤ 100
  sm : ∀ x ∈ T, x.2.1.length ≤ 10
theorem MkAt.ext {H : ZH} {p t g : Nat} {kd : Int} {mk : Bool} {T : List TB} (h : MkAt H p t g kd mk T) (X : ZH) : MkAt (H ++ X) p t g kd mk T := by
  refine ⟨by rw [List.getElem?_append_left (lt_of_get h.box)]; exact h.box, by rw [List.getElem?_append_left (lt_of_get h.arr)]; exact h.arr, fun x hx => ?_, h.nod, h.len, h.sm⟩
  have := h.pl x hx
  obtain ⟨o, y⟩ := x
  cases o with
  | none => exact this
  | some j => exact ⟨this.1, (List.getElem?_append_left (lt_of_get this.2)).trans this.2⟩
/-- What a thing's places are, as a slice. -/
theorem MkAt.rows {H : ZH} {p t g : Nat} {kd : Int} {mk : Bool} {T : List TB} (h : MkAt H p t g kd mk T) {x : TB} (hx : x ∈ T) : rowsZ H 1 (plZ x) = some (x.2.1.map eI) := by
  have := h.pl x hx
  obtain ⟨o, y⟩ := x
  cases o with
  | none => simp only at this; simp [plZ, this, rowsZ]
  | some j => exact rows_whole this.2 (by simp)
variable {tb : List (FuncId × Bool)} {L : Nat → Bool} {H : ZH} {K : ZV → ZH → Prop} {p t g : Nat} {kd : Int} {mk : Bool} {T : List TB}
theorem marking_z (h : MkAt H p t g kd mk T) (hK : K (ZBo mk) H) : ZC (constX tb) (cFunc Try.prog) 25 [.ptr p 0] L H K := by
  refine ZC.enter Gh.no constX_none f_mk_marking (by simp) ?_
  simp only [c_mk_marking]
  have hb := h.box
  have fin := Fin.keep (H0 := H) hK
  clear hK h
  repeat' (first | (simp only [zmPack, zxPack, ne_eq, zfree, owners, Nat.reduceLT, List.contains_cons, List.contains_nil, Nat.reduceBEq, BEq.rfl, chunk, setAt, List.lookup_cons, List.lookup_nil, reduceCtorEq, Nat.reduceEqDiff, reduceIte, implies_true, forall_const, Nat.reduceMul, Nat.reduceSub, Nat.reduceAdd, Nat.reduceLeDiff, hb, *]) | (simp only [zgoO, zgoG, zO_nil, zthen_normal, zgoC]) | (with_reducible apply And.intro) | (with_reducible intro _))
/-- The colours. -/
def colsOf (T : List TB) : List Int := T.map fun x => x.2.2.1
theorem colours_z (h : MkAt H p t g kd mk T) (hK : K (.fz 1 false ((colsOf T).map eI)) H) : ZC (constX tb) (cFunc Try.prog) 24 [.ptr p 0] L H K := by
  refine ZC.enterL ⟨[(3, [(0, 1)])], [], []⟩ constX_none f_mk_colours (by simp) fun hL => ?_
  simp only [c_mk_colours]
  have hb : ∀ X, (H ++ X)[p]? = some (.box [Z64 kd, ZBo mk, .own t g 0 T.length false]) := fun X => (h.ext X).box
  have ha : ∀ X, (H ++ X)[t]? = some (.grow g 3 (T.map eT)) := fun X => (h.ext X).arr
  have hlen := h.len
  have F : ∀ g' X, Fin H (.own H.length g' 0 T.length false) (H ++ (.grow g' 1 ((colsOf T).map eI) :: X)) K := fun g' X => by
    refine Fin.frz (k := 1) (rows := (colsOf T).map eI) (mv_at0 _ _) (by simp [colsOf]) (mv_pure (fun r hr => by obtain ⟨x, _, rfl⟩ := List.mem_map.1 hr; rfl)) ?_
    rw [mv_st0, List.drop_zero, List.take_of_length_le (by simp [colsOf])]
    exact Fin.trunc (Mods.ext H _) rfl (by rw [List.take_left]; exact hK)
  have FF := Lib.hid F
  have HL := Lib.hid hlen
  have h3 : rowsZ (H ++ [.grow 0 1 []]) 3 (.own t g 0 T.length false) = some (T.map eT) := rows_whole (ha _) (by simp)
  have hl3 := rows_len h3
  rw [List.length_map] at hl3
  clear h hK F hlen h3
  repeat' (first | (simp only [zmPack, zxPack, ne_eq, zfree, owners, Nat.reduceLT, List.contains_cons, List.contains_nil, Nat.reduceBEq, BEq.rfl, chunk, setAt, List.lookup_cons, List.lookup_nil, reduceCtorEq, Nat.reduceEqDiff, reduceIte, implies_true, forall_const, Nat.reduceMul, Nat.reduceSub, Nat.reduceAdd, Nat.reduceLeDiff, hb, hl3, *]) | (simp only [zgoO, zgoG, zO_nil, zthen_normal, zgoC]) | (with_reducible apply And.intro) | (with_reducible intro _))
  refine zW_forK [(9, .own t g 0 T.length false)] T.length (fun k s' h' => ∃ g' X, s' 3 = .own H.length g' 0 k false ∧ h' = H ++ (.grow g' 1 ((colsOf (T.take k)).map eI) :: X)) (by have := HL.out; omega) ⟨rfl, rfl, rfl, rfl, rfl, rfl⟩ rfl rfl (by repeat' (first | exact trivial | (refine ⟨rfl, ?_⟩) | (refine ⟨by simp only [zupd_at, Nat.reduceEqDiff, reduceIte]; assumption, ?_⟩))) rfl rfl (by decide) ⟨0, [], rfl, rfl⟩ ?_ ?_
  · rintro k s' h' hk ⟨g', X, f3, rfl⟩ hi hl ⟨f9, -⟩
    have hx : T[k]? = some T[k] := List.getElem?_eq_getElem hk
    have hn : (colsOf (T.take (k + 1))).map eI = (colsOf (T.take k)).map eI ++ [[Z64 T[k].2.2.1]] := by
      unfold colsOf; rw [List.take_succ_eq_append_getElem hk, List.map_append, List.map_append]; rfl
    have hln : (colsOf (T.take k)).length = k := by simp [colsOf]; omega
    obtain ⟨y, hy⟩ : ∃ y, y = T[k] := ⟨_, rfl⟩
    rw [← hy] at hx hn
    have he : elemZ (H ++ (.grow g' 1 ((colsOf (T.take k)).map eI) :: X)) 3 k (.own t g 0 T.length false) = some (.eptr t g k 0) := by
      rw [elem_own]; exact ⟨_, ha _, by simp, hk, by simp⟩
    obtain ⟨o, pl, co, he2⟩ := y
    have hld : ∀ Y, ldZ (H ++ (.grow g' 1 ((colsOf (T.take k)).map eI) :: Y)) (some 3) (.eptr t g k 0) = some (.agg (eT (o, pl, co, he2))) := fun Y => by
      rw [ld_eptr]; exact ⟨_, _, eT (o, pl, co, he2), ha _, by rw [List.getElem?_map, hx]; rfl, rfl⟩
    have het : eT (o, pl, co, he2) = [plZ (o, pl, co, he2), Z64 co, ZBo he2] := rfl
    have hcl : (plZ (o, pl, co, he2)).isCell = true := by cases o <;> rfl
    obtain ⟨pz, hpz⟩ : ∃ pz, pz = plZ (o, pl, co, he2) := ⟨_, rfl⟩
    rw [← hpz] at het hcl
    rw [het] at hld
    have lx : ∀ n, L (H.length + n) = true := fun n => by cases n with
      | zero => exact hL 0
      | succ n => exact hL (n + 1)
    have hap : ∀ Y, appZ L (H ++ (.grow g' 1 ((colsOf (T.take k)).map eI) :: Y)) 1 8 [[Z64 co]] (.own H.length g' 0 k false) = some (.own H.length (g' + 1) 0 (k + 1) false, H ++ (.grow (g' + 1) 1 ((colsOf (T.take (k + 1))).map eI) :: Y)) := fun Y => by
      rw [app_own]
      refine ⟨_, mv_at0 _ _, by simp [hln], by have := HL.out; unfold reach; simp; omega, lx 0, rfl, ?_⟩
      rw [mv_st0, List.drop_zero, List.take_of_length_le (by simp [hln]), hn]
    have a0 : ∀ A C : ZB, (H ++ (A :: (X ++ [C])))[H.length + (X.length + 1)]? = some C := fun A C => mv_atX A C
    have s0 : ∀ A C D : ZB, (H ++ (A :: (X ++ [C]))).set (H.length + (X.length + 1)) D = H ++ (A :: (X ++ [D])) := fun A C D => mv_stX A C D
    have l0 : L (H.length + (X.length + 1)) = true := lx _
    clear hx hn hln hy hpz hl3 hb
    repeat' (first | (simp only [zmPack, zxPack, ne_eq, zfree, owners, Nat.reduceLT, List.contains_cons, List.contains_nil, Nat.reduceBEq, BEq.rfl, chunk, setAt, List.lookup_cons, List.lookup_nil, reduceCtorEq, Nat.reduceEqDiff, reduceIte, implies_true, forall_const, Nat.reduceMul, Nat.reduceSub, Nat.reduceAdd, Nat.reduceLeDiff, he, hld, hcl, hap, a0, s0, l0, *]) | (simp only [zgoO, zgoG, zO_nil, zthen_normal, zgoC]) | (with_reducible apply And.intro) | (with_reducible intro _))
    all_goals exact ⟨_, rfl⟩
  · rintro s' h' ⟨g', X, f3, rfl⟩ ⟨f9, -⟩
    have fin := FF.out g' X
    rw [List.take_of_length_le (Nat.le_refl _)]
    clear hl3 hb ha
    repeat' (first | (simp only [zmPack, zxPack, ne_eq, zfree, owners, Nat.reduceLT, List.contains_cons, List.contains_nil, Nat.reduceBEq, BEq.rfl, chunk, setAt, List.lookup_cons, List.lookup_nil, reduceCtorEq, Nat.reduceEqDiff, reduceIte, implies_true, forall_const, Nat.reduceMul, Nat.reduceSub, Nat.reduceAdd, Nat.reduceLeDiff, *]) | (simp only [zgoO, zgoG, zO_nil, zthen_normal, zgoC]) | (with_reducible apply And.intro) | (with_reducible intro _))
/-- slices.Clone of a thing's places, then DeleteFunc of those that are none: what is left, in a list that nobody writes to. -/
theorem clonei_0 {ex : Bool} (hK : K (.fz 1 false []) H) : ZC (constX tb) (cFunc Try.prog) 46 [.fz 1 ex []] L H K := by
  refine ZC.enter Gh.no constX_none f_mk_clone (by simp) ?_
  simp only [c_mk_clone]
  have fin1 : Fin H .nil H K := Fin.nilFz (k := 1) (Fin.keep hK)
  have fin2 : Fin H (.fz 1 true []) H K := Fin.weak (Fin.keep hK)
  have hnz : ∀ b, nilZ H 0 (.fz 1 ex []) = some b ↔ False := fun b => by simp [nilZ]
  have hE : ∀ L H v H', appZ L H 1 8 [] (.fz 1 true []) = some (v, H') ↔ .fz 1 true [] = v ∧ H = H' := fun L H v H' => by
    simp only [appZ]
    rw [if_pos ⟨trivial, by simp⟩]
    simp
  clear hK
  repeat' (first | (simp only [zmPack, zxPack, ne_eq, zfree, owners, Nat.reduceLT, List.contains_cons, List.contains_nil, Nat.reduceBEq, BEq.rfl, chunk, setAt, List.lookup_cons, List.lookup_nil, reduceCtorEq, Nat.reduceEqDiff, reduceIte, implies_true, forall_const, Nat.reduceMul, Nat.reduceSub, Nat.reduceAdd, Nat.reduceLeDiff, hnz, hE, *]) | (simp only [zgoO, zgoG, zO_nil, zthen_normal, zgoC]) | (with_reducible apply And.intro) | (with_reducible intro _))
  exact ⟨_, rfl⟩
theorem clonei_1 {j : Nat} {a : Int} {l : List Int} (hz : H[j]? = some (.grow 0 1 ((a :: l).map eI))) (hb : l.length ≤ 1000) (hK : K (.own H.length 0 0 (a :: l).length false) (H ++ [.grow 0 1 ((a :: l).map eI)])) : ZC (constX tb) (cFunc Try.prog) 46 [.own j 0 0 (a :: l).length false] L H K := by
  refine ZC.enter Gh.no constX_none f_mk_clone (by simp) ?_
  simp only [c_mk_clone]
  have hr : (a :: l).length * 8 ≤ reach := by unfold reach; simp; omega
  have hro : rowsZ H 1 (.own j 0 0 (a :: l).length false) = some ((a :: l).map eI) := rows_whole hz (by simp)
  have hn : nilZ H 0 (.own j 0 0 (a :: l).length false) = some false := by
    simp [nilZ, hz]
  have hap : ∀ L, appZ L H 1 8 ((a :: l).map eI) (.fz 1 true []) = some (.own H.length 0 0 (a :: l).length false, H ++ [.grow 0 1 ((a :: l).map eI)]) := fun L => by
    simp only [appZ]
    rw [if_pos ⟨trivial, by simpa using hr⟩, if_neg (by simp)]
    simp
  have fin := Fin.keep (H0 := H) hK
  obtain ⟨q, hq⟩ : ∃ q, q = (a :: l).map eI := ⟨_, rfl⟩
  obtain ⟨n, hn0⟩ : ∃ n, n = (a :: l).length := ⟨_, rfl⟩
  rw [← hq] at hro hap fin
  rw [← hn0] at hro hap fin hn ⊢
  clear hK hq hn0 hr hz
  repeat' (first | (simp only [zmPack, zxPack, ne_eq, zfree, owners, Nat.reduceLT, List.contains_cons, List.contains_nil, Nat.reduceBEq, BEq.rfl, chunk, setAt, List.lookup_cons, List.lookup_nil, reduceCtorEq, Nat.reduceEqDiff, reduceIte, implies_true, forall_const, Nat.reduceMul, Nat.reduceSub, Nat.reduceAdd, Nat.reduceLeDiff, hn, hro, hap, *]) | (simp only [zgoO, zgoG, zO_nil, zthen_normal, zgoC]) | (with_reducible apply And.intro) | (with_reducible intro _))
theorem delfi_0 (hK : K (.fz 1 false []) H) :
    ZC (constX tb) (cFunc Try.prog) 45 [.fz 1 false [], .func 47 []] L H K := by
  refine ZC.enterL Gh.no constX_none f_mk_delf (by simp) fun hL => ?_
  simp only [c_mk_delf]
  have fin := Fin.keep (H0 := H) hK
  clear hK
  repeat' (first | (simp only [zmPack, zxPack, ne_eq, zfree, owners, Nat.reduceLT, List.contains_cons, List.contains_nil, Nat.reduceBEq, BEq.rfl, chunk, setAt, List.lookup_cons, List.lookup_nil, reduceCtorEq, Nat.reduceEqDiff, reduceIte, implies_true, forall_const, Nat.reduceMul, Nat.reduceSub, Nat.reduceAdd, Nat.reduceLeDiff, *]) | (simp only [zgoO, zgoG, zO_nil, zthen_normal, zgoC]) | (with_reducible apply And.intro) | (with_reducible intro _))
  refine idxi_z (l := []) (p := fun m => decide (m < 0)) rows_fz (by simp) (fun m hm => by cases hm) ?_
  have hi : idxP (fun m : Int => decide (m < 0)) [] = -1 := rfl
  rw [hi]
  clear hi
  repeat' (first | (simp only [zmPack, zxPack, ne_eq, zfree, owners, Nat.reduceLT, List.contains_cons, List.contains_nil, Nat.reduceBEq, BEq.rfl, chunk, setAt, List.lookup_cons, List.lookup_nil, reduceCtorEq, Nat.reduceEqDiff, reduceIte, implies_true, forall_const, Nat.reduceMul, Nat.reduceSub, Nat.reduceAdd, Nat.reduceLeDiff, *]) | (simp only [zgoO, zgoG, zO_nil, zthen_normal, zgoC]) | (with_reducible apply And.intro) | (with_reducible intro _))
theorem delfi_f {l : List Int} (hb : l.length ≤ 60) (l0 : L H.length = true) (hK : K (.fz 1 false ((keepN l).map eI)) (H ++ [.dead])) :
    ZC (constX tb) (cFunc Try.prog) 45 [.own H.length 0 0 l.length false, .func 47 []] L (H ++ [.grow 0 1 (l.map eI)]) K := by
  refine ZC.thenF (delfi_z (K := fun z H' => ∃ R : List (List ZV), R.take (keepN l).length = (keepN l).map eI ∧ (keepN l).length ≤ R.length ∧ (∀ r ∈ R, r.all pureZ = true) ∧ z = .own H.length 0 0 (keepN l).length false ∧ H' = H ++ [.grow 0 1 R]) hb l0 fun R h1 h2 h3 => ⟨R, h1, h2, h3, rfl, rfl⟩) fun z H' ⟨R, h1, h2, h3, e1, e2⟩ => ?_
  subst e1; subst e2
  refine Fin.frz (k := 1) (rows := R) (mv_at0 _ _) (by omega) (mv_pure h3) ?_
  rw [List.drop_zero, h1, mv_st0]
  exact Fin.keep hK
end Go.Proofs.Ytpeagenjmmkohaa

namespace Go.Proofs.Ytpeagenjmmkohaa
open Go Go.RowKit
set_option linter.unusedVariables false
set_option linter.unusedSimpArgs false
abbrev eL (l : List Int) : List ZV := [zI l]
variable {tb : List (FuncId × Bool)} {L : Nat → Bool} {H : ZH} {K : ZV → ZH → Prop} {p t g : Nat} {kd : Int} {mk : Bool} {T : List TB}
/-- Appending to all of a list of one's own. -/
theorem app_ownN {W : ZH} {k bytes i g n : Nat} {rows new : List (List ZV)} (hb : W[i]? = some (.grow g k rows)) (hn : rows.length = n) (hr : (n + new.length) * bytes ≤ reach) (hL : L i = true) : appZ L W k bytes new (.own i g 0 n false) = some (.own i (g + 1) 0 (n + new.length) false, W.set i (.grow (g + 1) k (rows ++ new))) := by
  rw [app_own]
  exact ⟨rows, hb, by omega, hr, hL, rfl, by rw [List.drop_zero, List.take_of_length_le (by omega)]⟩
/-- What things have; those that are held. -/
def hasOf (T : List TB) : List (List Int) := T.map fun x => keepN x.2.1
def heldB (T : List TB) : List Bool := T.map fun x => x.2.2.2
theorem hasOf_next {k : Nat} (hk : k < T.length) : hasOf (T.take (k + 1)) = hasOf (T.take k) ++ [keepN T[k].2.1] := by
  unfold hasOf; rw [List.take_succ_eq_append_getElem hk, List.map_append]; rfl
theorem held_next {k : Nat} (hk : k < T.length) : riseTo (heldB T) (k + 1) = riseTo (heldB T) k ++ (if T[k].2.2.2 = true then [(k : Int)] else []) := by
  rw [riseTo_succ]
  have : (heldB T).getD k false = T[k].2.2.2 := by simp [heldB, List.getD, hk]
  rw [this]
  split <;> simp
set_option maxHeartbeats 4000000 in
theorem graph_z (h : MkAt H p t g kd mk T) (hK : K (.agg [.fz 1 false ((hasOf T).map eL), .fz 1 false ((rising (heldB T)).map eI)]) H) : ZC (constX tb) (cFunc Try.prog) 27 [.ptr p 0] L H K := by
  refine ZC.enterL ⟨[(3, [(0, 1), (1, 1)])], [], []⟩ constX_none f_mk_graph (by simp) fun hL => ?_
  simp only [c_mk_graph]
  have hb : ∀ X, (H ++ X)[p]? = some (.box [Z64 kd, ZBo mk, .own t g 0 T.length false]) := fun X => (h.ext X).box
  have ha : ∀ X, (H ++ X)[t]? = some (.grow g 3 (T.map eT)) := fun X => (h.ext X).arr
  have hlen := h.len
  have HL := Lib.hid hlen
  have HM := Lib.hid h
  have HK := Lib.hid hK
  have h3 : ∀ X, rowsZ (H ++ X) 3 (.own t g 0 T.length false) = some (T.map eT) := fun X => rows_whole (ha _) (by simp)
  have hl3 : ∀ X, lenZ (H ++ X) (.own t g 0 T.length false) = some T.length := fun X => by have := rows_len (h3 X); rwa [List.length_map] at this
  clear hK hlen h3 h
  repeat' (first | (simp only [zmPack, zxPack, ne_eq, zfree, owners, Nat.reduceLT, List.contains_cons, List.contains_nil, Nat.reduceBEq, BEq.rfl, chunk, setAt, List.lookup_cons, List.lookup_nil, reduceCtorEq, Nat.reduceEqDiff, reduceIte, implies_true, forall_const, Nat.reduceMul, Nat.reduceSub, Nat.reduceAdd, Nat.reduceLeDiff, hb, hl3, *]) | (simp only [zgoO, zgoG, zO_nil, zthen_normal, zgoC]) | (with_reducible apply And.intro) | (with_reducible intro _))
  refine zW_forK [(9, .own t g 0 T.length false), (2, .ptr H.length 0), (3, .ptr (H.length + 1) 0)] T.length (fun k s' h' => ∃ g1 g2 X, h' = H ++ (.box [.nil, .nil] :: .box [.own (H.length + 2) g1 0 k false, .own (H.length + 3) g2 0 (riseTo (heldB T) k).length false] :: .grow g1 1 ((hasOf (T.take k)).map eL) :: .grow g2 1 ((riseTo (heldB T) k).map eI) :: X)) (by have := HL.out; omega) ⟨rfl, rfl, rfl, rfl, rfl, rfl⟩ rfl rfl (by repeat' (first | exact trivial | (refine ⟨rfl, ?_⟩) | (refine ⟨by simp only [zupd_at, Nat.reduceEqDiff, reduceIte]; assumption, ?_⟩))) rfl rfl (by decide) ⟨0, 0, [], rfl⟩ ?_ ?_
  · rintro k s' h' hk ⟨g1, g2, X, rfl⟩ hi hl ⟨f9, f2, f3, -⟩
    have hx : T[k]? = some T[k] := List.getElem?_eq_getElem hk
    have hmem : T[k] ∈ T := List.getElem_mem hk
    have hn := hasOf_next hk
    have hr := held_next hk
    obtain ⟨y, hy⟩ : ∃ y, y = T[k] := ⟨_, rfl⟩
    rw [← hy] at hx hn hr hmem
    obtain ⟨o, pl, co, he2⟩ := y
    simp only at hn hr
    have he : ∀ Y, elemZ (H ++ Y) 3 k (.own t g 0 T.length false) = some (.eptr t g k 0) := fun Y => by
      rw [elem_own]; exact ⟨_, ha _, by simp, hk, by simp⟩
    have hld : ∀ Y, ldZ (H ++ Y) (some 3) (.eptr t g k 0) = some (.agg (eT (o, pl, co, he2))) := fun Y => by
      rw [ld_eptr]; exact ⟨_, _, eT (o, pl, co, he2), ha _, by rw [List.getElem?_map, hx]; rfl, rfl⟩
    have het : eT (o, pl, co, he2) = [plZ (o, pl, co, he2), Z64 co, ZBo he2] := rfl
    have hcl : (plZ (o, pl, co, he2)).isCell = true := by cases o <;> rfl
    have hpl := HM.out.pl _ hmem
    have hsm := HM.out.sm _ hmem
    obtain ⟨pz, hpz⟩ : ∃ pz, pz = plZ (o, pl, co, he2) := ⟨_, rfl⟩
    rw [← hpz] at het hcl
    rw [het] at hld
    clear hx hmem hy
    have HPL := Lib.hid hpl
    have HPZ := Lib.hid hpz
    have HSM := Lib.hid hsm
    have HN := Lib.hid hn
    have HR := Lib.hid hr
    clear hpl hpz hsm hn hr het
    have a0 : ∀ A B C D E : ZB, (H ++ (A :: B :: C :: D :: (X ++ [E])))[H.length + (X.length + 4)]? = some E := fun A B C D E => by
      rw [List.getElem?_append_right (by omega), Nat.add_sub_cancel_left]; simp
    have s0 : ∀ A B C D E E2 : ZB, (H ++ (A :: B :: C :: D :: (X ++ [E]))).set (H.length + (X.length + 4)) E2 = H ++ (A :: B :: C :: D :: (X ++ [E2])) := fun A B C D E E2 => by
      rw [List.set_append_right _ _ (by omega), Nat.add_sub_cancel_left]; simp
    have lx : ∀ n, L (H.length + n) = true := fun n => by cases n with
      | zero => exact hL 0
      | succ n => exact hL (n + 1)
    have hlt : H.length + 1 < H.length + (X.length + 1 + 1 + 1 + 1 + 1) := by omega
    have hap1 : ∀ A B C Y, appZ L (H ++ (A :: B :: .grow g1 1 ((hasOf (T.take k)).map eL) :: C :: Y)) 1 24 [[.fz 1 false ((keepN pl).map eI)]] (.own (H.length + 2) g1 0 k false) = some (.own (H.length + 2) (g1 + 1) 0 (k + 1) false, H ++ (A :: B :: .grow (g1 + 1) 1 ((hasOf (T.take (k + 1))).map eL) :: C :: Y)) := fun A B C Y => by
      have hln : (hasOf (T.take k)).length = k := by simp [hasOf]; omega
      rw [app_ownN (by rw [List.getElem?_append_right (by omega), Nat.add_sub_cancel_left]; rfl) (by rw [List.length_map]; exact hln) (by have := HL.out; unfold reach; simp; omega) (lx 2), List.set_append_right _ _ (by omega), Nat.add_sub_cancel_left, HN.out, List.map_append]; rfl
    have hap2 : ∀ A B C Y, appZ L (H ++ (A :: B :: C :: .grow g2 1 ((riseTo (heldB T) k).map eI) :: Y)) 1 8 [[Z64 k]] (.own (H.length + 3) g2 0 (riseTo (heldB T) k).length false) = some (.own (H.length + 3) (g2 + 1) 0 ((riseTo (heldB T) k).length + 1) false, H ++ (A :: B :: C :: .grow (g2 + 1) 1 ((riseTo (heldB T) k ++ [(k : Int)]).map eI) :: Y)) := fun A B C Y => by
      have hln := riseTo_length (heldB T) k
      rw [app_ownN (by rw [List.getElem?_append_right (by omega), Nat.add_sub_cancel_left]; rfl) (by rw [List.length_map]) (by have := HL.out; unfold reach; simp; omega) (lx 3), List.set_append_right _ _ (by omega), Nat.add_sub_cancel_left, List.map_append]; rfl
    have a2 : ∀ A B C D E Y, (H ++ (A :: B :: C :: D :: (X ++ (E :: Y))))[H.length + (X.length + 4)]? = some E := fun A B C D E Y => by
      rw [List.getElem?_append_right (by omega), Nat.add_sub_cancel_left]; simp
    have l1 : (fun i => L i && !i == H.length + 1) (H.length + (X.length + 5)) = true := by
      simp [lx]
    have HAP := Lib.hid hap1
    have HAQ := Lib.hid hap2
    have HA2 := Lib.hid a2
    have H1 := Lib.hid l1
    have HLD := Lib.hid hld
    clear hap1 hap2 a2 l1
    repeat' (first | (simp only [zmPack, zxPack, ne_eq, zfree, owners, Nat.reduceLT, List.contains_cons, List.contains_nil, Nat.reduceBEq, BEq.rfl, chunk, setAt, List.lookup_cons, List.lookup_nil, reduceCtorEq, Nat.reduceEqDiff, reduceIte, implies_true, forall_const, Nat.reduceMul, Nat.reduceSub, Nat.reduceAdd, Nat.reduceLeDiff, he, hld, hcl, a0, s0, lx, hlt, *]) | (simp only [zgoO, zgoG, zO_nil, zthen_normal, zgoC]) | (with_reducible apply And.intro) | (with_reducible intro _))
    clear hld he hb hl3 hlt lx a0 s0
    obtain ⟨W, hW⟩ : ∃ W, W = H ++ (.box [.nil, .nil] :: .box [.own (H.length + 2) g1 0 k false, .own (H.length + 3) g2 0 (riseTo (heldB T) k).length false] :: .grow g1 1 ((hasOf (T.take k)).map eL) :: .grow g2 1 ((riseTo (heldB T) k).map eI) :: (X ++ [.box [pz, Z64 co, ZBo he2]])) := ⟨_, rfl⟩
    rw [← hW]
    have hWl : W.length = H.length + (X.length + 5) := by rw [hW]; simp
    have l1 := H1.out
    rw [← hWl] at l1
    have HW := Lib.hid hW
    have HWl := Lib.hid hWl
    have HL1 := Lib.hid l1
    clear hW hWl l1 H1
    have hap1 := HAP.out
    have hap2 := HAQ.out
    have a2 := HA2.out
    have lx : ∀ n, L (H.length + n) = true := fun n => by cases n with
      | zero => exact hL 0
      | succ n => exact hL (n + 1)
    have HE : ∀ g1' g2' X', Hid (∀ R, R = riseTo (heldB T) (k + 1) → ∃ g1 g2 Z, H ++ (.box [.nil, .nil] :: .box [.own (H.length + 2) g1' 0 (k + 1) false, .own (H.length + 3) g2' 0 R.length false] :: .grow g1' 1 ((hasOf (T.take (k + 1))).map eL) :: .grow g2' 1 (R.map eI) :: X') = H ++ (.box [.nil, .nil] :: .box [.own (H.length + 2) g1 0 (k + 1) false, .own (H.length + 3) g2 0 (riseTo (heldB T) (k + 1)).length false] :: .grow g1 1 ((hasOf (T.take (k + 1))).map eL) :: .grow g2 1 ((riseTo (heldB T) (k + 1)).map eI) :: Z)) := fun g1' g2' X' => Lib.hid (fun R hR => by subst hR; exact ⟨_, _, _, rfl⟩)
    cases o with
    | none =>
      have hp0 : pl = [] := HPL.out
      have hz0 : pz = .fz 1 false [] := HPZ.out
      subst hp0
      subst hz0
      refine clonei_0 ?_
      repeat' (first | (simp only [zmPack, zxPack, ne_eq, zfree, owners, Nat.reduceLT, List.contains_cons, List.contains_nil, Nat.reduceBEq, BEq.rfl, chunk, setAt, List.lookup_cons, List.lookup_nil, reduceCtorEq, Nat.reduceEqDiff, reduceIte, implies_true, forall_const, Nat.reduceMul, Nat.reduceSub, Nat.reduceAdd, Nat.reduceLeDiff, *]) | (simp only [zgoO, zgoG, zO_nil, zthen_normal, zgoC]) | (with_reducible apply And.intro) | (with_reducible intro _))
      refine delfi_0 ?_
      rw [HW.out]
      have hap1 : ∀ A B C Y, appZ L (H ++ (A :: B :: .grow g1 1 ((hasOf (T.take k)).map eL) :: C :: Y)) 1 24 [[.fz 1 false []]] (.own (H.length + 2) g1 0 k false) = some (.own (H.length + 2) (g1 + 1) 0 (k + 1) false, H ++ (A :: B :: .grow (g1 + 1) 1 ((hasOf (T.take (k + 1))).map eL) :: C :: Y)) := hap1
      clear hcl ha
      cases he2 with
      | true =>
        repeat' (first | (simp only [zmPack, zxPack, ne_eq, zfree, owners, Nat.reduceLT, List.contains_cons, List.contains_nil, Nat.reduceBEq, BEq.rfl, chunk, setAt, List.lookup_cons, List.lookup_nil, reduceCtorEq, Nat.reduceEqDiff, reduceIte, implies_true, forall_const, Nat.reduceMul, Nat.reduceSub, Nat.reduceAdd, Nat.reduceLeDiff, hap1, hap2, a2, lx, *]) | (simp only [zgoO, zgoG, zO_nil, zthen_normal, zgoC]) | (with_reducible apply And.intro) | (with_reducible intro _))
        all_goals (rw [HR.out, if_pos rfl, List.length_append]; exact ⟨_, _, _, rfl⟩)
      | false =>
        repeat' (first | (simp only [zmPack, zxPack, ne_eq, zfree, owners, Nat.reduceLT, List.contains_cons, List.contains_nil, Nat.reduceBEq, BEq.rfl, chunk, setAt, List.lookup_cons, List.lookup_nil, reduceCtorEq, Nat.reduceEqDiff, reduceIte, implies_true, forall_const, Nat.reduceMul, Nat.reduceSub, Nat.reduceAdd, Nat.reduceLeDiff, hap1, hap2, a2, lx, *]) | (simp only [zgoO, zgoG, zO_nil, zthen_normal, zgoC]) | (with_reducible apply And.intro) | (with_reducible intro _))
        all_goals (rw [HR.out, if_neg (by decide), List.append_nil]; exact ⟨_, _, _, rfl⟩)
    | some j =>
      have hz0 : pz = .own j 0 0 pl.length false := HPZ.out
      obtain ⟨hne, hj⟩ := HPL.out
      simp only at hne hj
      subst hz0
      have hjW : W[j]? = some (.grow 0 1 (pl.map eI)) := by
        rw [HW.out, List.getElem?_append_left (lt_of_get hj)]; exact hj
      clear hj
      match pl, hne, hjW, HSM, hap1, HN, HPL, HPZ, hcl, HLD, HW, HAP with
      | [], h, _, _, _, _, _, _, _, _, _, _ => exact absurd rfl h
      | a :: l, _, hjW, HSM, hap1, HN, HPL, HPZ, hcl, HLD, HW, HAP =>
      have hb := HSM.out
      simp only at hb
      refine clonei_1 (a := a) (l := l) hjW (by simp at hb; omega) ?_
      have HB := Lib.hid hb
      clear hb hjW HAP
      obtain ⟨N, hN⟩ : ∃ N, N = (a :: l).length := ⟨_, rfl⟩
      obtain ⟨R, hR⟩ : ∃ R, R = (a :: l).map eI := ⟨_, rfl⟩
      rw [← hN, ← hR]
      have HNN := Lib.hid hN
      have HRR := Lib.hid hR
      clear hN hR
      repeat' (first | (simp only [zmPack, zxPack, ne_eq, zfree, owners, Nat.reduceLT, List.contains_cons, List.contains_nil, Nat.reduceBEq, BEq.rfl, chunk, setAt, List.lookup_cons, List.lookup_nil, reduceCtorEq, Nat.reduceEqDiff, reduceIte, implies_true, forall_const, Nat.reduceMul, Nat.reduceSub, Nat.reduceAdd, Nat.reduceLeDiff, *]) | (simp only [zgoO, zgoG, zO_nil, zthen_normal, zgoC]) | (with_reducible apply And.intro) | (with_reducible intro _))
      rw [HNN.out, HRR.out]
      refine delfi_f (by have := HB.out; omega) HL1.out ?_
      rw [HW.out]
      clear ha
      cases he2 with
      | true =>
        repeat' (first | (simp only [zmPack, zxPack, ne_eq, zfree, owners, Nat.reduceLT, List.contains_cons, List.contains_nil, Nat.reduceBEq, BEq.rfl, chunk, setAt, List.lookup_cons, List.lookup_nil, reduceCtorEq, Nat.reduceEqDiff, reduceIte, implies_true, forall_const, Nat.reduceMul, Nat.reduceSub, Nat.reduceAdd, Nat.reduceLeDiff, hap1, hap2, a2, lx, *]) | (simp only [zgoO, zgoG, zO_nil, zthen_normal, zgoC]) | (with_reducible apply And.intro) | (with_reducible intro _))
        all_goals (rw [HR.out, if_pos rfl, List.length_append]; exact ⟨_, _, _, rfl⟩)
      | false =>
        repeat' (first | (simp only [zmPack, zxPack, ne_eq, zfree, owners, Nat.reduceLT, List.contains_cons, List.contains_nil, Nat.reduceBEq, BEq.rfl, chunk, setAt, List.lookup_cons, List.lookup_nil, reduceCtorEq, Nat.reduceEqDiff, reduceIte, implies_true, forall_const, Nat.reduceMul, Nat.reduceSub, Nat.reduceAdd, Nat.reduceLeDiff, hap1, hap2, a2, lx, *]) | (simp only [zgoO, zgoG, zO_nil, zthen_normal, zgoC]) | (with_reducible apply And.intro) | (with_reducible intro _))
        all_goals (rw [HR.out, if_neg (by decide), List.append_nil]; exact ⟨_, _, _, rfl⟩)
  · rintro s' h' ⟨g1, g2, X, rfl⟩ ⟨f9, f2, f3, -⟩
    have fin : Fin H (.agg [.own (H.length + 2) g1 0 T.length false, .own (H.length + 3) g2 0 (riseTo (heldB T) T.length).length false]) (H ++ (.box [.own (H.length + 2) g1 0 T.length false, .own (H.length + 3) g2 0 (riseTo (heldB T) T.length).length false] :: .box [.own (H.length + 2) g1 0 T.length false, .own (H.length + 3) g2 0 (riseTo (heldB T) T.length).length false] :: .grow g1 1 ((hasOf (T.take T.length)).map eL) :: .grow g2 1 ((riseTo (heldB T) T.length).map eI) :: X)) K := by
      rw [List.take_of_length_le (Nat.le_refl _)]
      have e : riseTo (heldB T) T.length = rising (heldB T) := by unfold rising; rw [show (heldB T).length = T.length by simp [heldB]]
      rw [e]
      refine Fin.frzA (j := 0) (k := 1) (rows := (hasOf T).map eL) rfl (by rw [List.getElem?_append_right (by omega), Nat.add_sub_cancel_left]; rfl) (by simp [hasOf]) (mv_pure (fun r hr => by obtain ⟨x, _, rfl⟩ := List.mem_map.1 hr; rfl)) ?_
      rw [List.set_append_right _ _ (by omega), Nat.add_sub_cancel_left]
      refine Fin.frzA (j := 1) (k := 1) (rows := (rising (heldB T)).map eI) rfl (by rw [List.getElem?_append_right (by omega), Nat.add_sub_cancel_left]; rfl) (by simp) (mv_pure (fun r hr => by obtain ⟨x, _, rfl⟩ := List.mem_map.1 hr; rfl)) ?_
      rw [List.set_append_right _ _ (by omega), Nat.add_sub_cancel_left]
      rw [List.drop_zero, List.take_of_length_le (by simp [hasOf]), List.drop_zero, List.take_of_length_le (by simp)]
      exact Fin.trunc (Mods.ext H _) rfl (by rw [List.take_left]; exact HK.out)
    clear hl3 hb ha
    have l0 : L H.length = true := hL 0
    repeat' (first | (simp only [zmPack, zxPack, ne_eq, zfree, owners, Nat.reduceLT, List.contains_cons, List.contains_nil, Nat.reduceBEq, BEq.rfl, chunk, setAt, List.lookup_cons, List.lookup_nil, reduceCtorEq, Nat.reduceEqDiff, reduceIte, implies_true, forall_const, Nat.reduceMul, Nat.reduceSub, Nat.reduceAdd, Nat.reduceLeDiff, l0, *]) | (simp only [zgoO, zgoG, zO_nil, zthen_normal, zgoC]) | (with_reducible apply And.intro) | (with_reducible intro _))
end Go.Proofs.Ytpeagenjmmkohaa
