/-
  'EndsStay' in ZM.
-/
import Derived.Test.YtfmllmcjinjfaaaMrO9
namespace Go.Proofs.Ytfmllmcjinjfaaa
open Go Go.RowKit
set_option linter.unusedVariables false
set_option linter.unusedSimpArgs false
abbrev tbE : List (FuncId × Bool) := [(16, true)]
theorem yes_z {L : Nat → Bool} {H : ZH} {K : ZV → ZH → Prop} (k : K (ZBo true) H) : ZC (constX tbE) (cFunc Try.prog) 16 [] L H K :=
  ZC.const (fun args fl hp ha => constX_some (l := tbE) (f := 16) (b := true) rfl args fl hp ha) k
variable {has : List (List Int)} {roots l : List Int}
end Go.Proofs.Ytfmllmcjinjfaaa

namespace Go.Proofs.Ytfmllmcjinjfaaa
open Go Go.RowKit
set_option linter.unusedVariables false
set_option linter.unusedSimpArgs false
/-! ### Plain -/
noncomputable def hadB (has : List (List Int)) (n : Int) : List Bool := liveSb has [] (has.getD n.toNat [])
noncomputable def hadF (has : List (List Int)) (k n : Int) : Bool := (hadB has k).getD n.toNat false
noncomputable def byP (has : List (List Int)) (left : List Int) (n : Int) : Bool := left.any fun k => decide (k ≠ n) && hadF has k n
noncomputable def nowL (has : List (List Int)) (left : List Int) : List Int := if keepP (byP has left) left = [] then left else keepP (byP has left) left
noncomputable def leftL (has : List (List Int)) (left : List Int) : List Int := keepP (fun n => decide (n ∈ nowL has left)) left
theorem mem_keep {p : Int → Bool} {l : List Int} {x : Int} : x ∈ keepP p l ↔ x ∈ l ∧ p x = false := by unfold keepP; rw [List.mem_filter]; simp
theorem now_sub {has : List (List Int)} {left : List Int} {x : Int} (h : x ∈ nowL has left) : x ∈ left := by
  unfold nowL at h
  split at h
  · exact h
  · exact (mem_keep.1 h).1
theorem now_ne {has : List (List Int)} {left : List Int} (h : left ≠ []) : nowL has left ≠ [] := by
  unfold nowL; split
  · exact h
  · assumption
theorem left_less {has : List (List Int)} {left : List Int} (h : left ≠ []) : (leftL has left).length < left.length := by
  obtain ⟨x, hx⟩ := List.exists_mem_of_ne_nil _ (now_ne (has := has) h)
  unfold leftL keepP
  refine Nat.lt_of_le_of_ne (List.length_filter_le _ _) fun e => ?_
  have := List.length_filter_eq_length_iff.1 e x (now_sub hx)
  simp [hx] at this
noncomputable def roundsF (has : List (List Int)) : Nat → List Int → List (List Int)
  | 0, _ => []
  | n + 1, left => if left = [] then [] else nowL has left :: roundsF has n (leftL has left)
theorem roundsF_more {has : List (List Int)} : ∀ (n m : Nat) (left : List Int), left.length ≤ n → left.length ≤ m → roundsF has n left = roundsF has m left
  | 0, m, left, h1, h2 => by
    have e : left = [] := List.eq_nil_of_length_eq_zero (by omega)
    subst e
    cases m with
    | zero => rfl
    | succ m => simp [roundsF]
  | n + 1, 0, left, h1, h2 => by
    have e : left = [] := List.eq_nil_of_length_eq_zero (by omega)
    subst e; simp [roundsF]
  | n + 1, m + 1, left, h1, h2 => by
    unfold roundsF
    split
    · rfl
    · rename_i h
      have := left_less (has := has) h
      rw [roundsF_more n m _ (by omega) (by omega)]
noncomputable def rounds (has : List (List Int)) (left : List Int) : List (List Int) := roundsF has left.length left
theorem rounds_nil {has : List (List Int)} : rounds has [] = [] := rfl
theorem rounds_step {has : List (List Int)} {left : List Int} (h : left ≠ []) : rounds has left = nowL has left :: rounds has (leftL has left) := by
  unfold rounds
  obtain ⟨n, hn⟩ : ∃ n, left.length = n + 1 := ⟨left.length - 1, by have := List.length_pos_iff.2 h; omega⟩
  have := left_less (has := has) h
  rw [hn]
  conv => lhs; unfold roundsF
  rw [if_neg h, roundsF_more n _ _ (by omega) (Nat.le_refl _)]
theorem zfind_put {n m : Int} {z : ZV} : ∀ {l : List (Int × ZV)}, zfind (zmput l n z) m = if m = n then some z else zfind l m
  | [] => by simp [zmput, zfind]
  | (k, x) :: r => by
    unfold zmput
    by_cases hnk : n = k
    · rw [if_pos hnk]
      subst hnk
      by_cases hmn : m = n <;> simp [zfind, hmn]
    · rw [if_neg hnk]
      show (if m = k then some x else zfind (zmput r n z) m) = _
      by_cases hmk : m = k
      · rw [if_pos hmk]
        subst hmk
        rw [if_neg (Ne.symm hnk)]; simp [zfind]
      · rw [if_neg hmk, zfind_put]
        simp [zfind, hmk]
theorem ent_eq {a b : List (Int × ZV)} : (a.map ent = b.map ent) ↔ a = b := by
  constructor
  · intro h
    have hi : ∀ x y : Int × ZV, ent x = ent y → x = y := fun x y h => by
      simp only [ent, ZV.tuple.injEq, List.cons.injEq, ZV.val.injEq, Value.int.injEq, true_and, and_true] at h
      exact Prod.ext h.1 h.2
    induction a generalizing b with
    | nil => cases b with
      | nil => rfl
      | cons => simp at h
    | cons x a ih => cases b with
      | nil => simp at h
      | cons y b =>
        simp only [List.map_cons, List.cons.injEq] at h
        rw [hi x y h.1, ih h.2]
  · rintro rfl; rfl
/-! ### Closures -/
variable {tb : List (FuncId × Bool)} {L : Nat → Bool} {H : ZH} {K : ZV → ZH → Prop}
theorem idx_ge {α : Type} {p : α → Bool} {l : List α} : decide ((0 : Int) ≤ idxP p l) = l.any p := by
  unfold idxP
  cases h : l.findIdx? p with
  | none =>
    have := List.findIdx?_eq_none_iff.1 h
    simp only [Int.reduceNeg, show ¬ ((0 : Int) ≤ -1) by omega, decide_false]
    symm
    rw [List.any_eq_false]
    intro x hx; rw [this x hx]; simp
  | some i =>
    obtain ⟨h1, h2, _⟩ := List.findIdx?_eq_some_iff_getElem.1 h
    have h3 : (0 : Int) ≤ (i : Int) := by omega
    simp only [h3, decide_true]
    symm
    exact List.any_eq_true.2 ⟨_, List.getElem_mem h1, h2⟩
theorem cf_z {z : ZV} {l : List Int} {p : Int → Bool} {f : FuncId} {caps : List ZV} (hz : rowsZ H 1 z = some (l.map eI)) (hb : l.length ≤ 100000000000000) (hf : ∀ m ∈ l, ∀ K, K (ZBo (p m)) H → ZC (constX tb) (cFunc Try.prog) f (Z64 m :: caps) L H K) (hK : K (ZBo (l.any p)) H) :
    ZC (constX tb) (cFunc Try.prog) 32 [z, .func f caps] L H K := by
  refine ZC.enter Gh.no constX_none f_ge_cf (by simp) ?_
  simp only [c_ge_cf]
  have HF := Lib.hid hf
  have fin := Fin.keep (H0 := H) hK
  clear hf hK
  have HZ := Lib.hid hz
  clear hz
  repeat' (first | (simp only [zmPack, zxPack, ne_eq, zfree, owners, Nat.reduceLT, List.contains_cons, List.contains_nil, Nat.reduceBEq, BEq.rfl, chunk, setAt, List.lookup_cons, List.lookup_nil, reduceCtorEq, Nat.reduceEqDiff, reduceIte, implies_true, forall_const, Nat.reduceMul, Nat.reduceSub, Nat.reduceAdd, Nat.reduceLeDiff, *]) | (simp only [zgoO, zgoG, zO_nil, zthen_normal, zgoC]) | (with_reducible apply And.intro) | (with_reducible intro _))
  refine idxi_z HZ.out hb HF.out ?_
  repeat' (first | (simp only [zmPack, zxPack, ne_eq, zfree, owners, Nat.reduceLT, List.contains_cons, List.contains_nil, Nat.reduceBEq, BEq.rfl, chunk, setAt, List.lookup_cons, List.lookup_nil, reduceCtorEq, Nat.reduceEqDiff, reduceIte, implies_true, forall_const, Nat.reduceMul, Nat.reduceSub, Nat.reduceAdd, Nat.reduceLeDiff, idx_ge, *]) | (simp only [zgoO, zgoG, zO_nil, zthen_normal, zgoC]) | (with_reducible apply And.intro) | (with_reducible intro _))
theorem index_z {ex : Bool} {l : List Int} {a : Int} (hl : l.length ≤ 1000) (hK : ∀ i : Int, (0 ≤ i ↔ a ∈ l) → K (Z64 i) H) : ZC (constX tb) (cFunc Try.prog) 49 [.fz 1 ex (l.map eI), Z64 a] L H K := by
  refine ZC.enter Gh.no constX_none f_ge_index (by simp) ?_
  simp only [c_ge_index]
  have HK := Lib.hid hK
  clear hK
  have hlen : l.length < 9223372036854775807 := by omega
  repeat' (first | (simp only [zmPack, zxPack, ne_eq, zfree, owners, Nat.reduceLT, List.contains_cons, List.contains_nil, Nat.reduceBEq, BEq.rfl, chunk, setAt, List.lookup_cons, List.lookup_nil, reduceCtorEq, Nat.reduceEqDiff, reduceIte, implies_true, forall_const, Nat.reduceMul, Nat.reduceSub, Nat.reduceAdd, Nat.reduceLeDiff, *]) | (simp only [zgoO, zgoG, zO_nil, zthen_normal, zgoC]) | (with_reducible apply And.intro) | (with_reducible intro _))
  refine zW_forK [(0, .fz 1 ex (l.map eI)), (1, Z64 a)] l.length (fun k s' h' => h' = H ∧ a ∉ l.take k) (by omega) ⟨rfl, rfl, rfl, rfl, rfl, rfl⟩ rfl rfl (by repeat' (first | exact trivial | (refine ⟨rfl, ?_⟩) | (refine ⟨by simp only [zupd_at, Nat.reduceEqDiff, reduceIte]; assumption, ?_⟩))) rfl rfl (by decide) ⟨rfl, by simp⟩ ?_ ?_
  · rintro k s' h' hk ⟨rfl, hno⟩ hi hl2 ⟨f0, f1, -⟩
    have hx : l[k]? = some l[k] := List.getElem?_eq_getElem hk
    obtain ⟨q, hq⟩ : ∃ q, q = l[k] := ⟨_, rfl⟩
    have hmem : q ∈ l := by rw [hq]; exact List.getElem_mem hk
    have hnx := Lib.hid (show ¬ (a = q) → a ∉ l.take (k + 1) from fun h => by rw [List.take_succ_eq_append_getElem hk, ← hq]; simp [hno, h])
    rw [← hq] at hx
    clear hq hno
    by_cases hc : a = q
    · have fin := Fin.keep (H0 := h') (HK.out (k : Int) ⟨fun _ => by rw [hc]; exact hmem, fun _ => by omega⟩)
      subst hc
      have e1 : decide (a = a) = true := by simp
      repeat' (first | (simp only [zmPack, zxPack, ne_eq, zfree, owners, Nat.reduceLT, List.contains_cons, List.contains_nil, Nat.reduceBEq, BEq.rfl, chunk, setAt, List.lookup_cons, List.lookup_nil, reduceCtorEq, Nat.reduceEqDiff, reduceIte, implies_true, forall_const, Nat.reduceMul, Nat.reduceSub, Nat.reduceAdd, Nat.reduceLeDiff, hx, f0, f1, *]) | (simp only [zgoO, zgoG, zO_nil, zthen_normal, zgoC]) | (with_reducible apply And.intro) | (with_reducible intro _))
    · have fin := hnx.out hc
      have hc2 : ¬ (q = a) := fun h => hc h.symm
      repeat' (first | (simp only [zmPack, zxPack, ne_eq, zfree, owners, Nat.reduceLT, List.contains_cons, List.contains_nil, Nat.reduceBEq, BEq.rfl, chunk, setAt, List.lookup_cons, List.lookup_nil, reduceCtorEq, Nat.reduceEqDiff, reduceIte, implies_true, forall_const, Nat.reduceMul, Nat.reduceSub, Nat.reduceAdd, Nat.reduceLeDiff, hx, f0, f1, hc, hc2, *]) | (simp only [zgoO, zgoG, zO_nil, zthen_normal, zgoC]) | (with_reducible apply And.intro) | (with_reducible intro _))
  · rintro s' h' ⟨rfl, hno⟩ ⟨f0, f1, -⟩
    rw [List.take_of_length_le (Nat.le_refl _)] at hno
    have fin := Fin.keep (H0 := h') (HK.out (-1) ⟨fun h => by omega, fun h => absurd h hno⟩)
    clear hno
    repeat' (first | (simp only [zmPack, zxPack, ne_eq, zfree, owners, Nat.reduceLT, List.contains_cons, List.contains_nil, Nat.reduceBEq, BEq.rfl, chunk, setAt, List.lookup_cons, List.lookup_nil, reduceCtorEq, Nat.reduceEqDiff, reduceIte, implies_true, forall_const, Nat.reduceMul, Nat.reduceSub, Nat.reduceAdd, Nat.reduceLeDiff, *]) | (simp only [zgoO, zgoG, zO_nil, zthen_normal, zgoC]) | (with_reducible apply And.intro) | (with_reducible intro _))
theorem contains_z {ex : Bool} {l : List Int} {a : Int} (hl : l.length ≤ 1000) (hK : K (ZBo (decide (a ∈ l))) H) : ZC (constX tb) (cFunc Try.prog) 35 [.fz 1 ex (l.map eI), Z64 a] L H K := by
  refine ZC.enter Gh.no constX_none f_ge_contains (by simp) ?_
  simp only [c_ge_contains]
  have HK := Lib.hid hK
  clear hK
  repeat' (first | (simp only [zmPack, zxPack, ne_eq, zfree, owners, Nat.reduceLT, List.contains_cons, List.contains_nil, Nat.reduceBEq, BEq.rfl, chunk, setAt, List.lookup_cons, List.lookup_nil, reduceCtorEq, Nat.reduceEqDiff, reduceIte, implies_true, forall_const, Nat.reduceMul, Nat.reduceSub, Nat.reduceAdd, Nat.reduceLeDiff, *]) | (simp only [zgoO, zgoG, zO_nil, zthen_normal, zgoC]) | (with_reducible apply And.intro) | (with_reducible intro _))
  refine index_z hl fun i hi => ?_
  have fin := Fin.keep (H0 := H) HK.out
  have hd : decide (a ∈ l) = decide (0 ≤ i) := by by_cases h : a ∈ l <;> simp [h, hi]
  rw [hd] at fin
  clear hi hd
  repeat' (first | (simp only [zmPack, zxPack, ne_eq, zfree, owners, Nat.reduceLT, List.contains_cons, List.contains_nil, Nat.reduceBEq, BEq.rfl, chunk, setAt, List.lookup_cons, List.lookup_nil, reduceCtorEq, Nat.reduceEqDiff, reduceIte, implies_true, forall_const, Nat.reduceMul, Nat.reduceSub, Nat.reduceAdd, Nat.reduceLeDiff, *]) | (simp only [zgoO, zgoG, zO_nil, zthen_normal, zgoC]) | (with_reducible apply And.intro) | (with_reducible intro _))

def MapOk (has : List (List Int)) (M : List (Int × ZV)) (ks : List Int) : Prop := ∀ k ∈ ks, zfind M k = some (.fz 1 false ((hadB has k).map eB))
theorem MapOk.put {has : List (List Int)} {M : List (Int × ZV)} {ks : List Int} {n : Int} (h : MapOk has M ks) : MapOk has (zmput M n (.fz 1 false ((hadB has n).map eB))) (ks ++ [n]) := fun k hk => by
  rw [zfind_put]
  split
  · rename_i e; rw [e]
  · rename_i e
    rcases List.mem_append.1 hk with hk | hk
    · exact h k hk
    · exact absurd (List.mem_singleton.1 hk) e
theorem raa_z {has : List (List Int)} {M : List (Int × ZV)} {k n : Int} {nb mb m : Nat} (hn : H[nb]? = some (.box [Z64 n])) (hm : H[mb]? = some (.box [.mp m])) (hM : H[m]? = some (.box (M.map ent))) (hk : zfind M k = some (.fz 1 false ((hadB has k).map eB))) (h0 : 0 ≤ n ∧ n.toNat < has.length) (hK : K (ZBo (decide (k ≠ n) && hadF has k n)) H) :
    ZC (constX tb) (cFunc Try.prog) 33 [Z64 k, .ptr nb 0, .ptr mb 0] L H K := by
  refine ZC.enter Gh.no constX_none f_en_raa (by simp) ?_
  simp only [c_en_raa]
  obtain ⟨h1, h2⟩ := h0
  obtain ⟨j, rfl⟩ := Int.eq_ofNat_of_zero_le h1
  rw [Int.toNat_natCast] at h2
  have hl : (hadB has k).length = has.length := liveSb_length ..
  have hx : (hadB has k)[j]? = some (hadF has k j) := by
    unfold hadF
    rw [Int.toNat_natCast, List.getD_eq_getElem?_getD, List.getElem?_eq_getElem (by omega)]; rfl
  obtain ⟨hb, hbe⟩ : ∃ hb, hb = hadB has k := ⟨_, rfl⟩
  obtain ⟨c, hc⟩ : ∃ c, c = hadF has k j := ⟨_, rfl⟩
  rw [← hbe] at hk hx hl
  rw [← hc] at hx hK
  have hjl : j < hb.length := by omega
  by_cases he : k = (j : Int)
  · have fin := Fin.keep (H0 := H) hK
    rw [decide_eq_false (fun q => q he), Bool.false_and] at fin
    clear hK hbe hc hl h1 h2
    repeat' (first | (simp only [zmPack, zxPack, ne_eq, zfree, owners, Nat.reduceLT, List.contains_cons, List.contains_nil, Nat.reduceBEq, BEq.rfl, chunk, setAt, List.lookup_cons, List.lookup_nil, reduceCtorEq, Nat.reduceEqDiff, reduceIte, implies_true, forall_const, Nat.reduceMul, Nat.reduceSub, Nat.reduceAdd, Nat.reduceLeDiff, hn, he, *]) | (simp only [zgoO, zgoG, zO_nil, zthen_normal, zgoC]) | (with_reducible apply And.intro) | (with_reducible intro _))
  · have fin := Fin.keep (H0 := H) hK
    rw [decide_eq_true he, Bool.true_and] at fin
    have hg : ∀ z0, mgot false z0 (some (.fz 1 false (hb.map eB))) = .fz 1 false (hb.map eB) := fun z0 => rfl
    clear hK hbe hc hl h1 h2
    repeat' (first | (simp only [zmPack, zxPack, ne_eq, zfree, owners, Nat.reduceLT, List.contains_cons, List.contains_nil, Nat.reduceBEq, BEq.rfl, chunk, setAt, List.lookup_cons, List.lookup_nil, reduceCtorEq, Nat.reduceEqDiff, reduceIte, implies_true, forall_const, Nat.reduceMul, Nat.reduceSub, Nat.reduceAdd, Nat.reduceLeDiff, hn, hm, hM, he, hk, hg, hx, hjl, z_mapGet, ZV.mp.injEq, ent_eq, *]) | (simp only [zgoO, zgoG, zO_nil, zthen_normal, zgoC]) | (with_reducible apply And.intro) | (with_reducible intro _))
    all_goals fail
end Go.Proofs.Ytfmllmcjinjfaaa

namespace Go.Proofs.Ytfmllmcjinjfaaa
open Go Go.RowKit
set_option linter.unusedVariables false
set_option linter.unusedSimpArgs false
variable {tb : List (FuncId × Bool)} {L : Nat → Bool} {H : ZH} {K : ZV → ZH → Prop}
theorem ra_z {has : List (List Int)} {M : List (Int × ZV)} {left : List Int} {n : Int} {lb mb m : Nat} (hl : ∀ Y, (H ++ Y)[lb]? = some (.box [.fz 1 false (left.map eI)])) (hm : ∀ Y, (H ++ Y)[mb]? = some (.box [.mp m])) (hM : ∀ Y, (H ++ Y)[m]? = some (.box (M.map ent))) (hk : MapOk has M left) (hb : left.length ≤ 1000) (h0 : 0 ≤ n ∧ n.toNat < has.length) (hK : K (ZBo (byP has left n)) H) :
    ZC (constX tb) (cFunc Try.prog) 31 [Z64 n, .ptr lb 0, .ptr mb 0] L H K := by
  refine ZC.enter Gh.no constX_none f_en_ra (by simp) ?_
  simp only [c_en_ra]
  have fin : Fin H (ZBo (byP has left n)) (H ++ [.box [Z64 n]]) K := Fin.trunc (Mods.ext H _) rfl (by rw [List.take_left]; exact hK)
  have HM := Lib.hid hm
  have HMM := Lib.hid hM
  have HMK := Lib.hid hk
  have H0 := Lib.hid h0
  clear hK hm hM hk h0
  repeat' (first | (simp only [zmPack, zxPack, ne_eq, zfree, owners, Nat.reduceLT, List.contains_cons, List.contains_nil, Nat.reduceBEq, BEq.rfl, chunk, setAt, List.lookup_cons, List.lookup_nil, reduceCtorEq, Nat.reduceEqDiff, reduceIte, implies_true, forall_const, Nat.reduceMul, Nat.reduceSub, Nat.reduceAdd, Nat.reduceLeDiff, hl, *]) | (simp only [zgoO, zgoG, zO_nil, zthen_normal, zgoC]) | (with_reducible apply And.intro) | (with_reducible intro _))
  refine cf_z (p := fun k => decide (k ≠ n) && hadF has k n) rows_fz (by omega) (fun k hkl K2 hk2 => raa_z (by rw [List.getElem?_append_right (Nat.le_refl _), Nat.sub_self]; rfl) (HM.out _) (HMM.out _) (HMK.out k hkl) H0.out hk2) ?_
  rw [show (left.any fun k => decide (k ≠ n) && hadF has k n) = byP has left n from rfl]
  repeat' (first | (simp only [zmPack, zxPack, ne_eq, zfree, owners, Nat.reduceLT, List.contains_cons, List.contains_nil, Nat.reduceBEq, BEq.rfl, chunk, setAt, List.lookup_cons, List.lookup_nil, reduceCtorEq, Nat.reduceEqDiff, reduceIte, implies_true, forall_const, Nat.reduceMul, Nat.reduceSub, Nat.reduceAdd, Nat.reduceLeDiff, *]) | (simp only [zgoO, zgoG, zO_nil, zthen_normal, zgoC]) | (with_reducible apply And.intro) | (with_reducible intro _))
theorem rb_z {now : List Int} {n : Int} {nb : Nat} (hn : H[nb]? = some (.box [.fz 1 false (now.map eI)])) (hb : now.length ≤ 1000) (hK : K (ZBo (decide (n ∈ now))) H) :
    ZC (constX tb) (cFunc Try.prog) 34 [Z64 n, .ptr nb 0] L H K := by
  refine ZC.enter Gh.no constX_none f_en_rb (by simp) ?_
  simp only [c_en_rb]
  have fin := Fin.keep (H0 := H) hK
  clear hK
  repeat' (first | (simp only [zmPack, zxPack, ne_eq, zfree, owners, Nat.reduceLT, List.contains_cons, List.contains_nil, Nat.reduceBEq, BEq.rfl, chunk, setAt, List.lookup_cons, List.lookup_nil, reduceCtorEq, Nat.reduceEqDiff, reduceIte, implies_true, forall_const, Nat.reduceMul, Nat.reduceSub, Nat.reduceAdd, Nat.reduceLeDiff, hn, *]) | (simp only [zgoO, zgoG, zO_nil, zthen_normal, zgoC]) | (with_reducible apply And.intro) | (with_reducible intro _))
  refine contains_z hb ?_
  repeat' (first | (simp only [zmPack, zxPack, ne_eq, zfree, owners, Nat.reduceLT, List.contains_cons, List.contains_nil, Nat.reduceBEq, BEq.rfl, chunk, setAt, List.lookup_cons, List.lookup_nil, reduceCtorEq, Nat.reduceEqDiff, reduceIte, implies_true, forall_const, Nat.reduceMul, Nat.reduceSub, Nat.reduceAdd, Nat.reduceLeDiff, *]) | (simp only [zgoO, zgoG, zO_nil, zthen_normal, zgoC]) | (with_reducible apply And.intro) | (with_reducible intro _))
structure RdI (has : List (List Int)) (d : List Int) (M : List (Int × ZV)) (H : ZH) (B0 B3 : ZB) (n : Nat) (s12 : ZV) (h' : ZH) : Prop where
  ex : ∃ left outs g X, s12 = .own (H.length + 4) g 0 (List.length outs) false ∧ h' = H ++ (B0 :: .box [.fz 1 false (left.map eI)] :: .box (M.map ent) :: B3 :: .grow g 1 (outs.map eL) :: X) ∧ (∀ x ∈ left, x ∈ d) ∧ outs ++ rounds has left = rounds has d ∧ outs.length + left.length ≤ d.length ∧ n = left.length
theorem at4 {A B C D E : ZB} {X : ZH} : (H ++ (A :: B :: C :: D :: E :: X))[H.length + 4]? = some E := by rw [List.getElem?_append_right (by omega), Nat.add_sub_cancel_left]; rfl
theorem at3 {A B C D : ZB} {X : ZH} : (H ++ (A :: B :: C :: D :: X))[H.length + 3]? = some D := by rw [List.getElem?_append_right (by omega), Nat.add_sub_cancel_left]; rfl
theorem at2 {A B C : ZB} {X : ZH} : (H ++ (A :: B :: C :: X))[H.length + 2]? = some C := by rw [List.getElem?_append_right (by omega), Nat.add_sub_cancel_left]; rfl
theorem set4 {A B C D E E' : ZB} {X : ZH} : (H ++ (A :: B :: C :: D :: E :: X)).set (H.length + 4) E' = H ++ (A :: B :: C :: D :: E' :: X) := by rw [List.set_append_right _ _ (by omega), Nat.add_sub_cancel_left]; rfl
theorem set3 {A B C D E' : ZB} {X : ZH} : (H ++ (A :: B :: C :: D :: X)).set (H.length + 3) E' = H ++ (A :: B :: C :: E' :: X) := by rw [List.set_append_right _ _ (by omega), Nat.add_sub_cancel_left]; rfl
theorem set2 {A B C E' : ZB} {X : ZH} : (H ++ (A :: B :: C :: X)).set (H.length + 2) E' = H ++ (A :: B :: E' :: X) := by rw [List.set_append_right _ _ (by omega), Nat.add_sub_cancel_left]; rfl
section
variable {dd : Option Nat} {x y v : Opd} {gg : Option (Nat × Bool)} {io : Bool} {r : List AOper} {ov : List (Nat × List Nat)} {S : ZS} {rs p : List Nat}
theorem zh_mapSet : zaheadL (⟨dd, .mapSet x y v, gg, io⟩ :: r) ov S = zaheadL r ov S := rfl
theorem zu_mapSet {ow : List (Nat × Option ZV)} : zunderL (⟨dd, .mapSet x y v, gg, io⟩ :: r) ow S = zunderL r ow S := rfl
theorem zf_mapSet : zforb rs ⟨dd, .mapSet x y v, gg, io⟩ r S = preO rs (zaheadL r [] S) := zf_heavy rfl
theorem zp0_mapSet : zpr rs none ⟨dd, .mapSet x y v, gg, io⟩ r S = some (rs ++ zunderL r [] S) := zp_heavy0 rfl
theorem zp1_mapSet : zpr rs (some p) ⟨dd, .mapSet x y v, gg, io⟩ r S = some (p.filter (rs ++ zunderL r [] S).contains) := zp_heavy1 rfl
theorem zr_mapSet : zrs rs ⟨dd, .mapSet x y v, gg, io⟩ S = rs := zr_heavy rfl
end
theorem zcells_mp {i : Nat} : (ZV.mp i).cells = [.mp i] := rfl
theorem zcell_mp {i : Nat} : (ZV.mp i).isCell = true := rfl
abbrev GR : Gh := ⟨[(12, [(0, 1)])], [], [47, 59]⟩
def c_rT : ACode := .ops [⟨(some 56), .load none (.tmp 6), none, true⟩,
 ⟨(some 57), .call (.av (.func 30 [])) [(.tmp 56)], none, true⟩,
 ⟨(some 58), .func 34 [(.tmp 13)], none, true⟩,
 ⟨(some 59), .call (.av (.func 29 [])) [(.tmp 57), (.tmp 58)], none, true⟩,
 ⟨none, .store 1 (.tmp 6) (.tmp 59), none, true⟩]
theorem c_en_rounds_cut : c_en_rounds = .seq (.ops [⟨(some 2), .box 2 (.tmp 0), none, true⟩,
 ⟨(some 4), .mv (.av (.val (.slice none 0 0))), none, true⟩,
 ⟨(some 5), .mv (.av (.val (.int .i64 0))), none, true⟩])
 (.seq (.ops [⟨(some 15), .load (some 2) (.tmp 2), none, true⟩,
 ⟨(some 16), .mv (.tmp 1), none, true⟩,
 ⟨(some 17), .call (.av (.func 28 [])) [(.tmp 15), (.tmp 16)], none, true⟩,
 ⟨(some 14), .mv (.tmp 17), none, true⟩,
 ⟨(some 18), .extract 0 (.tmp 14), none, true⟩,
 ⟨(some 19), .extract 1 (.tmp 14), none, true⟩,
 ⟨(some 20), .extract 2 (.tmp 14), none, true⟩,
 ⟨(some 6), .zero [(.val (.slice none 0 0))], none, true⟩,
 ⟨none, .store 1 (.tmp 6) (.tmp 18), none, true⟩,
 ⟨(some 7), .mv (.tmp 19), none, true⟩,
 ⟨(some 8), .mv (.tmp 20), none, true⟩])
 (.seq (.seq (.ops [⟨(some 21), .mv (.tmp 8), none, true⟩,
 ⟨(some 22), .bin .neq (.tmp 21) (.av (.val (.int .i64 0))), none, true⟩])
 (.cond (.tmp 22)
 (.seq (.ops [⟨(some 23), .mv (.tmp 8), none, true⟩,
 ⟨(some 4), .mv (.av (.val (.slice none 0 0))), none, true⟩,
 ⟨(some 5), .mv (.tmp 23), none, true⟩])
 (.ret))
 (.skip)))
 (.seq (.ops [⟨(some 24), .mkMap, none, true⟩,
 ⟨(some 9), .zero [(.val (.map none))], none, true⟩,
 ⟨none, .store 1 (.tmp 9) (.tmp 24), none, true⟩])
 (.seq (.seq (.ops [⟨(some 25), .load none (.tmp 6), none, true⟩,
 ⟨(some 26), .len (.tmp 25), none, true⟩,
 ⟨(some 27), .mv (.av (.val (.int .i64 0))), none, true⟩])
 (rangeCode 0 1 28 27 26 40
 (.seq (.ops [⟨(some 29), .indexAddr 1 (.tmp 25) (.tmp 27), none, true⟩,
 ⟨(some 30), .load none (.tmp 29), none, true⟩,
 ⟨(some 11), .mv (.tmp 30), none, true⟩])
 (.opsD [⟨(some 31), .load none (.tmp 9), none, false⟩,
 ⟨(some 32), .mv (.tmp 11), none, true⟩,
 ⟨(some 33), .load (some 2) (.tmp 2), none, true⟩,
 ⟨(some 34), .fieldAddr 0 (.tmp 2), none, true⟩,
 ⟨(some 35), .load none (.tmp 34), none, true⟩,
 ⟨(some 36), .mv (.tmp 11), none, true⟩,
 ⟨(some 37), .indexAddr 1 (.tmp 35) (.tmp 36), none, true⟩,
 ⟨(some 38), .load none (.tmp 37), none, true⟩,
 ⟨(some 39), .call (.av (.func 26 [])) [(.tmp 33), (.tmp 38)], none, false⟩,
 ⟨none, .mapSet (.tmp 31) (.tmp 32) (.tmp 39), none, true⟩]))))
 (.seq (.ops [⟨(some 12), .mv (.av (.val (.slice none 0 0))), none, true⟩])
 (.seq (.block 2 (.loop (.seq (.seq (.ops [⟨(some 41), .load none (.tmp 6), none, true⟩,
 ⟨(some 42), .len (.tmp 41), none, true⟩,
 ⟨(some 43), .bin .gtr (.tmp 42) (.av (.val (.int .i64 0))), none, true⟩])
 (.cond (.tmp 43)
 (.skip)
 (.exit 2)))
 (.block 3 (.seq (.ops [⟨(some 44), .load none (.tmp 6), none, true⟩,
 ⟨(some 45), .call (.av (.func 30 [])) [(.tmp 44)], none, true⟩,
 ⟨(some 46), .func 31 [(.tmp 6), (.tmp 9)], none, true⟩,
 ⟨(some 47), .call (.av (.func 29 [])) [(.tmp 45), (.tmp 46)], none, true⟩,
 ⟨(some 13), .zero [(.val (.slice none 0 0))], none, true⟩,
 ⟨none, .store 1 (.tmp 13) (.tmp 47), none, true⟩])
 (.seq (.seq (.ops [⟨(some 48), .load none (.tmp 13), none, true⟩,
 ⟨(some 49), .len (.tmp 48), none, true⟩,
 ⟨(some 50), .bin .eql (.tmp 49) (.av (.val (.int .i64 0))), none, true⟩])
 (.cond (.tmp 50)
 (.ops [⟨(some 51), .load none (.tmp 6), none, true⟩,
 ⟨none, .store 1 (.tmp 13) (.tmp 51), none, true⟩])
 (.skip)))
 (.seq (.ops [⟨(some 52), .mv (.tmp 12), none, true⟩,
 ⟨(some 53), .load none (.tmp 13), none, true⟩,
 ⟨(some 54), .lits 1 1 [(.val (.slice none 0 0))] [(0, 1, (.tmp 53))], none, true⟩,
 ⟨(some 55), .append 1 24 (.tmp 52) (.tmp 54), none, true⟩,
 ⟨(some 12), .mv (.tmp 55), none, true⟩])
 c_rT)))))))
 (.seq (.ops [⟨(some 60), .mv (.tmp 12), none, true⟩,
 ⟨(some 4), .mv (.tmp 60), none, true⟩,
 ⟨(some 5), .mv (.av (.val (.int .i64 0))), none, true⟩])
 (.ret)))))))) := rfl
set_option maxHeartbeats 4000000 in
theorem rT_z {S : ZS} {KK : AExit → ZS → ZH → Prop} {V : ZH} {left now : List Int} {i6 i13 : Nat} (v6 : ∀ Y, (V ++ Y)[i6]? = some (.box [.fz 1 false (left.map eI)])) (v13 : ∀ Y, (V ++ Y)[i13]? = some (.box [.fz 1 false (now.map eI)])) (s6 : S 6 = .ptr i6 0) (s13 : S 13 = .ptr i13 0)
    (hne : left ≠ []) (hl : left.length ≤ 100) (hn : now.length ≤ 1000) (lV : L V.length = true) (l6 : L i6 = true) (hk : ∀ S', S' 12 = S 12 → KK .normal S' ((V ++ [ZB.dead]).set i6 (.box [.fz 1 false ((keepP (fun n => decide (n ∈ now)) left).map eI)]))) :
    zW (constX tb) (cFunc Try.prog) GR L c_rT S V KK := by
  simp only [c_rT]
  have v60 := v6 []
  rw [List.append_nil] at v60
  have v6d := v6 [ZB.dead]
  have HK := Lib.hid hk
  clear hk
  repeat' (first | (simp only [zmPack, zxPack, ne_eq, zfree, owners, Nat.reduceLT, List.contains_cons, List.contains_nil, Nat.reduceBEq, BEq.rfl, chunk, setAt, List.lookup_cons, List.lookup_nil, reduceCtorEq, Nat.reduceEqDiff, reduceIte, implies_true, forall_const, Nat.reduceMul, Nat.reduceSub, Nat.reduceAdd, Nat.reduceLeDiff, v60, *]) | (simp only [zgoO, zgoG, zO_nil, zthen_normal, zgoC]) | (with_reducible apply And.intro) | (with_reducible intro _))
  clear v60
  refine clone_z (by omega) (fun _ => ?_) (fun e => absurd e hne)
  repeat' (first | (simp only [zmPack, zxPack, ne_eq, zfree, owners, Nat.reduceLT, List.contains_cons, List.contains_nil, Nat.reduceBEq, BEq.rfl, chunk, setAt, List.lookup_cons, List.lookup_nil, reduceCtorEq, Nat.reduceEqDiff, reduceIte, implies_true, forall_const, Nat.reduceMul, Nat.reduceSub, Nat.reduceAdd, Nat.reduceLeDiff, *]) | (simp only [zgoO, zgoG, zO_nil, zthen_normal, zgoC]) | (with_reducible apply And.intro) | (with_reducible intro _))
  refine delfn_z (H := V) (p := fun n => decide (n ∈ now)) (by omega) (fun m hm R Y K2 hk2 => rb_z (v13 _) hn hk2) lV fun R hR1 hR2 hR3 => ?_
  have hR4 : R.flatten.all pureZ = true := mv_pure hR3
  obtain ⟨kl, hkle⟩ : ∃ kl, kl = keepP (fun n => decide (n ∈ now)) left := ⟨_, rfl⟩
  rw [← hkle] at hR1 hR2 HK ⊢
  clear hkle hR3 v13
  repeat' (first | (simp only [zmPack, zxPack, ne_eq, zfree, owners, Nat.reduceLT, List.contains_cons, List.contains_nil, Nat.reduceBEq, BEq.rfl, chunk, setAt, List.lookup_cons, List.lookup_nil, reduceCtorEq, Nat.reduceEqDiff, reduceIte, implies_true, forall_const, Nat.reduceMul, Nat.reduceSub, Nat.reduceAdd, Nat.reduceLeDiff, hR1, hR2, hR4, v6d, *]) | (simp only [zgoO, zgoG, zO_nil, zthen_normal, zgoC]) | (with_reducible apply And.intro) | (with_reducible intro _))
  all_goals exact HK.out _ (by first | rfl | simp [zupd])
set_option maxHeartbeats 8000000 in
theorem rounds_z {e1 e2 e3 : Bool} {has : List (List Int)} {roots l : List Int}
    (hne : dueE has roots l ≠ 0 → K (.tuple [.nil, Z64 (dueE has roots l)]) H)
    (h0 : dueE has roots l = 0 → K (.tuple [.fz 1 false ((rounds has (dueL (needL has roots) l)).map eL), Z64 0]) H) :
    ZC (constX tb) (cFunc Try.prog) 19 [.agg [.fz 1 e1 (has.map eL), .fz 1 e2 (roots.map eI)], .fz 1 e3 (l.map eI)] L H K := by
  refine ZC.enterL GR constX_none f_en_rounds (by simp) fun hL => ?_
  simp only [c_en_rounds_cut]
  have lx : ∀ n, L (H.length + n) = true := fun n => by cases n with
    | zero => exact hL 0
    | succ n => exact hL (n + 1)
  have g0 : ∀ A Y, (H ++ (A :: Y))[H.length]? = some A := fun A Y => mv_at0 A Y
  have g1 : ∀ A B Y, (H ++ (A :: B :: Y))[H.length + 1]? = some B := fun A B Y => mv_at1 A B Y
  have g2 : ∀ A B C Y, (H ++ (A :: B :: C :: Y))[H.length + 2]? = some C := fun A B C Y => at2
  have g3 : ∀ A B C D Y, (H ++ (A :: B :: C :: D :: Y))[H.length + 3]? = some D := fun A B C D Y => at3
  have t1 : ∀ A B C Y, (H ++ (A :: B :: Y)).set (H.length + 1) C = H ++ (A :: C :: Y) := fun A B C Y => mv_st1 A B C Y
  have t2 : ∀ A B C D Y, (H ++ (A :: B :: C :: Y)).set (H.length + 2) D = H ++ (A :: B :: D :: Y) := fun A B C D Y => set2
  have t3 : ∀ A B C D E Y, (H ++ (A :: B :: C :: D :: Y)).set (H.length + 3) E = H ++ (A :: B :: C :: E :: Y) := fun A B C D E Y => set3
  have HNE := Lib.hid hne
  have H0 := Lib.hid h0
  clear hne h0 hL
  obtain ⟨B0, hB0⟩ : ∃ B0 : ZB, B0 = .box [.fz 1 e1 (has.map eL), .fz 1 e2 (roots.map eI)] := ⟨_, rfl⟩
  repeat' (first | (simp only [zmPack, zxPack, ne_eq, zfree, owners, Nat.reduceLT, List.contains_cons, List.contains_nil, Nat.reduceBEq, BEq.rfl, chunk, setAt, List.lookup_cons, List.lookup_nil, reduceCtorEq, Nat.reduceEqDiff, reduceIte, implies_true, forall_const, Nat.reduceMul, Nat.reduceSub, Nat.reduceAdd, Nat.reduceLeDiff, g0, *]) | (simp only [zgoO, zgoG, zO_nil, zthen_normal, zgoC]) | (with_reducible apply And.intro) | (with_reducible intro _))
  refine due_z (fun hne => ?_) (fun he => ?_)
  · obtain ⟨c, hc⟩ : ∃ c, c = dueE has roots l := ⟨_, rfl⟩
    have fin : ∀ X, Fin H (.tuple [.nil, Z64 c]) (H ++ X) K := fun X => Fin.truncT (Mods.ext H _) rfl (by rw [List.take_left, hc]; exact HNE.out hne)
    rw [← hc] at hne ⊢
    clear hc HNE H0
    repeat' (first | (simp only [zmPack, zxPack, ne_eq, zfree, owners, Nat.reduceLT, List.contains_cons, List.contains_nil, Nat.reduceBEq, BEq.rfl, chunk, setAt, List.lookup_cons, List.lookup_nil, reduceCtorEq, Nat.reduceEqDiff, reduceIte, implies_true, forall_const, Nat.reduceMul, Nat.reduceSub, Nat.reduceAdd, Nat.reduceLeDiff, hne, lx, *]) | (simp only [zgoO, zgoG, zO_nil, zthen_normal, zgoC]) | (with_reducible apply And.intro) | (with_reducible intro _))
  · obtain ⟨q1, q2, q3⟩ := dueE_zero he
    obtain ⟨c1, c2, c3, c4, c5⟩ := checkE_zero q1
    have hK := H0.out he
    have hdl := due_len (nb := needL has roots) (l := l)
    have hdr : ∀ x ∈ dueL (needL has roots) l, 0 ≤ x ∧ x < (has.length : Int) := fun x hx => q3 x (mem_due.1 hx).1
    obtain ⟨nb, hnb⟩ : ∃ nb, nb = needL has roots := ⟨_, rfl⟩
    rw [← hnb] at hK hdl hdr ⊢
    obtain ⟨d, hd⟩ : ∃ d, d = dueL nb l := ⟨_, rfl⟩
    rw [← hd] at hK hdl hdr ⊢
    have hd100 : d.length ≤ 100 := by omega
    have HC := Lib.hid (And.intro c1 (And.intro c3 (And.intro c4 (And.intro hdr hd100))))
    have HK := Lib.hid hK
    clear c1 c2 c3 c4 c5 q1 q2 q3 hK hdl hdr hnb hd he HNE H0 hd100
    repeat' (first | (simp only [zmPack, zxPack, ne_eq, zfree, owners, Nat.reduceLT, List.contains_cons, List.contains_nil, Nat.reduceBEq, BEq.rfl, chunk, setAt, List.lookup_cons, List.lookup_nil, reduceCtorEq, Nat.reduceEqDiff, reduceIte, implies_true, forall_const, Nat.reduceMul, Nat.reduceSub, Nat.reduceAdd, Nat.reduceLeDiff, lx, g1, g2, g3, t1, t2, t3, z_mkMap, zcells_mp, zcell_mp, *]) | (simp only [zgoO, zgoG, zO_nil, zthen_normal, zgoC]) | (with_reducible apply And.intro) | (with_reducible intro _))
    rw [← hB0]
    refine zW_forK [(25, .fz 1 false (d.map eI)), (6, .ptr (H.length + 1) 0), (9, .ptr (H.length + 3) 0), (2, .ptr H.length 0)] d.length (fun k s' h' => ∃ M, h' = H ++ [B0, .box [.fz 1 false (d.map eI)], .box (M.map ent), .box [.mp (H.length + 2)]] ∧ MapOk has M (d.take k)) (by have := HC.out.2.2.2.2; omega) ⟨rfl, rfl, rfl, rfl, rfl, rfl⟩ rfl rfl (by repeat' (first | exact trivial | (refine ⟨rfl, ?_⟩) | (refine ⟨by simp only [zupd_at, Nat.reduceEqDiff, reduceIte]; assumption, ?_⟩))) rfl rfl (by decide) ⟨[], rfl, fun k hk => by simp at hk⟩ ?_ ?_
    · rintro k s' h' hk ⟨M, rfl, hMK⟩ hi hll ⟨f25, f6, f9, f2, -⟩
      have hx : d[k]? = some d[k] := List.getElem?_eq_getElem hk
      have hr := HC.out.2.2.2.1 _ (List.getElem_mem hk)
      have hnx := hMK.put (n := d[k])
      rw [← List.take_succ_eq_append_getElem hk] at hnx
      obtain ⟨q, hq⟩ : ∃ q, q = d[k] := ⟨_, rfl⟩
      rw [← hq] at hx hr hnx
      obtain ⟨j, rfl⟩ := Int.eq_ofNat_of_zero_le hr.1
      have hj : j < has.length := by omega
      have ho : has[j]? = some has[j] := List.getElem?_eq_getElem hj
      have hhd : hadB has (j : Int) = liveSb has [] has[j] := by
        unfold hadB; rw [Int.toNat_natCast, List.getD_eq_getElem?_getD, ho]; rfl
      have hol := HC.out.2.1 _ (List.getElem_mem hj)
      have hor := HC.out.2.2.1.2 _ (List.getElem_mem hj)
      obtain ⟨o, hoe⟩ : ∃ o, o = has[j] := ⟨_, rfl⟩
      rw [← hoe] at ho hhd hol hor
      have HNX := Lib.hid hnx
      have HHD := Lib.hid hhd
      have HO := Lib.hid (And.intro hol hor)
      have hB0' := hB0
      have HB0 := Lib.hid hB0
      subst hB0
      clear hMK hq hr hnx hhd hoe hol hor hB0'
      repeat' (first | (simp only [zmPack, zxPack, ne_eq, zfree, owners, Nat.reduceLT, List.contains_cons, List.contains_nil, Nat.reduceBEq, BEq.rfl, chunk, setAt, List.lookup_cons, List.lookup_nil, reduceCtorEq, Nat.reduceEqDiff, reduceIte, implies_true, forall_const, Nat.reduceMul, Nat.reduceSub, Nat.reduceAdd, Nat.reduceLeDiff, hx, ho, hj, lx, g0, g1, g2, g3, t2, List.length_append, List.length_cons, List.length_nil, ZV.mp.injEq, zh_mapSet, zu_mapSet, zf_mapSet, zp0_mapSet, zp1_mapSet, zr_mapSet, *]) | (simp only [zgoO, zgoG, zO_nil, zthen_normal, zgoC]) | (with_reducible apply And.intro) | (with_reducible intro _))
      refine wfrom_z (l := o) rows_fz rfl rows_fz HC.out.1 (fun a ha => by have := HC.out.2.1 a ha; omega) (by have := HO.out.1; omega) HC.out.2.2.1 HO.out.2 ?_
      rw [← HHD.out]
      have hfin := HNX.out
      obtain ⟨hb, hbe⟩ : ∃ hb, hb = hadB has (j : Int) := ⟨_, rfl⟩
      rw [← hbe] at hfin ⊢
      have FN := Lib.hid hfin
      clear hbe hfin hx ho
      repeat' (first | (simp only [zmPack, zxPack, ne_eq, zfree, owners, Nat.reduceLT, List.contains_cons, List.contains_nil, Nat.reduceBEq, BEq.rfl, chunk, setAt, List.lookup_cons, List.lookup_nil, reduceCtorEq, Nat.reduceEqDiff, reduceIte, implies_true, forall_const, Nat.reduceMul, Nat.reduceSub, Nat.reduceAdd, Nat.reduceLeDiff, lx, g0, g1, g2, g3, t2, List.length_append, List.length_cons, List.length_nil, ZV.mp.injEq, ent_eq, z_mapSet, zh_mapSet, zu_mapSet, zf_mapSet, zp0_mapSet, zp1_mapSet, zr_mapSet, *]) | (simp only [zgoO, zgoG, zO_nil, zthen_normal, zgoC]) | (with_reducible apply And.intro) | (with_reducible intro _))
      all_goals first | exact ⟨_, rfl, FN.out⟩ | exact FN.out | fail
    · rintro s' h' ⟨M, rfl, hMK⟩ ⟨f25, f6, f9, f2, -⟩
      rw [List.take_of_length_le (Nat.le_refl _)] at hMK
      have HMK := Lib.hid hMK
      have h0 : RdI has d M H B0 (.box [.mp (H.length + 2)]) d.length (.own (H.length + 4) 0 0 0 false) (H ++ [B0, .box [.fz 1 false (d.map eI)], .box (M.map ent), .box [.mp (H.length + 2)], .grow 0 1 []]) :=
        ⟨d, [], 0, [], rfl, rfl, fun _ h => h, rfl, by simp, rfl⟩
      have HI := Lib.hid h0
      clear hMK h0 hB0
      repeat' (first | (simp only [zmPack, zxPack, ne_eq, zfree, owners, Nat.reduceLT, List.contains_cons, List.contains_nil, Nat.reduceBEq, BEq.rfl, chunk, setAt, List.lookup_cons, List.lookup_nil, reduceCtorEq, Nat.reduceEqDiff, reduceIte, implies_true, forall_const, Nat.reduceMul, Nat.reduceSub, Nat.reduceAdd, Nat.reduceLeDiff, lx, g0, g1, g2, g3, List.length_append, List.length_cons, List.length_nil, *]) | (simp only [zgoO, zgoG, zO_nil, zthen_normal, zgoC]) | (with_reducible apply And.intro) | (with_reducible intro _))
      refine zW_whileK [(6, .ptr (H.length + 1) 0), (9, .ptr (H.length + 3) 0)] d.length (fun n s' h' => RdI has d M H B0 (.box [.mp (H.length + 2)]) n (s' 12) h') (by repeat' (first | exact trivial | (refine ⟨rfl, ?_⟩) | (refine ⟨by simp only [zupd_at, Nat.reduceEqDiff, reduceIte]; assumption, ?_⟩))) rfl HI.out ?_
      clear HI f25 f6 f9 f2
      rintro n s' h' ⟨left, outs, g, X, f12, rfl, hsub, hrd, hcnt, rfl⟩ ⟨f6, f9, -⟩
      cases hle : left with
      | nil =>
        subst hle
        rw [rounds_nil, List.append_nil] at hrd
        subst hrd
        have fin : Fin H (.tuple [.own (H.length + 4) g 0 (rounds has d).length false, Z64 0]) (H ++ (B0 :: .box [.fz 1 false []] :: .box (M.map ent) :: .box [.mp (H.length + 2)] :: .grow g 1 ((rounds has d).map eL) :: X)) K := by
          refine Fin.frzT (j := 0) (k := 1) (rows := (rounds has d).map eL) rfl at4 (by simp) (mv_pure (fun r hr => by obtain ⟨x, _, rfl⟩ := List.mem_map.1 hr; rfl)) ?_
          rw [set4, List.drop_zero, List.take_of_length_le (by simp)]
          exact Fin.truncT (Mods.ext H _) rfl (by rw [List.take_left]; exact HK.out)
        have z1 : ¬ (0 : Int) < ((0 : Nat) : Int) := by omega
        clear hsub hcnt
        repeat' (first | (simp only [zmPack, zxPack, ne_eq, zfree, owners, Nat.reduceLT, List.contains_cons, List.contains_nil, Nat.reduceBEq, BEq.rfl, chunk, setAt, List.lookup_cons, List.lookup_nil, reduceCtorEq, Nat.reduceEqDiff, reduceIte, implies_true, forall_const, Nat.reduceMul, Nat.reduceSub, Nat.reduceAdd, Nat.reduceLeDiff, g1, z1, List.length_nil, *]) | (simp only [zgoO, zgoG, zO_nil, zthen_normal, zgoC]) | (with_reducible apply And.intro) | (with_reducible intro _))
        all_goals exact fin
      | cons y left' =>
        rw [← hle]
        have hne : left ≠ [] := by rw [hle]; simp
        have hpos : (0 : Int) < (left.length : Int) := by have := List.length_pos_iff.2 hne; omega
        have hstep := rounds_step (has := has) hne
        have hless := left_less (has := has) hne
        have hl100 : left.length ≤ 100 := by have := HC.out.2.2.2.2; omega
        have hlr : ∀ x ∈ left, 0 ≤ x ∧ x.toNat < has.length := fun x hx => by have := HC.out.2.2.2.1 x (hsub x hx); omega
        have hmk : MapOk has M left := fun k hk => HMK.out k (hsub k hk)
        obtain ⟨W, hW⟩ : ∃ W, W = H ++ (B0 :: .box [.fz 1 false (left.map eI)] :: .box (M.map ent) :: .box [.mp (H.length + 2)] :: .grow g 1 (outs.map eL) :: X) := ⟨_, rfl⟩
        have w1 : ∀ Y, (W ++ Y)[H.length + 1]? = some (.box [.fz 1 false (left.map eI)]) := fun Y => by rw [hW, List.append_assoc]; exact mv_at1 _ _ _
        have w2 : ∀ Y, (W ++ Y)[H.length + 2]? = some (.box (M.map ent)) := fun Y => by rw [hW, List.append_assoc]; exact at2
        have w3 : ∀ Y, (W ++ Y)[H.length + 3]? = some (.box [.mp (H.length + 2)]) := fun Y => by rw [hW, List.append_assoc]; exact at3
        have w4 : ∀ Y, (W ++ Y)[H.length + 4]? = some (.grow g 1 (outs.map eL)) := fun Y => by rw [hW, List.append_assoc]; exact at4
        have w10 := w1 []
        rw [List.append_nil] at w10
        have hWl : W.length = H.length + (X.length + 5) := by rw [hW]; simp <;> omega
        have lW : ∀ n, L (W.length + n) = true := fun n => by rw [hWl, Nat.add_assoc]; exact lx _
        have HW := Lib.hid (And.intro hW hWl)
        have HS := Lib.hid (And.intro hstep (And.intro hless (And.intro hrd (And.intro hcnt hsub))))
        rw [← hW]
        clear hW hWl hstep hless hrd hcnt hsub g0 g1 g2 g3 t1 t2 t3 hle
        repeat' (first | (simp only [zmPack, zxPack, ne_eq, zfree, owners, Nat.reduceLT, List.contains_cons, List.contains_nil, Nat.reduceBEq, BEq.rfl, chunk, setAt, List.lookup_cons, List.lookup_nil, reduceCtorEq, Nat.reduceEqDiff, reduceIte, implies_true, forall_const, Nat.reduceMul, Nat.reduceSub, Nat.reduceAdd, Nat.reduceLeDiff, w10, hpos, *]) | (simp only [zgoO, zgoG, zO_nil, zthen_normal, zgoC]) | (with_reducible apply And.intro) | (with_reducible intro _))
        clear w10 hpos
        refine clone_z (by omega) (fun _ => ?_) (fun e => absurd e hne)
        repeat' (first | (simp only [zmPack, zxPack, ne_eq, zfree, owners, Nat.reduceLT, List.contains_cons, List.contains_nil, Nat.reduceBEq, BEq.rfl, chunk, setAt, List.lookup_cons, List.lookup_nil, reduceCtorEq, Nat.reduceEqDiff, reduceIte, implies_true, forall_const, Nat.reduceMul, Nat.reduceSub, Nat.reduceAdd, Nat.reduceLeDiff, *]) | (simp only [zgoO, zgoG, zO_nil, zthen_normal, zgoC]) | (with_reducible apply And.intro) | (with_reducible intro _))
        refine delfn_z (H := W) (p := byP has left) (by omega) (fun m hm R Y K2 hk2 => ra_z (M := M) (left := left) (fun Z => by rw [List.append_assoc]; exact w1 _) (fun Z => by rw [List.append_assoc]; exact w3 _) (fun Z => by rw [List.append_assoc]; exact w2 _) hmk (by omega) (hlr m hm) hk2) (lW 0) fun R hR1 hR2 hR3 => ?_
        have hR4 : R.flatten.all pureZ = true := mv_pure hR3
        have hnow : nowL has left = if keepP (byP has left) left = [] then left else keepP (byP has left) left := rfl
        have hkl : (keepP (byP has left) left).length ≤ left.length := List.length_filter_le _ _
        obtain ⟨kl, hkle⟩ : ∃ kl, kl = keepP (byP has left) left := ⟨_, rfl⟩
        rw [← hkle] at hR1 hR2 hnow hkl ⊢
        have HKL := Lib.hid hkl
        have HNW := Lib.hid hnow
        have hWL : W.length + 1 ≠ H.length + 1 := by have := HW.out.2; omega
        clear hkle hkl hnow hR3
        have hre : (outs.length + 1) * 24 ≤ reach := by have := HS.out.2.2.2.1; have := HC.out.2.2.2.2; unfold reach; omega
        have goOn : ∀ (now : List Int), now = nowL has left → ∀ (S : ZS) (KK : AExit → ZS → ZH → Prop), S 6 = .ptr (H.length + 1) 0 → S 13 = .ptr (W.length + 1) 0 → S 12 = .own (H.length + 4) (g + 1) 0 (outs.length + 1) false →
            (∀ S' h', RdI has d M H B0 (.box [.mp (H.length + 2)]) (leftL has left).length (S' 12) h' → KK .normal S' h') →
            zW (constX tb) (cFunc Try.prog) GR L c_rT S ((W ++ [ZB.dead, ZB.box [.fz 1 false (now.map eI)]]).set (H.length + 4) (.grow (g + 1) 1 (outs.map eL ++ [[.fz 1 false (now.map eI)]]))) KK := fun now hnow S KK s6 s13 s12 hkk => by
          have hW := HW.out.1
          have hV : ∀ Y, (W ++ [ZB.dead, ZB.box [.fz 1 false (now.map eI)]]).set (H.length + 4) (.grow (g + 1) 1 (outs.map eL ++ [[.fz 1 false (now.map eI)]])) ++ Y = H ++ (B0 :: .box [.fz 1 false (left.map eI)] :: .box (M.map ent) :: .box [.mp (H.length + 2)] :: .grow (g + 1) 1 ((outs ++ [now]).map eL) :: (X ++ ([ZB.dead, ZB.box [.fz 1 false (now.map eI)]] ++ Y))) := fun Y => by
            rw [hW, List.append_assoc]
            simp only [List.cons_append]
            rw [set4, List.append_assoc]
            simp
          have hVl : ((W ++ [ZB.dead, ZB.box [.fz 1 false (now.map eI)]]).set (H.length + 4) (.grow (g + 1) 1 (outs.map eL ++ [[.fz 1 false (now.map eI)]]))).length = W.length + 2 := by simp
          have hnl : now.length ≤ 1000 := by
            rw [hnow]; unfold nowL
            split
            · omega
            · exact Nat.le_trans (List.length_filter_le _ _) (by omega)
          refine rT_z (i6 := H.length + 1) (i13 := W.length + 1) (left := left) (now := now) (fun Y => by rw [hV]; exact mv_at1 _ _ _) (fun Y => ?_) s6 s13 hne hl100 hnl (by rw [hVl]; exact lW 2) (lx 1) fun S' e12 => ?_
          · rw [hV, HW.out.2, List.getElem?_append_right (by omega), show H.length + (X.length + 5) + 1 - H.length = X.length + 1 + 5 by omega]
            simp only [List.getElem?_cons_succ]
            rw [List.getElem?_append_right (by omega), Nat.add_sub_cancel_left]; rfl
          · refine hkk S' _ ⟨leftL has left, outs ++ [now], g + 1, X ++ ([ZB.dead, ZB.box [.fz 1 false (now.map eI)]] ++ [ZB.dead]), ?_, ?_, fun x hx => HS.out.2.2.2.2 x (mem_keep.1 hx).1, ?_, ?_, rfl⟩
            · rw [e12, s12]; simp
            · rw [hV, mv_st1, hnow]; rfl
            · rw [← HS.out.2.2.1, HS.out.1, hnow, List.append_assoc]; rfl
            · have := HS.out.2.1; have := HS.out.2.2.2.1; simp; omega
        have GO := Lib.hid goOn
        have HLS := Lib.hid HS.out.2.1
        clear goOn w2 w3 hmk hlr
        cases hkl : kl with
        | nil =>
          have hn0 : left = nowL has left := by rw [HNW.out, if_pos hkl]
          have z0 : ((0 : Nat) : Int) = 0 := rfl
          have G0 := Lib.hid (GO.out left hn0)
          have hkl0 := hkl
          clear hn0 hkl
          subst hkl0
          repeat' (first | (simp only [zmPack, zxPack, ne_eq, zfree, owners, Nat.reduceLT, List.contains_cons, List.contains_nil, Nat.reduceBEq, BEq.rfl, chunk, setAt, List.lookup_cons, List.lookup_nil, reduceCtorEq, Nat.reduceEqDiff, reduceIte, implies_true, forall_const, Nat.reduceMul, Nat.reduceSub, Nat.reduceAdd, Nat.reduceLeDiff, hR1, hR2, hR4, lW, z0, hre, w1, w4, Nat.zero_le, List.length_nil, List.map_nil, List.take_zero, *]) | (simp only [zgoO, zgoG, zO_nil, zthen_normal, zgoC]) | (with_reducible apply And.intro) | (with_reducible intro _))
          refine G0.out _ _ (by simp [zupd, f6]) (by simp [zupd]) (by simp [zupd]) fun S' h' fin => ?_
          have FN := Lib.hid fin
          clear fin
          repeat' (first | (simp only [zmPack, zxPack, ne_eq, zfree, owners, Nat.reduceLT, List.contains_cons, List.contains_nil, Nat.reduceBEq, BEq.rfl, chunk, setAt, List.lookup_cons, List.lookup_nil, reduceCtorEq, Nat.reduceEqDiff, reduceIte, implies_true, forall_const, Nat.reduceMul, Nat.reduceSub, Nat.reduceAdd, Nat.reduceLeDiff, *]) | (simp only [zgoO, zgoG, zO_nil, zthen_normal, zgoC]) | (with_reducible apply And.intro) | (with_reducible intro _))
          all_goals exact ⟨_, HLS.out, FN.out⟩
        | cons a kl2 =>
          have hkn : kl ≠ [] := by rw [hkl]; simp
          have hn0 : kl = nowL has left := by rw [HNW.out, if_neg hkn]
          have n0 : ¬ ((kl.length : Nat) : Int) = 0 := by have := List.length_pos_iff.2 hkn; omega
          have G0 := Lib.hid (GO.out kl hn0)
          rw [← hkl]
          clear hkl hkn hn0
          repeat' (first | (simp only [zmPack, zxPack, ne_eq, zfree, owners, Nat.reduceLT, List.contains_cons, List.contains_nil, Nat.reduceBEq, BEq.rfl, chunk, setAt, List.lookup_cons, List.lookup_nil, reduceCtorEq, Nat.reduceEqDiff, reduceIte, implies_true, forall_const, Nat.reduceMul, Nat.reduceSub, Nat.reduceAdd, Nat.reduceLeDiff, hR1, hR2, hR4, lW, n0, hre, w1, w4, *]) | (simp only [zgoO, zgoG, zO_nil, zthen_normal, zgoC]) | (with_reducible apply And.intro) | (with_reducible intro _))
          refine G0.out _ _ (by simp [zupd, f6]) (by simp [zupd]) (by simp [zupd]) fun S' h' fin => ?_
          have FN := Lib.hid fin
          clear fin
          repeat' (first | (simp only [zmPack, zxPack, ne_eq, zfree, owners, Nat.reduceLT, List.contains_cons, List.contains_nil, Nat.reduceBEq, BEq.rfl, chunk, setAt, List.lookup_cons, List.lookup_nil, reduceCtorEq, Nat.reduceEqDiff, reduceIte, implies_true, forall_const, Nat.reduceMul, Nat.reduceSub, Nat.reduceAdd, Nat.reduceLeDiff, *]) | (simp only [zgoO, zgoG, zO_nil, zthen_normal, zgoC]) | (with_reducible apply And.intro) | (with_reducible intro _))
          all_goals exact ⟨_, HLS.out, FN.out⟩
end Go.Proofs.Ytfmllmcjinjfaaa
