/-
  order in ZM: IndexFunc, ContainsFunc of numbers, places, makes, exits.
-/
import Derived.Test.YtmholkmghhkbhaaMrB7
set_option linter.unusedVariables false
set_option linter.unusedSimpArgs false
namespace Go.Proofs.Ytmholkmghhkbhaa
open Go Go.RowKit
variable {tb : List (FuncId × Bool)} {L : Nat → Bool} {H : ZH} {K : ZV → ZH → Prop}
abbrev OPl := Int × Int
abbrev OSt := Int × Int × Int
abbrev OMk := Int × Int × Int × Int × List OPl
abbrev OXt := Int × Int × List OSt × List OMk
abbrev eRP (p : OPl) : List ZV := [Z64 p.1, Z64 p.2]
abbrev eRS (s : OSt) : List ZV := [Z64 s.1, Z64 s.2.1, Z64 s.2.2]
abbrev eRM (m : OMk) : List ZV := [Z64 m.1, Z64 m.2.1, Z64 m.2.2.1, Z64 m.2.2.2.1, .fz 2 false (m.2.2.2.2.map eRP)]
abbrev eRX (x : OXt) : List ZV := [Z64 x.1, Z64 x.2.1, .fz 3 false (x.2.2.1.map eRS), .fz 5 false (x.2.2.2.map eRM)]
abbrev zRP (x : OPl) : ZV := .agg (eRP x)
abbrev zRM (x : OMk) : ZV := .agg (eRM x)
abbrev zRX (x : OXt) : ZV := .agg (eRX x)
def idxP {α : Type} (p : α → Bool) (l : List α) : Int := match l.findIdx? p with
  | some i => (i : Int)
  | none => -1
theorem jjG {α : Type} {p : α → Bool} {l : List α} : decide ((0 : Int) ≤ idxP p l) = l.any p := by
 unfold idxP
 cases h : l.findIdx? p with
 | none =>
  have := List.findIdx?_eq_none_iff.1 h
  simp only [Int.reduceNeg, show ¬ ((0 : Int) ≤ -1) by omega, decide_false]
  symm
  rw [List.any_eq_false]
  intro x hx; rw [this x hx]; simp
 | some i =>
  obtain ⟨h1, h2, _⟩ := List.findIdx?_eq_some_iff_getElem.1 h
  have h3 : (0 : Int) ≤ (i : Int) := by omega
  simp only [h3, decide_true]
  symm
  exact List.any_eq_true.2 ⟨_, List.getElem_mem h1, h2⟩
def jdY {α : Type} (p : α → Bool) (l : List α) : Prop := ∀ x ∈ l, p x = false
theorem idxI_z {z : ZV} {l : List Int} {p : Int → Bool} {f : FuncId} {caps : List ZV} (hz : jaX H 1 z = some (l.map eI)) (hb : l.length ≤ 100000000000000) (hf : ∀ m ∈ l, ∀ K, K (ZBo (p m)) H → ZC (boxY tb) (jap Try.prog) f (Z64 m :: caps) L H K) (hK : K (Z64 (idxP p l)) H) :
  ZC (boxY tb) (jap Try.prog) 64 [z, .func f caps] L H K := by
 refine ZC.enter Gh.no (jan (by decide)) f_or_ifI (by simp) ?_
 simp only [jjP]
 have hlen := jbk hz
 rw [List.length_map] at hlen
 have HF := Lib.hid hf
 have HK := Lib.hid hK
 clear hf hK
 repeat' (first | (simp only [zP, jaf, jaa, jad, jae, seval, Nat.reduceLeDiff, hlen, *]) | (simp only [jab]) | (with_reducible apply And.intro) | (with_reducible intro _))
 refine jaP [(0, z), (1, .func f caps)] l.length (fun k s' h' => h' = H ∧ jdY p (l.take k)) (by omega) ⟨rfl, rfl, rfl, rfl, rfl, rfl⟩ rfl rfl (by repeat' (first | exact trivial | (refine ⟨rfl, ?_⟩) | (refine ⟨by simp only [jaE, Nat.reduceEqDiff, reduceIte]; assumption, ?_⟩))) rfl rfl (by decide) ⟨rfl, by simp [jdY]⟩ ?_ ?_
 ·rintro k s' h' hk ⟨rfl, hno⟩ hi hl ⟨f0, f1, -⟩
  obtain ⟨q, hq, hld⟩ := jbK hz hk
  have HN := Lib.hid hno
  clear hno
  repeat' (first | (simp only [zP, jaf, jaa, jad, jae, seval, Nat.reduceLeDiff, hq, hld, *]) | (simp only [jab]) | (with_reducible apply And.intro) | (with_reducible intro _))
  refine HF.out _ (List.getElem_mem hk) _ ?_
  cases hp : p l[k] with
  | true =>
   have hi : idxP p l = (k : Int) := by
    have : l.findIdx? p = some k := by
     rw [List.findIdx?_eq_some_iff_getElem]
     exact ⟨hk, hp, fun j hj => by simp only [Bool.not_eq_true]; exact HN.out _ (by rw [List.mem_take_iff_getElem]; exact ⟨j, by omega, rfl⟩)⟩
    simp only [idxP, this]
   have hK := HK.out
   rw [hi] at hK
   have fin := Fin.keep (H0 := h') hK
   clear hp hi hK hld
   repeat' (first | (simp only [zP, jaf, jaa, jad, jae, seval, Nat.reduceLeDiff, *]) | (simp only [jab]) | (with_reducible apply And.intro) | (with_reducible intro _))
  | false =>
   have fin : jdY p (l.take (k + 1)) := fun x hx => by
    rw [List.take_succ_eq_append_getElem hk] at hx
    rcases List.mem_append.1 hx with hx | hx
    ·exact HN.out x hx
    ·rw [List.mem_singleton.1 hx]; exact hp
   clear hp hld
   repeat' (first | (simp only [zP, jaf, jaa, jad, jae, seval, Nat.reduceLeDiff, *]) | (simp only [jab]) | (with_reducible apply And.intro) | (with_reducible intro _))
 ·rintro s' h' ⟨rfl, hno⟩ ⟨f0, f1, -⟩
  rw [List.take_of_length_le (Nat.le_refl _)] at hno
  have hi : idxP p l = -1 := by
   have : l.findIdx? p = none := List.findIdx?_eq_none_iff.2 fun x hx => by rw [hno x hx]
   simp only [idxP, this]
  have hK := HK.out
  rw [hi] at hK
  have fin := Fin.keep (H0 := h') hK
  clear hno hi hK
  repeat' (first | (simp only [zP, jaf, jaa, jad, jae, seval, Nat.reduceLeDiff, *]) | (simp only [jab]) | (with_reducible apply And.intro) | (with_reducible intro _))
theorem cfI_z {z : ZV} {l : List Int} {p : Int → Bool} {f : FuncId} {caps : List ZV} (hz : jaX H 1 z = some (l.map eI)) (hb : l.length ≤ 100000000000000) (hf : ∀ m ∈ l, ∀ K, K (ZBo (p m)) H → ZC (boxY tb) (jap Try.prog) f (Z64 m :: caps) L H K) (hK : K (ZBo (l.any p)) H) :
  ZC (boxY tb) (jap Try.prog) 58 [z, .func f caps] L H K := by
 refine ZC.enter Gh.no (jan (by decide)) f_or_cfI (by simp) ?_
 simp only [jjU]
 have HF := Lib.hid hf
 have fin := Fin.keep (H0 := H) hK
 clear hf hK
 have HZ := Lib.hid hz
 clear hz
 repeat' (first | (simp only [zP, jaf, jaa, jad, jae, seval, Nat.reduceLeDiff, *]) | (simp only [jab]) | (with_reducible apply And.intro) | (with_reducible intro _))
 refine idxI_z HZ.out hb HF.out ?_
 repeat' (first | (simp only [zP, jaf, jaa, jad, jae, seval, Nat.reduceLeDiff, jjG, *]) | (simp only [jab]) | (with_reducible apply And.intro) | (with_reducible intro _))
theorem idxP_z {z : ZV} {l : List OPl} {p : OPl → Bool} {f : FuncId} {caps : List ZV} (hz : jaX H 2 z = some (l.map eRP)) (hb : l.length ≤ 100000000000000) (hf : ∀ m ∈ l, ∀ K, K (ZBo (p m)) H → ZC (boxY tb) (jap Try.prog) f (zRP m :: caps) L H K) (hK : K (Z64 (idxP p l)) H) :
  ZC (boxY tb) (jap Try.prog) 55 [z, .func f caps] L H K := by
 refine ZC.enter Gh.no (jan (by decide)) f_or_ifP (by simp) ?_
 simp only [jjN]
 have hlen := jbk hz
 rw [List.length_map] at hlen
 have HF := Lib.hid hf
 have HK := Lib.hid hK
 clear hf hK
 repeat' (first | (simp only [zP, jaf, jaa, jad, jae, seval, Nat.reduceLeDiff, hlen, *]) | (simp only [jab]) | (with_reducible apply And.intro) | (with_reducible intro _))
 refine jaP [(0, z), (1, .func f caps)] l.length (fun k s' h' => h' = H ∧ jdY p (l.take k)) (by omega) ⟨rfl, rfl, rfl, rfl, rfl, rfl⟩ rfl rfl (by repeat' (first | exact trivial | (refine ⟨rfl, ?_⟩) | (refine ⟨by simp only [jaE, Nat.reduceEqDiff, reduceIte]; assumption, ?_⟩))) rfl rfl (by decide) ⟨rfl, by simp [jdY]⟩ ?_ ?_
 ·rintro k s' h' hk ⟨rfl, hno⟩ hi hl ⟨f0, f1, -⟩
  obtain ⟨q, hq, hld⟩ := jbK hz hk
  have HN := Lib.hid hno
  clear hno
  repeat' (first | (simp only [zP, jaf, jaa, jad, jae, seval, Nat.reduceLeDiff, hq, hld, *]) | (simp only [jab]) | (with_reducible apply And.intro) | (with_reducible intro _))
  refine HF.out _ (List.getElem_mem hk) _ ?_
  cases hp : p l[k] with
  | true =>
   have hi : idxP p l = (k : Int) := by
    have : l.findIdx? p = some k := by
     rw [List.findIdx?_eq_some_iff_getElem]
     exact ⟨hk, hp, fun j hj => by simp only [Bool.not_eq_true]; exact HN.out _ (by rw [List.mem_take_iff_getElem]; exact ⟨j, by omega, rfl⟩)⟩
    simp only [idxP, this]
   have hK := HK.out
   rw [hi] at hK
   have fin := Fin.keep (H0 := h') hK
   clear hp hi hK hld
   repeat' (first | (simp only [zP, jaf, jaa, jad, jae, seval, Nat.reduceLeDiff, *]) | (simp only [jab]) | (with_reducible apply And.intro) | (with_reducible intro _))
  | false =>
   have fin : jdY p (l.take (k + 1)) := fun x hx => by
    rw [List.take_succ_eq_append_getElem hk] at hx
    rcases List.mem_append.1 hx with hx | hx
    ·exact HN.out x hx
    ·rw [List.mem_singleton.1 hx]; exact hp
   clear hp hld
   repeat' (first | (simp only [zP, jaf, jaa, jad, jae, seval, Nat.reduceLeDiff, *]) | (simp only [jab]) | (with_reducible apply And.intro) | (with_reducible intro _))
 ·rintro s' h' ⟨rfl, hno⟩ ⟨f0, f1, -⟩
  rw [List.take_of_length_le (Nat.le_refl _)] at hno
  have hi : idxP p l = -1 := by
   have : l.findIdx? p = none := List.findIdx?_eq_none_iff.2 fun x hx => by rw [hno x hx]
   simp only [idxP, this]
  have hK := HK.out
  rw [hi] at hK
  have fin := Fin.keep (H0 := h') hK
  clear hno hi hK
  repeat' (first | (simp only [zP, jaf, jaa, jad, jae, seval, Nat.reduceLeDiff, *]) | (simp only [jab]) | (with_reducible apply And.intro) | (with_reducible intro _))
theorem cfP_z {z : ZV} {l : List OPl} {p : OPl → Bool} {f : FuncId} {caps : List ZV} (hz : jaX H 2 z = some (l.map eRP)) (hb : l.length ≤ 100000000000000) (hf : ∀ m ∈ l, ∀ K, K (ZBo (p m)) H → ZC (boxY tb) (jap Try.prog) f (zRP m :: caps) L H K) (hK : K (ZBo (l.any p)) H) :
  ZC (boxY tb) (jap Try.prog) 43 [z, .func f caps] L H K := by
 refine ZC.enter Gh.no (jan (by decide)) f_or_cfP (by simp) ?_
 simp only [jjS]
 have HF := Lib.hid hf
 have fin := Fin.keep (H0 := H) hK
 clear hf hK
 have HZ := Lib.hid hz
 clear hz
 repeat' (first | (simp only [zP, jaf, jaa, jad, jae, seval, Nat.reduceLeDiff, *]) | (simp only [jab]) | (with_reducible apply And.intro) | (with_reducible intro _))
 refine idxP_z HZ.out hb HF.out ?_
 repeat' (first | (simp only [zP, jaf, jaa, jad, jae, seval, Nat.reduceLeDiff, jjG, *]) | (simp only [jab]) | (with_reducible apply And.intro) | (with_reducible intro _))
theorem idxM_z {z : ZV} {l : List OMk} {p : OMk → Bool} {f : FuncId} {caps : List ZV} (hz : jaX H 5 z = some (l.map eRM)) (hb : l.length ≤ 100000000000000) (hf : ∀ m ∈ l, ∀ K, K (ZBo (p m)) H → ZC (boxY tb) (jap Try.prog) f (zRM m :: caps) L H K) (hK : K (Z64 (idxP p l)) H) :
  ZC (boxY tb) (jap Try.prog) 54 [z, .func f caps] L H K := by
 refine ZC.enter Gh.no (jan (by decide)) f_or_ifM (by simp) ?_
 simp only [jjO]
 have hlen := jbk hz
 rw [List.length_map] at hlen
 have HF := Lib.hid hf
 have HK := Lib.hid hK
 clear hf hK
 repeat' (first | (simp only [zP, jaf, jaa, jad, jae, seval, Nat.reduceLeDiff, hlen, *]) | (simp only [jab]) | (with_reducible apply And.intro) | (with_reducible intro _))
 refine jaP [(0, z), (1, .func f caps)] l.length (fun k s' h' => h' = H ∧ jdY p (l.take k)) (by omega) ⟨rfl, rfl, rfl, rfl, rfl, rfl⟩ rfl rfl (by repeat' (first | exact trivial | (refine ⟨rfl, ?_⟩) | (refine ⟨by simp only [jaE, Nat.reduceEqDiff, reduceIte]; assumption, ?_⟩))) rfl rfl (by decide) ⟨rfl, by simp [jdY]⟩ ?_ ?_
 ·rintro k s' h' hk ⟨rfl, hno⟩ hi hl ⟨f0, f1, -⟩
  obtain ⟨q, hq, hld⟩ := jbK hz hk
  have HN := Lib.hid hno
  clear hno
  repeat' (first | (simp only [zP, jaf, jaa, jad, jae, seval, Nat.reduceLeDiff, hq, hld, *]) | (simp only [jab]) | (with_reducible apply And.intro) | (with_reducible intro _))
  refine HF.out _ (List.getElem_mem hk) _ ?_
  cases hp : p l[k] with
  | true =>
   have hi : idxP p l = (k : Int) := by
    have : l.findIdx? p = some k := by
     rw [List.findIdx?_eq_some_iff_getElem]
     exact ⟨hk, hp, fun j hj => by simp only [Bool.not_eq_true]; exact HN.out _ (by rw [List.mem_take_iff_getElem]; exact ⟨j, by omega, rfl⟩)⟩
    simp only [idxP, this]
   have hK := HK.out
   rw [hi] at hK
   have fin := Fin.keep (H0 := h') hK
   clear hp hi hK hld
   repeat' (first | (simp only [zP, jaf, jaa, jad, jae, seval, Nat.reduceLeDiff, *]) | (simp only [jab]) | (with_reducible apply And.intro) | (with_reducible intro _))
  | false =>
   have fin : jdY p (l.take (k + 1)) := fun x hx => by
    rw [List.take_succ_eq_append_getElem hk] at hx
    rcases List.mem_append.1 hx with hx | hx
    ·exact HN.out x hx
    ·rw [List.mem_singleton.1 hx]; exact hp
   clear hp hld
   repeat' (first | (simp only [zP, jaf, jaa, jad, jae, seval, Nat.reduceLeDiff, *]) | (simp only [jab]) | (with_reducible apply And.intro) | (with_reducible intro _))
 ·rintro s' h' ⟨rfl, hno⟩ ⟨f0, f1, -⟩
  rw [List.take_of_length_le (Nat.le_refl _)] at hno
  have hi : idxP p l = -1 := by
   have : l.findIdx? p = none := List.findIdx?_eq_none_iff.2 fun x hx => by rw [hno x hx]
   simp only [idxP, this]
  have hK := HK.out
  rw [hi] at hK
  have fin := Fin.keep (H0 := h') hK
  clear hno hi hK
  repeat' (first | (simp only [zP, jaf, jaa, jad, jae, seval, Nat.reduceLeDiff, *]) | (simp only [jab]) | (with_reducible apply And.intro) | (with_reducible intro _))
theorem cfM_z {z : ZV} {l : List OMk} {p : OMk → Bool} {f : FuncId} {caps : List ZV} (hz : jaX H 5 z = some (l.map eRM)) (hb : l.length ≤ 100000000000000) (hf : ∀ m ∈ l, ∀ K, K (ZBo (p m)) H → ZC (boxY tb) (jap Try.prog) f (zRM m :: caps) L H K) (hK : K (ZBo (l.any p)) H) :
  ZC (boxY tb) (jap Try.prog) 41 [z, .func f caps] L H K := by
 refine ZC.enter Gh.no (jan (by decide)) f_or_cfM (by simp) ?_
 simp only [jjT]
 have HF := Lib.hid hf
 have fin := Fin.keep (H0 := H) hK
 clear hf hK
 have HZ := Lib.hid hz
 clear hz
 repeat' (first | (simp only [zP, jaf, jaa, jad, jae, seval, Nat.reduceLeDiff, *]) | (simp only [jab]) | (with_reducible apply And.intro) | (with_reducible intro _))
 refine idxM_z HZ.out hb HF.out ?_
 repeat' (first | (simp only [zP, jaf, jaa, jad, jae, seval, Nat.reduceLeDiff, jjG, *]) | (simp only [jab]) | (with_reducible apply And.intro) | (with_reducible intro _))
theorem idxX_z {z : ZV} {l : List OXt} {p : OXt → Bool} {f : FuncId} {caps : List ZV} (hz : jaX H 4 z = some (l.map eRX)) (hb : l.length ≤ 100000000000000) (hf : ∀ m ∈ l, ∀ K, K (ZBo (p m)) H → ZC (boxY tb) (jap Try.prog) f (zRX m :: caps) L H K) (hK : K (Z64 (idxP p l)) H) :
  ZC (boxY tb) (jap Try.prog) 40 [z, .func f caps] L H K := by
 refine ZC.enter Gh.no (jan (by decide)) f_or_ifX (by simp) ?_
 simp only [jjM]
 have hlen := jbk hz
 rw [List.length_map] at hlen
 have HF := Lib.hid hf
 have HK := Lib.hid hK
 clear hf hK
 repeat' (first | (simp only [zP, jaf, jaa, jad, jae, seval, Nat.reduceLeDiff, hlen, *]) | (simp only [jab]) | (with_reducible apply And.intro) | (with_reducible intro _))
 refine jaP [(0, z), (1, .func f caps)] l.length (fun k s' h' => h' = H ∧ jdY p (l.take k)) (by omega) ⟨rfl, rfl, rfl, rfl, rfl, rfl⟩ rfl rfl (by repeat' (first | exact trivial | (refine ⟨rfl, ?_⟩) | (refine ⟨by simp only [jaE, Nat.reduceEqDiff, reduceIte]; assumption, ?_⟩))) rfl rfl (by decide) ⟨rfl, by simp [jdY]⟩ ?_ ?_
 ·rintro k s' h' hk ⟨rfl, hno⟩ hi hl ⟨f0, f1, -⟩
  obtain ⟨q, hq, hld⟩ := jbK hz hk
  have HN := Lib.hid hno
  clear hno
  repeat' (first | (simp only [zP, jaf, jaa, jad, jae, seval, Nat.reduceLeDiff, hq, hld, *]) | (simp only [jab]) | (with_reducible apply And.intro) | (with_reducible intro _))
  refine HF.out _ (List.getElem_mem hk) _ ?_
  cases hp : p l[k] with
  | true =>
   have hi : idxP p l = (k : Int) := by
    have : l.findIdx? p = some k := by
     rw [List.findIdx?_eq_some_iff_getElem]
     exact ⟨hk, hp, fun j hj => by simp only [Bool.not_eq_true]; exact HN.out _ (by rw [List.mem_take_iff_getElem]; exact ⟨j, by omega, rfl⟩)⟩
    simp only [idxP, this]
   have hK := HK.out
   rw [hi] at hK
   have fin := Fin.keep (H0 := h') hK
   clear hp hi hK hld
   repeat' (first | (simp only [zP, jaf, jaa, jad, jae, seval, Nat.reduceLeDiff, *]) | (simp only [jab]) | (with_reducible apply And.intro) | (with_reducible intro _))
  | false =>
   have fin : jdY p (l.take (k + 1)) := fun x hx => by
    rw [List.take_succ_eq_append_getElem hk] at hx
    rcases List.mem_append.1 hx with hx | hx
    ·exact HN.out x hx
    ·rw [List.mem_singleton.1 hx]; exact hp
   clear hp hld
   repeat' (first | (simp only [zP, jaf, jaa, jad, jae, seval, Nat.reduceLeDiff, *]) | (simp only [jab]) | (with_reducible apply And.intro) | (with_reducible intro _))
 ·rintro s' h' ⟨rfl, hno⟩ ⟨f0, f1, -⟩
  rw [List.take_of_length_le (Nat.le_refl _)] at hno
  have hi : idxP p l = -1 := by
   have : l.findIdx? p = none := List.findIdx?_eq_none_iff.2 fun x hx => by rw [hno x hx]
   simp only [idxP, this]
  have hK := HK.out
  rw [hi] at hK
  have fin := Fin.keep (H0 := h') hK
  clear hno hi hK
  repeat' (first | (simp only [zP, jaf, jaa, jad, jae, seval, Nat.reduceLeDiff, *]) | (simp only [jab]) | (with_reducible apply And.intro) | (with_reducible intro _))
theorem cfX_z {z : ZV} {l : List OXt} {p : OXt → Bool} {f : FuncId} {caps : List ZV} (hz : jaX H 4 z = some (l.map eRX)) (hb : l.length ≤ 100000000000000) (hf : ∀ m ∈ l, ∀ K, K (ZBo (p m)) H → ZC (boxY tb) (jap Try.prog) f (zRX m :: caps) L H K) (hK : K (ZBo (l.any p)) H) :
  ZC (boxY tb) (jap Try.prog) 24 [z, .func f caps] L H K := by
 refine ZC.enter Gh.no (jan (by decide)) f_or_cfX (by simp) ?_
 simp only [jjR]
 have HF := Lib.hid hf
 have fin := Fin.keep (H0 := H) hK
 clear hf hK
 have HZ := Lib.hid hz
 clear hz
 repeat' (first | (simp only [zP, jaf, jaa, jad, jae, seval, Nat.reduceLeDiff, *]) | (simp only [jab]) | (with_reducible apply And.intro) | (with_reducible intro _))
 refine idxX_z HZ.out hb HF.out ?_
 repeat' (first | (simp only [zP, jaf, jaa, jad, jae, seval, Nat.reduceLeDiff, jjG, *]) | (simp only [jab]) | (with_reducible apply And.intro) | (with_reducible intro _))
end Go.Proofs.Ytmholkmghhkbhaa

namespace Go.Proofs.Ytmholkmghhkbhaa
open Go Go.RowKit
variable {tb : List (FuncId × Bool)} {L : Nat → Bool} {H : ZH} {K : ZV → ZH → Prop}
structure Cd where
  fn : Int
  pl : Int
  lp : Int
  sl : Int
  ords : List Rd
  exs : List OXt
  turn : OXt
  back : OXt
  xo : Bool := false
  xe : Bool := false
abbrev eCd (c : Cd) : List ZV := [Z64 c.fn, Z64 c.pl, Z64 c.lp, Z64 c.sl, .fz 8 c.xo (c.ords.map eRd), .fz 4 c.xe (c.exs.map eRX), Z64 c.turn.1, Z64 c.turn.2.1, .fz 3 false (c.turn.2.2.1.map eRS), .fz 5 false (c.turn.2.2.2.map eRM), Z64 c.back.1, Z64 c.back.2.1, .fz 3 false (c.back.2.2.1.map eRS), .fz 5 false (c.back.2.2.2.map eRM)]
def jmW (f : OF) (x : Rd) : Bool := (jc4 f x 3).any (fun r => decide (r ≠ 0)) || (f.nm && (decide (x.2.2.1 < 0) || decide (1073741824 < x.2.2.1)))
def jdM (f : OF) (x : Rd) : Bool := (f.wr && !decide (0 ≤ x.2.1 ∧ x.2.1 < 8)) || (decide (x.2.2.2.2.1 < f.lo) || decide (f.hi < x.2.2.2.2.1))
def kB (f : OF) (x : Rd) : Bool := (!f.kk && !decide (x.2.2.2.2.2.2.1 = 0 ∧ x.2.2.2.2.2.2.2 = 0)) || (f.kk && !decide (boxE x.2.2.2.2.2.2.1 x.2.2.2.2.2.2.2 = 0))
def slB (x : Rd) (sl : Int) : Bool := decide (x.1 = 3 ∨ x.1 = 4) && decide (sl ≤ x.2.2.2.2.1)
def exOB (f : OF) (x : Rd) (nx : Nat) : Bool := if f.ex = 0 ∨ (f.ex = 1 ∧ x.2.2.2.2.2.1 = -1) then decide (x.2.2.2.2.2.1 = -1) else decide (0 ≤ x.2.2.2.2.2.1) && decide (x.2.2.2.2.2.1 < (nx : Int))
def numF (f : OF) (x : Rd) : OF := ⟨f.rd, f.wr, f.lo, f.hi, if x.1 = 12 ∧ x.2.2.2.2.1 ≠ 1 then false else f.nm, f.kk, f.ex⟩
theorem jmF {a b c d : Int} : jdG [0, 0] [Z64 a, Z64 b] [Z64 c, Z64 d] = some (decide (a = c) && decide (b = d)) := by simp [jdG, jgX]
/-! ### Stages -/
def c_rT5 : jar := .seq (.ops [⟨(some 111), .fieldAddr 5 (.tmp 4), none, true⟩,
 ⟨(some 112), .load none (.tmp 111), none, true⟩,
 ⟨(some 113), .bin .geq (.tmp 112) (.av (.val (.int .i64 0))), none, true⟩,
 ⟨(some 114), .mv (.tmp 113), none, true⟩,
 ⟨(some 115), .fieldAddr 5 (.tmp 4), (some (114, true)), true⟩,
 ⟨(some 116), .load none (.tmp 115), (some (114, true)), true⟩,
 ⟨(some 117), .fieldAddr 5 (.tmp 5), (some (114, true)), true⟩,
 ⟨(some 118), .load none (.tmp 117), (some (114, true)), true⟩,
 ⟨(some 119), .len (.tmp 118), (some (114, true)), true⟩,
 ⟨(some 120), .bin .lss (.tmp 116) (.tmp 119), (some (114, true)), true⟩,
 ⟨(some 121), .pick (.tmp 114) (.tmp 120) (.av (.val (.bool false))), none, true⟩,
 ⟨(some 6), .mv (.tmp 121), none, true⟩])
 (.ret)
def c_rT4 : jar := .seq (.ops [⟨(some 95), .fieldAddr 6 (.tmp 3), none, true⟩,
 ⟨(some 96), .load none (.tmp 95), none, true⟩,
 ⟨(some 97), .bin .eql (.tmp 96) (.av (.val (.int .i64 0))), none, true⟩,
 ⟨(some 98), .mv (.tmp 97), none, true⟩,
 ⟨(some 99), .fieldAddr 6 (.tmp 3), (some (98, false)), true⟩,
 ⟨(some 100), .load none (.tmp 99), (some (98, false)), true⟩,
 ⟨(some 101), .bin .eql (.tmp 100) (.av (.val (.int .i64 1))), (some (98, false)), true⟩,
 ⟨(some 102), .mv (.tmp 101), (some (98, false)), true⟩,
 ⟨(some 103), .fieldAddr 5 (.tmp 4), (some (102, true)), true⟩,
 ⟨(some 104), .load none (.tmp 103), (some (102, true)), true⟩,
 ⟨(some 105), .bin .eql (.tmp 104) (.av (.val (.int .i64 (-1)))), (some (102, true)), true⟩,
 ⟨(some 106), .pick (.tmp 102) (.tmp 105) (.av (.val (.bool false))), (some (98, false)), true⟩,
 ⟨(some 107), .pick (.tmp 98) (.av (.val (.bool true))) (.tmp 106), none, true⟩,
 ⟨(some 94), .mv (.tmp 107), none, true⟩])
 (.cond (.tmp 94)
 (.seq (.ops [⟨(some 108), .fieldAddr 5 (.tmp 4), none, true⟩,
 ⟨(some 109), .load none (.tmp 108), none, true⟩,
 ⟨(some 110), .bin .eql (.tmp 109) (.av (.val (.int .i64 (-1)))), none, true⟩,
 ⟨(some 6), .mv (.tmp 110), none, true⟩])
 (.ret))
 (.skip))
def c_rT3 : jar := .seq (.ops [⟨(some 79), .fieldAddr 0 (.tmp 4), none, true⟩,
 ⟨(some 80), .load none (.tmp 79), none, true⟩,
 ⟨(some 81), .bin .eql (.tmp 80) (.av (.val (.int .i64 3))), none, true⟩,
 ⟨(some 82), .mv (.tmp 81), none, true⟩,
 ⟨(some 83), .fieldAddr 0 (.tmp 4), (some (82, false)), true⟩,
 ⟨(some 84), .load none (.tmp 83), (some (82, false)), true⟩,
 ⟨(some 85), .bin .eql (.tmp 84) (.av (.val (.int .i64 4))), (some (82, false)), true⟩,
 ⟨(some 86), .pick (.tmp 82) (.av (.val (.bool true))) (.tmp 85), none, true⟩,
 ⟨(some 87), .mv (.tmp 86), none, true⟩,
 ⟨(some 88), .fieldAddr 4 (.tmp 4), (some (87, true)), true⟩,
 ⟨(some 89), .load none (.tmp 88), (some (87, true)), true⟩,
 ⟨(some 90), .fieldAddr 3 (.tmp 5), (some (87, true)), true⟩,
 ⟨(some 91), .load none (.tmp 90), (some (87, true)), true⟩,
 ⟨(some 92), .bin .geq (.tmp 89) (.tmp 91), (some (87, true)), true⟩,
 ⟨(some 93), .pick (.tmp 87) (.tmp 92) (.av (.val (.bool false))), none, true⟩,
 ⟨(some 78), .mv (.tmp 93), none, true⟩])
 (.cond (.tmp 78)
 (.seq (.ops [⟨(some 6), .mv (.av (.val (.bool false))), none, true⟩])
 (.ret))
 c_rT4)
def c_rT2 : jar := .seq (.seq (.ops [⟨(some 63), .fieldAddr 5 (.tmp 3), none, true⟩,
 ⟨(some 64), .load none (.tmp 63), none, true⟩,
 ⟨(some 65), .un .not (.tmp 64), none, true⟩,
 ⟨(some 66), .mv (.tmp 65), none, true⟩,
 ⟨(some 67), .fieldAddr 6 (.tmp 4), (some (66, true)), true⟩,
 ⟨(some 68), .load (some 2) (.tmp 67), (some (66, true)), true⟩,
 ⟨(some 69), .build [(.val (.int .i64 0)), (.val (.int .i64 0))] [], (some (66, true)), true⟩,
 ⟨(some 70), .eqAgg true [0, 0] (.tmp 68) (.tmp 69), (some (66, true)), true⟩,
 ⟨(some 71), .pick (.tmp 66) (.tmp 70) (.av (.val (.bool false))), none, true⟩,
 ⟨(some 62), .mv (.tmp 71), none, true⟩])
 (.cond (.tmp 62)
 (.skip)
 (.ops [⟨(some 72), .fieldAddr 5 (.tmp 3), none, true⟩,
 ⟨(some 73), .load none (.tmp 72), none, true⟩,
 ⟨(some 74), .mv (.tmp 73), none, true⟩,
 ⟨(some 75), .mv (.tmp 8), (some (74, true)), true⟩,
 ⟨(some 76), .bin .neq (.tmp 75) (.av (.val (.int .i64 0))), (some (74, true)), true⟩,
 ⟨(some 77), .pick (.tmp 74) (.tmp 76) (.av (.val (.bool false))), none, true⟩,
 ⟨(some 62), .mv (.tmp 77), none, true⟩])))
 (.cond (.tmp 62)
 (.seq (.ops [⟨(some 6), .mv (.av (.val (.bool false))), none, true⟩])
 (.ret))
 c_rT3)
def c_rT1 : jar := .seq (.seq (.ops [⟨(some 42), .fieldAddr 1 (.tmp 3), none, true⟩,
 ⟨(some 43), .load none (.tmp 42), none, true⟩,
 ⟨(some 44), .mv (.tmp 43), none, true⟩,
 ⟨(some 45), .fieldAddr 1 (.tmp 4), (some (44, true)), true⟩,
 ⟨(some 46), .load none (.tmp 45), (some (44, true)), true⟩,
 ⟨(some 47), .call (.av (.func 50 [])) [(.tmp 46)], (some (44, true)), true⟩,
 ⟨(some 48), .un .not (.tmp 47), (some (44, true)), true⟩,
 ⟨(some 49), .pick (.tmp 44) (.tmp 48) (.av (.val (.bool false))), none, true⟩,
 ⟨(some 41), .mv (.tmp 49), none, true⟩])
 (.cond (.tmp 41)
 (.skip)
 (.ops [⟨(some 50), .fieldAddr 4 (.tmp 4), none, true⟩,
 ⟨(some 51), .load none (.tmp 50), none, true⟩,
 ⟨(some 52), .fieldAddr 2 (.tmp 3), none, true⟩,
 ⟨(some 53), .load none (.tmp 52), none, true⟩,
 ⟨(some 54), .bin .lss (.tmp 51) (.tmp 53), none, true⟩,
 ⟨(some 55), .mv (.tmp 54), none, true⟩,
 ⟨(some 56), .fieldAddr 4 (.tmp 4), (some (55, false)), true⟩,
 ⟨(some 57), .load none (.tmp 56), (some (55, false)), true⟩,
 ⟨(some 58), .fieldAddr 3 (.tmp 3), (some (55, false)), true⟩,
 ⟨(some 59), .load none (.tmp 58), (some (55, false)), true⟩,
 ⟨(some 60), .bin .gtr (.tmp 57) (.tmp 59), (some (55, false)), true⟩,
 ⟨(some 61), .pick (.tmp 55) (.av (.val (.bool true))) (.tmp 60), none, true⟩,
 ⟨(some 41), .mv (.tmp 61), none, true⟩])))
 (.cond (.tmp 41)
 (.seq (.ops [⟨(some 6), .mv (.av (.val (.bool false))), none, true⟩])
 (.ret))
 c_rT2)
def c_rT0 : jar := .seq (.seq (.ops [⟨(some 25), .load (some 7) (.tmp 3), none, true⟩,
 ⟨(some 26), .load (some 8) (.tmp 4), none, true⟩,
 ⟨(some 27), .call (.av (.func 59 [])) [(.tmp 25), (.tmp 26)], none, true⟩,
 ⟨(some 28), .call (.av (.func 58 [])) [(.tmp 27), (.av (.func 60 []))], none, true⟩,
 ⟨(some 24), .mv (.tmp 28), none, true⟩])
 (.cond (.tmp 24)
 (.skip)
 (.ops [⟨(some 29), .fieldAddr 4 (.tmp 3), none, true⟩,
 ⟨(some 30), .load none (.tmp 29), none, true⟩,
 ⟨(some 31), .mv (.tmp 30), none, true⟩,
 ⟨(some 32), .fieldAddr 2 (.tmp 4), (some (31, true)), true⟩,
 ⟨(some 33), .load none (.tmp 32), (some (31, true)), true⟩,
 ⟨(some 34), .bin .lss (.tmp 33) (.av (.val (.int .i64 0))), (some (31, true)), true⟩,
 ⟨(some 35), .mv (.tmp 34), (some (31, true)), true⟩,
 ⟨(some 36), .fieldAddr 2 (.tmp 4), (some (35, false)), true⟩,
 ⟨(some 37), .load none (.tmp 36), (some (35, false)), true⟩,
 ⟨(some 38), .bin .gtr (.tmp 37) (.av (.val (.int .i64 1073741824))), (some (35, false)), true⟩,
 ⟨(some 39), .pick (.tmp 35) (.av (.val (.bool true))) (.tmp 38), (some (31, true)), true⟩,
 ⟨(some 40), .pick (.tmp 31) (.tmp 39) (.av (.val (.bool false))), none, true⟩,
 ⟨(some 24), .mv (.tmp 40), none, true⟩])))
 (.cond (.tmp 24)
 (.seq (.ops [⟨(some 6), .mv (.av (.val (.bool false))), none, true⟩])
 (.ret))
 c_rT1)
def jgA : jar := .seq (.ops [⟨(some 3), .box 7 (.tmp 0), none, true⟩,
 ⟨(some 4), .box 8 (.tmp 1), none, true⟩,
 ⟨(some 5), .box 14 (.tmp 2), none, true⟩,
 ⟨(some 6), .mv (.av (.val (.bool false))), none, true⟩])
 (.seq (.ops [⟨(some 10), .fieldAddr 6 (.tmp 4), none, true⟩,
 ⟨(some 11), .load (some 2) (.tmp 10), none, true⟩,
 ⟨(some 12), .call (.av (.func 57 [])) [(.tmp 11)], none, true⟩,
 ⟨(some 9), .mv (.tmp 12), none, true⟩,
 ⟨(some 13), .extract 0 (.tmp 9), none, true⟩,
 ⟨(some 14), .extract 1 (.tmp 9), none, true⟩,
 ⟨(some 7), .mv (.tmp 13), none, true⟩,
 ⟨(some 8), .mv (.tmp 14), none, true⟩])
 (.seq (.seq (.ops [⟨(some 15), .fieldAddr 0 (.tmp 4), none, true⟩,
 ⟨(some 16), .load none (.tmp 15), none, true⟩,
 ⟨(some 17), .bin .eql (.tmp 16) (.av (.val (.int .i64 12))), none, true⟩,
 ⟨(some 18), .mv (.tmp 17), none, true⟩,
 ⟨(some 19), .fieldAddr 4 (.tmp 4), (some (18, true)), true⟩,
 ⟨(some 20), .load none (.tmp 19), (some (18, true)), true⟩,
 ⟨(some 21), .bin .neq (.tmp 20) (.av (.val (.int .i64 1))), (some (18, true)), true⟩,
 ⟨(some 22), .pick (.tmp 18) (.tmp 21) (.av (.val (.bool false))), none, true⟩])
 (.cond (.tmp 22)
 (.ops [⟨(some 23), .fieldAddr 4 (.tmp 3), none, true⟩,
 ⟨none, .store 1 (.tmp 23) (.av (.val (.bool false))), none, true⟩])
 (.skip)))
 (.seq (.block 0 c_rT0)
 c_rT5)))
theorem jkW : jap Try.prog 48 = some ⟨122, jgA, [.tmp 6]⟩ := by kernel_rfl

def rFr (f : OF) (x : Rd) (c : Cd) (H : ZH) : ZH := H ++ [.box (eOF f), .box (eRd x), .box (eCd c)]
abbrev OrT (H : ZH) (S : ZS) : Prop := S 3 = .ptr H.length 0 ∧ S 4 = .ptr (H.length + 1) 0 ∧ S 5 = .ptr (H.length + 2) 0
def exR (x : Rd) (nx : Nat) : Bool := decide (0 ≤ x.2.2.2.2.2.1) && decide (x.2.2.2.2.2.1 < (nx : Int))
def v3B (f : OF) (x : Rd) (c : Cd) : Bool := !slB x c.sl && exOB f x c.exs.length
def v2B (f : OF) (x : Rd) (c : Cd) : Bool := !kB f x && v3B f x c
def v1B (f : OF) (x : Rd) (c : Cd) : Bool := !jdM f x && v2B f x c
def v0B (f : OF) (x : Rd) (c : Cd) : Bool := !jmW f x && v1B f x c
set_option maxHeartbeats 2000000 in
theorem rT5_z {f : OF} {x : Rd} {c : Cd} {S : ZS} {KK : jaq → ZS → ZH → Prop} (hx : c.exs.length ≤ 100000000) (hS : OrT H S)
  (hr : ∀ S', S' 6 = ZBo (exR x c.exs.length) → KK .ret S' (rFr f x c H)) : zW (boxY tb) (jap Try.prog) Gh.no L c_rT5 S (rFr f x c H) KK := by
 obtain ⟨op, a, b, cc, n, e, kk, kn⟩ := x
 obtain ⟨rd, wr, lo, hi, nm, k2, ex⟩ := f
 obtain ⟨fn, pl, lp, sl, ords, exs, turn, back, xo, xe⟩ := c
 obtain ⟨h3, h4, h5⟩ := hS
 simp only [exR] at hx hr ⊢
 obtain ⟨Hx, hHx⟩ : ∃ Hx, Hx = rFr ⟨rd, wr, lo, hi, nm, k2, ex⟩ (op, a, b, cc, n, e, kk, kn) ⟨fn, pl, lp, sl, ords, exs, turn, back, xo, xe⟩ H := ⟨_, rfl⟩
 have a0 : Hx[H.length]? = some (.box (eOF ⟨rd, wr, lo, hi, nm, k2, ex⟩)) := by rw [hHx]; exact atN0 rfl _ _
 have a1 : Hx[H.length + 1]? = some (.box (eRd (op, a, b, cc, n, e, kk, kn))) := by rw [hHx]; exact atN1 rfl _ _ _
 have a2 : Hx[H.length + 2]? = some (.box (eCd ⟨fn, pl, lp, sl, ords, exs, turn, back, xo, xe⟩)) := by rw [hHx]; exact atN2 rfl _ _ _ _
 rw [← hHx] at hr
 rw [← hHx]
 simp only [c_rT5]
 have HR := Lib.hid hr
 clear hr hHx
 by_cases q1 : 0 ≤ e
 ·by_cases q2 : e < (exs.length : Int)
  ·have fin := fun S' (h : S' 6 = ZBo true) => HR.out S' (by rw [h]; simp [q1, q2])
   repeat' (first | (simp only [zP, jaf, jaa, jad, jae, seval, Nat.reduceLeDiff, h3, h4, h5, a0, a1, a2, q1, q2, *]) | (simp only [jab]) | (with_reducible apply And.intro) | (with_reducible intro _))
  ·have fin := fun S' (h : S' 6 = ZBo false) => HR.out S' (by rw [h]; simp [q1, q2])
   repeat' (first | (simp only [zP, jaf, jaa, jad, jae, seval, Nat.reduceLeDiff, h3, h4, h5, a0, a1, a2, q1, q2, *]) | (simp only [jab]) | (with_reducible apply And.intro) | (with_reducible intro _))
 ·have fin := fun S' (h : S' 6 = ZBo false) => HR.out S' (by rw [h]; simp [q1])
  repeat' (first | (simp only [zP, jaf, jaa, jad, jae, seval, Nat.reduceLeDiff, h3, h4, h5, a0, a1, a2, q1, *]) | (simp only [jab]) | (with_reducible apply And.intro) | (with_reducible intro _))
set_option maxHeartbeats 4000000 in
theorem rT4_z {f : OF} {x : Rd} {c : Cd} {S : ZS} {KK : jaq → ZS → ZH → Prop} (hS : OrT H S)
  (hr : ∀ S', S' 6 = ZBo (exOB f x c.exs.length) → KK .ret S' (rFr f x c H)) (hn : exOB f x c.exs.length = exR x c.exs.length → ∀ S', OrT H S' → KK .normal S' (rFr f x c H)) : zW (boxY tb) (jap Try.prog) Gh.no L c_rT4 S (rFr f x c H) KK := by
 obtain ⟨op, a, b, cc, n, e, kk, kn⟩ := x
 obtain ⟨rd, wr, lo, hi, nm, k2, ex⟩ := f
 obtain ⟨fn, pl, lp, sl, ords, exs, turn, back, xo, xe⟩ := c
 obtain ⟨h3, h4, h5⟩ := hS
 obtain ⟨Hx, hHx⟩ : ∃ Hx, Hx = rFr ⟨rd, wr, lo, hi, nm, k2, ex⟩ (op, a, b, cc, n, e, kk, kn) ⟨fn, pl, lp, sl, ords, exs, turn, back, xo, xe⟩ H := ⟨_, rfl⟩
 have a0 : Hx[H.length]? = some (.box (eOF ⟨rd, wr, lo, hi, nm, k2, ex⟩)) := by rw [hHx]; exact atN0 rfl _ _
 have a1 : Hx[H.length + 1]? = some (.box (eRd (op, a, b, cc, n, e, kk, kn))) := by rw [hHx]; exact atN1 rfl _ _ _
 have a2 : Hx[H.length + 2]? = some (.box (eCd ⟨fn, pl, lp, sl, ords, exs, turn, back, xo, xe⟩)) := by rw [hHx]; exact atN2 rfl _ _ _ _
 rw [← hHx] at hr
 rw [← hHx]
 rw [← hHx] at hn
 have HR := Lib.hid hr
 have HN := Lib.hid hn
 have HHX := Lib.hid hHx
 clear hr hn hHx
 simp only [c_rT4]
 by_cases q1 : ex = 0
 ·have fin := fun S' (h : S' 6 = ZBo (decide (e = -1))) => HR.out S' (by rw [h]; simp [exOB, q1])
  clear HR HN
  repeat' (first | (simp only [zP, jaf, jaa, jad, jae, seval, Nat.reduceLeDiff, h3, h4, h5, a0, a1, a2, q1, *]) | (simp only [jab]) | (with_reducible apply And.intro) | (with_reducible intro _))
 ·have e10 : ¬ ((1 : Int) = 0) := by omega
  by_cases q2 : ex = 1
  ·by_cases q3 : e = -1
   ·have fin := fun S' (h : S' 6 = ZBo true) => HR.out S' (by rw [h]; simp [exOB, q2, q3])
    clear HR HN
    repeat' (first | (simp only [zP, jaf, jaa, jad, jae, seval, Nat.reduceLeDiff, h3, h4, h5, a0, a1, a2, q1, q2, q3, e10, *]) | (simp only [jab]) | (with_reducible apply And.intro) | (with_reducible intro _))
   ·have hn := Lib.hid (HN.out (by simp [exOB, exR, q2, q3]))
    clear HR HN
    repeat' (first | (simp only [zP, jaf, jaa, jad, jae, seval, Nat.reduceLeDiff, h3, h4, h5, a0, a1, a2, q1, q2, q3, e10, *]) | (simp only [jab]) | (with_reducible apply And.intro) | (with_reducible intro _))
    exact hn.out _ (by simp [OrT, zupd, h3, h4, h5])
  ·have hn := Lib.hid (HN.out (by simp [exOB, exR, q1, q2]))
   clear HR HN
   repeat' (first | (simp only [zP, jaf, jaa, jad, jae, seval, Nat.reduceLeDiff, h3, h4, h5, a0, a1, a2, q1, q2, *]) | (simp only [jab]) | (with_reducible apply And.intro) | (with_reducible intro _))
   exact hn.out _ (by simp [OrT, zupd, h3, h4, h5])
set_option maxHeartbeats 4000000 in
theorem rT3_z {f : OF} {x : Rd} {c : Cd} {S : ZS} {KK : jaq → ZS → ZH → Prop} (hS : OrT H S)
  (hr : ∀ S', S' 6 = ZBo (v3B f x c) → KK .ret S' (rFr f x c H)) (hn : v3B f x c = exR x c.exs.length → ∀ S', OrT H S' → KK .normal S' (rFr f x c H)) : zW (boxY tb) (jap Try.prog) Gh.no L c_rT3 S (rFr f x c H) KK := by
 obtain ⟨op, a, b, cc, n, e, kk, kn⟩ := x
 obtain ⟨rd, wr, lo, hi, nm, k2, ex⟩ := f
 obtain ⟨fn, pl, lp, sl, ords, exs, turn, back, xo, xe⟩ := c
 obtain ⟨h3, h4, h5⟩ := hS
 obtain ⟨Hx, hHx⟩ : ∃ Hx, Hx = rFr ⟨rd, wr, lo, hi, nm, k2, ex⟩ (op, a, b, cc, n, e, kk, kn) ⟨fn, pl, lp, sl, ords, exs, turn, back, xo, xe⟩ H := ⟨_, rfl⟩
 have a0 : Hx[H.length]? = some (.box (eOF ⟨rd, wr, lo, hi, nm, k2, ex⟩)) := by rw [hHx]; exact atN0 rfl _ _
 have a1 : Hx[H.length + 1]? = some (.box (eRd (op, a, b, cc, n, e, kk, kn))) := by rw [hHx]; exact atN1 rfl _ _ _
 have a2 : Hx[H.length + 2]? = some (.box (eCd ⟨fn, pl, lp, sl, ords, exs, turn, back, xo, xe⟩)) := by rw [hHx]; exact atN2 rfl _ _ _ _
 rw [← hHx] at hr
 rw [← hHx]
 rw [← hHx] at hn
 have HR := Lib.hid hr
 have HN := Lib.hid hn
 have HHX := Lib.hid hHx
 clear hr hn hHx
 simp only [c_rT3]
 by_cases q1 : op = 3
 ·have q0 : ¬ (op = 4) := by omega
  by_cases q3 : sl ≤ n
  ·have fin := fun S' (h : S' 6 = ZBo false) => HR.out S' (by rw [h]; simp [v3B, slB, q1, q3])
   repeat' (first | (simp only [zP, jaf, jaa, jad, jae, seval, Nat.reduceLeDiff, h3, h4, h5, a0, a1, a2, q1, q3, *]) | (simp only [jab]) | (with_reducible apply And.intro) | (with_reducible intro _))
  ·repeat' (first | (simp only [zP, jaf, jaa, jad, jae, seval, Nat.reduceLeDiff, h3, h4, h5, a0, a1, a2, q1, q3, *]) | (simp only [jab]) | (with_reducible apply And.intro) | (with_reducible intro _))
   obtain rfl := HHX.out
   have hv : v3B ⟨rd, wr, lo, hi, nm, k2, ex⟩ (op, a, b, cc, n, e, kk, kn) ⟨fn, pl, lp, sl, ords, exs, turn, back, xo, xe⟩ = exOB ⟨rd, wr, lo, hi, nm, k2, ex⟩ (op, a, b, cc, n, e, kk, kn) exs.length := by simp [v3B, slB, q1, q3]
   exact rT4_z (by simp [OrT, zupd, h3, h4, h5]) (fun S' h => HR.out S' (by rw [hv, h])) (fun h => HN.out (hv.trans h))
 ·have e43 : ¬ ((4 : Int) = 3) := by omega
  by_cases q2 : op = 4
  ·by_cases q3 : sl ≤ n
   ·have fin := fun S' (h : S' 6 = ZBo false) => HR.out S' (by rw [h]; simp [v3B, slB, q2, q3])
    repeat' (first | (simp only [zP, jaf, jaa, jad, jae, seval, Nat.reduceLeDiff, h3, h4, h5, a0, a1, a2, q1, q2, q3, e43, *]) | (simp only [jab]) | (with_reducible apply And.intro) | (with_reducible intro _))
   ·repeat' (first | (simp only [zP, jaf, jaa, jad, jae, seval, Nat.reduceLeDiff, h3, h4, h5, a0, a1, a2, q1, q2, q3, e43, *]) | (simp only [jab]) | (with_reducible apply And.intro) | (with_reducible intro _))
    obtain rfl := HHX.out
    have hv : v3B ⟨rd, wr, lo, hi, nm, k2, ex⟩ (op, a, b, cc, n, e, kk, kn) ⟨fn, pl, lp, sl, ords, exs, turn, back, xo, xe⟩ = exOB ⟨rd, wr, lo, hi, nm, k2, ex⟩ (op, a, b, cc, n, e, kk, kn) exs.length := by simp [v3B, slB, q1, q2, q3]
    exact rT4_z (by simp [OrT, zupd, h3, h4, h5]) (fun S' h => HR.out S' (by rw [hv, h])) (fun h => HN.out (hv.trans h))
  ·repeat' (first | (simp only [zP, jaf, jaa, jad, jae, seval, Nat.reduceLeDiff, h3, h4, h5, a0, a1, a2, q1, q2, *]) | (simp only [jab]) | (with_reducible apply And.intro) | (with_reducible intro _))
   obtain rfl := HHX.out
   have hv : v3B ⟨rd, wr, lo, hi, nm, k2, ex⟩ (op, a, b, cc, n, e, kk, kn) ⟨fn, pl, lp, sl, ords, exs, turn, back, xo, xe⟩ = exOB ⟨rd, wr, lo, hi, nm, k2, ex⟩ (op, a, b, cc, n, e, kk, kn) exs.length := by simp [v3B, slB, q1, q2]
   exact rT4_z (by simp [OrT, zupd, h3, h4, h5]) (fun S' h => HR.out S' (by rw [hv, h])) (fun h => HN.out (hv.trans h))
set_option maxHeartbeats 4000000 in
theorem rT2_z {f : OF} {x : Rd} {c : Cd} {S : ZS} {KK : jaq → ZS → ZH → Prop} (hS : OrT H S) (h8 : S 8 = Z64 (boxE x.2.2.2.2.2.2.1 x.2.2.2.2.2.2.2))
  (hr : ∀ S', S' 6 = ZBo (v2B f x c) → KK .ret S' (rFr f x c H)) (hn : v2B f x c = exR x c.exs.length → ∀ S', OrT H S' → KK .normal S' (rFr f x c H)) : zW (boxY tb) (jap Try.prog) Gh.no L c_rT2 S (rFr f x c H) KK := by
 obtain ⟨op, a, b, cc, n, e, kk, kn⟩ := x
 obtain ⟨rd, wr, lo, hi, nm, k2, ex⟩ := f
 obtain ⟨fn, pl, lp, sl, ords, exs, turn, back, xo, xe⟩ := c
 obtain ⟨h3, h4, h5⟩ := hS
 simp only at h8
 obtain ⟨Hx, hHx⟩ : ∃ Hx, Hx = rFr ⟨rd, wr, lo, hi, nm, k2, ex⟩ (op, a, b, cc, n, e, kk, kn) ⟨fn, pl, lp, sl, ords, exs, turn, back, xo, xe⟩ H := ⟨_, rfl⟩
 have a0 : Hx[H.length]? = some (.box (eOF ⟨rd, wr, lo, hi, nm, k2, ex⟩)) := by rw [hHx]; exact atN0 rfl _ _
 have a1 : Hx[H.length + 1]? = some (.box (eRd (op, a, b, cc, n, e, kk, kn))) := by rw [hHx]; exact atN1 rfl _ _ _
 have a2 : Hx[H.length + 2]? = some (.box (eCd ⟨fn, pl, lp, sl, ords, exs, turn, back, xo, xe⟩)) := by rw [hHx]; exact atN2 rfl _ _ _ _
 rw [← hHx] at hr
 rw [← hHx]
 rw [← hHx] at hn
 have HR := Lib.hid hr
 have HN := Lib.hid hn
 have HHX := Lib.hid hHx
 clear hr hn hHx
 simp only [c_rT2]
 cases k2 with
 | true =>
  by_cases q1 : boxE kk kn = 0
  ·repeat' (first | (simp only [zP, jaf, jaa, jad, jae, seval, Nat.reduceLeDiff, h3, h4, h5, a0, a1, a2, h8, q1, *]) | (simp only [jab]) | (with_reducible apply And.intro) | (with_reducible intro _))
   obtain rfl := HHX.out
   have hv : v2B ⟨rd, wr, lo, hi, nm, true, ex⟩ (op, a, b, cc, n, e, kk, kn) ⟨fn, pl, lp, sl, ords, exs, turn, back, xo, xe⟩ = v3B ⟨rd, wr, lo, hi, nm, true, ex⟩ (op, a, b, cc, n, e, kk, kn) ⟨fn, pl, lp, sl, ords, exs, turn, back, xo, xe⟩ := by simp [v2B, kB, q1]
   exact rT3_z (by simp [OrT, zupd, h3, h4, h5]) (fun S' h => HR.out S' (by rw [hv, h])) (fun h => HN.out (hv.trans h))
  ·have fin := fun S' (h : S' 6 = ZBo false) => HR.out S' (by rw [h]; simp [v2B, kB, q1])
   repeat' (first | (simp only [zP, jaf, jaa, jad, jae, seval, Nat.reduceLeDiff, h3, h4, h5, a0, a1, a2, h8, q1, *]) | (simp only [jab]) | (with_reducible apply And.intro) | (with_reducible intro _))
 | false =>
  by_cases q1 : kk = 0 ∧ kn = 0
  ·have hv : v2B ⟨rd, wr, lo, hi, nm, false, ex⟩ (op, a, b, cc, n, e, kk, kn) ⟨fn, pl, lp, sl, ords, exs, turn, back, xo, xe⟩ = v3B ⟨rd, wr, lo, hi, nm, false, ex⟩ (op, a, b, cc, n, e, kk, kn) ⟨fn, pl, lp, sl, ords, exs, turn, back, xo, xe⟩ := by simp [v2B, kB, q1]
   have hs : jdG [0, 0] [Z64 kk, Z64 kn] [Z64 0, Z64 0] = some true := by rw [jmF]; simp [q1]
   have HV := Lib.hid hv
   clear q1 hv
   repeat' (first | (simp only [zP, jaf, jaa, jad, jae, seval, Nat.reduceLeDiff, h3, h4, h5, a0, a1, a2, hs, *]) | (simp only [jab]) | (with_reducible apply And.intro) | (with_reducible intro _))
   obtain rfl := HHX.out
   exact rT3_z (by simp [OrT, zupd, h3, h4, h5]) (fun S' h => HR.out S' (by rw [HV.out, h])) (fun h => HN.out (HV.out.trans h))
  ·have fin := fun S' (h : S' 6 = ZBo false) => HR.out S' (by rw [h]; simp [v2B, kB, q1])
   have hs : jdG [0, 0] [Z64 kk, Z64 kn] [Z64 0, Z64 0] = some false := by rw [jmF]; simpa using q1
   clear q1
   repeat' (first | (simp only [zP, jaf, jaa, jad, jae, seval, Nat.reduceLeDiff, h3, h4, h5, a0, a1, a2, hs, *]) | (simp only [jab]) | (with_reducible apply And.intro) | (with_reducible intro _))
set_option maxHeartbeats 4000000 in
theorem rT1_z {f : OF} {x : Rd} {c : Cd} {S : ZS} {KK : jaq → ZS → ZH → Prop} (hS : OrT H S) (h8 : S 8 = Z64 (boxE x.2.2.2.2.2.2.1 x.2.2.2.2.2.2.2))
  (hr : ∀ S', S' 6 = ZBo (v1B f x c) → KK .ret S' (rFr f x c H)) (hn : v1B f x c = exR x c.exs.length → ∀ S', OrT H S' → KK .normal S' (rFr f x c H)) : zW (boxY tb) (jap Try.prog) Gh.no L c_rT1 S (rFr f x c H) KK := by
 obtain ⟨op, a, b, cc, n, e, kk, kn⟩ := x
 obtain ⟨rd, wr, lo, hi, nm, k2, ex⟩ := f
 obtain ⟨fn, pl, lp, sl, ords, exs, turn, back, xo, xe⟩ := c
 obtain ⟨h3, h4, h5⟩ := hS
 simp only at h8
 obtain ⟨Hx, hHx⟩ : ∃ Hx, Hx = rFr ⟨rd, wr, lo, hi, nm, k2, ex⟩ (op, a, b, cc, n, e, kk, kn) ⟨fn, pl, lp, sl, ords, exs, turn, back, xo, xe⟩ H := ⟨_, rfl⟩
 have a0 : Hx[H.length]? = some (.box (eOF ⟨rd, wr, lo, hi, nm, k2, ex⟩)) := by rw [hHx]; exact atN0 rfl _ _
 have a1 : Hx[H.length + 1]? = some (.box (eRd (op, a, b, cc, n, e, kk, kn))) := by rw [hHx]; exact atN1 rfl _ _ _
 have a2 : Hx[H.length + 2]? = some (.box (eCd ⟨fn, pl, lp, sl, ords, exs, turn, back, xo, xe⟩)) := by rw [hHx]; exact atN2 rfl _ _ _ _
 rw [← hHx] at hr
 rw [← hHx]
 rw [← hHx] at hn
 have HR := Lib.hid hr
 have HN := Lib.hid hn
 have HHX := Lib.hid hHx
 clear hr hn hHx
 simp only [c_rT1]
 cases wr with
 | true =>
  repeat' (first | (simp only [zP, jaf, jaa, jad, jae, seval, Nat.reduceLeDiff, h3, h4, h5, a0, a1, a2, h8, *]) | (simp only [jab]) | (with_reducible apply And.intro) | (with_reducible intro _))
  refine jiS ?_
  by_cases q0 : 0 ≤ a ∧ a < 8
  ·by_cases q1 : n < lo
   ·have fin := fun S' (h : S' 6 = ZBo false) => HR.out S' (by rw [h]; simp [v1B, jdM, q1])
    repeat' (first | (simp only [zP, jaf, jaa, jad, jae, seval, Nat.reduceLeDiff, h3, h4, h5, a0, a1, a2, h8, q0, q1, *]) | (simp only [jab]) | (with_reducible apply And.intro) | (with_reducible intro _))
   ·by_cases q2 : hi < n
    ·have fin := fun S' (h : S' 6 = ZBo false) => HR.out S' (by rw [h]; simp [v1B, jdM, q2])
     repeat' (first | (simp only [zP, jaf, jaa, jad, jae, seval, Nat.reduceLeDiff, h3, h4, h5, a0, a1, a2, h8, q0, q1, q2, *]) | (simp only [jab]) | (with_reducible apply And.intro) | (with_reducible intro _))
    ·repeat' (first | (simp only [zP, jaf, jaa, jad, jae, seval, Nat.reduceLeDiff, h3, h4, h5, a0, a1, a2, h8, q0, q1, q2, *]) | (simp only [jab]) | (with_reducible apply And.intro) | (with_reducible intro _))
     obtain rfl := HHX.out
     have hv : v1B ⟨rd, true, lo, hi, nm, k2, ex⟩ (op, a, b, cc, n, e, kk, kn) ⟨fn, pl, lp, sl, ords, exs, turn, back, xo, xe⟩ = v2B ⟨rd, true, lo, hi, nm, k2, ex⟩ (op, a, b, cc, n, e, kk, kn) ⟨fn, pl, lp, sl, ords, exs, turn, back, xo, xe⟩ := by simp [v1B, jdM, q1, q2, q0]
     exact rT2_z (by simp [OrT, zupd, h3, h4, h5]) (by simp [zupd, h8]) (fun S' h => HR.out S' (by rw [hv, h])) (fun h => HN.out (hv.trans h))
  ·have fin := fun S' (h : S' 6 = ZBo false) => HR.out S' (by rw [h]; simp [v1B, jdM, q0])
   repeat' (first | (simp only [zP, jaf, jaa, jad, jae, seval, Nat.reduceLeDiff, h3, h4, h5, a0, a1, a2, h8, q0, *]) | (simp only [jab]) | (with_reducible apply And.intro) | (with_reducible intro _))
 | false =>
  by_cases q1 : n < lo
  ·have fin := fun S' (h : S' 6 = ZBo false) => HR.out S' (by rw [h]; simp [v1B, jdM, q1])
   repeat' (first | (simp only [zP, jaf, jaa, jad, jae, seval, Nat.reduceLeDiff, h3, h4, h5, a0, a1, a2, h8, q1, *]) | (simp only [jab]) | (with_reducible apply And.intro) | (with_reducible intro _))
  ·by_cases q2 : hi < n
   ·have fin := fun S' (h : S' 6 = ZBo false) => HR.out S' (by rw [h]; simp [v1B, jdM, q2])
    repeat' (first | (simp only [zP, jaf, jaa, jad, jae, seval, Nat.reduceLeDiff, h3, h4, h5, a0, a1, a2, h8, q1, q2, *]) | (simp only [jab]) | (with_reducible apply And.intro) | (with_reducible intro _))
   ·repeat' (first | (simp only [zP, jaf, jaa, jad, jae, seval, Nat.reduceLeDiff, h3, h4, h5, a0, a1, a2, h8, q1, q2, *]) | (simp only [jab]) | (with_reducible apply And.intro) | (with_reducible intro _))
    obtain rfl := HHX.out
    have hv : v1B ⟨rd, false, lo, hi, nm, k2, ex⟩ (op, a, b, cc, n, e, kk, kn) ⟨fn, pl, lp, sl, ords, exs, turn, back, xo, xe⟩ = v2B ⟨rd, false, lo, hi, nm, k2, ex⟩ (op, a, b, cc, n, e, kk, kn) ⟨fn, pl, lp, sl, ords, exs, turn, back, xo, xe⟩ := by simp [v1B, jdM, q1, q2]
    exact rT2_z (by simp [OrT, zupd, h3, h4, h5]) (by simp [zupd, h8]) (fun S' h => HR.out S' (by rw [hv, h])) (fun h => HN.out (hv.trans h))
end Go.Proofs.Ytmholkmghhkbhaa

namespace Go.Proofs.Ytmholkmghhkbhaa
open Go Go.RowKit
variable {tb : List (FuncId × Bool)} {L : Nat → Bool} {H : ZH} {K : ZV → ZH → Prop}
set_option maxHeartbeats 4000000 in
theorem rT0_z {f : OF} {x : Rd} {c : Cd} {S : ZS} {KK : jaq → ZS → ZH → Prop} (hrd : f.rd ∈ rdL) (hS : OrT H S) (h8 : S 8 = Z64 (boxE x.2.2.2.2.2.2.1 x.2.2.2.2.2.2.2))
  (hr : ∀ S', S' 6 = ZBo (v0B f x c) → KK .ret S' (rFr f x c H)) (hn : v0B f x c = exR x c.exs.length → ∀ S', OrT H S' → KK .normal S' (rFr f x c H)) : zW (boxY tb) (jap Try.prog) Gh.no L c_rT0 S (rFr f x c H) KK := by
 obtain ⟨op, a, b, cc, n, e, kk, kn⟩ := x
 obtain ⟨rd, wr, lo, hi, nm, k2, ex⟩ := f
 obtain ⟨fn, pl, lp, sl, ords, exs, turn, back, xo, xe⟩ := c
 obtain ⟨h3, h4, h5⟩ := hS
 simp only at h8
 simp only at hrd
 obtain ⟨Hx, hHx⟩ : ∃ Hx, Hx = rFr ⟨rd, wr, lo, hi, nm, k2, ex⟩ (op, a, b, cc, n, e, kk, kn) ⟨fn, pl, lp, sl, ords, exs, turn, back, xo, xe⟩ H := ⟨_, rfl⟩
 have a0 : Hx[H.length]? = some (.box (eOF ⟨rd, wr, lo, hi, nm, k2, ex⟩)) := by rw [hHx]; exact atN0 rfl _ _
 have a1 : Hx[H.length + 1]? = some (.box (eRd (op, a, b, cc, n, e, kk, kn))) := by rw [hHx]; exact atN1 rfl _ _ _
 have a2 : Hx[H.length + 2]? = some (.box (eCd ⟨fn, pl, lp, sl, ords, exs, turn, back, xo, xe⟩)) := by rw [hHx]; exact atN2 rfl _ _ _ _
 rw [← hHx] at hr
 rw [← hHx]
 rw [← hHx] at hn
 have HR := Lib.hid hr
 have HN := Lib.hid hn
 have HHX := Lib.hid hHx
 have HRD := Lib.hid hrd
 clear hrd
 clear hr hn hHx
 simp only [c_rT0]
 repeat' (first | (simp only [zP, jaf, jaa, jad, jae, seval, Nat.reduceLeDiff, h3, h4, h5, a0, a1, a2, h8, *]) | (simp only [jab]) | (with_reducible apply And.intro) | (with_reducible intro _))
 refine idle_z (f := ⟨rd, wr, lo, hi, nm, k2, ex⟩) (x := (op, a, b, cc, n, e, kk, kn)) HRD.out ?_
 repeat' (first | (simp only [zP, jaf, jaa, jad, jae, seval, Nat.reduceLeDiff, h3, h4, h5, a0, a1, a2, h8, *]) | (simp only [jab]) | (with_reducible apply And.intro) | (with_reducible intro _))
 refine cfI_z (p := fun r => decide (r ≠ 0)) (by simp [jaX]; rfl) (Nat.le_trans jgr (by omega)) (fun r _ K hK => righta_z hK) ?_
 generalize hA : List.any _ _ = rA
 cases rA with
 | true =>
  have hi1 : jmW ⟨rd, wr, lo, hi, nm, k2, ex⟩ (op, a, b, cc, n, e, kk, kn) = true := by simp only [jmW]; rw [hA]; rfl
  have fin := fun S' (h : S' 6 = ZBo false) => HR.out S' (by rw [h]; unfold v0B; rw [hi1]; rfl)
  clear hA hi1
  repeat' (first | (simp only [zP, jaf, jaa, jad, jae, seval, Nat.reduceLeDiff, h3, h4, h5, a0, a1, a2, h8, *]) | (simp only [jab]) | (with_reducible apply And.intro) | (with_reducible intro _))
 | false =>
  have hi1 : jmW ⟨rd, wr, lo, hi, nm, k2, ex⟩ (op, a, b, cc, n, e, kk, kn) = (nm && (decide (b < 0) || decide (1073741824 < b))) := by simp only [jmW]; rw [hA]; rfl
  have HI := Lib.hid hi1
  clear hA hi1
  have nx : ∀ (hv : v0B ⟨rd, wr, lo, hi, nm, k2, ex⟩ (op, a, b, cc, n, e, kk, kn) ⟨fn, pl, lp, sl, ords, exs, turn, back, xo, xe⟩ = v1B ⟨rd, wr, lo, hi, nm, k2, ex⟩ (op, a, b, cc, n, e, kk, kn) ⟨fn, pl, lp, sl, ords, exs, turn, back, xo, xe⟩) (S1 : ZS), OrT H S1 → S1 8 = Z64 (boxE kk kn) → zW (boxY tb) (jap Try.prog) Gh.no L c_rT1 S1 Hx KK := fun hv S1 t1 t2 => by
   obtain rfl := HHX.out
   exact rT1_z t1 t2 (fun S' h => HR.out S' (by rw [hv, h])) (fun h => HN.out (hv.trans h))
  cases nm with
  | false =>
   have NX := Lib.hid (nx (by unfold v0B; rw [HI.out]; rfl))
   clear nx
   repeat' (first | (simp only [zP, jaf, jaa, jad, jae, seval, Nat.reduceLeDiff, h3, h4, h5, a0, a1, a2, h8, *]) | (simp only [jab]) | (with_reducible apply And.intro) | (with_reducible intro _))
   exact NX.out _ (by simp [OrT, zupd, h3, h4, h5]) (by simp [zupd, h8])
  | true =>
   by_cases q1 : b < 0
   ·have fin := fun S' (h : S' 6 = ZBo false) => HR.out S' (by rw [h]; unfold v0B; rw [HI.out]; simp [q1])
    clear nx
    repeat' (first | (simp only [zP, jaf, jaa, jad, jae, seval, Nat.reduceLeDiff, h3, h4, h5, a0, a1, a2, h8, q1, *]) | (simp only [jab]) | (with_reducible apply And.intro) | (with_reducible intro _))
   ·by_cases q2 : 1073741824 < b
    ·have fin := fun S' (h : S' 6 = ZBo false) => HR.out S' (by rw [h]; unfold v0B; rw [HI.out]; simp [q2])
     clear nx
     repeat' (first | (simp only [zP, jaf, jaa, jad, jae, seval, Nat.reduceLeDiff, h3, h4, h5, a0, a1, a2, h8, q1, q2, *]) | (simp only [jab]) | (with_reducible apply And.intro) | (with_reducible intro _))
    ·have NX := Lib.hid (nx (by unfold v0B; rw [HI.out]; simp [q1, q2]))
     clear nx
     repeat' (first | (simp only [zP, jaf, jaa, jad, jae, seval, Nat.reduceLeDiff, h3, h4, h5, a0, a1, a2, h8, q1, q2, *]) | (simp only [jab]) | (with_reducible apply And.intro) | (with_reducible intro _))
     exact NX.out _ (by simp [OrT, zupd, h3, h4, h5]) (by simp [zupd, h8])
def jcc (f : OF) (x : Rd) (c : Cd) : Bool := v0B (numF f x) x c
set_option maxHeartbeats 8000000 in
theorem right_z {f : OF} {x : Rd} {c : Cd} (hrd : f.rd ∈ rdL) (hx : c.exs.length ≤ 100000000) (hK : K (ZBo (jcc f x c)) H) : ZC (boxY tb) (jap Try.prog) 48 [.agg (eOF f), .agg (eRd x), .agg (eCd c)] L H K := by
 obtain ⟨op, a, b, cc, n, e, kk, kn⟩ := x
 obtain ⟨rd, wr, lo, hi, nm, k2, ex⟩ := f
 obtain ⟨fn, pl, lp, sl, ords, exs, turn, back, xo, xe⟩ := c
 simp only at hx hrd
 have HRD := Lib.hid hrd
 clear hrd
 refine ZC.enterL Gh.no (jan (by decide)) jkW (by simp) fun hL => ?_
 simp only [jgA]
 have F0 := Lib.hid (show ∀ r X, jcc ⟨rd, wr, lo, hi, nm, k2, ex⟩ (op, a, b, cc, n, e, kk, kn) ⟨fn, pl, lp, sl, ords, exs, turn, back, xo, xe⟩ = r → Fin H (ZBo r) (H ++ X) K from fun r X hr => Fin.trunc (Mods.ext H X) rfl (by rw [List.take_left, ← hr]; exact hK))
 clear hK
 have l0 : L H.length = true := hL 0
 have l1 : L (H.length + 1) = true := hL 1
 have l2 : L (H.length + 2) = true := hL 2
 have a00 : ∀ A Y, (H ++ (A :: Y))[H.length]? = some A := fun A Y => atN0 rfl A Y
 have s00 : ∀ A C Y, (H ++ (A :: Y)).set H.length C = H ++ (C :: Y) := fun A C Y => stN0 rfl A C Y
 have a1 : ∀ A B Y, (H ++ (A :: B :: Y))[H.length + 1]? = some B := fun A B Y => atN1 rfl A B Y
 have a2 : ∀ A B C Y, (H ++ (A :: B :: C :: Y))[H.length + 2]? = some C := fun A B C Y => atN2 rfl A B C Y
 repeat' (first | (simp only [zP, jaf, jaa, jad, jae, seval, Nat.reduceLeDiff, a00, a1, a2, *]) | (simp only [jab]) | (with_reducible apply And.intro) | (with_reducible intro _))
 refine box_z ?_
 have end0 : ∀ nm2, numF ⟨rd, wr, lo, hi, nm, k2, ex⟩ (op, a, b, cc, n, e, kk, kn) = ⟨rd, wr, lo, hi, nm2, k2, ex⟩ → ∀ (S : ZS) (KK K2 : jaq → ZS → ZH → Prop), OrT H S → S 8 = Z64 (boxE kk kn) →
   (∀ S' r X, S' 6 = ZBo r → Fin H (ZBo r) (H ++ X) K → KK .ret S' (H ++ X)) → (∀ S' r X, S' 6 = ZBo r → Fin H (ZBo r) (H ++ X) K → K2 .ret S' (H ++ X)) → (∀ S', OrT H S' → zW (boxY tb) (jap Try.prog) Gh.no L c_rT5 S' (rFr ⟨rd, wr, lo, hi, nm2, k2, ex⟩ (op, a, b, cc, n, e, kk, kn) ⟨fn, pl, lp, sl, ords, exs, turn, back, xo, xe⟩ H) K2 → KK .normal S' (rFr ⟨rd, wr, lo, hi, nm2, k2, ex⟩ (op, a, b, cc, n, e, kk, kn) ⟨fn, pl, lp, sl, ords, exs, turn, back, xo, xe⟩ H)) →
   zW (boxY tb) (jap Try.prog) Gh.no L c_rT0 S (H ++ [.box (eOF ⟨rd, wr, lo, hi, nm2, k2, ex⟩), .box (eRd (op, a, b, cc, n, e, kk, kn)), .box (eCd ⟨fn, pl, lp, sl, ords, exs, turn, back, xo, xe⟩)]) KK := fun nm2 hnm S KK K2 hS h8 hr hr2 hn => by
  have hrb : ∀ r, v0B ⟨rd, wr, lo, hi, nm2, k2, ex⟩ (op, a, b, cc, n, e, kk, kn) ⟨fn, pl, lp, sl, ords, exs, turn, back, xo, xe⟩ = r → jcc ⟨rd, wr, lo, hi, nm, k2, ex⟩ (op, a, b, cc, n, e, kk, kn) ⟨fn, pl, lp, sl, ords, exs, turn, back, xo, xe⟩ = r := fun r h => by unfold jcc; rw [hnm]; exact h
  refine rT0_z (f := ⟨rd, wr, lo, hi, nm2, k2, ex⟩) (x := (op, a, b, cc, n, e, kk, kn)) (c := ⟨fn, pl, lp, sl, ords, exs, turn, back, xo, xe⟩) HRD.out hS h8 (fun S' h6 => hr S' _ _ h6 (F0.out _ _ (hrb _ rfl))) fun hv S' hS' => hn S' hS' (rT5_z hx hS' fun S2 h6 => hr2 S2 _ _ h6 (F0.out _ _ (hrb _ hv)))
 have E0 := Lib.hid end0
 clear end0
 have hsplit : (op = 12 ∧ ¬ (n = 1)) ∨ (op = 12 ∧ n = 1) ∨ (¬ (op = 12) ∧ (0 : Int) ≤ 0) := by omega
 rcases hsplit with ⟨h1, h2⟩ | ⟨h1, h2⟩ | ⟨h1, h2⟩
 ·have E1 := Lib.hid (E0.out false (by simp [numF, h1, h2]))
  clear E0
  subst h1
  repeat' (first | (simp only [zP, jaf, jaa, jad, jae, seval, Nat.reduceLeDiff, a00, a1, a2, s00, l0, h2, *]) | (simp only [jab]) | (with_reducible apply And.intro) | (with_reducible intro _))
  refine E1.out _ _ _ (by simp [OrT, zupd]) (by simp [zupd]) (fun S' r X h6 h => ?_) ?_ (fun S' hS' h => h)
  ·simp only [jbv, jdN]
   rw [h6]; exact ⟨.inr trivial, h⟩
  ·intro S' r X h6 h
   show _ ∧ Fin H (S' 6) (H ++ X) K
   rw [h6]; exact ⟨.inr rfl, h⟩
 ·have E1 := Lib.hid (E0.out nm (by simp [numF, h1, h2]))
  clear E0
  subst h1 h2
  repeat' (first | (simp only [zP, jaf, jaa, jad, jae, seval, Nat.reduceLeDiff, a00, a1, a2, s00, l0, *]) | (simp only [jab]) | (with_reducible apply And.intro) | (with_reducible intro _))
  refine E1.out _ _ _ (by simp [OrT, zupd]) (by simp [zupd]) (fun S' r X h6 h => ?_) ?_ (fun S' hS' h => h)
  ·simp only [jbv, jdN]
   rw [h6]; exact ⟨.inr trivial, h⟩
  ·intro S' r X h6 h
   show _ ∧ Fin H (S' 6) (H ++ X) K
   rw [h6]; exact ⟨.inr rfl, h⟩
 ·have E1 := Lib.hid (E0.out nm (by simp [numF, h1]))
  clear E0
  repeat' (first | (simp only [zP, jaf, jaa, jad, jae, seval, Nat.reduceLeDiff, a00, a1, a2, s00, l0, h1, *]) | (simp only [jab]) | (with_reducible apply And.intro) | (with_reducible intro _))
  refine E1.out _ _ _ (by simp [OrT, zupd]) (by simp [zupd]) (fun S' r X h6 h => ?_) ?_ (fun S' hS' h => h)
  ·simp only [jbv, jdN]
   rw [h6]; exact ⟨.inr trivial, h⟩
  ·intro S' r X h6 h
   show _ ∧ Fin H (S' 6) (H ++ X) K
   rw [h6]; exact ⟨.inr rfl, h⟩
end Go.Proofs.Ytmholkmghhkbhaa

namespace Go.Proofs.Ytmholkmghhkbhaa
open Go Go.RowKit
variable {tb : List (FuncId × Bool)} {L : Nat → Bool} {H : ZH} {K : ZV → ZH → Prop}
/-! ### What was written -/
structure Wr where
  regs : List Bool
  slots : List Bool
def wBox (q : Nat) (W : Wr) : List ZV := W.regs.map ZBo ++ [.own q 0 0 W.slots.length true]
structure WAt (H : ZH) (p q : Nat) (W : Wr) : Prop where
  bx : H[p]? = some (.box (wBox q W))
  sl : H[q]? = some (.grow 0 1 (W.slots.map eB))
  len : W.regs.length = 8
theorem WAt.app {p q : Nat} {W : Wr} (h : WAt H p q W) (X : ZH) : WAt (H ++ X) p q W := ⟨by rw [List.getElem?_append_left (jas h.bx)]; exact h.bx, by rw [List.getElem?_append_left (jas h.sl)]; exact h.sl, h.len⟩
theorem WAt.reg {p q : Nat} {W : Wr} (h : WAt H p q W) {m : Nat} (hm : m < 8) : (wBox q W)[m]? = some (ZBo (W.regs.getD m false)) := by
 unfold wBox
 have h8 := h.len
 rw [List.getElem?_append_left (by simp; omega), List.getElem?_map, List.getD_eq_getElem?_getD, List.getElem?_eq_getElem (by omega)]; rfl
theorem WAt.own {p q : Nat} {W : Wr} (h : WAt H p q W) : (wBox q W)[8]? = some (.own q 0 0 W.slots.length true) := by
 unfold wBox
 have h8 := h.len
 rw [List.getElem?_append_right (by simp; omega)]; simp [h8]
def hasB (W : Wr) (pl : OPl) : Bool := if pl.2 = -1 ∧ 0 ≤ pl.1 ∧ pl.1 < 8 then W.regs.getD pl.1.toNat false else if pl.1 = -1 ∧ 0 ≤ pl.2 ∧ pl.2 < (W.slots.length : Int) then W.slots.getD pl.2.toNat false else false
set_option maxHeartbeats 4000000 in
theorem has_z {p q : Nat} {W : Wr} {pl : OPl} (hW : WAt H p q W) (hsl : W.slots.length ≤ 300) (hK : K (ZBo (hasB W pl)) H) : ZC (boxY tb) (jap Try.prog) 46 [.ptr p 0, .agg (eRP pl)] L H K := by
 obtain ⟨r, s⟩ := pl
 refine ZC.enter Gh.no (jan (by decide)) f_or_has (by simp) ?_
 simp only [jjQ]
 have F0 := Lib.hid (show ∀ b X, hasB W (r, s) = b → Fin H (ZBo b) (H ++ X) K from fun b X hb => Fin.trunc (Mods.ext H X) rfl (by rw [List.take_left, ← hb]; exact hK))
 clear hK
 have a00 : ∀ A Y, (H ++ (A :: Y))[H.length]? = some A := fun A Y => atN0 rfl A Y
 have ap : ∀ X, (H ++ X)[p]? = some (.box (wBox q W)) := fun X => (hW.app X).bx
 have aq : ∀ X, (H ++ X)[q]? = some (.grow 0 1 (W.slots.map eB)) := fun X => (hW.app X).sl
 have b8 := hW.own
 have hr := fun m (hm : m < 8) => hW.reg hm
 have HRM := Lib.hid hr
 clear hr
 obtain ⟨sl, hsle⟩ : ∃ sl, sl = W.slots.map eB := ⟨_, rfl⟩
 obtain ⟨nn, hnn⟩ : ∃ nn, nn = W.slots.length := ⟨_, rfl⟩
 obtain ⟨wb, hwb⟩ : ∃ wb, wb = wBox q W := ⟨_, rfl⟩
 rw [← hsle] at aq
 rw [← hnn] at b8 hsl
 rw [← hwb] at ap b8
 have hls : nn ≤ sl.length := by rw [hnn, hsle]; simp
 have HSL := Lib.hid hsle
 have HNN := Lib.hid hnn
 have HWB := Lib.hid hwb
 have hnr : nn < 9223372036854775808 := by omega
 clear hsle hnn hwb hW
 by_cases q1 : s = -1
 ·subst q1
  have e1 : ¬ ((0 : Int) ≤ -1) := by omega
  by_cases q2 : 0 ≤ r
  ·by_cases q3 : r < 8
   ·have hn : natZ (Z64 r) = some r.toNat := jcv q2
    have hm : r.toNat < 8 := by omega
    have hg : wb[r.toNat]? = some (ZBo (W.regs.getD r.toNat false)) := by rw [HWB.out]; exact HRM.out _ hm
    have fin := fun X => F0.out _ X (show hasB W (r, -1) = W.regs.getD r.toNat false by simp [hasB, q2, q3])
    generalize W.regs.getD r.toNat false = bb at fin hg
    generalize r.toNat = m at hn hm hg
    repeat' (first | (simp only [zP, jaf, jaa, jad, jae, seval, Nat.reduceLeDiff, a00, ap, b8, q2, q3, hn, hm, hg, *]) | (simp only [jab]) | (with_reducible apply And.intro) | (with_reducible intro _))
   ·have q4 : ¬ (r = -1) := by omega
    have fin := fun X => F0.out false X (by simp [hasB, q3, q4])
    repeat' (first | (simp only [zP, jaf, jaa, jad, jae, seval, Nat.reduceLeDiff, a00, ap, b8, q2, q3, q4, *]) | (simp only [jab]) | (with_reducible apply And.intro) | (with_reducible intro _))
  ·have fin := fun X => F0.out false X (by simp [hasB, q2])
   by_cases q4 : r = -1
   ·subst q4
    repeat' (first | (simp only [zP, jaf, jaa, jad, jae, seval, Nat.reduceLeDiff, a00, ap, b8, q2, e1, *]) | (simp only [jab]) | (with_reducible apply And.intro) | (with_reducible intro _))
   ·repeat' (first | (simp only [zP, jaf, jaa, jad, jae, seval, Nat.reduceLeDiff, a00, ap, b8, q2, q4, *]) | (simp only [jab]) | (with_reducible apply And.intro) | (with_reducible intro _))
 ·by_cases q2 : r = -1
  ·subst q2
   by_cases q3 : 0 ≤ s
   ·by_cases q4 : s < (nn : Int)
    ·have hn : natZ (Z64 s) = some s.toNat := jcv q3
     have hm : s.toNat < nn := by omega
     have hg : sl[s.toNat]? = some [ZBo (W.slots.getD s.toNat false)] := by rw [HSL.out, List.getElem?_map, List.getD_eq_getElem?_getD, List.getElem?_eq_getElem (by have := HNN.out; omega)]; rfl
     have fin := fun X => F0.out _ X (show hasB W (-1, s) = W.slots.getD s.toNat false by simp only [hasB]; rw [if_neg (by omega), if_pos ⟨trivial, q3, by have := HNN.out; omega⟩])
     generalize W.slots.getD s.toNat false = bb at fin hg
     generalize s.toNat = m at hn hm hg
     repeat' (first | (simp only [zP, jaf, jaa, jad, jae, seval, Nat.reduceLeDiff, a00, ap, aq, b8, q1, q3, q4, hn, hm, hg, hls, *]) | (simp only [jab]) | (with_reducible apply And.intro) | (with_reducible intro _))
    ·have fin := fun X => F0.out false X (by simp only [hasB]; rw [if_neg (by omega), if_neg (by have := HNN.out; omega)])
     repeat' (first | (simp only [zP, jaf, jaa, jad, jae, seval, Nat.reduceLeDiff, a00, ap, aq, b8, q1, q3, q4, hls, *]) | (simp only [jab]) | (with_reducible apply And.intro) | (with_reducible intro _))
   ·have fin := fun X => F0.out false X (by simp only [hasB]; rw [if_neg (by omega), if_neg (by omega)])
    repeat' (first | (simp only [zP, jaf, jaa, jad, jae, seval, Nat.reduceLeDiff, a00, ap, aq, b8, q1, q3, *]) | (simp only [jab]) | (with_reducible apply And.intro) | (with_reducible intro _))
  ·have fin := fun X => F0.out false X (by simp only [hasB]; rw [if_neg (by omega), if_neg (by omega)])
   repeat' (first | (simp only [zP, jaf, jaa, jad, jae, seval, Nat.reduceLeDiff, a00, ap, aq, b8, q1, q2, *]) | (simp only [jab]) | (with_reducible apply And.intro) | (with_reducible intro _))
/-! ### Places -/
def plM (m : OMk) : List OPl := (m.1, m.2.1) :: m.2.2.2.2
def plX (x : OXt) : List OPl := x.2.2.1.map (·.2) ++ x.2.2.2.flatMap plM
structure OXS (x : OXt) : Prop where
  sets : x.2.2.1.length ≤ 60
  makes : x.2.2.2.length ≤ 300
  vals : ∀ m ∈ x.2.2.2, m.2.2.2.2.length ≤ 100
theorem flat_le {ms : List OMk} (h : ∀ m ∈ ms, m.2.2.2.2.length ≤ 100) : (ms.flatMap plM).length ≤ ms.length * 101 := by
 induction ms with
 | nil => simp
 | cons m ms ih =>
  have h1 := h m (by simp)
  have h2 := ih fun m hm => h m (by simp [hm])
  simp only [List.flatMap_cons, List.length_append, plM, List.length_cons] at h2 ⊢
  have : (ms.length + 1) * 101 = ms.length * 101 + 101 := by omega
  omega
theorem OXS.len {x : OXt} (h : OXS x) : (plX x).length ≤ 2000000 := by
 have h1 := flat_le h.vals
 have h2 := h.sets
 have h3 := h.makes
 have h4 : x.2.2.2.length * 101 ≤ 300 * 101 := Nat.mul_le_mul_right _ h3
 unfold plX
 rw [List.length_append, List.length_map]
 omega
def PInv (H : ZH) (B : ZB) (t : Nat) (l : List OPl) (s' : ZS) (h' : ZH) : Prop := ∃ g X, s' t = .own (H.length + 1) g 0 l.length false ∧ h' = H ++ (B :: .grow g 2 (l.map eRP) :: X)
def NoP33 (H : ZH) (z : ZV) : Prop := z = .no ∨ ∃ i, z = .ptr i 4 ∧ (H.length + 1 == i) = false
set_option maxHeartbeats 4000000 in
theorem jjB {x : OXt} (hx : OXS x) (hK : K (.fz 2 false ((plX x).map eRP)) H) : ZC (boxY tb) (jap Try.prog) 44 [.agg (eRX x)] L H K := by
 obtain ⟨xa, xb, sets, makes⟩ := x
 have hns := hx.sets
 have hnm := hx.makes
 have hX := Lib.hid hx.len
 clear hx
 simp only at hns hnm
 refine ZC.enterL ⟨[(3, [(0, 2)])], [], []⟩ (jan (by decide)) jiY (by simp) fun hL => ?_
 simp only [jfS]
 have HK := Lib.hid hK
 clear hK
 have gA : ∀ A Y, (H ++ (A :: Y))[H.length]? = some A := fun A Y => atN0 rfl A Y
 have gB : ∀ A B Y, (H ++ (A :: B :: Y))[H.length + 1]? = some B := fun A B Y => atN1 rfl A B Y
 have sB : ∀ A B C Y, (H ++ (A :: B :: Y)).set (H.length + 1) C = H ++ (A :: C :: Y) := fun A B C Y => stN1 rfl A B C Y
 have lB : L (H.length + 1) = true := hL 1
 have hlen1 : sets.length < 9223372036854775807 := by omega
 have hlen2 : makes.length < 9223372036854775807 := by omega
 repeat' (first | (simp only [zP, jaf, jaa, jad, jae, seval, Nat.reduceLeDiff, *]) | (simp only [jab]) | (with_reducible apply And.intro) | (with_reducible intro _))
 refine jaP [(1, .ptr H.length 0), (9, .fz 3 false (sets.map eRS)), (33, .no)] sets.length (fun k s' h' => PInv H (.box (eRX (xa, xb, sets, makes))) 3 ((sets.take k).map (·.2)) s' h') (by omega) ⟨rfl, rfl, rfl, rfl, rfl, rfl⟩ rfl rfl (by repeat' (first | exact trivial | (refine ⟨rfl, ?_⟩) | (refine ⟨by simp only [jaE, Nat.reduceEqDiff, reduceIte]; assumption, ?_⟩))) rfl rfl (by decide) ⟨0, [], rfl, rfl⟩ ?_ ?_
 ·rintro k s' h' hk ⟨g, X, e3, rfl⟩ hi hl ⟨f1, f9, f33, -⟩
  have hx : sets[k]? = some sets[k] := List.getElem?_eq_getElem hk
  obtain ⟨q, hq⟩ : ∃ q, q = sets[k] := ⟨_, rfl⟩
  rw [← hq] at hx
  have htake := Lib.hid (show (sets.take (k + 1)).map (·.2) = (sets.take k).map (·.2) ++ [q.2] by rw [List.take_succ_eq_append_getElem hk, hq, List.map_append]; rfl)
  obtain ⟨q1, q2, q3⟩ := q
  have hle : (((sets.take k).map (·.2)).length + 1) * 16 ≤ jaN := by unfold jaN; simp; omega
  generalize (sets.take k).map (·.2) = l at e3 hle htake
  have aX : ∀ A B C, (H ++ (A :: B :: (X ++ [C])))[H.length + (X.length + 1 + 1)]? = some C := fun A B C => by rw [List.getElem?_append_right (by omega), Nat.add_sub_cancel_left, List.getElem?_cons_succ, List.getElem?_cons_succ, List.getElem?_append_right (Nat.le_refl _), Nat.sub_self]; rfl
  have sX : ∀ A B C D, (H ++ (A :: B :: (X ++ [C]))).set (H.length + (X.length + 1 + 1)) D = H ++ (A :: B :: (X ++ [D])) := fun A B C D => by rw [List.set_append_right _ _ (by omega), Nat.add_sub_cancel_left, List.set_cons_succ, List.set_cons_succ, List.set_append_right _ _ (Nat.le_refl _), Nat.sub_self]; rfl
  have lX : L (H.length + (X.length + 1 + 1)) = true := hL _
  have hkl : l.length ≤ (l.map eRP).length := by simp
  clear hq
  repeat' (first | (simp only [zP, jaf, jaa, jad, jae, seval, Nat.reduceLeDiff, hx, gA, gB, sB, lB, aX, sX, lX, hle, hkl, e3, *]) | (simp only [jab]) | (with_reducible apply And.intro) | (with_reducible intro _))
  all_goals first | (simp; done) | skip
  rw [htake.out]
  exact ⟨g + 1, X ++ [.box [Z64 q1, Z64 q2, Z64 q3]], by simp [zupd], by simp⟩
 ·rintro s' h' ⟨g, X, e3, rfl⟩ ⟨f1, f9, f33, -⟩
  rw [List.take_of_length_le (Nat.le_refl _)] at e3 ⊢
  have hT := Lib.hid (show ∀ n, (makes.take n).flatMap plM = (makes.take n).flatMap plM from fun _ => rfl)
  have fin : ∀ g X l, l = plX (xa, xb, sets, makes) → Fin H (.own (H.length + 1) g 0 l.length false) (H ++ (.box (eRX (xa, xb, sets, makes)) :: .grow g 2 (l.map eRP) :: X)) K := fun g X l hl => by
   subst hl
   refine Fin.frz (k := 2) (rows := (plX (xa, xb, sets, makes)).map eRP) (gB _ _ _) (by simp) (jfy fun _ => rfl) ?_
   refine Fin.trunc ?_ rfl ?_
   ·rw [sB]; exact Mods.ext H _
   ·rw [sB, List.take_left, List.drop_zero, List.take_of_length_le (by simp)]; exact HK.out
  obtain ⟨l0, hl0⟩ : ∃ l0, l0 = sets.map (·.2) := ⟨_, rfl⟩
  rw [← hl0] at e3 ⊢
  have hl0' := Lib.hid hl0
  clear hl0
  repeat' (first | (simp only [zP, jaf, jaa, jad, jae, seval, Nat.reduceLeDiff, gA, e3, *]) | (simp only [jab]) | (with_reducible apply And.intro) | (with_reducible intro _))
  refine jaP [(1, .ptr H.length 0), (22, .fz 5 false (makes.map eRM))] makes.length (fun k s' h' => PInv H (.box (eRX (xa, xb, sets, makes))) 3 (l0 ++ (makes.take k).flatMap plM) s' h' ∧ NoP33 H (s' 33)) (by omega) ⟨rfl, rfl, rfl, rfl, rfl, rfl⟩ rfl rfl (by repeat' (first | exact trivial | (refine ⟨rfl, ?_⟩) | (refine ⟨by simp only [jaE, Nat.reduceEqDiff, reduceIte]; assumption, ?_⟩))) rfl rfl (by decide) ⟨⟨g, X, by first | (simp [e3]; done) | (simp [zupd, e3]; done), by simp⟩, .inl (by first | rfl | (simp [zupd]; exact f33))⟩ ?_ ?_
  ·rintro k s' h' hk ⟨⟨g, X, e3, rfl⟩, o33⟩ hi hl ⟨f1, f9, -⟩
   have hx : makes[k]? = some makes[k] := List.getElem?_eq_getElem hk
   obtain ⟨q, hq⟩ : ∃ q, q = makes[k] := ⟨_, rfl⟩
   rw [← hq] at hx
   have ht0 : l0 ++ (makes.take (k + 1)).flatMap plM = (l0 ++ (makes.take k).flatMap plM) ++ plM q := by rw [List.take_succ_eq_append_getElem hk, hq, List.flatMap_append, List.append_assoc]; simp
   have hlen : (l0 ++ (makes.take (k + 1)).flatMap plM).length ≤ 2000000 := by
    have h1 := hX.out
    unfold plX at h1
    simp only at h1
    rw [← hl0'.out] at h1
    have h2 : makes.flatMap plM = (makes.take (k + 1)).flatMap plM ++ (makes.drop (k + 1)).flatMap plM := by rw [← List.flatMap_append, List.take_append_drop]
    rw [h2] at h1
    simp only [List.length_append] at h1 ⊢
    omega
   rw [ht0] at hlen
   have htake := Lib.hid ht0
   obtain ⟨q1, q2, q3, q4, qv⟩ := q
   have hle : ((l0 ++ (makes.take k).flatMap plM).length + 1) * 16 ≤ jaN ∧ ((l0 ++ (makes.take k).flatMap plM).length + 1 + qv.length) * 16 ≤ jaN := by
    simp only [List.length_append, plM, List.length_cons] at hlen ⊢
    unfold jaN
    omega
   generalize l0 ++ (makes.take k).flatMap plM = l at e3 hle htake
   obtain ⟨hle1, hle2⟩ := hle
   have aX : ∀ A B C, (H ++ (A :: B :: (X ++ [C])))[H.length + (X.length + 1 + 1)]? = some C := fun A B C => by rw [List.getElem?_append_right (by omega), Nat.add_sub_cancel_left, List.getElem?_cons_succ, List.getElem?_cons_succ, List.getElem?_append_right (Nat.le_refl _), Nat.sub_self]; rfl
   have sX : ∀ A B C D, (H ++ (A :: B :: (X ++ [C]))).set (H.length + (X.length + 1 + 1)) D = H ++ (A :: B :: (X ++ [D])) := fun A B C D => by rw [List.set_append_right _ _ (by omega), Nat.add_sub_cancel_left, List.set_cons_succ, List.set_cons_succ, List.set_append_right _ _ (Nat.le_refl _), Nat.sub_self]; rfl
   have lX : L (H.length + (X.length + 1 + 1)) = true := hL _
   have hkl : l.length ≤ (l.map eRP).length := by simp
   have hkl2 : ∀ z : List ZV, l.length + 1 ≤ (List.take l.length (l.map eRP) ++ [z]).length := fun z => by simp
   have hql : (qv.map eRP).length = qv.length := List.length_map ..
   clear hq ht0 hlen
   have hne1 : (H.length + 1 == H.length + (X.length + 1 + 1)) = false := by simp
   have hne2 : (H.length + (X.length + 1 + 1) == H.length + 1) = false := by simp
   have hlt2 : H.length + (X.length + 1 + 1) < H.length + (X.length + 1 + 1 + 1) := by omega
   rcases o33 with o33 | ⟨i33, o33, hi33⟩
   all_goals
    repeat' (first | (simp only [zP, jaf, jaa, jad, jae, seval, Nat.reduceLeDiff, hx, gA, gB, sB, lB, aX, sX, lX, hle1, hle2, hkl, hkl2, hql, e3, o33, hne1, hne2, hlt2, *]) | (simp only [jab]) | (with_reducible apply And.intro) | (with_reducible intro _))
    ·rw [htake.out]
     exact ⟨g + 1 + 1, X ++ [.box [Z64 q1, Z64 q2, Z64 q3, Z64 q4, .fz 2 false (qv.map eRP)]], by simp [zupd, plM]; omega, by rw [List.take_of_length_le (by simp)]; simp [plM]⟩
    ·exact .inr ⟨_, rfl, by simp⟩
  ·rintro s' h' ⟨⟨g, X, e3, rfl⟩, -⟩ ⟨f1, f9, -⟩
   rw [List.take_of_length_le (Nat.le_refl _)] at e3 ⊢
   have fin2 := fin g X _ (show l0 ++ makes.flatMap plM = _ by rw [hl0'.out]; rfl)
   rw [List.length_append] at fin2
   clear fin
   repeat' (first | (simp only [zP, jaf, jaa, jad, jae, seval, Nat.reduceLeDiff, gA, e3, *]) | (simp only [jab]) | (with_reducible apply And.intro) | (with_reducible intro _))
end Go.Proofs.Ytmholkmghhkbhaa

namespace Go.Proofs.Ytmholkmghhkbhaa
open Go Go.RowKit
variable {tb : List (FuncId × Bool)} {L : Nat → Bool} {H : ZH} {K : ZV → ZH → Prop}
theorem alla_z {p q b : Nat} {W : Wr} {m : OPl} (hW : WAt H p q W) (hsl : W.slots.length ≤ 300) (hb : H[b]? = some (.box [.ptr p 0])) (hK : K (ZBo (!hasB W m)) H) :
  ZC (boxY tb) (jap Try.prog) 45 [zRP m, .ptr b 0] L H K := by
 obtain ⟨r, s⟩ := m
 refine ZC.enter Gh.no (jan (by decide)) jm5 (by simp) ?_
 simp only [jia]
 have F0 := Lib.hid (show ∀ X, Fin H (ZBo (!hasB W (r, s))) (H ++ X) K from fun X => Fin.trunc (Mods.ext H X) rfl (by rw [List.take_left]; exact hK))
 clear hK
 have a00 : ∀ A Y, (H ++ (A :: Y))[H.length]? = some A := fun A Y => atN0 rfl A Y
 have ab : ∀ X, (H ++ X)[b]? = some (.box [.ptr p 0]) := fun X => by rw [List.getElem?_append_left (jas hb)]; exact hb
 have HWA := Lib.hid hW
 clear hW hb
 repeat' (first | (simp only [zP, jaf, jaa, jad, jae, seval, Nat.reduceLeDiff, a00, ab, *]) | (simp only [jab]) | (with_reducible apply And.intro) | (with_reducible intro _))
 refine has_z (pl := (r, s)) (HWA.out.app _) hsl ?_
 have fin := F0.out
 generalize hasB W (r, s) = bb at fin ⊢
 repeat' (first | (simp only [zP, jaf, jaa, jad, jae, seval, Nat.reduceLeDiff, a00, ab, *]) | (simp only [jab]) | (with_reducible apply And.intro) | (with_reducible intro _))
def allB (W : Wr) (x : OXt) : Bool := !(plX x).any fun m => !hasB W m
set_option maxHeartbeats 2000000 in
theorem jnI {p q : Nat} {W : Wr} {x : OXt} (hx : OXS x) (hW : WAt H p q W) (hsl : W.slots.length ≤ 300) (hK : K (ZBo (allB W x)) H) :
  ZC (boxY tb) (jap Try.prog) 27 [.ptr p 0, .agg (eRX x)] L H K := by
 refine ZC.enter Gh.no (jan (by decide)) f_or_all (by simp) ?_
 simp only [jjV]
 have F0 := Lib.hid (show ∀ X, Fin H (ZBo (allB W x)) (H ++ X) K from fun X => Fin.trunc (Mods.ext H X) rfl (by rw [List.take_left]; exact hK))
 clear hK
 have a00 : ∀ A Y, (H ++ (A :: Y))[H.length]? = some A := fun A Y => atN0 rfl A Y
 have a1 : ∀ A B Y, (H ++ (A :: B :: Y))[H.length + 1]? = some B := fun A B Y => atN1 rfl A B Y
 have HWA := Lib.hid hW
 have HX := Lib.hid hx
 clear hW hx
 obtain ⟨xa, xb, sets, makes⟩ := x
 repeat' (first | (simp only [zP, jaf, jaa, jad, jae, seval, Nat.reduceLeDiff, a00, a1, *]) | (simp only [jab]) | (with_reducible apply And.intro) | (with_reducible intro _))
 refine jjB (x := (xa, xb, sets, makes)) HX.out ?_
 have hn := HX.out.len
 repeat' (first | (simp only [zP, jaf, jaa, jad, jae, seval, Nat.reduceLeDiff, a00, a1, *]) | (simp only [jab]) | (with_reducible apply And.intro) | (with_reducible intro _))
 refine cfP_z (p := fun m => !hasB W m) (by simp [jaX]; rfl) (by omega) (fun m _ K hK => alla_z (HWA.out.app _) hsl (by first | exact a00 _ _ | exact atN0 rfl _ _) hK) ?_
 have fin := F0.out
 unfold allB at fin
 generalize List.any _ _ = bb at fin ⊢
 repeat' (first | (simp only [zP, jaf, jaa, jad, jae, seval, Nat.reduceLeDiff, a00, a1, *]) | (simp only [jab]) | (with_reducible apply And.intro) | (with_reducible intro _))
def wrO (W : Wr) (x : Rd) : Wr := ⟨if 0 ≤ jbg x then W.regs.set (jbg x).toNat true else W.regs, if x.1 = 3 then W.slots.set x.2.2.2.2.1.toNat true else W.slots⟩
def jep (W : Wr) (r : Int) : Bool := decide (0 ≤ r ∧ r < 8) && W.regs.getD r.toNat false
def exAt (c : Cd) (e : Int) : OXt := c.exs.getD e.toNat (0, 0, [], [])
def jbD (W : Wr) (x : Rd) (c : Cd) : Int :=
  if (ofO x.1).2 = false then 7
  else if jcc (ofO x.1).1 x c = false then 3
  else if (jeI x).any (fun r => !jep W r) = true then 3
  else if ((decide (x.1 = 4) && !W.slots.getD x.2.2.2.2.1.toNat false) || (decide (0 ≤ x.2.2.2.2.2.1) && !allB W (exAt c x.2.2.2.2.2.1))) = true then 3
  else 0
theorem jmL (f : OF) (x : Rd) : (numF f x).wr = f.wr ∧ (numF f x).lo = f.lo ∧ (numF f x).ex = f.ex := ⟨rfl, rfl, rfl⟩
theorem right_wr {f : OF} {x : Rd} {c : Cd} (h : jcc f x c = true) (hw : f.wr = true) : 0 ≤ x.2.1 ∧ x.2.1 < 8 := by
 unfold jcc v0B v1B jdM at h
 rw [(jmL f x).1, hw] at h
 simp only [Bool.true_and, Bool.and_eq_true, Bool.not_eq_true', Bool.or_eq_false_iff, decide_eq_false_iff_not, Bool.not_eq_false', decide_eq_true_eq] at h
 exact h.2.1.1
theorem jju {f : OF} {x : Rd} {c : Cd} (h : jcc f x c = true) (hw : x.1 = 3 ∨ x.1 = 4) : f.lo ≤ x.2.2.2.2.1 ∧ x.2.2.2.2.1 < c.sl := by
 unfold jcc v0B v1B jdM v2B v3B slB at h
 rw [(jmL f x).2.1] at h
 simp only [Bool.and_eq_true, Bool.not_eq_true', Bool.or_eq_false_iff, decide_eq_false_iff_not, Bool.and_eq_false_iff, hw, not_true, false_or] at h
 have h1 := h.2.1.2.1
 have h2 := h.2.2.2.1
 omega
theorem right_ex {f : OF} {x : Rd} {c : Cd} (h : jcc f x c = true) (hw : 0 ≤ x.2.2.2.2.2.1) : x.2.2.2.2.2.1 < (c.exs.length : Int) := by
 unfold jcc v0B v1B v2B v3B exOB at h
 simp only [Bool.and_eq_true] at h
 have h1 := h.2.2.2.2
 split at h1
 ·have := of_decide_eq_true h1
  omega
 ·simp only [Bool.and_eq_true, decide_eq_true_eq] at h1
  exact h1.2
theorem lo4 : (ofO 4).1.lo = 0 ∧ (ofO 3).1.lo = 0 := by decide +kernel
end Go.Proofs.Ytmholkmghhkbhaa

namespace Go.Proofs.Ytmholkmghhkbhaa
open Go Go.RowKit
variable {tb : List (FuncId × Bool)} {L : Nat → Bool} {H : ZH} {K : ZV → ZH → Prop}
def c_oT3 : jar := .seq (.seq (.ops [⟨(some 85), .load (some 8) (.tmp 4), none, true⟩,
 ⟨(some 86), .call (.av (.func 51 [])) [(.tmp 85)], none, true⟩,
 ⟨(some 11), .mv (.tmp 86), none, true⟩])
 (.seq (.ops [⟨(some 87), .mv (.tmp 11), none, true⟩,
 ⟨(some 88), .bin .geq (.tmp 87) (.av (.val (.int .i64 0))), none, true⟩])
 (.cond (.tmp 88)
 (.ops [⟨(some 89), .mv (.tmp 0), none, true⟩,
 ⟨(some 90), .mv (.tmp 11), none, true⟩,
 ⟨(some 91), .nilCheck (.tmp 89), none, true⟩,
 ⟨(some 92), .fieldAddr 0 (.tmp 91), none, true⟩,
 ⟨(some 93), .indexArr 1 8 (.tmp 92) (.tmp 90), none, true⟩,
 ⟨none, .store 1 (.tmp 93) (.av (.val (.bool true))), none, true⟩])
 (.skip))))
 (.seq (.ops [⟨(some 6), .mv (.av (.val (.int .i64 0))), none, true⟩])
 (.ret))
def c_oT2 : jar := .seq (.seq (.ops [⟨(some 75), .fieldAddr 0 (.tmp 4), none, true⟩,
 ⟨(some 76), .load none (.tmp 75), none, true⟩,
 ⟨(some 77), .bin .eql (.tmp 76) (.av (.val (.int .i64 3))), none, true⟩])
 (.cond (.tmp 77)
 (.opsD [⟨(some 78), .mv (.tmp 0), none, true⟩,
 ⟨(some 79), .nilCheck (.tmp 78), none, true⟩,
 ⟨(some 80), .fieldAddr 8 (.tmp 79), none, true⟩,
 ⟨(some 81), .load none (.tmp 80), none, true⟩,
 ⟨(some 82), .fieldAddr 4 (.tmp 4), none, true⟩,
 ⟨(some 83), .load none (.tmp 82), none, true⟩,
 ⟨(some 84), .indexAddr 1 (.tmp 81) (.tmp 83), none, true⟩,
 ⟨none, .store 1 (.tmp 84) (.av (.val (.bool true))), none, true⟩])
 (.skip)))
 c_oT3
def c_oT1 : jar := .seq (.seq (.opsD [⟨(some 45), .fieldAddr 0 (.tmp 4), none, true⟩,
 ⟨(some 46), .load none (.tmp 45), none, true⟩,
 ⟨(some 47), .bin .eql (.tmp 46) (.av (.val (.int .i64 4))), none, true⟩,
 ⟨(some 48), .mv (.tmp 47), none, true⟩,
 ⟨(some 49), .mv (.tmp 0), (some (48, true)), true⟩,
 ⟨(some 50), .nilCheck (.tmp 49), (some (48, true)), true⟩,
 ⟨(some 51), .fieldAddr 8 (.tmp 50), (some (48, true)), true⟩,
 ⟨(some 52), .load none (.tmp 51), (some (48, true)), true⟩,
 ⟨(some 53), .fieldAddr 4 (.tmp 4), (some (48, true)), true⟩,
 ⟨(some 54), .load none (.tmp 53), (some (48, true)), true⟩,
 ⟨(some 55), .indexAddr 1 (.tmp 52) (.tmp 54), (some (48, true)), true⟩,
 ⟨(some 56), .load none (.tmp 55), (some (48, true)), true⟩,
 ⟨(some 57), .un .not (.tmp 56), (some (48, true)), true⟩,
 ⟨(some 58), .pick (.tmp 48) (.tmp 57) (.av (.val (.bool false))), none, true⟩,
 ⟨(some 59), .mv (.tmp 58), none, true⟩,
 ⟨(some 60), .fieldAddr 5 (.tmp 4), (some (59, false)), true⟩,
 ⟨(some 61), .load none (.tmp 60), (some (59, false)), true⟩,
 ⟨(some 62), .bin .geq (.tmp 61) (.av (.val (.int .i64 0))), (some (59, false)), true⟩,
 ⟨(some 63), .mv (.tmp 62), (some (59, false)), true⟩,
 ⟨(some 64), .mv (.tmp 0), (some (63, true)), true⟩,
 ⟨(some 65), .fieldAddr 5 (.tmp 5), (some (63, true)), true⟩,
 ⟨(some 66), .load none (.tmp 65), (some (63, true)), true⟩,
 ⟨(some 67), .fieldAddr 5 (.tmp 4), (some (63, true)), true⟩,
 ⟨(some 68), .load none (.tmp 67), (some (63, true)), true⟩,
 ⟨(some 69), .indexAddr 4 (.tmp 66) (.tmp 68), (some (63, true)), true⟩,
 ⟨(some 70), .load (some 4) (.tmp 69), (some (63, true)), true⟩,
 ⟨(some 71), .call (.av (.func 27 [])) [(.tmp 64), (.tmp 70)], (some (63, true)), true⟩,
 ⟨(some 72), .un .not (.tmp 71), (some (63, true)), true⟩,
 ⟨(some 73), .pick (.tmp 63) (.tmp 72) (.av (.val (.bool false))), (some (59, false)), true⟩,
 ⟨(some 74), .pick (.tmp 59) (.av (.val (.bool true))) (.tmp 73), none, true⟩])
 (.cond (.tmp 74)
 (.seq (.ops [⟨(some 6), .mv (.av (.val (.int .i64 3))), none, true⟩])
 (.ret))
 (.skip)))
 c_oT2
def jgC : jar := .seq (.ops [⟨(some 4), .box 8 (.tmp 1), none, true⟩,
 ⟨(some 5), .box 14 (.tmp 2), none, true⟩,
 ⟨(some 6), .mv (.av (.val (.int .i64 0))), none, true⟩])
 (.seq (.ops [⟨(some 13), .fieldAddr 0 (.tmp 4), none, true⟩,
 ⟨(some 14), .load none (.tmp 13), none, true⟩,
 ⟨(some 15), .call (.av (.func 47 [])) [(.tmp 14)], none, true⟩,
 ⟨(some 12), .mv (.tmp 15), none, true⟩,
 ⟨(some 16), .extract 0 (.tmp 12), none, true⟩,
 ⟨(some 17), .extract 1 (.tmp 12), none, true⟩,
 ⟨(some 7), .zero [(.val (.string ⟨#[]⟩)), (.val (.bool false)), (.val (.int .i64 0)), (.val (.int .i64 0)), (.val (.bool false)), (.val (.bool false)), (.val (.int .i64 0))], none, true⟩,
 ⟨none, .store 7 (.tmp 7) (.tmp 16), none, true⟩,
 ⟨(some 8), .mv (.tmp 17), none, true⟩])
 (.seq (.seq (.ops [⟨(some 18), .mv (.tmp 8), none, true⟩,
 ⟨(some 19), .un .not (.tmp 18), none, true⟩])
 (.cond (.tmp 19)
 (.seq (.ops [⟨(some 6), .mv (.av (.val (.int .i64 7))), none, true⟩])
 (.ret))
 (.skip)))
 (.seq (.seq (.ops [⟨(some 20), .load (some 7) (.tmp 7), none, true⟩,
 ⟨(some 21), .load (some 8) (.tmp 4), none, true⟩,
 ⟨(some 22), .load (some 14) (.tmp 5), none, true⟩,
 ⟨(some 23), .call (.av (.func 48 [])) [(.tmp 20), (.tmp 21), (.tmp 22)], none, true⟩,
 ⟨(some 24), .un .not (.tmp 23), none, true⟩])
 (.cond (.tmp 24)
 (.seq (.ops [⟨(some 6), .mv (.av (.val (.int .i64 3))), none, true⟩])
 (.ret))
 (.skip)))
 (.seq (.seq (.ops [⟨(some 25), .load (some 8) (.tmp 4), none, true⟩,
 ⟨(some 26), .call (.av (.func 49 [])) [(.tmp 25)], none, true⟩,
 ⟨(some 27), .len (.tmp 26), none, true⟩,
 ⟨(some 28), .mv (.av (.val (.int .i64 0))), none, true⟩])
 (jax 0 1 29 28 27 44
 (.seq (.ops [⟨(some 30), .indexAddr 1 (.tmp 26) (.tmp 28), none, true⟩,
 ⟨(some 31), .load none (.tmp 30), none, true⟩,
 ⟨(some 10), .mv (.tmp 31), none, true⟩])
 (.seq (.ops [⟨(some 32), .mv (.tmp 10), none, true⟩,
 ⟨(some 33), .call (.av (.func 50 [])) [(.tmp 32)], none, true⟩,
 ⟨(some 34), .un .not (.tmp 33), none, true⟩,
 ⟨(some 35), .mv (.tmp 34), none, true⟩,
 ⟨(some 36), .mv (.tmp 0), (some (35, false)), true⟩,
 ⟨(some 37), .mv (.tmp 10), (some (35, false)), true⟩,
 ⟨(some 38), .nilCheck (.tmp 36), (some (35, false)), true⟩,
 ⟨(some 39), .fieldAddr 0 (.tmp 38), (some (35, false)), true⟩,
 ⟨(some 40), .indexArr 1 8 (.tmp 39) (.tmp 37), (some (35, false)), true⟩,
 ⟨(some 41), .load none (.tmp 40), (some (35, false)), true⟩,
 ⟨(some 42), .un .not (.tmp 41), (some (35, false)), true⟩,
 ⟨(some 43), .pick (.tmp 35) (.av (.val (.bool true))) (.tmp 42), none, true⟩])
 (.cond (.tmp 43)
 (.seq (.ops [⟨(some 6), .mv (.av (.val (.int .i64 3))), none, true⟩])
 (.ret))
 (.skip))))))
 c_oT1))))
theorem jkY : jap Try.prog 28 = some ⟨94, jgC, [.tmp 6]⟩ := by kernel_rfl

set_option maxHeartbeats 4000000 in
theorem oT3_z {S : ZS} {KK : jaq → ZS → ZH → Prop} {Hc Hc2 : ZH} {p b : Nat} {x : Rd} (h0 : S 0 = .ptr p 0) (h4 : S 4 = .ptr b 0) (hx : Hc[b]? = some (.box (eRd x)))
  (hst : 0 ≤ jbg x → (jbg x).toNat < 8 ∧ stZ L Hc [ZBo true] (.ptr p (jbg x).toNat) = some Hc2) (hno : ¬ (0 ≤ jbg x) → Hc2 = Hc) (hr : ∀ S', S' 6 = Z64 0 → KK .ret S' Hc2) :
  zW (boxY tb) (jap Try.prog) Gh.no L c_oT3 S Hc KK := by
 obtain ⟨op, a, b2, cc, n, e, kk, kn⟩ := x
 simp only [c_oT3]
 have HST := Lib.hid hst
 have HNO := Lib.hid hno
 have HR := Lib.hid hr
 clear hst hno hr
 repeat' (first | (simp only [zP, jaf, jaa, jad, jae, seval, Nat.reduceLeDiff, h0, h4, hx, *]) | (simp only [jab]) | (with_reducible apply And.intro) | (with_reducible intro _))
 refine writes_z (x := (op, a, b2, cc, n, e, kk, kn)) ?_
 obtain ⟨w, hw⟩ : ∃ w, w = jbg (op, a, b2, cc, n, e, kk, kn) := ⟨_, rfl⟩
 rw [← hw] at HST HNO ⊢
 clear hw
 by_cases q1 : 0 ≤ w
 ·have hn : natZ (Z64 w) = some w.toNat := jcv q1
  obtain ⟨hm, hst⟩ := HST.out q1
  have fin := HR.out
  clear HR
  generalize w.toNat = m at hn hm hst
  repeat' (first | (simp only [zP, jaf, jaa, jad, jae, seval, Nat.reduceLeDiff, h0, h4, hx, q1, hn, hm, hst, *]) | (simp only [jab]) | (with_reducible apply And.intro) | (with_reducible intro _))
 ·have fin := HR.out
  clear HR
  have hh := HNO.out q1
  subst hh
  repeat' (first | (simp only [zP, jaf, jaa, jad, jae, seval, Nat.reduceLeDiff, h0, h4, hx, q1, *]) | (simp only [jab]) | (with_reducible apply And.intro) | (with_reducible intro _))
set_option maxHeartbeats 4000000 in
theorem oT2_z {S : ZS} {KK : jaq → ZS → ZH → Prop} {Hc Hc1 Hc2 : ZH} {p q b nn : Nat} {wb : List ZV} {sl : List (List ZV)} {x : Rd} (h0 : S 0 = .ptr p 0) (h4 : S 4 = .ptr b 0) (hx : Hc[b]? = some (.box (eRd x))) (hx1 : Hc1[b]? = some (.box (eRd x)))
  (hp : Hc[p]? = some (.box wb)) (hwb : wb[8]? = some (.own q 0 0 nn true)) (hq : Hc[q]? = some (.grow 0 1 sl)) (hls : nn ≤ sl.length)
  (hs1 : x.1 = 3 → 0 ≤ x.2.2.2.2.1 ∧ x.2.2.2.2.1.toNat < nn ∧ stZ L Hc [ZBo true] (.eptr q 0 x.2.2.2.2.1.toNat 0) = some Hc1) (hn1 : ¬ (x.1 = 3) → Hc1 = Hc)
  (hst : 0 ≤ jbg x → (jbg x).toNat < 8 ∧ stZ L Hc1 [ZBo true] (.ptr p (jbg x).toNat) = some Hc2) (hno : ¬ (0 ≤ jbg x) → Hc2 = Hc1) (hr : ∀ S', S' 6 = Z64 0 → KK .ret S' Hc2) :
  zW (boxY tb) (jap Try.prog) Gh.no L c_oT2 S Hc KK := by
 have nx : ∀ S', S' 0 = .ptr p 0 → S' 4 = .ptr b 0 → zW (boxY tb) (jap Try.prog) Gh.no L c_oT3 S' Hc1 KK := fun S' t0 t4 => oT3_z t0 t4 hx1 hst hno hr
 obtain ⟨op, a, b2, cc, n, e, kk, kn⟩ := x
 simp only [c_oT2]
 have NX := Lib.hid nx
 clear hst hno hr nx hx1
 simp only at hs1 hn1
 by_cases q1 : op = 3
 ·obtain ⟨h1, hm, hst⟩ := hs1 q1
  have hn : natZ (Z64 n) = some n.toNat := jcv h1
  clear hs1 hn1
  generalize n.toNat = m at hn hm hst
  repeat' (first | (simp only [zP, jaf, jaa, jad, jae, seval, Nat.reduceLeDiff, h0, h4, hx, hp, hwb, hq, hls, q1, hn, hm, hst, *]) | (simp only [jab]) | (with_reducible apply And.intro) | (with_reducible intro _))
  exact NX.out _ (by simp [zupd, h0]) (by simp [zupd, h4])
 ·have hh := hn1 q1
  subst hh
  clear hs1 hn1
  repeat' (first | (simp only [zP, jaf, jaa, jad, jae, seval, Nat.reduceLeDiff, h0, h4, hx, q1, *]) | (simp only [jab]) | (with_reducible apply And.intro) | (with_reducible intro _))
  exact NX.out _ (by simp [zupd, h0]) (by simp [zupd, h4])
def badB (W : Wr) (x : Rd) (c : Cd) : Bool := (decide (x.1 = 4) && !W.slots.getD x.2.2.2.2.1.toNat false) || (decide (0 ≤ x.2.2.2.2.2.1) && !allB W (exAt c x.2.2.2.2.2.1))
set_option maxHeartbeats 8000000 in
theorem oT1_z {S : ZS} {KK : jaq → ZS → ZH → Prop} {Hc : ZH} {p q b d : Nat} {W : Wr} {x : Rd} {c : Cd} (h0 : S 0 = .ptr p 0) (h4 : S 4 = .ptr b 0) (h5 : S 5 = .ptr d 0) (hx : Hc[b]? = some (.box (eRd x))) (hc : Hc[d]? = some (.box (eCd c)))
  (hW : WAt Hc p q W) (hsl : W.slots.length ≤ 300) (h4n : x.1 = 4 → 0 ≤ x.2.2.2.2.1 ∧ x.2.2.2.2.1.toNat < W.slots.length) (hen : 0 ≤ x.2.2.2.2.2.1 → x.2.2.2.2.2.1 < (c.exs.length : Int)) (hxs : ∀ y ∈ c.exs, OXS y)
  (hr : badB W x c = true → ∀ S', S' 6 = Z64 3 → KK .ret S' Hc) (hok : badB W x c = false → ∀ S', S' 0 = .ptr p 0 → S' 4 = .ptr b 0 → zW (boxY tb) (jap Try.prog) Gh.no L c_oT2 S' Hc KK) :
  zW (boxY tb) (jap Try.prog) Gh.no L c_oT1 S Hc KK := by
 obtain ⟨op, a, b2, cc, n, e, kk, kn⟩ := x
 obtain ⟨fn, pl, lp, slc, ords, exs, turn, back, xo, xe⟩ := c
 simp only at h4n hen hxs hr hok
 simp only [c_oT1]
 have HR := Lib.hid hr
 have HOK := Lib.hid hok
 clear hr hok
 have ap := hW.bx
 have aq := hW.sl
 have b8 := hW.own
 obtain ⟨sl, hsle⟩ : ∃ sl, sl = W.slots.map eB := ⟨_, rfl⟩
 obtain ⟨nn, hnn⟩ : ∃ nn, nn = W.slots.length := ⟨_, rfl⟩
 obtain ⟨wb, hwb⟩ : ∃ wb, wb = wBox q W := ⟨_, rfl⟩
 rw [← hsle] at aq
 rw [← hnn] at b8
 rw [← hwb] at ap b8
 have hls : nn ≤ sl.length := by rw [hnn, hsle]; simp
 have hg4 : op = 4 → natZ (Z64 n) = some n.toNat ∧ n.toNat < nn ∧ sl[n.toNat]? = some [ZBo (W.slots.getD n.toNat false)] := fun h => by
  obtain ⟨u1, u2⟩ := h4n h
  exact ⟨jcv u1, by omega, by rw [hsle, List.getElem?_map, List.getD_eq_getElem?_getD, List.getElem?_eq_getElem u2]; rfl⟩
 have hge : 0 ≤ e → natZ (Z64 e) = some e.toNat ∧ e.toNat < exs.length ∧ exs[e.toNat]? = some (exAt ⟨fn, pl, lp, slc, ords, exs, turn, back, xo, xe⟩ e) ∧ OXS (exAt ⟨fn, pl, lp, slc, ords, exs, turn, back, xo, xe⟩ e) := fun h => by
  have u := hen h
  have u2 : e.toNat < exs.length := by omega
  have u3 : exAt ⟨fn, pl, lp, slc, ords, exs, turn, back, xo, xe⟩ e = exs[e.toNat] := by unfold exAt; rw [List.getD_eq_getElem?_getD, List.getElem?_eq_getElem u2]; rfl
  exact ⟨jcv h, u2, by rw [u3]; exact List.getElem?_eq_getElem u2, by rw [u3]; exact hxs _ (List.getElem_mem u2)⟩
 have HG4 := Lib.hid hg4
 have HGE := Lib.hid hge
 have HWA := Lib.hid hW
 clear hg4 hge h4n hen hxs hsle hnn hwb hW
 have hbad : badB W (op, a, b2, cc, n, e, kk, kn) ⟨fn, pl, lp, slc, ords, exs, turn, back, xo, xe⟩ = ((decide (op = 4) && !W.slots.getD n.toNat false) || (decide (0 ≤ e) && !allB W (exAt ⟨fn, pl, lp, slc, ords, exs, turn, back, xo, xe⟩ e))) := rfl
 rw [hbad] at HR HOK
 clear hbad
 by_cases q1 : op = 4
 ·obtain ⟨hn, hm, hg⟩ := HG4.out q1
  generalize W.slots.getD n.toNat false = sb at hg HR HOK
  generalize n.toNat = mm at hn hm hg
  cases sb with
  | true =>
   by_cases q2 : 0 ≤ e
   ·obtain ⟨hne, hml, hxe, hoe⟩ := HGE.out q2
    have HOE := Lib.hid hoe
    clear hoe
    obtain ⟨y, hy⟩ : ∃ y, y = exAt ⟨fn, pl, lp, slc, ords, exs, turn, back, xo, xe⟩ e := ⟨_, rfl⟩
    rw [← hy] at hxe HOE HR HOK
    clear hy
    generalize e.toNat = m at hne hml hxe
    obtain ⟨ya, yb, ys, ym⟩ := y
    repeat' (first | (simp only [zP, jaf, jaa, jad, jae, seval, Nat.reduceLeDiff, h0, h4, h5, hx, hc, ap, b8, aq, hls, q1, hn, hm, hg, q2, hne, hml, hxe, *]) | (simp only [jab]) | (with_reducible apply And.intro) | (with_reducible intro _))
    refine jnI (x := (ya, yb, ys, ym)) HOE.out HWA.out hsl ?_
    generalize allB W (ya, yb, ys, ym) = bb at HR HOK ⊢
    cases bb with
    | true =>
     have nx := HOK.out (by simp [q2, q1])
     have NX := Lib.hid nx
     clear nx
     repeat' (first | (simp only [zP, jaf, jaa, jad, jae, seval, Nat.reduceLeDiff, h0, h4, h5, hx, hc, ap, b8, aq, hls, q1, hn, hm, hg, q2, hne, hml, hxe, *]) | (simp only [jab]) | (with_reducible apply And.intro) | (with_reducible intro _))
     exact NX.out _ (by simp [zupd, h0]) (by simp [zupd, h4])
    | false =>
     have fin := HR.out (by simp [q2, q1])
     repeat' (first | (simp only [zP, jaf, jaa, jad, jae, seval, Nat.reduceLeDiff, h0, h4, h5, hx, hc, ap, b8, aq, hls, q1, hn, hm, hg, q2, hne, hml, hxe, *]) | (simp only [jab]) | (with_reducible apply And.intro) | (with_reducible intro _))
   ·have NX := Lib.hid (HOK.out (by simp [q2, q1]))
    repeat' (first | (simp only [zP, jaf, jaa, jad, jae, seval, Nat.reduceLeDiff, h0, h4, h5, hx, hc, ap, b8, aq, hls, q1, hn, hm, hg, q2, *]) | (simp only [jab]) | (with_reducible apply And.intro) | (with_reducible intro _))
    exact NX.out _ (by simp [zupd, h0]) (by simp [zupd, h4])
  | false =>
   have fin := HR.out (by simp [q1])
   repeat' (first | (simp only [zP, jaf, jaa, jad, jae, seval, Nat.reduceLeDiff, h0, h4, h5, hx, hc, ap, b8, aq, hls, q1, hn, hm, hg, *]) | (simp only [jab]) | (with_reducible apply And.intro) | (with_reducible intro _))
 ·clear aq hls
  by_cases q2 : 0 ≤ e
  ·obtain ⟨hne, hml, hxe, hoe⟩ := HGE.out q2
   have HOE := Lib.hid hoe
   clear hoe
   obtain ⟨y, hy⟩ : ∃ y, y = exAt ⟨fn, pl, lp, slc, ords, exs, turn, back, xo, xe⟩ e := ⟨_, rfl⟩
   rw [← hy] at hxe HOE HR HOK
   clear hy
   generalize e.toNat = m at hne hml hxe
   obtain ⟨ya, yb, ys, ym⟩ := y
   repeat' (first | (simp only [zP, jaf, jaa, jad, jae, seval, Nat.reduceLeDiff, h0, h4, h5, hx, hc, ap, b8, q1, q2, hne, hml, hxe, *]) | (simp only [jab]) | (with_reducible apply And.intro) | (with_reducible intro _))
   refine jnI (x := (ya, yb, ys, ym)) HOE.out HWA.out hsl ?_
   generalize allB W (ya, yb, ys, ym) = bb at HR HOK ⊢
   cases bb with
   | true =>
    have nx := HOK.out (by simp [q2, q1])
    have NX := Lib.hid nx
    clear nx
    repeat' (first | (simp only [zP, jaf, jaa, jad, jae, seval, Nat.reduceLeDiff, h0, h4, h5, hx, hc, ap, b8, q1, q2, hne, hml, hxe, *]) | (simp only [jab]) | (with_reducible apply And.intro) | (with_reducible intro _))
    exact NX.out _ (by simp [zupd, h0]) (by simp [zupd, h4])
   | false =>
    have fin := HR.out (by simp [q2, q1])
    repeat' (first | (simp only [zP, jaf, jaa, jad, jae, seval, Nat.reduceLeDiff, h0, h4, h5, hx, hc, ap, b8, q1, q2, hne, hml, hxe, *]) | (simp only [jab]) | (with_reducible apply And.intro) | (with_reducible intro _))
  ·have NX := Lib.hid (HOK.out (by simp [q2, q1]))
   repeat' (first | (simp only [zP, jaf, jaa, jad, jae, seval, Nat.reduceLeDiff, h0, h4, h5, hx, hc, ap, b8, q1, q2, *]) | (simp only [jab]) | (with_reducible apply And.intro) | (with_reducible intro _))
   exact NX.out _ (by simp [zupd, h0]) (by simp [zupd, h4])
end Go.Proofs.Ytmholkmghhkbhaa
