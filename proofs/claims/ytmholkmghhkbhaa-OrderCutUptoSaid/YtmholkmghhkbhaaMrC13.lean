/-
  AM's code of functions, written by am/amprint.lean.
-/
import Derived.KernelRfl
import Derived.Test.YtmholkmghhkbhaaMrC12
import Derived.Test.YtmholkmghhkbhaaMrC4
set_option linter.unusedVariables false
set_option linter.unusedSimpArgs false
namespace Go.Proofs.Ytmholkmghhkbhaa
open Go Go.RowKit
end Go.Proofs.Ytmholkmghhkbhaa

namespace Go.Proofs.Ytmholkmghhkbhaa
open Go Go.RowKit
section
variable {tb : List (FuncId × Bool)} {L : Nat → Bool} {H : ZH} {K : ZV → ZH → Prop}
end
end Go.Proofs.Ytmholkmghhkbhaa

namespace Go.Proofs.Ytmholkmghhkbhaa
open Go Go.RowKit
section
variable {tb : List (FuncId × Bool)} {L : Nat → Bool} {H : ZH} {K : ZV → ZH → Prop}
def RowsA {α : Type} (H : ZH) (k : Nat) (z : ZV) (l : List α) (e : α → List ZV) : Prop := ∀ Y, rowsZ (H ++ Y) k z = some (l.map e)
theorem RowsA.app {α : Type} {k : Nat} {z : ZV} {l : List α} {e : α → List ZV} (h : RowsA H k z l e) (X : ZH) : RowsA (H ++ X) k z l e := fun Y => by rw [List.append_assoc]; exact h _
theorem RowsA.fz {α : Type} {k : Nat} {b : Bool} {l : List α} {e : α → List ZV} : RowsA H k (.fz k b (l.map e)) l e := fun Y => by simp [rowsZ]
theorem RowsA.nil {α : Type} {k : Nat} {e : α → List ZV} : RowsA H k .nil ([] : List α) e := fun Y => rfl
theorem RowsA.cell {α : Type} {k : Nat} {z : ZV} {l : List α} {e : α → List ZV} (h : RowsA H k z l e) : z.isCell = true := by
 have := h []
 cases z <;> first | rfl | (simp [rowsZ] at this)
end
end Go.Proofs.Ytmholkmghhkbhaa

namespace Go.Proofs.Ytmholkmghhkbhaa
open Go Go.RowKit
section
variable {tb : List (FuncId × Bool)} {L : Nat → Bool} {H : ZH} {K : ZV → ZH → Prop}
structure CdZ (H : ZH) (c : Cd) (z4 z5 z6 z7 z8 z9 : ZV) : Prop where
  r4 : RowsA H 8 z4 c.ords eRd
  r5 : RowsA H 4 z5 c.exs eRX
  r6 : RowsA H 3 z6 c.turn.2.2.1 eRS
  r7 : RowsA H 5 z7 c.turn.2.2.2 eRM
  r8 : RowsA H 3 z8 c.back.2.2.1 eRS
  r9 : RowsA H 5 z9 c.back.2.2.2 eRM
theorem CdZ.fz {c : Cd} {a b : Bool} : CdZ H c (.fz 8 a (c.ords.map eRd)) (.fz 4 b (c.exs.map eRX)) (.fz 3 false (c.turn.2.2.1.map eRS)) (.fz 5 false (c.turn.2.2.2.map eRM)) (.fz 3 false (c.back.2.2.1.map eRS)) (.fz 5 false (c.back.2.2.2.map eRM)) := ⟨RowsA.fz, RowsA.fz, RowsA.fz, RowsA.fz, RowsA.fz, RowsA.fz⟩
def c0 : Cd := ⟨0, 0, 0, 0, [], [], (0, 0, [], []), (0, 0, [], []), false, false⟩
theorem CdZ.nil : CdZ H c0 .nil .nil .nil .nil .nil .nil := ⟨RowsA.nil, RowsA.nil, RowsA.nil, RowsA.nil, RowsA.nil, RowsA.nil⟩
structure CdS (c : Cd) : Prop where
  ords : c.ords.length ≤ 1000000000
  exs : c.exs.length ≤ 1000000000
  all : ∀ x ∈ exsL c, x.2.2.1.length ≤ 1000000000 ∧ x.2.2.2.length ≤ 1000000000 ∧ ∀ m ∈ x.2.2.2, m.2.2.2.2.length ≤ 1000000000
theorem eql_u8 {a b : Int} : binV .neq (.int .u8 a) (.int .u8 b) = some (.bool (!decide (a = b))) := by simp [binV]
set_option maxHeartbeats 4000000 in
theorem eqb_z {x1 x2 : Bool} {l1 l2 : List Int} (h1 : l1.length ≤ 1000000000000) (h2 : l2.length ≤ 1000000000000) (hK : K (ZBo (decide (l1 = l2))) H) :
  ZC (boxY tb) (cFunc Try.prog) 21 [.fz 1 x1 (l1.map eC), .fz 1 x2 (l2.map eC)] L H K := by
 refine ZC.enter Gh.no (boxY_none (by decide)) f_od_eq (by simp) ?_
 simp only [c_od_eq]
 have hm1 : (l1.map eC).length = l1.length := List.length_map ..
 have hm2 : (l2.map eC).length = l2.length := List.length_map ..
 by_cases hl : l1.length = l2.length
 ·have HK := Lib.hid hK
  have hl' : (((l1.length : Nat) : Int) = ((l2.length : Nat) : Int)) = True := eq_true (by omega)
  have HL := Lib.hid hl
  clear hK hl
  repeat' (first | (simp only [zP, zfree, owners, chunk, setAt, seval, Nat.reduceLeDiff, hm1, hm2, hl', *]) | (simp only [zgPack]) | (with_reducible apply And.intro) | (with_reducible intro _))
  clear hl'
  refine zW_forK [(0, .fz 1 x1 (l1.map eC)), (1, .fz 1 x2 (l2.map eC))] l1.length (fun k s' h' => h' = H ∧ l1.take k = l2.take k) (by omega) ⟨rfl, rfl, rfl, rfl, rfl, rfl⟩ rfl rfl (by repeat' (first | exact trivial | (refine ⟨rfl, ?_⟩) | (refine ⟨by simp only [zupd_at, Nat.reduceEqDiff, reduceIte]; assumption, ?_⟩))) rfl rfl (by decide) ⟨rfl, by simp⟩ ?_ ?_
  ·rintro k s' h' hk ⟨rfl, htk⟩ hi hl3 ⟨f0, f1, -⟩
   have hk2 : k < l2.length := by have := HL.out; omega
   obtain ⟨a, ha⟩ : ∃ a, l1[k]? = some a := ⟨_, List.getElem?_eq_getElem hk⟩
   obtain ⟨b, hb⟩ : ∃ b, l2[k]? = some b := ⟨_, List.getElem?_eq_getElem hk2⟩
   by_cases hab : a = b
   ·subst hab
    have hn : l1.take (k + 1) = l2.take (k + 1) := by rw [List.take_add_one, List.take_add_one, htk, ha, hb]
    clear HK HL htk
    repeat' (first | (simp only [zP, zfree, owners, chunk, setAt, seval, Nat.reduceLeDiff, f0, f1, ha, hb, Option.map_some, eql_u8, hm1, hm2, *]) | (simp only [zgPack]) | (with_reducible apply And.intro) | (with_reducible intro _))
   ·have hne : l1 ≠ l2 := fun e => by rw [e, hb] at ha; injection ha with ha; exact hab ha.symm
    have hk := HK.out
    rw [decide_eq_false hne] at hk
    have fin := Fin.keep (H0 := h') hk
    clear HK HL htk hne hk
    repeat' (first | (simp only [zP, zfree, owners, chunk, setAt, seval, Nat.reduceLeDiff, f0, f1, ha, hb, Option.map_some, eql_u8, hm1, hm2, hab, *]) | (simp only [zgPack]) | (with_reducible apply And.intro) | (with_reducible intro _))
  ·rintro s' h' ⟨rfl, htk⟩ ⟨f0, f1, -⟩
   have he : l1 = l2 := by
    rw [List.take_of_length_le (Nat.le_refl _), HL.out, List.take_of_length_le (Nat.le_refl _)] at htk
    exact htk
   have hk := HK.out
   rw [decide_eq_true he] at hk
   have fin := Fin.keep (H0 := h') hk
   clear HK HL htk he hk
   repeat' (first | (simp only [zP, zfree, owners, chunk, setAt, seval, Nat.reduceLeDiff, *]) | (simp only [zgPack]) | (with_reducible apply And.intro) | (with_reducible intro _))
 ·have hne : l1 ≠ l2 := fun e => hl (by rw [e])
  rw [decide_eq_false hne] at hK
  have fin := Fin.keep (H0 := H) hK
  have hl' : ¬ ((l1.length : Nat) : Int) = ((l2.length : Nat) : Int) := by omega
  clear hK hne hl
  repeat' (first | (simp only [zP, zfree, owners, chunk, setAt, seval, Nat.reduceLeDiff, hm1, hm2, hl', *]) | (simp only [zgPack]) | (with_reducible apply And.intro) | (with_reducible intro _))
theorem copyb_z {x : Bool} {l : List Int} (hb : l.length ≤ 1000000000000) (hK : K (.own H.length 0 0 l.length false) (H ++ [.grow 0 1 (l.map eC)])) : ZC (boxY tb) (cFunc Try.prog) 10 [.fz 1 x (l.map eC)] L H K := by
 refine ZC.enter Gh.no (boxY_none (by decide)) f_od_copy (by simp) ?_
 simp only [c_od_copy]
 have hap : appZ L H 1 1 (l.map eC) .nil = some (.own H.length 0 0 l.length false, H ++ [.grow 0 1 (l.map eC)]) := by
  have := app_nil' (H := H) (k := 1) (L := L) (bytes := 1) (new := l.map eC) (by rw [List.length_map]; unfold reach; omega)
  rwa [List.length_map] at this
 have fin : Fin H (.own H.length 0 0 l.length false) (H ++ [.grow 0 1 (l.map eC)]) K := Fin.keep hK
 clear hK
 repeat' (first | (simp only [zP, zfree, owners, chunk, setAt, seval, Nat.reduceLeDiff, hap, *]) | (simp only [zgPack]) | (with_reducible apply And.intro) | (with_reducible intro _))
end
end Go.Proofs.Ytmholkmghhkbhaa
