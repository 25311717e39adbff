/-
  AM's code of functions, written by am/amprint.lean.
-/
import Derived.KernelRfl
import Derived.Test.YtmholkmghhkbhaaMrB12
import Derived.Test.YtmholkmghhkbhaaMrB4
set_option linter.unusedVariables false
set_option linter.unusedSimpArgs false
namespace Go.Proofs.Ytmholkmghhkbhaa
open Go Go.RowKit
def jj1 : jar := .seq (.ops [⟨(some 4), .mv (.av (.val (.bool false))), none, true⟩])
 (.seq (.seq (.ops [⟨(some 7), .mv (.tmp 0), none, true⟩,
 ⟨(some 8), .len (.tmp 7), none, true⟩,
 ⟨(some 9), .mv (.tmp 1), none, true⟩,
 ⟨(some 10), .len (.tmp 9), none, true⟩,
 ⟨(some 11), .bin .neq (.tmp 8) (.tmp 10), none, true⟩])
 (.cond (.tmp 11)
 (.seq (.ops [⟨(some 4), .mv (.av (.val (.bool false))), none, true⟩])
 (.ret))
 (.skip)))
 (.seq (.seq (.ops [⟨(some 12), .mv (.tmp 0), none, true⟩,
 ⟨(some 13), .len (.tmp 12), none, true⟩,
 ⟨(some 14), .mv (.av (.val (.int .i64 0))), none, true⟩])
 (jax 0 1 15 14 13 25
 (.seq (.ops [⟨(some 16), .mv (.tmp 14), none, true⟩,
 ⟨(some 17), .indexAddr 8 (.tmp 12) (.tmp 14), none, true⟩,
 ⟨(some 18), .load (some 8) (.tmp 17), none, true⟩,
 ⟨(some 6), .zero [(.val (.int .i64 0)), (.val (.int .i64 0)), (.val (.int .i64 0)), (.val (.int .i64 0)), (.val (.int .i64 0)), (.val (.int .i64 0)), (.val (.int .i64 0)), (.val (.int .i64 0))], none, true⟩,
 ⟨(some 5), .mv (.tmp 16), none, true⟩,
 ⟨none, .store 8 (.tmp 6) (.tmp 18), none, true⟩])
 (.seq (.opsD [⟨(some 19), .load (some 8) (.tmp 6), none, true⟩,
 ⟨(some 20), .mv (.tmp 1), none, true⟩,
 ⟨(some 21), .mv (.tmp 5), none, true⟩,
 ⟨(some 22), .indexAddr 8 (.tmp 20) (.tmp 21), none, true⟩,
 ⟨(some 23), .load (some 8) (.tmp 22), none, true⟩,
 ⟨(some 24), .eqAgg true [0, 0, 0, 0, 0, 0, 0, 0] (.tmp 19) (.tmp 23), none, true⟩])
 (.cond (.tmp 24)
 (.seq (.ops [⟨(some 4), .mv (.av (.val (.bool false))), none, true⟩])
 (.ret))
 (.skip))))))
 (.seq (.ops [⟨(some 4), .mv (.av (.val (.bool true))), none, true⟩])
 (.ret))))
theorem f_od_eqO : jap Try.prog 22 = some ⟨26, jj1, [.tmp 4]⟩ := by kernel_rfl
def jjZ : jar := .seq (.ops [⟨(some 4), .mv (.av (.val (.bool false))), none, true⟩])
 (.seq (.seq (.ops [⟨(some 7), .mv (.tmp 0), none, true⟩,
 ⟨(some 8), .len (.tmp 7), none, true⟩,
 ⟨(some 9), .mv (.tmp 1), none, true⟩,
 ⟨(some 10), .len (.tmp 9), none, true⟩,
 ⟨(some 11), .bin .neq (.tmp 8) (.tmp 10), none, true⟩])
 (.cond (.tmp 11)
 (.seq (.ops [⟨(some 4), .mv (.av (.val (.bool false))), none, true⟩])
 (.ret))
 (.skip)))
 (.seq (.seq (.ops [⟨(some 12), .mv (.tmp 0), none, true⟩,
 ⟨(some 13), .len (.tmp 12), none, true⟩,
 ⟨(some 14), .mv (.av (.val (.int .i64 0))), none, true⟩])
 (jax 0 1 15 14 13 25
 (.seq (.ops [⟨(some 16), .mv (.tmp 14), none, true⟩,
 ⟨(some 17), .indexAddr 3 (.tmp 12) (.tmp 14), none, true⟩,
 ⟨(some 18), .load (some 3) (.tmp 17), none, true⟩,
 ⟨(some 6), .zero [(.val (.int .i64 0)), (.val (.int .i64 0)), (.val (.int .i64 0))], none, true⟩,
 ⟨(some 5), .mv (.tmp 16), none, true⟩,
 ⟨none, .store 3 (.tmp 6) (.tmp 18), none, true⟩])
 (.seq (.opsD [⟨(some 19), .load (some 3) (.tmp 6), none, true⟩,
 ⟨(some 20), .mv (.tmp 1), none, true⟩,
 ⟨(some 21), .mv (.tmp 5), none, true⟩,
 ⟨(some 22), .indexAddr 3 (.tmp 20) (.tmp 21), none, true⟩,
 ⟨(some 23), .load (some 3) (.tmp 22), none, true⟩,
 ⟨(some 24), .eqAgg true [0, 0, 0] (.tmp 19) (.tmp 23), none, true⟩])
 (.cond (.tmp 24)
 (.seq (.ops [⟨(some 4), .mv (.av (.val (.bool false))), none, true⟩])
 (.ret))
 (.skip))))))
 (.seq (.ops [⟨(some 4), .mv (.av (.val (.bool true))), none, true⟩])
 (.ret))))
theorem f_od_eqS : jap Try.prog 38 = some ⟨26, jjZ, [.tmp 4]⟩ := by kernel_rfl
def jj0 : jar := .seq (.ops [⟨(some 4), .mv (.av (.val (.bool false))), none, true⟩])
 (.seq (.seq (.ops [⟨(some 7), .mv (.tmp 0), none, true⟩,
 ⟨(some 8), .len (.tmp 7), none, true⟩,
 ⟨(some 9), .mv (.tmp 1), none, true⟩,
 ⟨(some 10), .len (.tmp 9), none, true⟩,
 ⟨(some 11), .bin .neq (.tmp 8) (.tmp 10), none, true⟩])
 (.cond (.tmp 11)
 (.seq (.ops [⟨(some 4), .mv (.av (.val (.bool false))), none, true⟩])
 (.ret))
 (.skip)))
 (.seq (.seq (.ops [⟨(some 12), .mv (.tmp 0), none, true⟩,
 ⟨(some 13), .len (.tmp 12), none, true⟩,
 ⟨(some 14), .mv (.av (.val (.int .i64 0))), none, true⟩])
 (jax 0 1 15 14 13 25
 (.seq (.ops [⟨(some 16), .mv (.tmp 14), none, true⟩,
 ⟨(some 17), .indexAddr 2 (.tmp 12) (.tmp 14), none, true⟩,
 ⟨(some 18), .load (some 2) (.tmp 17), none, true⟩,
 ⟨(some 6), .zero [(.val (.int .i64 0)), (.val (.int .i64 0))], none, true⟩,
 ⟨(some 5), .mv (.tmp 16), none, true⟩,
 ⟨none, .store 2 (.tmp 6) (.tmp 18), none, true⟩])
 (.seq (.opsD [⟨(some 19), .load (some 2) (.tmp 6), none, true⟩,
 ⟨(some 20), .mv (.tmp 1), none, true⟩,
 ⟨(some 21), .mv (.tmp 5), none, true⟩,
 ⟨(some 22), .indexAddr 2 (.tmp 20) (.tmp 21), none, true⟩,
 ⟨(some 23), .load (some 2) (.tmp 22), none, true⟩,
 ⟨(some 24), .eqAgg true [0, 0] (.tmp 19) (.tmp 23), none, true⟩])
 (.cond (.tmp 24)
 (.seq (.ops [⟨(some 4), .mv (.av (.val (.bool false))), none, true⟩])
 (.ret))
 (.skip))))))
 (.seq (.ops [⟨(some 4), .mv (.av (.val (.bool true))), none, true⟩])
 (.ret))))
theorem f_od_eqP : jap Try.prog 39 = some ⟨26, jj0, [.tmp 4]⟩ := by kernel_rfl
end Go.Proofs.Ytmholkmghhkbhaa

namespace Go.Proofs.Ytmholkmghhkbhaa
open Go Go.RowKit
section
variable {tb : List (FuncId × Bool)} {L : Nat → Bool} {H : ZH} {K : ZV → ZH → Prop}
theorem jhv {N : Nat} {H Y Z : ZH} {B : ZB} (hN : N = H.length + Y.length) : (H ++ (Y ++ B :: Z))[N]? = some B := by
 rw [hN, ← List.append_assoc, List.getElem?_append_right (by simp)]; simp
theorem jfk {N : Nat} {H Y Z : ZH} {B C : ZB} (hN : N = H.length + Y.length) : (H ++ (Y ++ B :: Z)).set N C = H ++ (Y ++ C :: Z) := by
 rw [hN, ← List.append_assoc, List.set_append_right _ _ (by simp)]; simp

theorem same_eqO {x1 x2 x3 x4 x5 x6 x7 x8 : Int} : jdG [0, 0, 0, 0, 0, 0, 0, 0] [Z64 x1, Z64 x2, Z64 x3, Z64 x4, Z64 x5, Z64 x6, Z64 x7, Z64 x8] [Z64 x1, Z64 x2, Z64 x3, Z64 x4, Z64 x5, Z64 x6, Z64 x7, Z64 x8] = some true := by simp [jdG, jgX]
set_option maxHeartbeats 4000000 in
theorem eqO_z {z1 z2 : ZV} {l : List Rd} (h1 : ∀ Y, jaX (H ++ Y) 8 z1 = some (l.map eRd)) (h2 : ∀ Y, jaX (H ++ Y) 8 z2 = some (l.map eRd)) (hb : l.length ≤ 1000000000) (hK : K (ZBo true) H) :
  ZC (boxY tb) (jap Try.prog) 22 [z1, z2] L H K := by
 refine ZC.enterL Gh.no (jan (by decide)) f_od_eqO (by simp) fun hL => ?_
 simp only [jj1]
 have e1 := jbk (h1 [])
 have e2 := jbk (h2 [])
 rw [List.append_nil, List.length_map] at e1 e2
 have F0 := Lib.hid (show ∀ Y, Fin H (ZBo true) (H ++ Y) K from fun Y => Fin.trunc (Mods.ext H Y) rfl (by rw [List.take_left]; exact hK))
 have H1 := Lib.hid h1
 have H2 := Lib.hid h2
 clear hK h1 h2
 repeat' (first | (simp only [zP, jaf, jaa, jad, jae, seval, Nat.reduceLeDiff, e1, e2, *]) | (simp only [jab]) | (with_reducible apply And.intro) | (with_reducible intro _))
 refine jaP [(1, z2), (12, z1)] l.length (fun k s' h' => ∃ Y, h' = H ++ Y) (by omega) ⟨rfl, rfl, rfl, rfl, rfl, rfl⟩ rfl rfl (by repeat' (first | exact trivial | (refine ⟨rfl, ?_⟩) | (refine ⟨by simp only [jaE, Nat.reduceEqDiff, reduceIte]; assumption, ?_⟩))) rfl rfl (by decide) ⟨[], by rw [List.append_nil]⟩ ?_ ?_
 ·rintro k s' h' hk ⟨Y, rfl⟩ hi hl ⟨f1, f12, -⟩
  obtain ⟨p1, q1, r1⟩ := jbK (H1.out Y) hk
  have H2Y := fun B => jbK (H2.out (Y ++ [B])) hk
  obtain ⟨x, hx⟩ : ∃ x, x = l[k] := ⟨_, rfl⟩
  rw [← hx] at r1
  simp only [← hx] at H2Y
  obtain ⟨x1, x2, x3, x4, x5, x6, x7, x8⟩ := x
  obtain ⟨p2, q2, r2⟩ := H2Y (.box [Z64 x1, Z64 x2, Z64 x3, Z64 x4, Z64 x5, Z64 x6, Z64 x7, Z64 x8])
  have hN := fun B Z => jhv (N := H.length + Y.length) (H := H) (Y := Y) (B := B) (Z := Z) rfl
  have sN := fun B C Z => jfk (N := H.length + Y.length) (H := H) (Y := Y) (B := B) (C := C) (Z := Z) rfl
  have hLN := hL Y.length
  clear H1 H2 F0 hx e1 e2 H2Y
  repeat' (first | (simp only [zP, jaf, jaa, jad, jae, seval, Nat.reduceLeDiff, f1, f12, q1, r1, q2, r2, hN, sN, hLN, same_eqO, List.length_append, *]) | (simp only [jab]) | (with_reducible apply And.intro) | (with_reducible intro _))
  exact ⟨Y ++ [.box [Z64 x1, Z64 x2, Z64 x3, Z64 x4, Z64 x5, Z64 x6, Z64 x7, Z64 x8]], rfl⟩
 ·rintro s' h' ⟨Y, rfl⟩ ⟨f1, f12, -⟩
  have fin := F0.out Y
  clear F0 H1 H2 e1 e2
  repeat' (first | (simp only [zP, jaf, jaa, jad, jae, seval, Nat.reduceLeDiff, *]) | (simp only [jab]) | (with_reducible apply And.intro) | (with_reducible intro _))

theorem same_eqS {x1 x2 x3 : Int} : jdG [0, 0, 0] [Z64 x1, Z64 x2, Z64 x3] [Z64 x1, Z64 x2, Z64 x3] = some true := by simp [jdG, jgX]
set_option maxHeartbeats 4000000 in
theorem eqS_z {z1 z2 : ZV} {l : List OSt} (h1 : ∀ Y, jaX (H ++ Y) 3 z1 = some (l.map eRS)) (h2 : ∀ Y, jaX (H ++ Y) 3 z2 = some (l.map eRS)) (hb : l.length ≤ 1000000000) (hK : K (ZBo true) H) :
  ZC (boxY tb) (jap Try.prog) 38 [z1, z2] L H K := by
 refine ZC.enterL Gh.no (jan (by decide)) f_od_eqS (by simp) fun hL => ?_
 simp only [jjZ]
 have e1 := jbk (h1 [])
 have e2 := jbk (h2 [])
 rw [List.append_nil, List.length_map] at e1 e2
 have F0 := Lib.hid (show ∀ Y, Fin H (ZBo true) (H ++ Y) K from fun Y => Fin.trunc (Mods.ext H Y) rfl (by rw [List.take_left]; exact hK))
 have H1 := Lib.hid h1
 have H2 := Lib.hid h2
 clear hK h1 h2
 repeat' (first | (simp only [zP, jaf, jaa, jad, jae, seval, Nat.reduceLeDiff, e1, e2, *]) | (simp only [jab]) | (with_reducible apply And.intro) | (with_reducible intro _))
 refine jaP [(1, z2), (12, z1)] l.length (fun k s' h' => ∃ Y, h' = H ++ Y) (by omega) ⟨rfl, rfl, rfl, rfl, rfl, rfl⟩ rfl rfl (by repeat' (first | exact trivial | (refine ⟨rfl, ?_⟩) | (refine ⟨by simp only [jaE, Nat.reduceEqDiff, reduceIte]; assumption, ?_⟩))) rfl rfl (by decide) ⟨[], by rw [List.append_nil]⟩ ?_ ?_
 ·rintro k s' h' hk ⟨Y, rfl⟩ hi hl ⟨f1, f12, -⟩
  obtain ⟨p1, q1, r1⟩ := jbK (H1.out Y) hk
  have H2Y := fun B => jbK (H2.out (Y ++ [B])) hk
  obtain ⟨x, hx⟩ : ∃ x, x = l[k] := ⟨_, rfl⟩
  rw [← hx] at r1
  simp only [← hx] at H2Y
  obtain ⟨x1, x2, x3⟩ := x
  obtain ⟨p2, q2, r2⟩ := H2Y (.box [Z64 x1, Z64 x2, Z64 x3])
  have hN := fun B Z => jhv (N := H.length + Y.length) (H := H) (Y := Y) (B := B) (Z := Z) rfl
  have sN := fun B C Z => jfk (N := H.length + Y.length) (H := H) (Y := Y) (B := B) (C := C) (Z := Z) rfl
  have hLN := hL Y.length
  clear H1 H2 F0 hx e1 e2 H2Y
  repeat' (first | (simp only [zP, jaf, jaa, jad, jae, seval, Nat.reduceLeDiff, f1, f12, q1, r1, q2, r2, hN, sN, hLN, same_eqS, List.length_append, *]) | (simp only [jab]) | (with_reducible apply And.intro) | (with_reducible intro _))
  exact ⟨Y ++ [.box [Z64 x1, Z64 x2, Z64 x3]], rfl⟩
 ·rintro s' h' ⟨Y, rfl⟩ ⟨f1, f12, -⟩
  have fin := F0.out Y
  clear F0 H1 H2 e1 e2
  repeat' (first | (simp only [zP, jaf, jaa, jad, jae, seval, Nat.reduceLeDiff, *]) | (simp only [jab]) | (with_reducible apply And.intro) | (with_reducible intro _))

theorem jjt {x1 x2 : Int} : jdG [0, 0] [Z64 x1, Z64 x2] [Z64 x1, Z64 x2] = some true := by simp [jdG, jgX]
set_option maxHeartbeats 4000000 in
theorem eqP_z {z1 z2 : ZV} {l : List OPl} (h1 : ∀ Y, jaX (H ++ Y) 2 z1 = some (l.map eRP)) (h2 : ∀ Y, jaX (H ++ Y) 2 z2 = some (l.map eRP)) (hb : l.length ≤ 1000000000) (hK : K (ZBo true) H) :
  ZC (boxY tb) (jap Try.prog) 39 [z1, z2] L H K := by
 refine ZC.enterL Gh.no (jan (by decide)) f_od_eqP (by simp) fun hL => ?_
 simp only [jj0]
 have e1 := jbk (h1 [])
 have e2 := jbk (h2 [])
 rw [List.append_nil, List.length_map] at e1 e2
 have F0 := Lib.hid (show ∀ Y, Fin H (ZBo true) (H ++ Y) K from fun Y => Fin.trunc (Mods.ext H Y) rfl (by rw [List.take_left]; exact hK))
 have H1 := Lib.hid h1
 have H2 := Lib.hid h2
 clear hK h1 h2
 repeat' (first | (simp only [zP, jaf, jaa, jad, jae, seval, Nat.reduceLeDiff, e1, e2, *]) | (simp only [jab]) | (with_reducible apply And.intro) | (with_reducible intro _))
 refine jaP [(1, z2), (12, z1)] l.length (fun k s' h' => ∃ Y, h' = H ++ Y) (by omega) ⟨rfl, rfl, rfl, rfl, rfl, rfl⟩ rfl rfl (by repeat' (first | exact trivial | (refine ⟨rfl, ?_⟩) | (refine ⟨by simp only [jaE, Nat.reduceEqDiff, reduceIte]; assumption, ?_⟩))) rfl rfl (by decide) ⟨[], by rw [List.append_nil]⟩ ?_ ?_
 ·rintro k s' h' hk ⟨Y, rfl⟩ hi hl ⟨f1, f12, -⟩
  obtain ⟨p1, q1, r1⟩ := jbK (H1.out Y) hk
  have H2Y := fun B => jbK (H2.out (Y ++ [B])) hk
  obtain ⟨x, hx⟩ : ∃ x, x = l[k] := ⟨_, rfl⟩
  rw [← hx] at r1
  simp only [← hx] at H2Y
  obtain ⟨x1, x2⟩ := x
  obtain ⟨p2, q2, r2⟩ := H2Y (.box [Z64 x1, Z64 x2])
  have hN := fun B Z => jhv (N := H.length + Y.length) (H := H) (Y := Y) (B := B) (Z := Z) rfl
  have sN := fun B C Z => jfk (N := H.length + Y.length) (H := H) (Y := Y) (B := B) (C := C) (Z := Z) rfl
  have hLN := hL Y.length
  clear H1 H2 F0 hx e1 e2 H2Y
  repeat' (first | (simp only [zP, jaf, jaa, jad, jae, seval, Nat.reduceLeDiff, f1, f12, q1, r1, q2, r2, hN, sN, hLN, jjt, List.length_append, *]) | (simp only [jab]) | (with_reducible apply And.intro) | (with_reducible intro _))
  exact ⟨Y ++ [.box [Z64 x1, Z64 x2]], rfl⟩
 ·rintro s' h' ⟨Y, rfl⟩ ⟨f1, f12, -⟩
  have fin := F0.out Y
  clear F0 H1 H2 e1 e2
  repeat' (first | (simp only [zP, jaf, jaa, jad, jae, seval, Nat.reduceLeDiff, *]) | (simp only [jab]) | (with_reducible apply And.intro) | (with_reducible intro _))

end
end Go.Proofs.Ytmholkmghhkbhaa

namespace Go.Proofs.Ytmholkmghhkbhaa
open Go Go.RowKit
section
variable {tb : List (FuncId × Bool)} {L : Nat → Bool} {H : ZH} {K : ZV → ZH → Prop}
def jbj {α : Type} (H : ZH) (k : Nat) (z : ZV) (l : List α) (e : α → List ZV) : Prop := ∀ Y, jaX (H ++ Y) k z = some (l.map e)
theorem jbj.app {α : Type} {k : Nat} {z : ZV} {l : List α} {e : α → List ZV} (h : jbj H k z l e) (X : ZH) : jbj (H ++ X) k z l e := fun Y => by rw [List.append_assoc]; exact h _
theorem jbj.fz {α : Type} {k : Nat} {b : Bool} {l : List α} {e : α → List ZV} : jbj H k (.fz k b (l.map e)) l e := fun Y => by simp [jaX]
theorem jbj.nil {α : Type} {k : Nat} {e : α → List ZV} : jbj H k .nil ([] : List α) e := fun Y => rfl
theorem jbj.cell {α : Type} {k : Nat} {z : ZV} {l : List α} {e : α → List ZV} (h : jbj H k z l e) : z.isCell = true := by
 have := h []
 cases z <;> first | rfl | (simp [jaX] at this)
set_option maxHeartbeats 8000000 in
theorem jiB {a s : Int} {z1 z2 y1 y2 : ZV} {sets : List OSt} {makes : List OMk} (hz1 : jbj H 3 z1 sets eRS) (hy1 : jbj H 3 y1 sets eRS) (hz2 : jbj H 5 z2 makes eRM) (hy2 : jbj H 5 y2 makes eRM) (hs : sets.length ≤ 1000000000) (hm : makes.length ≤ 1000000000) (hv : ∀ m ∈ makes, m.2.2.2.2.length ≤ 1000000000) (hK : K (ZBo true) H) :
  ZC (boxY tb) (jap Try.prog) 23 [.agg [Z64 a, Z64 s, z1, z2], .agg [Z64 a, Z64 s, y1, y2]] L H K := by
 refine ZC.enterL Gh.no (jan (by decide)) jk2 (by simp) fun hL => ?_
 simp only [jgG]
 have a00 : ∀ A Y, (H ++ (A :: Y))[H.length]? = some A := fun A Y => atN0 rfl A Y
 have a1 : ∀ A B Y, (H ++ (A :: B :: Y))[H.length + 1]? = some B := fun A B Y => atN1 rfl A B Y
 have F0 := Lib.hid (show ∀ Y, Fin H (ZBo true) (H ++ Y) K from fun Y => Fin.trunc (Mods.ext H Y) rfl (by rw [List.take_left]; exact hK))
 have c1 := hz1.cell
 have c2 := hz2.cell
 have c3 := hy1.cell
 have c4 := hy2.cell
 have Z1 := Lib.hid hz1
 have Y1 := Lib.hid hy1
 have Z2 := Lib.hid hz2
 have Y2 := Lib.hid hy2
 have HV := Lib.hid hv
 clear hK hz1 hy1 hz2 hy2 hv
 repeat' (first | (simp only [zP, jaf, jaa, jad, jae, seval, Nat.reduceLeDiff, a00, a1, c1, c2, c3, c4, *]) | (simp only [jab]) | (with_reducible apply And.intro) | (with_reducible intro _))
 refine eqS_z (Z1.out.app _) (Y1.out.app _) hs ?_
 have l1 : ∀ Y, lenZ (H ++ Y) z2 = some makes.length := fun Y => by have := jbk (Z2.out Y); rwa [List.length_map] at this
 have l2 : ∀ Y, lenZ (H ++ Y) y2 = some makes.length := fun Y => by have := jbk (Y2.out Y); rwa [List.length_map] at this
 repeat' (first | (simp only [zP, jaf, jaa, jad, jae, seval, Nat.reduceLeDiff, a00, a1, l1, l2, *]) | (simp only [jab]) | (with_reducible apply And.intro) | (with_reducible intro _))
 refine jaP [(3, .ptr (H.length + 1) 0), (38, z2)] makes.length (fun k s' h' => ∃ Y, h' = H ++ (.box [Z64 a, Z64 s, z1, z2] :: .box [Z64 a, Z64 s, y1, y2] :: Y)) (by omega) ⟨rfl, rfl, rfl, rfl, rfl, rfl⟩ rfl rfl (by repeat' (first | exact trivial | (refine ⟨rfl, ?_⟩) | (refine ⟨by simp only [jaE, Nat.reduceEqDiff, reduceIte]; assumption, ?_⟩))) rfl rfl (by decide) ⟨[], rfl⟩ ?_ ?_
 ·rintro k s' h' hk ⟨Y, rfl⟩ hi hl ⟨f3, f38, -⟩
  obtain ⟨x, hx⟩ : ∃ x, x = makes[k] := ⟨_, rfl⟩
  have hxv := HV.out x (by rw [hx]; exact List.getElem_mem hk)
  obtain ⟨x1, x2, x3, x4, vals⟩ := x
  obtain ⟨p1, q1, r1⟩ := jbK (Z2.out (.box [Z64 a, Z64 s, z1, z2] :: .box [Z64 a, Z64 s, y1, y2] :: Y)) hk
  obtain ⟨p2, q2, r2⟩ := jbK (Y2.out (.box [Z64 a, Z64 s, z1, z2] :: .box [Z64 a, Z64 s, y1, y2] :: (Y ++ [.box [Z64 x1, Z64 x2, Z64 x3, Z64 x4, .fz 2 false (vals.map eRP)]]))) hk
  rw [← hx] at r1 r2
  have hN := fun B Z => jhv (N := H.length + (Y.length + 1 + 1)) (H := H) (Y := .box [Z64 a, Z64 s, z1, z2] :: .box [Z64 a, Z64 s, y1, y2] :: Y) (B := B) (Z := Z) rfl
  have sN := fun B C Z => jfk (N := H.length + (Y.length + 1 + 1)) (H := H) (Y := .box [Z64 a, Z64 s, z1, z2] :: .box [Z64 a, Z64 s, y1, y2] :: Y) (B := B) (C := C) (Z := Z) rfl
  have hN1 := fun A B Z => jhv (N := H.length + (Y.length + 1 + 1 + 1)) (H := H) (Y := .box [Z64 a, Z64 s, z1, z2] :: .box [Z64 a, Z64 s, y1, y2] :: (Y ++ [A])) (B := B) (Z := Z) (by simp)
  have sN1 := fun A B C Z => jfk (N := H.length + (Y.length + 1 + 1 + 1)) (H := H) (Y := .box [Z64 a, Z64 s, z1, z2] :: .box [Z64 a, Z64 s, y1, y2] :: (Y ++ [A])) (B := B) (C := C) (Z := Z) (by simp)
  simp only [List.cons_append, List.append_assoc, List.nil_append] at hN sN hN1 sN1
  have hLN := hL (Y.length + 1 + 1)
  have hLN1 := hL (Y.length + 1 + 1 + 1)
  clear Z1 Y1 Z2 Y2 F0 hx l1 l2 HV
  repeat' (first | (simp only [zP, jaf, jaa, jad, jae, seval, Nat.reduceLeDiff, f3, f38, a1, q1, r1, q2, r2, hN, sN, hN1, sN1, hLN, hLN1, jjt, List.length_append, List.length_cons, List.length_nil, Nat.zero_add, *]) | (simp only [jab]) | (with_reducible apply And.intro) | (with_reducible intro _))
  refine eqP_z (l := vals) jbj.fz jbj.fz hxv ?_
  repeat' (first | (simp only [zP, jaf, jaa, jad, jae, seval, Nat.reduceLeDiff, f3, *]) | (simp only [jab]) | (with_reducible apply And.intro) | (with_reducible intro _))
  exact ⟨_, rfl⟩
 ·rintro s' h' ⟨Y, rfl⟩ ⟨f3, f38, -⟩
  have fin := F0.out (.box [Z64 a, Z64 s, z1, z2] :: .box [Z64 a, Z64 s, y1, y2] :: Y)
  clear F0 Z1 Y1 Z2 Y2 l1 l2 HV
  repeat' (first | (simp only [zP, jaf, jaa, jad, jae, seval, Nat.reduceLeDiff, *]) | (simp only [jab]) | (with_reducible apply And.intro) | (with_reducible intro _))
end
end Go.Proofs.Ytmholkmghhkbhaa

namespace Go.Proofs.Ytmholkmghhkbhaa
open Go Go.RowKit
section
variable {tb : List (FuncId × Bool)} {L : Nat → Bool} {H : ZH} {K : ZV → ZH → Prop}
abbrev cdZ (c : Cd) (z4 z5 z6 z7 z8 z9 : ZV) : List ZV := [Z64 c.fn, Z64 c.pl, Z64 c.lp, Z64 c.sl, z4, z5, Z64 c.turn.1, Z64 c.turn.2.1, z6, z7, Z64 c.back.1, Z64 c.back.2.1, z8, z9]
structure CdZ (H : ZH) (c : Cd) (z4 z5 z6 z7 z8 z9 : ZV) : Prop where
  r4 : jbj H 8 z4 c.ords eRd
  r5 : jbj H 4 z5 c.exs eRX
  r6 : jbj H 3 z6 c.turn.2.2.1 eRS
  r7 : jbj H 5 z7 c.turn.2.2.2 eRM
  r8 : jbj H 3 z8 c.back.2.2.1 eRS
  r9 : jbj H 5 z9 c.back.2.2.2 eRM
theorem CdZ.fz {c : Cd} {a b : Bool} : CdZ H c (.fz 8 a (c.ords.map eRd)) (.fz 4 b (c.exs.map eRX)) (.fz 3 false (c.turn.2.2.1.map eRS)) (.fz 5 false (c.turn.2.2.2.map eRM)) (.fz 3 false (c.back.2.2.1.map eRS)) (.fz 5 false (c.back.2.2.2.map eRM)) := ⟨jbj.fz, jbj.fz, jbj.fz, jbj.fz, jbj.fz, jbj.fz⟩
def c0 : Cd := ⟨0, 0, 0, 0, [], [], (0, 0, [], []), (0, 0, [], []), false, false⟩
theorem CdZ.nil : CdZ H c0 .nil .nil .nil .nil .nil .nil := ⟨jbj.nil, jbj.nil, jbj.nil, jbj.nil, jbj.nil, jbj.nil⟩
structure CdS (c : Cd) : Prop where
  ords : c.ords.length ≤ 1000000000
  exs : c.exs.length ≤ 1000000000
  all : ∀ x ∈ exsL c, x.2.2.1.length ≤ 1000000000 ∧ x.2.2.2.length ≤ 1000000000 ∧ ∀ m ∈ x.2.2.2, m.2.2.2.2.length ≤ 1000000000
set_option maxHeartbeats 8000000 in
theorem same_z {c : Cd} {z4 z5 z6 z7 z8 z9 y4 y5 y6 y7 y8 y9 : ZV} (hz : CdZ H c z4 z5 z6 z7 z8 z9) (hy : CdZ H c y4 y5 y6 y7 y8 y9) (hs : CdS c) (hK : K (ZBo true) H) :
  ZC (boxY tb) (jap Try.prog) 8 [.agg (cdZ c z4 z5 z6 z7 z8 z9), .agg (cdZ c y4 y5 y6 y7 y8 y9)] L H K := by
 refine ZC.enterL Gh.no (jan (by decide)) jm6 (by simp) fun hL => ?_
 simp only [jib]
 have a00 : ∀ A Y, (H ++ (A :: Y))[H.length]? = some A := fun A Y => atN0 rfl A Y
 have a1 : ∀ A B Y, (H ++ (A :: B :: Y))[H.length + 1]? = some B := fun A B Y => atN1 rfl A B Y
 have F0 := Lib.hid (show ∀ Y, Fin H (ZBo true) (H ++ Y) K from fun Y => Fin.trunc (Mods.ext H Y) rfl (by rw [List.take_left]; exact hK))
 have c4 := hz.r4.cell
 have c5 := hz.r5.cell
 have c6 := hz.r6.cell
 have c7 := hz.r7.cell
 have c8 := hz.r8.cell
 have c9 := hz.r9.cell
 have d4 := hy.r4.cell
 have d5 := hy.r5.cell
 have d6 := hy.r6.cell
 have d7 := hy.r7.cell
 have d8 := hy.r8.cell
 have d9 := hy.r9.cell
 have Z := Lib.hid hz
 have Y := Lib.hid hy
 have S := Lib.hid hs
 clear hK hz hy hs
 repeat' (first | (simp only [zP, jaf, jaa, jad, jae, seval, Nat.reduceLeDiff, a00, a1, c4, c5, c6, c7, c8, c9, d4, d5, d6, d7, d8, d9, *]) | (simp only [jab]) | (with_reducible apply And.intro) | (with_reducible intro _))
 refine eqO_z (Z.out.r4.app _) (Y.out.r4.app _) S.out.ords ?_
 have l1 : ∀ X, lenZ (H ++ X) z5 = some c.exs.length := fun X => by have := jbk (Z.out.r5 X); rwa [List.length_map] at this
 have l2 : ∀ X, lenZ (H ++ X) y5 = some c.exs.length := fun X => by have := jbk (Y.out.r5 X); rwa [List.length_map] at this
 have hxl : c.exs.length < 9223372036854775807 := by have := S.out.exs; omega
 repeat' (first | (simp only [zP, jaf, jaa, jad, jae, seval, Nat.reduceLeDiff, a00, a1, l1, l2, *]) | (simp only [jab]) | (with_reducible apply And.intro) | (with_reducible intro _))
 obtain ⟨A, hA⟩ : ∃ A, A = ZB.box (cdZ c z4 z5 z6 z7 z8 z9) := ⟨_, rfl⟩
 obtain ⟨B, hB⟩ : ∃ B, B = ZB.box (cdZ c y4 y5 y6 y7 y8 y9) := ⟨_, rfl⟩
 have HA : ∀ X, (H ++ (A :: X))[H.length]? = some (.box [Z64 c.fn, Z64 c.pl, Z64 c.lp, Z64 c.sl, z4, z5, Z64 c.turn.1, Z64 c.turn.2.1, z6, z7, Z64 c.back.1, Z64 c.back.2.1, z8, z9]) := fun X => by rw [a00, hA]
 have HB : ∀ X, (H ++ (A :: B :: X))[H.length + 1]? = some (.box [Z64 c.fn, Z64 c.pl, Z64 c.lp, Z64 c.sl, y4, y5, Z64 c.turn.1, Z64 c.turn.2.1, y6, y7, Z64 c.back.1, Z64 c.back.2.1, y8, y9]) := fun X => by rw [a1, hB]
 have HAB := Lib.hid (show [A, B] = [.box (cdZ c z4 z5 z6 z7 z8 z9), .box (cdZ c y4 y5 y6 y7 y8 y9)] by rw [hA, hB])
 clear hA hB a00 a1
 refine jaP [(2, .ptr H.length 0), (3, .ptr (H.length + 1) 0)] c.exs.length (fun k s' h' => h' = H ++ [A, B]) (by omega) ⟨rfl, rfl, rfl, rfl, rfl, rfl⟩ rfl rfl (by repeat' (first | exact trivial | (refine ⟨rfl, ?_⟩) | (refine ⟨by simp only [jaE, Nat.reduceEqDiff, reduceIte]; assumption, ?_⟩))) rfl rfl (by decide) (by rw [HAB.out]) ?_ ?_
 ·rintro k s' h' hk rfl hi hl ⟨f2, f3, -⟩
  obtain ⟨x, hx⟩ : ∃ x, x = c.exs[k] := ⟨_, rfl⟩
  have hxs := S.out.all x (by rw [hx]; simp [exsL])
  obtain ⟨at_, st, sets, makes⟩ := x
  obtain ⟨p1, q1, r1⟩ := jbK (Z.out.r5 [A, B]) hk
  obtain ⟨p2, q2, r2⟩ := jbK (Y.out.r5 [A, B]) hk
  rw [← hx] at r1 r2
  clear Z Y S F0 hx l1 l2 HAB
  repeat' (first | (simp only [zP, jaf, jaa, jad, jae, seval, Nat.reduceLeDiff, f2, f3, HA, HB, q1, r1, q2, r2, *]) | (simp only [jab]) | (with_reducible apply And.intro) | (with_reducible intro _))
  refine jiB (sets := sets) (makes := makes) jbj.fz jbj.fz jbj.fz jbj.fz hxs.1 hxs.2.1 hxs.2.2 ?_
  repeat' (first | (simp only [zP, jaf, jaa, jad, jae, seval, Nat.reduceLeDiff, *]) | (simp only [jab]) | (with_reducible apply And.intro) | (with_reducible intro _))
 ·rintro s' h' rfl ⟨f2, f3, -⟩
  have fin := F0.out [A, B]
  have t := S.out.all c.turn (by simp [exsL])
  have b := S.out.all c.back (by simp [exsL])
  have z6' := Z.out.r6.app [A, B]
  have z7' := Z.out.r7.app [A, B]
  have y6' := Y.out.r6.app [A, B]
  have y7' := Y.out.r7.app [A, B]
  have z8' := Z.out.r8.app [A, B]
  have z9' := Z.out.r9.app [A, B]
  have y8' := Y.out.r8.app [A, B]
  have y9' := Y.out.r9.app [A, B]
  have HZ := Lib.hid (And.intro z6' (And.intro z7' (And.intro y6' (And.intro y7' (And.intro z8' (And.intro z9' (And.intro y8' y9')))))))
  have HT := Lib.hid (And.intro t b)
  clear Z Y S F0 l1 l2 HAB z6' z7' y6' y7' z8' z9' y8' y9' t b
  repeat' (first | (simp only [zP, jaf, jaa, jad, jae, seval, Nat.reduceLeDiff, f2, f3, HA, HB, *]) | (simp only [jab]) | (with_reducible apply And.intro) | (with_reducible intro _))
  refine jiB HZ.out.1 HZ.out.2.2.1 HZ.out.2.1 HZ.out.2.2.2.1 HT.out.1.1 HT.out.1.2.1 HT.out.1.2.2 ?_
  repeat' (first | (simp only [zP, jaf, jaa, jad, jae, seval, Nat.reduceLeDiff, f2, f3, HA, HB, *]) | (simp only [jab]) | (with_reducible apply And.intro) | (with_reducible intro _))
  refine jiB HZ.out.2.2.2.2.1 HZ.out.2.2.2.2.2.2.1 HZ.out.2.2.2.2.2.1 HZ.out.2.2.2.2.2.2.2 HT.out.2.1 HT.out.2.2.1 HT.out.2.2.2 ?_
  repeat' (first | (simp only [zP, jaf, jaa, jad, jae, seval, Nat.reduceLeDiff, f2, f3, HA, HB, *]) | (simp only [jab]) | (with_reducible apply And.intro) | (with_reducible intro _))
theorem eql_u8 {a b : Int} : binV .neq (.int .u8 a) (.int .u8 b) = some (.bool (!decide (a = b))) := by simp [binV]
set_option maxHeartbeats 4000000 in
theorem eqb_z {x1 x2 : Bool} {l1 l2 : List Int} (h1 : l1.length ≤ 1000000000000) (h2 : l2.length ≤ 1000000000000) (hK : K (ZBo (decide (l1 = l2))) H) :
  ZC (boxY tb) (jap Try.prog) 21 [.fz 1 x1 (l1.map eC), .fz 1 x2 (l2.map eC)] L H K := by
 refine ZC.enter Gh.no (jan (by decide)) f_od_eq (by simp) ?_
 simp only [jny]
 have hm1 : (l1.map eC).length = l1.length := List.length_map ..
 have hm2 : (l2.map eC).length = l2.length := List.length_map ..
 by_cases hl : l1.length = l2.length
 ·have HK := Lib.hid hK
  have hl' : (((l1.length : Nat) : Int) = ((l2.length : Nat) : Int)) = True := eq_true (by omega)
  have HL := Lib.hid hl
  clear hK hl
  repeat' (first | (simp only [zP, jaf, jaa, jad, jae, seval, Nat.reduceLeDiff, hm1, hm2, hl', *]) | (simp only [jab]) | (with_reducible apply And.intro) | (with_reducible intro _))
  clear hl'
  refine jaP [(0, .fz 1 x1 (l1.map eC)), (1, .fz 1 x2 (l2.map eC))] l1.length (fun k s' h' => h' = H ∧ l1.take k = l2.take k) (by omega) ⟨rfl, rfl, rfl, rfl, rfl, rfl⟩ rfl rfl (by repeat' (first | exact trivial | (refine ⟨rfl, ?_⟩) | (refine ⟨by simp only [jaE, Nat.reduceEqDiff, reduceIte]; assumption, ?_⟩))) rfl rfl (by decide) ⟨rfl, by simp⟩ ?_ ?_
  ·rintro k s' h' hk ⟨rfl, htk⟩ hi hl3 ⟨f0, f1, -⟩
   have hk2 : k < l2.length := by have := HL.out; omega
   obtain ⟨a, ha⟩ : ∃ a, l1[k]? = some a := ⟨_, List.getElem?_eq_getElem hk⟩
   obtain ⟨b, hb⟩ : ∃ b, l2[k]? = some b := ⟨_, List.getElem?_eq_getElem hk2⟩
   by_cases hab : a = b
   ·subst hab
    have hn : l1.take (k + 1) = l2.take (k + 1) := by rw [List.take_add_one, List.take_add_one, htk, ha, hb]
    clear HK HL htk
    repeat' (first | (simp only [zP, jaf, jaa, jad, jae, seval, Nat.reduceLeDiff, f0, f1, ha, hb, Option.map_some, eql_u8, hm1, hm2, *]) | (simp only [jab]) | (with_reducible apply And.intro) | (with_reducible intro _))
   ·have hne : l1 ≠ l2 := fun e => by rw [e, hb] at ha; injection ha with ha; exact hab ha.symm
    have hk := HK.out
    rw [decide_eq_false hne] at hk
    have fin := Fin.keep (H0 := h') hk
    clear HK HL htk hne hk
    repeat' (first | (simp only [zP, jaf, jaa, jad, jae, seval, Nat.reduceLeDiff, f0, f1, ha, hb, Option.map_some, eql_u8, hm1, hm2, hab, *]) | (simp only [jab]) | (with_reducible apply And.intro) | (with_reducible intro _))
  ·rintro s' h' ⟨rfl, htk⟩ ⟨f0, f1, -⟩
   have he : l1 = l2 := by
    rw [List.take_of_length_le (Nat.le_refl _), HL.out, List.take_of_length_le (Nat.le_refl _)] at htk
    exact htk
   have hk := HK.out
   rw [decide_eq_true he] at hk
   have fin := Fin.keep (H0 := h') hk
   clear HK HL htk he hk
   repeat' (first | (simp only [zP, jaf, jaa, jad, jae, seval, Nat.reduceLeDiff, *]) | (simp only [jab]) | (with_reducible apply And.intro) | (with_reducible intro _))
 ·have hne : l1 ≠ l2 := fun e => hl (by rw [e])
  rw [decide_eq_false hne] at hK
  have fin := Fin.keep (H0 := H) hK
  have hl' : ¬ ((l1.length : Nat) : Int) = ((l2.length : Nat) : Int) := by omega
  clear hK hne hl
  repeat' (first | (simp only [zP, jaf, jaa, jad, jae, seval, Nat.reduceLeDiff, hm1, hm2, hl', *]) | (simp only [jab]) | (with_reducible apply And.intro) | (with_reducible intro _))
end
end Go.Proofs.Ytmholkmghhkbhaa
