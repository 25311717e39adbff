/-
  Proved: the law StoreNeeds answers true, whatever the input: behind Collect nothing more goes; no more words are used than ahead.
-/
import Derived.Test.YtiiefcbiemohhaaMrN18
namespace Go.Proofs.Ytiiefcbiemohhaa
open Go Go.RowKit
set_option linter.unusedVariables false
set_option linter.unusedSimpArgs false
abbrev Dd := Int × Int × Int × Int
abbrev eD (d : Dd) : List ZV := [Z64 d.1, Z64 d.2.1, Z64 d.2.2.1, Z64 d.2.2.2]
def I64B (x : Int) : Prop := -9223372036854775808 ≤ x ∧ x ≤ 9223372036854775807
theorem dd_cut {α : Type} {e : α → List ZV} {k n : Nat} {ex : Bool} {l : List α} (h : n ≤ l.length) : ∃ ex2, ∀ H, cutZ H k 0 n l.length false (.fz k ex (l.map e)) = some (.fz k ex2 ((l.take n).map e)) := by
 by_cases hl : l = []
 ·subst hl
  have : n = 0 := by simpa using h
  subst this
  exact ⟨false, fun H => by simp [cutZ]⟩
 ·refine ⟨(ex || false) && n == l.length, fun H => ?_⟩
  simp only [cutZ]
  rw [if_pos ⟨trivial, Nat.zero_le _, h, by simp⟩, if_neg (by simpa using hl)]
  simp only [List.drop_zero, Nat.sub_zero, List.map_take]
theorem best_min {n m : Nat} : bestZ false (Z64 (n : Nat)) [Z64 (m : Nat)] = some (Z64 ((min n m : Nat) : Int)) := by
 simp only [bestZ]
 by_cases h : m < n
 ·rw [show min n m = m by omega]
  have : ((m : Nat) : Int) < ((n : Nat) : Int) := by omega
  simp [this]
 ·rw [show min n m = n by omega]
  have : ¬ ((m : Nat) : Int) < ((n : Nat) : Int) := by omega
  simp [this]
def valAt (vals : List (Int × Int)) (k : Nat) : Int × Int := vals.getD k (0, 0)
theorem valAt_b {vals : List (Int × Int)} (h : ∀ x ∈ vals, I64B x.2) (k : Nat) : I64B (valAt vals k).2 := by
 unfold valAt
 rw [List.getD_eq_getElem?_getD]
 cases hx : vals[k]? with
 | none => simp [I64B]
 | some x => exact h x (List.mem_of_getElem? hx)
def NdI (H0 : ZH) (p : Nat) (h' : ZH) : Prop := ∃ σ A u, StO h' p σ A u ∧ LI H0 h' p σ
set_option maxHeartbeats 8000000 in
theorem storeneeds_z {ex ex' : Bool} {l : List Dd} {vals : List (Int × Int)} (hl : ∀ d ∈ l, I64B d.2.2.2) (hv : ∀ x ∈ vals, I64B x.2) :
  ZC (XS [] true) (cFunc Try.prog) 6 [.fz 4 ex (l.map eD), .fz 2 ex' (vals.map eP)] (fun _ => true) [] fun z _ => z = ZBo true := by
 refine ZC.enter Gh.no (boxX_none (by decide)) f_st_needsL (by simp) ?_
 simp only [c_st_needsL]
 have fin : ∀ X, Fin [] (ZBo true) X (fun z _ => z = ZBo true) := fun X => Fin.trunc (Mods.ext [] X) rfl rfl
 have FI := Lib.hid fin
 have HV := Lib.hid hv
 have HLb := Lib.hid hl
 clear fin hl hv
 repeat' (first | (simp only [zmPack, zxPack, ne_eq, zfree, owners, Nat.reduceLT, zyPack, Nat.reduceBEq, chunk, setAt, reduceCtorEq, Nat.reduceEqDiff, reduceIte, implies_true, forall_const, Nat.reduceMul, Nat.reduceSub, Nat.reduceAdd, Nat.reduceLeDiff, *]) | (simp only [zgPack]) | (with_reducible apply And.intro) | (with_reducible intro _))
 refine stored_z rfl (fun _ => rfl) ?_
 repeat' (first | (simp only [zmPack, zxPack, ne_eq, zfree, owners, Nat.reduceLT, zyPack, Nat.reduceBEq, chunk, setAt, reduceCtorEq, Nat.reduceEqDiff, reduceIte, implies_true, forall_const, Nat.reduceMul, Nat.reduceSub, Nat.reduceAdd, Nat.reduceLeDiff, *]) | (simp only [zgPack]) | (with_reducible apply And.intro) | (with_reducible intro _))
 refine snew_z rfl fun H1 p σ h1 h2 h3 h4 => ?_
 have li : LI [] H1 p σ := ⟨h2, h4, h3⟩
 have LI1 := Lib.hid li
 have S1 := Lib.hid h1
 obtain ⟨ex2, hct⟩ := dd_cut (e := eD) (k := 4) (ex := ex) (l := l) (n := min l.length 80) (Nat.min_le_left _ _)
 obtain ⟨ds, hds⟩ : ∃ ds, ds = l.take (min l.length 80) := ⟨_, rfl⟩
 have hlen : ds.length ≤ 80 := by rw [hds, List.length_take]; omega
 have hdb : ∀ d ∈ ds, I64B d.2.2.2 := fun d hd => HLb.out d (by rw [hds] at hd; exact List.mem_of_mem_take hd)
 rw [← hds] at hct
 have hbm : bestZ false (Z64 (l.length : Nat)) [Z64 (80 : Int)] = some (Z64 ((min l.length 80 : Nat) : Int)) := best_min (m := 80)
 have HLEN := Lib.hid hlen
 have HDB := Lib.hid hdb
 clear h1 h2 h3 h4 li hds hlen hdb
 repeat' (first | (simp only [zmPack, zxPack, ne_eq, zfree, owners, Nat.reduceLT, zyPack, Nat.reduceBEq, chunk, setAt, reduceCtorEq, Nat.reduceEqDiff, reduceIte, implies_true, forall_const, Nat.reduceMul, Nat.reduceSub, Nat.reduceAdd, Nat.reduceLeDiff, eqNil_ptr, *]) | (simp only [zgPack]) | (with_reducible apply And.intro) | (with_reducible intro _))
 refine stored_z rfl (fun _ => rfl) ?_
 repeat' (first | (simp only [zmPack, zxPack, ne_eq, zfree, owners, Nat.reduceLT, zyPack, Nat.reduceBEq, chunk, setAt, reduceCtorEq, Nat.reduceEqDiff, reduceIte, implies_true, forall_const, Nat.reduceMul, Nat.reduceSub, Nat.reduceAdd, Nat.reduceLeDiff, hbm, hct, hl_num0, hl_num1, natZ_nat, Option.bind_some, Option.isSome_none, *]) | (simp only [zgPack]) | (with_reducible apply And.intro) | (with_reducible intro _))
 clear hct hbm
 have hdl : ds.length < 9223372036854775807 := by have := HLEN.out; omega
 refine zW_forK [(1, .fz 2 ex' (vals.map eP)), (5, .ptr p 0), (25, .fz 4 ex2 (ds.map eD))] ds.length (fun k s' h' => NdI [] p h') (by omega) ⟨rfl, rfl, rfl, rfl, rfl, rfl⟩ rfl rfl (by repeat' (first | exact trivial | (refine ⟨rfl, ?_⟩) | (refine ⟨by simp only [zupd_at, Nat.reduceEqDiff, reduceIte]; assumption, ?_⟩))) rfl rfl (by decide) ⟨_, _, _, S1.out, LI1.out⟩ ?_ ?_
 ·rintro k s' h' hk ⟨σ1, A1, u1, hS, hLI⟩ hi hl ⟨f1, f5, f25, -⟩
  have hx : ds[k]? = some ds[k] := List.getElem?_eq_getElem hk
  have hdb := HDB.out _ (List.getElem_mem hk)
  have hvb := valAt_b HV.out k
  obtain ⟨d, hd⟩ : ∃ d, d = ds[k] := ⟨_, rfl⟩
  rw [← hd] at hx hdb
  obtain ⟨d1, d2, d3, d4⟩ := d
  have HS := Lib.hid hS
  have HLI := Lib.hid hLI
  have HDb := Lib.hid hdb
  have HVb := Lib.hid hvb
  have g0 : ∀ A Z, (h' ++ (A :: Z))[h'.length]? = some A := fun A Z => hl_at0 A Z
  have s0 : ∀ A C Z, (h' ++ (A :: Z)).set h'.length C = h' ++ (C :: Z) := fun A C Z => hl_st0 A C Z
  have g1 : ∀ A B Z, (h' ++ (A :: B :: Z))[h'.length + 1]? = some B := fun A B Z => hl_at1 A B Z
  have s1 : ∀ A B C Z, (h' ++ (A :: B :: Z)).set (h'.length + 1) C = h' ++ (A :: C :: Z) := fun A B C Z => hl_st1 A B C Z
  have key : ∀ v : Int × Int, v = valAt vals k → ∀ (H2 : ZH) σ2 u2, StO H2 p σ2 (deedA A1 d1 d2 d4 v.1 v.2).s u2 → ∀ X, FrS p σ1 σ2 (h' ++ X) H2 → NdI [] p H2 := fun v _ H2 σ2 u2 q1 X q2 => ⟨_, _, _, q1, (HLI.out.ext (X := X)).step q2⟩
  have KEY := Lib.hid key
  clear hd hdb hvb hS hLI key
  by_cases c : k < vals.length
  ·have hvx : vals[k]? = some (valAt vals k) := by unfold valAt; rw [List.getD_eq_getElem?_getD, List.getElem?_eq_getElem c]; rfl
   have c1 : (k : Int) < (vals.length : Int) := by omega
   obtain ⟨v, hv⟩ : ∃ v, v = valAt vals k := ⟨_, rfl⟩
   rw [← hv] at hvx HVb
   obtain ⟨v1, v2⟩ := v
   clear hv
   repeat' (first | (simp only [zmPack, zxPack, ne_eq, zfree, owners, Nat.reduceLT, zyPack, Nat.reduceBEq, chunk, setAt, reduceCtorEq, Nat.reduceEqDiff, reduceIte, implies_true, forall_const, Nat.reduceMul, Nat.reduceSub, Nat.reduceAdd, Nat.reduceLeDiff, hx, g0, g1, s0, s1, c1, hvx, c, *]) | (simp only [zgPack]) | (with_reducible apply And.intro) | (with_reducible intro _))
   refine sdeed_z HVb.out HDb.out (HS.out.ext _) (fun _ => rfl) fun H2 σ2 u2 q1 q2 => ?_
   have fin : NdI [] p H2 := ⟨_, _, _, q1, (HLI.out.ext).step q2⟩
   clear q1 q2
   repeat' (first | (simp only [zmPack, zxPack, ne_eq, zfree, owners, Nat.reduceLT, zyPack, Nat.reduceBEq, chunk, setAt, reduceCtorEq, Nat.reduceEqDiff, reduceIte, implies_true, forall_const, Nat.reduceMul, Nat.reduceSub, Nat.reduceAdd, Nat.reduceLeDiff, *]) | (simp only [zgPack]) | (with_reducible apply And.intro) | (with_reducible intro _))
  ·have c1 : ¬ ((k : Int) < (vals.length : Int)) := by omega
   clear c
   repeat' (first | (simp only [zmPack, zxPack, ne_eq, zfree, owners, Nat.reduceLT, zyPack, Nat.reduceBEq, chunk, setAt, reduceCtorEq, Nat.reduceEqDiff, reduceIte, implies_true, forall_const, Nat.reduceMul, Nat.reduceSub, Nat.reduceAdd, Nat.reduceLeDiff, hx, g0, g1, s0, s1, c1, *]) | (simp only [zgPack]) | (with_reducible apply And.intro) | (with_reducible intro _))
   refine sdeed_z (by omega) HDb.out (HS.out.ext _) (fun _ => rfl) fun H2 σ2 u2 q1 q2 => ?_
   have fin : NdI [] p H2 := ⟨_, _, _, q1, (HLI.out.ext).step q2⟩
   clear q1 q2
   repeat' (first | (simp only [zmPack, zxPack, ne_eq, zfree, owners, Nat.reduceLT, zyPack, Nat.reduceBEq, chunk, setAt, reduceCtorEq, Nat.reduceEqDiff, reduceIte, implies_true, forall_const, Nat.reduceMul, Nat.reduceSub, Nat.reduceAdd, Nat.reduceLeDiff, *]) | (simp only [zgPack]) | (with_reducible apply And.intro) | (with_reducible intro _))
 ·rintro s' h' ⟨σ1, A1, u1, hS, hLI⟩ ⟨f1, f5, f25, -⟩
  have HS := Lib.hid hS
  have hul : size A1 ≤ u1 := hS.size_le
  have hu2 : u1 ≤ 2000 := by obtain ⟨F, AT, q1, q2, rfl⟩ := hS; exact q2.hl
  have HU := Lib.hid hul
  have HU2 := Lib.hid hu2
  clear hS hLI hul hu2
  repeat' (first | (simp only [zmPack, zxPack, ne_eq, zfree, owners, Nat.reduceLT, zyPack, Nat.reduceBEq, chunk, setAt, reduceCtorEq, Nat.reduceEqDiff, reduceIte, implies_true, forall_const, Nat.reduceMul, Nat.reduceSub, Nat.reduceAdd, Nat.reduceLeDiff, *]) | (simp only [zgPack]) | (with_reducible apply And.intro) | (with_reducible intro _))
  refine sused_z HS.out ?_
  repeat' (first | (simp only [zmPack, zxPack, ne_eq, zfree, owners, Nat.reduceLT, zyPack, Nat.reduceBEq, chunk, setAt, reduceCtorEq, Nat.reduceEqDiff, reduceIte, implies_true, forall_const, Nat.reduceMul, Nat.reduceSub, Nat.reduceAdd, Nat.reduceLeDiff, *]) | (simp only [zgPack]) | (with_reducible apply And.intro) | (with_reducible intro _))
  refine sCollect_z HS.out (fun _ => rfl) fun H2 σ2 q1 q2 q3 => ?_
  have Q1 := Lib.hid q1
  clear q1 q2 q3
  repeat' (first | (simp only [zmPack, zxPack, ne_eq, zfree, owners, Nat.reduceLT, zyPack, Nat.reduceBEq, chunk, setAt, reduceCtorEq, Nat.reduceEqDiff, reduceIte, implies_true, forall_const, Nat.reduceMul, Nat.reduceSub, Nat.reduceAdd, Nat.reduceLeDiff, *]) | (simp only [zgPack]) | (with_reducible apply And.intro) | (with_reducible intro _))
  refine sused_z Q1.out ?_
  have w1 : IntKind.i64.wrap ((u1 : Int) - (size A1 : Int)) = (u1 : Int) - (size A1 : Int) := IntWalk.i64_in _ (by have := HU.out; have := HU2.out; omega)
  have c1 : (0 : Int) ≤ (size A1 : Int) := by omega
  have c2 : (0 : Int) ≤ (u1 : Int) - (size A1 : Int) := by have := HU.out; omega
  have c3 : (size A1 : Int) - (size A1 : Int) = 0 := by omega
  have fin := FI.out
  repeat' (first | (simp only [zmPack, zxPack, ne_eq, zfree, owners, Nat.reduceLT, zyPack, Nat.reduceBEq, chunk, setAt, reduceCtorEq, Nat.reduceEqDiff, reduceIte, implies_true, forall_const, Nat.reduceMul, Nat.reduceSub, Nat.reduceAdd, Nat.reduceLeDiff, w1, c1, c2, *]) | (simp only [zgPack]) | (with_reducible apply And.intro) | (with_reducible intro _))
  refine sCollect_z Q1.out (fun _ => rfl) fun H3 σ3 r1 r2 r3 => ?_
  have R1 := Lib.hid r1
  clear r1 r2 r3
  repeat' (first | (simp only [zmPack, zxPack, ne_eq, zfree, owners, Nat.reduceLT, zyPack, Nat.reduceBEq, chunk, setAt, reduceCtorEq, Nat.reduceEqDiff, reduceIte, implies_true, forall_const, Nat.reduceMul, Nat.reduceSub, Nat.reduceAdd, Nat.reduceLeDiff, c3, *]) | (simp only [zgPack]) | (with_reducible apply And.intro) | (with_reducible intro _))
  refine sused_z R1.out ?_
  repeat' (first | (simp only [zmPack, zxPack, ne_eq, zfree, owners, Nat.reduceLT, zyPack, Nat.reduceBEq, chunk, setAt, reduceCtorEq, Nat.reduceEqDiff, reduceIte, implies_true, forall_const, Nat.reduceMul, Nat.reduceSub, Nat.reduceAdd, Nat.reduceLeDiff, c1, c2, *]) | (simp only [zgPack]) | (with_reducible apply And.intro) | (with_reducible intro _))
end Go.Proofs.Ytiiefcbiemohhaa

namespace Go.Proofs.Ytiiefcbiemohhaa
open Go Go.RowKit Go.ChangeShapes Go.WideShapes Go.ChangeAt
set_option linter.unusedVariables false
set_option linter.unusedSimpArgs false
theorem dd_bound {by_ : Nat} {l : List Dd} (h : TOk (.slice by_ (.prod (.int .i64) (.prod (.int .i64) (.prod (.int .i64) (.int .i64))))) l) : ∀ d ∈ l, I64B d.2.2.2 := fun d hd => i64_bounds (h.2 d hd).2.2.2
theorem vv_bound {by_ : Nat} {l : List (Int × Int)} (h : TOk (.slice by_ (.prod (.int .i64) (.int .i64))) l) : ∀ x ∈ l, I64B x.2 := fun d hd => i64_bounds (h.2 d hd).2
set_option maxRecDepth 100000 in
theorem storeneeds_lifted (os : Os) (started : os.Started) (H : Type) (enc : TypeId × Value → H) :
  ReturnsInHanded {} Try.checked os 6 .any (Rows.storeNeedsSpec.pre6 enc Try.prog Try.f6 Rows.storeNeedsRow.domain false) (Rows.storeNeedsSpec.post enc Try.prog Try.f6 false true false false) := by
 refine law_lifted (C := Try.checked) 12 [(false, .slice 32 (.prod (.int .i64) (.prod (.int .i64) (.prod (.int .i64) (.int .i64))))), (false, .slice 16 (.prod (.int .i64) (.int .i64)))] 4 Try.own Try.laidOut started (by kernel_rfl) Try.func6
  (ChangeSpec.witness6 (enc := enc) (C := Try.checked) false ⟨#[], #[.slice none 0 0, .slice none 0 0], []⟩ 8 (by kernel_rfl) (by kernel_rfl) (by kernel_rfl) (by kernel_rfl))
  rfl (by kernel_rfl) Try.underlying4 (fun ds h => ?_) (by kernel_rfl) (by kernel_rfl) (fun W args h => ?_)
 ·match ds, h with
  | [d0, d1], _ => rfl
 ·refine zm_walk_nd (by kernel_rfl) (boxX_ok (constX_ok (n := 1) (F := cFunc Try.prog) (by kernel_rfl) (fun f af h => h) [] (by intro p hp; simp at hp))) (fun f af h => h) rfl (fun zl hz => ?_) W args h
  obtain ⟨l, _, rfl, hl, _, vals, _, rfl, hv, _, rfl⟩ := hz
  exact storeneeds_z (l := l) (vals := vals) (dd_bound hl) (vv_bound hv)
theorem storeneeds_holds : Rows.StoreNeedsSaid :=
 OpenClaim.holds_of_wide 6 Try.f6 rfl rfl rfl rfl rfl rfl rfl ⟨rfl, rfl, rfl, rfl, rfl⟩ rfl rfl rfl rfl rfl (by kernel_rfl) Try.func6 (by kernel_rfl) (of_decide_eq_true (by kernel_rfl)) (by unfold Func.isWrapper; first | (rw [if_pos (by decide +kernel)]; kernel_rfl) | (rw [if_neg (by decide +kernel)]; exact ⟨rfl, rfl⟩))
  (fun os started H enc _ => storeneeds_lifted os started H enc)
end Go.Proofs.Ytiiefcbiemohhaa
