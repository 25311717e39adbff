/-
  Proved: the law StoreGone answers true, whatever the input: what is no longer reached goes at the next Collect.
-/
import Derived.Test.YtiiefcbiemohhaaMrW19
namespace Go.Proofs.Ytiiefcbiemohhaa
open Go Go.RowKit
set_option linter.unusedVariables false
set_option linter.unusedSimpArgs false
def goV (j : Nat) : List Int := (List.range j).map fun i : Nat => boxW 2 (i : Int)
theorem goV_len {j : Nat} : (goV j).length = j := by simp [goV]
theorem goV_succ {j : Nat} : goV (j + 1) = goV j ++ [boxW 2 (j : Int)] := by simp [goV, List.range_succ]
def goA (j : Nat) (x : List Int) (b : Bool) : AS := ⟨[0, 0], [x, goV j], [true, b]⟩
theorem go_place {i : Nat} (h : i < 50) : placeB (boxW 2 (i : Int)) = false := by
 have hE : boxE 2 (i : Int) = 0 := by
  unfold boxE
  rw [if_neg (by omega), if_neg (by omega), if_neg (by unfold loI hiI; simp; omega)]
 obtain ⟨_, _, _, z4, _⟩ := kind_place (k := 2) (n := (i : Int)) (by omega) hE
 rw [z4]; rfl
theorem go_box {i : Nat} (h : i < 50) : boxE 2 (i : Int) = 0 := by
 unfold boxE
 rw [if_neg (by omega), if_neg (by omega), if_neg (by unfold loI hiI; simp; omega)]
theorem go_noref {j : Nat} (hj : j ≤ 50) {w : Int} (hw : w ∈ goV j) : placeB w = false := by
 unfold goV at hw
 obtain ⟨i, hi, rfl⟩ := List.mem_map.1 hw
 exact go_place (by have := List.mem_range.1 hi; omega)
theorem go_val0 {j : Nat} {x : List Int} {b : Bool} : (goA j x b).val 0 = x := rfl
theorem go_val1 {j : Nat} {x : List Int} {b : Bool} : (goA j x b).val 1 = goV j := rfl
theorem go_val2 {j : Nat} {x : List Int} {b : Bool} {n : Nat} (h : 2 ≤ n) : (goA j x b).val n = [] := by
 unfold goA AS.val
 rw [List.getD_eq_getElem?_getD, List.getElem?_eq_none (by simpa using h)]; rfl
theorem go_rch {j : Nat} (hj : j ≤ 50) {x : List Int} {b : Bool} {n : Nat} : Rch (goA j x b) n → n = 0 ∨ (n = 1 ∧ (b = true ∨ ∃ w ∈ x, placeB w = true ∧ unNum w = 1)) ∨ (2 ≤ n ∧ ∃ w ∈ x, placeB w = true ∧ unNum w = (n : Int)) := by
 intro h
 induction h with
 | @held n hh =>
  have hh : [true, b][n]? = some true := hh
  match n, hh with
  | 0, _ => exact .inl rfl
  | 1, hh => exact .inr (.inl ⟨rfl, .inl (by simpa using hh)⟩)
  | n + 2, hh => simp at hh
 | @val a m w ha hw hp e ih =>
  have hx : w ∈ x := by
   rcases ih with rfl | ⟨rfl, _⟩ | ⟨h2, _⟩
   ·exact hw
   ·rw [go_val1] at hw; rw [go_noref hj hw] at hp; cases hp
   ·rw [go_val2 h2] at hw; simp at hw
  rcases Nat.lt_or_ge m 2 with c | c
  ·rcases Nat.lt_or_ge m 1 with c1 | c1
   ·exact .inl (by omega)
   ·have : m = 1 := by omega
    subst this
    exact .inr (.inl ⟨rfl, .inr ⟨w, hx, hp, e⟩⟩)
  ·exact .inr (.inr ⟨c, w, hx, hp, e⟩)
theorem go_r0 {j : Nat} {x : List Int} {b : Bool} : Rch (goA j x b) 0 := .held rfl
theorem go_size {j : Nat} (hj : j ≤ 50) {x : List Int} {b : Bool} (hx : ∀ w ∈ x, placeB w = true → unNum w = 1) : size (goA j x b) = 1 + x.length + (if b = true ∨ ∃ w ∈ x, placeB w = true ∧ unNum w = 1 then 1 + j else 0) := by
 classical
 have h0 : Rch (goA j x b) 0 := go_r0
 unfold size
 show (((List.range 2).filter fun n => decide (Rch (goA j x b) n)).map fun n => 1 + ((goA j x b).val n).length).sum = _
 rw [show List.range 2 = [0, 1] from rfl, List.filter_cons_of_pos (by simpa using h0)]
 by_cases c : b = true ∨ ∃ w ∈ x, placeB w = true ∧ unNum w = 1
 ·have h1 : Rch (goA j x b) 1 := by
   rcases c with rfl | ⟨w, hw, hp, e⟩
   ·exact .held rfl
   ·exact .val h0 hw hp e
  rw [if_pos c, List.filter_cons_of_pos (by simpa using h1)]
  simp only [List.filter_nil, List.map_cons, List.map_nil, List.sum_cons, List.sum_nil, go_val0, go_val1, goV_len]
  omega
 ·have h1 : ¬ Rch (goA j x b) 1 := fun h => by
   rcases go_rch hj h with e | ⟨_, e⟩ | ⟨e, _⟩
   ·omega
   ·exact c e
   ·omega
  rw [if_neg c, List.filter_cons_of_neg (by simpa using h1)]
  simp only [List.filter_nil, List.map_cons, List.map_nil, List.sum_cons, List.sum_nil, go_val0]
theorem go_named {j : Nat} {x : List Int} {b : Bool} {n : Nat} {H1 : ZH} {p : Nat} {σ : Sg} {u : Nat} (h : StO H1 p σ (goA j x b) u) (hr : Rch (goA j x b) n) : namedA (goA j x b) (n : Int) = 0 := namedA_rch h.ok hr
theorem go_ref : boxE 5 1 = 0 ∧ placeB (boxW 5 1) = true ∧ unNum (boxW 5 1) = 1 := by
 obtain ⟨b1, b2, b3, b4, b5, b6⟩ := box5 (n := 1) (by omega) (by omega)
 exact ⟨b6, b4, b3⟩
theorem go_nil : boxE 0 0 = 0 ∧ placeB (boxW 0 0) = false := by
 have hE : boxE 0 0 = 0 := by decide
 obtain ⟨_, _, _, z4, _⟩ := kind_place (k := 0) (n := 0) (by omega) hE
 exact ⟨hE, by rw [z4]; rfl⟩
theorem eqlI {n : Int} : binV .eql (.int .i64 n) (.int .i64 n) = some (.bool true) := by simp [binV]
set_option maxHeartbeats 8000000 in
theorem storegone_z {kk : Int} : ZC (XS [] true) (cFunc Try.prog) 3 [Z64 kk] (fun _ => true) [] fun z _ => z = ZBo true := by
 refine ZC.enter Gh.no (boxX_none (by decide)) f_st_gone (by simp) ?_
 simp only [c_st_gone]
 have fin0 : ∀ X, Fin [] (ZBo true) X (fun z _ => z = ZBo true) := fun X => Fin.trunc (Mods.ext [] X) rfl rfl
 have FI := Lib.hid fin0
 clear fin0
 repeat' (first | (simp only [zmPack, zxPack, ne_eq, zfree, owners, Nat.reduceLT, zyPack, Nat.reduceBEq, chunk, setAt, reduceCtorEq, Nat.reduceEqDiff, reduceIte, implies_true, forall_const, Nat.reduceMul, Nat.reduceSub, Nat.reduceAdd, Nat.reduceLeDiff, *]) | (simp only [zgPack]) | (with_reducible apply And.intro) | (with_reducible intro _))
 refine stored_z rfl (fun _ => rfl) ?_
 repeat' (first | (simp only [zmPack, zxPack, ne_eq, zfree, owners, Nat.reduceLT, zyPack, Nat.reduceBEq, chunk, setAt, reduceCtorEq, Nat.reduceEqDiff, reduceIte, implies_true, forall_const, Nat.reduceMul, Nat.reduceSub, Nat.reduceAdd, Nat.reduceLeDiff, *]) | (simp only [zgPack]) | (with_reducible apply And.intro) | (with_reducible intro _))
 refine snew_z rfl fun H1 p σ h1 h2 h3 h4 => ?_
 have S1 := Lib.hid h1
 clear h1 h2 h3 h4
 repeat' (first | (simp only [zmPack, zxPack, ne_eq, zfree, owners, Nat.reduceLT, zyPack, Nat.reduceBEq, chunk, setAt, reduceCtorEq, Nat.reduceEqDiff, reduceIte, implies_true, forall_const, Nat.reduceMul, Nat.reduceSub, Nat.reduceAdd, Nat.reduceLeDiff, eqNil_ptr, *]) | (simp only [zgPack]) | (with_reducible apply And.intro) | (with_reducible intro _))
 refine stored_z rfl (fun _ => rfl) ?_
 repeat' (first | (simp only [zmPack, zxPack, ne_eq, zfree, owners, Nat.reduceLT, zyPack, Nat.reduceBEq, chunk, setAt, reduceCtorEq, Nat.reduceEqDiff, reduceIte, implies_true, forall_const, Nat.reduceMul, Nat.reduceSub, Nat.reduceAdd, Nat.reduceLeDiff, *]) | (simp only [zgPack]) | (with_reducible apply And.intro) | (with_reducible intro _))
 refine sMake_z S1.out (fun _ => rfl) fun H2 σ2 u2 q1 _ _ => ?_
 obtain ⟨e1, e2, e3⟩ := make0 (A := ⟨[], [], []⟩) (mk := 0) (by omega) (by simp) (by rw [size_nil]; omega)
 have e4 : makeN ⟨[], [], []⟩ 0 = 0 := e3
 rw [e2] at q1
 rw [e1, e4]
 have hz : size (makeA ⟨[], [], []⟩ 0) ≤ 1 := by
  classical
  unfold size
  show (((List.range 1).filter fun n => decide (Rch _ n)).map fun n => 1 + ((makeA ⟨[], [], []⟩ 0).val n).length).sum ≤ 1
  rw [show List.range 1 = [0] from rfl, List.filter_cons]
  split <;> simp [makeA, AS.val]
 have S2 := Lib.hid q1
 clear q1 e1 e2 e3 e4
 have HZ := Lib.hid hz
 clear hz
 repeat' (first | (simp only [zmPack, zxPack, ne_eq, zfree, owners, Nat.reduceLT, zyPack, Nat.reduceBEq, chunk, setAt, reduceCtorEq, Nat.reduceEqDiff, reduceIte, implies_true, forall_const, Nat.reduceMul, Nat.reduceSub, Nat.reduceAdd, Nat.reduceLeDiff, *]) | (simp only [zgPack]) | (with_reducible apply And.intro) | (with_reducible intro _))
 refine sMake_z S2.out (fun _ => rfl) fun H3 σ3 u3 q1 _ _ => ?_
 obtain ⟨e1, e2, e3⟩ := make0 (A := makeA ⟨[], [], []⟩ 0) (mk := 0) (by omega) (by simp [makeA]) (by have := HZ.out; omega)
 have e4 : makeN (makeA ⟨[], [], []⟩ 0) 0 = 1 := e3
 rw [e2] at q1
 rw [e1, e4]
 have q1 : StO H3 p σ3 (goA 0 [] true) u3 := q1
 have S3 := Lib.hid q1
 clear q1 e1 e2 e3 e4
 repeat' (first | (simp only [zmPack, zxPack, ne_eq, zfree, owners, Nat.reduceLT, zyPack, Nat.reduceBEq, chunk, setAt, reduceCtorEq, Nat.reduceEqDiff, reduceIte, implies_true, forall_const, Nat.reduceMul, Nat.reduceSub, Nat.reduceAdd, Nat.reduceLeDiff, *]) | (simp only [zgPack]) | (with_reducible apply And.intro) | (with_reducible intro _))
 refine srest_z (by omega) ?_
 obtain ⟨m, hm⟩ : ∃ m : Nat, kk % 50 = (m : Int) := ⟨(kk % 50).toNat, by omega⟩
 have hm50 : m < 50 := by omega
 rw [hm]
 have HM := Lib.hid hm50
 have hm9 : m < 9223372036854775807 := by omega
 clear hm hm50
 repeat' (first | (simp only [zmPack, zxPack, ne_eq, zfree, owners, Nat.reduceLT, zyPack, Nat.reduceBEq, chunk, setAt, reduceCtorEq, Nat.reduceEqDiff, reduceIte, implies_true, forall_const, Nat.reduceMul, Nat.reduceSub, Nat.reduceAdd, Nat.reduceLeDiff, *]) | (simp only [zgPack]) | (with_reducible apply And.intro) | (with_reducible intro _))
 refine zW_forK [(3, .ptr p 0), (4, Z64 0), (5, Z64 0), (6, Z64 1), (7, Z64 0), (8, Z64 (m : Int))] m (fun k s' h' => ∃ σ u, StO h' p σ (goA k [] true) u) (by omega) ⟨rfl, rfl, rfl, rfl, rfl, rfl⟩ rfl rfl (by repeat' (first | exact trivial | (refine ⟨rfl, ?_⟩) | (refine ⟨by simp only [zupd_at, Nat.reduceEqDiff, reduceIte]; assumption, ?_⟩))) rfl rfl (by decide) ⟨_, _, S3.out⟩ ?_ ?_
 ·rintro k s' h' hk ⟨σ4, u4, hS⟩ hi hl ⟨f3, f4, f5, f6, f7, f8, -⟩
  have hk50 : k < 50 := by have := HM.out; omega
  have hE : pushE (goA k [] true) 1 2 (k : Int) = 0 := by
   have hn : namedA (goA k [] true) ((1 : Nat) : Int) = 0 := go_named hS (.held rfl)
   have hn : namedA (goA k [] true) 1 = 0 := hn
   unfold pushE
   rw [if_neg (by rw [hn]; simp), if_neg ?_, if_neg ?_]
   ·show ¬ (100 ≤ ((goA k [] true).val 1).length ∨ _)
    rw [go_val1, goV_len, go_size (by omega) (by simp)]
    simp; omega
   ·unfold boxedA; rw [if_neg (by rw [go_box hk50]; simp), if_pos (by decide)]; simp
  have hSS : pushS (goA k [] true) 1 2 (k : Int) = goA (k + 1) [] true := by
   unfold pushS; rw [if_pos hE]
   show putV (goA k [] true) 1 (goV k ++ [boxW 2 (k : Int)]) = _
   rw [← goV_succ]; rfl
  have HS := Lib.hid hS
  have HE := Lib.hid hE
  have HSS := Lib.hid hSS
  clear hS hE hSS hk50
  repeat' (first | (simp only [zmPack, zxPack, ne_eq, zfree, owners, Nat.reduceLT, zyPack, Nat.reduceBEq, chunk, setAt, reduceCtorEq, Nat.reduceEqDiff, reduceIte, implies_true, forall_const, Nat.reduceMul, Nat.reduceSub, Nat.reduceAdd, Nat.reduceLeDiff, *]) | (simp only [zgPack]) | (with_reducible apply And.intro) | (with_reducible intro _))
  refine sPush_z (by omega) HS.out (fun _ => rfl) fun H5 σ5 u5 q1 _ => ?_
  rw [HSS.out] at q1
  rw [HE.out]
  have fin : ∃ σ u, StO H5 p σ (goA (k + 1) [] true) u := ⟨_, _, q1⟩
  clear q1
  repeat' (first | (simp only [zmPack, zxPack, ne_eq, zfree, owners, Nat.reduceLT, zyPack, Nat.reduceBEq, chunk, setAt, reduceCtorEq, Nat.reduceEqDiff, reduceIte, implies_true, forall_const, Nat.reduceMul, Nat.reduceSub, Nat.reduceAdd, Nat.reduceLeDiff, *]) | (simp only [zgPack]) | (with_reducible apply And.intro) | (with_reducible intro _))
 ·rintro s' h' ⟨σ4, u4, hS⟩ ⟨f3, f4, f5, f6, f7, f8, -⟩
  have hm50 := HM.out
  obtain ⟨r1, r2, r3⟩ := go_ref
  have hz : size (goA m [] true) = 1 + 0 + (1 + m) := by rw [go_size (by omega) (by simp)]; rfl
  have hn0 : namedA (goA m [] true) 0 = 0 := go_named (n := 0) hS go_r0
  have hn1 : namedA (goA m [] true) 1 = 0 := go_named (n := 1) hS (.held rfl)
  have hE : pushE (goA m [] true) 0 5 1 = 0 := by
   unfold pushE
   rw [if_neg (by rw [hn0]; simp), if_neg ?_, if_neg ?_]
   ·show ¬ (100 ≤ ((goA m [] true).val 0).length ∨ _)
    rw [go_val0, hz]; simp; omega
   ·unfold boxedA; rw [if_neg (by rw [r1]; simp), if_neg (by simp), hn1]; simp
  have hSS : pushS (goA m [] true) 0 5 1 = goA m [boxW 5 1] true := by unfold pushS; rw [if_pos hE]; rfl
  have HS := Lib.hid hS
  have HE := Lib.hid hE
  have HSS := Lib.hid hSS
  clear hS hE hSS hn0 hn1 hz r1 r2 r3 hm50
  repeat' (first | (simp only [zmPack, zxPack, ne_eq, zfree, owners, Nat.reduceLT, zyPack, Nat.reduceBEq, chunk, setAt, reduceCtorEq, Nat.reduceEqDiff, reduceIte, implies_true, forall_const, Nat.reduceMul, Nat.reduceSub, Nat.reduceAdd, Nat.reduceLeDiff, *]) | (simp only [zgPack]) | (with_reducible apply And.intro) | (with_reducible intro _))
  refine sPush_z (by omega) HS.out (fun _ => rfl) fun H5 σ5 u5 q1 _ => ?_
  rw [HSS.out] at q1
  rw [HE.out]
  have hn1 : namedA (goA m [boxW 5 1] true) 1 = 0 := go_named (n := 1) q1 (.held rfl)
  have hd : dropE (goA m [boxW 5 1] true) 1 = 0 := by unfold dropE; rw [if_neg (by rw [hn1]; simp)]; rfl
  have hdS : dropS (goA m [boxW 5 1] true) 1 = goA m [boxW 5 1] false := by unfold dropS; rw [if_pos hd]; rfl
  have S5 := Lib.hid q1
  have HD := Lib.hid hd
  have HDS := Lib.hid hdS
  clear q1 hn1 hd hdS
  repeat' (first | (simp only [zmPack, zxPack, ne_eq, zfree, owners, Nat.reduceLT, zyPack, Nat.reduceBEq, chunk, setAt, reduceCtorEq, Nat.reduceEqDiff, reduceIte, implies_true, forall_const, Nat.reduceMul, Nat.reduceSub, Nat.reduceAdd, Nat.reduceLeDiff, *]) | (simp only [zgPack]) | (with_reducible apply And.intro) | (with_reducible intro _))
  refine sdrop_z S5.out (fun _ => rfl) fun H6 q1 _ => ?_
  rw [HDS.out] at q1
  rw [HD.out]
  have S6 := Lib.hid q1
  clear q1
  repeat' (first | (simp only [zmPack, zxPack, ne_eq, zfree, owners, Nat.reduceLT, zyPack, Nat.reduceBEq, chunk, setAt, reduceCtorEq, Nat.reduceEqDiff, reduceIte, implies_true, forall_const, Nat.reduceMul, Nat.reduceSub, Nat.reduceAdd, Nat.reduceLeDiff, *]) | (simp only [zgPack]) | (with_reducible apply And.intro) | (with_reducible intro _))
  refine sCollect_z S6.out (fun _ => rfl) fun H7 σ7 q1 _ _ => ?_
  obtain ⟨r1, r2, r3⟩ := go_ref
  have hm50 := HM.out
  have hr1 : Rch (goA m [boxW 5 1] false) 1 := .val (n := 0) (w := boxW 5 1) go_r0 (by simp [goA]) r2 r3
  have hsz : size (goA m [boxW 5 1] false) = 3 + m := by
   rw [go_size (by omega) (by intro w hw _; rw [List.mem_singleton.1 hw]; exact r3), if_pos (.inr ⟨_, List.mem_singleton_self _, r2, r3⟩)]
   simp; omega
  have hn1 : namedA (goA m [boxW 5 1] false) 1 = 0 := go_named (n := 1) q1 hr1
  have hc : countN (goA m [boxW 5 1] false) 1 = (m : Int) := by
   unfold countN; rw [if_pos hn1]
   show (((goA m [boxW 5 1] false).val 1).length : Int) = _
   rw [go_val1, goV_len]
  have hn0 : namedA (goA m [boxW 5 1] false) 0 = 0 := go_named (n := 0) q1 go_r0
  obtain ⟨z1, z2⟩ := go_nil
  have hsE : setE (goA m [boxW 5 1] false) 0 0 0 0 = 0 := by
   unfold setE
   rw [if_neg (by rw [hn0]; simp), if_neg ?_, if_neg ?_]
   ·show ¬ ((0 : Int) < 0 ∨ (((goA m [boxW 5 1] false).val 0).length : Int) ≤ 0)
    rw [go_val0]; simp
   ·unfold boxedA; rw [if_neg (by rw [z1]; simp), if_pos (by decide)]; simp
  have hsS : setS (goA m [boxW 5 1] false) 0 0 0 0 = goA m [boxW 0 0] false := by unfold setS; rw [if_pos hsE]; rfl
  have hnr : ¬ Rch (goA m [boxW 0 0] false) 1 := fun h => by
   rcases go_rch (by omega) h with e | ⟨_, e | ⟨w, hw, hp, _⟩⟩ | ⟨e, _⟩
   ·omega
   ·cases e
   ·rw [List.mem_singleton.1 hw, z2] at hp; cases hp
   ·omega
  have hn8 : namedA (goA m [boxW 0 0] false) 1 = 8 := by unfold namedA; rw [if_neg (by simp [goA]), if_neg (show ¬ Rch (goA m [boxW 0 0] false) (Int.toNat 1) from hnr)]
  have hc0 : countN (goA m [boxW 0 0] false) 1 = 0 := by unfold countN; rw [hn8]; rfl
  have hsz2 : size (goA m [boxW 0 0] false) = 2 := by
   rw [go_size (by omega) (by intro w hw hp; rw [List.mem_singleton.1 hw, z2] at hp; cases hp), if_neg ?_]
   ·rfl
   ·rintro (e | ⟨w, hw, hp, _⟩)
    ·cases e
    ·rw [List.mem_singleton.1 hw, z2] at hp; cases hp
  rw [hsz] at q1
  have S7 := Lib.hid q1
  have HN1 := Lib.hid hn1
  have HC := Lib.hid hc
  have HSE := Lib.hid hsE
  have HSS2 := Lib.hid hsS
  have HN8 := Lib.hid hn8
  have HC0 := Lib.hid hc0
  have HZ2 := Lib.hid hsz2
  have w1 : IntKind.i64.wrap (3 + (m : Int)) = ((3 + m : Nat) : Int) := by rw [IntWalk.i64_in _ (by omega)]; omega
  have w2 : IntKind.i64.wrap (1 + (m : Int)) = ((1 + m : Nat) : Int) := by rw [IntWalk.i64_in _ (by omega)]; omega
  have w3 : ((3 + m : Nat) : Int) - (2 : Nat) = ((1 + m : Nat) : Int) := by omega
  clear q1 hr1 hsz hn1 hc hn0 hsE hsS hnr hn8 hc0 hsz2 r1 r2 r3 z1 z2 hm50
  have fin := FI.out
  repeat' (first | (simp only [zmPack, zxPack, ne_eq, zfree, owners, Nat.reduceLT, zyPack, Nat.reduceBEq, chunk, setAt, reduceCtorEq, Nat.reduceEqDiff, reduceIte, implies_true, forall_const, Nat.reduceMul, Nat.reduceSub, Nat.reduceAdd, Nat.reduceLeDiff, *]) | (simp only [zgPack]) | (with_reducible apply And.intro) | (with_reducible intro _))
  refine scount_z S7.out ?_
  rw [HC.out, HN1.out]
  repeat' (first | (simp only [zmPack, zxPack, ne_eq, zfree, owners, Nat.reduceLT, zyPack, Nat.reduceBEq, chunk, setAt, reduceCtorEq, Nat.reduceEqDiff, reduceIte, implies_true, forall_const, Nat.reduceMul, Nat.reduceSub, Nat.reduceAdd, Nat.reduceLeDiff, *]) | (simp only [zgPack]) | (with_reducible apply And.intro) | (with_reducible intro _))
  refine sused_z S7.out ?_
  repeat' (first | (simp only [zmPack, zxPack, ne_eq, zfree, owners, Nat.reduceLT, zyPack, Nat.reduceBEq, chunk, setAt, reduceCtorEq, Nat.reduceEqDiff, reduceIte, implies_true, forall_const, Nat.reduceMul, Nat.reduceSub, Nat.reduceAdd, Nat.reduceLeDiff, w1, *]) | (simp only [zgPack]) | (with_reducible apply And.intro) | (with_reducible intro _))
  refine sset_z (by omega) S7.out (fun _ => rfl) fun H8 q1 _ => ?_
  rw [HSS2.out] at q1
  rw [HSE.out]
  have S8 := Lib.hid q1
  clear q1
  repeat' (first | (simp only [zmPack, zxPack, ne_eq, zfree, owners, Nat.reduceLT, zyPack, Nat.reduceBEq, chunk, setAt, reduceCtorEq, Nat.reduceEqDiff, reduceIte, implies_true, forall_const, Nat.reduceMul, Nat.reduceSub, Nat.reduceAdd, Nat.reduceLeDiff, *]) | (simp only [zgPack]) | (with_reducible apply And.intro) | (with_reducible intro _))
  refine scount_z S8.out ?_
  rw [HC0.out, HN8.out]
  repeat' (first | (simp only [zmPack, zxPack, ne_eq, zfree, owners, Nat.reduceLT, zyPack, Nat.reduceBEq, chunk, setAt, reduceCtorEq, Nat.reduceEqDiff, reduceIte, implies_true, forall_const, Nat.reduceMul, Nat.reduceSub, Nat.reduceAdd, Nat.reduceLeDiff, *]) | (simp only [zgPack]) | (with_reducible apply And.intro) | (with_reducible intro _))
  refine sCollect_z S8.out (fun _ => rfl) fun H9 σ9 q1 _ _ => ?_
  rw [HZ2.out] at q1 ⊢
  rw [w3]
  have S9 := Lib.hid q1
  clear q1 w3
  repeat' (first | (simp only [zmPack, zxPack, ne_eq, zfree, owners, Nat.reduceLT, zyPack, Nat.reduceBEq, chunk, setAt, reduceCtorEq, Nat.reduceEqDiff, reduceIte, implies_true, forall_const, Nat.reduceMul, Nat.reduceSub, Nat.reduceAdd, Nat.reduceLeDiff, w2, eqlI, *]) | (simp only [zgPack]) | (with_reducible apply And.intro) | (with_reducible intro _))
  refine sused_z S9.out ?_
  repeat' (first | (simp only [zmPack, zxPack, ne_eq, zfree, owners, Nat.reduceLT, zyPack, Nat.reduceBEq, chunk, setAt, reduceCtorEq, Nat.reduceEqDiff, reduceIte, implies_true, forall_const, Nat.reduceMul, Nat.reduceSub, Nat.reduceAdd, Nat.reduceLeDiff, eqlI, show ((2 : Nat) : Int) = 2 from rfl, *]) | (simp only [zgPack]) | (with_reducible apply And.intro) | (with_reducible intro _))
  refine shold_z S9.out (fun _ => rfl) fun H10 q1 _ => ?_
  rw [HN8.out]
  clear q1
  repeat' (first | (simp only [zmPack, zxPack, ne_eq, zfree, owners, Nat.reduceLT, zyPack, Nat.reduceBEq, chunk, setAt, reduceCtorEq, Nat.reduceEqDiff, reduceIte, implies_true, forall_const, Nat.reduceMul, Nat.reduceSub, Nat.reduceAdd, Nat.reduceLeDiff, eqlI, *]) | (simp only [zgPack]) | (with_reducible apply And.intro) | (with_reducible intro _))
end Go.Proofs.Ytiiefcbiemohhaa

namespace Go.Proofs.Ytiiefcbiemohhaa
open Go Go.RowKit Go.ChangeShapes Go.WideShapes Go.ChangeAt
set_option linter.unusedVariables false
set_option linter.unusedSimpArgs false
set_option maxRecDepth 100000 in
theorem storegone_lifted (os : Os) (started : os.Started) (H : Type) (enc : TypeId × Value → H) :
  ReturnsInHanded {} Try.checked os 3 .any (Rows.storeGoneSpec.pre6 enc Try.prog Try.f3 Rows.storeGoneRow.domain false) (Rows.storeGoneSpec.post enc Try.prog Try.f3 false true false false) := by
 refine law_lifted (C := Try.checked) 12 [(false, .int .i64)] 4 Try.own Try.laidOut started (by kernel_rfl) Try.func3
  (ChangeSpec.witness6 (enc := enc) (C := Try.checked) false ⟨#[], #[.int .i64 0], []⟩ 8 (by kernel_rfl) (by kernel_rfl) (by kernel_rfl) (by kernel_rfl))
  rfl (by kernel_rfl) Try.underlying4 (fun ds h => ?_) (by kernel_rfl) (by kernel_rfl) (fun W args h => ?_)
 ·match ds, h with
  | [d0], _ => rfl
 ·refine zm_walk_nd (by kernel_rfl) (boxX_ok (constX_ok (n := 1) (F := cFunc Try.prog) (by kernel_rfl) (fun f af h => h) [] (by intro p hp; simp at hp))) (fun f af h => h) rfl (fun zl hz => ?_) W args h
  obtain ⟨k, _, rfl, _, _, rfl⟩ := hz
  exact storegone_z
theorem storegone_holds : Rows.StoreGoneSaid :=
 OpenClaim.holds_of_wide 3 Try.f3 rfl rfl rfl rfl rfl rfl rfl ⟨rfl, rfl, rfl, rfl, rfl⟩ rfl rfl rfl rfl rfl (by kernel_rfl) Try.func3 (by kernel_rfl) (of_decide_eq_true (by kernel_rfl)) (by unfold Func.isWrapper; first | (rw [if_pos (by decide +kernel)]; kernel_rfl) | (rw [if_neg (by decide +kernel)]; exact ⟨rfl, rfl⟩))
  (fun os started H enc _ => storegone_lifted os started H enc)
end Go.Proofs.Ytiiefcbiemohhaa
