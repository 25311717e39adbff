/-
  Proved: the law StoreMoves answers true, whatever the input: two stores, to which the same is done, tell the same, wherever one of them collects.
-/
import Derived.Test.YtiiefcbiemohhaaMrO19
namespace Go.Proofs.Ytiiefcbiemohhaa
open Go Go.RowKit
set_option linter.unusedVariables false
set_option linter.unusedSimpArgs false
def Bk (p : Nat) (σ : Sg) (i : Nat) : Prop := i = p ∨ i = σ.w ∨ i = σ.a ∨ i = σ.h
def Dj (p : Nat) (σ : Sg) (q : Nat) (τ : Sg) : Prop := ∀ i, Bk p σ i → ¬ Bk q τ i
theorem Dj.symm {p q : Nat} {σ τ : Sg} (h : Dj p σ q τ) : Dj q τ p σ := fun i a b => h i b a
theorem StO.frame {H1 H2 : ZH} {p q : Nat} {σ σ' τ : Sg} {A : AS} {u : Nat} (h : StO H1 q τ A u) (f : FrS p σ σ' H1 H2) (d : Dj p σ q τ) : StO H2 q τ A u ∧ Dj p σ' q τ := by
 have hlt := h.lt
 obtain ⟨F, AT, s, r, e⟩ := h
 have k : ∀ i B, Bk q τ i → H1[i]? = some B → H2[i]? = some B := fun i B hb hi => f.keep i B (fun e => d i (.inl e) hb) (fun e => d i (.inr (.inl e)) hb) (fun e => d i (.inr (.inr (.inl e))) hb) (fun e => d i (.inr (.inr (.inr e))) hb) hi
 refine ⟨⟨F, AT, ⟨k _ _ (.inl rfl) s.box, k _ _ (.inr (.inl rfl)) s.ws, k _ _ (.inr (.inr (.inl rfl))) s.ats, k _ _ (.inr (.inr (.inr rfl))) s.hs, s.wa, s.wh, s.ah⟩, r, e⟩, fun i hi hb => ?_⟩
 have hil : i < H1.length := by rcases hb with rfl | rfl | rfl | rfl <;> omega
 rcases hi with e1 | e1 | e1 | e1
 ·exact d i (.inl e1) hb
 ·rcases f.w with e2 | e2
  ·exact d i (.inr (.inl (by rw [e1, e2]))) hb
  ·omega
 ·exact d i (.inr (.inr (.inl (by rw [e1, f.a])))) hb
 ·exact d i (.inr (.inr (.inr (by rw [e1, f.h])))) hb
theorem FrS.box {H1 H2 : ZH} {p : Nat} {σ σ' : Sg} {A : AS} {u : Nat} {n : Nat} (f : FrS p σ σ' H1 H2) (hlt : p < n ∧ σ.w < n ∧ σ.a < n ∧ σ.h < n) {i : Nat} {B : ZB} (hi : n ≤ i) (hb : H1[i]? = some B) : H2[i]? = some B := f.keep i B (by omega) (by omega) (by omega) (by omega) hb
def MvI (p q : Nat) (h' : ZH) : Prop := ∃ σ τ A u v, StO h' p σ A u ∧ StO h' q τ A v ∧ Dj p σ q τ
theorem neqI {n : Int} : binV .neq (.int .i64 n) (.int .i64 n) = some (.bool false) := by simp [binV]
theorem eqlI {n : Int} : binV .eql (.int .i64 n) (.int .i64 n) = some (.bool true) := by simp [binV]
def c_mvT2 : ACode := .seq (.ops [⟨(some 64), .mv (.tmp 7), none, true⟩,
 ⟨(some 65), .load (some 4) (.tmp 10), none, true⟩,
 ⟨(some 66), .load (some 2) (.tmp 11), none, true⟩,
 ⟨(some 67), .call (.av (.func 18 [])) [(.tmp 64), (.tmp 65), (.tmp 66)], none, true⟩,
 ⟨(some 63), .mv (.tmp 67), none, true⟩,
 ⟨(some 68), .extract 0 (.tmp 63), none, true⟩,
 ⟨(some 69), .extract 1 (.tmp 63), none, true⟩,
 ⟨(some 70), .extract 2 (.tmp 63), none, true⟩,
 ⟨(some 13), .zero [(.val (.int .i64 0)), (.val (.int .i64 0))], none, true⟩,
 ⟨(some 12), .mv (.tmp 68), none, true⟩,
 ⟨none, .store 2 (.tmp 13) (.tmp 69), none, true⟩,
 ⟨(some 14), .mv (.tmp 70), none, true⟩])
 (.seq (.ops [⟨(some 72), .mv (.tmp 8), none, true⟩,
 ⟨(some 73), .load (some 4) (.tmp 10), none, true⟩,
 ⟨(some 74), .load (some 2) (.tmp 11), none, true⟩,
 ⟨(some 75), .call (.av (.func 18 [])) [(.tmp 72), (.tmp 73), (.tmp 74)], none, true⟩,
 ⟨(some 71), .mv (.tmp 75), none, true⟩,
 ⟨(some 76), .extract 0 (.tmp 71), none, true⟩,
 ⟨(some 77), .extract 1 (.tmp 71), none, true⟩,
 ⟨(some 78), .extract 2 (.tmp 71), none, true⟩,
 ⟨(some 16), .zero [(.val (.int .i64 0)), (.val (.int .i64 0))], none, true⟩,
 ⟨(some 15), .mv (.tmp 76), none, true⟩,
 ⟨none, .store 2 (.tmp 16) (.tmp 77), none, true⟩,
 ⟨(some 17), .mv (.tmp 78), none, true⟩])
 (.seq (.ops [⟨(some 79), .mv (.tmp 12), none, true⟩,
 ⟨(some 80), .mv (.tmp 15), none, true⟩,
 ⟨(some 81), .bin .neq (.tmp 79) (.tmp 80), none, true⟩,
 ⟨(some 82), .mv (.tmp 81), none, true⟩,
 ⟨(some 83), .load (some 2) (.tmp 13), (some (82, false)), true⟩,
 ⟨(some 84), .load (some 2) (.tmp 16), (some (82, false)), true⟩,
 ⟨(some 85), .eqAgg true [0, 0] (.tmp 83) (.tmp 84), (some (82, false)), true⟩,
 ⟨(some 86), .pick (.tmp 82) (.av (.val (.bool true))) (.tmp 85), none, true⟩,
 ⟨(some 87), .mv (.tmp 86), none, true⟩,
 ⟨(some 88), .mv (.tmp 14), (some (87, false)), true⟩,
 ⟨(some 89), .mv (.tmp 17), (some (87, false)), true⟩,
 ⟨(some 90), .bin .neq (.tmp 88) (.tmp 89), (some (87, false)), true⟩,
 ⟨(some 91), .pick (.tmp 87) (.av (.val (.bool true))) (.tmp 90), none, true⟩])
 (.cond (.tmp 91)
 (.seq (.ops [⟨(some 6), .mv (.av (.val (.bool false))), none, true⟩])
 (.ret))
 (.skip))))
def c_mvT1 : ACode := .seq (.seq (.ops [⟨(some 51), .mv (.tmp 9), none, true⟩,
 ⟨(some 52), .mv (.tmp 2), none, true⟩,
 ⟨(some 53), .len (.tmp 52), none, true⟩,
 ⟨(some 54), .bin .lss (.tmp 51) (.tmp 53), none, true⟩,
 ⟨(some 55), .mv (.tmp 54), none, true⟩,
 ⟨(some 56), .mv (.tmp 2), (some (55, true)), true⟩,
 ⟨(some 57), .mv (.tmp 9), (some (55, true)), true⟩,
 ⟨(some 58), .indexAddr 1 (.tmp 56) (.tmp 57), (some (55, true)), true⟩,
 ⟨(some 59), .load none (.tmp 58), (some (55, true)), true⟩,
 ⟨(some 60), .pick (.tmp 55) (.tmp 59) (.av (.val (.bool false))), none, true⟩])
 (.cond (.tmp 60)
 (.ops [⟨(some 61), .mv (.tmp 7), none, true⟩,
 ⟨(some 62), .call (.av (.func 13 [])) [(.tmp 61)], none, true⟩])
 (.skip)))
 c_mvT2
def c_st_moves : ACode := .seq (.ops [⟨(some 6), .mv (.av (.val (.bool false))), none, true⟩])
 (.seq (.seq (.ops [⟨(some 18), .call (.av (.func 7 [])) [], none, true⟩,
 ⟨(some 19), .un .not (.tmp 18), none, true⟩])
 (.cond (.tmp 19)
 (.seq (.ops [⟨(some 6), .mv (.av (.val (.bool false))), none, true⟩])
 (.ret))
 (.skip)))
 (.seq (.ops [⟨(some 20), .call (.av (.func 8 [])) [], none, true⟩,
 ⟨(some 21), .call (.av (.func 8 [])) [], none, true⟩,
 ⟨(some 7), .mv (.tmp 20), none, true⟩,
 ⟨(some 8), .mv (.tmp 21), none, true⟩])
 (.seq (.seq (.ops [⟨(some 22), .mv (.tmp 7), none, true⟩,
 ⟨(some 23), .eqNil false 1 (.tmp 22), none, true⟩,
 ⟨(some 24), .mv (.tmp 23), none, true⟩,
 ⟨(some 25), .mv (.tmp 8), (some (24, false)), true⟩,
 ⟨(some 26), .eqNil false 1 (.tmp 25), (some (24, false)), true⟩,
 ⟨(some 27), .pick (.tmp 24) (.av (.val (.bool true))) (.tmp 26), none, true⟩,
 ⟨(some 28), .mv (.tmp 27), none, true⟩,
 ⟨(some 29), .call (.av (.func 7 [])) [], (some (28, false)), true⟩,
 ⟨(some 30), .un .not (.tmp 29), (some (28, false)), true⟩,
 ⟨(some 31), .pick (.tmp 28) (.av (.val (.bool true))) (.tmp 30), none, true⟩])
 (.cond (.tmp 31)
 (.seq (.ops [⟨(some 6), .mv (.av (.val (.bool false))), none, true⟩])
 (.ret))
 (.skip)))
 (.seq (.seq (.ops [⟨(some 32), .mv (.tmp 0), none, true⟩,
 ⟨(some 33), .mv (.tmp 0), none, true⟩,
 ⟨(some 34), .len (.tmp 33), none, true⟩,
 ⟨(some 35), .minmax false (.tmp 34) [(.av (.val (.int .i64 80)))], none, true⟩,
 ⟨(some 36), .slice 4 (.tmp 32) none (some (.tmp 35)) none, none, true⟩,
 ⟨(some 37), .len (.tmp 36), none, true⟩,
 ⟨(some 38), .mv (.av (.val (.int .i64 0))), none, true⟩])
 (rangeCode 0 1 39 38 37 92
 (.seq (.ops [⟨(some 40), .mv (.tmp 38), none, true⟩,
 ⟨(some 41), .indexAddr 4 (.tmp 36) (.tmp 38), none, true⟩,
 ⟨(some 42), .load (some 4) (.tmp 41), none, true⟩,
 ⟨(some 10), .zero [(.val (.int .i64 0)), (.val (.int .i64 0)), (.val (.int .i64 0)), (.val (.int .i64 0))], none, true⟩,
 ⟨(some 9), .mv (.tmp 40), none, true⟩,
 ⟨none, .store 4 (.tmp 10) (.tmp 42), none, true⟩])
 (.seq (.ops [⟨(some 11), .zero [(.val (.int .i64 0)), (.val (.int .i64 0))], none, true⟩])
 (.seq (.seq (.ops [⟨(some 43), .mv (.tmp 9), none, true⟩,
 ⟨(some 44), .mv (.tmp 1), none, true⟩,
 ⟨(some 45), .len (.tmp 44), none, true⟩,
 ⟨(some 46), .bin .lss (.tmp 43) (.tmp 45), none, true⟩])
 (.cond (.tmp 46)
 (.ops [⟨(some 47), .mv (.tmp 1), none, true⟩,
 ⟨(some 48), .mv (.tmp 9), none, true⟩,
 ⟨(some 49), .indexAddr 2 (.tmp 47) (.tmp 48), none, true⟩,
 ⟨(some 50), .load (some 2) (.tmp 49), none, true⟩,
 ⟨none, .store 2 (.tmp 11) (.tmp 50), none, true⟩])
 (.skip)))
 c_mvT1)))))
 (.seq (.ops [⟨(some 93), .mv (.tmp 7), none, true⟩,
 ⟨(some 94), .call (.av (.func 13 [])) [(.tmp 93)], none, true⟩])
 (.seq (.ops [⟨(some 95), .mv (.tmp 8), none, true⟩,
 ⟨(some 96), .call (.av (.func 13 [])) [(.tmp 95)], none, true⟩])
 (.seq (.ops [⟨(some 97), .mv (.tmp 7), none, true⟩,
 ⟨(some 98), .call (.av (.func 15 [])) [(.tmp 97)], none, true⟩,
 ⟨(some 99), .mv (.tmp 8), none, true⟩,
 ⟨(some 100), .call (.av (.func 15 [])) [(.tmp 99)], none, true⟩,
 ⟨(some 101), .bin .eql (.tmp 98) (.tmp 100), none, true⟩,
 ⟨(some 6), .mv (.tmp 101), none, true⟩])
 (.ret))))))))
theorem f_st_moves : cFunc Try.prog 5 = some ⟨102, c_st_moves, [.tmp 6]⟩ := by kernel_rfl

theorem Bk.not {p : Nat} {σ : Sg} {i : Nat} (h : ¬ Bk p σ i) : i ≠ p ∧ i ≠ σ.w ∧ i ≠ σ.a ∧ i ≠ σ.h := ⟨fun e => h (.inl e), fun e => h (.inr (.inl e)), fun e => h (.inr (.inr (.inl e))), fun e => h (.inr (.inr (.inr e)))⟩
theorem FrS.nb {H1 H2 : ZH} {p : Nat} {σ σ' : Sg} (f : FrS p σ σ' H1 H2) {i : Nat} {B : ZB} (h : ¬ Bk p σ i) (hb : H1[i]? = some B) : H2[i]? = some B := f.keep i B (Bk.not h).1 (Bk.not h).2.1 (Bk.not h).2.2.1 (Bk.not h).2.2.2 hb
theorem Bk.lt {H1 : ZH} {p : Nat} {σ : Sg} {A : AS} {u : Nat} (h : StO H1 p σ A u) {i : Nat} (hi : H1.length ≤ i) : ¬ Bk p σ i := fun hb => by
 have := h.lt
 rcases hb with e | e | e | e <;> omega
set_option maxHeartbeats 8000000 in
theorem smvT2_z {S : ZS} {h2 : ZH} {KK : AExit → ZS → ZH → Prop} {p q i j : Nat} {σ τ : Sg} {A : AS} {u v : Nat} {d1 d2 d3 d4 v1 v2 : Int} (hd : I64B d4) (hv : I64B v2)
  (hS : StO h2 p σ A u) (hT : StO h2 q τ A v) (hD : Dj p σ q τ) (hi : h2[i]? = some (.box [Z64 d1, Z64 d2, Z64 d3, Z64 d4])) (hj : h2[j]? = some (.box [Z64 v1, Z64 v2]))
  (ni : ¬ Bk p σ i ∧ ¬ Bk q τ i) (nj : ¬ Bk p σ j ∧ ¬ Bk q τ j) (h7 : S 7 = .ptr p 0) (h8 : S 8 = .ptr q 0) (h10 : S 10 = .ptr i 0) (h11 : S 11 = .ptr j 0)
  (hK : ∀ S' H', MvI p q H' → KK .normal S' H') : zW (XS [] true) (cFunc Try.prog) Gh.no (fun _ => true) c_mvT2 S h2 KK := by
 simp only [c_mvT2]
 have HS := Lib.hid hS
 have HT := Lib.hid hT
 have HD := Lib.hid hD
 have HK := Lib.hid hK
 have HDb := Lib.hid hd
 have HVb := Lib.hid hv
 have NI := Lib.hid ni
 have NJ := Lib.hid nj
 clear hS hT hD hK hd hv ni nj
 repeat' (first | (simp only [zmPack, zxPack, ne_eq, zfree, owners, Nat.reduceLT, zyPack, Nat.reduceBEq, chunk, setAt, reduceCtorEq, Nat.reduceEqDiff, reduceIte, implies_true, forall_const, Nat.reduceMul, Nat.reduceSub, Nat.reduceAdd, Nat.reduceLeDiff, h7, h8, h10, h11, hi, hj, *]) | (simp only [zgPack]) | (with_reducible apply And.intro) | (with_reducible intro _))
 refine sdeed_z HVb.out HDb.out HS.out (fun _ => rfl) fun H3 σ3 u3 q1 q2 => ?_
 have hi3 := q2.nb NI.out.1 hi
 have hj3 := q2.nb NJ.out.1 hj
 obtain ⟨t1, t2⟩ := HT.out.frame q2 HD.out
 have g0 : ∀ A Z, (H3 ++ (A :: Z))[H3.length]? = some A := fun A Z => hl_at0 A Z
 have s0 : ∀ A C Z, (H3 ++ (A :: Z)).set H3.length C = H3 ++ (C :: Z) := fun A C Z => hl_st0 A C Z
 have hi4 : ∀ X, (H3 ++ X)[i]? = some (.box [Z64 d1, Z64 d2, Z64 d3, Z64 d4]) := fun X => by rw [List.getElem?_append_left (lt_of_get hi3)]; exact hi3
 have hj4 : ∀ X, (H3 ++ X)[j]? = some (.box [Z64 v1, Z64 v2]) := fun X => by rw [List.getElem?_append_left (lt_of_get hj3)]; exact hj3
 have hil := lt_of_get hi3
 have hjl := lt_of_get hj3
 have hil2 : ∀ n, i < H3.length + n := fun n => by omega
 have hjl2 : ∀ n, j < H3.length + n := fun n => by omega
 have Q1 := Lib.hid q1
 have T1 := Lib.hid t1
 have T2 := Lib.hid t2
 obtain ⟨D, hD⟩ : ∃ D, D = deedA A d1 d2 d4 v1 v2 := ⟨_, rfl⟩
 rw [← hD] at Q1 ⊢
 obtain ⟨n0, ⟨x0, y0⟩, e0, A0⟩ := D
 have HDD := Lib.hid hD
 clear q1 q2 t1 t2 hi3 hj3 hD hi hj
 repeat' (first | (simp only [zmPack, zxPack, ne_eq, zfree, owners, Nat.reduceLT, zyPack, Nat.reduceBEq, chunk, setAt, reduceCtorEq, Nat.reduceEqDiff, reduceIte, implies_true, forall_const, Nat.reduceMul, Nat.reduceSub, Nat.reduceAdd, Nat.reduceLeDiff, h7, h8, h10, h11, hi4, hj4, g0, s0, *]) | (simp only [zgPack]) | (with_reducible apply And.intro) | (with_reducible intro _))
 refine sdeed_z HVb.out HDb.out (T1.out.ext _) (fun _ => rfl) fun H4 τ4 u4 q1 q2 => ?_
 obtain ⟨t1, t2⟩ := (Q1.out.ext [.box [Z64 x0, Z64 y0]]).frame q2 T2.out.symm
 have hb := q2.nb (Bk.lt T1.out (Nat.le_refl _)) (g0 (.box [Z64 x0, Z64 y0]) [])
 have g4 : ∀ A Z, (H4 ++ (A :: Z))[H4.length]? = some A := fun A Z => hl_at0 A Z
 have s4 : ∀ A C Z, (H4 ++ (A :: Z)).set H4.length C = H4 ++ (C :: Z) := fun A C Z => hl_st0 A C Z
 have hb4 : ∀ X, (H4 ++ X)[H3.length]? = some (.box [Z64 x0, Z64 y0]) := fun X => by rw [List.getElem?_append_left (lt_of_get hb)]; exact hb
 have hbl := lt_of_get hb
 have hbl2 : ∀ n, H3.length < H4.length + n := fun n => by omega
 rw [← HDD.out] at q1 ⊢
 have FN := fun X => (⟨_, _, _, _, _, t1.ext X, q1.ext X, t2.symm⟩ : MvI p q (H4 ++ X))
 have HFN := Lib.hid FN
 clear q1 q2 t1 t2 hb FN hi4 hj4 g0 s0 hil hjl hil2 hjl2
 have hsm : sameZ [0, 0] [Z64 x0, Z64 y0] [Z64 x0, Z64 y0] = some true := by simp [sameZ, sameV, neqI, eqlI]
 repeat' (first | (simp only [zmPack, zxPack, ne_eq, zfree, owners, Nat.reduceLT, zyPack, Nat.reduceBEq, chunk, setAt, reduceCtorEq, Nat.reduceEqDiff, reduceIte, implies_true, forall_const, Nat.reduceMul, Nat.reduceSub, Nat.reduceAdd, Nat.reduceLeDiff, g4, s4, hb4, neqI, hbl, hbl2, hsm, *]) | (simp only [zgPack]) | (with_reducible apply And.intro) | (with_reducible intro _))
 all_goals exact HK.out _ _ (HFN.out _)
theorem smvT1_z {S : ZS} {h2 : ZH} {KK : AExit → ZS → ZH → Prop} {p q i j k : Nat} {ex3 : Bool} {when_ : List Bool} {σ τ : Sg} {A : AS} {u v : Nat} {d1 d2 d3 d4 v1 v2 : Int} (hd : I64B d4) (hv : I64B v2)
  (hS : StO h2 p σ A u) (hT : StO h2 q τ A v) (hD : Dj p σ q τ) (hi : h2[i]? = some (.box [Z64 d1, Z64 d2, Z64 d3, Z64 d4])) (hj : h2[j]? = some (.box [Z64 v1, Z64 v2]))
  (ni : ¬ Bk p σ i ∧ ¬ Bk q τ i) (nj : ¬ Bk p σ j ∧ ¬ Bk q τ j) (h2s : S 2 = .fz 1 ex3 (when_.map eB)) (h7 : S 7 = .ptr p 0) (h8 : S 8 = .ptr q 0) (h9 : S 9 = Z64 (k : Int)) (h10 : S 10 = .ptr i 0) (h11 : S 11 = .ptr j 0)
  (hK : ∀ S' H', MvI p q H' → KK .normal S' H') : zW (XS [] true) (cFunc Try.prog) Gh.no (fun _ => true) c_mvT1 S h2 KK := by
 simp only [c_mvT1]
 have HS := Lib.hid hS
 have HT := Lib.hid hT
 have HD := Lib.hid hD
 have HI := Lib.hid hi
 have HJ := Lib.hid hj
 have HK := Lib.hid hK
 have HDb := Lib.hid hd
 have HVb := Lib.hid hv
 have NI := Lib.hid ni
 have NJ := Lib.hid nj
 clear hS hT hD hK hd hv ni nj hi hj
 by_cases c : k < when_.length
 ·have c1 : (k : Int) < (when_.length : Int) := by omega
  obtain ⟨b, hb⟩ : ∃ b, when_[k]? = some b := ⟨_, List.getElem?_eq_getElem c⟩
  cases b with
  | true =>
   repeat' (first | (simp only [zmPack, zxPack, ne_eq, zfree, owners, Nat.reduceLT, zyPack, Nat.reduceBEq, chunk, setAt, reduceCtorEq, Nat.reduceEqDiff, reduceIte, implies_true, forall_const, Nat.reduceMul, Nat.reduceSub, Nat.reduceAdd, Nat.reduceLeDiff, h2s, h7, h8, h9, h10, h11, c, c1, hb, *]) | (simp only [zgPack]) | (with_reducible apply And.intro) | (with_reducible intro _))
   refine sCollect_z HS.out (fun _ => rfl) fun H3 σ3 q1 q2 q3 => ?_
   obtain ⟨t1, t2⟩ := HT.out.frame q2 HD.out
   have hi3 := q2.nb NI.out.1 HI.out
   have hj3 := q2.nb NJ.out.1 HJ.out
   have ni3 : ¬ Bk p σ3 i := fun hb => by
    have hl := lt_of_get HI.out
    rcases hb with e | e | e | e
    ·exact NI.out.1 (.inl e)
    ·rcases q2.w with w | w
     ·exact NI.out.1 (.inr (.inl (by rw [e, w])))
     ·omega
    ·exact NI.out.1 (.inr (.inr (.inl (by rw [e, q2.a]))))
    ·exact NI.out.1 (.inr (.inr (.inr (by rw [e, q2.h]))))
   have nj3 : ¬ Bk p σ3 j := fun hb => by
    have hl := lt_of_get HJ.out
    rcases hb with e | e | e | e
    ·exact NJ.out.1 (.inl e)
    ·rcases q2.w with w | w
     ·exact NJ.out.1 (.inr (.inl (by rw [e, w])))
     ·omega
    ·exact NJ.out.1 (.inr (.inr (.inl (by rw [e, q2.a]))))
    ·exact NJ.out.1 (.inr (.inr (.inr (by rw [e, q2.h]))))
   have Q1 := Lib.hid q1
   have T1 := Lib.hid t1
   have T2 := Lib.hid t2
   have I3 := Lib.hid hi3
   have J3 := Lib.hid hj3
   have N3 := Lib.hid ni3
   have M3 := Lib.hid nj3
   clear q1 q2 q3 t1 t2 hi3 hj3 ni3 nj3
   repeat' (first | (simp only [zmPack, zxPack, ne_eq, zfree, owners, Nat.reduceLT, zyPack, Nat.reduceBEq, chunk, setAt, reduceCtorEq, Nat.reduceEqDiff, reduceIte, implies_true, forall_const, Nat.reduceMul, Nat.reduceSub, Nat.reduceAdd, Nat.reduceLeDiff, *]) | (simp only [zgPack]) | (with_reducible apply And.intro) | (with_reducible intro _))
   exact smvT2_z HDb.out HVb.out Q1.out T1.out T2.out I3.out J3.out ⟨N3.out, NI.out.2⟩ ⟨M3.out, NJ.out.2⟩ (by simp [zupd, h7]) (by simp [zupd, h8]) (by simp [zupd, h10]) (by simp [zupd, h11]) HK.out
  | false =>
   repeat' (first | (simp only [zmPack, zxPack, ne_eq, zfree, owners, Nat.reduceLT, zyPack, Nat.reduceBEq, chunk, setAt, reduceCtorEq, Nat.reduceEqDiff, reduceIte, implies_true, forall_const, Nat.reduceMul, Nat.reduceSub, Nat.reduceAdd, Nat.reduceLeDiff, h2s, h7, h8, h9, h10, h11, c, c1, hb, *]) | (simp only [zgPack]) | (with_reducible apply And.intro) | (with_reducible intro _))
   exact smvT2_z HDb.out HVb.out HS.out HT.out HD.out HI.out HJ.out NI.out NJ.out (by simp [zupd, h7]) (by simp [zupd, h8]) (by simp [zupd, h10]) (by simp [zupd, h11]) HK.out
 ·have c1 : ¬ ((k : Int) < (when_.length : Int)) := by omega
  clear c
  repeat' (first | (simp only [zmPack, zxPack, ne_eq, zfree, owners, Nat.reduceLT, zyPack, Nat.reduceBEq, chunk, setAt, reduceCtorEq, Nat.reduceEqDiff, reduceIte, implies_true, forall_const, Nat.reduceMul, Nat.reduceSub, Nat.reduceAdd, Nat.reduceLeDiff, h2s, h7, h8, h9, h10, h11, c1, *]) | (simp only [zgPack]) | (with_reducible apply And.intro) | (with_reducible intro _))
  exact smvT2_z HDb.out HVb.out HS.out HT.out HD.out HI.out HJ.out NI.out NJ.out (by simp [zupd, h7]) (by simp [zupd, h8]) (by simp [zupd, h10]) (by simp [zupd, h11]) HK.out
set_option maxHeartbeats 16000000 in
theorem storemoves_z {ex ex' ex3 : Bool} {l : List Dd} {vals : List (Int × Int)} {when_ : List Bool} (hl : ∀ d ∈ l, I64B d.2.2.2) (hv : ∀ x ∈ vals, I64B x.2) :
  ZC (XS [] true) (cFunc Try.prog) 5 [.fz 4 ex (l.map eD), .fz 2 ex' (vals.map eP), .fz 1 ex3 (when_.map eB)] (fun _ => true) [] fun z _ => z = ZBo true := by
 refine ZC.enter Gh.no (boxX_none (by decide)) f_st_moves (by simp) ?_
 simp only [c_st_moves]
 have fin : ∀ X, Fin [] (ZBo true) X (fun z _ => z = ZBo true) := fun X => Fin.trunc (Mods.ext [] X) rfl rfl
 have FI := Lib.hid fin
 have HV := Lib.hid hv
 have HLb := Lib.hid hl
 clear fin hl hv
 repeat' (first | (simp only [zmPack, zxPack, ne_eq, zfree, owners, Nat.reduceLT, zyPack, Nat.reduceBEq, chunk, setAt, reduceCtorEq, Nat.reduceEqDiff, reduceIte, implies_true, forall_const, Nat.reduceMul, Nat.reduceSub, Nat.reduceAdd, Nat.reduceLeDiff, *]) | (simp only [zgPack]) | (with_reducible apply And.intro) | (with_reducible intro _))
 refine stored_z rfl (fun _ => rfl) ?_
 repeat' (first | (simp only [zmPack, zxPack, ne_eq, zfree, owners, Nat.reduceLT, zyPack, Nat.reduceBEq, chunk, setAt, reduceCtorEq, Nat.reduceEqDiff, reduceIte, implies_true, forall_const, Nat.reduceMul, Nat.reduceSub, Nat.reduceAdd, Nat.reduceLeDiff, *]) | (simp only [zgPack]) | (with_reducible apply And.intro) | (with_reducible intro _))
 refine snew_z rfl fun H1 p σ h1 h2 h3 h4 => ?_
 have S1 := Lib.hid h1
 clear h1 h2 h3 h4
 repeat' (first | (simp only [zmPack, zxPack, ne_eq, zfree, owners, Nat.reduceLT, zyPack, Nat.reduceBEq, chunk, setAt, reduceCtorEq, Nat.reduceEqDiff, reduceIte, implies_true, forall_const, Nat.reduceMul, Nat.reduceSub, Nat.reduceAdd, Nat.reduceLeDiff, *]) | (simp only [zgPack]) | (with_reducible apply And.intro) | (with_reducible intro _))
 refine snew_z rfl fun H2 q τ h1 h2 h3 h4 => ?_
 have hlt1 := S1.out.lt
 have hI : MvI p q H2 := by
  refine ⟨σ, τ, ⟨[], [], []⟩, 0, 0, ?_, h1, fun i hi hj => ?_⟩
  ·obtain ⟨F, AT, s, r, e⟩ := S1.out
   exact ⟨F, AT, ⟨h3 _ _ s.box, h3 _ _ s.ws, h3 _ _ s.ats, h3 _ _ s.hs, s.wa, s.wh, s.ah⟩, r, e⟩
  ·rcases hi with rfl | rfl | rfl | rfl <;> rcases hj with e | e | e | e <;> omega
 have HI := Lib.hid hI
 obtain ⟨ex2, hct⟩ := dd_cut (e := eD) (k := 4) (ex := ex) (l := l) (n := min l.length 80) (Nat.min_le_left _ _)
 obtain ⟨ds, hds⟩ : ∃ ds, ds = l.take (min l.length 80) := ⟨_, rfl⟩
 have hlen : ds.length ≤ 80 := by rw [hds, List.length_take]; omega
 have hdb : ∀ d ∈ ds, I64B d.2.2.2 := fun d hd => HLb.out d (by rw [hds] at hd; exact List.mem_of_mem_take hd)
 rw [← hds] at hct
 have hbm : bestZ false (Z64 (l.length : Nat)) [Z64 (80 : Int)] = some (Z64 ((min l.length 80 : Nat) : Int)) := best_min (m := 80)
 have HLEN := Lib.hid hlen
 have HDB := Lib.hid hdb
 clear h1 h2 h3 h4 hI hlt1 hds hlen hdb
 repeat' (first | (simp only [zmPack, zxPack, ne_eq, zfree, owners, Nat.reduceLT, zyPack, Nat.reduceBEq, chunk, setAt, reduceCtorEq, Nat.reduceEqDiff, reduceIte, implies_true, forall_const, Nat.reduceMul, Nat.reduceSub, Nat.reduceAdd, Nat.reduceLeDiff, eqNil_ptr, *]) | (simp only [zgPack]) | (with_reducible apply And.intro) | (with_reducible intro _))
 refine stored_z rfl (fun _ => rfl) ?_
 repeat' (first | (simp only [zmPack, zxPack, ne_eq, zfree, owners, Nat.reduceLT, zyPack, Nat.reduceBEq, chunk, setAt, reduceCtorEq, Nat.reduceEqDiff, reduceIte, implies_true, forall_const, Nat.reduceMul, Nat.reduceSub, Nat.reduceAdd, Nat.reduceLeDiff, hbm, hct, hl_num0, hl_num1, natZ_nat, Option.bind_some, Option.isSome_none, *]) | (simp only [zgPack]) | (with_reducible apply And.intro) | (with_reducible intro _))
 clear hct hbm
 have hdl : ds.length < 9223372036854775807 := by have := HLEN.out; omega
 refine zW_forK [(1, .fz 2 ex' (vals.map eP)), (2, .fz 1 ex3 (when_.map eB)), (7, .ptr p 0), (8, .ptr q 0), (36, .fz 4 ex2 (ds.map eD))] ds.length (fun k s' h' => MvI p q h') (by omega) ⟨rfl, rfl, rfl, rfl, rfl, rfl⟩ rfl rfl (by repeat' (first | exact trivial | (refine ⟨rfl, ?_⟩) | (refine ⟨by simp only [zupd_at, Nat.reduceEqDiff, reduceIte]; assumption, ?_⟩))) rfl rfl (by decide) HI.out ?_ ?_
 ·rintro k s' h' hk hMI hi hl ⟨f1, f2, f7, f8, f36, -⟩
  have hx : ds[k]? = some ds[k] := List.getElem?_eq_getElem hk
  have hdb := HDB.out _ (List.getElem_mem hk)
  have hvb := valAt_b HV.out k
  obtain ⟨d, hd⟩ : ∃ d, d = ds[k] := ⟨_, rfl⟩
  rw [← hd] at hx hdb
  obtain ⟨d1, d2, d3, d4⟩ := d
  have HMI := Lib.hid hMI
  have HDb := Lib.hid hdb
  have g0 : ∀ A Z, (h' ++ (A :: Z))[h'.length]? = some A := fun A Z => hl_at0 A Z
  have s0 : ∀ A C Z, (h' ++ (A :: Z)).set h'.length C = h' ++ (C :: Z) := fun A C Z => hl_st0 A C Z
  have g1 : ∀ A B Z, (h' ++ (A :: B :: Z))[h'.length + 1]? = some B := fun A B Z => hl_at1 A B Z
  have s1 : ∀ A B C Z, (h' ++ (A :: B :: Z)).set (h'.length + 1) C = h' ++ (A :: C :: Z) := fun A B C Z => hl_st1 A B C Z
  obtain ⟨σ1, τ1, A1, u1, u2, hS, hT, hD⟩ := HMI.out
  have HS := Lib.hid hS
  have HT := Lib.hid hT
  have HD := Lib.hid hD
  have hn0 : ∀ i, h'.length ≤ i → ¬ Bk p σ1 i ∧ ¬ Bk q τ1 i := fun i hi => ⟨Bk.lt hS hi, Bk.lt hT hi⟩
  have HN := Lib.hid hn0
  obtain ⟨v, hv⟩ : ∃ v, v = valAt vals k := ⟨_, rfl⟩
  have hvx : k < vals.length → vals[k]? = some v := fun c => by rw [hv]; unfold valAt; rw [List.getD_eq_getElem?_getD, List.getElem?_eq_getElem c]; rfl
  rw [← hv] at hvb
  obtain ⟨v1, v2⟩ := v
  have HVb := Lib.hid hvb
  have HVX := Lib.hid hvx
  clear hd hdb hvb hMI hv hvx hS hT hD hn0
  by_cases c : k < vals.length
  ·have hvx := HVX.out c
   have c1 : (k : Int) < (vals.length : Int) := by omega
   repeat' (first | (simp only [zmPack, zxPack, ne_eq, zfree, owners, Nat.reduceLT, zyPack, Nat.reduceBEq, chunk, setAt, reduceCtorEq, Nat.reduceEqDiff, reduceIte, implies_true, forall_const, Nat.reduceMul, Nat.reduceSub, Nat.reduceAdd, Nat.reduceLeDiff, hx, g0, g1, s0, s1, c1, hvx, c, *]) | (simp only [zgPack]) | (with_reducible apply And.intro) | (with_reducible intro _))
   refine smvT1_z (k := k) (ex3 := ex3) (when_ := when_) (σ := σ1) (τ := τ1) (A := A1) (u := u1) (v := u2) (i := h'.length) (j := h'.length + 1) HDb.out HVb.out (HS.out.ext _) (HT.out.ext _) HD.out (g0 _ _) (g1 _ _ _) (HN.out _ (Nat.le_refl _)) (HN.out _ (by omega)) (by simp [zupd, f2]) (by simp [zupd, f7]) (by simp [zupd, f8]) (by simp [zupd]) (by simp [zupd]) (by simp [zupd]) fun S2 H2 hM => ?_
   exact hM
  ·have c1 : ¬ ((k : Int) < (vals.length : Int)) := by omega
   clear c
   repeat' (first | (simp only [zmPack, zxPack, ne_eq, zfree, owners, Nat.reduceLT, zyPack, Nat.reduceBEq, chunk, setAt, reduceCtorEq, Nat.reduceEqDiff, reduceIte, implies_true, forall_const, Nat.reduceMul, Nat.reduceSub, Nat.reduceAdd, Nat.reduceLeDiff, hx, g0, g1, s0, s1, c1, *]) | (simp only [zgPack]) | (with_reducible apply And.intro) | (with_reducible intro _))
   refine smvT1_z (k := k) (ex3 := ex3) (when_ := when_) (σ := σ1) (τ := τ1) (A := A1) (u := u1) (v := u2) (i := h'.length) (j := h'.length + 1) HDb.out (v1 := 0) (v2 := 0) (by simp [I64B]) (HS.out.ext _) (HT.out.ext _) HD.out (g0 _ _) (g1 _ _ _) (HN.out _ (Nat.le_refl _)) (HN.out _ (by omega)) (by simp [zupd, f2]) (by simp [zupd, f7]) (by simp [zupd, f8]) (by simp [zupd]) (by simp [zupd]) (by simp [zupd]) fun S2 H2 hM => ?_
   exact hM
 ·rintro s' h' ⟨σ1, τ1, A1, u1, u2, hS, hT, hD⟩ ⟨f1, f2, f7, f8, f36, -⟩
  have HS := Lib.hid hS
  have HT := Lib.hid hT
  have HD := Lib.hid hD
  clear hS hT hD
  repeat' (first | (simp only [zmPack, zxPack, ne_eq, zfree, owners, Nat.reduceLT, zyPack, Nat.reduceBEq, chunk, setAt, reduceCtorEq, Nat.reduceEqDiff, reduceIte, implies_true, forall_const, Nat.reduceMul, Nat.reduceSub, Nat.reduceAdd, Nat.reduceLeDiff, *]) | (simp only [zgPack]) | (with_reducible apply And.intro) | (with_reducible intro _))
  refine sCollect_z HS.out (fun _ => rfl) fun H3 σ2 q1 q2 q3 => ?_
  obtain ⟨t1, t2⟩ := HT.out.frame q2 HD.out
  have Q1 := Lib.hid q1
  have T1 := Lib.hid t1
  have T2 := Lib.hid t2
  clear q1 q2 q3 t1 t2
  repeat' (first | (simp only [zmPack, zxPack, ne_eq, zfree, owners, Nat.reduceLT, zyPack, Nat.reduceBEq, chunk, setAt, reduceCtorEq, Nat.reduceEqDiff, reduceIte, implies_true, forall_const, Nat.reduceMul, Nat.reduceSub, Nat.reduceAdd, Nat.reduceLeDiff, *]) | (simp only [zgPack]) | (with_reducible apply And.intro) | (with_reducible intro _))
  refine sCollect_z T1.out (fun _ => rfl) fun H4 τ2 q1 q2 q3 => ?_
  obtain ⟨t1, t2⟩ := Q1.out.frame q2 T2.out.symm
  have R1 := Lib.hid q1
  have R2 := Lib.hid t1
  clear q1 q2 q3 t1 t2
  repeat' (first | (simp only [zmPack, zxPack, ne_eq, zfree, owners, Nat.reduceLT, zyPack, Nat.reduceBEq, chunk, setAt, reduceCtorEq, Nat.reduceEqDiff, reduceIte, implies_true, forall_const, Nat.reduceMul, Nat.reduceSub, Nat.reduceAdd, Nat.reduceLeDiff, *]) | (simp only [zgPack]) | (with_reducible apply And.intro) | (with_reducible intro _))
  refine sused_z R2.out ?_
  repeat' (first | (simp only [zmPack, zxPack, ne_eq, zfree, owners, Nat.reduceLT, zyPack, Nat.reduceBEq, chunk, setAt, reduceCtorEq, Nat.reduceEqDiff, reduceIte, implies_true, forall_const, Nat.reduceMul, Nat.reduceSub, Nat.reduceAdd, Nat.reduceLeDiff, *]) | (simp only [zgPack]) | (with_reducible apply And.intro) | (with_reducible intro _))
  refine sused_z R1.out ?_
  have fin := FI.out
  repeat' (first | (simp only [zmPack, zxPack, ne_eq, zfree, owners, Nat.reduceLT, zyPack, Nat.reduceBEq, chunk, setAt, reduceCtorEq, Nat.reduceEqDiff, reduceIte, implies_true, forall_const, Nat.reduceMul, Nat.reduceSub, Nat.reduceAdd, Nat.reduceLeDiff, eqlI, *]) | (simp only [zgPack]) | (with_reducible apply And.intro) | (with_reducible intro _))
end Go.Proofs.Ytiiefcbiemohhaa

namespace Go.Proofs.Ytiiefcbiemohhaa
open Go Go.RowKit Go.ChangeShapes Go.WideShapes Go.ChangeAt
set_option linter.unusedVariables false
set_option linter.unusedSimpArgs false
set_option maxRecDepth 100000 in
theorem storemoves_lifted (os : Os) (started : os.Started) (H : Type) (enc : TypeId × Value → H) :
  ReturnsInHanded {} Try.checked os 5 .any (Rows.storeMovesSpec.pre6 enc Try.prog Try.f5 Rows.storeMovesRow.domain false) (Rows.storeMovesSpec.post enc Try.prog Try.f5 false true false false) := by
 refine law_lifted (C := Try.checked) 12 [(false, .slice 32 (.prod (.int .i64) (.prod (.int .i64) (.prod (.int .i64) (.int .i64))))), (false, .slice 16 (.prod (.int .i64) (.int .i64))), (false, .slice 1 .bool)] 4 Try.own Try.laidOut started (by kernel_rfl) Try.func5
  (ChangeSpec.witness6 (enc := enc) (C := Try.checked) false ⟨#[], #[.slice none 0 0, .slice none 0 0, .slice none 0 0], []⟩ 8 (by kernel_rfl) (by kernel_rfl) (by kernel_rfl) (by kernel_rfl))
  rfl (by kernel_rfl) Try.underlying4 (fun ds h => ?_) (by kernel_rfl) (by kernel_rfl) (fun W args h => ?_)
 ·match ds, h with
  | [d0, d1, d2], _ => rfl
 ·refine zm_walk_nd (by kernel_rfl) (boxX_ok (constX_ok (n := 1) (F := cFunc Try.prog) (by kernel_rfl) (fun f af h => h) [] (by intro p hp; simp at hp))) (fun f af h => h) rfl (fun zl hz => ?_) W args h
  obtain ⟨l, _, rfl, hl, _, vals, _, rfl, hv, _, w, _, rfl, _, _, rfl⟩ := hz
  exact storemoves_z (l := l) (vals := vals) (when_ := w) (dd_bound hl) (vv_bound hv)
theorem storemoves_holds : Rows.StoreMovesSaid :=
 OpenClaim.holds_of_wide 5 Try.f5 rfl rfl rfl rfl rfl rfl rfl ⟨rfl, rfl, rfl, rfl, rfl⟩ rfl rfl rfl rfl rfl (by kernel_rfl) Try.func5 (by kernel_rfl) (of_decide_eq_true (by kernel_rfl)) (by unfold Func.isWrapper; first | (rw [if_pos (by decide +kernel)]; kernel_rfl) | (rw [if_neg (by decide +kernel)]; exact ⟨rfl, rfl⟩))
  (fun os started H enc _ => storemoves_lifted os started H enc)
end Go.Proofs.Ytiiefcbiemohhaa
