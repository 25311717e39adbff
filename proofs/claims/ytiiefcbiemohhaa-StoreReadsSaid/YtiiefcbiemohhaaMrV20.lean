/-
  Proved: the law StoreReads answers true, whatever the input: a value that was put into a cell, or set in it, is read from there, also behind a collection.
-/
import Derived.Test.YtiiefcbiemohhaaMrV19
namespace Go.Proofs.Ytiiefcbiemohhaa
open Go Go.RowKit
set_option linter.unusedVariables false
set_option linter.unusedSimpArgs false
section
variable {tb : List (FuncId × Bool)} {nd : Bool} {L : Nat → Bool} {H : ZH} {K : ZV → ZH → Prop}
theorem sodd_z {u : Int} (h0 : 0 ≤ u ∧ u < 18446744073709551616) (hK : K (ZBo (oddB u)) H) : ZC (XS tb nd) (cFunc Try.prog) 20 [.val (.int .u64 u)] L H K := by
 refine ZC.enter Gh.no (boxX_none (by decide)) f_st_odd (by simp) ?_
 simp only [c_st_odd]
 have h1 : binV .shr (.int .u64 u) (.int .u64 52) = some (.int .u64 (u / 4503599627370496)) := by
  simp [binV, IntKind.bits]
  rw [Int.fdiv_eq_ediv_of_nonneg _ (by omega)]
 have h2 : binV .rem (.int .u64 (u / 4503599627370496)) (.int .u64 2048) = some (.int .u64 (u / 4503599627370496 % 2048)) := by
  simp [binV]
  rw [Int.tmod_eq_emod_of_nonneg (by omega)]
 have h3 : binV .shl (.int .u64 u) (.int .u64 12) = some (.int .u64 (u % 4503599627370496 * 4096)) := by
  simp [binV, IntKind.bits]
  simp only [IntKind.wrap_u64]; omega
 have h4 : ∀ x y : Int, binV .eql (.int .u64 x) (.int .u64 y) = some (.bool (decide (x = y))) := fun x y => by simp [binV]
 have h5 : ∀ x y : Int, binV .neq (.int .u64 x) (.int .u64 y) = some (.bool (!decide (x = y))) := fun x y => by simp [binV]
 unfold oddB at hK
 by_cases c1 : u / 4503599627370496 % 2048 = 2047
 ·by_cases c2 : u % 4503599627370496 = 0
  ·have e : u % 4503599627370496 * 4096 = 0 := by omega
   rw [e] at h3
   rw [show decide (u / 4503599627370496 % 2048 = 2047 ∧ u % 4503599627370496 ≠ 0) = false by simp [c2]] at hK
   rw [c1] at h2
   have fin := Fin.keep (H0 := H) hK
   clear hK c1 c2 e
   repeat' (first | (simp only [zmPack, zxPack, ne_eq, zfree, owners, Nat.reduceLT, zyPack, Nat.reduceBEq, chunk, setAt, reduceCtorEq, Nat.reduceEqDiff, reduceIte, implies_true, forall_const, Nat.reduceMul, Nat.reduceSub, Nat.reduceAdd, Nat.reduceLeDiff, h1, h2, h3, h4, h5, *]) | (simp only [zgPack]) | (with_reducible apply And.intro) | (with_reducible intro _))
  ·have e : ¬ u % 4503599627370496 * 4096 = 0 := by omega
   rw [show decide (u / 4503599627370496 % 2048 = 2047 ∧ u % 4503599627370496 ≠ 0) = true by simp [c1, c2]] at hK
   rw [c1] at h2
   have fin := Fin.keep (H0 := H) hK
   clear hK c1 c2
   repeat' (first | (simp only [zmPack, zxPack, ne_eq, zfree, owners, Nat.reduceLT, zyPack, Nat.reduceBEq, chunk, setAt, reduceCtorEq, Nat.reduceEqDiff, reduceIte, implies_true, forall_const, Nat.reduceMul, Nat.reduceSub, Nat.reduceAdd, Nat.reduceLeDiff, h1, h2, h3, h4, h5, e, *]) | (simp only [zgPack]) | (with_reducible apply And.intro) | (with_reducible intro _))
 ·rw [show decide (u / 4503599627370496 % 2048 = 2047 ∧ u % 4503599627370496 ≠ 0) = false by simp [c1]] at hK
  have fin := Fin.keep (H0 := H) hK
  clear hK
  repeat' (first | (simp only [zmPack, zxPack, ne_eq, zfree, owners, Nat.reduceLT, zyPack, Nat.reduceBEq, chunk, setAt, reduceCtorEq, Nat.reduceEqDiff, reduceIte, implies_true, forall_const, Nat.reduceMul, Nat.reduceSub, Nat.reduceAdd, Nat.reduceLeDiff, h1, h2, h3, h4, h5, c1, *]) | (simp only [zgPack]) | (with_reducible apply And.intro) | (with_reducible intro _))
end
theorem unNum_b (w : Int) : I64B (unNum w) := by
 have h1 : ∀ x, I64B (wrap64 x) := fun x => by unfold I64B wrap64; omega
 unfold unNum
 split
 ·split
  ·unfold unN
   split
   ·exact h1 _
   ·unfold I64B; omega
  ·exact h1 _
 ·unfold I64B; omega
variable {A : AS}
theorem boxed_back {n : Nat} {w : Int} (hA : AOk A) (hr : Rch A n) (hw : w ∈ A.val n) : boxedA A (unKind w) (unNum w) = 0 ∧ boxW (unKind w) (unNum w) = w ∧ unE w = 0 := by
 obtain ⟨v1, v2, v3⟩ := hA.vr n hr w hw
 have hun : unE w = 0 := by
  unfold kindI at v2
  by_cases q : unE w = 0
  ·exact q
  ·rw [if_neg q] at v2; omega
 obtain ⟨q1, q2⟩ := word_back w v1.1 v1.2 hun
 refine ⟨?_, q2, hun⟩
 unfold boxedA
 rw [if_neg (by rw [q1]; simp)]
 split
 ·rfl
 ·rename_i h5
  have h5 : unKind w = 5 := by omega
  have hp : placeB w = true := by simp [placeB, hun, h5]
  obtain ⟨z1, z2⟩ := v3 hp
  obtain ⟨m, hm⟩ := Int.eq_ofNat_of_zero_le z1
  rw [hm]
  exact namedA_rch hA (.val hr hw hp hm)
def c_rdT : ACode := .seq (.ops [⟨(some 83), .mv (.tmp 9), none, true⟩,
 ⟨(some 84), .mv (.tmp 13), none, true⟩,
 ⟨(some 85), .call (.av (.func 19 [])) [(.tmp 83), (.tmp 84), (.av (.val (.int .i64 1)))], none, true⟩,
 ⟨(some 82), .mv (.tmp 85), none, true⟩,
 ⟨(some 86), .extract 0 (.tmp 82), none, true⟩,
 ⟨(some 87), .extract 1 (.tmp 82), none, true⟩,
 ⟨(some 16), .zero [(.val (.int .i64 0)), (.val (.int .i64 0))], none, true⟩,
 ⟨none, .store 2 (.tmp 16) (.tmp 86), none, true⟩,
 ⟨(some 17), .mv (.tmp 87), none, true⟩])
 (.seq (.seq (.ops [⟨(some 88), .mv (.tmp 9), none, true⟩,
 ⟨(some 89), .mv (.tmp 13), none, true⟩,
 ⟨(some 90), .mv (.tmp 15), none, true⟩,
 ⟨(some 91), .load (some 2) (.tmp 16), none, true⟩,
 ⟨(some 92), .call (.av (.func 16 [])) [(.tmp 88), (.tmp 89), (.tmp 90), (.tmp 91)], none, true⟩,
 ⟨(some 93), .bin .neq (.tmp 92) (.av (.val (.int .i64 0))), none, true⟩])
 (.cond (.tmp 93)
 (.seq (.ops [⟨(some 8), .mv (.av (.val (.bool false))), none, true⟩])
 (.ret))
 (.skip)))
 (.seq (.ops [⟨(some 95), .mv (.tmp 9), none, true⟩,
 ⟨(some 96), .mv (.tmp 13), none, true⟩,
 ⟨(some 97), .mv (.tmp 15), none, true⟩,
 ⟨(some 98), .call (.av (.func 19 [])) [(.tmp 95), (.tmp 96), (.tmp 97)], none, true⟩,
 ⟨(some 94), .mv (.tmp 98), none, true⟩,
 ⟨(some 99), .extract 0 (.tmp 94), none, true⟩,
 ⟨(some 100), .extract 1 (.tmp 94), none, true⟩,
 ⟨(some 18), .zero [(.val (.int .i64 0)), (.val (.int .i64 0))], none, true⟩,
 ⟨none, .store 2 (.tmp 18) (.tmp 99), none, true⟩,
 ⟨(some 19), .mv (.tmp 100), none, true⟩])
 (.seq (.ops [⟨(some 101), .fieldAddr 0 (.tmp 6), none, true⟩,
 ⟨(some 102), .load none (.tmp 101), none, true⟩,
 ⟨(some 103), .bin .eql (.tmp 102) (.av (.val (.int .i64 3))), none, true⟩,
 ⟨(some 104), .mv (.tmp 103), none, true⟩,
 ⟨(some 105), .fieldAddr 1 (.tmp 6), (some (104, true)), true⟩,
 ⟨(some 106), .load none (.tmp 105), (some (104, true)), true⟩,
 ⟨(some 107), .conv .u64 (.tmp 106), (some (104, true)), true⟩,
 ⟨(some 108), .call (.av (.func 20 [])) [(.tmp 107)], (some (104, true)), true⟩,
 ⟨(some 109), .pick (.tmp 104) (.tmp 108) (.av (.val (.bool false))), none, true⟩,
 ⟨(some 20), .mv (.tmp 109), none, true⟩])
 (.seq (.ops [⟨(some 111), .mv (.tmp 9), none, true⟩,
 ⟨(some 112), .mv (.tmp 13), none, true⟩,
 ⟨(some 113), .call (.av (.func 14 [])) [(.tmp 111), (.tmp 112)], none, true⟩,
 ⟨(some 110), .mv (.tmp 113), none, true⟩,
 ⟨(some 114), .extract 0 (.tmp 110), none, true⟩,
 ⟨(some 115), .extract 1 (.tmp 110), none, true⟩,
 ⟨(some 21), .mv (.tmp 114), none, true⟩,
 ⟨(some 22), .mv (.tmp 115), none, true⟩])
 (.seq (.ops [⟨(some 116), .mv (.tmp 17), none, true⟩,
 ⟨(some 117), .bin .eql (.tmp 116) (.av (.val (.int .i64 0))), none, true⟩,
 ⟨(some 118), .mv (.tmp 117), none, true⟩,
 ⟨(some 119), .mv (.tmp 19), (some (118, true)), true⟩,
 ⟨(some 120), .bin .eql (.tmp 119) (.av (.val (.int .i64 0))), (some (118, true)), true⟩,
 ⟨(some 121), .pick (.tmp 118) (.tmp 120) (.av (.val (.bool false))), none, true⟩,
 ⟨(some 122), .mv (.tmp 121), none, true⟩,
 ⟨(some 123), .mv (.tmp 22), (some (122, true)), true⟩,
 ⟨(some 124), .bin .eql (.tmp 123) (.av (.val (.int .i64 0))), (some (122, true)), true⟩,
 ⟨(some 125), .pick (.tmp 122) (.tmp 124) (.av (.val (.bool false))), none, true⟩,
 ⟨(some 126), .mv (.tmp 125), none, true⟩,
 ⟨(some 127), .mv (.tmp 21), (some (126, true)), true⟩,
 ⟨(some 128), .bin .eql (.tmp 127) (.av (.val (.int .i64 2))), (some (126, true)), true⟩,
 ⟨(some 129), .pick (.tmp 126) (.tmp 128) (.av (.val (.bool false))), none, true⟩,
 ⟨(some 130), .mv (.tmp 129), none, true⟩,
 ⟨(some 131), .load (some 2) (.tmp 16), (some (130, true)), true⟩,
 ⟨(some 132), .load (some 2) (.tmp 18), (some (130, true)), true⟩,
 ⟨(some 133), .eqAgg false [0, 0] (.tmp 131) (.tmp 132), (some (130, true)), true⟩,
 ⟨(some 134), .pick (.tmp 130) (.tmp 133) (.av (.val (.bool false))), none, true⟩,
 ⟨(some 135), .mv (.tmp 134), none, true⟩,
 ⟨(some 136), .load (some 2) (.tmp 16), (some (135, true)), true⟩,
 ⟨(some 137), .load (some 2) (.tmp 6), (some (135, true)), true⟩,
 ⟨(some 138), .eqAgg false [0, 0] (.tmp 136) (.tmp 137), (some (135, true)), true⟩,
 ⟨(some 139), .mv (.tmp 138), (some (135, true)), true⟩,
 ⟨(some 140), .mv (.tmp 20), (some (139, false)), true⟩,
 ⟨(some 141), .pick (.tmp 139) (.av (.val (.bool true))) (.tmp 140), (some (135, true)), true⟩,
 ⟨(some 142), .pick (.tmp 135) (.tmp 141) (.av (.val (.bool false))), none, true⟩,
 ⟨(some 8), .mv (.tmp 142), none, true⟩])
 (.ret))))))
def c_st_reads : ACode := .seq (.ops [⟨(some 6), .box 2 (.tmp 2), none, true⟩,
 ⟨(some 8), .mv (.av (.val (.bool false))), none, true⟩])
 (.seq (.seq (.ops [⟨(some 23), .call (.av (.func 7 [])) [], none, true⟩,
 ⟨(some 24), .un .not (.tmp 23), none, true⟩])
 (.cond (.tmp 24)
 (.seq (.ops [⟨(some 8), .mv (.av (.val (.bool false))), none, true⟩])
 (.ret))
 (.skip)))
 (.seq (.ops [⟨(some 25), .call (.av (.func 8 [])) [], none, true⟩,
 ⟨(some 9), .mv (.tmp 25), none, true⟩])
 (.seq (.seq (.ops [⟨(some 26), .mv (.tmp 9), none, true⟩,
 ⟨(some 27), .eqNil false 1 (.tmp 26), none, true⟩,
 ⟨(some 28), .mv (.tmp 27), none, true⟩,
 ⟨(some 29), .call (.av (.func 7 [])) [], (some (28, false)), true⟩,
 ⟨(some 30), .un .not (.tmp 29), (some (28, false)), true⟩,
 ⟨(some 31), .pick (.tmp 28) (.av (.val (.bool true))) (.tmp 30), none, true⟩])
 (.cond (.tmp 31)
 (.seq (.ops [⟨(some 8), .mv (.av (.val (.bool false))), none, true⟩])
 (.ret))
 (.skip)))
 (.seq (.seq (.ops [⟨(some 32), .mv (.tmp 0), none, true⟩,
 ⟨(some 33), .mv (.tmp 0), none, true⟩,
 ⟨(some 34), .len (.tmp 33), none, true⟩,
 ⟨(some 35), .minmax false (.tmp 34) [(.av (.val (.int .i64 60)))], none, true⟩,
 ⟨(some 36), .slice 4 (.tmp 32) none (some (.tmp 35)) none, none, true⟩,
 ⟨(some 37), .len (.tmp 36), none, true⟩,
 ⟨(some 38), .mv (.av (.val (.int .i64 0))), none, true⟩])
 (rangeCode 0 1 39 38 37 55
 (.seq (.ops [⟨(some 40), .mv (.tmp 38), none, true⟩,
 ⟨(some 41), .indexAddr 4 (.tmp 36) (.tmp 38), none, true⟩,
 ⟨(some 42), .load (some 4) (.tmp 41), none, true⟩,
 ⟨(some 11), .zero [(.val (.int .i64 0)), (.val (.int .i64 0)), (.val (.int .i64 0)), (.val (.int .i64 0))], none, true⟩,
 ⟨(some 10), .mv (.tmp 40), none, true⟩,
 ⟨none, .store 4 (.tmp 11) (.tmp 42), none, true⟩])
 (.seq (.ops [⟨(some 12), .zero [(.val (.int .i64 0)), (.val (.int .i64 0))], none, true⟩])
 (.seq (.seq (.ops [⟨(some 43), .mv (.tmp 10), none, true⟩,
 ⟨(some 44), .mv (.tmp 1), none, true⟩,
 ⟨(some 45), .len (.tmp 44), none, true⟩,
 ⟨(some 46), .bin .lss (.tmp 43) (.tmp 45), none, true⟩])
 (.cond (.tmp 46)
 (.ops [⟨(some 47), .mv (.tmp 1), none, true⟩,
 ⟨(some 48), .mv (.tmp 10), none, true⟩,
 ⟨(some 49), .indexAddr 2 (.tmp 47) (.tmp 48), none, true⟩,
 ⟨(some 50), .load (some 2) (.tmp 49), none, true⟩,
 ⟨none, .store 2 (.tmp 12) (.tmp 50), none, true⟩])
 (.skip)))
 (.ops [⟨(some 51), .mv (.tmp 9), none, true⟩,
 ⟨(some 52), .load (some 4) (.tmp 11), none, true⟩,
 ⟨(some 53), .load (some 2) (.tmp 12), none, true⟩,
 ⟨(some 54), .call (.av (.func 18 [])) [(.tmp 51), (.tmp 52), (.tmp 53)], none, true⟩]))))))
 (.seq (.ops [⟨(some 57), .mv (.tmp 9), none, true⟩,
 ⟨(some 58), .call (.av (.func 9 [])) [(.tmp 57), (.av (.val (.int .i64 1)))], none, true⟩,
 ⟨(some 56), .mv (.tmp 58), none, true⟩,
 ⟨(some 59), .extract 0 (.tmp 56), none, true⟩,
 ⟨(some 60), .extract 1 (.tmp 56), none, true⟩,
 ⟨(some 13), .mv (.tmp 59), none, true⟩,
 ⟨(some 14), .mv (.tmp 60), none, true⟩])
 (.seq (.seq (.ops [⟨(some 61), .mv (.tmp 14), none, true⟩,
 ⟨(some 62), .bin .neq (.tmp 61) (.av (.val (.int .i64 0))), none, true⟩])
 (.cond (.tmp 62)
 (.seq (.ops [⟨(some 8), .mv (.av (.val (.bool true))), none, true⟩])
 (.ret))
 (.skip)))
 (.seq (.seq (.ops [⟨(some 63), .mv (.tmp 9), none, true⟩,
 ⟨(some 64), .mv (.tmp 13), none, true⟩,
 ⟨(some 65), .build [(.val (.int .i64 0)), (.val (.int .i64 0))] [], none, true⟩,
 ⟨(some 66), .call (.av (.func 11 [])) [(.tmp 63), (.tmp 64), (.tmp 65)], none, true⟩,
 ⟨(some 67), .bin .neq (.tmp 66) (.av (.val (.int .i64 0))), none, true⟩,
 ⟨(some 68), .mv (.tmp 67), none, true⟩,
 ⟨(some 69), .mv (.tmp 9), (some (68, false)), true⟩,
 ⟨(some 70), .mv (.tmp 13), (some (68, false)), true⟩,
 ⟨(some 71), .load (some 2) (.tmp 6), (some (68, false)), true⟩,
 ⟨(some 72), .call (.av (.func 11 [])) [(.tmp 69), (.tmp 70), (.tmp 71)], (some (68, false)), true⟩,
 ⟨(some 73), .bin .neq (.tmp 72) (.av (.val (.int .i64 0))), (some (68, false)), true⟩,
 ⟨(some 74), .pick (.tmp 68) (.av (.val (.bool true))) (.tmp 73), none, true⟩])
 (.cond (.tmp 74)
 (.seq (.ops [⟨(some 75), .mv (.tmp 9), none, true⟩,
 ⟨(some 76), .call (.av (.func 15 [])) [(.tmp 75)], none, true⟩,
 ⟨(some 77), .bin .geq (.tmp 76) (.av (.val (.int .i64 0))), none, true⟩,
 ⟨(some 8), .mv (.tmp 77), none, true⟩])
 (.ret))
 (.skip)))
 (.seq (.ops [⟨(some 78), .mv (.tmp 9), none, true⟩,
 ⟨(some 79), .call (.av (.func 13 [])) [(.tmp 78)], none, true⟩])
 (.seq (.ops [⟨(some 80), .mv (.tmp 3), none, true⟩,
 ⟨(some 81), .call (.av (.func 10 [])) [(.tmp 80), (.av (.val (.int .i64 2)))], none, true⟩,
 ⟨(some 15), .mv (.tmp 81), none, true⟩])
 c_rdT)))))))))
theorem f_st_reads : cFunc Try.prog 4 = some ⟨143, c_st_reads, [.tmp 8]⟩ := by kernel_rfl

set_option maxHeartbeats 8000000 in
theorem rdT_z {S : ZS} {h2 : ZH} {KK : AExit → ZS → ZH → Prop} {p n j : Nat} {σ : Sg} {A : AS} {u : Nat} {k v w0 : Int} (hv : I64B v) (hS : StO h2 p σ A u) (hh : A.hd[n]? = some true) (hval : A.val n = [w0, boxW k v]) (hbe : boxE k v = 0) (hj : j = 0 ∨ j = 1)
  (h6 : h2[0]? = some (.box [Z64 k, Z64 v])) (n6 : 0 ≠ p ∧ 0 ≠ σ.w ∧ 0 ≠ σ.a ∧ 0 ≠ σ.h) (s6 : S 6 = .ptr 0 0) (s9 : S 9 = .ptr p 0) (s13 : S 13 = Z64 (n : Int)) (s15 : S 15 = Z64 (j : Int))
  (hK : ∀ S' H', S' 8 = ZBo true → KK .ret S' H') : zW (XS [] true) (cFunc Try.prog) Gh.no (fun _ => true) c_rdT S h2 KK := by
 simp only [c_rdT]
 have hA := hS.ok
 have hr : Rch A n := .held hh
 obtain ⟨w, hw⟩ : ∃ w, w = boxW k v := ⟨_, rfl⟩
 rw [← hw] at hval
 have hwm : w ∈ A.val n := by rw [hval]; simp
 obtain ⟨b1, b2, b3⟩ := boxed_back hA hr hwm
 have hn0 : namedA A (n : Int) = 0 := namedA_rch hA hr
 have hlen : (A.val n).length = 2 := by rw [hval]; rfl
 have hat1 : atE A (n : Int) 1 = 0 := by unfold atE; rw [if_neg (by rw [hn0]; simp), if_neg (by rw [Int.toNat_natCast, hlen]; omega)]
 have hg1 : getV A (n : Int) 1 = (unKind w, unNum w) := by
  unfold getV
  rw [if_pos hat1, Int.toNat_natCast, hval]; rfl
 have hlt : n < A.vs.length := by rw [hA.lv]; exact hr.lt hA
 have hsE : setE A (n : Int) (j : Int) (unKind w) (unNum w) = 0 := by
  unfold setE
  rw [if_neg (by rw [hn0]; simp), if_neg (by rw [b1]; simp), if_neg (by rw [Int.toNat_natCast, hlen]; omega)]
 obtain ⟨A4, hA4⟩ : ∃ A4, A4 = setS A (n : Int) (j : Int) (unKind w) (unNum w) := ⟨_, rfl⟩
 have hA4' : A4 = putV A n ((A.val n).set j w) := by rw [hA4]; unfold setS; rw [if_pos hsE, Int.toNat_natCast, Int.toNat_natCast, b2]
 have hval4 : A4.val n = [w0, w].set j w := by rw [hA4', putV_val hlt, if_pos rfl, hval]
 have hlen4 : (A4.val n).length = 2 := by rw [hval4]; simp
 have hgj : (A4.val n).getD j 0 = w := by rw [hval4]; rcases hj with rfl | rfl <;> rfl
 have HS := Lib.hid hS
 have HV := Lib.hid hv
 have H6 := Lib.hid h6
 have N6 := Lib.hid n6
 have HK := Lib.hid hK
 have key : ∀ (H3 : ZH), StO H3 p σ A4 u → namedA A4 (n : Int) = 0 ∧ atE A4 (n : Int) (j : Int) = 0 ∧ getV A4 (n : Int) (j : Int) = (unKind w, unNum w) ∧ countN A4 (n : Int) = 2 := fun H3 hS3 => by
  have hn4 : namedA A4 (n : Int) = 0 := namedA_rch hS3.ok (.held (by rw [hA4']; exact hh))
  have ha4 : atE A4 (n : Int) (j : Int) = 0 := by unfold atE; rw [if_neg (by rw [hn4]; simp), if_neg (by rw [Int.toNat_natCast, hlen4]; omega)]
  refine ⟨hn4, ha4, ?_, ?_⟩
  ·unfold getV; rw [if_pos ha4, Int.toNat_natCast, Int.toNat_natCast, hgj]
  ·unfold countN; rw [if_pos hn4, Int.toNat_natCast, hlen4]; rfl
 have KY := Lib.hid key
 have HA4 := Lib.hid hA4
 have HB3 := Lib.hid b3
 have HW := Lib.hid hw
 have HBE := Lib.hid hbe
 have HUB := Lib.hid (unNum_b w)
 have hk3 : k ≠ 3 → unKind w = k ∧ unNum w = v := fun h3 => by
  obtain ⟨_, _, z3, _, z5⟩ := kind_place hv hbe
  rw [hw]; exact ⟨z3, z5 h3⟩
 have hk3b : k = 3 → unKind w = 3 ∧ (unNum w = v ∨ oddB (IntKind.u64.wrap v) = true) := fun h3 => by
  subst h3
  obtain ⟨_, z2, z3⟩ := float_back v hv
  rw [hw]; exact ⟨z2, z3⟩
 obtain ⟨a1, ha1⟩ : ∃ a, a = unKind w := ⟨_, rfl⟩
 obtain ⟨a2, ha2⟩ : ∃ a, a = unNum w := ⟨_, rfl⟩
 rw [← ha1, ← ha2] at hg1 hsE KY HA4 hk3 hk3b
 rw [← ha2] at HUB
 have HK3 := Lib.hid hk3
 have HK3b := Lib.hid hk3b
 have HSE := Lib.hid hsE
 have HG1 := Lib.hid hg1
 have HAT1 := Lib.hid hat1
 have HJ := Lib.hid hj
 have hl2 := lt_of_get h6
 clear hS hv h6 n6 hK key hA hr hh hval hw hwm b1 b2 b3 hn0 hlen hat1 hg1 hlt hsE hA4 hA4' hval4 hlen4 hgj hbe hk3 hk3b ha1 ha2 hj
 have g0 : ∀ A Z, (h2 ++ (A :: Z))[h2.length]? = some A := fun A Z => hl_at0 A Z
 have s0 : ∀ A C Z, (h2 ++ (A :: Z)).set h2.length C = h2 ++ (C :: Z) := fun A C Z => hl_st0 A C Z
 repeat' (first | (simp only [zmPack, zxPack, ne_eq, zfree, owners, Nat.reduceLT, zyPack, Nat.reduceBEq, chunk, setAt, reduceCtorEq, Nat.reduceEqDiff, reduceIte, implies_true, forall_const, Nat.reduceMul, Nat.reduceSub, Nat.reduceAdd, Nat.reduceLeDiff, s9, s13, s15, s6, *]) | (simp only [zgPack]) | (with_reducible apply And.intro) | (with_reducible intro _))
 refine sget_z (by omega) HS.out ?_
 rw [HG1.out, HAT1.out]
 repeat' (first | (simp only [zmPack, zxPack, ne_eq, zfree, owners, Nat.reduceLT, zyPack, Nat.reduceBEq, chunk, setAt, reduceCtorEq, Nat.reduceEqDiff, reduceIte, implies_true, forall_const, Nat.reduceMul, Nat.reduceSub, Nat.reduceAdd, Nat.reduceLeDiff, g0, s0, s9, s13, s15, s6, *]) | (simp only [zgPack]) | (with_reducible apply And.intro) | (with_reducible intro _))
 refine sset_z HUB.out (HS.out.ext _) (fun _ => rfl) fun H3 q1 q2 => ?_
 rw [HSE.out]
 rw [← HA4.out] at q1
 obtain ⟨k1, k2, k3, k4⟩ := KY.out H3 q1
 have b16 : H3[h2.length]? = some (.box [Z64 a1, Z64 a2]) := by
  have z := HS.out.lt
  exact q2.keep _ _ (by omega) (by omega) (by omega) (by omega) (g0 _ _)
 have b6 : H3[0]? = some (.box [Z64 k, Z64 v]) := q2.keep _ _ N6.out.1 N6.out.2.1 N6.out.2.2.1 N6.out.2.2.2 (by rw [List.getElem?_append_left hl2]; exact H6.out)
 have Q1 := Lib.hid q1
 have K1 := Lib.hid k1
 have K2 := Lib.hid k2
 have K3 := Lib.hid k3
 have K4 := Lib.hid k4
 clear q1 q2 k1 k2 k3 k4 g0 s0
 have g3 : ∀ A Z, (H3 ++ (A :: Z))[H3.length]? = some A := fun A Z => hl_at0 A Z
 have s3 : ∀ A C Z, (H3 ++ (A :: Z)).set H3.length C = H3 ++ (C :: Z) := fun A C Z => hl_st0 A C Z
 have c16 : ∀ X, (H3 ++ X)[h2.length]? = some (.box [Z64 a1, Z64 a2]) := fun X => by rw [List.getElem?_append_left (lt_of_get b16)]; exact b16
 have c6 : ∀ X, (H3 ++ X)[0]? = some (.box [Z64 k, Z64 v]) := fun X => by rw [List.getElem?_append_left (lt_of_get b6)]; exact b6
 have hb16 := lt_of_get b16
 have hb6 := lt_of_get b6
 repeat' (first | (simp only [zmPack, zxPack, ne_eq, zfree, owners, Nat.reduceLT, zyPack, Nat.reduceBEq, chunk, setAt, reduceCtorEq, Nat.reduceEqDiff, reduceIte, implies_true, forall_const, Nat.reduceMul, Nat.reduceSub, Nat.reduceAdd, Nat.reduceLeDiff, s9, s13, s15, s6, *]) | (simp only [zgPack]) | (with_reducible apply And.intro) | (with_reducible intro _))
 refine sget_z (by rcases HJ.out with e | e <;> subst e <;> decide) Q1.out ?_
 rw [K3.out, K2.out]
 have same : sameZ [0, 0] [Z64 a1, Z64 a2] [Z64 a1, Z64 a2] = some true := by simp [sameZ, sameV]
 by_cases h3 : k = 3
 ·have hz := HK3b.out h3
  have HZ := Lib.hid hz
  have HO : 0 ≤ IntKind.u64.wrap v ∧ IntKind.u64.wrap v < 18446744073709551616 := by simp only [IntKind.wrap_u64]; omega
  have HOO := Lib.hid HO
  clear hz HO
  repeat' (first | (simp only [zmPack, zxPack, ne_eq, zfree, owners, Nat.reduceLT, zyPack, Nat.reduceBEq, chunk, setAt, reduceCtorEq, Nat.reduceEqDiff, reduceIte, implies_true, forall_const, Nat.reduceMul, Nat.reduceSub, Nat.reduceAdd, Nat.reduceLeDiff, g3, s3, c6, c16, s6, s9, s13, s15, hb16, hb6, h3, *]) | (simp only [zgPack]) | (with_reducible apply And.intro) | (with_reducible intro _))
  refine sodd_z HOO.out ?_
  obtain ⟨od, hod⟩ : ∃ b, b = oddB (IntKind.u64.wrap v) := ⟨_, rfl⟩
  rw [← hod] at HZ ⊢
  clear hod
  repeat' (first | (simp only [zmPack, zxPack, ne_eq, zfree, owners, Nat.reduceLT, zyPack, Nat.reduceBEq, chunk, setAt, reduceCtorEq, Nat.reduceEqDiff, reduceIte, implies_true, forall_const, Nat.reduceMul, Nat.reduceSub, Nat.reduceAdd, Nat.reduceLeDiff, g3, s3, c6, c16, s6, s9, s13, s15, hb16, hb6, *]) | (simp only [zgPack]) | (with_reducible apply And.intro) | (with_reducible intro _))
  refine scount_z (Q1.out.ext _) ?_
  rw [K4.out, K1.out]
  have e1 := HZ.out.1
  subst e1
  have c0 : sameZ [0, 0] [Z64 3, Z64 a2] [Z64 3, Z64 v] = some (decide (a2 = v)) := by simp [sameZ, sameV]
  rcases HZ.out.2 with e | e
  ·subst e
   have c0 : sameZ [0, 0] [Z64 3, Z64 a2] [Z64 3, Z64 a2] = some true := same
   repeat' (first | (simp only [zmPack, zxPack, ne_eq, zfree, owners, Nat.reduceLT, zyPack, Nat.reduceBEq, chunk, setAt, reduceCtorEq, Nat.reduceEqDiff, reduceIte, implies_true, forall_const, Nat.reduceMul, Nat.reduceSub, Nat.reduceAdd, Nat.reduceLeDiff, g3, s3, c6, c16, s6, s9, s13, s15, hb16, hb6, same, c0, *]) | (simp only [zgPack]) | (with_reducible apply And.intro) | (with_reducible intro _))
   all_goals exact HK.out _ _ rfl
  ·subst e
   obtain ⟨bb, hbb⟩ : ∃ b, b = decide (a2 = v) := ⟨_, rfl⟩
   rw [← hbb] at c0
   clear hbb
   cases bb <;> (repeat' (first | (simp only [zmPack, zxPack, ne_eq, zfree, owners, Nat.reduceLT, zyPack, Nat.reduceBEq, chunk, setAt, reduceCtorEq, Nat.reduceEqDiff, reduceIte, implies_true, forall_const, Nat.reduceMul, Nat.reduceSub, Nat.reduceAdd, Nat.reduceLeDiff, g3, s3, c6, c16, s6, s9, s13, s15, hb16, hb6, same, c0, *]) | (simp only [zgPack]) | (with_reducible apply And.intro) | (with_reducible intro _)))
   all_goals exact HK.out _ _ rfl
 ·obtain ⟨e1, e2⟩ := HK3.out h3
  subst e1; subst e2
  repeat' (first | (simp only [zmPack, zxPack, ne_eq, zfree, owners, Nat.reduceLT, zyPack, Nat.reduceBEq, chunk, setAt, reduceCtorEq, Nat.reduceEqDiff, reduceIte, implies_true, forall_const, Nat.reduceMul, Nat.reduceSub, Nat.reduceAdd, Nat.reduceLeDiff, g3, s3, c6, c16, s6, s9, s13, s15, hb16, hb6, h3, *]) | (simp only [zgPack]) | (with_reducible apply And.intro) | (with_reducible intro _))
  refine scount_z (Q1.out.ext _) ?_
  rw [K4.out, K1.out]
  repeat' (first | (simp only [zmPack, zxPack, ne_eq, zfree, owners, Nat.reduceLT, zyPack, Nat.reduceBEq, chunk, setAt, reduceCtorEq, Nat.reduceEqDiff, reduceIte, implies_true, forall_const, Nat.reduceMul, Nat.reduceSub, Nat.reduceAdd, Nat.reduceLeDiff, g3, s3, c6, c16, s6, s9, s13, s15, hb16, hb6, same, *]) | (simp only [zgPack]) | (with_reducible apply And.intro) | (with_reducible intro _))
  all_goals exact HK.out _ _ rfl
end Go.Proofs.Ytiiefcbiemohhaa

namespace Go.Proofs.Ytiiefcbiemohhaa
open Go Go.RowKit
set_option linter.unusedVariables false
set_option linter.unusedSimpArgs false
set_option maxHeartbeats 8000000 in
theorem storereads_z {ex ex' : Bool} {l : List Dd} {vals : List (Int × Int)} {v : Int × Int} {at_ : Int} (hl : ∀ d ∈ l, I64B d.2.2.2) (hv : ∀ x ∈ vals, I64B x.2) (hvv : I64B v.2) :
  ZC (XS [] true) (cFunc Try.prog) 4 [.fz 4 ex (l.map eD), .fz 2 ex' (vals.map eP), .agg [Z64 v.1, Z64 v.2], Z64 at_] (fun _ => true) [] fun z _ => z = ZBo true := by
 obtain ⟨kk, vv⟩ := v
 refine ZC.enter Gh.no (boxX_none (by decide)) f_st_reads (by simp) ?_
 simp only [c_st_reads]
 have fin : ∀ X, Fin [] (ZBo true) X (fun z _ => z = ZBo true) := fun X => Fin.trunc (Mods.ext [] X) rfl rfl
 have FI := Lib.hid fin
 have HV := Lib.hid hv
 have HVV := Lib.hid hvv
 have HLb := Lib.hid hl
 clear fin hl hv hvv
 repeat' (first | (simp only [zmPack, zxPack, ne_eq, zfree, owners, Nat.reduceLT, zyPack, Nat.reduceBEq, chunk, setAt, reduceCtorEq, Nat.reduceEqDiff, reduceIte, implies_true, forall_const, Nat.reduceMul, Nat.reduceSub, Nat.reduceAdd, Nat.reduceLeDiff, *]) | (simp only [zgPack]) | (with_reducible apply And.intro) | (with_reducible intro _))
 refine stored_z rfl (fun _ => rfl) ?_
 repeat' (first | (simp only [zmPack, zxPack, ne_eq, zfree, owners, Nat.reduceLT, zyPack, Nat.reduceBEq, chunk, setAt, reduceCtorEq, Nat.reduceEqDiff, reduceIte, implies_true, forall_const, Nat.reduceMul, Nat.reduceSub, Nat.reduceAdd, Nat.reduceLeDiff, *]) | (simp only [zgPack]) | (with_reducible apply And.intro) | (with_reducible intro _))
 refine snew_z rfl fun H1 p σ h1 h2 h3 h4 => ?_
 have li : LI [.box [Z64 kk, Z64 vv]] H1 p σ := ⟨h2, h4, h3⟩
 have LI1 := Lib.hid li
 have S1 := Lib.hid h1
 obtain ⟨ex2, hct⟩ := dd_cut (e := eD) (k := 4) (ex := ex) (l := l) (n := min l.length 60) (Nat.min_le_left _ _)
 obtain ⟨ds, hds⟩ : ∃ ds, ds = l.take (min l.length 60) := ⟨_, rfl⟩
 have hlen : ds.length ≤ 60 := by rw [hds, List.length_take]; omega
 have hdb : ∀ d ∈ ds, I64B d.2.2.2 := fun d hd => HLb.out d (by rw [hds] at hd; exact List.mem_of_mem_take hd)
 rw [← hds] at hct
 have hbm : bestZ false (Z64 (l.length : Nat)) [Z64 (60 : Int)] = some (Z64 ((min l.length 60 : Nat) : Int)) := best_min (m := 60)
 have HLEN := Lib.hid hlen
 have HDB := Lib.hid hdb
 clear h1 h2 h3 h4 li hds hlen hdb
 repeat' (first | (simp only [zmPack, zxPack, ne_eq, zfree, owners, Nat.reduceLT, zyPack, Nat.reduceBEq, chunk, setAt, reduceCtorEq, Nat.reduceEqDiff, reduceIte, implies_true, forall_const, Nat.reduceMul, Nat.reduceSub, Nat.reduceAdd, Nat.reduceLeDiff, eqNil_ptr, *]) | (simp only [zgPack]) | (with_reducible apply And.intro) | (with_reducible intro _))
 refine stored_z rfl (fun _ => rfl) ?_
 repeat' (first | (simp only [zmPack, zxPack, ne_eq, zfree, owners, Nat.reduceLT, zyPack, Nat.reduceBEq, chunk, setAt, reduceCtorEq, Nat.reduceEqDiff, reduceIte, implies_true, forall_const, Nat.reduceMul, Nat.reduceSub, Nat.reduceAdd, Nat.reduceLeDiff, hbm, hct, hl_num0, hl_num1, natZ_nat, Option.bind_some, Option.isSome_none, *]) | (simp only [zgPack]) | (with_reducible apply And.intro) | (with_reducible intro _))
 clear hct hbm
 have hdl : ds.length < 9223372036854775807 := by have := HLEN.out; omega
 refine zW_forK [(1, .fz 2 ex' (vals.map eP)), (3, Z64 at_), (6, .ptr 0 0), (9, .ptr p 0), (36, .fz 4 ex2 (ds.map eD))] ds.length (fun k s' h' => NdI [.box [Z64 kk, Z64 vv]] p h') (by omega) ⟨rfl, rfl, rfl, rfl, rfl, rfl⟩ rfl rfl (by repeat' (first | exact trivial | (refine ⟨rfl, ?_⟩) | (refine ⟨by simp only [zupd_at, Nat.reduceEqDiff, reduceIte]; assumption, ?_⟩))) rfl rfl (by decide) ⟨_, _, _, S1.out, LI1.out⟩ ?_ ?_
 ·rintro k s' h' hk ⟨σ1, A1, u1, hS, hLI⟩ hi hl ⟨f1, f3, f6, f9, f36, -⟩
  have hx : ds[k]? = some ds[k] := List.getElem?_eq_getElem hk
  have hdb := HDB.out _ (List.getElem_mem hk)
  have hvb := valAt_b HV.out k
  obtain ⟨d, hd⟩ : ∃ d, d = ds[k] := ⟨_, rfl⟩
  rw [← hd] at hx hdb
  obtain ⟨d1, d2, d3, d4⟩ := d
  have HS := Lib.hid hS
  have HLI := Lib.hid hLI
  have HDb := Lib.hid hdb
  have HVb := Lib.hid hvb
  have g0 : ∀ A Z, (h' ++ (A :: Z))[h'.length]? = some A := fun A Z => hl_at0 A Z
  have s0 : ∀ A C Z, (h' ++ (A :: Z)).set h'.length C = h' ++ (C :: Z) := fun A C Z => hl_st0 A C Z
  have g1 : ∀ A B Z, (h' ++ (A :: B :: Z))[h'.length + 1]? = some B := fun A B Z => hl_at1 A B Z
  have s1 : ∀ A B C Z, (h' ++ (A :: B :: Z)).set (h'.length + 1) C = h' ++ (A :: C :: Z) := fun A B C Z => hl_st1 A B C Z
  clear hd hdb hvb hS hLI
  by_cases c : k < vals.length
  ·have hvx : vals[k]? = some (valAt vals k) := by unfold valAt; rw [List.getD_eq_getElem?_getD, List.getElem?_eq_getElem c]; rfl
   have c1 : (k : Int) < (vals.length : Int) := by omega
   obtain ⟨v, hv⟩ : ∃ v, v = valAt vals k := ⟨_, rfl⟩
   rw [← hv] at hvx HVb
   obtain ⟨v1, v2⟩ := v
   clear hv
   repeat' (first | (simp only [zmPack, zxPack, ne_eq, zfree, owners, Nat.reduceLT, zyPack, Nat.reduceBEq, chunk, setAt, reduceCtorEq, Nat.reduceEqDiff, reduceIte, implies_true, forall_const, Nat.reduceMul, Nat.reduceSub, Nat.reduceAdd, Nat.reduceLeDiff, hx, g0, g1, s0, s1, c1, hvx, c, *]) | (simp only [zgPack]) | (with_reducible apply And.intro) | (with_reducible intro _))
   refine sdeed_z HVb.out HDb.out (HS.out.ext _) (fun _ => rfl) fun H2 σ2 u2 q1 q2 => ?_
   have fin : NdI [.box [Z64 kk, Z64 vv]] p H2 := ⟨_, _, _, q1, (HLI.out.ext).step q2⟩
   clear q1 q2
   repeat' (first | (simp only [zmPack, zxPack, ne_eq, zfree, owners, Nat.reduceLT, zyPack, Nat.reduceBEq, chunk, setAt, reduceCtorEq, Nat.reduceEqDiff, reduceIte, implies_true, forall_const, Nat.reduceMul, Nat.reduceSub, Nat.reduceAdd, Nat.reduceLeDiff, *]) | (simp only [zgPack]) | (with_reducible apply And.intro) | (with_reducible intro _))
  ·have c1 : ¬ ((k : Int) < (vals.length : Int)) := by omega
   clear c
   repeat' (first | (simp only [zmPack, zxPack, ne_eq, zfree, owners, Nat.reduceLT, zyPack, Nat.reduceBEq, chunk, setAt, reduceCtorEq, Nat.reduceEqDiff, reduceIte, implies_true, forall_const, Nat.reduceMul, Nat.reduceSub, Nat.reduceAdd, Nat.reduceLeDiff, hx, g0, g1, s0, s1, c1, *]) | (simp only [zgPack]) | (with_reducible apply And.intro) | (with_reducible intro _))
   refine sdeed_z (by omega) HDb.out (HS.out.ext _) (fun _ => rfl) fun H2 σ2 u2 q1 q2 => ?_
   have fin : NdI [.box [Z64 kk, Z64 vv]] p H2 := ⟨_, _, _, q1, (HLI.out.ext).step q2⟩
   clear q1 q2
   repeat' (first | (simp only [zmPack, zxPack, ne_eq, zfree, owners, Nat.reduceLT, zyPack, Nat.reduceBEq, chunk, setAt, reduceCtorEq, Nat.reduceEqDiff, reduceIte, implies_true, forall_const, Nat.reduceMul, Nat.reduceSub, Nat.reduceAdd, Nat.reduceLeDiff, *]) | (simp only [zgPack]) | (with_reducible apply And.intro) | (with_reducible intro _))
 ·rintro s' h' ⟨σ1, A1, u1, hS, hLI⟩ ⟨f1, f3, f6, f9, f36, -⟩
  have HS := Lib.hid hS
  have HLI := Lib.hid hLI
  have fin := FI.out
  clear hS hLI
  repeat' (first | (simp only [zmPack, zxPack, ne_eq, zfree, owners, Nat.reduceLT, zyPack, Nat.reduceBEq, chunk, setAt, reduceCtorEq, Nat.reduceEqDiff, reduceIte, implies_true, forall_const, Nat.reduceMul, Nat.reduceSub, Nat.reduceAdd, Nat.reduceLeDiff, *]) | (simp only [zgPack]) | (with_reducible apply And.intro) | (with_reducible intro _))
  refine sMake_z HS.out (fun _ => rfl) fun H2 σ2 u2 q1 q2 _ => ?_
  have li2 := HLI.out.step q2
  by_cases hE : makeE A1 1 = 0
  ·have hN : makeN A1 1 = (A1.mks.length : Int) := by unfold makeN; rw [if_pos hE]
   have hSS : makeS A1 1 = makeA A1 1 := by unfold makeS; rw [if_pos hE]
   rw [hSS] at q1
   rw [hE, hN]
   have hA := HS.out.ok
   obtain ⟨n, hn⟩ : ∃ n, n = A1.mks.length := ⟨_, rfl⟩
   rw [← hn]
   obtain ⟨B, hB⟩ : ∃ B, B = makeA A1 1 := ⟨_, rfl⟩
   rw [← hB] at q1
   have hh : B.hd[n]? = some true := by rw [hB, hn, ← hA.lh]; show (A1.hd ++ [true])[A1.hd.length]? = _; rw [List.getElem?_append_right (Nat.le_refl _), Nat.sub_self]; rfl
   have hval : B.val n = [] := by
    rw [hB, makeA_val]; unfold AS.val
    rw [List.getD_eq_getElem?_getD, List.getElem?_eq_none (by rw [hA.lv, hn]; exact Nat.le_refl _)]; rfl
   have Q1 := Lib.hid q1
   have L2 := Lib.hid li2
   have HH := Lib.hid hh
   have HVA := Lib.hid hval
   clear q1 q2 li2 hE hN hSS hA hn hB hh hval
   repeat' (first | (simp only [zmPack, zxPack, ne_eq, zfree, owners, Nat.reduceLT, zyPack, Nat.reduceBEq, chunk, setAt, reduceCtorEq, Nat.reduceEqDiff, reduceIte, implies_true, forall_const, Nat.reduceMul, Nat.reduceSub, Nat.reduceAdd, Nat.reduceLeDiff, *]) | (simp only [zgPack]) | (with_reducible apply And.intro) | (with_reducible intro _))
   refine sPush_z (by omega) Q1.out (fun _ => rfl) fun H3 σ3 u3 r1 r2 => ?_
   have li3 := L2.out.step r2
   by_cases hE1 : pushE B (n : Int) 0 0 = 0
   ·have hS1 : pushS B (n : Int) 0 0 = putV B n (B.val n ++ [boxW 0 0]) := by unfold pushS; rw [if_pos hE1, Int.toNat_natCast]
    obtain ⟨C, hC⟩ : ∃ C, C = putV B n (B.val n ++ [boxW 0 0]) := ⟨_, rfl⟩
    rw [hS1, ← hC] at r1
    rw [hE1]
    have hlt : n < B.vs.length := by
     have hA := Q1.out.ok
     rw [hA.lv, ← hA.lh]; exact (List.getElem?_eq_some_iff.1 HH.out).1
    have hh2 : C.hd[n]? = some true := by rw [hC]; exact HH.out
    have hval2 : C.val n = [boxW 0 0] := by rw [hC, putV_val hlt, if_pos rfl, HVA.out]; rfl
    have R1 := Lib.hid r1
    have L3 := Lib.hid li3
    have HH2 := Lib.hid hh2
    have HV2 := Lib.hid hval2
    have hb6 : H3[0]? = some (.box [Z64 kk, Z64 vv]) := li3.pres 0 _ rfl
    clear r1 r2 li3 hE1 hS1 hC hlt hh2 hval2
    repeat' (first | (simp only [zmPack, zxPack, ne_eq, zfree, owners, Nat.reduceLT, zyPack, Nat.reduceBEq, chunk, setAt, reduceCtorEq, Nat.reduceEqDiff, reduceIte, implies_true, forall_const, Nat.reduceMul, Nat.reduceSub, Nat.reduceAdd, Nat.reduceLeDiff, *]) | (simp only [zgPack]) | (with_reducible apply And.intro) | (with_reducible intro _))
    refine sPush_z HVV.out R1.out (fun _ => rfl) fun H4 σ4 u4 t1 t2 => ?_
    have li4 := L3.out.step t2
    by_cases hE2 : pushE C (n : Int) kk vv = 0
    ·have hS2 : pushS C (n : Int) kk vv = putV C n (C.val n ++ [boxW kk vv]) := by unfold pushS; rw [if_pos hE2, Int.toNat_natCast]
     obtain ⟨D, hD⟩ : ∃ D, D = putV C n (C.val n ++ [boxW kk vv]) := ⟨_, rfl⟩
     rw [hS2, ← hD] at t1
     have hbe : boxE kk vv = 0 := by
      unfold pushE at hE2
      split at hE2
      ·rename_i h; exact absurd hE2 h
      ·split at hE2
       ·rename_i h; exact absurd hE2 h
       ·rename_i h1 h2
        exact (boxedA_ok (A := C) (k := kk) (n := vv) HVV.out (Classical.not_not.1 h2)).1
     rw [hE2]
     have hlt : n < C.vs.length := by
      have hA := R1.out.ok
      rw [hA.lv, ← hA.lh]; exact (List.getElem?_eq_some_iff.1 HH2.out).1
     have hh3 : D.hd[n]? = some true := by rw [hD]; exact HH2.out
     have hval3 : D.val n = [boxW 0 0, boxW kk vv] := by rw [hD, putV_val hlt, if_pos rfl, HV2.out]; rfl
     have T1 := Lib.hid t1
     have L4 := Lib.hid li4
     have HH3 := Lib.hid hh3
     have HV3 := Lib.hid hval3
     have HBE := Lib.hid hbe
     clear t1 t2 li4 hE2 hS2 hD hlt hh3 hval3 hbe
     repeat' (first | (simp only [zmPack, zxPack, ne_eq, zfree, owners, Nat.reduceLT, zyPack, Nat.reduceBEq, chunk, setAt, reduceCtorEq, Nat.reduceEqDiff, reduceIte, implies_true, forall_const, Nat.reduceMul, Nat.reduceSub, Nat.reduceAdd, Nat.reduceLeDiff, *]) | (simp only [zgPack]) | (with_reducible apply And.intro) | (with_reducible intro _))
     refine sCollect_z T1.out (fun _ => rfl) fun H5 σ5 w1 w2 w3 => ?_
     have li5 := L4.out.step w2
     have W1 := Lib.hid w1
     have L5 := Lib.hid li5
     clear w1 w2 w3 li5 hb6
     repeat' (first | (simp only [zmPack, zxPack, ne_eq, zfree, owners, Nat.reduceLT, zyPack, Nat.reduceBEq, chunk, setAt, reduceCtorEq, Nat.reduceEqDiff, reduceIte, implies_true, forall_const, Nat.reduceMul, Nat.reduceSub, Nat.reduceAdd, Nat.reduceLeDiff, *]) | (simp only [zgPack]) | (with_reducible apply And.intro) | (with_reducible intro _))
     refine srest_z (by omega) ?_
     obtain ⟨j, hj⟩ : ∃ j : Nat, at_ % 2 = (j : Int) := ⟨(at_ % 2).toNat, by omega⟩
     have hj2 : j = 0 ∨ j = 1 := by omega
     rw [hj]
     have HJ := Lib.hid hj2
     clear hj hj2
     repeat' (first | (simp only [zmPack, zxPack, ne_eq, zfree, owners, Nat.reduceLT, zyPack, Nat.reduceBEq, chunk, setAt, reduceCtorEq, Nat.reduceEqDiff, reduceIte, implies_true, forall_const, Nat.reduceMul, Nat.reduceSub, Nat.reduceAdd, Nat.reduceLeDiff, *]) | (simp only [zgPack]) | (with_reducible apply And.intro) | (with_reducible intro _))
     have lo := L5.out.lo
     refine rdT_z (n := n) (j := j) (k := kk) (v := vv) HVV.out W1.out HH3.out HV3.out HBE.out HJ.out (L5.out.pres 0 _ rfl) (by simp at lo; omega) (by simp [zupd, f6]) (by simp [zupd, f9]) (by simp [zupd]) (by simp [zupd]) fun S' H' e8 => ?_
     first
      | exact ⟨.inr rfl, ZBo true, by simp [zresults, zres, e8], fin _⟩
      | (rw [e8]; exact fin _)
      | (simp only [e8]; exact fin _)
      | exact ⟨.inr rfl, by rw [e8]; exact fin _⟩
    ·have T1 := Lib.hid t1
     have c1 : (0 : Int) ≤ (u4 : Int) := by omega
     clear t1 t2 li4
     repeat' (first | (simp only [zmPack, zxPack, ne_eq, zfree, owners, Nat.reduceLT, zyPack, Nat.reduceBEq, chunk, setAt, reduceCtorEq, Nat.reduceEqDiff, reduceIte, implies_true, forall_const, Nat.reduceMul, Nat.reduceSub, Nat.reduceAdd, Nat.reduceLeDiff, hE2, *]) | (simp only [zgPack]) | (with_reducible apply And.intro) | (with_reducible intro _))
     refine sused_z T1.out ?_
     repeat' (first | (simp only [zmPack, zxPack, ne_eq, zfree, owners, Nat.reduceLT, zyPack, Nat.reduceBEq, chunk, setAt, reduceCtorEq, Nat.reduceEqDiff, reduceIte, implies_true, forall_const, Nat.reduceMul, Nat.reduceSub, Nat.reduceAdd, Nat.reduceLeDiff, c1, *]) | (simp only [zgPack]) | (with_reducible apply And.intro) | (with_reducible intro _))
   ·have R1 := Lib.hid r1
    have c1 : (0 : Int) ≤ (u3 : Int) := by omega
    clear r1 r2 li3
    repeat' (first | (simp only [zmPack, zxPack, ne_eq, zfree, owners, Nat.reduceLT, zyPack, Nat.reduceBEq, chunk, setAt, reduceCtorEq, Nat.reduceEqDiff, reduceIte, implies_true, forall_const, Nat.reduceMul, Nat.reduceSub, Nat.reduceAdd, Nat.reduceLeDiff, hE1, *]) | (simp only [zgPack]) | (with_reducible apply And.intro) | (with_reducible intro _))
    refine sused_z R1.out ?_
    repeat' (first | (simp only [zmPack, zxPack, ne_eq, zfree, owners, Nat.reduceLT, zyPack, Nat.reduceBEq, chunk, setAt, reduceCtorEq, Nat.reduceEqDiff, reduceIte, implies_true, forall_const, Nat.reduceMul, Nat.reduceSub, Nat.reduceAdd, Nat.reduceLeDiff, c1, *]) | (simp only [zgPack]) | (with_reducible apply And.intro) | (with_reducible intro _))
  ·clear q1 q2 li2
   repeat' (first | (simp only [zmPack, zxPack, ne_eq, zfree, owners, Nat.reduceLT, zyPack, Nat.reduceBEq, chunk, setAt, reduceCtorEq, Nat.reduceEqDiff, reduceIte, implies_true, forall_const, Nat.reduceMul, Nat.reduceSub, Nat.reduceAdd, Nat.reduceLeDiff, hE, *]) | (simp only [zgPack]) | (with_reducible apply And.intro) | (with_reducible intro _))
end Go.Proofs.Ytiiefcbiemohhaa

namespace Go.Proofs.Ytiiefcbiemohhaa
open Go Go.RowKit Go.ChangeShapes Go.WideShapes Go.ChangeAt
set_option linter.unusedVariables false
set_option linter.unusedSimpArgs false
set_option maxRecDepth 100000 in
theorem storereads_lifted (os : Os) (started : os.Started) (H : Type) (enc : TypeId × Value → H) :
  ReturnsInHanded {} Try.checked os 4 .any (Rows.storeReadsSpec.pre6 enc Try.prog Try.f4 Rows.storeReadsRow.domain false) (Rows.storeReadsSpec.post enc Try.prog Try.f4 false true false false) := by
 refine law_lifted (C := Try.checked) 12 [(false, .slice 32 (.prod (.int .i64) (.prod (.int .i64) (.prod (.int .i64) (.int .i64))))), (false, .slice 16 (.prod (.int .i64) (.int .i64))), (true, .prod (.int .i64) (.int .i64)), (false, .int .i64)] 4 Try.own Try.laidOut started (by kernel_rfl) Try.func4
  (ChangeSpec.witness6 (enc := enc) (C := Try.checked) false ⟨#[], #[.slice none 0 0, .slice none 0 0, .agg #[.int .i64 0, .int .i64 0], .int .i64 0], []⟩ 8 (by kernel_rfl) (by kernel_rfl) (by kernel_rfl) (by kernel_rfl))
  rfl (by kernel_rfl) Try.underlying4 (fun ds h => ?_) (by kernel_rfl) (by kernel_rfl) (fun W args h => ?_)
 ·match ds, h with
  | [d0, d1, d2, d3], _ => rfl
 ·refine zm_walk_nd (by kernel_rfl) (boxX_ok (constX_ok (n := 1) (F := cFunc Try.prog) (by kernel_rfl) (fun f af h => h) [] (by intro p hp; simp at hp))) (fun f af h => h) rfl (fun zl hz => ?_) W args h
  obtain ⟨l, _, rfl, hl, _, vals, _, rfl, hv, _, v, _, rfl, hvv, _, a, _, rfl, _, _, rfl⟩ := hz
  exact storereads_z (l := l) (vals := vals) (v := v) (at_ := a) (dd_bound hl) (vv_bound hv) (i64_bounds hvv.2)
theorem storereads_holds : Rows.StoreReadsSaid :=
 OpenClaim.holds_of_wide 4 Try.f4 rfl rfl rfl rfl rfl rfl rfl ⟨rfl, rfl, rfl, rfl, rfl⟩ rfl rfl rfl rfl rfl (by kernel_rfl) Try.func4 (by kernel_rfl) (of_decide_eq_true (by kernel_rfl)) (by unfold Func.isWrapper; first | (rw [if_pos (by decide +kernel)]; kernel_rfl) | (rw [if_neg (by decide +kernel)]; exact ⟨rfl, rfl⟩))
  (fun os started H enc _ => storereads_lifted os started H enc)
end Go.Proofs.Ytiiefcbiemohhaa
