/-
  The store in ZM: Get, Set, Push, Make, Collect as they are offered.
-/
import Derived.Test.YtiiefcbiemohhaaMrW16
namespace Go.Proofs.Ytiiefcbiemohhaa
open Go Go.RowKit
set_option linter.unusedVariables false
set_option linter.unusedSimpArgs false
variable {tb : List (FuncId × Bool)} {nd : Bool} {L : Nat → Bool} {H : ZH} {K : ZV → ZH → Prop} {p : Nat} {σ : Sg} {F AT : List Int} {HD : List Bool} {A : AS} {u : Nat}
noncomputable def atE (A : AS) (n i : Int) : Int := if namedA A n ≠ 0 then namedA A n else if i < 0 ∨ ((A.val n.toNat).length : Int) ≤ i then 1 else 0
noncomputable def setE (A : AS) (n i k v : Int) : Int := if namedA A n ≠ 0 then namedA A n else if boxedA A k v ≠ 0 then boxedA A k v else if i < 0 ∨ ((A.val n.toNat).length : Int) ≤ i then 1 else 0
noncomputable def setS (A : AS) (n i k v : Int) : AS := if setE A n i k v = 0 then putV A n.toNat ((A.val n.toNat).set i.toNat (boxW k v)) else A
set_option maxHeartbeats 4000000 in
theorem sset_z {n i k v : Int} (hv : -9223372036854775808 ≤ v ∧ v ≤ 9223372036854775807) (h : StO H p σ A u) (hL : ∀ i, L i = true) (hK : ∀ H', StO H' p σ (setS A n i k v) u → FrS p σ σ H H' → K (Z64 (setE A n i k v)) H') : ZC (XS tb nd) (cFunc Try.prog) 16 [.ptr p 0, Z64 n, Z64 i, .agg [Z64 k, Z64 v]] L H K := by
 refine ZC.enter Gh.no (boxX_none (by decide)) f_st_set (by simp) ?_
 simp only [c_st_set]
 have h9 := h
 obtain ⟨F, AT, h1, h2, h3⟩ := h
 have g0 : ∀ A Z, (H ++ (A :: Z))[H.length]? = some A := fun A Z => hl_at0 A Z
 have HH := Lib.hid h1
 have HR := Lib.hid h2
 have H9 := Lib.hid h9
 have H3 := Lib.hid h3
 have HV := Lib.hid hv
 have HK := Lib.hid hK
 have same : setS A n i k v = A → ∀ X, Fin H (Z64 (setE A n i k v)) (H ++ X) K := fun hs X => Fin.trunc (Mods.ext H X) rfl (by rw [List.take_left]; exact HK.out H (by rw [hs]; exact H9.out) FrS.refl)
 have SM := Lib.hid same
 clear hK h3 h1 h2 h9 same hv
 repeat' (first | (simp only [zmPack, zxPack, ne_eq, zfree, owners, Nat.reduceLT, zyPack, Nat.reduceBEq, chunk, setAt, reduceCtorEq, Nat.reduceEqDiff, reduceIte, implies_true, forall_const, Nat.reduceMul, Nat.reduceSub, Nat.reduceAdd, Nat.reduceLeDiff, g0, *]) | (simp only [zgPack]) | (with_reducible apply And.intro) | (with_reducible intro _))
 refine snamed_z (HH.out.ext _) HR.out ?_
 by_cases h0 : namedA A n = 0
 ·obtain ⟨m, rfl, hm⟩ := namedA_zero h0
  rw [h0]
  repeat' (first | (simp only [zmPack, zxPack, ne_eq, zfree, owners, Nat.reduceLT, zyPack, Nat.reduceBEq, chunk, setAt, reduceCtorEq, Nat.reduceEqDiff, reduceIte, implies_true, forall_const, Nat.reduceMul, Nat.reduceSub, Nat.reduceAdd, Nat.reduceLeDiff, g0, *]) | (simp only [zgPack]) | (with_reducible apply And.intro) | (with_reducible intro _))
  refine sboxed_z HV.out (HH.out.ext _) HR.out fun w hw0 => ?_
  by_cases hbx : boxedA A k v = 0
  ·have hw := hw0 hbx
   obtain ⟨a, hd, e1, e2, e3, e4, e5, e6, e7, e8, e9⟩ := rch_facts HH.out HR.out hm
   have hb : ∀ X, (H ++ X)[p]? = some (.box [.own σ.w σ.gw 0 F.length false, .own σ.a σ.ga 0 AT.length false, .own σ.h σ.gh 0 A.hd.length false]) := fun X => (HH.out.ext X).box
   have r5 : ∀ X, elemZ (H ++ X) 1 m (.own σ.a σ.ga 0 AT.length false) = some (.eptr σ.a σ.ga m 0) := fun X => a_el (HH.out.ext X) e9
   have r6 : ∀ X, ldZ (H ++ X) none (.eptr σ.a σ.ga m 0) = some (Z64 (a : Int)) := fun X => by rw [← e1]; exact a_ld (HH.out.ext X) e9
   have HX := Lib.hid e2
   have HLG := Lib.hid e4
   rw [hbx]
   by_cases c1 : i < 0
   ·have hE : setE A (m : Int) i k v = 1 := by unfold setE; rw [if_neg (by rw [h0]; simp), if_neg (by rw [hbx]; simp), if_pos (.inl c1)]
    have fin := SM.out (by unfold setS; rw [if_neg (by rw [hE]; decide)])
    rw [hE] at fin
    clear e1 e2 e3 e4 e5 e6 e7 e8 e9 h0 hE hw hw0 hbx hm
    repeat' (first | (simp only [zmPack, zxPack, ne_eq, zfree, owners, Nat.reduceLT, zyPack, Nat.reduceBEq, chunk, setAt, reduceCtorEq, Nat.reduceEqDiff, reduceIte, implies_true, forall_const, Nat.reduceMul, Nat.reduceSub, Nat.reduceAdd, Nat.reduceLeDiff, hb, r5, r6, g0, c1, *]) | (simp only [zgPack]) | (with_reducible apply And.intro) | (with_reducible intro _))
   ·obtain ⟨j, rfl⟩ := Int.eq_ofNat_of_zero_le (show 0 ≤ i by omega)
    by_cases c2 : j < (A.val m).length
    ·have hE : setE A (m : Int) (j : Int) k v = 0 := by unfold setE; rw [if_neg (by rw [h0]; simp), if_neg (by rw [hbx]; simp), if_neg (by rw [Int.toNat_natCast]; omega)]
     have hS : setS A (m : Int) (j : Int) k v = putV A m ((A.val m).set j (boxW k v)) := by unfold setS; rw [if_pos hE, Int.toNat_natCast, Int.toNat_natCast]
     obtain ⟨-, hvok, -⟩ := boxedA_ok HV.out hbx
     have hr := HR.out.set hm c2 hvok
     rw [← hw, e1, Int.toNat_natCast] at hr
     have hfit := HR.out.fit (HR.out.cell m hm).1
     rw [HR.out.osz hm, e1, Int.toNat_natCast] at hfit
     have hFl := HR.out.hl
     have hFj : a + 1 + j < F.length := by omega
     have r7 : ∀ X, elemZ (H ++ X) 1 (a + 1 + j) (.own σ.w σ.gw 0 F.length false) = some (.eptr σ.w σ.gw (a + 1 + j) 0) := fun X => w_el (HH.out.ext X) hFj
     have r8 : ∀ X, stZ L (H ++ X) [.val (.int .u64 w)] (.eptr σ.w σ.gw (a + 1 + j) 0) = some ((H ++ X).set σ.w (.grow σ.gw 1 ((F.set (a + 1 + j) w).map eU))) := fun X => w_st (HH.out.ext X) hFj (hL _)
     have c3 : ¬ (((A.val m).length : Int) ≤ (j : Int)) := by omega
     have w1 : IntKind.i64.wrap ((a : Int) + 1) = ((a + 1 : Nat) : Int) := by rw [IntWalk.i64_in _ (by omega)]; omega
     have w2 : IntKind.i64.wrap (((a + 1 : Nat) : Int) + (j : Int)) = ((a + 1 + j : Nat) : Int) := by rw [IntWalk.i64_in _ (by omega)]; omega
     have fin : ∀ X, Fin H (Z64 0) ((H ++ X).set σ.w (.grow σ.gw 1 ((F.set (a + 1 + j) w).map eU))) K := fun X => by
      obtain ⟨q1, q2⟩ := (HH.out.ext X).setW (F' := F.set (a + 1 + j) w) (by rw [List.length_set])
      have := HK.out _ (by rw [hS]; exact ⟨_, AT, q1, hr, by rw [List.length_set]; exact H3.out⟩) (FrS.pre q2)
      rw [hE] at this
      exact Fin.keep this
     clear e1 e2 e3 e4 e5 e6 e7 e8 e9 h0 hE hw hw0 hbx hm hS hvok hr hfit hFl hFj c2
     repeat' (first | (simp only [zmPack, zxPack, ne_eq, zfree, owners, Nat.reduceLT, zyPack, Nat.reduceBEq, chunk, setAt, reduceCtorEq, Nat.reduceEqDiff, reduceIte, implies_true, forall_const, Nat.reduceMul, Nat.reduceSub, Nat.reduceAdd, Nat.reduceLeDiff, hb, r5, r6, g0, *]) | (simp only [zgPack]) | (with_reducible apply And.intro) | (with_reducible intro _))
     refine slong_z (HH.out.ext _) HX.out ?_
     rw [HLG.out]
     repeat' (first | (simp only [zmPack, zxPack, ne_eq, zfree, owners, Nat.reduceLT, zyPack, Nat.reduceBEq, chunk, setAt, reduceCtorEq, Nat.reduceEqDiff, reduceIte, implies_true, forall_const, Nat.reduceMul, Nat.reduceSub, Nat.reduceAdd, Nat.reduceLeDiff, hb, r5, r6, g0, c3, w1, w2, r7, r8, *]) | (simp only [zgPack]) | (with_reducible apply And.intro) | (with_reducible intro _))
    ·have hE : setE A (m : Int) (j : Int) k v = 1 := by unfold setE; rw [if_neg (by rw [h0]; simp), if_neg (by rw [hbx]; simp), if_pos (by rw [Int.toNat_natCast]; omega)]
     have fin := SM.out (by unfold setS; rw [if_neg (by rw [hE]; decide)])
     rw [hE] at fin
     have c3 : ((A.val m).length : Int) ≤ (j : Int) := by omega
     clear e1 e2 e3 e4 e5 e6 e7 e8 e9 h0 hE hw hw0 hbx hm c2
     repeat' (first | (simp only [zmPack, zxPack, ne_eq, zfree, owners, Nat.reduceLT, zyPack, Nat.reduceBEq, chunk, setAt, reduceCtorEq, Nat.reduceEqDiff, reduceIte, implies_true, forall_const, Nat.reduceMul, Nat.reduceSub, Nat.reduceAdd, Nat.reduceLeDiff, hb, r5, r6, g0, *]) | (simp only [zgPack]) | (with_reducible apply And.intro) | (with_reducible intro _))
     refine slong_z (HH.out.ext _) HX.out ?_
     rw [HLG.out]
     repeat' (first | (simp only [zmPack, zxPack, ne_eq, zfree, owners, Nat.reduceLT, zyPack, Nat.reduceBEq, chunk, setAt, reduceCtorEq, Nat.reduceEqDiff, reduceIte, implies_true, forall_const, Nat.reduceMul, Nat.reduceSub, Nat.reduceAdd, Nat.reduceLeDiff, g0, c3, *]) | (simp only [zgPack]) | (with_reducible apply And.intro) | (with_reducible intro _))
  ·have hE : setE A (m : Int) i k v = boxedA A k v := by unfold setE; rw [if_neg (by rw [h0]; simp), if_pos hbx]
   have fin := SM.out (by unfold setS; rw [if_neg (by rw [hE]; exact hbx)])
   rw [hE] at fin
   clear hE hw0 h0
   repeat' (first | (simp only [zmPack, zxPack, ne_eq, zfree, owners, Nat.reduceLT, zyPack, Nat.reduceBEq, chunk, setAt, reduceCtorEq, Nat.reduceEqDiff, reduceIte, implies_true, forall_const, Nat.reduceMul, Nat.reduceSub, Nat.reduceAdd, Nat.reduceLeDiff, g0, hbx, *]) | (simp only [zgPack]) | (with_reducible apply And.intro) | (with_reducible intro _))
 ·have hE : setE A n i k v = namedA A n := by unfold setE; rw [if_pos h0]
  have fin := SM.out (by unfold setS; rw [if_neg (by rw [hE]; exact h0)])
  rw [hE] at fin
  clear hE
  repeat' (first | (simp only [zmPack, zxPack, ne_eq, zfree, owners, Nat.reduceLT, zyPack, Nat.reduceBEq, chunk, setAt, reduceCtorEq, Nat.reduceEqDiff, reduceIte, implies_true, forall_const, Nat.reduceMul, Nat.reduceSub, Nat.reduceAdd, Nat.reduceLeDiff, g0, h0, *]) | (simp only [zgPack]) | (with_reducible apply And.intro) | (with_reducible intro _))
end Go.Proofs.Ytiiefcbiemohhaa
