/-
  The store in ZM: Get, Set, Push, Make, Collect as they are offered.
-/
import Derived.Test.YtiiefcbiemohhaaMrV16
namespace Go.Proofs.Ytiiefcbiemohhaa
open Go Go.RowKit
set_option linter.unusedVariables false
set_option linter.unusedSimpArgs false
variable {tb : List (FuncId × Bool)} {nd : Bool} {L : Nat → Bool} {H : ZH} {K : ZV → ZH → Prop} {p : Nat} {σ : Sg} {F AT : List Int} {HD : List Bool} {A : AS} {u : Nat}
noncomputable def atE (A : AS) (n i : Int) : Int := if namedA A n ≠ 0 then namedA A n else if i < 0 ∨ ((A.val n.toNat).length : Int) ≤ i then 1 else 0
noncomputable def getV (A : AS) (n i : Int) : Int × Int := if atE A n i = 0 then (unKind ((A.val n.toNat).getD i.toNat 0), unNum ((A.val n.toNat).getD i.toNat 0)) else (0, 0)
theorem scell_z {m : Nat} (h : StAt H p σ F AT A.hd) (r : Rep A F AT) (hm : Rch A m) (hK : K (Z64 (m : Int)) H) : ZC (XS tb nd) (cFunc Try.prog) 31 [.ptr p 0, Z64 (atP AT m)] L H K := by
 refine ZC.enter Gh.no (boxX_none (by decide)) f_st_cell (by simp) ?_
 simp only [c_st_cell]
 have hb := h.box
 have fin := Fin.keep (H0 := H) hK
 have HH := Lib.hid h
 have HR := Lib.hid r
 have HM := Lib.hid hm
 clear hK h r hm
 repeat' (first | (simp only [zmPack, zxPack, ne_eq, zfree, owners, Nat.reduceLT, zyPack, Nat.reduceBEq, chunk, setAt, reduceCtorEq, Nat.reduceEqDiff, reduceIte, implies_true, forall_const, Nat.reduceMul, Nat.reduceSub, Nat.reduceAdd, Nat.reduceLeDiff, hb, *]) | (simp only [zgPack]) | (with_reducible apply And.intro) | (with_reducible intro _))
 refine sindex_z (rows_whole HH.out.ats (by simp)) (by rw [HR.out.la]; have := HR.out.ok.n100; omega) fun i hi => ?_
 have hml : m < AT.length := by rw [HR.out.la]; exact HM.out.lt HR.out.ok
 have hme : AT[m]? = some (atP AT m) := by rw [List.getElem?_eq_getElem hml]; simp [atP, List.getD_eq_getElem?_getD, hml]
 have hc := (HR.out.cell m HM.out).1
 have : i = (m : Int) := by
  rcases hi with ⟨_, hno⟩ | ⟨k, rfl, hk⟩
  ·exact absurd (List.mem_of_getElem? hme) hno
  ·have he : atP AT k = atP AT m := by unfold atP; rw [List.getD_eq_getElem?_getD, hk]; rfl
   have := HR.out.inj m k hc he.symm
   omega
 subst this
 clear hi hml hme hc hb
 repeat' (first | (simp only [zmPack, zxPack, ne_eq, zfree, owners, Nat.reduceLT, zyPack, Nat.reduceBEq, chunk, setAt, reduceCtorEq, Nat.reduceEqDiff, reduceIte, implies_true, forall_const, Nat.reduceMul, Nat.reduceSub, Nat.reduceAdd, Nat.reduceLeDiff, *]) | (simp only [zgPack]) | (with_reducible apply And.intro) | (with_reducible intro _))
set_option maxHeartbeats 4000000 in
theorem sget_z {n i : Int} (hib : -9223372036854775808 ≤ i ∧ i ≤ 9223372036854775807) (h : StO H p σ A u) (hK : K (.tuple [.agg [Z64 (getV A n i).1, Z64 (getV A n i).2], Z64 (atE A n i)]) H) : ZC (XS tb nd) (cFunc Try.prog) 19 [.ptr p 0, Z64 n, Z64 i] L H K := by
 refine ZC.enterL Gh.no (boxX_none (by decide)) f_st_get (by simp) fun hLL => ?_
 simp only [c_st_get]
 obtain ⟨F, AT, h1, h2, h3⟩ := h
 have g0 : ∀ A Z, (H ++ (A :: Z))[H.length]? = some A := fun A Z => hl_at0 A Z
 have s0 : ∀ A C Z, (H ++ (A :: Z)).set H.length C = H ++ (C :: Z) := fun A C Z => hl_st0 A C Z
 have l0 : L H.length = true := hLL 0
 have fin : ∀ X, Fin H (.tuple [.agg [Z64 (getV A n i).1, Z64 (getV A n i).2], Z64 (atE A n i)]) (H ++ X) K := fun X => Fin.truncT (Mods.ext H X) rfl (by rw [List.take_left]; exact hK)
 have FN := Lib.hid fin
 have HH := Lib.hid h1
 have HR := Lib.hid h2
 clear hK h3 h1 h2 fin
 repeat' (first | (simp only [zmPack, zxPack, ne_eq, zfree, owners, Nat.reduceLT, zyPack, Nat.reduceBEq, chunk, setAt, reduceCtorEq, Nat.reduceEqDiff, reduceIte, implies_true, forall_const, Nat.reduceMul, Nat.reduceSub, Nat.reduceAdd, Nat.reduceLeDiff, g0, s0, l0, *]) | (simp only [zgPack]) | (with_reducible apply And.intro) | (with_reducible intro _))
 refine snamed_z (HH.out.ext _) HR.out ?_
 by_cases h0 : namedA A n = 0
 ·obtain ⟨m, rfl, hm⟩ := namedA_zero h0
  obtain ⟨a, hd, e1, e2, e3, e4, e5, e6, e7, e8, e9⟩ := rch_facts HH.out HR.out hm
  have hb : ∀ X, (H ++ X)[p]? = some (.box [.own σ.w σ.gw 0 F.length false, .own σ.a σ.ga 0 AT.length false, .own σ.h σ.gh 0 A.hd.length false]) := fun X => (HH.out.ext X).box
  have r5 : ∀ X, elemZ (H ++ X) 1 m (.own σ.a σ.ga 0 AT.length false) = some (.eptr σ.a σ.ga m 0) := fun X => a_el (HH.out.ext X) e9
  have r6 : ∀ X, ldZ (H ++ X) none (.eptr σ.a σ.ga m 0) = some (Z64 (a : Int)) := fun X => by rw [← e1]; exact a_ld (HH.out.ext X) e9
  have HX := Lib.hid e2
  have HLG := Lib.hid e4
  have HM := Lib.hid hm
  have HE8 := Lib.hid e8
  have HE1 := Lib.hid e1
  by_cases c1 : i < 0
  ·have hE : atE A (m : Int) i = 1 := by unfold atE; rw [if_neg (by rw [h0]; simp), if_pos (.inl c1)]
   have fin := FN.out
   unfold getV at fin
   simp only [hE] at fin
   rw [if_neg (by decide)] at fin
   rw [h0]
   clear e1 e2 e3 e4 e5 e6 e7 e8 e9 h0 hE
   repeat' (first | (simp only [zmPack, zxPack, ne_eq, zfree, owners, Nat.reduceLT, zyPack, Nat.reduceBEq, chunk, setAt, reduceCtorEq, Nat.reduceEqDiff, reduceIte, implies_true, forall_const, Nat.reduceMul, Nat.reduceSub, Nat.reduceAdd, Nat.reduceLeDiff, hb, r5, r6, g0, s0, l0, c1, *]) | (simp only [zgPack]) | (with_reducible apply And.intro) | (with_reducible intro _))
  ·obtain ⟨j, rfl⟩ := Int.eq_ofNat_of_zero_le (show 0 ≤ i by omega)
   by_cases c2 : j < (A.val m).length
   ·have hE : atE A (m : Int) (j : Int) = 0 := by unfold atE; rw [if_neg (by rw [h0]; simp), if_neg (by rw [Int.toNat_natCast]; omega)]
    obtain ⟨w, hw⟩ : ∃ w, (A.val m)[j]? = some w := ⟨_, List.getElem?_eq_getElem c2⟩
    have hgd : (A.val m).getD j 0 = w := by rw [List.getD_eq_getElem?_getD, hw]; rfl
    have fin := FN.out
    unfold getV at fin
    simp only [hE, if_true, Int.toNat_natCast, hgd] at fin
    have hwm := List.mem_of_getElem? hw
    obtain ⟨v1, v2, v3⟩ := HR.out.ok.vr m hm w hwm
    have hcell := (HR.out.cell m hm).2.2 j w hw
    rw [e1, Int.toNat_natCast] at hcell
    have hFj := (List.getElem?_eq_some_iff.1 hcell).1
    have hFl := HR.out.hl
    have r7 : ∀ X, elemZ (H ++ X) 1 (a + 1 + j) (.own σ.w σ.gw 0 F.length false) = some (.eptr σ.w σ.gw (a + 1 + j) 0) := fun X => w_el (HH.out.ext X) hFj
    have r8 : ∀ X, ldZ (H ++ X) none (.eptr σ.w σ.gw (a + 1 + j) 0) = some (.val (.int .u64 (mapP AT w))) := fun X => w_ld (HH.out.ext X) hcell
    have c3 : ¬ (((A.val m).length : Int) ≤ (j : Int)) := by omega
    have w1 : IntKind.i64.wrap ((a : Int) + 1) = ((a + 1 : Nat) : Int) := by rw [IntWalk.i64_in _ (by omega)]; omega
    have w2 : IntKind.i64.wrap (((a + 1 : Nat) : Int) + (j : Int)) = ((a + 1 + j : Nat) : Int) := by rw [IntWalk.i64_in _ (by omega)]; omega
    have hun : unE w = 0 := by
     unfold kindI at v2
     by_cases q : unE w = 0
     ·exact q
     ·rw [if_neg q] at v2; omega
    have hW := Lib.hid (HR.out.u _ (List.mem_of_getElem? hcell))
    have s3 : ∀ A B C Z, (H ++ (A :: B :: Z)).set (H.length + 1) C = H ++ (A :: C :: Z) := fun A B C Z => hl_st1 A B C Z
    have g3 : ∀ A B Z, (H ++ (A :: B :: Z))[H.length + 1]? = some B := fun A B Z => hl_at1 A B Z
    have l1 : L (H.length + 1) = true := hLL 1
    rw [h0]
    by_cases hp : placeB w = true
    ·obtain ⟨m2, em2, hm2, q1, q2, q3, q4⟩ := HR.out.ref hm hwm hp
     obtain ⟨k1, k2⟩ : unE w = 0 ∧ unKind w = 5 := by simpa [placeB] using hp
     have hfit := (HR.out.fit q2).1
     obtain ⟨b1, b2, b3, b4, b5, _⟩ := box5 (n := atP AT m2) q2 (by omega)
     rw [← q1] at b1 b2 b3
     rw [k2, em2] at fin
     have HQ := Lib.hid q2
     have HM2 := Lib.hid hm2
     obtain ⟨W, hWW⟩ : ∃ W, W = mapP AT w := ⟨_, rfl⟩
     rw [← hWW] at r8 hW b1 b2 b3
     clear e1 e2 e3 e4 e5 e6 e7 e8 e9 h0 hE hw hgd hwm v1 v2 v3 hcell hFj hFl hun hp em2 hm2 q1 q2 q3 q4 k1 k2 hfit b4 b5 hWW c2
     repeat' (first | (simp only [zmPack, zxPack, ne_eq, zfree, owners, Nat.reduceLT, zyPack, Nat.reduceBEq, chunk, setAt, reduceCtorEq, Nat.reduceEqDiff, reduceIte, implies_true, forall_const, Nat.reduceMul, Nat.reduceSub, Nat.reduceAdd, Nat.reduceLeDiff, hb, r5, r6, g0, s0, l0, *]) | (simp only [zgPack]) | (with_reducible apply And.intro) | (with_reducible intro _))
     refine slong_z (HH.out.ext _) HX.out ?_
     rw [HLG.out]
     repeat' (first | (simp only [zmPack, zxPack, ne_eq, zfree, owners, Nat.reduceLT, zyPack, Nat.reduceBEq, chunk, setAt, reduceCtorEq, Nat.reduceEqDiff, reduceIte, implies_true, forall_const, Nat.reduceMul, Nat.reduceSub, Nat.reduceAdd, Nat.reduceLeDiff, hb, r5, r6, g0, s0, l0, c3, w1, w2, r7, r8, *]) | (simp only [zgPack]) | (with_reducible apply And.intro) | (with_reducible intro _))
     refine sunbox_z hW.out ?_
     rw [b1, b2, b3]
     clear b1 b2 b3
     repeat' (first | (simp only [zmPack, zxPack, ne_eq, zfree, owners, Nat.reduceLT, zyPack, Nat.reduceBEq, chunk, setAt, reduceCtorEq, Nat.reduceEqDiff, reduceIte, implies_true, forall_const, Nat.reduceMul, Nat.reduceSub, Nat.reduceAdd, Nat.reduceLeDiff, g0, s0, l0, s3, g3, l1, *]) | (simp only [zgPack]) | (with_reducible apply And.intro) | (with_reducible intro _))
     refine scell_z (HH.out.ext _) HR.out HM2.out ?_
     repeat' (first | (simp only [zmPack, zxPack, ne_eq, zfree, owners, Nat.reduceLT, zyPack, Nat.reduceBEq, chunk, setAt, reduceCtorEq, Nat.reduceEqDiff, reduceIte, implies_true, forall_const, Nat.reduceMul, Nat.reduceSub, Nat.reduceAdd, Nat.reduceLeDiff, g0, s0, l0, s3, g3, l1, *]) | (simp only [zgPack]) | (with_reducible apply And.intro) | (with_reducible intro _))
    ·have hpf : placeB w = false := by simpa using hp
     have k2 : ¬ unKind w = 5 := fun q => by simp [placeB, hun, q] at hpf
     rw [mapP_no hpf] at r8 hW
     obtain ⟨uk, huk⟩ : ∃ k, k = unKind w := ⟨_, rfl⟩
     obtain ⟨un, hunn⟩ : ∃ k, k = unNum w := ⟨_, rfl⟩
     rw [← huk] at k2 fin
     rw [← hunn] at fin
     have HU := Lib.hid huk
     have HN := Lib.hid hunn
     have HZ := Lib.hid hun
     clear e1 e2 e3 e4 e5 e6 e7 e8 e9 h0 hE hw hgd hwm v1 v2 v3 hcell hFj hFl hun hp hpf c2 huk hunn
     repeat' (first | (simp only [zmPack, zxPack, ne_eq, zfree, owners, Nat.reduceLT, zyPack, Nat.reduceBEq, chunk, setAt, reduceCtorEq, Nat.reduceEqDiff, reduceIte, implies_true, forall_const, Nat.reduceMul, Nat.reduceSub, Nat.reduceAdd, Nat.reduceLeDiff, hb, r5, r6, g0, s0, l0, *]) | (simp only [zgPack]) | (with_reducible apply And.intro) | (with_reducible intro _))
     refine slong_z (HH.out.ext _) HX.out ?_
     rw [HLG.out]
     repeat' (first | (simp only [zmPack, zxPack, ne_eq, zfree, owners, Nat.reduceLT, zyPack, Nat.reduceBEq, chunk, setAt, reduceCtorEq, Nat.reduceEqDiff, reduceIte, implies_true, forall_const, Nat.reduceMul, Nat.reduceSub, Nat.reduceAdd, Nat.reduceLeDiff, hb, r5, r6, g0, s0, l0, c3, w1, w2, r7, r8, *]) | (simp only [zgPack]) | (with_reducible apply And.intro) | (with_reducible intro _))
     refine sunbox_z hW.out ?_
     rw [HZ.out, ← HU.out, ← HN.out]
     repeat' (first | (simp only [zmPack, zxPack, ne_eq, zfree, owners, Nat.reduceLT, zyPack, Nat.reduceBEq, chunk, setAt, reduceCtorEq, Nat.reduceEqDiff, reduceIte, implies_true, forall_const, Nat.reduceMul, Nat.reduceSub, Nat.reduceAdd, Nat.reduceLeDiff, g0, s0, l0, s3, g3, l1, k2, *]) | (simp only [zgPack]) | (with_reducible apply And.intro) | (with_reducible intro _))
   ·have hE : atE A (m : Int) (j : Int) = 1 := by unfold atE; rw [if_neg (by rw [h0]; simp), if_pos (by rw [Int.toNat_natCast]; omega)]
    have fin := FN.out
    unfold getV at fin
    simp only [hE] at fin
    rw [if_neg (by decide)] at fin
    rw [h0]
    have c3 : ((A.val m).length : Int) ≤ (j : Int) := by omega
    clear e1 e2 e3 e4 e5 e6 e7 e8 e9 h0 hE c2
    repeat' (first | (simp only [zmPack, zxPack, ne_eq, zfree, owners, Nat.reduceLT, zyPack, Nat.reduceBEq, chunk, setAt, reduceCtorEq, Nat.reduceEqDiff, reduceIte, implies_true, forall_const, Nat.reduceMul, Nat.reduceSub, Nat.reduceAdd, Nat.reduceLeDiff, hb, r5, r6, g0, s0, l0, *]) | (simp only [zgPack]) | (with_reducible apply And.intro) | (with_reducible intro _))
    refine slong_z (HH.out.ext _) HX.out ?_
    rw [HLG.out]
    repeat' (first | (simp only [zmPack, zxPack, ne_eq, zfree, owners, Nat.reduceLT, zyPack, Nat.reduceBEq, chunk, setAt, reduceCtorEq, Nat.reduceEqDiff, reduceIte, implies_true, forall_const, Nat.reduceMul, Nat.reduceSub, Nat.reduceAdd, Nat.reduceLeDiff, g0, s0, l0, c3, *]) | (simp only [zgPack]) | (with_reducible apply And.intro) | (with_reducible intro _))
 ·have hE : atE A n i = namedA A n := by unfold atE; rw [if_pos h0]
  have fin := FN.out
  unfold getV at fin
  rw [hE, if_neg h0] at fin
  clear hE
  repeat' (first | (simp only [zmPack, zxPack, ne_eq, zfree, owners, Nat.reduceLT, zyPack, Nat.reduceBEq, chunk, setAt, reduceCtorEq, Nat.reduceEqDiff, reduceIte, implies_true, forall_const, Nat.reduceMul, Nat.reduceSub, Nat.reduceAdd, Nat.reduceLeDiff, g0, s0, l0, h0, *]) | (simp only [zgPack]) | (with_reducible apply And.intro) | (with_reducible intro _))
noncomputable def setE (A : AS) (n i k v : Int) : Int := if namedA A n ≠ 0 then namedA A n else if boxedA A k v ≠ 0 then boxedA A k v else if i < 0 ∨ ((A.val n.toNat).length : Int) ≤ i then 1 else 0
noncomputable def setS (A : AS) (n i k v : Int) : AS := if setE A n i k v = 0 then putV A n.toNat ((A.val n.toNat).set i.toNat (boxW k v)) else A
set_option maxHeartbeats 4000000 in
theorem sset_z {n i k v : Int} (hv : -9223372036854775808 ≤ v ∧ v ≤ 9223372036854775807) (h : StO H p σ A u) (hL : ∀ i, L i = true) (hK : ∀ H', StO H' p σ (setS A n i k v) u → FrS p σ σ H H' → K (Z64 (setE A n i k v)) H') : ZC (XS tb nd) (cFunc Try.prog) 16 [.ptr p 0, Z64 n, Z64 i, .agg [Z64 k, Z64 v]] L H K := by
 refine ZC.enter Gh.no (boxX_none (by decide)) f_st_set (by simp) ?_
 simp only [c_st_set]
 have h9 := h
 obtain ⟨F, AT, h1, h2, h3⟩ := h
 have g0 : ∀ A Z, (H ++ (A :: Z))[H.length]? = some A := fun A Z => hl_at0 A Z
 have HH := Lib.hid h1
 have HR := Lib.hid h2
 have H9 := Lib.hid h9
 have H3 := Lib.hid h3
 have HV := Lib.hid hv
 have HK := Lib.hid hK
 have same : setS A n i k v = A → ∀ X, Fin H (Z64 (setE A n i k v)) (H ++ X) K := fun hs X => Fin.trunc (Mods.ext H X) rfl (by rw [List.take_left]; exact HK.out H (by rw [hs]; exact H9.out) FrS.refl)
 have SM := Lib.hid same
 clear hK h3 h1 h2 h9 same hv
 repeat' (first | (simp only [zmPack, zxPack, ne_eq, zfree, owners, Nat.reduceLT, zyPack, Nat.reduceBEq, chunk, setAt, reduceCtorEq, Nat.reduceEqDiff, reduceIte, implies_true, forall_const, Nat.reduceMul, Nat.reduceSub, Nat.reduceAdd, Nat.reduceLeDiff, g0, *]) | (simp only [zgPack]) | (with_reducible apply And.intro) | (with_reducible intro _))
 refine snamed_z (HH.out.ext _) HR.out ?_
 by_cases h0 : namedA A n = 0
 ·obtain ⟨m, rfl, hm⟩ := namedA_zero h0
  rw [h0]
  repeat' (first | (simp only [zmPack, zxPack, ne_eq, zfree, owners, Nat.reduceLT, zyPack, Nat.reduceBEq, chunk, setAt, reduceCtorEq, Nat.reduceEqDiff, reduceIte, implies_true, forall_const, Nat.reduceMul, Nat.reduceSub, Nat.reduceAdd, Nat.reduceLeDiff, g0, *]) | (simp only [zgPack]) | (with_reducible apply And.intro) | (with_reducible intro _))
  refine sboxed_z HV.out (HH.out.ext _) HR.out fun w hw0 => ?_
  by_cases hbx : boxedA A k v = 0
  ·have hw := hw0 hbx
   obtain ⟨a, hd, e1, e2, e3, e4, e5, e6, e7, e8, e9⟩ := rch_facts HH.out HR.out hm
   have hb : ∀ X, (H ++ X)[p]? = some (.box [.own σ.w σ.gw 0 F.length false, .own σ.a σ.ga 0 AT.length false, .own σ.h σ.gh 0 A.hd.length false]) := fun X => (HH.out.ext X).box
   have r5 : ∀ X, elemZ (H ++ X) 1 m (.own σ.a σ.ga 0 AT.length false) = some (.eptr σ.a σ.ga m 0) := fun X => a_el (HH.out.ext X) e9
   have r6 : ∀ X, ldZ (H ++ X) none (.eptr σ.a σ.ga m 0) = some (Z64 (a : Int)) := fun X => by rw [← e1]; exact a_ld (HH.out.ext X) e9
   have HX := Lib.hid e2
   have HLG := Lib.hid e4
   rw [hbx]
   by_cases c1 : i < 0
   ·have hE : setE A (m : Int) i k v = 1 := by unfold setE; rw [if_neg (by rw [h0]; simp), if_neg (by rw [hbx]; simp), if_pos (.inl c1)]
    have fin := SM.out (by unfold setS; rw [if_neg (by rw [hE]; decide)])
    rw [hE] at fin
    clear e1 e2 e3 e4 e5 e6 e7 e8 e9 h0 hE hw hw0 hbx hm
    repeat' (first | (simp only [zmPack, zxPack, ne_eq, zfree, owners, Nat.reduceLT, zyPack, Nat.reduceBEq, chunk, setAt, reduceCtorEq, Nat.reduceEqDiff, reduceIte, implies_true, forall_const, Nat.reduceMul, Nat.reduceSub, Nat.reduceAdd, Nat.reduceLeDiff, hb, r5, r6, g0, c1, *]) | (simp only [zgPack]) | (with_reducible apply And.intro) | (with_reducible intro _))
   ·obtain ⟨j, rfl⟩ := Int.eq_ofNat_of_zero_le (show 0 ≤ i by omega)
    by_cases c2 : j < (A.val m).length
    ·have hE : setE A (m : Int) (j : Int) k v = 0 := by unfold setE; rw [if_neg (by rw [h0]; simp), if_neg (by rw [hbx]; simp), if_neg (by rw [Int.toNat_natCast]; omega)]
     have hS : setS A (m : Int) (j : Int) k v = putV A m ((A.val m).set j (boxW k v)) := by unfold setS; rw [if_pos hE, Int.toNat_natCast, Int.toNat_natCast]
     obtain ⟨-, hvok, -⟩ := boxedA_ok HV.out hbx
     have hr := HR.out.set hm c2 hvok
     rw [← hw, e1, Int.toNat_natCast] at hr
     have hfit := HR.out.fit (HR.out.cell m hm).1
     rw [HR.out.osz hm, e1, Int.toNat_natCast] at hfit
     have hFl := HR.out.hl
     have hFj : a + 1 + j < F.length := by omega
     have r7 : ∀ X, elemZ (H ++ X) 1 (a + 1 + j) (.own σ.w σ.gw 0 F.length false) = some (.eptr σ.w σ.gw (a + 1 + j) 0) := fun X => w_el (HH.out.ext X) hFj
     have r8 : ∀ X, stZ L (H ++ X) [.val (.int .u64 w)] (.eptr σ.w σ.gw (a + 1 + j) 0) = some ((H ++ X).set σ.w (.grow σ.gw 1 ((F.set (a + 1 + j) w).map eU))) := fun X => w_st (HH.out.ext X) hFj (hL _)
     have c3 : ¬ (((A.val m).length : Int) ≤ (j : Int)) := by omega
     have w1 : IntKind.i64.wrap ((a : Int) + 1) = ((a + 1 : Nat) : Int) := by rw [IntWalk.i64_in _ (by omega)]; omega
     have w2 : IntKind.i64.wrap (((a + 1 : Nat) : Int) + (j : Int)) = ((a + 1 + j : Nat) : Int) := by rw [IntWalk.i64_in _ (by omega)]; omega
     have fin : ∀ X, Fin H (Z64 0) ((H ++ X).set σ.w (.grow σ.gw 1 ((F.set (a + 1 + j) w).map eU))) K := fun X => by
      obtain ⟨q1, q2⟩ := (HH.out.ext X).setW (F' := F.set (a + 1 + j) w) (by rw [List.length_set])
      have := HK.out _ (by rw [hS]; exact ⟨_, AT, q1, hr, by rw [List.length_set]; exact H3.out⟩) (FrS.pre q2)
      rw [hE] at this
      exact Fin.keep this
     clear e1 e2 e3 e4 e5 e6 e7 e8 e9 h0 hE hw hw0 hbx hm hS hvok hr hfit hFl hFj c2
     repeat' (first | (simp only [zmPack, zxPack, ne_eq, zfree, owners, Nat.reduceLT, zyPack, Nat.reduceBEq, chunk, setAt, reduceCtorEq, Nat.reduceEqDiff, reduceIte, implies_true, forall_const, Nat.reduceMul, Nat.reduceSub, Nat.reduceAdd, Nat.reduceLeDiff, hb, r5, r6, g0, *]) | (simp only [zgPack]) | (with_reducible apply And.intro) | (with_reducible intro _))
     refine slong_z (HH.out.ext _) HX.out ?_
     rw [HLG.out]
     repeat' (first | (simp only [zmPack, zxPack, ne_eq, zfree, owners, Nat.reduceLT, zyPack, Nat.reduceBEq, chunk, setAt, reduceCtorEq, Nat.reduceEqDiff, reduceIte, implies_true, forall_const, Nat.reduceMul, Nat.reduceSub, Nat.reduceAdd, Nat.reduceLeDiff, hb, r5, r6, g0, c3, w1, w2, r7, r8, *]) | (simp only [zgPack]) | (with_reducible apply And.intro) | (with_reducible intro _))
    ·have hE : setE A (m : Int) (j : Int) k v = 1 := by unfold setE; rw [if_neg (by rw [h0]; simp), if_neg (by rw [hbx]; simp), if_pos (by rw [Int.toNat_natCast]; omega)]
     have fin := SM.out (by unfold setS; rw [if_neg (by rw [hE]; decide)])
     rw [hE] at fin
     have c3 : ((A.val m).length : Int) ≤ (j : Int) := by omega
     clear e1 e2 e3 e4 e5 e6 e7 e8 e9 h0 hE hw hw0 hbx hm c2
     repeat' (first | (simp only [zmPack, zxPack, ne_eq, zfree, owners, Nat.reduceLT, zyPack, Nat.reduceBEq, chunk, setAt, reduceCtorEq, Nat.reduceEqDiff, reduceIte, implies_true, forall_const, Nat.reduceMul, Nat.reduceSub, Nat.reduceAdd, Nat.reduceLeDiff, hb, r5, r6, g0, *]) | (simp only [zgPack]) | (with_reducible apply And.intro) | (with_reducible intro _))
     refine slong_z (HH.out.ext _) HX.out ?_
     rw [HLG.out]
     repeat' (first | (simp only [zmPack, zxPack, ne_eq, zfree, owners, Nat.reduceLT, zyPack, Nat.reduceBEq, chunk, setAt, reduceCtorEq, Nat.reduceEqDiff, reduceIte, implies_true, forall_const, Nat.reduceMul, Nat.reduceSub, Nat.reduceAdd, Nat.reduceLeDiff, g0, c3, *]) | (simp only [zgPack]) | (with_reducible apply And.intro) | (with_reducible intro _))
  ·have hE : setE A (m : Int) i k v = boxedA A k v := by unfold setE; rw [if_neg (by rw [h0]; simp), if_pos hbx]
   have fin := SM.out (by unfold setS; rw [if_neg (by rw [hE]; exact hbx)])
   rw [hE] at fin
   clear hE hw0 h0
   repeat' (first | (simp only [zmPack, zxPack, ne_eq, zfree, owners, Nat.reduceLT, zyPack, Nat.reduceBEq, chunk, setAt, reduceCtorEq, Nat.reduceEqDiff, reduceIte, implies_true, forall_const, Nat.reduceMul, Nat.reduceSub, Nat.reduceAdd, Nat.reduceLeDiff, g0, hbx, *]) | (simp only [zgPack]) | (with_reducible apply And.intro) | (with_reducible intro _))
 ·have hE : setE A n i k v = namedA A n := by unfold setE; rw [if_pos h0]
  have fin := SM.out (by unfold setS; rw [if_neg (by rw [hE]; exact h0)])
  rw [hE] at fin
  clear hE
  repeat' (first | (simp only [zmPack, zxPack, ne_eq, zfree, owners, Nat.reduceLT, zyPack, Nat.reduceBEq, chunk, setAt, reduceCtorEq, Nat.reduceEqDiff, reduceIte, implies_true, forall_const, Nat.reduceMul, Nat.reduceSub, Nat.reduceAdd, Nat.reduceLeDiff, g0, h0, *]) | (simp only [zgPack]) | (with_reducible apply And.intro) | (with_reducible intro _))
end Go.Proofs.Ytiiefcbiemohhaa
