/-
  The store in ZM: Push, Make, Collect as they are offered.
-/
import Derived.Test.YtiiefcbiemohhaaMrV10
import Derived.Test.YtiiefcbiemohhaaMrV17
namespace Go.Proofs.Ytiiefcbiemohhaa
open Go Go.RowKit
set_option linter.unusedVariables false
set_option linter.unusedSimpArgs false
variable {tb : List (FuncId × Bool)} {nd : Bool} {L : Nat → Bool} {H : ZH} {K : ZV → ZH → Prop} {p : Nat} {σ : Sg} {F AT : List Int} {HD : List Bool} {A : AS} {u : Nat}
theorem Rep.size_le (h : Rep A F AT) : size A ≤ F.length := by
 classical
 obtain ⟨Q, hQ⟩ : ∃ Q, Q = (List.range A.mks.length).filter fun n => decide (Rch A n) := ⟨_, rfl⟩
 have hQm : ∀ n, n ∈ Q ↔ Rch A n := fun n => by
  rw [hQ, List.mem_filter, List.mem_range, decide_eq_true_eq]
  exact ⟨fun h => h.2, fun hn => ⟨hn.lt h.ok, hn⟩⟩
 have hQn : (Q.map fun n => (atP AT n).toNat).Nodup := by
  have : Q.Nodup := by rw [hQ]; exact (List.nodup_range).filter _
  rw [List.nodup_iff_pairwise_ne] at this
  rw [List.nodup_iff_pairwise_ne, List.pairwise_map]
  refine this.imp_of_mem fun {a b} ha hb hne e => hne ?_
  have h1 := (h.cell a ((hQm a).1 ha)).1
  have h2 := (h.cell b ((hQm b).1 hb)).1
  exact h.inj a b h1 (by omega)
 have hs := sum_sub (Go.Proofs.Ytiiefcbiemohhaa.osz F) hQn (l2 := objs F 0) fun y hy => by
  obtain ⟨n, hn, rfl⟩ := List.mem_map.1 hy
  exact h.obj' (h.cell n ((hQm n).1 hn)).1
 have ho := objs_sum F _ 0 (Nat.le_refl _)
 have e : (Q.map fun n => (atP AT n).toNat).map (Go.Proofs.Ytiiefcbiemohhaa.osz F) = Q.map fun n => 1 + (A.val n).length := by
  rw [List.map_map]
  exact List.map_congr_left fun n hn => h.osz ((hQm n).1 hn)
 rw [e] at hs
 have he := h.he
 unfold size
 rw [← hQ]
 omega
theorem sCollect_z (h : StO H p σ A u) (hL : ∀ i, L i = true) (hK : ∀ H' σ', StO H' p σ' A (size A) → FrS p σ σ' H H' → size A ≤ u → K (Z64 ((u : Int) - (size A : Int))) H') : ZC (XS tb nd) (cFunc Try.prog) 13 [.ptr p 0] L H K := by
 obtain ⟨F, AT, h1, h2, rfl⟩ := h
 exact scoll_z h1 h2 hL fun H' σ' F' AT' q1 q2 q3 q4 q5 => hK H' σ' ⟨F', AT', q1, q2, q3⟩ q5 q4
noncomputable def pushE (A : AS) (n k v : Int) : Int := if namedA A n ≠ 0 then namedA A n else if boxedA A k v ≠ 0 then boxedA A k v else if 100 ≤ (A.val n.toNat).length ∨ 2000 < size A + 1 then 2 else 0
noncomputable def pushS (A : AS) (n k v : Int) : AS := if pushE A n k v = 0 then putV A n.toNat (A.val n.toNat ++ [boxW k v]) else A
set_option maxHeartbeats 4000000 in
theorem sPush_z {n k v : Int} (hv : -9223372036854775808 ≤ v ∧ v ≤ 9223372036854775807) (h : StO H p σ A u) (hL : ∀ i, L i = true) (hK : ∀ H' σ' u', StO H' p σ' (pushS A n k v) u' → FrS p σ σ' H H' → K (Z64 (pushE A n k v)) H') : ZC (XS tb true) (cFunc Try.prog) 11 [.ptr p 0, Z64 n, .agg [Z64 k, Z64 v]] L H K := by
 refine ZC.enter Gh.no (boxX_none (by decide)) f_st_Push (by simp) ?_
 simp only [c_st_Push]
 have h9 := h
 obtain ⟨F, AT, h1, h2, h3⟩ := h
 have g0 : ∀ A Z, (H ++ (A :: Z))[H.length]? = some A := fun A Z => hl_at0 A Z
 have HH := Lib.hid h1
 have HR := Lib.hid h2
 have H9 := Lib.hid h9
 have HV := Lib.hid hv
 have HK := Lib.hid hK
 have same : pushS A n k v = A → ∀ X, Fin H (Z64 (pushE A n k v)) (H ++ X) K := fun hs X => Fin.trunc (Mods.ext H X) rfl (by rw [List.take_left]; exact HK.out H σ u (by rw [hs]; exact H9.out) FrS.refl)
 have SM := Lib.hid same
 clear hK h3 h1 h2 h9 same hv
 repeat' (first | (simp only [zmPack, zxPack, ne_eq, zfree, owners, Nat.reduceLT, zyPack, Nat.reduceBEq, chunk, setAt, reduceCtorEq, Nat.reduceEqDiff, reduceIte, implies_true, forall_const, Nat.reduceMul, Nat.reduceSub, Nat.reduceAdd, Nat.reduceLeDiff, g0, *]) | (simp only [zgPack]) | (with_reducible apply And.intro) | (with_reducible intro _))
 refine snamed_z (HH.out.ext _) HR.out ?_
 by_cases h0 : namedA A n = 0
 ·obtain ⟨m, rfl, hm⟩ := namedA_zero h0
  rw [h0]
  repeat' (first | (simp only [zmPack, zxPack, ne_eq, zfree, owners, Nat.reduceLT, zyPack, Nat.reduceBEq, chunk, setAt, reduceCtorEq, Nat.reduceEqDiff, reduceIte, implies_true, forall_const, Nat.reduceMul, Nat.reduceSub, Nat.reduceAdd, Nat.reduceLeDiff, g0, *]) | (simp only [zgPack]) | (with_reducible apply And.intro) | (with_reducible intro _))
  refine sboxed_z HV.out (HH.out.ext _) HR.out fun w hw0 => ?_
  by_cases hbx : boxedA A k v = 0
  ·obtain ⟨a, hd, e1, e2, e3, e4, e5, e6, e7, e8, e9⟩ := rch_facts HH.out HR.out hm
   have hb : ∀ X, (H ++ X)[p]? = some (.box [.own σ.w σ.gw 0 F.length false, .own σ.a σ.ga 0 AT.length false, .own σ.h σ.gh 0 A.hd.length false]) := fun X => (HH.out.ext X).box
   have r5 : ∀ X, elemZ (H ++ X) 1 m (.own σ.a σ.ga 0 AT.length false) = some (.eptr σ.a σ.ga m 0) := fun X => a_el (HH.out.ext X) e9
   have r6 : ∀ X, ldZ (H ++ X) none (.eptr σ.a σ.ga m 0) = some (Z64 (a : Int)) := fun X => by rw [← e1]; exact a_ld (HH.out.ext X) e9
   have HX := Lib.hid e2
   have HLG := Lib.hid e4
   rw [hbx]
   by_cases c1 : 100 ≤ (A.val m).length
   ·have hE : pushE A (m : Int) k v = 2 := by unfold pushE; rw [if_neg (by rw [h0]; simp), if_neg (by rw [hbx]; simp), if_pos (.inl (by rw [Int.toNat_natCast]; exact c1))]
    have fin := SM.out (by unfold pushS; rw [if_neg (by rw [hE]; decide)])
    rw [hE] at fin
    have c2 : (100 : Int) ≤ ((A.val m).length : Int) := by omega
    clear e1 e2 e3 e4 e5 e6 e7 e8 e9 h0 hE hw0 hbx hm c1
    repeat' (first | (simp only [zmPack, zxPack, ne_eq, zfree, owners, Nat.reduceLT, zyPack, Nat.reduceBEq, chunk, setAt, reduceCtorEq, Nat.reduceEqDiff, reduceIte, implies_true, forall_const, Nat.reduceMul, Nat.reduceSub, Nat.reduceAdd, Nat.reduceLeDiff, hb, r5, r6, g0, *]) | (simp only [zgPack]) | (with_reducible apply And.intro) | (with_reducible intro _))
    refine slong_z (HH.out.ext _) HX.out ?_
    rw [HLG.out]
    repeat' (first | (simp only [zmPack, zxPack, ne_eq, zfree, owners, Nat.reduceLT, zyPack, Nat.reduceBEq, chunk, setAt, reduceCtorEq, Nat.reduceEqDiff, reduceIte, implies_true, forall_const, Nat.reduceMul, Nat.reduceSub, Nat.reduceAdd, Nat.reduceLeDiff, g0, c2, *]) | (simp only [zgPack]) | (with_reducible apply And.intro) | (with_reducible intro _))
   ·have c2 : ¬ ((100 : Int) ≤ ((A.val m).length : Int)) := by omega
    have HM := Lib.hid hm
    have HC1 := Lib.hid c1
    have HBX := Lib.hid hbx
    have H0 := Lib.hid h0
    have hsz := HR.out.size_le
    clear e1 e2 e3 e4 e5 e6 e7 e8 e9 h0 hw0 hbx hm c1
    repeat' (first | (simp only [zmPack, zxPack, ne_eq, zfree, owners, Nat.reduceLT, zyPack, Nat.reduceBEq, chunk, setAt, reduceCtorEq, Nat.reduceEqDiff, reduceIte, implies_true, forall_const, Nat.reduceMul, Nat.reduceSub, Nat.reduceAdd, Nat.reduceLeDiff, hb, r5, r6, g0, *]) | (simp only [zgPack]) | (with_reducible apply And.intro) | (with_reducible intro _))
    refine slong_z (HH.out.ext _) HX.out ?_
    rw [HLG.out]
    repeat' (first | (simp only [zmPack, zxPack, ne_eq, zfree, owners, Nat.reduceLT, zyPack, Nat.reduceBEq, chunk, setAt, reduceCtorEq, Nat.reduceEqDiff, reduceIte, implies_true, forall_const, Nat.reduceMul, Nat.reduceSub, Nat.reduceAdd, Nat.reduceLeDiff, g0, c2, *]) | (simp only [zgPack]) | (with_reducible apply And.intro) | (with_reducible intro _))
    refine sneeds_z (HH.out.ext _) HR.out ?_
    have hFl := HR.out.hl
    have w1 : IntKind.i64.wrap ((size A : Int) + 1) = ((size A + 1 : Nat) : Int) := by rw [IntWalk.i64_in _ (by omega)]; omega
    by_cases c3 : 2000 < size A + 1
    ·have hE : pushE A (m : Int) k v = 2 := by unfold pushE; rw [if_neg (by rw [H0.out]; simp), if_neg (by rw [HBX.out]; simp), if_pos (.inr c3)]
     have fin := SM.out (by unfold pushS; rw [if_neg (by rw [hE]; decide)])
     rw [hE] at fin
     have c4 : (2000 : Int) < ((size A + 1 : Nat) : Int) := by omega
     clear hE hsz hFl c3
     repeat' (first | (simp only [zmPack, zxPack, ne_eq, zfree, owners, Nat.reduceLT, zyPack, Nat.reduceBEq, chunk, setAt, reduceCtorEq, Nat.reduceEqDiff, reduceIte, implies_true, forall_const, Nat.reduceMul, Nat.reduceSub, Nat.reduceAdd, Nat.reduceLeDiff, g0, w1, c4, *]) | (simp only [zgPack]) | (with_reducible apply And.intro) | (with_reducible intro _))
    ·have hE : pushE A (m : Int) k v = 0 := by unfold pushE; rw [if_neg (by rw [H0.out]; simp), if_neg (by rw [HBX.out]; simp), if_neg (by rw [Int.toNat_natCast]; have := HC1.out; omega)]
     have hS : pushS A (m : Int) k v = putV A m (A.val m ++ [boxW k v]) := by unfold pushS; rw [if_pos hE, Int.toNat_natCast]
     have c4 : ¬ ((2000 : Int) < ((size A + 1 : Nat) : Int)) := by omega
     have HE := Lib.hid hE
     have HS := Lib.hid hS
     have H3 := Lib.hid c3
     clear hE hS hsz hFl c3
     repeat' (first | (simp only [zmPack, zxPack, ne_eq, zfree, owners, Nat.reduceLT, zyPack, Nat.reduceBEq, chunk, setAt, reduceCtorEq, Nat.reduceEqDiff, reduceIte, implies_true, forall_const, Nat.reduceMul, Nat.reduceSub, Nat.reduceAdd, Nat.reduceLeDiff, g0, w1, c4, *]) | (simp only [zgPack]) | (with_reducible apply And.intro) | (with_reducible intro _))
     refine spush_z HV.out (HH.out.ext _) HR.out HM.out (by have := HC1.out; omega) (by have := H3.out; omega) HBX.out hL fun H' σ' F' AT' q1 q2 q3 => ?_
     have fin := Fin.keep (H0 := H) (HK.out H' σ' F'.length (by rw [HS.out]; exact ⟨F', AT', q1, q2, rfl⟩) q3.pre)
     rw [HE.out] at fin
     clear q1 q2 q3 hb r5 r6
     repeat' (first | (simp only [zmPack, zxPack, ne_eq, zfree, owners, Nat.reduceLT, zyPack, Nat.reduceBEq, chunk, setAt, reduceCtorEq, Nat.reduceEqDiff, reduceIte, implies_true, forall_const, Nat.reduceMul, Nat.reduceSub, Nat.reduceAdd, Nat.reduceLeDiff, *]) | (simp only [zgPack]) | (with_reducible apply And.intro) | (with_reducible intro _))
  ·have hE : pushE A (m : Int) k v = boxedA A k v := by unfold pushE; rw [if_neg (by rw [h0]; simp), if_pos hbx]
   have fin := SM.out (by unfold pushS; rw [if_neg (by rw [hE]; exact hbx)])
   rw [hE] at fin
   clear hE hw0 h0
   repeat' (first | (simp only [zmPack, zxPack, ne_eq, zfree, owners, Nat.reduceLT, zyPack, Nat.reduceBEq, chunk, setAt, reduceCtorEq, Nat.reduceEqDiff, reduceIte, implies_true, forall_const, Nat.reduceMul, Nat.reduceSub, Nat.reduceAdd, Nat.reduceLeDiff, g0, hbx, *]) | (simp only [zgPack]) | (with_reducible apply And.intro) | (with_reducible intro _))
 ·have hE : pushE A n k v = namedA A n := by unfold pushE; rw [if_pos h0]
  have fin := SM.out (by unfold pushS; rw [if_neg (by rw [hE]; exact h0)])
  rw [hE] at fin
  clear hE
  repeat' (first | (simp only [zmPack, zxPack, ne_eq, zfree, owners, Nat.reduceLT, zyPack, Nat.reduceBEq, chunk, setAt, reduceCtorEq, Nat.reduceEqDiff, reduceIte, implies_true, forall_const, Nat.reduceMul, Nat.reduceSub, Nat.reduceAdd, Nat.reduceLeDiff, g0, h0, *]) | (simp only [zgPack]) | (with_reducible apply And.intro) | (with_reducible intro _))
noncomputable def makeE (A : AS) (mk : Int) : Int := if mk < 0 ∨ 2147483648 ≤ mk then 1 else if 100 ≤ A.mks.length ∨ 2000 < size A + 1 then 2 else 0
noncomputable def makeN (A : AS) (mk : Int) : Int := if makeE A mk = 0 then (A.mks.length : Int) else 0
noncomputable def makeS (A : AS) (mk : Int) : AS := if makeE A mk = 0 then makeA A mk else A
abbrev stHa (H : ZH) (p : Nat) (σ : Sg) (F AT : List Int) (HD : List Bool) (x : Int) : ZH := (H.set σ.a (.grow (σ.ga + 1) 1 ((AT ++ [x]).map eI))).set p (.box [.own σ.w σ.gw 0 F.length false, .own σ.a (σ.ga + 1) 0 (AT.length + 1) false, .own σ.h σ.gh 0 HD.length false])
theorem StAt.growA (h : StAt H p σ F AT HD) (x : Int) : StAt (stHa H p σ F AT HD x) p ⟨σ.w, σ.gw, σ.a, σ.ga + 1, σ.h, σ.gh⟩ F (AT ++ [x]) HD ∧ FrS p σ ⟨σ.w, σ.gw, σ.a, σ.ga + 1, σ.h, σ.gh⟩ H (stHa H p σ F AT HD x) := by
 have hp := lt_of_get h.box
 refine ⟨⟨by rw [List.getElem?_set_self (by simpa using hp), List.length_append]; rfl, by rw [List.getElem?_set_ne h.pw, List.getElem?_set_ne (Ne.symm h.wa)]; exact h.ws, by rw [List.getElem?_set_ne h.pa, List.getElem?_set_self (lt_of_get h.ats)], by rw [List.getElem?_set_ne h.ph, List.getElem?_set_ne h.ah]; exact h.hs, h.wa, h.wh, h.ah⟩, ⟨by simp, fun i B hi hw ha hh hb => by rw [List.getElem?_set_ne (Ne.symm hi), List.getElem?_set_ne (Ne.symm ha)]; exact hb, .inl rfl, rfl, rfl⟩⟩
abbrev stHh (H : ZH) (p : Nat) (σ : Sg) (F AT : List Int) (HD : List Bool) (x : Bool) : ZH := (H.set σ.h (.grow (σ.gh + 1) 1 ((HD ++ [x]).map eB))).set p (.box [.own σ.w σ.gw 0 F.length false, .own σ.a σ.ga 0 AT.length false, .own σ.h (σ.gh + 1) 0 (HD.length + 1) false])
theorem StAt.growH (h : StAt H p σ F AT HD) (x : Bool) : StAt (stHh H p σ F AT HD x) p ⟨σ.w, σ.gw, σ.a, σ.ga, σ.h, σ.gh + 1⟩ F AT (HD ++ [x]) ∧ FrS p σ ⟨σ.w, σ.gw, σ.a, σ.ga, σ.h, σ.gh + 1⟩ H (stHh H p σ F AT HD x) := by
 have hp := lt_of_get h.box
 refine ⟨⟨by rw [List.getElem?_set_self (by simpa using hp), List.length_append]; rfl, by rw [List.getElem?_set_ne h.pw, List.getElem?_set_ne (Ne.symm h.wh)]; exact h.ws, by rw [List.getElem?_set_ne h.pa, List.getElem?_set_ne (Ne.symm h.ah)]; exact h.ats, by rw [List.getElem?_set_ne h.ph, List.getElem?_set_self (lt_of_get h.hs)], h.wa, h.wh, h.ah⟩, ⟨by simp, fun i B hi hw ha hh hb => by rw [List.getElem?_set_ne (Ne.symm hi), List.getElem?_set_ne (Ne.symm hh)]; exact hb, .inl rfl, rfl, rfl⟩⟩
theorem sshl (a : Int) : binV .shl (.int .u64 a) (.int .u64 32) = some (.int .u64 (IntKind.u64.wrap (a * 2 ^ 32))) := by simp [binV, IntKind.bits]
def c_smT3 : ACode := .seq (.ops [⟨(some 54), .mv (.tmp 0), none, true⟩,
 ⟨(some 55), .mv (.tmp 0), none, true⟩,
 ⟨(some 56), .nilCheck (.tmp 55), none, true⟩,
 ⟨(some 57), .fieldAddr 0 (.tmp 56), none, true⟩,
 ⟨(some 58), .load none (.tmp 57), none, true⟩,
 ⟨(some 59), .mv (.tmp 1), none, true⟩,
 ⟨(some 60), .conv .u64 (.tmp 59), none, true⟩,
 ⟨(some 61), .bin .shl (.tmp 60) (.av (.val (.int .u64 32))), none, true⟩,
 ⟨(some 62), .lits 1 1 [(.val (.int .u64 0))] [(0, 1, (.tmp 61))], none, true⟩,
 ⟨(some 63), .append 1 8 (.tmp 58) (.tmp 62), none, true⟩,
 ⟨(some 64), .nilCheck (.tmp 54), none, true⟩,
 ⟨(some 65), .fieldAddr 0 (.tmp 64), none, true⟩,
 ⟨none, .store 1 (.tmp 65) (.tmp 63), none, true⟩])
 (.seq (.ops [⟨(some 66), .mv (.tmp 0), none, true⟩,
 ⟨(some 67), .nilCheck (.tmp 66), none, true⟩,
 ⟨(some 68), .fieldAddr 1 (.tmp 67), none, true⟩,
 ⟨(some 69), .load none (.tmp 68), none, true⟩,
 ⟨(some 70), .len (.tmp 69), none, true⟩,
 ⟨(some 71), .bin .sub (.tmp 70) (.av (.val (.int .i64 1))), none, true⟩,
 ⟨(some 4), .mv (.tmp 71), none, true⟩,
 ⟨(some 5), .mv (.av (.val (.int .i64 0))), none, true⟩])
 (.ret))
def c_smT2 : ACode := .seq (.ops [⟨(some 45), .mv (.tmp 0), none, true⟩,
 ⟨(some 46), .mv (.tmp 0), none, true⟩,
 ⟨(some 47), .nilCheck (.tmp 46), none, true⟩,
 ⟨(some 48), .fieldAddr 2 (.tmp 47), none, true⟩,
 ⟨(some 49), .load none (.tmp 48), none, true⟩,
 ⟨(some 50), .lits 1 1 [(.val (.bool false))] [(0, 1, (.av (.val (.bool true))))], none, true⟩,
 ⟨(some 51), .append 1 1 (.tmp 49) (.tmp 50), none, true⟩,
 ⟨(some 52), .nilCheck (.tmp 45), none, true⟩,
 ⟨(some 53), .fieldAddr 2 (.tmp 52), none, true⟩,
 ⟨none, .store 1 (.tmp 53) (.tmp 51), none, true⟩])
 c_smT3
def c_smT1 : ACode := .seq (.opsD [⟨(some 31), .mv (.tmp 0), none, true⟩,
 ⟨(some 32), .mv (.tmp 0), none, true⟩,
 ⟨(some 33), .nilCheck (.tmp 32), none, true⟩,
 ⟨(some 34), .fieldAddr 1 (.tmp 33), none, true⟩,
 ⟨(some 35), .load none (.tmp 34), none, true⟩,
 ⟨(some 36), .mv (.tmp 0), none, true⟩,
 ⟨(some 37), .nilCheck (.tmp 36), none, true⟩,
 ⟨(some 38), .fieldAddr 0 (.tmp 37), none, true⟩,
 ⟨(some 39), .load none (.tmp 38), none, true⟩,
 ⟨(some 40), .len (.tmp 39), none, true⟩,
 ⟨(some 41), .lits 1 1 [(.val (.int .i64 0))] [(0, 1, (.tmp 40))], none, true⟩,
 ⟨(some 42), .append 1 8 (.tmp 35) (.tmp 41), none, true⟩,
 ⟨(some 43), .nilCheck (.tmp 31), none, true⟩,
 ⟨(some 44), .fieldAddr 1 (.tmp 43), none, true⟩,
 ⟨none, .store 1 (.tmp 44) (.tmp 42), none, true⟩])
 c_smT2
def c_st_make : ACode := .seq (.ops [⟨(some 4), .mv (.av (.val (.int .i64 0))), none, true⟩,
 ⟨(some 5), .mv (.av (.val (.int .i64 0))), none, true⟩])
 (.seq (.block 0 (.seq (.ops [⟨(some 7), .mv (.tmp 1), none, true⟩,
 ⟨(some 8), .bin .lss (.tmp 7) (.av (.val (.int .i64 0))), none, true⟩,
 ⟨(some 9), .mv (.tmp 8), none, true⟩,
 ⟨(some 10), .mv (.tmp 1), (some (9, false)), true⟩,
 ⟨(some 11), .bin .geq (.tmp 10) (.av (.val (.int .i64 2147483648))), (some (9, false)), true⟩,
 ⟨(some 12), .pick (.tmp 9) (.av (.val (.bool true))) (.tmp 11), none, true⟩,
 ⟨(some 6), .mv (.tmp 12), none, true⟩])
 (.cond (.tmp 6)
 (.seq (.ops [⟨(some 4), .mv (.av (.val (.int .i64 0))), none, true⟩,
 ⟨(some 5), .mv (.av (.val (.int .i64 1))), none, true⟩])
 (.ret))
 (.seq (.ops [⟨(some 14), .mv (.tmp 0), none, true⟩,
 ⟨(some 15), .nilCheck (.tmp 14), none, true⟩,
 ⟨(some 16), .fieldAddr 1 (.tmp 15), none, true⟩,
 ⟨(some 17), .load none (.tmp 16), none, true⟩,
 ⟨(some 18), .len (.tmp 17), none, true⟩,
 ⟨(some 19), .bin .geq (.tmp 18) (.av (.val (.int .i64 100))), none, true⟩,
 ⟨(some 20), .mv (.tmp 19), none, true⟩,
 ⟨(some 21), .mv (.tmp 0), (some (20, false)), true⟩,
 ⟨(some 22), .call (.av (.func 22 [])) [(.tmp 21)], (some (20, false)), true⟩,
 ⟨(some 23), .bin .add (.tmp 22) (.av (.val (.int .i64 1))), (some (20, false)), true⟩,
 ⟨(some 24), .bin .gtr (.tmp 23) (.av (.val (.int .i64 2000))), (some (20, false)), true⟩,
 ⟨(some 25), .pick (.tmp 20) (.av (.val (.bool true))) (.tmp 24), none, true⟩,
 ⟨(some 26), .mv (.tmp 25), none, true⟩,
 ⟨(some 27), .mv (.tmp 0), (some (26, false)), true⟩,
 ⟨(some 28), .call (.av (.func 23 [])) [(.tmp 27), (.av (.val (.int .i64 1)))], (some (26, false)), true⟩,
 ⟨(some 29), .un .not (.tmp 28), (some (26, false)), true⟩,
 ⟨(some 30), .pick (.tmp 26) (.av (.val (.bool true))) (.tmp 29), none, true⟩,
 ⟨(some 13), .mv (.tmp 30), none, true⟩])
 (.cond (.tmp 13)
 (.seq (.ops [⟨(some 4), .mv (.av (.val (.int .i64 0))), none, true⟩,
 ⟨(some 5), .mv (.av (.val (.int .i64 2))), none, true⟩])
 (.ret))
 (.skip))))))
 c_smT1)
theorem f_st_make : cFunc Try.prog 9 = some ⟨72, c_st_make, [.tmp 4, .tmp 5]⟩ := by kernel_rfl

theorem smT1_z {S : ZS} {KK : AExit → ZS → ZH → Prop} {mk : Int} (h : StAt H p σ F AT HD) (hl : F.length ≤ 2000) (ha : AT.length ≤ 100) (hL : ∀ i, L i = true) (h0 : S 0 = .ptr p 0) (h1 : S 1 = Z64 mk)
  (hK : ∀ S' H' σ', S' 0 = .ptr p 0 → S' 1 = Z64 mk → StAt H' p σ' F (AT ++ [(F.length : Int)]) HD → FrS p σ σ' H H' → zW (XS tb true) (cFunc Try.prog) Gh.no L c_smT2 S' H' KK) : zW (XS tb true) (cFunc Try.prog) Gh.no L c_smT1 S H KK := by
 simp only [c_smT1]
 obtain ⟨g1, g1f⟩ := h.growA (F.length : Int)
 have b1 := h.box
 have s1 := h.ats
 have l1 : lenZ H (.own σ.w σ.gw 0 F.length false) = some F.length := by rw [len_own]; exact ⟨_, _, h.ws, rfl⟩
 have hbs : ∀ B, (H.set σ.a B)[p]? = some (.box [.own σ.w σ.gw 0 F.length false, .own σ.a σ.ga 0 AT.length false, .own σ.h σ.gh 0 HD.length false]) := fun B => by
  rw [List.getElem?_set_ne (Ne.symm h.pa)]; exact h.box
 have hap : appZ L H 1 8 [[Z64 (F.length : Int)]] (.own σ.a σ.ga 0 AT.length false) = some (.own σ.a (σ.ga + 1) 0 (AT.length + 1) false, H.set σ.a (.grow (σ.ga + 1) 1 ((AT ++ [(F.length : Int)]).map eI))) := by
  rw [app_own]
  refine ⟨_, h.ats, by simp, by simp; unfold reach; omega, hL _, rfl, ?_⟩
  rw [List.drop_zero, List.take_of_length_le (by simp), List.map_append]; rfl
 have HK := Lib.hid (fun S' a b => hK S' _ _ a b g1 g1f)
 have hpl := lt_of_get h.box
 clear hK g1 g1f h s1 hl ha
 repeat' (first | (simp only [zmPack, zxPack, ne_eq, zfree, owners, Nat.reduceLT, zyPack, Nat.reduceBEq, chunk, setAt, reduceCtorEq, Nat.reduceEqDiff, reduceIte, implies_true, forall_const, Nat.reduceMul, Nat.reduceSub, Nat.reduceAdd, Nat.reduceLeDiff, b1, l1, hap, hbs, h0, h1, hL, hpl, *]) | (simp only [zgPack]) | (with_reducible apply And.intro) | (with_reducible intro _))
 all_goals exact HK.out _ (by simp [zupd, h0]) (by simp [zupd, h1])
theorem smT2_z {S : ZS} {KK : AExit → ZS → ZH → Prop} {mk : Int} (h : StAt H p σ F AT HD) (ha : HD.length ≤ 100) (hL : ∀ i, L i = true) (h0 : S 0 = .ptr p 0) (h1 : S 1 = Z64 mk)
  (hK : ∀ S' H' σ', S' 0 = .ptr p 0 → S' 1 = Z64 mk → StAt H' p σ' F AT (HD ++ [true]) → FrS p σ σ' H H' → zW (XS tb true) (cFunc Try.prog) Gh.no L c_smT3 S' H' KK) : zW (XS tb true) (cFunc Try.prog) Gh.no L c_smT2 S H KK := by
 simp only [c_smT2]
 obtain ⟨g1, g1f⟩ := h.growH true
 have b1 := h.box
 have hbs : ∀ B, (H.set σ.h B)[p]? = some (.box [.own σ.w σ.gw 0 F.length false, .own σ.a σ.ga 0 AT.length false, .own σ.h σ.gh 0 HD.length false]) := fun B => by
  rw [List.getElem?_set_ne (Ne.symm h.ph)]; exact h.box
 have hap : appZ L H 1 1 [[ZBo true]] (.own σ.h σ.gh 0 HD.length false) = some (.own σ.h (σ.gh + 1) 0 (HD.length + 1) false, H.set σ.h (.grow (σ.gh + 1) 1 ((HD ++ [true]).map eB))) := by
  rw [app_own]
  refine ⟨_, h.hs, by simp, by simp; unfold reach; omega, hL _, rfl, ?_⟩
  rw [List.drop_zero, List.take_of_length_le (by simp), List.map_append]; rfl
 have HK := Lib.hid (fun S' a b => hK S' _ _ a b g1 g1f)
 have hpl := lt_of_get h.box
 clear hK g1 g1f h ha
 repeat' (first | (simp only [zmPack, zxPack, ne_eq, zfree, owners, Nat.reduceLT, zyPack, Nat.reduceBEq, chunk, setAt, reduceCtorEq, Nat.reduceEqDiff, reduceIte, implies_true, forall_const, Nat.reduceMul, Nat.reduceSub, Nat.reduceAdd, Nat.reduceLeDiff, b1, hap, hbs, h0, h1, hL, hpl, *]) | (simp only [zgPack]) | (with_reducible apply And.intro) | (with_reducible intro _))
 all_goals exact HK.out _ (by simp [zupd, h0]) (by simp [zupd, h1])
theorem smT3_z {S : ZS} {KK : AExit → ZS → ZH → Prop} {mk : Int} (hm : 0 ≤ mk ∧ mk < 2147483648) (h : StAt H p σ F AT HD) (hl : F.length ≤ 2000) (ha : AT.length ≤ 200 ∧ 0 < AT.length) (hL : ∀ i, L i = true) (h0 : S 0 = .ptr p 0) (h1 : S 1 = Z64 mk)
  (hK : ∀ S' H' σ', S' 4 = Z64 ((AT.length : Int) - 1) → S' 5 = Z64 0 → StAt H' p σ' (F ++ [mk * 4294967296]) AT HD → FrS p σ σ' H H' → KK .ret S' H') : zW (XS tb true) (cFunc Try.prog) Gh.no L c_smT3 S H KK := by
 simp only [c_smT3]
 obtain ⟨F2, hF2⟩ : ∃ F2, F2 = F ++ [mk * 4294967296] := ⟨_, rfl⟩
 rw [← hF2] at hK
 have hl2 : F2.length = F.length + 1 := by rw [hF2]; simp
 obtain ⟨g1, g1f⟩ := h.growW (σ.gw + 1) F2
 have b1 := h.box
 have b2 := g1.box
 have hbs : ∀ B, (H.set σ.w B)[p]? = some (.box [.own σ.w σ.gw 0 F.length false, .own σ.a σ.ga 0 AT.length false, .own σ.h σ.gh 0 HD.length false]) := fun B => by
  rw [List.getElem?_set_ne (Ne.symm h.pw)]; exact h.box
 have hap : appZ L H 1 8 [[.val (.int .u64 (mk * 4294967296))]] (.own σ.w σ.gw 0 F.length false) = some (.own σ.w (σ.gw + 1) 0 F2.length false, H.set σ.w (.grow (σ.gw + 1) 1 (F2.map eU))) := by
  rw [app_own]
  refine ⟨_, h.ws, by simp, by simp; unfold reach; omega, hL _, by rw [hl2]; rfl, ?_⟩
  rw [List.drop_zero, List.take_of_length_le (by simp), hF2, List.map_append]; rfl
 have l4 : ∀ B, lenZ ((H.set σ.w B).set p (.box [.own σ.w (σ.gw + 1) 0 F2.length false, .own σ.a σ.ga 0 AT.length false, .own σ.h σ.gh 0 HD.length false])) (.own σ.a σ.ga 0 AT.length false) = some AT.length := fun B => by
  rw [len_own]; exact ⟨_, _, by rw [List.getElem?_set_ne h.pa, List.getElem?_set_ne h.wa]; exact h.ats, rfl⟩
 have HK := Lib.hid (fun S' a b => hK S' _ _ a b g1 g1f)
 have hpl := lt_of_get h.box
 have w1 : IntKind.u64.wrap mk = mk := by simp only [IntKind.wrap, IntKind.bits, IntKind.signed]; simp; omega
 have w2 : IntKind.u64.wrap (mk * 2 ^ 32) = mk * 4294967296 := by simp only [IntKind.wrap, IntKind.bits, IntKind.signed]; simp; omega
 have w3 : IntKind.i64.wrap ((AT.length : Int) - 1) = (AT.length : Int) - 1 := IntWalk.i64_in _ (by omega)
 clear hK g1 g1f h hl ha hm hF2 hl2
 repeat' (first | (simp only [zmPack, zxPack, ne_eq, zfree, owners, Nat.reduceLT, zyPack, Nat.reduceBEq, chunk, setAt, reduceCtorEq, Nat.reduceEqDiff, reduceIte, implies_true, forall_const, Nat.reduceMul, Nat.reduceSub, Nat.reduceAdd, Nat.reduceLeDiff, b1, b2, hap, hbs, h0, h1, hL, hpl, sshl, w1, w2, w3, l4, *]) | (simp only [zgPack]) | (with_reducible apply And.intro) | (with_reducible intro _))
 all_goals exact HK.out _ (by simp [zupd]) (by simp [zupd])
set_option maxHeartbeats 8000000 in
theorem sMake_z {mk : Int} (h : StO H p σ A u) (hL : ∀ i, L i = true) (hK : ∀ H' σ' u', StO H' p σ' (makeS A mk) u' → FrS p σ σ' H H' → (makeE A mk = 0 → u + 1 ≤ 2000 → u' = u + 1) → K (.tuple [Z64 (makeN A mk), Z64 (makeE A mk)]) H') : ZC (XS tb true) (cFunc Try.prog) 9 [.ptr p 0, Z64 mk] L H K := by
 refine ZC.enter Gh.no (boxX_none (by decide)) f_st_make (by simp) ?_
 rw [c_st_make]
 have h9 := h
 obtain ⟨F, AT, h1, h2, h3⟩ := h
 have hb := h1.box
 have hlA : lenZ H (.own σ.a σ.ga 0 AT.length false) = some AT.length := by rw [len_own]; exact ⟨_, _, h1.ats, rfl⟩
 have HH := Lib.hid h1
 have HR := Lib.hid h2
 have H9 := Lib.hid h9
 have HU := Lib.hid h3
 have HK := Lib.hid hK
 have same : ∀ e, makeE A mk = e → e ≠ 0 → Fin H (.tuple [Z64 0, Z64 e]) H K := fun e he h0 => by
  have hS : makeS A mk = A := by unfold makeS; rw [if_neg (by rw [he]; exact h0)]
  have hN : makeN A mk = 0 := by unfold makeN; rw [if_neg (by rw [he]; exact h0)]
  have := HK.out H σ u (by rw [hS]; exact H9.out) FrS.refl (fun h _ => absurd (he.symm.trans h) h0)
  rw [hN, he] at this
  exact Fin.keep this
 have SM := Lib.hid same
 clear hK h3 h1 h2 h9 same
 by_cases c1 : mk < 0
 ·have fin := SM.out 1 (by unfold makeE; rw [if_pos (.inl c1)]) (by decide)
  repeat' (first | (simp only [zmPack, zxPack, ne_eq, zfree, owners, Nat.reduceLT, zyPack, Nat.reduceBEq, chunk, setAt, reduceCtorEq, Nat.reduceEqDiff, reduceIte, implies_true, forall_const, Nat.reduceMul, Nat.reduceSub, Nat.reduceAdd, Nat.reduceLeDiff, c1, *]) | (simp only [zgPack]) | (with_reducible apply And.intro) | (with_reducible intro _))
 ·by_cases c2 : 2147483648 ≤ mk
  ·have fin := SM.out 1 (by unfold makeE; rw [if_pos (.inr c2)]) (by decide)
   repeat' (first | (simp only [zmPack, zxPack, ne_eq, zfree, owners, Nat.reduceLT, zyPack, Nat.reduceBEq, chunk, setAt, reduceCtorEq, Nat.reduceEqDiff, reduceIte, implies_true, forall_const, Nat.reduceMul, Nat.reduceSub, Nat.reduceAdd, Nat.reduceLeDiff, c1, c2, *]) | (simp only [zgPack]) | (with_reducible apply And.intro) | (with_reducible intro _))
  ·have hA100 := HR.out.ok.n100
   have hla := HR.out.la
   rw [hla] at hb hlA
   by_cases c3 : 100 ≤ A.mks.length
   ·have fin := SM.out 2 (by unfold makeE; rw [if_neg (by omega), if_pos (.inl c3)]) (by decide)
    have c4 : (100 : Int) ≤ (A.mks.length : Int) := by omega
    clear hA100 hla c3
    repeat' (first | (simp only [zmPack, zxPack, ne_eq, zfree, owners, Nat.reduceLT, zyPack, Nat.reduceBEq, chunk, setAt, reduceCtorEq, Nat.reduceEqDiff, reduceIte, implies_true, forall_const, Nat.reduceMul, Nat.reduceSub, Nat.reduceAdd, Nat.reduceLeDiff, c1, c2, hb, hlA, c4, *]) | (simp only [zgPack]) | (with_reducible apply And.intro) | (with_reducible intro _))
   ·have c4 : ¬ ((100 : Int) ≤ (A.mks.length : Int)) := by omega
    have C3 := Lib.hid c3
    have HLA := Lib.hid hla
    clear hA100 hla c3
    repeat' (first | (simp only [zmPack, zxPack, ne_eq, zfree, owners, Nat.reduceLT, zyPack, Nat.reduceBEq, chunk, setAt, reduceCtorEq, Nat.reduceEqDiff, reduceIte, implies_true, forall_const, Nat.reduceMul, Nat.reduceSub, Nat.reduceAdd, Nat.reduceLeDiff, c1, c2, hb, hlA, c4, *]) | (simp only [zgPack]) | (with_reducible apply And.intro) | (with_reducible intro _))
    refine sneeds_z HH.out HR.out ?_
    have hsz := HR.out.size_le
    have hFl := HR.out.hl
    have w1 : IntKind.i64.wrap ((size A : Int) + 1) = ((size A + 1 : Nat) : Int) := by rw [IntWalk.i64_in _ (by omega)]; omega
    by_cases c5 : 2000 < size A + 1
    ·have fin := SM.out 2 (by unfold makeE; rw [if_neg (by omega), if_pos (.inr c5)]) (by decide)
     have c6 : (2000 : Int) < ((size A + 1 : Nat) : Int) := by omega
     clear hsz hFl c5
     repeat' (first | (simp only [zmPack, zxPack, ne_eq, zfree, owners, Nat.reduceLT, zyPack, Nat.reduceBEq, chunk, setAt, reduceCtorEq, Nat.reduceEqDiff, reduceIte, implies_true, forall_const, Nat.reduceMul, Nat.reduceSub, Nat.reduceAdd, Nat.reduceLeDiff, w1, c6, *]) | (simp only [zgPack]) | (with_reducible apply And.intro) | (with_reducible intro _))
    ·have c6 : ¬ ((2000 : Int) < ((size A + 1 : Nat) : Int)) := by omega
     have C5 := Lib.hid c5
     have hE : makeE A mk = 0 := by unfold makeE; rw [if_neg (by omega), if_neg (by omega)]
     have hS : makeS A mk = makeA A mk := by unfold makeS; rw [if_pos hE]
     have hN : makeN A mk = (A.mks.length : Int) := by unfold makeN; rw [if_pos hE]
     have HE := Lib.hid hE
     have HS := Lib.hid hS
     have HN := Lib.hid hN
     have C1 := Lib.hid c1
     have C2 := Lib.hid c2
     clear hsz hFl c5 hE hS hN c1 c2
     repeat' (first | (simp only [zmPack, zxPack, ne_eq, zfree, owners, Nat.reduceLT, zyPack, Nat.reduceBEq, chunk, setAt, reduceCtorEq, Nat.reduceEqDiff, reduceIte, implies_true, forall_const, Nat.reduceMul, Nat.reduceSub, Nat.reduceAdd, Nat.reduceLeDiff, w1, c6, *]) | (simp only [zgPack]) | (with_reducible apply And.intro) | (with_reducible intro _))
     refine sroom_z (n := 1) HH.out HR.out hL (by omega) fun H1 σ1 F1 AT1 q1 q2 q3 q3b q4 => ?_
     have c7 : F1.length + 1 ≤ 2000 := by
      by_cases q : F1.length + 1 ≤ 2000
      ·exact q
      ·have := q3 q; have := C5.out; omega
     rw [decide_eq_true c7]
     have hr := q2.make (mark := mk) (by have := C1.out; have := C2.out; omega) c7 (by have := C3.out; omega)
     have hla1 : AT1.length = A.mks.length := q2.la
     have hlh1 : A.hd.length = A.mks.length := q2.ok.lh
     have Q1 := Lib.hid q1
     have Q4 := Lib.hid q4
     have R := Lib.hid hr
     have LA := Lib.hid hla1
     have LH := Lib.hid hlh1
     have C7 := Lib.hid c7
     have Q3 := Lib.hid q3b
     clear q1 q2 q3 q3b q4 hr hla1 hlh1 c7 hb hlA w1 c6 c4
     repeat' (first | (simp only [zmPack, zxPack, ne_eq, zfree, owners, Nat.reduceLT, zyPack, Nat.reduceBEq, chunk, setAt, reduceCtorEq, Nat.reduceEqDiff, reduceIte, implies_true, forall_const, Nat.reduceMul, Nat.reduceSub, Nat.reduceAdd, Nat.reduceLeDiff, *]) | (simp only [zgPack]) | (with_reducible apply And.intro) | (with_reducible intro _))
     refine smT1_z (mk := mk) Q1.out (by have := C7.out; omega) (by have := LA.out; have := C3.out; omega) hL rfl rfl fun S1 H2 σ2 a1 a2 t1 f1 => ?_
     refine smT2_z (mk := mk) t1 (by have := LH.out; have := C3.out; omega) hL a1 a2 fun S2 H3 σ3 a3 a4 t2 f2 => ?_
     refine smT3_z (mk := mk) (by have := C1.out; have := C2.out; omega) t2 (by have := C7.out; omega) (by rw [List.length_append]; have := LA.out; have := C3.out; simp; omega) hL a3 a4 fun S3 H4 σ4 a5 a6 t3 f3 => ?_
     have hFn := HK.out H4 σ4 (F1 ++ [mk * 4294967296]).length (by rw [HS.out]; exact ⟨_, _, t3, R.out, rfl⟩) (Q4.out.trans (f1.trans (f2.trans f3))) (fun _ h => by rw [List.length_append, Q3.out (by have := HU.out; omega)]; have := HU.out; simp; omega)
     rw [HN.out, HE.out] at hFn
     have e5 : S3 4 = Z64 (A.mks.length : Int) := by rw [a5, List.length_append, ← LA.out]; congr 2; simp
     rw [← e5, ← a6] at hFn
     first | exact Fin.keep hFn | exact ⟨.inr rfl, Fin.keep hFn⟩ | exact ⟨.inr rfl, _, rfl, Fin.keep hFn⟩
end Go.Proofs.Ytiiefcbiemohhaa

namespace Go.Proofs.Ytiiefcbiemohhaa
open Go Go.RowKit
set_option linter.unusedVariables false
set_option linter.unusedSimpArgs false
variable {tb : List (FuncId × Bool)} {nd : Bool} {L : Nat → Bool} {H : ZH} {K : ZV → ZH → Prop} {p : Nat} {σ : Sg} {F AT : List Int} {HD : List Bool} {A : AS} {u : Nat}
theorem srest_z {k m : Int} (hm : 0 < m ∧ m ≤ 1000000000) (hK : K (Z64 (k % m)) H) : ZC (XS tb nd) (cFunc Try.prog) 10 [Z64 k, Z64 m] L H K := by
 refine ZC.enter Gh.no (boxX_none (by decide)) f_st_rest (by simp) ?_
 simp only [c_st_rest]
 have hr : binV .rem (.int .i64 k) (.int .i64 m) = some (.int .i64 (k.tmod m)) := by simp [binV]; omega
 have fin := Fin.keep (H0 := H) hK
 have h1 : -m < k.tmod m := by
  have := Int.lt_tmod_of_pos k hm.1
  omega
 have h2 : k.tmod m < m := Int.tmod_lt_of_pos k hm.1
 have h3 : k.tmod m = k % m ∨ k.tmod m = k % m - m := by
  rw [Int.tmod_eq_emod]
  split
  ·left; omega
  ·right; omega
 have h4 := Int.emod_nonneg k (b := m) (by omega)
 have h5 := Int.emod_lt_of_pos k hm.1
 clear hK
 by_cases hn : k.tmod m < 0
 ·have hw : IntKind.i64.wrap (k.tmod m + m) = k % m := by
   rw [IntWalk.i64_in _ (by omega)]; omega
  have F := Lib.hid fin
  clear h3 h4 h5 h1 h2 fin
  obtain ⟨t, ht⟩ : ∃ t, t = k.tmod m := ⟨_, rfl⟩
  rw [← ht] at hr hn hw
  have fin := F.out
  clear ht
  repeat' (first | (simp only [zmPack, zxPack, ne_eq, zfree, owners, Nat.reduceLT, zyPack, Nat.reduceBEq, chunk, setAt, reduceCtorEq, Nat.reduceEqDiff, reduceIte, implies_true, forall_const, Nat.reduceMul, Nat.reduceSub, Nat.reduceAdd, Nat.reduceLeDiff, hr, hn, hw, *]) | (simp only [zgPack]) | (with_reducible apply And.intro) | (with_reducible intro _))
 ·have hw : k.tmod m = k % m := by omega
  have F := Lib.hid fin
  clear h3 h4 h5 h1 h2 fin
  rw [hw] at hr hn
  have fin := F.out
  clear hw
  repeat' (first | (simp only [zmPack, zxPack, ne_eq, zfree, owners, Nat.reduceLT, zyPack, Nat.reduceBEq, chunk, setAt, reduceCtorEq, Nat.reduceEqDiff, reduceIte, implies_true, forall_const, Nat.reduceMul, Nat.reduceSub, Nat.reduceAdd, Nat.reduceLeDiff, hr, hn, *]) | (simp only [zgPack]) | (with_reducible apply And.intro) | (with_reducible intro _))
structure LI (H0 H1 : ZH) (p : Nat) (σ : Sg) : Prop where
  lo : H0.length ≤ p ∧ H0.length ≤ σ.w ∧ H0.length ≤ σ.a ∧ H0.length ≤ σ.h
  len : H0.length ≤ H1.length
  pres : ∀ (i : Nat) B, H0[i]? = some B → H1[i]? = some B
theorem LI.step {H0 H1 H2 : ZH} {σ' : Sg} (h : LI H0 H1 p σ) (f : FrS p σ σ' H1 H2) : LI H0 H2 p σ' := by
 obtain ⟨l1, l2, l3, l4⟩ := h.lo
 have hl := h.len
 refine ⟨⟨l1, ?_, by rw [f.a]; exact l3, by rw [f.h]; exact l4⟩, Nat.le_trans h.len f.len, fun i B hi => ?_⟩
 ·rcases f.w with e | e
  ·rw [e]; exact l2
  ·omega
 ·have := lt_of_get hi
  exact f.keep i B (by omega) (by omega) (by omega) (by omega) (h.pres i B hi)
theorem LI.ext {H0 H1 X : ZH} (h : LI H0 H1 p σ) : LI H0 (H1 ++ X) p σ := h.step FrS.ext
theorem LI.fin {H0 H1 : ZH} {v : Value} (h : LI H0 H1 p σ) (k : K (.val v) H0) : Fin H0 (.val v) H1 K := by
 have ht : H1.take H0.length = H0 := by
  apply List.ext_getElem?
  intro i
  rw [List.getElem?_take]
  split
  ·rename_i hi
   rw [List.getElem?_eq_getElem hi]
   exact h.pres i _ (List.getElem?_eq_getElem hi)
  ·rw [List.getElem?_eq_none (by omega)]
 exact Fin.trunc (fun i B hi hb => .inl (by
  rw [List.getElem?_eq_getElem hi] at *
  have := h.pres i _ (List.getElem?_eq_getElem hi)
  rw [this] at hb; exact hb)) rfl (by rw [ht]; exact k)
theorem size_nil : size ⟨[], [], []⟩ = 0 := by simp [size]
theorem StO.size_le (h : StO H p σ A u) : size A ≤ u := by
 obtain ⟨F, AT, h1, h2, rfl⟩ := h
 exact h2.size_le
theorem make0 {mk : Int} (hm : 0 ≤ mk ∧ mk < 2147483648) (hA : A.mks.length < 100) (hs : size A + 1 ≤ 2000) : makeE A mk = 0 ∧ makeS A mk = makeA A mk ∧ makeN A mk = (A.mks.length : Int) := by
 have hE : makeE A mk = 0 := by unfold makeE; rw [if_neg (by omega), if_neg (by omega)]
 exact ⟨hE, by unfold makeS; rw [if_pos hE], by unfold makeN; rw [if_pos hE]⟩
theorem eqNil_ptr {i o : Nat} : nilZ H 1 (.ptr i o) = some false := rfl
set_option maxHeartbeats 4000000 in
theorem stored_z (htb : tb = []) (hL : ∀ i, L i = true) (hK : K (ZBo true) H) : ZC (XS tb true) (cFunc Try.prog) 7 [] L H K := by
 subst htb
 refine ZC.enter Gh.no (fun args fl hp ha => by
  have : args = [] := List.eq_nil_of_length_eq_zero ha
  subst this
  simp [boxX, constX]) f_st_stored (by simp) ?_
 simp only [c_st_stored]
 have HK := Lib.hid hK
 clear hK
 repeat' (first | (simp only [zmPack, zxPack, ne_eq, zfree, owners, Nat.reduceLT, zyPack, Nat.reduceBEq, chunk, setAt, reduceCtorEq, Nat.reduceEqDiff, reduceIte, implies_true, forall_const, Nat.reduceMul, Nat.reduceSub, Nat.reduceAdd, Nat.reduceLeDiff, *]) | (simp only [zgPack]) | (with_reducible apply And.intro) | (with_reducible intro _))
 refine snew_z rfl fun H1 p σ h1 h2 h3 h4 => ?_
 have li : LI H H1 p σ := ⟨h2, h4, h3⟩
 have LI1 := Lib.hid li
 have S1 := Lib.hid h1
 clear h1 h2 h3 h4 li
 repeat' (first | (simp only [zmPack, zxPack, ne_eq, zfree, owners, Nat.reduceLT, zyPack, Nat.reduceBEq, chunk, setAt, reduceCtorEq, Nat.reduceEqDiff, reduceIte, implies_true, forall_const, Nat.reduceMul, Nat.reduceSub, Nat.reduceAdd, Nat.reduceLeDiff, eqNil_ptr, *]) | (simp only [zgPack]) | (with_reducible apply And.intro) | (with_reducible intro _))
 refine sMake_z S1.out hL fun H2 σ2 u2 q1 q2 q3 => ?_
 obtain ⟨e1, e2, e3⟩ := make0 (A := ⟨[], [], []⟩) (mk := 7) (by omega) (by simp) (by rw [size_nil]; omega)
 have hu : u2 = 1 := q3 e1 (by omega)
 have e4 : makeN ⟨[], [], []⟩ 7 = 0 := e3
 rw [e2] at q1
 rw [e1, e4]
 obtain ⟨A1, hA1⟩ : ∃ A1, A1 = makeA ⟨[], [], []⟩ 7 := ⟨_, rfl⟩
 rw [← hA1] at q1
 have hr : Rch A1 0 := .held (by rw [hA1]; rfl)
 have hn0 : namedA A1 0 = 0 := namedA_rch q1.ok hr
 have hmk : markN A1 0 = 7 := by unfold markN; rw [if_pos hn0, hA1]; rfl
 have hv : A1.val 0 = [] := by rw [hA1]; rfl
 have hsz := q1.size_le
 have hbe : boxE 5 0 = 0 := by decide
 have hpE : pushE A1 0 5 0 = 0 := by
  have hbx : boxedA A1 5 0 = 0 := by unfold boxedA; rw [if_neg (by rw [hbe]; simp), if_neg (by simp), hn0]
  unfold pushE
  rw [if_neg (by rw [hn0]; simp), if_neg (by rw [hbx]; simp), if_neg ?_]
  show ¬ (100 ≤ (A1.val 0).length ∨ _)
  rw [hv]
  simp; omega
 have LI2 := Lib.hid (LI1.out.step q2)
 have S2 := Lib.hid q1
 have HU := Lib.hid hu
 have HM := Lib.hid hmk
 have HN := Lib.hid hn0
 have HP := Lib.hid hpE
 clear q1 q2 q3 e1 e2 e3 e4 hu hA1 hr hn0 hmk hv hsz hbe hpE
 repeat' (first | (simp only [zmPack, zxPack, ne_eq, zfree, owners, Nat.reduceLT, zyPack, Nat.reduceBEq, chunk, setAt, reduceCtorEq, Nat.reduceEqDiff, reduceIte, implies_true, forall_const, Nat.reduceMul, Nat.reduceSub, Nat.reduceAdd, Nat.reduceLeDiff, *]) | (simp only [zgPack]) | (with_reducible apply And.intro) | (with_reducible intro _))
 refine smark_z S2.out ?_
 rw [HM.out, HN.out]
 repeat' (first | (simp only [zmPack, zxPack, ne_eq, zfree, owners, Nat.reduceLT, zyPack, Nat.reduceBEq, chunk, setAt, reduceCtorEq, Nat.reduceEqDiff, reduceIte, implies_true, forall_const, Nat.reduceMul, Nat.reduceSub, Nat.reduceAdd, Nat.reduceLeDiff, *]) | (simp only [zgPack]) | (with_reducible apply And.intro) | (with_reducible intro _))
 refine sused_z S2.out ?_
 rw [show ((u2 : Nat) : Int) = 1 by rw [HU.out]; rfl]
 repeat' (first | (simp only [zmPack, zxPack, ne_eq, zfree, owners, Nat.reduceLT, zyPack, Nat.reduceBEq, chunk, setAt, reduceCtorEq, Nat.reduceEqDiff, reduceIte, implies_true, forall_const, Nat.reduceMul, Nat.reduceSub, Nat.reduceAdd, Nat.reduceLeDiff, *]) | (simp only [zgPack]) | (with_reducible apply And.intro) | (with_reducible intro _))
 refine sPush_z (by omega) S2.out hL fun H3 σ3 u3 r1 r2 => ?_
 rw [HP.out]
 have fin : Fin H (ZBo true) H3 K := (LI2.out.step r2).fin HK.out
 clear r1 r2
 repeat' (first | (simp only [zmPack, zxPack, ne_eq, zfree, owners, Nat.reduceLT, zyPack, Nat.reduceBEq, chunk, setAt, reduceCtorEq, Nat.reduceEqDiff, reduceIte, implies_true, forall_const, Nat.reduceMul, Nat.reduceSub, Nat.reduceAdd, Nat.reduceLeDiff, *]) | (simp only [zgPack]) | (with_reducible apply And.intro) | (with_reducible intro _))
structure DeedR where
  n : Int
  v : Int × Int
  e : Int
  s : AS
noncomputable def deedA (A : AS) (o a i k v : Int) : DeedR :=
  if o % 7 = 0 then ⟨makeN A (i % 100), (0, 0), makeE A (i % 100), makeS A (i % 100)⟩
  else if o % 7 = 1 then ⟨0, (0, 0), pushE A a k v, pushS A a k v⟩
  else if o % 7 = 2 then ⟨0, (0, 0), setE A a i k v, setS A a i k v⟩
  else if o % 7 = 3 then ⟨0, getV A a i, atE A a i, A⟩
  else if o % 7 = 4 then ⟨countN A a, (0, 0), namedA A a, A⟩
  else if o % 7 = 5 then ⟨0, (0, 0), namedA A a, holdS A a⟩
  else ⟨0, (0, 0), dropE A a, dropS A a⟩
theorem StO.setO {H1 : ZH} {i : Nat} {B : ZB} (h : StO H1 p σ A u) (hi : i ≠ p ∧ i ≠ σ.w ∧ i ≠ σ.a ∧ i ≠ σ.h) : StO (H1.set i B) p σ A u := by
 obtain ⟨F, AT, q1, q2, q3⟩ := h
 exact ⟨F, AT, ⟨by rw [List.getElem?_set_ne hi.1]; exact q1.box, by rw [List.getElem?_set_ne hi.2.1]; exact q1.ws, by rw [List.getElem?_set_ne hi.2.2.1]; exact q1.ats, by rw [List.getElem?_set_ne hi.2.2.2]; exact q1.hs, q1.wa, q1.wh, q1.ah⟩, q2, q3⟩
theorem FrS.setO {H1 H2 : ZH} {σ' : Sg} {i : Nat} {B : ZB} (h : FrS p σ σ' H1 H2) (hi : H1.length ≤ i) : FrS p σ σ' H1 (H2.set i B) :=
 ⟨by rw [List.length_set]; exact h.len, fun j C a b c d hj => by rw [List.getElem?_set_ne (by have := lt_of_get hj; omega)]; exact h.keep j C a b c d hj, h.w, h.a, h.h⟩
theorem FrS.foreign {H1 H2 X : ZH} {σ' : Sg} (h : FrS p σ σ' (H1 ++ X) H2) (hlt : p < H1.length ∧ σ.w < H1.length ∧ σ.a < H1.length ∧ σ.h < H1.length) {i : Nat} (hi : H1.length ≤ i) (hx : i < (H1 ++ X).length) : i ≠ p ∧ i ≠ σ'.w ∧ i ≠ σ'.a ∧ i ≠ σ'.h := by
 refine ⟨by omega, ?_, by rw [h.a]; omega, by rw [h.h]; omega⟩
 rcases h.w with e | e
 ·rw [e]; omega
 ·omega
set_option maxHeartbeats 8000000 in
theorem sdeed_z {o a b i k v : Int} (hv : -9223372036854775808 ≤ v ∧ v ≤ 9223372036854775807) (hi : -9223372036854775808 ≤ i ∧ i ≤ 9223372036854775807) (h : StO H p σ A u) (hL : ∀ i, L i = true)
  (hK : ∀ H' σ' u', StO H' p σ' (deedA A o a i k v).s u' → FrS p σ σ' H H' → K (.tuple [Z64 (deedA A o a i k v).n, .agg [Z64 (deedA A o a i k v).v.1, Z64 (deedA A o a i k v).v.2], Z64 (deedA A o a i k v).e]) H') :
  ZC (XS tb true) (cFunc Try.prog) 18 [.ptr p 0, .agg [Z64 o, Z64 a, Z64 b, Z64 i], .agg [Z64 k, Z64 v]] L H K := by
 refine ZC.enter Gh.no (boxX_none (by decide)) f_st_deed (by simp) ?_
 simp only [c_st_deed]
 have g0 : ∀ A Z, (H ++ (A :: Z))[H.length]? = some A := fun A Z => hl_at0 A Z
 have g1 : ∀ A B Z, (H ++ (A :: B :: Z))[H.length + 1]? = some B := fun A B Z => hl_at1 A B Z
 have g2 : ∀ A B C Z, (H ++ (A :: B :: C :: Z))[H.length + 2]? = some C := fun A B C Z => by rw [List.getElem?_append_right (by omega), Nat.add_sub_cancel_left]; rfl
 have s2 : ∀ A B C D Z, (H ++ (A :: B :: C :: Z)).set (H.length + 2) D = H ++ (A :: B :: D :: Z) := fun A B C D Z => by rw [List.set_append_right _ _ (by omega), Nat.add_sub_cancel_left]; rfl
 have HS := Lib.hid h
 have HK := Lib.hid hK
 have HV := Lib.hid hv
 have HI := Lib.hid hi
 have LT := Lib.hid h.lt
 have X3 : ∀ (a b c : ZB), (H ++ [a, b, c]).length = H.length + 3 := fun a b c => by simp
 clear h hK hv hi
 have aft : ∀ (σ' : Sg) (H1 : ZH) (A' : AS) (u' : Nat), StO H1 p σ' A' u' → FrS p σ σ' (H ++ [.box [Z64 o, Z64 a, Z64 b, Z64 i], .box [Z64 k, Z64 v], .box [Z64 0, Z64 0]]) H1 → H1[H.length + 2]? = some (.box [Z64 0, Z64 0]) ∧ ∀ B, StO (H1.set (H.length + 2) B) p σ' A' u' ∧ FrS p σ σ' H (H1.set (H.length + 2) B) := fun σ' H1 A' u' s f => by
  have hne := f.foreign LT.out (i := H.length + 2) (by omega) (by rw [X3]; omega)
  have z := LT.out
  refine ⟨f.keep _ _ (by omega) (by omega) (by omega) (by omega) (g2 _ _ _ _), fun B => ⟨s.setO ⟨hne.1, hne.2.1, hne.2.2.1, hne.2.2.2⟩, (FrS.pre f).setO (by omega)⟩⟩
 have AFT := Lib.hid aft
 clear aft X3
 repeat' (first | (simp only [zmPack, zxPack, ne_eq, zfree, owners, Nat.reduceLT, zyPack, Nat.reduceBEq, chunk, setAt, reduceCtorEq, Nat.reduceEqDiff, reduceIte, implies_true, forall_const, Nat.reduceMul, Nat.reduceSub, Nat.reduceAdd, Nat.reduceLeDiff, g0, g1, g2, s2, *]) | (simp only [zgPack]) | (with_reducible apply And.intro) | (with_reducible intro _))
 refine srest_z (by omega) ?_
 have hm := Int.emod_nonneg o (b := 7) (by omega)
 have hm7 := Int.emod_lt_of_pos o (b := 7) (by omega)
 have n10 : ¬ ((1 : Int) = 0) := by decide
 have n20 : ¬ ((2 : Int) = 0) := by decide
 have n21 : ¬ ((2 : Int) = 1) := by decide
 have n30 : ¬ ((3 : Int) = 0) := by decide
 have n31 : ¬ ((3 : Int) = 1) := by decide
 have n32 : ¬ ((3 : Int) = 2) := by decide
 have n40 : ¬ ((4 : Int) = 0) := by decide
 have n41 : ¬ ((4 : Int) = 1) := by decide
 have n42 : ¬ ((4 : Int) = 2) := by decide
 have n43 : ¬ ((4 : Int) = 3) := by decide
 have n50 : ¬ ((5 : Int) = 0) := by decide
 have n51 : ¬ ((5 : Int) = 1) := by decide
 have n52 : ¬ ((5 : Int) = 2) := by decide
 have n53 : ¬ ((5 : Int) = 3) := by decide
 have n54 : ¬ ((5 : Int) = 4) := by decide
 by_cases c0 : o % 7 = 0
 ·have hd : deedA A o a i k v = ⟨makeN A (i % 100), (0, 0), makeE A (i % 100), makeS A (i % 100)⟩ := by unfold deedA; rw [if_pos c0]
  have hK := HK.out
  rw [hd] at hK
  have HK2 := Lib.hid hK
  clear hK hd hm hm7
  repeat' (first | (simp only [zmPack, zxPack, ne_eq, zfree, owners, Nat.reduceLT, zyPack, Nat.reduceBEq, chunk, setAt, reduceCtorEq, Nat.reduceEqDiff, reduceIte, implies_true, forall_const, Nat.reduceMul, Nat.reduceSub, Nat.reduceAdd, Nat.reduceLeDiff, g0, g1, g2, s2, c0, *]) | (simp only [zgPack]) | (with_reducible apply And.intro) | (with_reducible intro _))
  refine srest_z (by omega) ?_
  repeat' (first | (simp only [zmPack, zxPack, ne_eq, zfree, owners, Nat.reduceLT, zyPack, Nat.reduceBEq, chunk, setAt, reduceCtorEq, Nat.reduceEqDiff, reduceIte, implies_true, forall_const, Nat.reduceMul, Nat.reduceSub, Nat.reduceAdd, Nat.reduceLeDiff, g0, g1, g2, s2, *]) | (simp only [zgPack]) | (with_reducible apply And.intro) | (with_reducible intro _))
  refine sMake_z (HS.out.ext _) hL fun H1 σ1 u1 q1 q2 _ => ?_
  obtain ⟨t1, t2⟩ := AFT.out _ _ _ _ q1 q2
  have fin : ∀ B, Fin H _ (H1.set (H.length + 2) B) K := fun B => Fin.keep (HK2.out _ _ _ (t2 B).1 (t2 B).2)
  have ht := lt_of_get t1
  have hst : ∀ B, (H1.set (H.length + 2) B)[H.length + 2]? = some B := fun B => by rw [List.getElem?_set_self ht]
  clear q1 q2 t2 ht
  generalize makeN A (i % 100) = mn at fin ⊢
  generalize makeE A (i % 100) = me at fin ⊢
  repeat' (first | (simp only [zmPack, zxPack, ne_eq, zfree, owners, Nat.reduceLT, zyPack, Nat.reduceBEq, chunk, setAt, reduceCtorEq, Nat.reduceEqDiff, reduceIte, implies_true, forall_const, Nat.reduceMul, Nat.reduceSub, Nat.reduceAdd, Nat.reduceLeDiff, t1, hst, hL, *]) | (simp only [zgPack]) | (with_reducible apply And.intro) | (with_reducible intro _))
 ·by_cases c1 : o % 7 = 1
  ·have hd : deedA A o a i k v = ⟨0, (0, 0), pushE A a k v, pushS A a k v⟩ := by unfold deedA; rw [if_neg c0, if_pos c1]
   have hK := HK.out
   rw [hd] at hK
   have HK2 := Lib.hid hK
   clear hK hd hm hm7 c0
   repeat' (first | (simp only [zmPack, zxPack, ne_eq, zfree, owners, Nat.reduceLT, zyPack, Nat.reduceBEq, chunk, setAt, reduceCtorEq, Nat.reduceEqDiff, reduceIte, implies_true, forall_const, Nat.reduceMul, Nat.reduceSub, Nat.reduceAdd, Nat.reduceLeDiff, g0, g1, g2, s2, c1, n10, *]) | (simp only [zgPack]) | (with_reducible apply And.intro) | (with_reducible intro _))
   refine sPush_z HV.out (HS.out.ext _) hL fun H1 σ1 u1 q1 q2 => ?_
   obtain ⟨t1, t2⟩ := AFT.out _ _ _ _ q1 q2
   have fin : ∀ B, Fin H _ (H1.set (H.length + 2) B) K := fun B => Fin.keep (HK2.out _ _ _ (t2 B).1 (t2 B).2)
   have ht := lt_of_get t1
   have hst : ∀ B, (H1.set (H.length + 2) B)[H.length + 2]? = some B := fun B => by rw [List.getElem?_set_self ht]
   clear q1 q2 t2 ht
   generalize pushE A a k v = me at fin ⊢
   repeat' (first | (simp only [zmPack, zxPack, ne_eq, zfree, owners, Nat.reduceLT, zyPack, Nat.reduceBEq, chunk, setAt, reduceCtorEq, Nat.reduceEqDiff, reduceIte, implies_true, forall_const, Nat.reduceMul, Nat.reduceSub, Nat.reduceAdd, Nat.reduceLeDiff, t1, hst, hL, *]) | (simp only [zgPack]) | (with_reducible apply And.intro) | (with_reducible intro _))
  ·by_cases c2 : o % 7 = 2
   ·have hd : deedA A o a i k v = ⟨0, (0, 0), setE A a i k v, setS A a i k v⟩ := by unfold deedA; rw [if_neg c0, if_neg c1, if_pos c2]
    have hK := HK.out
    rw [hd] at hK
    have HK2 := Lib.hid hK
    clear hK hd hm hm7 c0 c1
    repeat' (first | (simp only [zmPack, zxPack, ne_eq, zfree, owners, Nat.reduceLT, zyPack, Nat.reduceBEq, chunk, setAt, reduceCtorEq, Nat.reduceEqDiff, reduceIte, implies_true, forall_const, Nat.reduceMul, Nat.reduceSub, Nat.reduceAdd, Nat.reduceLeDiff, g0, g1, g2, s2, c2, n20, n21, *]) | (simp only [zgPack]) | (with_reducible apply And.intro) | (with_reducible intro _))
    refine sset_z HV.out (HS.out.ext _) hL fun H1 q1 q2 => ?_
    obtain ⟨t1, t2⟩ := AFT.out _ _ _ _ q1 q2
    have fin : ∀ B, Fin H _ (H1.set (H.length + 2) B) K := fun B => Fin.keep (HK2.out _ _ _ (t2 B).1 (t2 B).2)
    have ht := lt_of_get t1
    have hst : ∀ B, (H1.set (H.length + 2) B)[H.length + 2]? = some B := fun B => by rw [List.getElem?_set_self ht]
    clear q1 q2 t2 ht
    generalize setE A a i k v = me at fin ⊢
    repeat' (first | (simp only [zmPack, zxPack, ne_eq, zfree, owners, Nat.reduceLT, zyPack, Nat.reduceBEq, chunk, setAt, reduceCtorEq, Nat.reduceEqDiff, reduceIte, implies_true, forall_const, Nat.reduceMul, Nat.reduceSub, Nat.reduceAdd, Nat.reduceLeDiff, t1, hst, hL, *]) | (simp only [zgPack]) | (with_reducible apply And.intro) | (with_reducible intro _))
   ·by_cases c3 : o % 7 = 3
    ·have hd : deedA A o a i k v = ⟨0, getV A a i, atE A a i, A⟩ := by unfold deedA; rw [if_neg c0, if_neg c1, if_neg c2, if_pos c3]
     have hK := HK.out
     rw [hd] at hK
     have hK := hK
     have HK2 := Lib.hid hK
     clear hK hd hm hm7 c0 c1 c2
     repeat' (first | (simp only [zmPack, zxPack, ne_eq, zfree, owners, Nat.reduceLT, zyPack, Nat.reduceBEq, chunk, setAt, reduceCtorEq, Nat.reduceEqDiff, reduceIte, implies_true, forall_const, Nat.reduceMul, Nat.reduceSub, Nat.reduceAdd, Nat.reduceLeDiff, g0, g1, g2, s2, c3, n30, n31, n32, *]) | (simp only [zgPack]) | (with_reducible apply And.intro) | (with_reducible intro _))
     refine sget_z HI.out (HS.out.ext _) ?_
     have fin : ∀ X, Fin H (.tuple [Z64 0, .agg [Z64 (getV A a i).1, Z64 (getV A a i).2], Z64 (atE A a i)]) (H ++ X) K := fun X => Fin.keep (HK2.out _ _ _ (HS.out.ext X) FrS.ext)
     have g3 : ∀ A B C D Z, (H ++ (A :: B :: C :: D :: Z))[H.length + 3]? = some D := fun A B C D Z => by rw [List.getElem?_append_right (by omega), Nat.add_sub_cancel_left]; rfl
     have s3 : ∀ A B C D E Z, (H ++ (A :: B :: C :: D :: Z)).set (H.length + 3) E = H ++ (A :: B :: C :: E :: Z) := fun A B C D E Z => by rw [List.set_append_right _ _ (by omega), Nat.add_sub_cancel_left]; rfl
     have l3 : ∀ n, H.length < H.length + (n + 1) := fun n => by omega
     generalize (getV A a i).1 = v1 at fin ⊢
     generalize (getV A a i).2 = v2 at fin ⊢
     generalize atE A a i = me at fin ⊢
     repeat' (first | (simp only [zmPack, zxPack, ne_eq, zfree, owners, Nat.reduceLT, zyPack, Nat.reduceBEq, chunk, setAt, reduceCtorEq, Nat.reduceEqDiff, reduceIte, implies_true, forall_const, Nat.reduceMul, Nat.reduceSub, Nat.reduceAdd, Nat.reduceLeDiff, g2, g3, s2, s3, hL, l3, *]) | (simp only [zgPack]) | (with_reducible apply And.intro) | (with_reducible intro _))
    ·by_cases c4 : o % 7 = 4
     ·have hd : deedA A o a i k v = ⟨countN A a, (0, 0), namedA A a, A⟩ := by unfold deedA; rw [if_neg c0, if_neg c1, if_neg c2, if_neg c3, if_pos c4]
      have hK := HK.out
      rw [hd] at hK
      have HK2 := Lib.hid hK
      clear hK hd hm hm7 c0 c1 c2 c3
      repeat' (first | (simp only [zmPack, zxPack, ne_eq, zfree, owners, Nat.reduceLT, zyPack, Nat.reduceBEq, chunk, setAt, reduceCtorEq, Nat.reduceEqDiff, reduceIte, implies_true, forall_const, Nat.reduceMul, Nat.reduceSub, Nat.reduceAdd, Nat.reduceLeDiff, g0, g1, g2, s2, c4, n40, n41, n42, n43, *]) | (simp only [zgPack]) | (with_reducible apply And.intro) | (with_reducible intro _))
      refine scount_z (HS.out.ext _) ?_
      have fin : ∀ X, Fin H (.tuple [Z64 (countN A a), .agg [Z64 0, Z64 0], Z64 (namedA A a)]) (H ++ X) K := fun X => Fin.keep (HK2.out _ _ _ (HS.out.ext X) FrS.ext)
      generalize countN A a = cn at fin ⊢
      generalize namedA A a = me at fin ⊢
      repeat' (first | (simp only [zmPack, zxPack, ne_eq, zfree, owners, Nat.reduceLT, zyPack, Nat.reduceBEq, chunk, setAt, reduceCtorEq, Nat.reduceEqDiff, reduceIte, implies_true, forall_const, Nat.reduceMul, Nat.reduceSub, Nat.reduceAdd, Nat.reduceLeDiff, g2, s2, hL, *]) | (simp only [zgPack]) | (with_reducible apply And.intro) | (with_reducible intro _))
     ·by_cases c5 : o % 7 = 5
      ·have hd : deedA A o a i k v = ⟨0, (0, 0), namedA A a, holdS A a⟩ := by unfold deedA; rw [if_neg c0, if_neg c1, if_neg c2, if_neg c3, if_neg c4, if_pos c5]
       have hK := HK.out
       rw [hd] at hK
       have HK2 := Lib.hid hK
       clear hK hd hm hm7 c0 c1 c2 c3 c4
       repeat' (first | (simp only [zmPack, zxPack, ne_eq, zfree, owners, Nat.reduceLT, zyPack, Nat.reduceBEq, chunk, setAt, reduceCtorEq, Nat.reduceEqDiff, reduceIte, implies_true, forall_const, Nat.reduceMul, Nat.reduceSub, Nat.reduceAdd, Nat.reduceLeDiff, g0, g1, g2, s2, c5, n50, n51, n52, n53, n54, *]) | (simp only [zgPack]) | (with_reducible apply And.intro) | (with_reducible intro _))
       refine shold_z (HS.out.ext _) hL fun H1 q1 q2 => ?_
       obtain ⟨t1, t2⟩ := AFT.out _ _ _ _ q1 q2
       have fin : ∀ B, Fin H _ (H1.set (H.length + 2) B) K := fun B => Fin.keep (HK2.out _ _ _ (t2 B).1 (t2 B).2)
       have ht := lt_of_get t1
       have hst : ∀ B, (H1.set (H.length + 2) B)[H.length + 2]? = some B := fun B => by rw [List.getElem?_set_self ht]
       clear q1 q2 t2 ht
       generalize namedA A a = me at fin ⊢
       repeat' (first | (simp only [zmPack, zxPack, ne_eq, zfree, owners, Nat.reduceLT, zyPack, Nat.reduceBEq, chunk, setAt, reduceCtorEq, Nat.reduceEqDiff, reduceIte, implies_true, forall_const, Nat.reduceMul, Nat.reduceSub, Nat.reduceAdd, Nat.reduceLeDiff, t1, hst, hL, *]) | (simp only [zgPack]) | (with_reducible apply And.intro) | (with_reducible intro _))
      ·have hd : deedA A o a i k v = ⟨0, (0, 0), dropE A a, dropS A a⟩ := by unfold deedA; rw [if_neg c0, if_neg c1, if_neg c2, if_neg c3, if_neg c4, if_neg c5]
       have hK := HK.out
       rw [hd] at hK
       have HK2 := Lib.hid hK
       clear hK hd hm hm7
       repeat' (first | (simp only [zmPack, zxPack, ne_eq, zfree, owners, Nat.reduceLT, zyPack, Nat.reduceBEq, chunk, setAt, reduceCtorEq, Nat.reduceEqDiff, reduceIte, implies_true, forall_const, Nat.reduceMul, Nat.reduceSub, Nat.reduceAdd, Nat.reduceLeDiff, g0, g1, g2, s2, c0, c1, c2, c3, c4, c5, *]) | (simp only [zgPack]) | (with_reducible apply And.intro) | (with_reducible intro _))
       refine sdrop_z (HS.out.ext _) hL fun H1 q1 q2 => ?_
       obtain ⟨t1, t2⟩ := AFT.out _ _ _ _ q1 q2
       have fin : ∀ B, Fin H _ (H1.set (H.length + 2) B) K := fun B => Fin.keep (HK2.out _ _ _ (t2 B).1 (t2 B).2)
       have ht := lt_of_get t1
       have hst : ∀ B, (H1.set (H.length + 2) B)[H.length + 2]? = some B := fun B => by rw [List.getElem?_set_self ht]
       clear q1 q2 t2 ht
       generalize dropE A a = me at fin ⊢
       repeat' (first | (simp only [zmPack, zxPack, ne_eq, zfree, owners, Nat.reduceLT, zyPack, Nat.reduceBEq, chunk, setAt, reduceCtorEq, Nat.reduceEqDiff, reduceIte, implies_true, forall_const, Nat.reduceMul, Nat.reduceSub, Nat.reduceAdd, Nat.reduceLeDiff, t1, hst, hL, *]) | (simp only [zgPack]) | (with_reducible apply And.intro) | (with_reducible intro _))
end Go.Proofs.Ytiiefcbiemohhaa
