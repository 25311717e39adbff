/-
  The store in ZM: push.
-/
import Derived.Test.YtiiefcbiemohhaaMrV15
namespace Go.Proofs.Ytiiefcbiemohhaa
open Go Go.RowKit
set_option linter.unusedVariables false
set_option linter.unusedSimpArgs false
variable {tb : List (FuncId × Bool)} {nd : Bool} {L : Nat → Bool} {H : ZH} {K : ZV → ZH → Prop} {p : Nat} {σ : Sg} {F AT : List Int} {HD : List Bool} {A : AS}
def c_spT : ACode := .seq (.ops [⟨(some 30), .mv (.tmp 0), none, true⟩,
 ⟨(some 31), .load (some 2) (.tmp 5), none, true⟩,
 ⟨(some 32), .call (.av (.func 25 [])) [(.tmp 30), (.tmp 31)], none, true⟩,
 ⟨(some 29), .mv (.tmp 32), none, true⟩,
 ⟨(some 33), .extract 0 (.tmp 29), none, true⟩,
 ⟨(some 34), .extract 1 (.tmp 29), none, true⟩,
 ⟨(some 7), .mv (.tmp 33), none, true⟩,
 ⟨(some 8), .mv (.tmp 34), none, true⟩])
 (.seq (.ops [⟨(some 35), .mv (.tmp 0), none, true⟩,
 ⟨(some 36), .mv (.tmp 0), none, true⟩,
 ⟨(some 37), .nilCheck (.tmp 36), none, true⟩,
 ⟨(some 38), .fieldAddr 0 (.tmp 37), none, true⟩,
 ⟨(some 39), .load none (.tmp 38), none, true⟩,
 ⟨(some 40), .mv (.tmp 7), none, true⟩,
 ⟨(some 41), .lits 1 1 [(.val (.int .u64 0))] [(0, 1, (.tmp 40))], none, true⟩,
 ⟨(some 42), .append 1 8 (.tmp 39) (.tmp 41), none, true⟩,
 ⟨(some 43), .nilCheck (.tmp 35), none, true⟩,
 ⟨(some 44), .fieldAddr 0 (.tmp 43), none, true⟩,
 ⟨none, .store 1 (.tmp 44) (.tmp 42), none, true⟩])
 (.opsD [⟨(some 45), .mv (.tmp 0), none, true⟩,
 ⟨(some 46), .nilCheck (.tmp 45), none, true⟩,
 ⟨(some 47), .fieldAddr 0 (.tmp 46), none, true⟩,
 ⟨(some 48), .load none (.tmp 47), none, true⟩,
 ⟨(some 49), .mv (.tmp 0), none, true⟩,
 ⟨(some 50), .nilCheck (.tmp 49), none, true⟩,
 ⟨(some 51), .fieldAddr 1 (.tmp 50), none, true⟩,
 ⟨(some 52), .load none (.tmp 51), none, true⟩,
 ⟨(some 53), .mv (.tmp 1), none, true⟩,
 ⟨(some 54), .indexAddr 1 (.tmp 52) (.tmp 53), none, true⟩,
 ⟨(some 55), .load none (.tmp 54), none, true⟩,
 ⟨(some 56), .indexAddr 1 (.tmp 48) (.tmp 55), none, true⟩,
 ⟨(some 57), .load none (.tmp 56), none, true⟩,
 ⟨(some 58), .bin .add (.tmp 57) (.av (.val (.int .u64 1))), none, true⟩,
 ⟨(some 59), .indexAddr 1 (.tmp 48) (.tmp 55), none, true⟩,
 ⟨none, .store 1 (.tmp 59) (.tmp 58), none, true⟩]))
def c_st_push : ACode := .seq (.ops [⟨(some 5), .box 2 (.tmp 2), none, true⟩])
 (.seq (.ops [⟨(some 9), .mv (.tmp 0), none, true⟩,
 ⟨(some 10), .mv (.tmp 0), none, true⟩,
 ⟨(some 11), .nilCheck (.tmp 10), none, true⟩,
 ⟨(some 12), .fieldAddr 1 (.tmp 11), none, true⟩,
 ⟨(some 13), .load none (.tmp 12), none, true⟩,
 ⟨(some 14), .mv (.tmp 1), none, true⟩,
 ⟨(some 15), .indexAddr 1 (.tmp 13) (.tmp 14), none, true⟩,
 ⟨(some 16), .load none (.tmp 15), none, true⟩,
 ⟨(some 17), .call (.av (.func 26 [])) [(.tmp 9), (.tmp 16)], none, true⟩,
 ⟨(some 6), .mv (.tmp 17), none, true⟩])
 (.seq (.seq (.ops [⟨(some 18), .mv (.tmp 0), none, true⟩,
 ⟨(some 19), .mv (.tmp 6), none, true⟩,
 ⟨(some 20), .bin .add (.tmp 19) (.av (.val (.int .i64 2))), none, true⟩,
 ⟨(some 21), .call (.av (.func 23 [])) [(.tmp 18), (.tmp 20)], none, true⟩,
 ⟨(some 22), .un .not (.tmp 21), none, true⟩])
 (.cond (.tmp 22)
 (.ops [⟨(some 23), .mv (.tmp 0), none, true⟩,
 ⟨(some 24), .mv (.tmp 1), none, true⟩,
 ⟨(some 25), .call (.av (.func 34 [])) [(.tmp 23), (.tmp 24)], none, true⟩])
 (.ops [⟨(some 26), .mv (.tmp 0), none, true⟩,
 ⟨(some 27), .mv (.tmp 1), none, true⟩,
 ⟨(some 28), .call (.av (.func 35 [])) [(.tmp 26), (.tmp 27)], none, true⟩])))
 c_spT))
theorem f_st_push : cFunc Try.prog 27 = some ⟨60, c_st_push, []⟩ := by kernel_rfl

theorem saddU (a b : Int) : binV .add (.int .u64 a) (.int .u64 b) = some (.int .u64 (IntKind.u64.wrap (a + b))) := by simp [binV]
set_option maxHeartbeats 4000000 in
theorem spT_z {S : ZS} {KK : AExit → ZS → ZH → Prop} {n q : Nat} {k v : Int} (hv : -9223372036854775808 ≤ v ∧ v ≤ 9223372036854775807) (h : StAt H p σ F AT A.hd) (r : Rep A F AT) (hn : Rch A n) (hlen : (A.val n).length < 100) (hl : F.length + 1 ≤ 2000) (hlast : (atP AT n).toNat + (1 + (A.val n).length) = F.length) (hbx : boxedA A k v = 0) (hL : ∀ i, L i = true)
  (h0 : S 0 = .ptr p 0) (h1 : S 1 = Z64 (n : Int)) (h5 : S 5 = .ptr q 0) (hq : H[q]? = some (.box [Z64 k, Z64 v]))
  (hK : ∀ S' H' σ' F' AT', StAt H' p σ' F' AT' A.hd → Rep (putV A n (A.val n ++ [boxW k v])) F' AT' → FrS p σ σ' H H' → KK .normal S' H') : zW (XS tb nd) (cFunc Try.prog) Gh.no L c_spT S H KK := by
 simp only [c_spT]
 have HH := Lib.hid h
 have HR := Lib.hid r
 have HK := Lib.hid hK
 obtain ⟨-, hvok, -⟩ := boxedA_ok hv hbx
 have hg := r.grow hn hlast hl hlen hvok
 have HV := Lib.hid hv
 have hc := (r.cell n hn)
 obtain ⟨a, ha⟩ : ∃ a, a = (atP AT n).toNat := ⟨_, rfl⟩
 have haI : atP AT n = (a : Int) := by omega
 have hnl : n < AT.length := by rw [r.la]; exact hn.lt r.ok
 have hmk : 0 ≤ A.mks.getD n 0 ∧ A.mks.getD n 0 < 2147483648 := by
  have hnl : n < A.mks.length := hn.lt r.ok
  rw [List.getD_eq_getElem?_getD, List.getElem?_eq_getElem hnl]
  exact r.ok.mkr _ (List.getElem_mem hnl)
 have hx := hc.2.1
 rw [← ha] at hx hg hlast
 obtain ⟨hd, hhd⟩ : ∃ hd : Int, hd = A.mks.getD n 0 * 4294967296 + ((A.val n).length : Int) := ⟨_, rfl⟩
 have hhd1 : A.mks.getD n 0 * 4294967296 + (((A.val n).length + 1 : Nat) : Int) = hd + 1 := by omega
 have hdb : 0 ≤ hd ∧ hd + 1 < 18446744073709551616 := by omega
 rw [← hhd] at hx
 rw [hhd1] at hg
 have w1 : IntKind.u64.wrap (hd + 1) = hd + 1 := by simp only [IntKind.wrap, IntKind.bits, IntKind.signed]; simp; omega
 have hpl := lt_of_get h.box
 have hb := h.box
 have hHl : F.length < 9223372036854775807 := by omega
 have HHL := Lib.hid hl
 have HG := Lib.hid hg
 have HX := Lib.hid hx
 have HAI := Lib.hid haI
 have HNL := Lib.hid hnl
 have HLA := Lib.hid hlast
 clear h r hK hg hv hc hmk hhd hhd1 hdb hx hnl hlast hl hHl hlen ha haI
 repeat' (first | (simp only [zmPack, zxPack, ne_eq, zfree, owners, Nat.reduceLT, zyPack, Nat.reduceBEq, chunk, setAt, reduceCtorEq, Nat.reduceEqDiff, reduceIte, implies_true, forall_const, Nat.reduceMul, Nat.reduceSub, Nat.reduceAdd, Nat.reduceLeDiff, h0, h1, h5, hq, *]) | (simp only [zgPack]) | (with_reducible apply And.intro) | (with_reducible intro _))
 refine sboxed_z HV.out HH.out HR.out fun w hw0 => ?_
 have hw := hw0 hbx
 rw [hbx]
 have hg := HG.out
 rw [← hw] at hg
 obtain ⟨F2, hF2⟩ : ∃ F2, F2 = F ++ [w] := ⟨_, rfl⟩
 rw [← hF2] at hg
 have hl2 : F2.length = F.length + 1 := by rw [hF2]; simp
 obtain ⟨q1, q2⟩ := HH.out.growW (σ.gw + 1) F2
 have hap : appZ L H 1 8 [[.val (.int .u64 w)]] (.own σ.w σ.gw 0 F.length false) = some (.own σ.w (σ.gw + 1) 0 F2.length false, H.set σ.w (.grow (σ.gw + 1) 1 (F2.map eU))) := by
  rw [app_own]
  refine ⟨_, HH.out.ws, by simp, by have := HHL.out; simp; unfold reach; omega, hL _, by rw [hl2]; rfl, ?_⟩
  rw [List.drop_zero, List.take_of_length_le (by simp), hF2, List.map_append]; rfl
 have hbs : ∀ B, (H.set σ.w B)[p]? = some (.box [.own σ.w σ.gw 0 F.length false, .own σ.a σ.ga 0 AT.length false, .own σ.h σ.gh 0 A.hd.length false]) := fun B => by
  rw [List.getElem?_set_ne (Ne.symm HH.out.pw)]; exact HH.out.box
 have haF : a < F2.length := by have := (List.getElem?_eq_some_iff.1 HX.out).1; omega
 have hx2 : F2[a]? = some hd := by rw [hF2, List.getElem?_append_left (List.getElem?_eq_some_iff.1 HX.out).1]; exact HX.out
 have b2 := q1.box
 have e1 := a_el q1 HNL.out
 have e2 := a_ld q1 HNL.out
 rw [HAI.out] at e2
 have e3 := w_el q1 haF
 have e4 := w_ld q1 hx2
 have e5 := w_st (L := L) (x := hd + 1) q1 haF (hL _)
 obtain ⟨s1, s2⟩ := q1.setW (F' := F2.set a (hd + 1)) (by rw [List.length_set])
 have FN := Lib.hid (fun S' => HK.out S' _ _ _ _ s1 hg (q2.trans s2))
 clear hg hF2 hl2 q1 q2 haF hx2 s1 s2 hw hw0 hbx
 repeat' (first | (simp only [zmPack, zxPack, ne_eq, zfree, owners, Nat.reduceLT, zyPack, Nat.reduceBEq, chunk, setAt, reduceCtorEq, Nat.reduceEqDiff, reduceIte, implies_true, forall_const, Nat.reduceMul, Nat.reduceSub, Nat.reduceAdd, Nat.reduceLeDiff, hap, hbs, hb, e1, e2, e3, e4, e5, b2, w1, hL, hpl, saddU, *]) | (simp only [zgPack]) | (with_reducible apply And.intro) | (with_reducible intro _))
 all_goals exact FN.out _
set_option maxHeartbeats 4000000 in
theorem spush_z {n : Nat} {k v : Int} (hv : -9223372036854775808 ≤ v ∧ v ≤ 9223372036854775807) (h : StAt H p σ F AT A.hd) (r : Rep A F AT) (hn : Rch A n) (hlen : (A.val n).length < 100) (hsz : size A + 1 ≤ 2000) (hbx : boxedA A k v = 0) (hL : ∀ i, L i = true)
  (hK : ∀ H' σ' F' AT', StAt H' p σ' F' AT' A.hd → Rep (putV A n (A.val n ++ [boxW k v])) F' AT' → FrS p σ σ' H H' → K (.tuple []) H') :
  ZC (XS tb nd) (cFunc Try.prog) 27 [.ptr p 0, Z64 (n : Int), .agg [Z64 k, Z64 v]] L H K := by
 refine ZC.enter Gh.no (boxX_none (by decide)) f_st_push (by simp) ?_
 rw [c_st_push]
 have HH := Lib.hid h
 have HR := Lib.hid r
 have HK := Lib.hid hK
 have hc := (r.cell n hn)
 obtain ⟨a, ha⟩ : ∃ a, a = (atP AT n).toNat := ⟨_, rfl⟩
 have haI : atP AT n = (a : Int) := by omega
 have hnl : n < AT.length := by rw [r.la]; exact hn.lt r.ok
 have hx := hc.2.1
 rw [← ha] at hx
 obtain ⟨m, hm⟩ : ∃ m, m = (A.val n).length := ⟨_, rfl⟩
 have hlg : lng (A.mks.getD n 0 * 4294967296 + ((A.val n).length : Int)) = m := by rw [head_lng (by omega), hm]
 obtain ⟨hd, hhd⟩ : ∃ hd : Int, hd = A.mks.getD n 0 * 4294967296 + ((A.val n).length : Int) := ⟨_, rfl⟩
 rw [← hhd] at hx hlg
 have hm100 : m < 100 := by omega
 have hb : ∀ X, (H ++ X)[p]? = some (.box [.own σ.w σ.gw 0 F.length false, .own σ.a σ.ga 0 AT.length false, .own σ.h σ.gh 0 A.hd.length false]) := fun X => (h.ext X).box
 have hel : ∀ X, elemZ (H ++ X) 1 n (.own σ.a σ.ga 0 AT.length false) = some (.eptr σ.a σ.ga n 0) := fun X => a_el (h.ext X) hnl
 have hld : ∀ X, ldZ (H ++ X) none (.eptr σ.a σ.ga n 0) = some (Z64 (a : Int)) := fun X => by rw [← haI]; exact a_ld (h.ext X) hnl
 have w1 : IntKind.i64.wrap ((m : Int) + 2) = ((m + 2 : Nat) : Int) := by rw [IntWalk.i64_in _ (by omega)]; omega
 have hne0 : H.length ≠ p ∧ H.length ≠ σ.w ∧ H.length ≠ σ.a ∧ H.length ≠ σ.h := by
  have z1 := lt_of_get h.box
  have z2 := lt_of_get h.ws
  have z3 := lt_of_get h.ats
  have z4 := lt_of_get h.hs
  omega
 have HV := Lib.hid hv
 have HX := Lib.hid hx
 have HLG := Lib.hid hlg
 have HM := Lib.hid hm
 have HN0 := Lib.hid hne0
 have HBX := Lib.hid hbx
 have HSZ := Lib.hid hsz
 have HLEN := Lib.hid hlen
 clear h r hK hv hc hx hlg hhd hm ha haI hnl hne0 hbx hsz hlen
 repeat' (first | (simp only [zmPack, zxPack, ne_eq, zfree, owners, Nat.reduceLT, zyPack, Nat.reduceBEq, chunk, setAt, reduceCtorEq, Nat.reduceEqDiff, reduceIte, implies_true, forall_const, Nat.reduceMul, Nat.reduceSub, Nat.reduceAdd, Nat.reduceLeDiff, hb, hel, hld, *]) | (simp only [zgPack]) | (with_reducible apply And.intro) | (with_reducible intro _))
 refine slong_z (HH.out.ext _) HX.out ?_
 rw [HLG.out]
 repeat' (first | (simp only [zmPack, zxPack, ne_eq, zfree, owners, Nat.reduceLT, zyPack, Nat.reduceBEq, chunk, setAt, reduceCtorEq, Nat.reduceEqDiff, reduceIte, implies_true, forall_const, Nat.reduceMul, Nat.reduceSub, Nat.reduceAdd, Nat.reduceLeDiff, hb, w1, *]) | (simp only [zgPack]) | (with_reducible apply And.intro) | (with_reducible intro _))
 refine sroom_z (HH.out.ext _) HR.out hL (by omega) fun H1 σ1 F1 AT1 h1 r1 hrm _ fr1 => ?_
 have hq1 := fr1.keep H.length _ HN0.out.1 HN0.out.2.1 HN0.out.2.2.1 HN0.out.2.2.2 (hl_at0 _ _)
 have hne1 : H.length ≠ p ∧ H.length ≠ σ1.w ∧ H.length ≠ σ1.a ∧ H.length ≠ σ1.h := by
  refine ⟨HN0.out.1, ?_, by rw [fr1.a]; exact HN0.out.2.2.1, by rw [fr1.h]; exact HN0.out.2.2.2⟩
  rcases fr1.w with e | e
  ·rw [e]; exact HN0.out.2.1
  ·rw [List.length_append] at e; simp at e; omega
 have fin : ∀ X, Fin H (.tuple []) X K → ∃ z, some (.tuple []) = some z ∧ Fin H z X K := fun X h => ⟨_, rfl, h⟩
 have HQ1 := Lib.hid hq1
 have HN1 := Lib.hid hne1
 have H1' := Lib.hid h1
 have R1 := Lib.hid r1
 have FR1 := Lib.hid fr1
 have HRM := Lib.hid hrm
 clear h1 r1 fr1 hq1 hne1 hrm fin hb hel hld
 by_cases hroom : F1.length + (m + 2) ≤ 2000
 ·rw [decide_eq_true hroom]
  have HROOM := Lib.hid hroom
  clear hroom
  repeat' (first | (simp only [zmPack, zxPack, ne_eq, zfree, owners, Nat.reduceLT, zyPack, Nat.reduceBEq, chunk, setAt, reduceCtorEq, Nat.reduceEqDiff, reduceIte, implies_true, forall_const, Nat.reduceMul, Nat.reduceSub, Nat.reduceAdd, Nat.reduceLeDiff, *]) | (simp only [zgPack]) | (with_reducible apply And.intro) | (with_reducible intro _))
  refine smove_z H1'.out R1.out hn (by have := HROOM.out; have := HM.out; omega) hL fun H2 σ2 F2 AT2 h2 r2 e1 e2 fr2 => ?_
  have hq2 := fr2.keep H.length _ HN1.out.1 HN1.out.2.1 HN1.out.2.2.1 HN1.out.2.2.2 HQ1.out
  have HQ2 := Lib.hid hq2
  have H2' := Lib.hid h2
  have R2 := Lib.hid r2
  have FR2 := Lib.hid fr2
  have E1 := Lib.hid e1
  have E2 := Lib.hid e2
  clear h2 r2 e1 e2 fr2 hq2
  repeat' (first | (simp only [zmPack, zxPack, ne_eq, zfree, owners, Nat.reduceLT, zyPack, Nat.reduceBEq, chunk, setAt, reduceCtorEq, Nat.reduceEqDiff, reduceIte, implies_true, forall_const, Nat.reduceMul, Nat.reduceSub, Nat.reduceAdd, Nat.reduceLeDiff, *]) | (simp only [zgPack]) | (with_reducible apply And.intro) | (with_reducible intro _))
  refine spT_z (q := H.length) HV.out H2'.out R2.out hn HLEN.out (by have := E2.out; have := HROOM.out; have := HM.out; omega) (by rw [E1.out, E2.out, Int.toNat_natCast]) HBX.out hL rfl rfl rfl HQ2.out fun S' H' σ' F' AT' h' r' fr' => ?_
  exact ⟨.inl rfl, _, rfl, Fin.keep (HK.out H' σ' F' AT' h' r' (FR1.out.pre.trans (FR2.out.trans fr')))⟩
 ·rw [decide_eq_false hroom]
  have HROOM := Lib.hid hroom
  clear hroom
  repeat' (first | (simp only [zmPack, zxPack, ne_eq, zfree, owners, Nat.reduceLT, zyPack, Nat.reduceBEq, chunk, setAt, reduceCtorEq, Nat.reduceEqDiff, reduceIte, implies_true, forall_const, Nat.reduceMul, Nat.reduceSub, Nat.reduceAdd, Nat.reduceLeDiff, *]) | (simp only [zgPack]) | (with_reducible apply And.intro) | (with_reducible intro _))
  refine slast_z H1'.out R1.out hn hL fun H2 σ2 F2 AT2 h2 r2 e1 e1b e2 fr2 => ?_
  have hq2 := fr2.keep H.length _ HN1.out.1 HN1.out.2.1 HN1.out.2.2.1 HN1.out.2.2.2 HQ1.out
  have HQ2 := Lib.hid hq2
  have H2' := Lib.hid h2
  have R2 := Lib.hid r2
  have FR2 := Lib.hid fr2
  have E1 := Lib.hid e1
  have E2 := Lib.hid e2
  clear h2 r2 e1 e1b e2 fr2 hq2
  repeat' (first | (simp only [zmPack, zxPack, ne_eq, zfree, owners, Nat.reduceLT, zyPack, Nat.reduceBEq, chunk, setAt, reduceCtorEq, Nat.reduceEqDiff, reduceIte, implies_true, forall_const, Nat.reduceMul, Nat.reduceSub, Nat.reduceAdd, Nat.reduceLeDiff, *]) | (simp only [zgPack]) | (with_reducible apply And.intro) | (with_reducible intro _))
  refine spT_z (q := H.length) HV.out H2'.out R2.out hn HLEN.out (by have := E2.out; have := HRM.out HROOM.out; have := HSZ.out; omega) (by rw [E1.out, E2.out]) HBX.out hL rfl rfl rfl HQ2.out fun S' H' σ' F' AT' h' r' fr' => ?_
  exact ⟨.inl rfl, _, rfl, Fin.keep (HK.out H' σ' F' AT' h' r' (FR1.out.pre.trans (FR2.out.trans fr')))⟩
end Go.Proofs.Ytiiefcbiemohhaa

namespace Go.Proofs.Ytiiefcbiemohhaa
open Go Go.RowKit
set_option linter.unusedVariables false
set_option linter.unusedSimpArgs false
variable {tb : List (FuncId × Bool)} {nd : Bool} {L : Nat → Bool} {H : ZH} {K : ZV → ZH → Prop} {p : Nat} {σ : Sg} {F AT : List Int} {HD : List Bool} {A : AS} {u : Nat}
def StO (H : ZH) (p : Nat) (σ : Sg) (A : AS) (u : Nat) : Prop := ∃ F AT, StAt H p σ F AT A.hd ∧ Rep A F AT ∧ F.length = u
theorem StO.ext (h : StO H p σ A u) (X : ZH) : StO (H ++ X) p σ A u := by
 obtain ⟨F, AT, h1, h2, h3⟩ := h
 exact ⟨F, AT, h1.ext X, h2, h3⟩
theorem StO.ok (h : StO H p σ A u) : AOk A := by obtain ⟨F, AT, h1, h2, h3⟩ := h; exact h2.ok
theorem StO.lt (h : StO H p σ A u) : p < H.length ∧ σ.w < H.length ∧ σ.a < H.length ∧ σ.h < H.length := by
 obtain ⟨F, AT, h1, h2, h3⟩ := h
 exact ⟨lt_of_get h1.box, lt_of_get h1.ws, lt_of_get h1.ats, lt_of_get h1.hs⟩
theorem snew_z (hx : tb.lookup 8 = none) (hK : ∀ H' p σ, StO H' p σ ⟨[], [], []⟩ 0 → H.length ≤ p ∧ H.length ≤ σ.w ∧ H.length ≤ σ.a ∧ H.length ≤ σ.h → (∀ (i : Nat) B, H[i]? = some B → H'[i]? = some B) → H.length ≤ H'.length → K (.ptr p 0) H') : ZC (XS tb nd) (cFunc Try.prog) 8 [] L H K := by
 refine ZC.enter ⟨[(1, [(0, 1), (1, 1), (2, 1)])], [], []⟩ (fun args fl hp ha => by
  have : args = [] := List.eq_nil_of_length_eq_zero ha
  subst this
  simp [boxX, constX, hx]) f_st_new (by simp) ?_
 simp only [c_st_new]
 have fin : Fin H (.ptr (H.length + 3) 0) (H ++ [.grow 0 1 [], .grow 0 1 [], .grow 0 1 [], .box [.own H.length 0 0 0 false, .own (H.length + 1) 0 0 0 false, .own (H.length + 2) 0 0 0 false]]) K :=
  Fin.keep (hK _ _ ⟨H.length, 0, H.length + 1, 0, H.length + 2, 0⟩ ⟨[], [], ⟨by rw [List.getElem?_append_right (by omega), Nat.add_sub_cancel_left]; rfl, hl_at0 _ _, hl_at1 _ _ _, by show _ = some (ZB.grow 0 1 _); rw [List.getElem?_append_right (by simp), Nat.add_sub_cancel_left]; rfl, by simp, by simp, by simp⟩, Rep.nil, rfl⟩ ⟨by omega, by simp, by simp, by simp⟩ (fun i B hi => by rw [List.getElem?_append_left (lt_of_get hi)]; exact hi) (by simp))
 clear hK
 repeat' (first | (simp only [zmPack, zxPack, ne_eq, zfree, owners, Nat.reduceLT, zyPack, Nat.reduceBEq, chunk, setAt, reduceCtorEq, Nat.reduceEqDiff, reduceIte, implies_true, forall_const, Nat.reduceMul, Nat.reduceSub, Nat.reduceAdd, Nat.reduceLeDiff, *]) | (simp only [zgPack]) | (with_reducible apply And.intro) | (with_reducible intro _))
theorem sused_z (h : StO H p σ A u) (hK : K (Z64 (u : Int)) H) : ZC (XS tb nd) (cFunc Try.prog) 15 [.ptr p 0] L H K := by
 refine ZC.enter Gh.no (boxX_none (by decide)) f_st_used (by simp) ?_
 simp only [c_st_used]
 obtain ⟨F, AT, h1, h2, h3⟩ := h
 have hb := h1.box
 have hl : lenZ H (.own σ.w σ.gw 0 F.length false) = some F.length := by rw [len_own]; exact ⟨_, _, h1.ws, rfl⟩
 have fin := Fin.keep (H0 := H) hK
 rw [← h3] at fin
 clear hK h3 h1 h2
 repeat' (first | (simp only [zmPack, zxPack, ne_eq, zfree, owners, Nat.reduceLT, zyPack, Nat.reduceBEq, chunk, setAt, reduceCtorEq, Nat.reduceEqDiff, reduceIte, implies_true, forall_const, Nat.reduceMul, Nat.reduceSub, Nat.reduceAdd, Nat.reduceLeDiff, hb, hl, *]) | (simp only [zgPack]) | (with_reducible apply And.intro) | (with_reducible intro _))
noncomputable def countN (A : AS) (n : Int) : Int := if namedA A n = 0 then ((A.val n.toNat).length : Int) else 0
theorem rch_facts (h1 : StAt H p σ F AT A.hd) (r : Rep A F AT) {m : Nat} (hm : Rch A m) : ∃ (a : Nat) (hd : Int), atP AT m = (a : Int) ∧ F[a]? = some hd ∧ hd = A.mks.getD m 0 * 4294967296 + ((A.val m).length : Int) ∧ lng hd = (A.val m).length ∧ elemZ H 1 m (.own σ.a σ.ga 0 AT.length false) = some (.eptr σ.a σ.ga m 0) ∧ ldZ H none (.eptr σ.a σ.ga m 0) = some (Z64 (a : Int)) ∧ (0 ≤ A.mks.getD m 0 ∧ A.mks.getD m 0 < 2147483648) ∧ (A.val m).length ≤ 100 ∧ m < AT.length := by
 have hc := r.cell m hm
 have hml : m < AT.length := by rw [r.la]; exact hm.lt r.ok
 have hmk : m < A.mks.length := hm.lt r.ok
 have e : atP AT m = ((atP AT m).toNat : Int) := by omega
 refine ⟨(atP AT m).toNat, _, e, hc.2.1, rfl, head_lng (by have := r.ok.vl m hm; omega), a_el h1 hml, by rw [← e]; exact a_ld h1 hml, ?_, r.ok.vl m hm, hml⟩
 rw [List.getD_eq_getElem?_getD, List.getElem?_eq_getElem hmk]
 exact r.ok.mkr _ (List.getElem_mem hmk)
theorem scount_z {n : Int} (h : StO H p σ A u) (hK : K (.tuple [Z64 (countN A n), Z64 (namedA A n)]) H) : ZC (XS tb nd) (cFunc Try.prog) 14 [.ptr p 0, Z64 n] L H K := by
 refine ZC.enter Gh.no (boxX_none (by decide)) f_st_count (by simp) ?_
 simp only [c_st_count]
 obtain ⟨F, AT, h1, h2, h3⟩ := h
 have HH := Lib.hid h1
 have HR := Lib.hid h2
 have fin := Fin.keep (H0 := H) hK
 have FN := Lib.hid fin
 clear hK h3 h1 h2 fin
 repeat' (first | (simp only [zmPack, zxPack, ne_eq, zfree, owners, Nat.reduceLT, zyPack, Nat.reduceBEq, chunk, setAt, reduceCtorEq, Nat.reduceEqDiff, reduceIte, implies_true, forall_const, Nat.reduceMul, Nat.reduceSub, Nat.reduceAdd, Nat.reduceLeDiff, *]) | (simp only [zgPack]) | (with_reducible apply And.intro) | (with_reducible intro _))
 refine snamed_z HH.out HR.out ?_
 by_cases h0 : namedA A n = 0
 ·obtain ⟨m, rfl, hm⟩ := namedA_zero h0
  obtain ⟨a, hd, e1, e2, e3, e4, e5, e6, e7, e8, e9⟩ := rch_facts HH.out HR.out hm
  have hb := HH.out.box
  have fin := FN.out
  unfold countN at fin
  rw [if_pos h0, Int.toNat_natCast] at fin
  rw [h0] at fin ⊢
  have HX := Lib.hid e2
  have HL := Lib.hid e4
  clear e1 e2 e3 e4 e7 e8 e9 h0
  repeat' (first | (simp only [zmPack, zxPack, ne_eq, zfree, owners, Nat.reduceLT, zyPack, Nat.reduceBEq, chunk, setAt, reduceCtorEq, Nat.reduceEqDiff, reduceIte, implies_true, forall_const, Nat.reduceMul, Nat.reduceSub, Nat.reduceAdd, Nat.reduceLeDiff, hb, e5, e6, *]) | (simp only [zgPack]) | (with_reducible apply And.intro) | (with_reducible intro _))
  refine slong_z HH.out HX.out ?_
  rw [HL.out]
  repeat' (first | (simp only [zmPack, zxPack, ne_eq, zfree, owners, Nat.reduceLT, zyPack, Nat.reduceBEq, chunk, setAt, reduceCtorEq, Nat.reduceEqDiff, reduceIte, implies_true, forall_const, Nat.reduceMul, Nat.reduceSub, Nat.reduceAdd, Nat.reduceLeDiff, *]) | (simp only [zgPack]) | (with_reducible apply And.intro) | (with_reducible intro _))
 ·have fin := FN.out
  unfold countN at fin
  rw [if_neg h0] at fin
  repeat' (first | (simp only [zmPack, zxPack, ne_eq, zfree, owners, Nat.reduceLT, zyPack, Nat.reduceBEq, chunk, setAt, reduceCtorEq, Nat.reduceEqDiff, reduceIte, implies_true, forall_const, Nat.reduceMul, Nat.reduceSub, Nat.reduceAdd, Nat.reduceLeDiff, h0, *]) | (simp only [zgPack]) | (with_reducible apply And.intro) | (with_reducible intro _))
noncomputable def markN (A : AS) (n : Int) : Int := if namedA A n = 0 then A.mks.getD n.toNat 0 else 0
theorem sshr (a : Int) : binV .shr (.int .u64 a) (.int .u64 32) = some (.int .u64 (a.fdiv (2 ^ 32))) := by simp [binV, IntKind.bits]
theorem smark_z {n : Int} (h : StO H p σ A u) (hK : K (.tuple [Z64 (markN A n), Z64 (namedA A n)]) H) : ZC (XS tb nd) (cFunc Try.prog) 21 [.ptr p 0, Z64 n] L H K := by
 refine ZC.enter Gh.no (boxX_none (by decide)) f_st_mark (by simp) ?_
 simp only [c_st_mark]
 obtain ⟨F, AT, h1, h2, h3⟩ := h
 have HH := Lib.hid h1
 have HR := Lib.hid h2
 have fin := Fin.keep (H0 := H) hK
 have FN := Lib.hid fin
 clear hK h3 h1 h2 fin
 repeat' (first | (simp only [zmPack, zxPack, ne_eq, zfree, owners, Nat.reduceLT, zyPack, Nat.reduceBEq, chunk, setAt, reduceCtorEq, Nat.reduceEqDiff, reduceIte, implies_true, forall_const, Nat.reduceMul, Nat.reduceSub, Nat.reduceAdd, Nat.reduceLeDiff, *]) | (simp only [zgPack]) | (with_reducible apply And.intro) | (with_reducible intro _))
 refine snamed_z HH.out HR.out ?_
 by_cases h0 : namedA A n = 0
 ·obtain ⟨m, rfl, hm⟩ := namedA_zero h0
  obtain ⟨a, hd, e1, e2, e3, e4, e5, e6, e7, e8, e9⟩ := rch_facts HH.out HR.out hm
  have hb := HH.out.box
  have fin := FN.out
  unfold markN at fin
  rw [if_pos h0, Int.toNat_natCast] at fin
  rw [h0] at fin ⊢
  have q1 := w_el HH.out (List.getElem?_eq_some_iff.1 e2).1
  have q2 := w_ld HH.out e2
  have w1 : hd.fdiv (2 ^ 32) = A.mks.getD m 0 := by
   rw [Int.fdiv_eq_ediv_of_nonneg _ (by omega)]; omega
  have w2 : IntKind.i64.wrap (A.mks.getD m 0) = A.mks.getD m 0 := IntWalk.i64_in _ (by omega)
  clear e1 e2 e3 e4 e7 e8 e9 h0
  generalize A.mks.getD m 0 = mk at fin w1 w2
  repeat' (first | (simp only [zmPack, zxPack, ne_eq, zfree, owners, Nat.reduceLT, zyPack, Nat.reduceBEq, chunk, setAt, reduceCtorEq, Nat.reduceEqDiff, reduceIte, implies_true, forall_const, Nat.reduceMul, Nat.reduceSub, Nat.reduceAdd, Nat.reduceLeDiff, hb, e5, e6, q1, q2, sshr, w1, w2, *]) | (simp only [zgPack]) | (with_reducible apply And.intro) | (with_reducible intro _))
 ·have fin := FN.out
  unfold markN at fin
  rw [if_neg h0] at fin
  repeat' (first | (simp only [zmPack, zxPack, ne_eq, zfree, owners, Nat.reduceLT, zyPack, Nat.reduceBEq, chunk, setAt, reduceCtorEq, Nat.reduceEqDiff, reduceIte, implies_true, forall_const, Nat.reduceMul, Nat.reduceSub, Nat.reduceAdd, Nat.reduceLeDiff, h0, *]) | (simp only [zgPack]) | (with_reducible apply And.intro) | (with_reducible intro _))
noncomputable def holdS (A : AS) (n : Int) : AS := if namedA A n = 0 then ⟨A.mks, A.vs, A.hd.set n.toNat true⟩ else A
theorem shold_z {n : Int} (h : StO H p σ A u) (hL : ∀ i, L i = true) (hK : ∀ H', StO H' p σ (holdS A n) u → FrS p σ σ H H' → K (Z64 (namedA A n)) H') : ZC (XS tb nd) (cFunc Try.prog) 17 [.ptr p 0, Z64 n] L H K := by
 refine ZC.enter Gh.no (boxX_none (by decide)) f_st_hold (by simp) ?_
 simp only [c_st_hold]
 have h9 := h
 obtain ⟨F, AT, h1, h2, h3⟩ := h
 have HH := Lib.hid h1
 have HR := Lib.hid h2
 have H9 := Lib.hid h9
 have H3 := Lib.hid h3
 have HK := Lib.hid hK
 clear hK h3 h1 h2 h9
 repeat' (first | (simp only [zmPack, zxPack, ne_eq, zfree, owners, Nat.reduceLT, zyPack, Nat.reduceBEq, chunk, setAt, reduceCtorEq, Nat.reduceEqDiff, reduceIte, implies_true, forall_const, Nat.reduceMul, Nat.reduceSub, Nat.reduceAdd, Nat.reduceLeDiff, *]) | (simp only [zgPack]) | (with_reducible apply And.intro) | (with_reducible intro _))
 refine snamed_z HH.out HR.out ?_
 by_cases h0 : namedA A n = 0
 ·obtain ⟨m, rfl, hm⟩ := namedA_zero h0
  have hml : m < A.hd.length := by rw [HR.out.ok.lh]; exact hm.lt HR.out.ok
  have hb := HH.out.box
  have e1 := h_el HH.out hml
  have e2 := h_st (L := L) (x := true) HH.out hml (hL _)
  obtain ⟨q1, q2⟩ := HH.out.setH (HD' := A.hd.set m true) (by rw [List.length_set])
  have hs : holdS A (m : Int) = ⟨A.mks, A.vs, A.hd.set m true⟩ := by unfold holdS; rw [if_pos h0, Int.toNat_natCast]
  have hr := HR.out.hold (hd := A.hd.set m true) (by rw [List.length_set]) (fun i hi => by
   rw [List.getElem?_set] at hi
   split at hi
   ·rename_i e; subst e; exact hm
   ·exact .held hi)
  have fin := Fin.keep (H0 := H) (HK.out _ (by rw [hs]; exact ⟨F, AT, q1, hr, H3.out⟩) q2)
  rw [h0] at fin ⊢
  clear q1 q2 hs hr h0 hml
  repeat' (first | (simp only [zmPack, zxPack, ne_eq, zfree, owners, Nat.reduceLT, zyPack, Nat.reduceBEq, chunk, setAt, reduceCtorEq, Nat.reduceEqDiff, reduceIte, implies_true, forall_const, Nat.reduceMul, Nat.reduceSub, Nat.reduceAdd, Nat.reduceLeDiff, hb, e1, e2, *]) | (simp only [zgPack]) | (with_reducible apply And.intro) | (with_reducible intro _))
 ·have hs : holdS A n = A := by unfold holdS; rw [if_neg h0]
  have fin := Fin.keep (H0 := H) (HK.out H (by rw [hs]; exact H9.out) FrS.refl)
  clear hs
  repeat' (first | (simp only [zmPack, zxPack, ne_eq, zfree, owners, Nat.reduceLT, zyPack, Nat.reduceBEq, chunk, setAt, reduceCtorEq, Nat.reduceEqDiff, reduceIte, implies_true, forall_const, Nat.reduceMul, Nat.reduceSub, Nat.reduceAdd, Nat.reduceLeDiff, h0, *]) | (simp only [zgPack]) | (with_reducible apply And.intro) | (with_reducible intro _))
noncomputable def dropE (A : AS) (n : Int) : Int := if namedA A n ≠ 0 then namedA A n else if A.hd.getD n.toNat false = false then 8 else 0
noncomputable def dropS (A : AS) (n : Int) : AS := if dropE A n = 0 then ⟨A.mks, A.vs, A.hd.set n.toNat false⟩ else A
theorem sdrop_z {n : Int} (h : StO H p σ A u) (hL : ∀ i, L i = true) (hK : ∀ H', StO H' p σ (dropS A n) u → FrS p σ σ H H' → K (Z64 (dropE A n)) H') : ZC (XS tb nd) (cFunc Try.prog) 12 [.ptr p 0, Z64 n] L H K := by
 refine ZC.enter Gh.no (boxX_none (by decide)) f_st_drop (by simp) ?_
 simp only [c_st_drop]
 have h9 := h
 obtain ⟨F, AT, h1, h2, h3⟩ := h
 have HH := Lib.hid h1
 have HR := Lib.hid h2
 have H9 := Lib.hid h9
 have H3 := Lib.hid h3
 have HK := Lib.hid hK
 clear hK h3 h1 h2 h9
 repeat' (first | (simp only [zmPack, zxPack, ne_eq, zfree, owners, Nat.reduceLT, zyPack, Nat.reduceBEq, chunk, setAt, reduceCtorEq, Nat.reduceEqDiff, reduceIte, implies_true, forall_const, Nat.reduceMul, Nat.reduceSub, Nat.reduceAdd, Nat.reduceLeDiff, *]) | (simp only [zgPack]) | (with_reducible apply And.intro) | (with_reducible intro _))
 refine snamed_z HH.out HR.out ?_
 by_cases h0 : namedA A n = 0
 ·obtain ⟨m, rfl, hm⟩ := namedA_zero h0
  have hml : m < A.hd.length := by rw [HR.out.ok.lh]; exact hm.lt HR.out.ok
  have hb := HH.out.box
  have hx : A.hd[m]? = some A.hd[m] := List.getElem?_eq_getElem hml
  have hgd : A.hd.getD m false = A.hd[m] := by rw [List.getD_eq_getElem?_getD, hx]; rfl
  obtain ⟨b, hbb⟩ : ∃ b, b = A.hd[m] := ⟨_, rfl⟩
  rw [← hbb] at hx hgd
  have e1 := h_el HH.out hml
  have e2 := h_st (L := L) (x := false) HH.out hml (hL _)
  have e3 := h_ld HH.out hx
  cases b with
  | false =>
   have hE : dropE A (m : Int) = 8 := by unfold dropE; rw [if_neg (by rw [h0]; simp), Int.toNat_natCast, if_pos hgd]
   have hs : dropS A (m : Int) = A := by unfold dropS; rw [if_neg (by rw [hE]; decide)]
   have fin := Fin.keep (H0 := H) (HK.out H (by rw [hs]; exact H9.out) FrS.refl)
   rw [hE] at fin
   rw [h0]
   clear hE hs h0 hml hx hgd hbb
   repeat' (first | (simp only [zmPack, zxPack, ne_eq, zfree, owners, Nat.reduceLT, zyPack, Nat.reduceBEq, chunk, setAt, reduceCtorEq, Nat.reduceEqDiff, reduceIte, implies_true, forall_const, Nat.reduceMul, Nat.reduceSub, Nat.reduceAdd, Nat.reduceLeDiff, hb, e1, e2, e3, *]) | (simp only [zgPack]) | (with_reducible apply And.intro) | (with_reducible intro _))
  | true =>
   have hE : dropE A (m : Int) = 0 := by unfold dropE; rw [if_neg (by rw [h0]; simp), Int.toNat_natCast, if_neg (by rw [hgd]; simp)]
   obtain ⟨q1, q2⟩ := HH.out.setH (HD' := A.hd.set m false) (by rw [List.length_set])
   have hs : dropS A (m : Int) = ⟨A.mks, A.vs, A.hd.set m false⟩ := by unfold dropS; rw [if_pos hE, Int.toNat_natCast]
   have hr := HR.out.hold (hd := A.hd.set m false) (by rw [List.length_set]) (fun i hi => by
    rw [List.getElem?_set] at hi
    split at hi
    ·simp at hi
    ·exact .held hi)
   have fin := Fin.keep (H0 := H) (HK.out _ (by rw [hs]; exact ⟨F, AT, q1, hr, H3.out⟩) q2)
   rw [hE] at fin
   rw [h0]
   clear q1 q2 hs hr h0 hml hE hx hgd hbb
   repeat' (first | (simp only [zmPack, zxPack, ne_eq, zfree, owners, Nat.reduceLT, zyPack, Nat.reduceBEq, chunk, setAt, reduceCtorEq, Nat.reduceEqDiff, reduceIte, implies_true, forall_const, Nat.reduceMul, Nat.reduceSub, Nat.reduceAdd, Nat.reduceLeDiff, hb, e1, e2, e3, *]) | (simp only [zgPack]) | (with_reducible apply And.intro) | (with_reducible intro _))
 ·have hE : dropE A n = namedA A n := by unfold dropE; rw [if_pos h0]
  have hs : dropS A n = A := by unfold dropS; rw [if_neg (by rw [hE]; exact h0)]
  have fin := Fin.keep (H0 := H) (HK.out H (by rw [hs]; exact H9.out) FrS.refl)
  rw [hE] at fin
  clear hs hE
  repeat' (first | (simp only [zmPack, zxPack, ne_eq, zfree, owners, Nat.reduceLT, zyPack, Nat.reduceBEq, chunk, setAt, reduceCtorEq, Nat.reduceEqDiff, reduceIte, implies_true, forall_const, Nat.reduceMul, Nat.reduceSub, Nat.reduceAdd, Nat.reduceLeDiff, h0, *]) | (simp only [zgPack]) | (with_reducible apply And.intro) | (with_reducible intro _))
end Go.Proofs.Ytiiefcbiemohhaa
