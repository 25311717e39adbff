/-
  The store in ZM: push.
-/
import Derived.Test.YtjaahfncbechnaaGreatDoorMrT16
set_option linter.unusedVariables false
set_option linter.unusedSimpArgs false
namespace Go.Proofs.YtjaahfncbechnaaGreatDoor
section
open Go Go.RowKit
variable {tb:List (FuncId×Bool)}{nd:Bool}{L:Nat→Bool}{H:ZH}{K:ZV→ZH→Prop}{p:Nat}{σ:Sg}{F AT:List Int}{HD:List Bool}{A:AS}
def c_spT:jar:= .seq (.ops [kkM 30 0,kkI 31 (.load (some 2) (.tmp 5)),kkI 32 (.call (kkF 25) [(.tmp 30),(.tmp 31)]),kkM 29 32,kkI 33 (.extract 0 (.tmp 29)),kkI 34 (.extract 1 (.tmp 29)),kkM 7 33,kkM 8 34]) (.seq (.ops [kkM 35 0,kkM 36 0,kkI 37 (.nilCheck (.tmp 36)),kkA 38 0 37,kkL 39 38,kkM 40 7,kkI 41 (.lits 1 1 [(.val (.int .u64 0))] [(0,1,(.tmp 40))]),kkI 42 (.append 1 8 (.tmp 39) (.tmp 41)),kkI 43 (.nilCheck (.tmp 35)),kkA 44 0 43,⟨none,.store 1 (.tmp 44) (.tmp 42),none,true⟩]) (.opsD [kkM 45 0,kkI 46 (.nilCheck (.tmp 45)),kkA 47 0 46,kkL 48 47,kkM 49 0,kkI 50 (.nilCheck (.tmp 49)),kkA 51 1 50,kkL 52 51,kkM 53 1,kkI 54 (.indexAddr 1 (.tmp 52) (.tmp 53)),kkL 55 54,kkI 56 (.indexAddr 1 (.tmp 48) (.tmp 55)),kkL 57 56,kkI 58 (.bin .add (.tmp 57) (.av (.val (.int .u64 1)))),kkI 59 (.indexAddr 1 (.tmp 48) (.tmp 55)),⟨none,.store 1 (.tmp 59) (.tmp 58),none,true⟩]))
def jk4:jar:= .seq (.ops [kkI 5 (.box 2 (.tmp 2))]) (.seq (.ops [kkM 9 0,kkM 10 0,kkI 11 (.nilCheck (.tmp 10)),kkA 12 1 11,kkL 13 12,kkM 14 1,kkI 15 (.indexAddr 1 (.tmp 13) (.tmp 14)),kkL 16 15,kkI 17 (.call (kkF 26) [(.tmp 9),(.tmp 16)]),kkM 6 17]) (.seq (.seq (.ops [kkM 18 0,kkM 19 6,kkI 20 (.bin .add (.tmp 19) (kkV 2)),kkI 21 (.call (kkF 17) [(.tmp 18),(.tmp 20)]),kkI 22 (.un .not (.tmp 21))]) (.cond (.tmp 22) (.ops [kkM 23 0,kkM 24 1,kkI 25 (.call (kkF 63) [(.tmp 23),(.tmp 24)])]) (.ops [kkM 26 0,kkM 27 1,kkI 28 (.call (kkF 64) [(.tmp 26),(.tmp 27)])]))) c_spT))
theorem jrC:jal Tryz.prog 27=some ⟨60,jk4,[]⟩:=by kernel_rfl
theorem saddU (a b:Int):binV .add (.int .u64 a) (.int .u64 b)=some (.int .u64 (IntKind.u64.wrap (a+b))):=by simp[binV]
set_option maxHeartbeats 4000000 in
theorem spT_z {S:ZS}{KK:jas→ZS→ZH→Prop}{n q:Nat}{k v:Int}(hv: -9223372036854775808≤v∧v≤9223372036854775807)(h:StAt H p σ F AT A.hd)(r:Rep A F AT)(hn:Rch A n)(hlen:(A.val n).length<100)(hl:F.length+1≤2000)(hlast:(atP AT n).toNat+(1+(A.val n).length)=F.length)(hbx:jci A k v=0)(hL: ∀i,L i=true)
  (h0:S 0= .ptr p 0) (h1:S 1=Z64 (n:Int)) (h5:S 5= .ptr q 0) (hq:H[q]?=some (.box [Z64 k,Z64 v]))
  (hK: ∀S' H' σ' F' AT',StAt H' p σ' F' AT' A.hd→Rep (putV A n (A.val n++[boxW k v])) F' AT'→FrS p σ σ' H H'→KK .normal S' H'):zW (XS tb nd) (jal Tryz.prog) Gh.no L c_spT S H KK:=by
 simp only[c_spT,kkP]
 have HH:=Lib.hid h
 have HR:=Lib.hid r
 have HK:=Lib.hid hK
 obtain⟨-, hvok,-⟩:=jsd hv hbx
 have hg:=r.grow hn hlast hl hlen hvok
 have HV:=Lib.hid hv
 have hc:=(r.cell n hn)
 obtain⟨a,ha⟩: ∃a,a=(atP AT n).toNat:=⟨_,rfl⟩
 have haI:atP AT n=(a:Int):=by omega
 have hnl:n<AT.length:=by rw[r.la];exact hn.lt r.ok
 have hmk:0≤A.mks.getD n 0∧A.mks.getD n 0<2147483648:=by
  have hnl:n<A.mks.length:=hn.lt r.ok
  rw[List.getD_eq_getElem?_getD,List.getElem?_eq_getElem hnl]
  exact r.ok.mkr _ (List.getElem_mem hnl)
 have hx:=hc.2.1
 rw[←ha] at hx hg hlast
 obtain⟨hd,hhd⟩: ∃hd:Int,hd=A.mks.getD n 0*4294967296+((A.val n).length:Int):=⟨_,rfl⟩
 have hhd1:A.mks.getD n 0*4294967296+(((A.val n).length+1:Nat):Int)=hd+1:=by omega
 have hdb:0≤hd∧hd+1<18446744073709551616:=by omega
 rw[←hhd] at hx
 rw[hhd1] at hg
 have w1:IntKind.u64.wrap (hd+1)=hd+1:=by simp only[IntKind.wrap,IntKind.bits,IntKind.signed];simp;omega
 have hpl:=jae h.box
 have hb:=h.box
 have hHl:F.length<9223372036854775807:=by omega
 have HHL:=Lib.hid hl
 have HG:=Lib.hid hg
 have HX:=Lib.hid hx
 have HAI:=Lib.hid haI
 have HNL:=Lib.hid hnl
 have HLA:=Lib.hid hlast
 clear h r hK hg hv hc hmk hhd hhd1 hdb hx hnl hlast hl hHl hlen ha haI
 with_reducible repeat' first|simp only[zP,jaf,jaa,jad,jac,seval,Nat.reduceLeDiff,h0,h1,h5,hq, *]|simp only[jab]|apply And.intro|intro _
 refine jnk HV.out HH.out HR.out fun w hw0=>?_
 have hw:=hw0 hbx
 rw[hbx]
 have hg:=HG.out
 rw[←hw] at hg
 obtain⟨F2,hF2⟩: ∃F2,F2=F++[w]:=⟨_,rfl⟩
 rw[←hF2] at hg
 have hl2:F2.length=F.length+1:=by rw[hF2];simp
 obtain⟨q1,q2⟩:=HH.out.growW (σ.gw+1) F2
 have hap:appZ L H 1 8 [[.val (.int .u64 w)]] (.own σ.w σ.gw 0 F.length false)=some (.own σ.w (σ.gw+1) 0 F2.length false,H.set σ.w (.grow (σ.gw+1) 1 (F2.map eU))):=by
  rw[jdL]
  refine⟨_,HH.out.ws,by simp,by have:=HHL.out;simp;unfold ja5;omega,hL _,by rw[hl2];rfl,?_⟩
  rw[List.drop_zero,List.take_of_length_le (by simp),hF2,List.map_append];rfl
 have hbs: ∀B,(H.set σ.w B)[p]?=some (.box [.own σ.w σ.gw 0 F.length false,.own σ.a σ.ga 0 AT.length false,.own σ.h σ.gh 0 A.hd.length false]):=fun B=>by
  rw[List.getElem?_set_ne (Ne.symm HH.out.pw)];exact HH.out.box
 have haF:a<F2.length:=by have:=(List.getElem?_eq_some_iff.1 HX.out).1;omega
 have hx2:F2[a]?=some hd:=by rw[hF2,List.getElem?_append_left (List.getElem?_eq_some_iff.1 HX.out).1];exact HX.out
 have b2:=q1.box
 have e1:=a_el q1 HNL.out
 have e2:=a_ld q1 HNL.out
 rw[HAI.out] at e2
 have e3:=w_el q1 haF
 have e4:=w_ld q1 hx2
 have e5:=w_st (L:=L) (x:=hd+1) q1 haF (hL _)
 obtain⟨s1,s2⟩:=q1.setW (F':=F2.set a (hd+1)) (by rw[List.length_set])
 have FN:=Lib.hid (fun S'=>HK.out S' _ _ _ _ s1 hg (q2.trans s2))
 clear hg hF2 hl2 q1 q2 haF hx2 s1 s2 hw hw0 hbx
 with_reducible repeat' first|simp only[zP,jaf,jaa,jad,jac,seval,Nat.reduceLeDiff,hap,hbs,hb,e1,e2,e3,e4,e5,b2,w1,hL,hpl,saddU, *]|simp only[jab]|apply And.intro|intro _
 all_goals exact FN.out _
set_option maxHeartbeats 4000000 in
theorem spush_z {n:Nat}{k v:Int}(hv: -9223372036854775808≤v∧v≤9223372036854775807)(h:StAt H p σ F AT A.hd)(r:Rep A F AT)(hn:Rch A n)(hlen:(A.val n).length<100)(hsz:size A+1≤2000)(hbx:jci A k v=0)(hL: ∀i,L i=true)
  (hK: ∀H' σ' F' AT',StAt H' p σ' F' AT' A.hd→Rep (putV A n (A.val n++[boxW k v])) F' AT'→FrS p σ σ' H H'→K (.tuple []) H'):
  ZC (XS tb nd) (jal Tryz.prog) 27 [.ptr p 0,Z64 (n:Int),.agg [Z64 k,Z64 v]] L H K:=by
 refine ZC.enter Gh.no (jai (by decide)) jrC (by simp) ?_
 simp only[jk4,kkP]
 have HH:=Lib.hid h
 have HR:=Lib.hid r
 have HK:=Lib.hid hK
 have hc:=(r.cell n hn)
 obtain⟨a,ha⟩: ∃a,a=(atP AT n).toNat:=⟨_,rfl⟩
 have haI:atP AT n=(a:Int):=by omega
 have hnl:n<AT.length:=by rw[r.la];exact hn.lt r.ok
 have hx:=hc.2.1
 rw[←ha] at hx
 obtain⟨m,hm⟩: ∃m,m=(A.val n).length:=⟨_,rfl⟩
 have hlg:lng (A.mks.getD n 0*4294967296+((A.val n).length:Int))=m:=by rw[jeC (by omega),hm]
 obtain⟨hd,hhd⟩: ∃hd:Int,hd=A.mks.getD n 0*4294967296+((A.val n).length:Int):=⟨_,rfl⟩
 rw[←hhd] at hx hlg
 have hm100:m<100:=by omega
 have hb: ∀X,(H++X)[p]?=some (.box [.own σ.w σ.gw 0 F.length false,.own σ.a σ.ga 0 AT.length false,.own σ.h σ.gh 0 A.hd.length false]):=fun X=>(h.ext X).box
 have hel: ∀X,jbV (H++X) 1 n (.own σ.a σ.ga 0 AT.length false)=some (.eptr σ.a σ.ga n 0):=fun X=>a_el (h.ext X) hnl
 have hld: ∀X,ldZ (H++X) none (.eptr σ.a σ.ga n 0)=some (Z64 (a:Int)):=fun X=>by rw[←haI];exact a_ld (h.ext X) hnl
 have w1:IntKind.i64.wrap ((m:Int)+2)=((m+2:Nat):Int):=by rw[IntWalk.i64_in _ (by omega)];omega
 have hne0:H.length≠p∧H.length≠σ.w∧H.length≠σ.a∧H.length≠σ.h:=by
  have z1:=jae h.box
  have z2:=jae h.ws
  have z3:=jae h.ats
  have z4:=jae h.hs
  omega
 have HV:=Lib.hid hv
 have HX:=Lib.hid hx
 have HLG:=Lib.hid hlg
 have HM:=Lib.hid hm
 have HN0:=Lib.hid hne0
 have HBX:=Lib.hid hbx
 have HSZ:=Lib.hid hsz
 have HLEN:=Lib.hid hlen
 clear h r hK hv hc hx hlg hhd hm ha haI hnl hne0 hbx hsz hlen
 with_reducible repeat' first|simp only[zP,jaf,jaa,jad,jac,seval,Nat.reduceLeDiff,hb,hel,hld, *]|simp only[jab]|apply And.intro|intro _
 refine jbG (HH.out.ext _) HX.out ?_
 rw[HLG.out]
 with_reducible repeat' first|simp only[zP,jaf,jaa,jad,jac,seval,Nat.reduceLeDiff,hb,w1, *]|simp only[jab]|apply And.intro|intro _
 refine jqA (HH.out.ext _) HR.out hL (by omega) fun H1 σ1 F1 AT1 h1 r1 hrm _ fr1=>?_
 have hq1:=fr1.keep H.length _ HN0.out.1 HN0.out.2.1 HN0.out.2.2.1 HN0.out.2.2.2 (jay _ _)
 have hne1:H.length≠p∧H.length≠σ1.w∧H.length≠σ1.a∧H.length≠σ1.h:=by
  refine⟨HN0.out.1,?_,by rw[fr1.a];exact HN0.out.2.2.1,by rw[fr1.h];exact HN0.out.2.2.2⟩
  rcases fr1.w with e|e
  ·rw[e];exact HN0.out.2.1
  ·rw[List.length_append] at e;simp at e;omega
 have fin: ∀X,Fin H (.tuple []) X K→ ∃z,some (.tuple [])=some z∧Fin H z X K:=fun X h=>⟨_,rfl,h⟩
 have HQ1:=Lib.hid hq1
 have HN1:=Lib.hid hne1
 have H1':=Lib.hid h1
 have R1:=Lib.hid r1
 have FR1:=Lib.hid fr1
 have HRM:=Lib.hid hrm
 clear h1 r1 fr1 hq1 hne1 hrm fin hb hel hld
 by_cases hroom:F1.length+(m+2)≤2000
 ·rw[decide_eq_true hroom]
  have HROOM:=Lib.hid hroom
  clear hroom
  with_reducible repeat' first|simp only[zP,jaf,jaa,jad,jac,seval,Nat.reduceLeDiff, *]|simp only[jab]|apply And.intro|intro _
  refine smove_z H1'.out R1.out hn (by have:=HROOM.out;have:=HM.out;omega) hL fun H2 σ2 F2 AT2 h2 r2 e1 e2 fr2=>?_
  have hq2:=fr2.keep H.length _ HN1.out.1 HN1.out.2.1 HN1.out.2.2.1 HN1.out.2.2.2 HQ1.out
  have HQ2:=Lib.hid hq2
  have H2':=Lib.hid h2
  have R2:=Lib.hid r2
  have FR2:=Lib.hid fr2
  have E1:=Lib.hid e1
  have E2:=Lib.hid e2
  clear h2 r2 e1 e2 fr2 hq2
  with_reducible repeat' first|simp only[zP,jaf,jaa,jad,jac,seval,Nat.reduceLeDiff, *]|simp only[jab]|apply And.intro|intro _
  refine spT_z (q:=H.length) HV.out H2'.out R2.out hn HLEN.out (by have:=E2.out;have:=HROOM.out;have:=HM.out;omega) (by rw[E1.out,E2.out,Int.toNat_natCast]) HBX.out hL rfl rfl rfl HQ2.out fun S' H' σ' F' AT' h' r' fr'=>?_
  exact⟨.inl rfl,_,rfl,Fin.keep (HK.out H' σ' F' AT' h' r' (FR1.out.pre.trans (FR2.out.trans fr')))⟩
 ·rw[decide_eq_false hroom]
  have HROOM:=Lib.hid hroom
  clear hroom
  with_reducible repeat' first|simp only[zP,jaf,jaa,jad,jac,seval,Nat.reduceLeDiff, *]|simp only[jab]|apply And.intro|intro _
  refine slast_z H1'.out R1.out hn hL fun H2 σ2 F2 AT2 h2 r2 e1 e1b e2 fr2=>?_
  have hq2:=fr2.keep H.length _ HN1.out.1 HN1.out.2.1 HN1.out.2.2.1 HN1.out.2.2.2 HQ1.out
  have HQ2:=Lib.hid hq2
  have H2':=Lib.hid h2
  have R2:=Lib.hid r2
  have FR2:=Lib.hid fr2
  have E1:=Lib.hid e1
  have E2:=Lib.hid e2
  clear h2 r2 e1 e1b e2 fr2 hq2
  with_reducible repeat' first|simp only[zP,jaf,jaa,jad,jac,seval,Nat.reduceLeDiff, *]|simp only[jab]|apply And.intro|intro _
  refine spT_z (q:=H.length) HV.out H2'.out R2.out hn HLEN.out (by have:=E2.out;have:=HRM.out HROOM.out;have:=HSZ.out;omega) (by rw[E1.out,E2.out]) HBX.out hL rfl rfl rfl HQ2.out fun S' H' σ' F' AT' h' r' fr'=>?_
  exact⟨.inl rfl,_,rfl,Fin.keep (HK.out H' σ' F' AT' h' r' (FR1.out.pre.trans (FR2.out.trans fr')))⟩
end
section
open Go Go.RowKit
variable {tb:List (FuncId×Bool)}{nd:Bool}{L:Nat→Bool}{H:ZH}{K:ZV→ZH→Prop}{p:Nat}{σ:Sg}{F AT:List Int}{HD:List Bool}{A:AS}{u:Nat}
def StO (H:ZH)(p:Nat)(σ:Sg)(A:AS)(u:Nat):Prop:= ∃F AT,StAt H p σ F AT A.hd∧Rep A F AT∧F.length=u
theorem StO.ext (h:StO H p σ A u)(X:ZH):StO (H++X) p σ A u:=by
 obtain⟨F,AT,h1,h2,h3⟩:=h
 exact⟨F,AT,h1.ext X,h2,h3⟩
theorem StO.ok (h:StO H p σ A u):AOk A:=by obtain⟨F,AT,h1,h2,h3⟩:=h;exact h2.ok
theorem StO.lt (h:StO H p σ A u):p<H.length∧σ.w<H.length∧σ.a<H.length∧σ.h<H.length:=by
 obtain⟨F,AT,h1,h2,h3⟩:=h
 exact⟨jae h1.box,jae h1.ws,jae h1.ats,jae h1.hs⟩
theorem snew_z (hx:tb.lookup 5=none)(hK: ∀H' p σ,StO H' p σ ⟨[],[],[]⟩ 0→H.length≤p∧H.length≤σ.w∧H.length≤σ.a∧H.length≤σ.h→(∀(i:Nat) B,H[i]?=some B→H'[i]?=some B)→H.length≤H'.length→K (.ptr p 0) H'):ZC (XS tb nd) (jal Tryz.prog) 5 [] L H K:=by
 refine ZC.enter ⟨[(1, [(0, 1), (1, 1), (2, 1)])], [], []⟩ (fun args fl hp ha => by
  have:args=[]:=List.eq_nil_of_length_eq_zero ha
  subst this
  simp[boxX,jia,hx]) f_st_new (by simp) ?_
 simp only[jnO,kkP]
 have fin:Fin H (.ptr (H.length+3) 0) (H++[.grow 0 1 [],.grow 0 1 [],.grow 0 1 [],.box [.own H.length 0 0 0 false,.own (H.length+1) 0 0 0 false,.own (H.length+2) 0 0 0 false]]) K:=
  Fin.keep (hK _ _ ⟨H.length,0,H.length+1,0,H.length+2,0⟩ ⟨[],[],⟨by rw[List.getElem?_append_right (by omega),Nat.add_sub_cancel_left];rfl,jay _ _,jbf _ _ _,by show _=some (ZB.grow 0 1 _);rw[List.getElem?_append_right (by simp),Nat.add_sub_cancel_left];rfl,by simp,by simp,by simp⟩,Rep.nil,rfl⟩ ⟨by omega,by simp,by simp,by simp⟩ (fun i B hi=>by rw[List.getElem?_append_left (jae hi)];exact hi) (by simp))
 clear hK
 with_reducible repeat' first|simp only[zP,jaf,jaa,jad,jac,seval,Nat.reduceLeDiff, *]|simp only[jab]|apply And.intro|intro _
noncomputable def jkQ (A:AS)(n:Int):Int:=if jaZ A n=0 then ((A.val n.toNat).length:Int) else 0
theorem jgo (h1:StAt H p σ F AT A.hd)(r:Rep A F AT){m:Nat}(hm:Rch A m): ∃(a:Nat) (hd:Int),atP AT m=(a:Int)∧F[a]?=some hd∧hd=A.mks.getD m 0*4294967296+((A.val m).length:Int)∧lng hd=(A.val m).length∧jbV H 1 m (.own σ.a σ.ga 0 AT.length false)=some (.eptr σ.a σ.ga m 0)∧ldZ H none (.eptr σ.a σ.ga m 0)=some (Z64 (a:Int))∧(0≤A.mks.getD m 0∧A.mks.getD m 0<2147483648)∧(A.val m).length≤100∧m<AT.length:=by
 have hc:=r.cell m hm
 have hml:m<AT.length:=by rw[r.la];exact hm.lt r.ok
 have hmk:m<A.mks.length:=hm.lt r.ok
 have e:atP AT m=((atP AT m).toNat:Int):=by omega
 refine⟨(atP AT m).toNat,_,e,hc.2.1,rfl,jeC (by have:=r.ok.vl m hm;omega),a_el h1 hml,by rw[←e];exact a_ld h1 hml,?_,r.ok.vl m hm,hml⟩
 rw[List.getD_eq_getElem?_getD,List.getElem?_eq_getElem hmk]
 exact r.ok.mkr _ (List.getElem_mem hmk)
theorem jnj {n:Int}(h:StO H p σ A u)(hK:K (.tuple [Z64 (jkQ A n),Z64 (jaZ A n)]) H):ZC (XS tb nd) (jal Tryz.prog) 12 [.ptr p 0,Z64 n] L H K:=by
 refine ZC.enter Gh.no (jai (by decide)) joW (by simp) ?_
 simp only[jiq,kkP]
 obtain⟨F,AT,h1,h2,h3⟩:=h
 have HH:=Lib.hid h1
 have HR:=Lib.hid h2
 have fin:=Fin.keep (H0:=H) hK
 have FN:=Lib.hid fin
 clear hK h3 h1 h2 fin
 with_reducible repeat' first|simp only[zP,jaf,jaa,jad,jac,seval,Nat.reduceLeDiff, *]|simp only[jab]|apply And.intro|intro _
 refine jeq HH.out HR.out ?_
 by_cases h0:jaZ A n=0
 ·obtain⟨m,rfl,hm⟩:=jb3 h0
  obtain⟨a,hd,e1,e2,e3,e4,e5,e6,e7,e8,e9⟩:=jgo HH.out HR.out hm
  have hb:=HH.out.box
  have fin:=FN.out
  unfold jkQ at fin
  rw[if_pos h0,Int.toNat_natCast] at fin
  rw[h0] at fin ⊢
  have HX:=Lib.hid e2
  have HL:=Lib.hid e4
  clear e1 e2 e3 e4 e7 e8 e9 h0
  with_reducible repeat' first|simp only[zP,jaf,jaa,jad,jac,seval,Nat.reduceLeDiff,hb,e5,e6, *]|simp only[jab]|apply And.intro|intro _
  refine jbG HH.out HX.out ?_
  rw[HL.out]
  with_reducible repeat' first|simp only[zP,jaf,jaa,jad,jac,seval,Nat.reduceLeDiff, *]|simp only[jab]|apply And.intro|intro _
 ·have fin:=FN.out
  unfold jkQ at fin
  rw[if_neg h0] at fin
  with_reducible repeat' first|simp only[zP,jaf,jaa,jad,jac,seval,Nat.reduceLeDiff,h0, *]|simp only[jab]|apply And.intro|intro _
noncomputable def jkP (A:AS)(n:Int):Int:=if jaZ A n≠0 then jaZ A n else if A.hd.getD n.toNat false=false then 8 else 0
noncomputable def jjd (A:AS)(n:Int):AS:=if jkP A n=0 then ⟨A.mks,A.vs,A.hd.set n.toNat false⟩ else A
theorem sdrop_z {n:Int}(h:StO H p σ A u)(hL: ∀i,L i=true)(hK: ∀H',StO H' p σ (jjd A n) u→FrS p σ σ H H'→K (Z64 (jkP A n)) H'):ZC (XS tb nd) (jal Tryz.prog) 8 [.ptr p 0,Z64 n] L H K:=by
 refine ZC.enter Gh.no (jai (by decide)) jrH (by simp) ?_
 simp only[jk9,kkP]
 have h9:=h
 obtain⟨F,AT,h1,h2,h3⟩:=h
 have HH:=Lib.hid h1
 have HR:=Lib.hid h2
 have H9:=Lib.hid h9
 have H3:=Lib.hid h3
 have HK:=Lib.hid hK
 clear hK h3 h1 h2 h9
 with_reducible repeat' first|simp only[zP,jaf,jaa,jad,jac,seval,Nat.reduceLeDiff, *]|simp only[jab]|apply And.intro|intro _
 refine jeq HH.out HR.out ?_
 by_cases h0:jaZ A n=0
 ·obtain⟨m,rfl,hm⟩:=jb3 h0
  have hml:m<A.hd.length:=by rw[HR.out.ok.lh];exact hm.lt HR.out.ok
  have hb:=HH.out.box
  have hx:A.hd[m]?=some A.hd[m]:=List.getElem?_eq_getElem hml
  have hgd:A.hd.getD m false=A.hd[m]:=by rw[List.getD_eq_getElem?_getD,hx];rfl
  obtain⟨b,hbb⟩: ∃b,b=A.hd[m]:=⟨_,rfl⟩
  rw[←hbb] at hx hgd
  have e1:=h_el HH.out hml
  have e2:=h_st (L:=L) (x:=false) HH.out hml (hL _)
  have e3:=h_ld HH.out hx
  cases b with
  |false=>
   have hE:jkP A (m:Int)=8:=by unfold jkP;rw[if_neg (by rw[h0];simp),Int.toNat_natCast,if_pos hgd]
   have hs:jjd A (m:Int)=A:=by unfold jjd;rw[if_neg (by rw[hE];decide)]
   have fin:=Fin.keep (H0:=H) (HK.out H (by rw[hs];exact H9.out) FrS.refl)
   rw[hE] at fin
   rw[h0]
   clear hE hs h0 hml hx hgd hbb
   with_reducible repeat' first|simp only[zP,jaf,jaa,jad,jac,seval,Nat.reduceLeDiff,hb,e1,e2,e3, *]|simp only[jab]|apply And.intro|intro _
  |true=>
   have hE:jkP A (m:Int)=0:=by unfold jkP;rw[if_neg (by rw[h0];simp),Int.toNat_natCast,if_neg (by rw[hgd];simp)]
   obtain⟨q1,q2⟩:=HH.out.setH (HD':=A.hd.set m false) (by rw[List.length_set])
   have hs:jjd A (m:Int)=⟨A.mks,A.vs,A.hd.set m false⟩:=by unfold jjd;rw[if_pos hE,Int.toNat_natCast]
   have hr := HR.out.hold (hd := A.hd.set m false) (by rw [List.length_set]) (fun i hi => by
    rw[List.getElem?_set] at hi
    split at hi
    ·simp at hi
    ·exact .held hi)
   have fin:=Fin.keep (H0:=H) (HK.out _ (by rw[hs];exact⟨F,AT,q1,hr,H3.out⟩) q2)
   rw[hE] at fin
   rw[h0]
   clear q1 q2 hs hr h0 hml hE hx hgd hbb
   with_reducible repeat' first|simp only[zP,jaf,jaa,jad,jac,seval,Nat.reduceLeDiff,hb,e1,e2,e3, *]|simp only[jab]|apply And.intro|intro _
 ·have hE:jkP A n=jaZ A n:=by unfold jkP;rw[if_pos h0]
  have hs:jjd A n=A:=by unfold jjd;rw[if_neg (by rw[hE];exact h0)]
  have fin:=Fin.keep (H0:=H) (HK.out H (by rw[hs];exact H9.out) FrS.refl)
  rw[hE] at fin
  clear hs hE
  with_reducible repeat' first|simp only[zP,jaf,jaa,jad,jac,seval,Nat.reduceLeDiff,h0, *]|simp only[jab]|apply And.intro|intro _
end
end Go.Proofs.YtjaahfncbechnaaGreatDoor
