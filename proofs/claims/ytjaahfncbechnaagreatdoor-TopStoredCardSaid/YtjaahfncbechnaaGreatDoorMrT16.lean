/-
  The store in ZM: move, last.
-/
import Derived.Test.YtjaahfncbechnaaGreatDoorMrT15
set_option linter.unusedVariables false
set_option linter.unusedSimpArgs false
namespace Go.Proofs.YtjaahfncbechnaaGreatDoor
section
open Go Go.RowKit
variable {tb:List (FuncId×Bool)}{nd:Bool}{L:Nat→Bool}{H:ZH}{K:ZV→ZH→Prop}{p:Nat}{σ:Sg}{F AT:List Int}{HD:List Bool}{A:AS}
abbrev Sg.w1 (σ:Sg)(g:Nat):Sg:=⟨σ.w,g,σ.a,σ.ga,σ.h,σ.gh⟩
abbrev stH (H:ZH)(p:Nat)(σ:Sg)(g:Nat)(F' AT:List Int)(HD:List Bool):ZH:=(H.set σ.w (.grow g 1 (F'.map eU))).set p (.box [.own σ.w g 0 F'.length false,.own σ.a σ.ga 0 AT.length false,.own σ.h σ.gh 0 HD.length false])
theorem StAt.growW (h:StAt H p σ F AT HD)(g:Nat)(F':List Int):StAt (stH H p σ g F' AT HD) p (σ.w1 g) F' AT HD∧FrS p σ (σ.w1 g) H (stH H p σ g F' AT HD):=by
 have hp:=jae h.box
 refine⟨⟨by rw[List.getElem?_set_self (by simpa using hp)],by rw[List.getElem?_set_ne h.pw,List.getElem?_set_self (jae h.ws)],by rw[List.getElem?_set_ne h.pa,List.getElem?_set_ne h.wa];exact h.ats,by rw[List.getElem?_set_ne h.ph,List.getElem?_set_ne h.wh];exact h.hs,h.wa,h.wh,h.ah⟩,⟨by simp,fun i B hi hw ha hh hb=>by rw[List.getElem?_set_ne (Ne.symm hi),List.getElem?_set_ne (Ne.symm hw)];exact hb,.inl rfl,rfl,rfl⟩⟩
theorem Rep.at_le (r:Rep A F AT)(n:Nat):atP AT n≤2000:=by
 by_cases h:0≤atP AT n
 ·have:=(r.fit h).1;have:=r.hl;omega
 ·omega
theorem Rep.ok_ref (r:Rep A F AT){w:Int}(h:jaz w (objs F 0)=true)(hp:jax w=true):0≤jau w∧jau w≤2000:=by
 obtain⟨q1,q2⟩:=jda h hp
 have:=(jbN F _ 0 (Nat.le_refl _) r.he _ q2).2.1
 have:=r.hl
 exact⟨q1,by omega⟩
set_option maxHeartbeats 4000000 in
theorem smove_z {n:Nat}(h:StAt H p σ F AT A.hd)(r:Rep A F AT)(hn:Rch A n)(hroom:F.length+(1+(A.val n).length)≤2000)(hL: ∀i,L i=true)
  (hK: ∀H' σ' F' AT',StAt H' p σ' F' AT' A.hd→Rep A F' AT'→atP AT' n=(F.length:Int)→F'.length=F.length+(1+(A.val n).length)→FrS p σ σ' H H'→K (.tuple []) H'):
  ZC (XS tb nd) (jal Tryz.prog) 64 [.ptr p 0,Z64 (n:Int)] L H K:=by
 refine ZC.enter Gh.no (jai (by decide)) jrD (by simp) ?_
 simp only[jk5,kkP]
 obtain⟨r',e1,e2,e3,e4,e5⟩:=r.move hn hroom
 have hc:=(r.cell n hn).1
 have hft:=r.fit hc
 have hoz:=r.osz hn
 obtain⟨a,ha⟩: ∃a,a=(atP AT n).toNat:=⟨_,rfl⟩
 have haI:atP AT n=(a:Int):=by omega
 rw[←ha] at r' e1 e2 e3 e4 e5 hft hoz
 obtain⟨m,hm⟩: ∃m,m=(A.val n).length:=⟨_,rfl⟩
 rw[←hm] at hoz e2 hroom
 rw[hoz] at hft
 obtain⟨x,hx⟩: ∃x,F[a]?=some x:=⟨_,List.getElem?_eq_getElem hft.1⟩
 have hlx:lng x=m:=by
  have:osz F a=1+lng x:=by unfold osz;rw[hx];rfl
  omega
 have hnl:n<AT.length:=by rw[r.la];exact hn.lt r.ok
 have hb: ∀X,(H++X)[p]?=some (.box [.own σ.w σ.gw 0 F.length false,.own σ.a σ.ga 0 AT.length false,.own σ.h σ.gh 0 A.hd.length false]):=fun X=>(h.ext X).box
 have hb0:=h.box
 have hel:=a_el h hnl
 have hld:=a_ld h hnl
 rw[haI] at hld
 have hlw:lenZ H (.own σ.w σ.gw 0 F.length false)=some F.length:=by rw[jaY];exact⟨_,_,h.ws,rfl⟩
 have hlw2: ∀X,lenZ (H++X) (.own σ.w σ.gw 0 F.length false)=some F.length:=fun X=>by rw[jaY];exact⟨_,_,(h.ext X).ws,rfl⟩
 have hpl:=jae h.box
 have hpl2: ∀n,p<H.length+n:=fun n=>by omega
 have g0: ∀A Z,(H++(A::Z))[H.length]?=some A:=fun A Z=>jay A Z
 have s0: ∀A C Z,(H++(A::Z)).set H.length C=H++(C::Z):=fun A C Z=>jbR A C Z
 have g1: ∀A B Z,(H++(A::B::Z))[H.length+1]?=some B:=fun A B Z=>jbf A B Z
 have s1: ∀A B C Z,(H++(A::B::Z)).set (H.length+1) C=H++(A::C::Z):=fun A B C Z=>jdH A B C Z
 have HH:=Lib.hid h
 have HR:=Lib.hid r
 have HR':=Lib.hid r'
 have HE1:=Lib.hid e1
 have HE2:=Lib.hid e2
 have HE3:=Lib.hid e3
 have HE4:=Lib.hid e4
 have HE5:=Lib.hid e5
 have HX:=Lib.hid hx
 have HM:=Lib.hid hm
 have HF:=Lib.hid hft
 have HLX:=Lib.hid hlx
 have HRO:=Lib.hid hroom
 have HOZ:=Lib.hid hoz
 have HK:=Lib.hid hK
 clear h r r' e1 e2 e3 e4 e5 hx hm hft hlx hroom hK hc ha haI hnl hoz
 have l2:H.length<H.length+2:=by omega
 have l3:H.length+1<H.length+2:=by omega
 have l4:(H.length==p)=false:=by rw[beq_eq_false_iff_ne];omega
 with_reducible repeat' first|simp only[zP,jaf,jaa,jad,jac,seval,Nat.reduceLeDiff,hb0,hel,hld,hlw,hpl,hpl2,g0,g1,s0,s1,hL,l2,l3,l4, *]|simp only[jab]|apply And.intro|intro _
 refine jbG (HH.out.ext _) HX.out ?_
 rw[HLX.out]
 obtain⟨O,hO⟩: ∃O,O=ja7 F a:=⟨_,rfl⟩
 obtain⟨G,hG⟩: ∃G,G=F++O:=⟨_,rfl⟩
 have hOl:O.length=1+m:=by rw[hO,jcZ (by rw[HOZ.out];exact HF.out.2),HOZ.out]
 have hGl:G.length=F.length+(1+m):=by rw[hG,List.length_append,hOl]
 have hF:=HF.out
 have hRO:=HRO.out
 have hO2:O=(F.drop a).take (1+m):=by rw[hO];unfold ja7;rw[HX.out,Option.getD_some,HLX.out]
 rw[←hO,← hG] at HE3 HE4 HE5 HR' HE2
 have w1:IntKind.i64.wrap ((a:Int)+1)=((a+1:Nat):Int):=by rw[IntWalk.i64_in _ (by omega)];omega
 have w2:IntKind.i64.wrap (((a+1:Nat):Int)+(m:Int))=((a+1+m:Nat):Int):=by rw[IntWalk.i64_in _ (by omega)];omega
 have hcut: ∀X,cutZ (H++X) 1 a (a+1+m) F.length false (.own σ.w σ.gw 0 F.length false)=some (.own σ.w σ.gw a (1+m) false):=fun X=>by
  simp only[cutZ,(HH.out.ext X).ws]
  rw[if_pos ⟨trivial,trivial,by omega,by omega,Nat.le_refl _,by simp⟩]
  simp only[Nat.zero_add,Bool.false_or,Bool.false_and]
  rw[show a+1+m - a=1+m by omega]
 have hrw: ∀X,jbi (H++X) 1 (.own σ.w σ.gw a (1+m) false)=some (O.map eU):=fun X=>by
  rw[jc7];exact⟨_,(HH.out.ext X).ws,by simp;omega,by rw[hO2,List.map_take,List.map_drop]⟩
 have hap: ∀X,appZ L (H++X) 1 8 (O.map eU) (.own σ.w σ.gw 0 F.length false)=some (.own σ.w (σ.gw+1) 0 G.length false,(H++X).set σ.w (.grow (σ.gw+1) 1 (G.map eU))):=fun X=>by
  rw[jdL]
  refine⟨_,(HH.out.ext X).ws,by simp,by rw[List.length_map,hOl];unfold ja5;omega,hL _,by rw[List.length_map,hOl,hGl],?_⟩
  rw[List.drop_zero,List.take_of_length_le (by simp),hG,List.map_append]
 have hbs: ∀X B,((H++X).set σ.w B)[p]?=some (.box [.own σ.w σ.gw 0 F.length false,.own σ.a σ.ga 0 AT.length false,.own σ.h σ.gh 0 A.hd.length false]):=fun X B=>by
  rw[List.getElem?_set_ne (Ne.symm HH.out.pw)];exact (HH.out.ext X).box
 have HGl:=Lib.hid hGl
 clear hO hG hOl hGl hF hRO hO2 hlw hb0 hel hld
 with_reducible repeat' first|simp only[zP,jaf,jaa,jad,jac,seval,Nat.reduceLeDiff,hb,hlw2,hpl,hpl2,g0,g1,hL,l2,l3,l4,w1,w2,hcut,hrw,hap,hbs,jgJ,jgI,jlR,Option.isSome_none, *]|simp only[jab]|apply And.intro|intro _
 obtain⟨q1,q2⟩:=(HH.out.ext [ZB.box [Z64 (a:Int)],ZB.box [Z64 (F.length:Int)]]).growW (σ.gw+1) G
 have hne0: ∀i,H.length≤i→i≠p∧i≠σ.w∧i≠σ.a∧i≠σ.h:=fun i hi=>by
  have z1:=jae HH.out.box
  have z2:=jae HH.out.ws
  have z3:=jae HH.out.ats
  have z4:=jae HH.out.hs
  omega
 have b0:=hne0 H.length (Nat.le_refl _)
 have b1:=hne0 (H.length+1) (by omega)
 refine turn_z q1 HE3.out (by rw[HGl.out];exact HRO.out) HE4.out HR.out.at_le (by rw[HR.out.la];exact HR.out.ok.n100) (fun j w hj hno hp=>HR.out.ok_ref (HE5.out j w hj hno) hp) hL (f:=jgO a F.length)
  (fun H' F' AT' st fr hl x h0 h1 L' K' hk=>?_) fun H' st fr=>?_
 ·refine smove1_z (i:=H.length) (j:=H.length+1) (a:=a) (b:=F.length) (fr.keep _ _ b0.1 b0.2.1 b0.2.2.1 b0.2.2.2 ?_) (fr.keep _ _ b1.1 b1.2.1 b1.2.2.1 b1.2.2.2 ?_) hk
  ·exact q2.keep _ _ b0.1 b0.2.1 b0.2.2.1 b0.2.2.2 (g0 _ _)
  ·exact q2.keep _ _ b1.1 b1.2.1 b1.2.2.1 b1.2.2.2 (g1 _ _ _)
 ·have hlen:=HE2.out
  have fin:=Fin.keep (H0:=H) (HK.out H' _ _ _ st HR'.out HE1.out (by rw[hlen,← HM.out]) (FrS.ext.trans (q2.trans fr)))
  clear st fr q1 q2 hlen b0 b1 hne0
  with_reducible repeat' first|simp only[zP,jaf,jaa,jad,jac,seval,Nat.reduceLeDiff, *]|simp only[jab]|apply And.intro|intro _
  exact⟨_,rfl,fin⟩
end
section
open Go Go.RowKit
variable {tb:List (FuncId×Bool)}{nd:Bool}{L:Nat→Bool}{H:ZH}{K:ZV→ZH→Prop}{p:Nat}{σ:Sg}{F AT:List Int}{HD:List Bool}{A:AS}
set_option maxHeartbeats 4000000 in
theorem slast_z {n:Nat}(h:StAt H p σ F AT A.hd)(r:Rep A F AT)(hn:Rch A n)(hL: ∀i,L i=true)
  (hK: ∀H' σ' F' AT',StAt H' p σ' F' AT' A.hd→Rep A F' AT'→(atP AT' n).toNat+(1+(A.val n).length)=F.length→0≤atP AT' n→F'.length=F.length→FrS p σ σ' H H'→K (.tuple []) H'):
  ZC (XS tb nd) (jal Tryz.prog) 63 [.ptr p 0,Z64 (n:Int)] L H K:=by
 refine ZC.enter Gh.no (jai (by decide)) jrG (by simp) ?_
 simp only[jk8,kkP]
 obtain⟨r',e1,e2,e2b,e3,e4,e5⟩:=r.last hn
 have hc:=(r.cell n hn).1
 have hft:=r.fit hc
 have hoz:=r.osz hn
 obtain⟨a,ha⟩: ∃a,a=(atP AT n).toNat:=⟨_,rfl⟩
 have haI:atP AT n=(a:Int):=by omega
 rw[←ha] at r' e1 e2 e3 e4 e5 hft hoz
 obtain⟨m,hm⟩: ∃m,m=(A.val n).length:=⟨_,rfl⟩
 rw[←hm] at r' e1 e2 e2b e3 e4 e5 hoz
 rw[hoz] at hft
 obtain⟨x,hx⟩: ∃x,F[a]?=some x:=⟨_,List.getElem?_eq_getElem hft.1⟩
 have hlx:lng x=m:=by
  have:osz F a=1+lng x:=by unfold osz;rw[hx];rfl
  omega
 have hnl:n<AT.length:=by rw[r.la];exact hn.lt r.ok
 have hFl:=r.hl
 have hb: ∀X,(H++X)[p]?=some (.box [.own σ.w σ.gw 0 F.length false,.own σ.a σ.ga 0 AT.length false,.own σ.h σ.gh 0 A.hd.length false]):=fun X=>(h.ext X).box
 have hel: ∀X,jbV (H++X) 1 n (.own σ.a σ.ga 0 AT.length false)=some (.eptr σ.a σ.ga n 0):=fun X=>a_el (h.ext X) hnl
 have hld: ∀X,ldZ (H++X) none (.eptr σ.a σ.ga n 0)=some (Z64 (a:Int)):=fun X=>by rw[←haI];exact a_ld (h.ext X) hnl
 have hlw2: ∀X,lenZ (H++X) (.own σ.w σ.gw 0 F.length false)=some F.length:=fun X=>by rw[jaY];exact⟨_,_,(h.ext X).ws,rfl⟩
 have hpl:=jae h.box
 have hwl:=jae h.ws
 have hpl2: ∀n,p<H.length+n:=fun n=>by omega
 have g0: ∀A Z,(H++(A::Z))[H.length]?=some A:=fun A Z=>jay A Z
 have g1: ∀A B Z,(H++(A::B::Z))[H.length+1]?=some B:=fun A B Z=>jbf A B Z
 have s1: ∀A B C Z,(H++(A::B::Z)).set (H.length+1) C=H++(A::C::Z):=fun A B C Z=>jdH A B C Z
 have g2: ∀A B C Z,(H++(A::B::C::Z))[H.length+2]?=some C:=fun A B C Z=>by rw[List.getElem?_append_right (by omega),Nat.add_sub_cancel_left];rfl
 have s2: ∀A B C D Z,(H++(A::B::C::Z)).set (H.length+2) D=H++(A::B::D::Z):=fun A B C D Z=>by rw[List.set_append_right _ _ (by omega),Nat.add_sub_cancel_left];rfl
 have HH:=Lib.hid h
 have HR:=Lib.hid r
 have HR':=Lib.hid r'
 have HE1:=Lib.hid e1
 have HE2:=Lib.hid e2
 have HE2b:=Lib.hid e2b
 have HE3:=Lib.hid e3
 have HE4:=Lib.hid e4
 have HE5:=Lib.hid e5
 have HX:=Lib.hid hx
 have HM:=Lib.hid hm
 have HF:=Lib.hid hft
 have HLX:=Lib.hid hlx
 have HOZ:=Lib.hid hoz
 have HFL:=Lib.hid hFl
 have HK:=Lib.hid hK
 have w1:IntKind.i64.wrap (1+(m:Int))=((1+m:Nat):Int):=by rw[IntWalk.i64_in _ (by omega)];omega
 have w2:IntKind.i64.wrap ((a:Int)+((1+m:Nat):Int))=((a+(1+m):Nat):Int):=by rw[IntWalk.i64_in _ (by omega)];omega
 have l4:(H.length==p)=false:=by rw[beq_eq_false_iff_ne];omega
 have l5:(σ.w==H.length)=false:=by rw[beq_eq_false_iff_ne];omega
 have l6:(σ.w==p)=false:=by rw[beq_eq_false_iff_ne];exact Ne.symm h.pw
 have l7:H.length<H.length+3:=by omega
 have hcut: ∀X,cutZ (H++X) 1 a (a+(1+m)) F.length false (.own σ.w σ.gw 0 F.length false)=some (.own σ.w σ.gw a (1+m) false):=fun X=>by
  simp only[cutZ,(h.ext X).ws]
  rw[if_pos ⟨trivial,trivial,by omega,by omega,Nat.le_refl _,by simp⟩]
  simp only[Nat.zero_add,Bool.false_or,Bool.false_and]
  rw[show a+(1+m) - a=1+m by omega]
 clear h r r' e1 e2 e2b e3 e4 e5 hx hlx hoz hK hc haI ha hft hm hnl hFl
 with_reducible repeat' first|simp only[zP,jaf,jaa,jad,jac,seval,Nat.reduceLeDiff,hb,hel,hld,hpl,hpl2,g0,g1,s1,hL, *]|simp only[jab]|apply And.intro|intro _
 refine jbG (HH.out.ext _) HX.out ?_
 rw[HLX.out]
 with_reducible repeat' first|simp only[zP,jaf,jaa,jad,jac,seval,Nat.reduceLeDiff,hb,hel,hld,hlw2,hpl,hpl2,g0,g1,g2,s1,s2,hL,w1,w2,hcut,jgJ,jgI,jlR,Option.isSome_none, *]|simp only[jab]|apply And.intro|intro _
 refine sclone_z (F:=F) (HH.out.ext _).ws (by omega) (by have:=HF.out;omega) HFL.out ?_
 obtain⟨O,hO⟩: ∃O,O=ja7 F a:=⟨_,rfl⟩
 obtain⟨D,hD⟩: ∃D,D=F.take a++F.drop (a+(1+m)):=⟨_,rfl⟩
 obtain⟨G,hG⟩: ∃G,G=D++O:=⟨_,rfl⟩
 have hF:=HF.out
 have hFl:=HFL.out
 have hO2:(F.drop a).take (1+m)=O:=by rw[hO];unfold ja7;rw[HX.out,Option.getD_some,HLX.out]
 have hOl:O.length=1+m:=by rw[←hO2];simp;omega
 have hDl:D.length=F.length - (1+m):=by rw[hD];simp;omega
 have hGl:G.length=F.length:=by rw[hG,List.length_append,hOl,hDl];omega
 rw[hO2]
 rw[←hD,← hO,← hG] at HE3 HE4 HE5 HR' HE2
 have hwl2: ∀n,σ.w<H.length+n:=fun n=>by omega
 have hdel: ∀X,(((F.map eU).take a++((F.map eU).take F.length).drop (a+(1+m))))=D.map eU:=fun X:Nat=>by
  rw[show (F.map eU).take F.length=F.map eU from List.take_of_length_le (by simp),hD,List.map_append,List.map_take,List.map_drop]
 have hws: ∀X B,((H++X).set σ.w B)[σ.w]?=some B:=fun X B=>by rw[List.getElem?_set_self (by rw[List.length_append];omega)]
 have c1:F.length - (1+m)≤D.length:=by omega
 have c2:G.length*8≤ja5:=by unfold ja5;omega
 have c3:F.length - (1+m)+O.length=G.length:=by omega
 have c4:(D.map eU).take (F.length - (1+m))=D.map eU:=List.take_of_length_le (by rw[List.length_map];omega)
 have c5:D.map eU++O.map eU=G.map eU:=by rw[hG,List.map_append]
 have hbs: ∀X B,((H++X).set σ.w B)[p]?=some (.box [.own σ.w σ.gw 0 F.length false,.own σ.a σ.ga 0 AT.length false,.own σ.h σ.gh 0 A.hd.length false]):=fun X B=>by
  rw[List.getElem?_set_ne (Ne.symm HH.out.pw)];exact (HH.out.ext X).box
 have HGl:=Lib.hid hGl
 have HDE:=Lib.hid hdel
 have C1:=Lib.hid c1
 have C2:=Lib.hid c2
 have C3:=Lib.hid c3
 have C4:=Lib.hid c4
 have C5:=Lib.hid c5
 clear hO hD hG hOl hDl hGl hF hFl hO2 hdel c1 c2 c3 c4 c5
 with_reducible repeat' first|simp only[zP,jaf,jaa,jad,jac,seval,Nat.reduceLeDiff,hb,hlw2,hpl,hpl2,g0,g1,g2,hL,l4,l7, *]|simp only[jab]|apply And.intro|intro _
 refine sdel_z (i:=a) (m:=1+m) (HH.out.ext _).ws (by simp) HF.out.2 (by omega) (by simp[l5]) HFL.out ?_
 rw[HDE.out 0]
 obtain⟨q1,q2⟩:=(HH.out.ext [ZB.box [.ptr p 0],ZB.box [Z64 (a:Int)],ZB.box [Z64 ((1+m:Nat):Int)]]).growW (σ.gw+1+1) G
 have hne0: ∀i,H.length≤i→i≠p∧i≠σ.w∧i≠σ.a∧i≠σ.h:=fun i hi=>by
  have z1:=jae HH.out.box
  have z2:=jae HH.out.ws
  have z3:=jae HH.out.ats
  have z4:=jae HH.out.hs
  omega
 have b0:=hne0 H.length (Nat.le_refl _)
 have b1:=hne0 (H.length+1) (by omega)
 have b2:=hne0 (H.length+2) (by omega)
 have k0:=q2.keep _ _ b0.1 b0.2.1 b0.2.2.1 b0.2.2.2 (g0 _ _)
 have k1:=q2.keep _ _ b1.1 b1.2.1 b1.2.2.1 b1.2.2.2 (g1 _ _ _)
 have k2:=q2.keep _ _ b2.1 b2.2.1 b2.2.2.1 b2.2.2.2 (g2 _ _ _ _)
 have Q1:=Lib.hid q1
 have Q2:=Lib.hid q2
 have K1:=Lib.hid k1
 have K2:=Lib.hid k2
 clear q1 q2 k1 k2 hne0
 have c1:=C1.out
 have c2:=C2.out
 have c3:=C3.out
 have c4:=C4.out
 have c5:=C5.out
 with_reducible repeat' first|simp only[zP,jaf,jaa,jad,jac,seval,Nat.reduceLeDiff,hb,hlw2,hpl,hpl2,g0,g1,g2,hL,l4,l7,hws,hbs,c1,c2,c3,c4,c5,k0,List.set_set,List.length_map, *]|simp only[jab]|apply And.intro|intro _
 have hFl:=HFL.out
 refine turn_z Q1.out HE3.out (by rw[HGl.out];exact hFl) HE4.out HR.out.at_le (by rw[HR.out.la];exact HR.out.ok.n100) (fun j w hj hno hp=>HR.out.ok_ref (HE5.out j w hj hno) hp) hL (f:=jfz a (1+m) F.length)
  (fun H' F' AT' st fr hl x h0 h1 L' K' hk=>?_) fun H' st fr=>?_
 ·have hl2:F'.length=F.length:=hl.trans HGl.out
  refine slast1_z (i:=H.length+1) (q:=H.length) (j:=H.length+2) (a:=a) (n:=1+m) st (by omega) ⟨h0,h1⟩ (by have:=HF.out;omega) (fr.keep _ _ b1.1 b1.2.1 b1.2.2.1 b1.2.2.2 K1.out) (fr.keep _ _ b0.1 b0.2.1 b0.2.2.1 b0.2.2.2 k0) (fr.keep _ _ b2.1 b2.2.1 b2.2.2.1 b2.2.2.2 K2.out) (by rw[hl2];exact hk)
 ·have hlen:=HE2.out
  have h2b:=HE2b.out
  have h1:=HE1.out
  have fin:=Fin.keep (H0:=H) (HK.out H' _ _ _ st HR'.out (by rw[h1,Int.toNat_natCast,← HM.out];omega) (by rw[h1];omega) hlen (FrS.ext.trans (Q2.out.trans fr)))
  clear st fr hlen h2b h1 b0 b1 b2 c1 c2 c3 c4 c5
  with_reducible repeat' first|simp only[zP,jaf,jaa,jad,jac,seval,Nat.reduceLeDiff, *]|simp only[jab]|apply And.intro|intro _
  exact⟨_,rfl,fin⟩
end
end Go.Proofs.YtjaahfncbechnaaGreatDoor
