/-
  The store in ZM: its state; long, roots, needed, named.
-/
import Derived.Test.YtjaahfncbechnaaGreatDoorMrT10
import Derived.Test.YtjaahfncbechnaaGreatDoorMrT11
import Derived.Test.YtjaahfncbechnaaGreatDoorMrT12
import Derived.Test.YtjaahfncbechnaaGreatDoorMrT13
import Derived.Test.YtjaahfncbechnaaGreatDoorMrT6
set_option linter.unusedVariables false
set_option linter.unusedSimpArgs false
namespace Go.Proofs.YtjaahfncbechnaaGreatDoor
section
open Go Go.RowKit
abbrev XS (tb:List (FuncId×Bool))(nd:Bool):XT:=⟨boxX tb,nd,pnT⟩
section
variable {tb:List (FuncId×Bool)}{nd:Bool}{L:Nat→Bool}{H:ZH}{K:ZV→ZH→Prop}
theorem ZC.up {F:FuncId→Option jaM}{f:FuncId}{zs:List ZV}(h:ZC (boxX tb) F f zs L H K):ZC (XS tb nd) F f zs L H K:=fun fl w args r e ha=>AC.lift (X:=XS tb nd) (h fl w args r e ha)
theorem jj6 {k n:Int}(hK:K (.tuple [.val (.int .u64 (boxW k n)),Z64 (boxE k n)]) H):ZC (XS tb nd) (jal Tryz.prog) 15 [.agg [Z64 k,Z64 n]] L H K:=ZC.up (box_z hK)
theorem jfG {u:Int}(h0:0≤u∧u<18446744073709551616)(hK:K (.tuple [.agg [Z64 (jaw u),Z64 (jau u)],Z64 (unE u)]) H):ZC (XS tb nd) (jal Tryz.prog) 29 [.val (.int .u64 u)] L H K:=ZC.up (jlr h0 hK)
end
structure Sg where
  w:Nat
  gw:Nat
  a:Nat
  ga:Nat
  h:Nat
  gh:Nat
structure StAt (H:ZH)(p:Nat)(σ:Sg)(F AT:List Int)(HD:List Bool):Prop where
  box:H[p]?=some (.box [.own σ.w σ.gw 0 F.length false,.own σ.a σ.ga 0 AT.length false,.own σ.h σ.gh 0 HD.length false])
  ws:H[σ.w]?=some (.grow σ.gw 1 (F.map eU))
  ats:H[σ.a]?=some (.grow σ.ga 1 (AT.map eI))
  hs:H[σ.h]?=some (.grow σ.gh 1 (HD.map eB))
  wa:σ.w≠σ.a
  wh:σ.w≠σ.h
  ah:σ.a≠σ.h
variable {tb:List (FuncId×Bool)}{nd:Bool}{L:Nat→Bool}{H:ZH}{K:ZV→ZH→Prop}{p:Nat}{σ:Sg}{F AT:List Int}{HD:List Bool}{A:AS}
theorem StAt.ext (h:StAt H p σ F AT HD)(X:ZH):StAt (H++X) p σ F AT HD:=
 ⟨by rw[List.getElem?_append_left (jae h.box)];exact h.box,by rw[List.getElem?_append_left (jae h.ws)];exact h.ws,by rw[List.getElem?_append_left (jae h.ats)];exact h.ats,by rw[List.getElem?_append_left (jae h.hs)];exact h.hs,h.wa,h.wh,h.ah⟩
theorem StAt.pw (h:StAt H p σ F AT HD):p≠σ.w:=fun e=>by have h1:=h.box;rw[e,h.ws] at h1;cases h1
theorem StAt.pa (h:StAt H p σ F AT HD):p≠σ.a:=fun e=>by have h1:=h.box;rw[e,h.ats] at h1;cases h1
theorem StAt.ph (h:StAt H p σ F AT HD):p≠σ.h:=fun e=>by have h1:=h.box;rw[e,h.hs] at h1;cases h1
structure FrS (p:Nat)(σ σ':Sg)(H H':ZH):Prop where
  len:H.length≤H'.length
  keep: ∀(i:Nat) B,i≠p→i≠σ.w→i≠σ.a→i≠σ.h→H[i]?=some B→H'[i]?=some B
  w:σ'.w=σ.w∨H.length≤σ'.w
  a:σ'.a=σ.a
  h:σ'.h=σ.h
theorem FrS.refl:FrS p σ σ H H:=⟨Nat.le_refl _,fun _ _ _ _ _ _ h=>h,.inl rfl,rfl,rfl⟩
theorem FrS.trans {H1 H2 H3:ZH}{σ1 σ2 σ3:Sg}(h1:FrS p σ1 σ2 H1 H2)(h2:FrS p σ2 σ3 H2 H3):FrS p σ1 σ3 H1 H3:=by
 refine⟨Nat.le_trans h1.len h2.len,fun i B hp hw ha hh hi=>?_,?_,h2.a.trans h1.a,h2.h.trans h1.h⟩
 ·have:=jae hi
  have h1l:=h1.len
  refine h2.keep i B hp ?_ (by rw[h1.a];exact ha) (by rw[h1.h];exact hh) (h1.keep i B hp hw ha hh hi)
  rcases h1.w with e|e
  ·rw[e];exact hw
  ·omega
 ·rcases h2.w with e|e
  ·rw[e];exact h1.w
  ·right;have:=h1.len;omega
theorem FrS.ext {X:ZH}:FrS p σ σ H (H++X):=⟨by simp,fun i B _ _ _ _ h=>by rw[List.getElem?_append_left (jae h)];exact h,.inl rfl,rfl,rfl⟩
theorem FrS.pre {X H':ZH}{σ':Sg}(h:FrS p σ σ' (H++X) H'):FrS p σ σ' H H':=FrS.trans (FrS.ext (X:=X)) h
theorem a_el (h:StAt H p σ F AT HD){n:Nat}(hn:n<AT.length):jbV H 1 n (.own σ.a σ.ga 0 AT.length false)=some (.eptr σ.a σ.ga n 0):=by
 rw[jbT];exact⟨_,h.ats,by simp,hn,by simp⟩
theorem a_ld (h:StAt H p σ F AT HD){n:Nat}(hn:n<AT.length):ldZ H none (.eptr σ.a σ.ga n 0)=some (Z64 (atP AT n)):=by
 rw[jbO];exact⟨_,_,eI (atP AT n),h.ats,by rw[List.getElem?_map,List.getElem?_eq_getElem hn];simp[atP,List.getD_eq_getElem?_getD,hn],rfl⟩
theorem w_el (h:StAt H p σ F AT HD){n:Nat}(hn:n<F.length):jbV H 1 n (.own σ.w σ.gw 0 F.length false)=some (.eptr σ.w σ.gw n 0):=by
 rw[jbT];exact⟨_,h.ws,by simp,hn,by simp⟩
theorem w_ld (h:StAt H p σ F AT HD){n:Nat}{x:Int}(hn:F[n]?=some x):ldZ H none (.eptr σ.w σ.gw n 0)=some (.val (.int .u64 x)):=by
 rw[jbO];exact⟨_,_,eU x,h.ws,by rw[List.getElem?_map,hn];rfl,rfl⟩
theorem h_el (h:StAt H p σ F AT HD){n:Nat}(hn:n<HD.length):jbV H 1 n (.own σ.h σ.gh 0 HD.length false)=some (.eptr σ.h σ.gh n 0):=by
 rw[jbT];exact⟨_,h.hs,by simp,hn,by simp⟩
theorem h_ld (h:StAt H p σ F AT HD){n:Nat}{b:Bool}(hn:HD[n]?=some b):ldZ H none (.eptr σ.h σ.gh n 0)=some (ZBo b):=by
 rw[jbO];exact⟨_,_,eB b,h.hs,by rw[List.getElem?_map,hn];rfl,rfl⟩
theorem w_st (h:StAt H p σ F AT HD){n:Nat}{x:Int}(hn:n<F.length)(hL:L σ.w=true):stZ L H [.val (.int .u64 x)] (.eptr σ.w σ.gw n 0)=some (H.set σ.w (.grow σ.gw 1 ((F.set n x).map eU))):=by
 rw[jdt]
 refine⟨1,_,eU F[n],h.ws,by rw[List.getElem?_map,List.getElem?_eq_getElem hn];rfl,hL,by simp,?_⟩
 rw[List.map_set];rfl
theorem a_st (h:StAt H p σ F AT HD){n:Nat}{x:Int}(hn:n<AT.length)(hL:L σ.a=true):stZ L H [Z64 x] (.eptr σ.a σ.ga n 0)=some (H.set σ.a (.grow σ.ga 1 ((AT.set n x).map eI))):=by
 rw[jdt]
 refine⟨1,_,eI AT[n],h.ats,by rw[List.getElem?_map,List.getElem?_eq_getElem hn];rfl,hL,by simp,?_⟩
 rw[List.map_set];rfl
theorem h_st (h:StAt H p σ F AT HD){n:Nat}{x:Bool}(hn:n<HD.length)(hL:L σ.h=true):stZ L H [ZBo x] (.eptr σ.h σ.gh n 0)=some (H.set σ.h (.grow σ.gh 1 ((HD.set n x).map eB))):=by
 rw[jdt]
 refine⟨1,_,eB HD[n],h.hs,by rw[List.getElem?_map,List.getElem?_eq_getElem hn];rfl,hL,by simp,?_⟩
 rw[List.map_set];rfl
theorem StAt.setW (h:StAt H p σ F AT HD){F':List Int}(hl:F'.length=F.length):StAt (H.set σ.w (.grow σ.gw 1 (F'.map eU))) p σ F' AT HD∧FrS p σ σ H (H.set σ.w (.grow σ.gw 1 (F'.map eU))):=
  ⟨⟨by rw [List.getElem?_set_ne (Ne.symm h.pw), hl]; exact h.box, by rw [List.getElem?_set_self (jae h.ws)], by rw [List.getElem?_set_ne h.wa]; exact h.ats, by rw [List.getElem?_set_ne h.wh]; exact h.hs, h.wa, h.wh, h.ah⟩,
   ⟨by simp,fun i B _ hw _ _ hi=>by rw[List.getElem?_set_ne (Ne.symm hw)];exact hi,.inl rfl,rfl,rfl⟩⟩
theorem StAt.setA (h:StAt H p σ F AT HD){AT':List Int}(hl:AT'.length=AT.length):StAt (H.set σ.a (.grow σ.ga 1 (AT'.map eI))) p σ F AT' HD∧FrS p σ σ H (H.set σ.a (.grow σ.ga 1 (AT'.map eI))):=
  ⟨⟨by rw [List.getElem?_set_ne (Ne.symm h.pa), hl]; exact h.box, by rw [List.getElem?_set_ne (Ne.symm h.wa)]; exact h.ws, by rw [List.getElem?_set_self (jae h.ats)], by rw [List.getElem?_set_ne h.ah]; exact h.hs, h.wa, h.wh, h.ah⟩,
   ⟨by simp,fun i B _ _ ha _ hi=>by rw[List.getElem?_set_ne (Ne.symm ha)];exact hi,.inl rfl,rfl,rfl⟩⟩
theorem StAt.setH (h:StAt H p σ F AT HD){HD':List Bool}(hl:HD'.length=HD.length):StAt (H.set σ.h (.grow σ.gh 1 (HD'.map eB))) p σ F AT HD'∧FrS p σ σ H (H.set σ.h (.grow σ.gh 1 (HD'.map eB))):=
  ⟨⟨by rw [List.getElem?_set_ne (Ne.symm h.ph), hl]; exact h.box, by rw [List.getElem?_set_ne (Ne.symm h.wh)]; exact h.ws, by rw [List.getElem?_set_ne (Ne.symm h.ah)]; exact h.ats, by rw [List.getElem?_set_self (jae h.hs)], h.wa, h.wh, h.ah⟩,
   ⟨by simp,fun i B _ _ _ hh hi=>by rw[List.getElem?_set_ne (Ne.symm hh)];exact hi,.inl rfl,rfl,rfl⟩⟩
theorem jbG {a:Nat}{x:Int}(h:StAt H p σ F AT HD)(hx:F[a]?=some x)(hK:K (Z64 (lng x:Int)) H):ZC (XS tb nd) (jal Tryz.prog) 26 [.ptr p 0,Z64 (a:Int)] L H K:=by
 refine ZC.enter Gh.no (jai (by decide)) jrF (by simp) ?_
 simp only[jk7,kkP]
 have hb:=h.box
 have hel:=w_el h (List.getElem?_eq_some_iff.1 hx).1
 have hld:=w_ld h hx
 have fin:=Fin.keep (H0:=H) hK
 have hlg:x % 4294967296=(lng x:Int):=by unfold lng;omega
 clear hK hx h
 have w1:IntKind.u32.wrap x=x % 4294967296:=by simp[IntKind.wrap,IntKind.bits,IntKind.signed]
 have w2:IntKind.i64.wrap (lng x:Int)=(lng x:Int):=by rw[IntWalk.i64_in _ (by omega)]
 with_reducible repeat' first|simp only[zP,jaf,jaa,jad,jac,seval,Nat.reduceLeDiff,hb,hel,hld,w1,w2, *]|simp only[jab]|apply And.intro|intro _
def IdxP (l:List Int)(a i:Int):Prop:=(i= -1∧a∉l)∨ ∃k:Nat,i=(k:Int)∧l[k]?=some a
theorem sindex_z {z:ZV}{l:List Int}{a:Int}(hz:jbi H 1 z=some (l.map eI))(hl:l.length≤1000)(hK: ∀i:Int,IdxP l a i→K (Z64 i) H):ZC (XS tb nd) (jal Tryz.prog) 66 [z,Z64 a] L H K:=by
 refine ZC.enter Gh.no (jai (by decide)) joY (by simp) ?_
 simp only[jis,kkP]
 have HK:=Lib.hid hK
 clear hK
 have hlen:l.length<9223372036854775807:=by omega
 have hln:=jb7 hz
 rw[List.length_map] at hln
 with_reducible repeat' first|simp only[zP,jaf,jaa,jad,jac,seval,Nat.reduceLeDiff,hln, *]|simp only[jab]|apply And.intro|intro _
 refine jbp [(0,z),(1,Z64 a)] l.length (fun k s' h'=>h'=H∧a∉l.take k) (by omega) ⟨rfl,rfl,rfl,rfl,rfl,rfl⟩ rfl rfl (by repeat' (first|exact trivial|(refine⟨rfl,?_⟩)|(refine⟨by simp only[jaQ,Nat.reduceEqDiff,reduceIte];assumption,?_⟩))) rfl rfl (by decide) ⟨rfl,by simp⟩ ?_ ?_
 ·rintro k s' h' hk ⟨rfl,hno⟩ hi hl2 ⟨f0,f1,-⟩
  have hx:l[k]?=some l[k]:=List.getElem?_eq_getElem hk
  obtain⟨e,he,hld⟩:=jd9 hz hk
  obtain⟨q,hq⟩: ∃q,q=l[k]:=⟨_,rfl⟩
  have hnx:=Lib.hid (show ¬(a=q)→a∉l.take (k+1) from fun h=>by rw[List.take_succ_eq_append_getElem hk,← hq];simp[hno,h])
  rw[←hq] at hx hld
  have HX:=Lib.hid hx
  clear hq hno hx
  by_cases hc:a=q
  ·have fin:=Fin.keep (H0:=h') (HK.out (k:Int) (.inr ⟨k,rfl,by rw[hc];exact HX.out⟩))
   subst hc
   have e1:decide (a=a)=true:=by simp
   with_reducible repeat' first|simp only[zP,jaf,jaa,jad,jac,seval,Nat.reduceLeDiff,he,hld,f0,f1, *]|simp only[jab]|apply And.intro|intro _
  ·have fin:=hnx.out hc
   have hc2: ¬(q=a):=fun h=>hc h.symm
   with_reducible repeat' first|simp only[zP,jaf,jaa,jad,jac,seval,Nat.reduceLeDiff,he,hld,f0,f1,hc,hc2, *]|simp only[jab]|apply And.intro|intro _
 ·rintro s' h' ⟨rfl,hno⟩ ⟨f0,f1,-⟩
  rw[List.take_of_length_le (Nat.le_refl _)] at hno
  have fin:=Fin.keep (H0:=h') (HK.out (-1) (.inl ⟨rfl,hno⟩))
  clear hno
  with_reducible repeat' first|simp only[zP,jaf,jaa,jad,jac,seval,Nat.reduceLeDiff, *]|simp only[jab]|apply And.intro|intro _
set_option maxHeartbeats 2000000 in
theorem jng (h:StAt H p σ F AT HD)(hl:HD.length=AT.length)(hl2:AT.length≤100)(hK:K (.fz 1 false ((jbJ AT HD HD.length).map eU)) H):ZC (XS tb nd) (jal Tryz.prog) 21 [.ptr p 0] L H K:=by
 refine ZC.enterL ⟨[(3,[(0,1)])],[],[]⟩ (jai (by decide)) joR (by simp) fun hL=>?_
 simp only[jil,kkP]
 have hb: ∀X,(H++X)[p]?=some (.box [.own σ.w σ.gw 0 F.length false,.own σ.a σ.ga 0 AT.length false,.own σ.h σ.gh 0 HD.length false]):=fun X=>(h.ext X).box
 have hh: ∀X,lenZ (H++X) (.own σ.h σ.gh 0 HD.length false)=some HD.length:=fun X=>by rw[jaY];exact⟨_,_,(h.ext X).hs,rfl⟩
 have F0: ∀g' X,Fin H (.own H.length g' 0 (jbJ AT HD HD.length).length false) (H++(.grow g' 1 ((jbJ AT HD HD.length).map eU)::X)) K:=fun g' X=>by
  refine Fin.frz (k:=1) (rows:=(jbJ AT HD HD.length).map eU) (jay _ _) (by simp) pure_U ?_
  rw[jbR,List.drop_zero,List.take_of_length_le (by simp)]
  exact Fin.trunc (Mods.ext H _) rfl (by rw[List.take_left];exact hK)
 have FF:=Lib.hid F0
 have HH:=Lib.hid h
 have HL:=Lib.hid hl
 have HL2:=Lib.hid hl2
 have hHl:HD.length<9223372036854775807:=by omega
 clear h hK F0 hl hl2
 with_reducible repeat' first|simp only[zP,jaf,jaa,jad,jac,seval,Nat.reduceLeDiff,hb,hh, *]|simp only[jab]|apply And.intro|intro _
 refine jbp [(0,.ptr p 0),(11,.own σ.h σ.gh 0 HD.length false)] HD.length (fun k s' h'=> ∃g' X,s' 3= .own H.length g' 0 (jbJ AT HD k).length false∧h'=H++(.grow g' 1 ((jbJ AT HD k).map eU)::X)) (by omega) ⟨rfl,rfl,rfl,rfl,rfl,rfl⟩ rfl rfl (by repeat' (first|exact trivial|(refine⟨rfl,?_⟩)|(refine⟨by simp only[jaQ,Nat.reduceEqDiff,reduceIte];assumption,?_⟩))) rfl rfl (by decide) ⟨0,[],rfl,rfl⟩ ?_ ?_
 ·rintro k s' h' hk ⟨g',X,f3,rfl⟩ hi hl ⟨f0,f11,-⟩
  have hx:HD[k]?=some HD[k]:=List.getElem?_eq_getElem hk
  have hka:k<AT.length:=by have:=HL.out;omega
  have hn:=jfh (AT:=AT) (HD:=HD) (k:=k)
  have hgd:HD.getD k false=HD[k]:=by rw[List.getD_eq_getElem?_getD,hx];rfl
  rw[hgd] at hn
  have hrl:=jea (AT:=AT) (HD:=HD) (k:=k)
  have e1: ∀Y,jbV (H++Y) 1 k (.own σ.h σ.gh 0 HD.length false)=some (.eptr σ.h σ.gh k 0):=fun Y=>h_el (HH.out.ext Y) hk
  have e2: ∀Y,ldZ (H++Y) none (.eptr σ.h σ.gh k 0)=some (ZBo HD[k]):=fun Y=>h_ld (HH.out.ext Y) hx
  have e3: ∀Y,jbV (H++Y) 1 k (.own σ.a σ.ga 0 AT.length false)=some (.eptr σ.a σ.ga k 0):=fun Y=>a_el (HH.out.ext Y) hka
  have e4: ∀Y,ldZ (H++Y) none (.eptr σ.a σ.ga k 0)=some (Z64 (atP AT k)):=fun Y=>a_ld (HH.out.ext Y) hka
  have l0:L H.length=true:=hL 0
  obtain⟨l,hle⟩: ∃l,l=jbJ AT HD k:=⟨_,rfl⟩
  rw[←hle] at hn hrl f3
  rw[←hle]
  have hap: ∀x Y,appZ L (H++(.grow g' 1 (l.map eU)::Y)) 1 8 [[.val (.int .u64 x)]] (.own H.length g' 0 l.length false)=some (.own H.length (g'+1) 0 (l.length+1) false,H++(.grow (g'+1) 1 ((l++[x]).map eU)::Y)):=fun x Y=>by
   rw[jdL]
   refine⟨_,jay _ _,by simp,by have:=HL.out;have:=HL2.out;unfold ja5;simp;omega,l0,rfl,?_⟩
   rw[jbR,List.drop_zero,List.take_of_length_le (by simp),List.map_append];rfl
  obtain⟨b,hbe⟩: ∃b,b=HD[k]:=⟨_,rfl⟩
  rw[←hbe] at hn e2
  have HN:=Lib.hid hn
  clear hx hn hle hrl hgd hbe hka
  cases b with
  |true=>
   with_reducible repeat' first|simp only[zP,jaf,jaa,jad,jac,seval,Nat.reduceLeDiff,hb,e1,e2,e3,e4,hap,f3, *]|simp only[jab]|apply And.intro|intro _
   refine jj6 ?_
   with_reducible repeat' first|simp only[zP,jaf,jaa,jad,jac,seval,Nat.reduceLeDiff,hb,e1,e2,e3,e4,hap,f3, *]|simp only[jab]|apply And.intro|intro _
   all_goals (rw[HN.out,if_pos rfl];first|(rw[List.length_append];rfl)|exact⟨_,rfl⟩)
  |false=>
   with_reducible repeat' first|simp only[zP,jaf,jaa,jad,jac,seval,Nat.reduceLeDiff,hb,e1,e2,e3,e4,hap,f3, *]|simp only[jab]|apply And.intro|intro _
   all_goals (rw[HN.out,if_neg (by simp),List.append_nil];first|exact⟨_,f3,_,rfl⟩|exact⟨_,rfl⟩|done)
 ·rintro s' h' ⟨g',X,f3,rfl⟩ ⟨f0,f11,-⟩
  have fin:=FF.out g' X
  clear hh hb
  with_reducible repeat' first|simp only[zP,jaf,jaa,jad,jac,seval,Nat.reduceLeDiff,f3, *]|simp only[jab]|apply And.intro|intro _
end
section
open Go Go.RowKit
variable {tb:List (FuncId×Bool)}{nd:Bool}{L:Nat→Bool}{H:ZH}{K:ZV→ZH→Prop}{p:Nat}{σ:Sg}{F AT:List Int}{HD:List Bool}{A:AS}
def nM (T:List (Int×Int)):List (Int×ZV):=T.map fun x=>(x.2,.agg [])
theorem ji7 (n:Int): ∀T:List (Int×Int),jbg (nM T) n=(T.find? fun x=>decide (n=x.2)).map fun _=> .agg []
 |[]=>rfl
 |x::T=>by
  rw[List.find?_cons]
  by_cases h:n=x.2
  ·simp[nM,jbg,h]
  ·have:=ji7 n T
   simp only[nM] at this
   simp[nM,jbg,h,this]
theorem nM_put (n v:Int): ∀T:List (Int×Int),jbg (nM T) n=none→jc3 (nM T) n (.agg [])=nM (T++[(v,n)])
 |[],_=>rfl
 |x::T,h=>by
  by_cases e:n=x.2
  ·simp[nM,jbg,e] at h
  ·have h':jbg (nM T) n=none:=by simpa[nM,jbg,e] using h
   have:=nM_put n v T h'
   simp only[nM] at this
   simp[nM,jc3,e,this]
theorem jnC {T:List (Int×Int)}(hn:(T.map Prod.snd).Nodup){k:Nat}(hk:k<T.length):(T.take k).find? (fun x=>decide (T[k].2=x.2))=none:=by
 rw[List.find?_eq_none]
 intro x hx hd
 obtain⟨i,hi,e⟩:=List.getElem_of_mem hx
 rw[List.length_take] at hi
 rw[List.getElem_take] at e
 have e2:=of_decide_eq_true hd
 rw[←e] at e2
 have h1:=List.nodup_iff_pairwise_ne.1 hn
 rw[List.pairwise_map] at h1
 exact List.pairwise_iff_getElem.1 h1 i k (by omega) hk (by omega) e2.symm
theorem jpJ {dd:Option Nat}{ok:Bool}{z:AV}{x y:Opd}{gg:Option (Nat×Bool)}{io:Bool}{r:List jap}{ov:List (Nat×List Nat)}{S:ZS}:jao (⟨dd,.mapGet ok z x y,gg,io⟩::r) ov S=jao r ov S:=rfl
theorem jqz {W:ZH}(A B C D E F G:ZB)(X:ZH):(W++(A::B::C::D::E::F::G::X))[W.length+6]?=some G:=by rw[List.getElem?_append_right (by omega),Nat.add_sub_cancel_left];rfl
set_option maxHeartbeats 4000000 in
theorem jnE (h:StAt H p σ F AT A.hd)(r:Rep A F AT)(hK: ∀X tn T,Col A F AT tn T→K (.mp H.length) (H++(.box ((nM T).map ent)::X))):ZC (XS tb nd) (jal Tryz.prog) 34 [.ptr p 0] L H K:=by
 refine ZC.enterL Gh.no (jai (by decide)) jl2 (by simp) fun hL=>?_
 simp only[jg1,kkP]
 have HH:=Lib.hid h
 have HR:=Lib.hid r
 have HK:=Lib.hid hK
 have hb: ∀X,(H++X)[p]?=some (.box [.own σ.w σ.gw 0 F.length false,.own σ.a σ.ga 0 AT.length false,.own σ.h σ.gh 0 A.hd.length false]):=fun X=>(h.ext X).box
 have hpl: ∀n,p<H.length+n:=fun n=>by have:=jae h.box;omega
 clear h r hK
 with_reducible repeat' first|simp only[zP,jaf,jaa,jad,jac,seval,Nat.reduceLeDiff,hb,jiJ,hpl, *]|simp only[jab]|apply And.intro|intro _
 refine jng (HH.out.ext _) (by rw[HR.out.la,HR.out.ok.lh]) (by rw[HR.out.la];exact HR.out.ok.n100) ?_
 with_reducible repeat' first|simp only[zP,jaf,jaa,jad,jac,seval,Nat.reduceLeDiff,hb, *]|simp only[jab]|apply And.intro|intro _
 refine ZC.up (jic (F:=F) (R:=jcH A AT) (HH.out.ext _).ws rfl (fun X=>rfl) HR.out.u HR.out.rootsU (by have:=HR.out.hl;omega) (by have:=HR.out.chk;have:=(chk0 this).2.1;omega) HR.out.chk fun st hr hi B0 B1 B2 B3 b1 b3 g=>?_)
 have hcol:=HR.out.col hr hi
 have hsm:=hcol.d.inv.small HR.out.he
 have hFl:=HR.out.hl
 have hTl:st.T.length<9223372036854775807:=by omega
 have hnod:=Lib.hid hcol.d.inv.nod
 have HC:=Lib.hid hcol
 obtain⟨T,hT⟩: ∃T,T=st.T:=⟨_,rfl⟩
 obtain⟨tn,hto⟩: ∃tn,tn=st.to:=⟨_,rfl⟩
 rw[←hT] at hTl hnod HC ⊢
 rw[←hto] at HC ⊢
 obtain⟨rs,hrs⟩: ∃rs,rs=(jaB F (jcH A AT)).1:=⟨_,rfl⟩
 obtain⟨rl,hrl⟩: ∃rl,rl=(jcH A AT).length:=⟨_,rfl⟩
 rw[←hrs,← hrl]
 clear hcol hsm hFl hr hi hT hto hrs hrl
 have lW: ∀(X:ZB),(H++[X]).length=H.length+1:=fun X=>by simp
 have a6: ∀(A B C D E F G:ZB) (X:ZH),(H++(A::B::C::D::E::F::G::X))[H.length+1+5]?=some G:=jqz
 simp only[lW,List.append_assoc,List.cons_append,List.nil_append,List.map_nil]
 with_reducible repeat' first|simp only[zP,jaf,jaa,jad,jac,seval,Nat.reduceLeDiff,a6, *]|simp only[jab]|apply And.intro|intro _
 refine jbp [(3,.mp H.length),(22,.own (H.length+1+5) b3 0 T.length false)] T.length (fun k s' h'=> ∃Y,h'=H++(.box ((nM (T.take k)).map ent)::B0::B1::B2::B3:: .grow b1 1 (tn.map eU):: .grow b3 2 (T.map eP)::Y)) (by omega) ⟨rfl,rfl,rfl,rfl,rfl,rfl⟩ rfl rfl (by repeat' (first|exact trivial|(refine⟨rfl,?_⟩)|(refine⟨by simp only[jaQ,Nat.reduceEqDiff,reduceIte];assumption,?_⟩))) rfl rfl (by decide) ⟨_,rfl⟩ ?_ ?_
 ·rintro k s' h' hk ⟨Y,rfl⟩ hi hl ⟨f3,f22,-⟩
  have hz:jbg (nM (T.take k)) T[k].2=none:=by rw[ji7,jnC hnod.out hk];rfl
  have hpt:=nM_put T[k].2 T[k].1 (T.take k) hz
  have hts:T.take k++[(T[k].1,T[k].2)]=T.take (k+1):=(List.take_succ_eq_append_getElem hk).symm
  rw[hts] at hpt
  have he: ∀(A B C D E F:ZB) X,jbV (H++(A::B::C::D::E::F:: .grow b3 2 (T.map eP)::X)) 2 k (.own (H.length+1+5) b3 0 T.length false)=some (.eptr (H.length+1+5) b3 k 0):=fun A B C D E F X=>by
   rw[jbT];exact⟨_,jqz _ _ _ _ _ _ _ _,by simp,hk,by simp⟩
  have hld: ∀(A B C D E F:ZB) X,ldZ (H++(A::B::C::D::E::F:: .grow b3 2 (T.map eP)::X)) (some 2) (.eptr (H.length+1+5) b3 k 0)=some (.agg [Z64 T[k].1,Z64 T[k].2]):=fun A B C D E F X=>by
   rw[jbO];exact⟨_,_,eP T[k],jqz _ _ _ _ _ _ _ _,by rw[List.getElem?_map,List.getElem?_eq_getElem hk];rfl,rfl⟩
  obtain⟨x,hx⟩: ∃x,x=T[k]:=⟨_,rfl⟩
  rw[←hx] at hz hpt hld
  have aX: ∀(A B C D E F G I:ZB),(H++(A::B::C::D::E::F::G::(Y++[I])))[H.length+(Y.length+1+1+1+1+1+1+1)]?=some I:=fun A B C D E F G I=>by
   rw[List.getElem?_append_right (by omega),Nat.add_sub_cancel_left];simp
  have sX: ∀(A B C D E F G I J:ZB),(H++(A::B::C::D::E::F::G::(Y++[I]))).set (H.length+(Y.length+1+1+1+1+1+1+1)) J=H++(A::B::C::D::E::F::G::(Y++[J])):=fun A B C D E F G I J=>by
   rw[List.set_append_right _ _ (by omega),Nat.add_sub_cancel_left];simp
  have g0: ∀A Z,(H++(A::Z))[H.length]?=some A:=fun A Z=>jay A Z
  have s0: ∀A C Z,(H++(A::Z)).set H.length C=H++(C::Z):=fun A C Z=>jbR A C Z
  have l0:L H.length=true:=hL 0
  have l7:L (H.length+(Y.length+1+1+1+1+1+1+1))=true:=hL _
  clear hx hts
  with_reducible repeat' first|simp only[zP,jaf,jaa,jad,jac,seval,Nat.reduceLeDiff,he,hld,aX,sX,g0,s0,hz,jfE,jc2,ZV.mp.injEq,l0,l7, *]|simp only[jab]|apply And.intro|intro _
  all_goals exact⟨_,rfl⟩
 ·rintro s' h' ⟨Y,rfl⟩ ⟨f3,f22,-⟩
  rw[List.take_of_length_le (Nat.le_refl _)]
  have fin:=Fin.keep (H0:=H) (HK.out (B0::B1::B2::B3:: .grow b1 1 (tn.map eU):: .grow b3 2 (T.map eP)::Y) tn T HC.out)
  with_reducible repeat' first|simp only[zP,jaf,jaa,jad,jac,seval,Nat.reduceLeDiff, *]|simp only[jab]|apply And.intro|intro _
open Classical in
noncomputable def jaZ (A:AS)(n:Int):Int:=if n<0∨(A.mks.length:Int)≤n then 5 else if Rch A n.toNat then 0 else 8
theorem jb3 {n:Int}(h:jaZ A n=0): ∃m:Nat,n=(m:Int)∧Rch A m:=by
 unfold jaZ at h
 split at h
 ·cases h
 ·split at h
  ·rename_i h1 h2;exact⟨n.toNat,by omega,h2⟩
  ·cases h
theorem jhW (hA:AOk A){m:Nat}(h:Rch A m):jaZ A (m:Int)=0:=by
 have:=h.lt hA
 unfold jaZ
 rw[if_neg (by omega),if_pos (by rw[Int.toNat_natCast];exact h)]
set_option maxHeartbeats 2000000 in
theorem jeq {n:Int}(h:StAt H p σ F AT A.hd)(r:Rep A F AT)(hK:K (Z64 (jaZ A n)) H):ZC (XS tb nd) (jal Tryz.prog) 19 [.ptr p 0,Z64 n] L H K:=by
 refine ZC.enterL Gh.no (jai (by decide)) joT (by simp) fun hL=>?_
 simp only[jin,kkP]
 have hb:=h.box
 have hbX: ∀X,(H++X)[p]?=some (.box [.own σ.w σ.gw 0 F.length false,.own σ.a σ.ga 0 AT.length false,.own σ.h σ.gh 0 A.hd.length false]):=fun X=>(h.ext X).box
 have hpl: ∀n,p<H.length+n:=fun n=>by have:=jae h.box;omega
 have hpl0:p<H.length:=jae h.box
 have hla:=r.la
 have hlA: ∀X,lenZ (H++X) (.own σ.a σ.ga 0 AT.length false)=some AT.length:=fun X=>by rw[jaY];exact⟨_,_,(h.ext X).ats,rfl⟩
 have hlA0:lenZ H (.own σ.a σ.ga 0 AT.length false)=some AT.length:=by rw[jaY];exact⟨_,_,h.ats,rfl⟩
 rw[hla] at hb hbX hlA hlA0
 by_cases h1:n<0
 ·have fin:=Fin.keep (H0:=H) hK
  have e:jaZ A n=5:=by unfold jaZ;rw[if_pos (.inl h1)]
  rw[e] at fin
  clear hK e hla h r
  with_reducible repeat' first|simp only[zP,jaf,jaa,jad,jac,seval,Nat.reduceLeDiff,h1,hb,hpl, *]|simp only[jab]|apply And.intro|intro _
 ·by_cases h2:(A.mks.length:Int)≤n
  ·have fin:=Fin.keep (H0:=H) hK
   have e:jaZ A n=5:=by unfold jaZ;rw[if_pos (.inr h2)]
   rw[e] at fin
   clear hK e hla h r
   with_reducible repeat' first|simp only[zP,jaf,jaa,jad,jac,seval,Nat.reduceLeDiff,h1,h2,hb,hlA0,hpl, *]|simp only[jab]|apply And.intro|intro _
  ·obtain⟨m,rfl⟩:=Int.eq_ofNat_of_zero_le (show 0≤n by omega)
   have hm:m<AT.length:=by omega
   have hel: ∀X,jbV (H++X) 1 m (.own σ.a σ.ga 0 A.mks.length false)=some (.eptr σ.a σ.ga m 0):=fun X=>by rw[←hla];exact a_el (h.ext X) hm
   have hld: ∀X,ldZ (H++X) none (.eptr σ.a σ.ga m 0)=some (Z64 (atP AT m)):=fun X=>a_ld (h.ext X) hm
   have hal:σ.a<H.length:=jae h.ats
   have hal2: ∀n,σ.a<H.length+n:=fun n=>by omega
   have HH:=Lib.hid h
   have HR:=Lib.hid r
   have HK:=Lib.hid hK
   clear h r hK hla hm
   with_reducible repeat' first|simp only[zP,jaf,jaa,jad,jac,seval,Nat.reduceLeDiff,h1,h2,hb,hlA0,hpl, *]|simp only[jab]|apply And.intro|intro _
   refine zW_opsW ?_
   have hgr: ∃k rows,H[σ.a]?=some (.grow σ.ga k rows):=⟨_,_,HH.out.ats⟩
   repeat' (first|(simp only[zP,jaf,jaa,jad,jac,seval,Nat.reduceLeDiff,jiL,jiM,jiN,jeK,ji3,jgt,hb,jpJ, *])|(simp only[zgoOW,zgoO,zgoG,jf8,jeK,jaK,zgoC])|(with_reducible apply And.intro)|(with_reducible intro _))
   refine jnE HH.out HR.out fun X tn T hc=>?_
   have hi:=hc.iff HR.out (n:=m)
   have g0: ∀A Z,(H++(A::Z))[H.length]?=some A:=fun A Z=>jay A Z
   have fin: ∀X,Fin H (Z64 (jaZ A (m:Int))) (H++X) K:=fun X=>Fin.trunc (Mods.ext H X) rfl (by rw[List.take_left];exact HK.out)
   by_cases hr:Rch A m
   ·have hz:jbg (nM T) (atP AT m)=some (.agg []):=by
     obtain⟨x,hx,e,hf⟩:=jgK (hi.2 hr)
     rw[ji7,hf];rfl
    rw[jhW HR.out.ok hr] at fin
    clear hi hr hc
    repeat' (first|(simp only[zP,jaf,jaa,jad,jac,seval,Nat.reduceLeDiff,jiL,jiM,jiN,jeK,ji3,jgt,hbX,hel,hld,g0,hz,jkq,jb6,jc2,ZV.mp.injEq,hpl,hpl0,hgr, *])|(simp only[zgoOW,zgoO,zgoG,jf8,jeK,jaK,zgoC])|(with_reducible apply And.intro)|(with_reducible intro _))
   ·have hz:jbg (nM T) (atP AT m)=none:=by
     rw[ji7,List.find?_eq_none.2 fun x hx hd=>hr (hi.1 ⟨x,hx,(of_decide_eq_true hd).symm⟩)];rfl
    have e:jaZ A (m:Int)=8:=by unfold jaZ;rw[if_neg (by omega),if_neg (by rw[Int.toNat_natCast];exact hr)]
    rw[e] at fin
    clear hi hr hc e
    repeat' (first|(simp only[zP,jaf,jaa,jad,jac,seval,Nat.reduceLeDiff,jiL,jiM,jiN,jeK,ji3,jgt,hbX,hel,hld,g0,hz,jkr,jb6,jc2,ZV.mp.injEq,hpl,hpl0,hgr, *])|(simp only[zgoOW,zgoO,zgoG,jf8,jeK,jaK,zgoC])|(with_reducible apply And.intro)|(with_reducible intro _))
theorem jqy (f:Int×ZV→Nat){rem:List (Int×ZV)}{j:Nat}{x:Int×ZV}(h:rem[j]?=some x):f x+((rem.eraseIdx j).map f).sum=(rem.map f).sum:=by
 induction rem generalizing j with
 |nil=>simp at h
 |cons y rem ih=>
  cases j with
  |zero=>simp at h;subst h;simp
  |succ j=>
   simp at h
   have:=ih h
   simp only[List.eraseIdx_cons_succ,List.map_cons,List.sum_cons]
   omega
theorem nM_sum {F:List Int}: ∀T:List (Int×Int),((nM T).map fun e=>osz F e.1.toNat).sum=((T.map fun x=>x.2.toNat).map (osz F)).sum
 |[]=>rfl
 |x::T=>by have:=nM_sum (F:=F) T;simp only[nM,List.map_cons,List.sum_cons] at this ⊢;rw[this]
set_option maxHeartbeats 2000000 in
theorem jnh (h:StAt H p σ F AT A.hd)(r:Rep A F AT)(hK:K (Z64 (size A:Int)) H):ZC (XS tb true) (jal Tryz.prog) 16 [.ptr p 0] L H K:=by
 refine ZC.enterL Gh.no (jai (by decide)) joS (by simp) fun hL=>?_
 simp only[jim,kkP]
 have HH:=Lib.hid h
 have HR:=Lib.hid r
 have HK:=Lib.hid hK
 clear h r hK
 with_reducible repeat' first|simp only[zP,jaf,jaa,jad,jac,seval,Nat.reduceLeDiff, *]|simp only[jab]|apply And.intro|intro _
 refine zW_map rfl ?_
 with_reducible repeat' first|simp only[zP,jaf,jaa,jad,jac,seval,Nat.reduceLeDiff, *]|simp only[jab]|apply And.intro|intro _
 refine jnE HH.out HR.out fun X tn T hc=>?_
 with_reducible repeat' first|simp only[zP,jaf,jaa,jad,jac,seval,Nat.reduceLeDiff, *]|simp only[jab]|apply And.intro|intro _
 refine⟨H.length,rfl,_,jay _ _,?_⟩
 have hs0:((nM T).map fun e=>osz F e.1.toNat).sum=size A:=by
  rw[nM_sum,← jfL HR.out.he (fun x hx=>(hc.d.inv.frm x hx).2),← hc.d.inv.len,hc.size HR.out]
 have hsz:size A≤2000:=by rw[←hc.size HR.out];have:=(hc.d.inv.small HR.out.he).1;have:=HR.out.hl;omega
 have hfr:=hc.fr
 clear hc
 refine zmap_for (G := Gh.no) rfl (l := nM T) (I := fun rem s' h' => s' 0 = .ptr p 0 ∧ (∃ Y, h' = H ++ (.box ((nM T).map ent) :: Y)) ∧ (∀ e ∈ rem, ∃ n, Rch A n ∧ e.1 = atP AT n) ∧ ∃ c : Nat, s' 3 = Z64 (c : Int) ∧ c + (rem.map fun e => osz F e.1.toNat).sum = size A) ⟨by simp [zupd], ⟨X ++ [.dead], by simp⟩, fun e he => by
  obtain⟨x,hx,rfl⟩:=List.mem_map.1 he;exact hfr x hx,0,by simp[zupd],by rw[hs0];omega⟩ ?_ ?_
 ·rintro rem j n v S' H' hj ⟨f0,⟨Y,rfl⟩,hsub,c,f3,hsum⟩ hs
  obtain⟨m,hm,em⟩:=hsub _ (List.mem_of_getElem? hj)
  have em:n=atP AT m:=em
  have hcl:=HR.out.cell m hm
  obtain⟨q,hq⟩: ∃q:Nat,n=(q:Int):=⟨n.toNat,by omega⟩
  have hx:=hcl.2.1
  rw[←em,hq,Int.toNat_natCast] at hx
  have hz:=HR.out.osz hm
  rw[←em,hq,Int.toNat_natCast] at hz
  have hse:=jqy (fun e=>osz F e.1.toNat) hj
  simp only[hq,Int.toNat_natCast,hz] at hse
  obtain⟨hd,hhd⟩: ∃hd,hd=A.mks.getD m 0*4294967296+((A.val m).length:Int):=⟨_,rfl⟩
  have hlg:lng hd=(A.val m).length:=by rw[hhd];exact jeC (by have:=HR.out.ok.vl m hm;omega)
  rw[←hhd] at hx
  have hrem: ∀e∈rem.eraseIdx j,∃ n,Rch A n∧e.1=atP AT n:=fun e he=>hsub e (List.mem_of_mem_eraseIdx he)
  obtain⟨k,hk⟩: ∃k,k=(A.val m).length:=⟨_,rfl⟩
  rw[←hk] at hlg hse
  have hck:c+(1+k)+((rem.eraseIdx j).map fun e=>osz F e.1.toNat).sum=size A:=by omega
  have w1:IntKind.i64.wrap (1+(k:Int))=((1+k:Nat):Int):=by rw[IntWalk.i64_in _ (by omega)];omega
  have w2:IntKind.i64.wrap ((c:Int)+((1+k:Nat):Int))=((c+(1+k):Nat):Int):=by rw[IntWalk.i64_in _ (by omega)];omega
  have HX:=Lib.hid hx
  have HRM:=Lib.hid hrem
  have HCK:=Lib.hid hck
  have HLG:=Lib.hid hlg
  rw[hq]
  clear hj hsub hsum hs hm em hcl hx hz hse hrem hck hlg hhd hk hq
  simp only[jpv]
  with_reducible repeat' first|simp only[zP,jaf,jaa,jad,jac,seval,Nat.reduceLeDiff,f0,f3, *]|simp only[jab]|apply And.intro|intro _
  refine jbG (HH.out.ext _) HX.out ?_
  rw[HLG.out]
  with_reducible repeat' first|simp only[zP,jaf,jaa,jad,jac,seval,Nat.reduceLeDiff,f0,f3,w1,w2, *]|simp only[jab]|apply And.intro|intro _
  all_goals first|exact⟨_,rfl⟩|exact HRM.out _ (by assumption)|exact⟨_,rfl,HCK.out⟩
 ·rintro S' H' ⟨f0,⟨Y,rfl⟩,hsub,c,f3,hsum⟩ hs
  have hc:c=size A:=by simpa using hsum
  subst hc
  have fin:Fin H (Z64 (size A:Int)) (H++(.box ((nM T).map ent)::Y)) K:=Fin.trunc (Mods.ext H _) rfl (by rw[List.take_left];exact HK.out)
  clear hsub hsum hs
  simp only[jlo]
  with_reducible repeat' first|simp only[zP,jaf,jaa,jad,jac,seval,Nat.reduceLeDiff,f3, *]|simp only[jab]|apply And.intro|intro _
end
section
open Go Go.RowKit
variable {tb:List (FuncId×Bool)}{nd:Bool}{L:Nat→Bool}{H:ZH}{K:ZV→ZH→Prop}{p:Nat}{σ:Sg}{F AT:List Int}{HD:List Bool}{A:AS}
theorem jre {T:List (Int×Int)}(hn:(T.map Prod.snd).Nodup){k:Nat}(hk:k<T.length):jc3 (newM (T.take k)) T[k].2 (Z64 T[k].1)=newM (T.take (k+1)):=by
 have hz:jbg (newM (T.take k)) T[k].2=none:=by rw[jdE,jnC hn hk];rfl
 rw[ji6 _ _ _ hz,List.take_succ_eq_append_getElem hk]
def atTo (T:List (Int×Int))(AT:List Int)(k:Nat):List Int:=(AT.take k).map (jdo T)++AT.drop k
theorem jjj {T:List (Int×Int)}{k:Nat}:(atTo T AT k).length=AT.length:=by unfold atTo;simp;omega
theorem atTo_at {T:List (Int×Int)}{k:Nat}(hk:k<AT.length):atP (atTo T AT k) k=atP AT k:=by
 unfold atTo atP
 rw[List.getD_eq_getElem?_getD,List.getElem?_append_right (by simp;omega)]
 simp[Nat.min_eq_left (Nat.le_of_lt hk),List.getD_eq_getElem?_getD]
theorem jsi {T:List (Int×Int)}{k:Nat}(hk:k<AT.length):(atTo T AT k).set k (jdo T (atP AT k))=atTo T AT (k+1):=by
 have e:atP AT k=AT[k]:=by simp[atP,List.getD_eq_getElem?_getD,hk]
 unfold atTo
 rw[List.take_succ_eq_append_getElem hk,List.map_append,List.append_assoc,List.set_append_right _ _ (by simp;omega),List.drop_eq_getElem_cons hk,e]
 simp only[List.length_map,List.length_take,Nat.min_eq_left (Nat.le_of_lt hk),Nat.sub_self,List.map_cons,List.map_nil,List.cons_append,List.nil_append,List.set_cons_zero]
structure CoI (H:ZH)(p:Nat)(σ:Sg)(F AT tn:List Int)(T:List (Int×Int))(HD:List Bool)(b1 g q rl:Nat)(k:Nat)(h':ZH):Prop where
  st:StAt h' p σ F (atTo T AT k) HD
  fr:FrS p σ σ H h'
  tw:h'[H.length+4]?=some (.grow b1 1 (tn.map eU))
  bx:h'[q]?=some (.box [.own (H.length+4) b1 0 tn.length false,.own (H.length+6) g 0 rl false])
  mp:h'[q+1]?=some (.box ((newM T).map ent))
set_option maxHeartbeats 8000000 in
theorem jqM (h:StAt H p σ F AT A.hd)(r:Rep A F AT)(hL: ∀i,L i=true)(hK: ∀H' σ' F' AT',StAt H' p σ' F' AT' A.hd→Rep A F' AT'→F'.length=size A→size A≤F.length→FrS p σ σ' H H'→K (Z64 ((F.length:Int) - (size A:Int))) H'):ZC (XS tb nd) (jal Tryz.prog) 9 [.ptr p 0] L H K:=by
 refine ZC.enter Gh.no (jai (by decide)) jrI (by simp) ?_
 simp only[jla,kkP]
 have HH:=Lib.hid h
 have HR:=Lib.hid r
 have HK:=Lib.hid hK
 have hb:=h.box
 have hpl: ∀n,p<H.length+n:=fun n=>by have:=jae h.box;omega
 have hpl0:p<H.length:=jae h.box
 clear h r hK
 with_reducible repeat' first|simp only[zP,jaf,jaa,jad,jac,seval,Nat.reduceLeDiff,hb,hpl,hpl0, *]|simp only[jab]|apply And.intro|intro _
 refine jng HH.out (by rw[HR.out.la,HR.out.ok.lh]) (by rw[HR.out.la];exact HR.out.ok.n100) ?_
 with_reducible repeat' first|simp only[zP,jaf,jaa,jad,jac,seval,Nat.reduceLeDiff,hb, *]|simp only[jab]|apply And.intro|intro _
 refine ZC.up (jic (F:=F) (R:=jcH A AT) HH.out.ws rfl (fun X=>rfl) HR.out.u HR.out.rootsU (by have:=HR.out.hl;omega) (by have:=HR.out.chk;have:=(chk0 this).2.1;omega) HR.out.chk fun st hr hi B0 B1 B2 B3 b1 b3 g=>?_)
 have hcol:=HR.out.col hr hi
 have hsm:=hcol.d.inv.small HR.out.he
 have hFl:=HR.out.hl
 have hTl:st.T.length<9223372036854775807:=by omega
 have hsz:=hcol.size HR.out
 have HC:=Lib.hid hcol
 obtain⟨T,hT⟩: ∃T,T=st.T:=⟨_,rfl⟩
 obtain⟨tn,hto⟩: ∃tn,tn=st.to:=⟨_,rfl⟩
 rw[←hT] at hTl HC ⊢
 rw[←hto] at HC hsz ⊢
 have htl:tn.length≤F.length:=by rw[hto];exact hsm.1
 obtain⟨rs,hrs⟩: ∃rs,rs=(jaB F (jcH A AT)).1:=⟨_,rfl⟩
 obtain⟨rl,hrl⟩: ∃rl,rl=(jcH A AT).length:=⟨_,rfl⟩
 rw[←hrs,← hrl]
 obtain⟨W,hW⟩: ∃W,W=H++[B0,B1,B2,B3,.grow b1 1 (tn.map eU),.grow b3 2 (T.map eP),.grow g 1 (rs.map eU)]:=⟨_,rfl⟩
 rw[←hW]
 have hWl:W.length=H.length+7:=by rw[hW];simp
 have hW4: ∀Y,(W++Y)[H.length+4]?=some (.grow b1 1 (tn.map eU)):=fun Y=>by rw[List.getElem?_append_left (by omega),hW,List.getElem?_append_right (by omega),Nat.add_sub_cancel_left];rfl
 have hW5: ∀Y,(W++Y)[H.length+5]?=some (.grow b3 2 (T.map eP)):=fun Y=>by rw[List.getElem?_append_left (by omega),hW,List.getElem?_append_right (by omega),Nat.add_sub_cancel_left];rfl
 have HW:=Lib.hid hW
 have HWl:=Lib.hid hWl
 have HTL:=Lib.hid htl
 have HSZ:=Lib.hid hsz
 have H4:=Lib.hid hW4
 have hW5':lenZ W (.own (H.length+5) b3 0 T.length false)=some T.length:=by rw[jaY];exact⟨_,_,by have:=hW5 [];rwa [List.append_nil] at this,rfl⟩
 have hW50: ∀Y,lenZ (W++Y) (.own (H.length+5) b3 0 T.length false)=some T.length:=fun Y=>by rw[jaY];exact⟨_,_,hW5 Y,rfl⟩
 clear hcol hsm hFl hr hi hT hto hrs hrl hW hWl hW4 htl hsz
 with_reducible repeat' first|simp only[zP,jaf,jaa,jad,jac,seval,Nat.reduceLeDiff,jiJ,hW50, *]|simp only[jab]|apply And.intro|intro _
 refine jbp [(0,.ptr p 0),(3,.ptr W.length 0),(6,.mp (W.length+1)),(27,.own (H.length+5) b3 0 T.length false)] T.length (fun k s' h'=> ∃Y,h'=W++(.box [.own (H.length+4) b1 0 tn.length false,.own (H.length+6) g 0 rl false]:: .box ((newM (T.take k)).map ent)::Y)) (by omega) ⟨rfl,rfl,rfl,rfl,rfl,rfl⟩ rfl rfl (by repeat' (first|exact trivial|(refine⟨rfl,?_⟩)|(refine⟨by simp only[jaQ,Nat.reduceEqDiff,reduceIte];assumption,?_⟩))) rfl rfl (by decide) ⟨[],rfl⟩ ?_ ?_
 ·rintro k s' h' hk ⟨Y,rfl⟩ hi hl ⟨f0,f3,f6,f27,-⟩
  have hpt:=jre HC.out.d.inv.nod hk
  have he: ∀X,jbV (W++X) 2 k (.own (H.length+5) b3 0 T.length false)=some (.eptr (H.length+5) b3 k 0):=fun X=>by
   rw[jbT];exact⟨_,hW5 X,by simp,hk,by simp⟩
  have hld: ∀X,ldZ (W++X) (some 2) (.eptr (H.length+5) b3 k 0)=some (.agg [Z64 T[k].1,Z64 T[k].2]):=fun X=>by
   rw[jbO];exact⟨_,_,eP T[k],hW5 X,by rw[List.getElem?_map,List.getElem?_eq_getElem hk];rfl,rfl⟩
  obtain⟨x,hx⟩: ∃x,x=T[k]:=⟨_,rfl⟩
  rw[←hx] at hpt hld
  have aX: ∀(A B I:ZB),(W++(A::B::(Y++[I])))[W.length+(Y.length+1+1)]?=some I:=fun A B I=>hl_atX A B I
  have sX: ∀(A B I J:ZB),(W++(A::B::(Y++[I]))).set (W.length+(Y.length+1+1)) J=W++(A::B::(Y++[J])):=fun A B I J=>hl_stX A B I J
  have g1: ∀A B Z,(W++(A::B::Z))[W.length+1]?=some B:=fun A B Z=>jbf A B Z
  have s1: ∀A B C Z,(W++(A::B::Z)).set (W.length+1) C=W++(A::C::Z):=fun A B C Z=>jdH A B C Z
  clear hx hW5 hW5' hW50 hpl hpl0 hb
  with_reducible repeat' first|simp only[zP,jaf,jaa,jad,jac,seval,Nat.reduceLeDiff,he,hld,aX,sX,g1,s1,jfE,jc2,ZV.mp.injEq,hpt, *]|simp only[jab]|apply And.intro|intro _
  all_goals exact⟨_,rfl⟩
 ·rintro s' h' ⟨Y,rfl⟩ ⟨f0,f3,f6,f27,-⟩
  rw[List.take_of_length_le (Nat.le_refl _)]
  have hWst:StAt W p σ F AT A.hd:=by rw[HW.out];exact HH.out.ext _
  have hbx: ∀X,(W++X)[p]?=some (.box [.own σ.w σ.gw 0 F.length false,.own σ.a σ.ga 0 AT.length false,.own σ.h σ.gh 0 A.hd.length false]):=fun X=>(hWst.ext X).box
  have hla: ∀X,lenZ (W++X) (.own σ.a σ.ga 0 AT.length false)=some AT.length:=fun X=>by rw[jaY];exact⟨_,_,(hWst.ext X).ats,rfl⟩
  have hAl:AT.length<9223372036854775807:=by have:=HR.out.la;have:=HR.out.ok.n100;omega
  have hA0:atTo T AT 0=AT:=by simp[atTo]
  have hI:CoI H p σ F AT tn T A.hd b1 g W.length rl 0 (W++(.box [.own (H.length+4) b1 0 tn.length false,.own (H.length+6) g 0 rl false]:: .box ((newM T).map ent)::Y)):=⟨by rw[hA0];exact hWst.ext _,by rw[HW.out,List.append_assoc];exact FrS.ext,H4.out _,jay _ _,jbf _ _ _⟩
  have HI:=Lib.hid hI
  clear hb hpl hpl0 hW5 hW5' hW50 hI hA0
  with_reducible repeat' first|simp only[zP,jaf,jaa,jad,jac,seval,Nat.reduceLeDiff,hbx,hla, *]|simp only[jab]|apply And.intro|intro _
  obtain⟨h0,hh0⟩: ∃h0,h0=W++(.box [.own (H.length+4) b1 0 tn.length false,.own (H.length+6) g 0 rl false]:: .box ((newM T).map ent)::Y):=⟨_,rfl⟩
  rw[←hh0]
  rw[←hh0] at HI
  have hI:=HI.out
  have hWH:H.length≤W.length:=by have:=HWl.out;omega
  have HWH:=Lib.hid hWH
  have HLA:=Lib.hid HR.out.la
  clear hh0 HI hbx hla hWst hWH hTl
  refine jbp [(0,.ptr p 0),(3,.ptr W.length 0),(6,.mp (W.length+1)),(42,.own σ.a σ.ga 0 AT.length false)] AT.length (fun k s' h'=>CoI H p σ F AT tn T A.hd b1 g W.length rl k h') (by omega) ⟨rfl,rfl,rfl,rfl,rfl,rfl⟩ rfl rfl (by repeat' (first|exact trivial|(refine⟨rfl,?_⟩)|(refine⟨by simp only[jaQ,Nat.reduceEqDiff,reduceIte];assumption,?_⟩))) rfl rfl (by decide) hI ?_ ?_
  ·rintro k s' h' hk hJ hi hl ⟨f0,f3,f6,f42,-⟩
   have hst:=hJ.st
   have hla:=jjj (T:=T) (AT:=AT) (k:=k)
   have hkk:k<(atTo T AT k).length:=by rw[hla];exact hk
   have hel:=a_el hst hkk
   have hld:=a_ld hst hkk
   rw[atTo_at hk] at hld
   rw[hla] at hel
   have hbx:=hst.box
   rw[hla] at hbx
   have hmp:=hJ.mp
   have hstv:=fun x=>a_st (L:=L) (x:=x) hst hkk (hL _)
   have hnx:=jsi (T:=T) hk
   have hlen:(atTo T AT (k+1)).length=(atTo T AT k).length:=by rw[jjj,jjj]
   obtain⟨s1,s2⟩:=hst.setA hlen
   have hal:=jae HH.out.ats
   have hqa:W.length≠σ.a:=by have:=HWH.out;omega
   have hqa1:W.length+1≠σ.a:=by have:=HWH.out;omega
   have hqa4:H.length+4≠σ.a:=by omega
   have fin:CoI H p σ F AT tn T A.hd b1 g W.length rl (k+1) (h'.set σ.a (.grow σ.ga 1 ((atTo T AT (k+1)).map eI))):=⟨s1,hJ.fr.trans s2,by rw[List.getElem?_set_ne (Ne.symm hqa4)];exact hJ.tw,by rw[List.getElem?_set_ne (Ne.symm hqa)];exact hJ.bx,by rw[List.getElem?_set_ne (Ne.symm hqa1)];exact hmp⟩
   rw[←hnx] at fin
   have hnf:jdo T (atP AT k)=((T.find? fun x=>decide (atP AT k=x.2)).map fun x=>x.1).getD (-1):=by unfold jdo;cases T.find? fun x=>decide (atP AT k=x.2)<;>rfl
   have hz:=jdE (atP AT k) T
   have w1:IntKind.i64.wrap (-1)= -1:=rfl
   obtain⟨a,ha⟩: ∃a,a=atP AT k:=⟨_,rfl⟩
   rw[←ha] at hld hnf hz fin
   rw[hnf] at fin
   have FF:=Lib.hid fin
   clear hJ hst hla hkk hnx hlen s1 s2 hal hqa hqa1 hqa4 ha hnf fin
   cases hf:T.find? fun x=>decide (a=x.2) with
   |some x=>
    rw[hf] at hz
    have hz:jbg (newM T) a=some (Z64 x.1):=hz
    have fin:=FF.out
    rw[hf] at fin
    simp only[Option.map_some,Option.getD_some] at fin
    have FN:=Lib.hid fin
    clear hf FF fin
    with_reducible repeat' first|simp only[zP,jaf,jaa,jad,jac,seval,Nat.reduceLeDiff,hel,hld,hbx,hmp,hz,jkq,jb6,jc2,ZV.mp.injEq,hstv, *]|simp only[jab]|apply And.intro|intro _
    all_goals exact FN.out
   |none=>
    rw[hf] at hz
    have hz:jbg (newM T) a=none:=hz
    have fin:=FF.out
    rw[hf] at fin
    simp only[Option.map_none,Option.getD_none] at fin
    have FN:=Lib.hid fin
    clear hf FF fin
    with_reducible repeat' first|simp only[zP,jaf,jaa,jad,jac,seval,Nat.reduceLeDiff,hel,hld,hbx,hmp,hz,jkr,jb6,jc2,ZV.mp.injEq,hstv, *]|simp only[jab]|apply And.intro|intro _
    all_goals exact FN.out
  ·rintro s' h' hJ ⟨f0,f3,f6,f42,-⟩
   have hst:=hJ.st
   have hAA:atTo T AT AT.length=AT.map (jdo T):=by simp[atTo]
   rw[hAA] at hst
   have hbx:=hst.box
   have hqb:=hJ.bx
   have hlF:lenZ h' (.own σ.w σ.gw 0 F.length false)=some F.length:=by rw[jaY];exact⟨_,_,hst.ws,rfl⟩
   have hlT:lenZ h' (.own (H.length+4) b1 0 tn.length false)=some tn.length:=by rw[jaY];exact⟨_,_,hJ.tw,rfl⟩
   have hFl:=HR.out.hl
   have htl:=HTL.out
   have w1:IntKind.i64.wrap ((F.length:Int) - (tn.length:Int))=(F.length:Int) - (tn.length:Int):=IntWalk.i64_in _ (by omega)
   have hlp:L p=true:=hL p
   have hplt:p<h'.length:=jae hbx
   have hwl:=jae HH.out.ws
   have hal:=jae HH.out.ats
   have hhl:=jae HH.out.hs
   have hppl:=jae HH.out.box
   have hst2:StAt (h'.set p (.box [.own (H.length+4) b1 0 tn.length false,.own σ.a σ.ga 0 (AT.map (jdo T)).length false,.own σ.h σ.gh 0 A.hd.length false])) p ⟨H.length+4,b1,σ.a,σ.ga,σ.h,σ.gh⟩ tn (AT.map (jdo T)) A.hd:=
    ⟨by rw[List.getElem?_set_self hplt],by rw[List.getElem?_set_ne (show p≠H.length+4 by omega)];exact hJ.tw,by rw[List.getElem?_set_ne hst.pa];exact hst.ats,by rw[List.getElem?_set_ne hst.ph];exact hst.hs,by show H.length+4≠σ.a;omega,by show H.length+4≠σ.h;omega,hst.ah⟩
   have hfr2:FrS p σ ⟨H.length+4,b1,σ.a,σ.ga,σ.h,σ.gh⟩ H (h'.set p (.box [.own (H.length+4) b1 0 tn.length false,.own σ.a σ.ga 0 (AT.map (jdo T)).length false,.own σ.h σ.gh 0 A.hd.length false])):=
    ⟨by rw[List.length_set];exact hJ.fr.len,fun i B hp hw ha hh hi=>by rw[List.getElem?_set_ne (Ne.symm hp)];exact hJ.fr.keep i B hp hw ha hh hi,.inr (by show H.length≤H.length+4;omega),rfl,rfl⟩
   have hsz:=HSZ.out
   have fin:=Fin.keep (H0:=H) (HK.out _ _ _ _ hst2 (HR.out.collect HC.out) hsz (by omega) hfr2)
   rw[←hsz] at fin
   simp only[List.length_map] at fin hbx
   clear hst2 hfr2 hsz hJ hst hAA hFl htl hplt hwl hal hhl hppl
   with_reducible repeat' first|simp only[zP,jaf,jaa,jad,jac,seval,Nat.reduceLeDiff,hbx,hqb,hlF,hlT,w1,hlp, *]|simp only[jab]|apply And.intro|intro _
noncomputable def jci (A:AS)(k n:Int):Int:=if boxE k n≠0 then boxE k n else if k≠5 then 0 else jaZ A n
theorem jdT {k n:Int}(hn: -9223372036854775808≤n∧n≤9223372036854775807)(h:boxE k n=0):0≤jdZ (boxW k n)∧unE (boxW k n)=0∧jaw (boxW k n)=k∧jax (boxW k n)=decide (k=5)∧(k≠3→jau (boxW k n)=n):=by
 have hk:=jsf h
 by_cases h3:k=3
 ·subst h3
  obtain⟨a,b,c⟩:=joG n hn
  exact⟨by simp[jdZ,a,b],a,b,by simp[jax,a,b],fun h=>absurd rfl h⟩
 ·obtain⟨a,b,c,_⟩:=jnf h h3 hn
  exact⟨by simp only[jdZ,a,if_true,b];omega,a,b,by simp[jax,a,b],fun _=>c⟩
theorem jsd {k n:Int}(hn: -9223372036854775808≤n∧n≤9223372036854775807)(h:jci A k n=0):boxE k n=0∧VOk A (boxW k n)∧(k=5→ ∃m:Nat,n=(m:Int)∧Rch A m):=by
 unfold jci at h
 split at h
 ·rename_i h1;exact absurd h h1
 ·rename_i h1
  have h1:boxE k n=0:=by omega
  obtain⟨q1,q2,q3,q4,q5⟩:=jdT hn h1
  split at h
  ·rename_i h2
   exact⟨h1,⟨jb4,q1,fun hp=>by rw[q4] at hp;exact absurd (of_decide_eq_true hp) h2⟩,fun h=>absurd h h2⟩
  ·rename_i h2
   have h2:k=5:=by omega
   subst h2
   obtain⟨m,em,hm⟩:=jb3 h
   exact⟨h1,⟨jb4,q1,fun _=>⟨m,by rw[q5 (by omega),em],hm⟩⟩,fun _=>⟨m,em,hm⟩⟩
set_option maxHeartbeats 2000000 in
theorem jnk {k n:Int}(hn: -9223372036854775808≤n∧n≤9223372036854775807)(h:StAt H p σ F AT A.hd)(r:Rep A F AT)(hK: ∀w,(jci A k n=0→w=mapP AT (boxW k n))→K (.tuple [.val (.int .u64 w),Z64 (jci A k n)]) H):ZC (XS tb nd) (jal Tryz.prog) 25 [.ptr p 0,.agg [Z64 k,Z64 n]] L H K:=by
 refine ZC.enterL Gh.no (jai (by decide)) joX (by simp) fun hL=>?_
 simp only[jir,kkP]
 have g0: ∀A Z,(H++(A::Z))[H.length]?=some A:=fun A Z=>jay A Z
 have HH:=Lib.hid h
 have HR:=Lib.hid r
 have HN:=Lib.hid hn
 have HK:=Lib.hid hK
 clear h r hK hn
 with_reducible repeat' first|simp only[zP,jaf,jaa,jad,jac,seval,Nat.reduceLeDiff,g0, *]|simp only[jab]|apply And.intro|intro _
 refine jj6 ?_
 by_cases he:boxE k n=0
 ·by_cases h5:k=5
  ·subst h5
   have hq:=Lib.hid he
   with_reducible repeat' first|simp only[zP,jaf,jaa,jad,jac,seval,Nat.reduceLeDiff,g0,he, *]|simp only[jab]|apply And.intro|intro _
   refine jeq (HH.out.ext _) HR.out ?_
   have hbd:jci A 5 n=jaZ A n:=by unfold jci;rw[if_neg (by rw[he];simp),if_neg (by simp)]
   by_cases h0:jaZ A n=0
   ·obtain⟨m,rfl,hm⟩:=jb3 h0
    have hml:m<AT.length:=by rw[HR.out.la];exact hm.lt HR.out.ok
    have hb: ∀X,(H++X)[p]?=some (.box [.own σ.w σ.gw 0 F.length false,.own σ.a σ.ga 0 AT.length false,.own σ.h σ.gh 0 A.hd.length false]):=fun X=>(HH.out.ext X).box
    have hel: ∀X,jbV (H++X) 1 m (.own σ.a σ.ga 0 AT.length false)=some (.eptr σ.a σ.ga m 0):=fun X=>a_el (HH.out.ext X) hml
    have hld: ∀X,ldZ (H++X) none (.eptr σ.a σ.ga m 0)=some (Z64 (atP AT m)):=fun X=>a_ld (HH.out.ext X) hml
    with_reducible repeat' first|simp only[zP,jaf,jaa,jad,jac,seval,Nat.reduceLeDiff,g0,h0,hb,hel,hld, *]|simp only[jab]|apply And.intro|intro _
    refine jj6 ?_
    have hc:=HR.out.cell m hm
    have hf:=HR.out.fit hc.1
    have hl:=HR.out.hl
    obtain⟨b1,b2,b3,b4,b5,b6⟩:=box5 (n:=atP AT m) hc.1 (by omega)
    obtain⟨q1,q2,q3,q4,q5⟩:=jdT HN.out hq.out
    have hw:mapP AT (boxW 5 (m:Int))=boxW 5 (atP AT m):=by
     unfold mapP
     rw[if_pos (by rw[q4];simp),q5 (by omega)];rfl
    have fin : ∀ X, Fin H (.tuple [.val (.int .u64 (boxW 5 (atP AT m))), Z64 0]) (H ++ X) K := fun X => Fin.truncT (Mods.ext H X) rfl (by
     rw[List.take_left]
     have:=HK.out (boxW 5 (atP AT m)) (fun _=>hw.symm)
     rwa [hbd,h0] at this)
    clear hc hf hl b1 b2 b3 b4 b5 q1 q2 q3 q4 q5 hw hbd hml hm
    with_reducible repeat' first|simp only[zP,jaf,jaa,jad,jac,seval,Nat.reduceLeDiff,g0,h0,b6, *]|simp only[jab]|apply And.intro|intro _
   ·have fin : ∀ X, Fin H (.tuple [.val (.int .u64 0), Z64 (jaZ A n)]) (H ++ X) K := fun X => Fin.truncT (Mods.ext H X) rfl (by
     rw[List.take_left]
     have:=HK.out 0 (fun h=>by rw[hbd] at h;exact absurd h h0)
     rwa [hbd] at this)
    clear hbd
    with_reducible repeat' first|simp only[zP,jaf,jaa,jad,jac,seval,Nat.reduceLeDiff,g0,h0, *]|simp only[jab]|apply And.intro|intro _
  ·have hbd:jci A k n=0:=by unfold jci;rw[if_neg (by rw[he];simp),if_pos h5]
   obtain⟨q1,q2,q3,q4,q5⟩:=jdT HN.out he
   have hw:mapP AT (boxW k n)=boxW k n:=jeg (by rw[q4];simp[h5])
   have fin : ∀ X, Fin H (.tuple [.val (.int .u64 (boxW k n)), Z64 0]) (H ++ X) K := fun X => Fin.truncT (Mods.ext H X) rfl (by
    rw[List.take_left]
    have:=HK.out (boxW k n) (fun _=>hw.symm)
    rwa [hbd] at this)
   clear hbd q1 q2 q3 q4 q5 hw
   with_reducible repeat' first|simp only[zP,jaf,jaa,jad,jac,seval,Nat.reduceLeDiff,g0,he,h5, *]|simp only[jab]|apply And.intro|intro _
 ·have hbd:jci A k n=boxE k n:=by unfold jci;rw[if_pos he]
  have fin : ∀ X, Fin H (.tuple [.val (.int .u64 (boxW k n)), Z64 (boxE k n)]) (H ++ X) K := fun X => Fin.truncT (Mods.ext H X) rfl (by
   rw[List.take_left]
   have:=HK.out (boxW k n) (fun h=>by rw[hbd] at h;exact absurd h he)
   rwa [hbd] at this)
  clear hbd
  with_reducible repeat' first|simp only[zP,jaf,jaa,jad,jac,seval,Nat.reduceLeDiff,g0,he, *]|simp only[jab]|apply And.intro|intro _
theorem jqA {n:Nat}(h:StAt H p σ F AT A.hd)(r:Rep A F AT)(hL: ∀i,L i=true)(hn:n≤1000)(hK: ∀H' σ' F' AT',StAt H' p σ' F' AT' A.hd→Rep A F' AT'→(¬F'.length+n≤2000→F'.length=size A)→(F.length+n≤2000→F'.length=F.length)→FrS p σ σ' H H'→K (ZBo (decide (F'.length+n≤2000))) H'):ZC (XS tb nd) (jal Tryz.prog) 17 [.ptr p 0,Z64 (n:Int)] L H K:=by
 refine ZC.enter Gh.no (jai (by decide)) jrB (by simp) ?_
 simp only[jk3,kkP]
 have hb:=h.box
 have hl:lenZ H (.own σ.w σ.gw 0 F.length false)=some F.length:=by rw[jaY];exact⟨_,_,h.ws,rfl⟩
 have hFl:=r.hl
 have w1:IntKind.i64.wrap ((F.length:Int)+(n:Int))=((F.length+n:Nat):Int):=by rw[IntWalk.i64_in _ (by omega)];omega
 have HK:=Lib.hid hK
 have HH:=Lib.hid h
 have HR:=Lib.hid r
 have HN:=Lib.hid hn
 clear hK h r hFl hn
 by_cases hc:F.length+n≤2000
 ·have fin:=Fin.keep (H0:=H) (HK.out H σ F AT HH.out HR.out (fun h=>absurd hc h) (fun _=>rfl) FrS.refl)
  rw[decide_eq_true hc] at fin
  have c1: ¬(2000<((F.length+n:Nat):Int)):=by omega
  have c2:((F.length+n:Nat):Int)≤2000:=by omega
  clear hc
  with_reducible repeat' first|simp only[zP,jaf,jaa,jad,jac,seval,Nat.reduceLeDiff,hb,hl,w1,c1,c2, *]|simp only[jab]|apply And.intro|intro _
 ·have c1:(2000<((F.length+n:Nat):Int)):=by omega
  have HC:=Lib.hid hc
  clear hc
  with_reducible repeat' first|simp only[zP,jaf,jaa,jad,jac,seval,Nat.reduceLeDiff,hb,hl,w1,c1, *]|simp only[jab]|apply And.intro|intro _
  refine jqM HH.out HR.out hL fun H' σ' F' AT' h' r' e1 e2 fr=>?_
  have fin:=Fin.keep (H0:=H) (HK.out H' σ' F' AT' h' r' (fun _=>e1) (fun h=>absurd h HC.out) fr)
  have hb':=h'.box
  have hl':lenZ H' (.own σ'.w σ'.gw 0 F'.length false)=some F'.length:=by rw[jaY];exact⟨_,_,h'.ws,rfl⟩
  have hFl:=r'.hl
  have hn:=HN.out
  have w2:IntKind.i64.wrap ((F'.length:Int)+(n:Int))=((F'.length+n:Nat):Int):=by rw[IntWalk.i64_in _ (by omega)];omega
  have c3:decide (((F'.length+n:Nat):Int)≤2000)=decide (F'.length+n≤2000):=by
   by_cases q:F'.length+n≤2000
   ·rw[decide_eq_true q,decide_eq_true (by omega)]
   ·rw[decide_eq_false q,decide_eq_false (by omega)]
  clear h' r' e1 e2 fr hb hl w1 hFl hn
  with_reducible repeat' first|simp only[zP,jaf,jaa,jad,jac,seval,Nat.reduceLeDiff,hb',hl',w2,c3, *]|simp only[jab]|apply And.intro|intro _
end
end Go.Proofs.YtjaahfncbechnaaGreatDoor
