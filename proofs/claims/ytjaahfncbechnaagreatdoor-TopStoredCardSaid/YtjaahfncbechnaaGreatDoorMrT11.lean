/-
  Haul in ZM: Collect where the words are a list of one's own that stays; its results are lists of one's own (printed by am/genStB.py).
-/
import Derived.Test.YtjaahfncbechnaaGreatDoorMrT9
set_option linter.unusedVariables false
set_option linter.unusedSimpArgs false
namespace Go.Proofs.YtjaahfncbechnaaGreatDoor
section
open Go Go.RowKit
variable {tb:List (FuncId×Bool)}{L:Nat→Bool}{H W Y:ZH}{K:ZV→ZH→Prop}
set_option maxHeartbeats 1000000 in
theorem jnF {F:List Int}{w0 gw:Nat}(hw0:W[w0]?=some (.grow gw 1 (F.map eU))){w:Int}{g1 g3:Nat}{to:List Int}{T:List (Int×Int)}(hL: ∀k,L (W.length+k)=true)(h0:0≤w∧w<18446744073709551616)(hF:F.length≤2000)(ht:to.length≤2000)(hT:T.length≤2000)
  (hp:jax w=true→0≤jau w∧ ∃h:(jau w).toNat<F.length,(jau w).toNat+1+lng F[(jau w).toNat]≤F.length)
  (hK: ∀g1' g3',K (.val (.int .u64 (mvW F w to T).1)) (colH W Y (.own w0 gw 0 F.length false) g1' g3' (mvW F w to T).2.1 (mvW F w to T).2.2)):
  ZC (boxX tb) (jal Tryz.prog) 38 [.ptr (W.length+1) 0,.val (.int .u64 w)] L (colH W Y (.own w0 gw 0 F.length false) g1 g3 to T) K:=by
 refine ZC.enter Gh.no (jai (by decide)) jo2 (by simp) ?_
 simp only[jiw,kkP]
 have HP:=Lib.hid hp
 have HKK:=Lib.hid hK
 have H00:=Lib.hid h0
 clear hK hp h0
 with_reducible repeat' first|simp only[zP,jaf,jaa,jad,jac,seval,Nat.reduceLeDiff,hL, *]|simp only[jab]|apply And.intro|intro _
 refine jq3 H00.out ?_
 cases h1:jax w with
 |false=>
  have e:mvW F w to T=(w,to,T):=by simp[mvW,h1]
  have fin:=Fin.keep (H0:=colH W Y (.own w0 gw 0 F.length false) g1 g3 to T) (HKK.out g1 g3)
  rw[e] at fin
  clear e
  with_reducible repeat' first|simp only[zP,jaf,jaa,jad,jac,seval,Nat.reduceLeDiff,hL, *]|simp only[jab]|apply And.intro|intro _
 |true=>
  obtain⟨hn0,hlt,hle⟩:=HP.out h1
  obtain⟨a,ha⟩: ∃a:Nat,jau w=(a:Int):=⟨(jau w).toNat,by omega⟩
  have hta:(jau w).toNat=a:=by omega
  have g0: ∀A Z,(W++(A::Z))[W.length]?=some A:=fun A Z=>jay A Z
  have s0: ∀A C Z,(W++(A::Z)).set W.length C=W++(C::Z):=fun A C Z=>jbR A C Z
  have lW:L W.length=true:=hL 0
  cases hf:T.find? fun x=>decide (jau w=x.2) with
  |some x=>
   have e:mvW F w to T=(boxW 5 x.1,to,T):=by simp[mvW,h1,hf]
   have fin:=Fin.keep (H0:=colH W Y (.own w0 gw 0 F.length false) g1 g3 to T) (HKK.out g1 g3)
   rw[e] at fin
   have hz:jbg (newM T) (jau w)=some (Z64 x.1):=by rw[jdE,hf];rfl
   clear e hf
   rw[ha] at hz ⊢
   unfold colH at fin ⊢
   with_reducible repeat' first|simp only[zP,jaf,jaa,jad,jac,seval,Nat.reduceLeDiff,hL,g0,jnL,hz,jkq,jb6,jc2,ZV.mp.injEq, *]|simp only[jab]|apply And.intro|intro _
   refine box_z ?_
   with_reducible repeat' first|simp only[zP,jaf,jaa,jad,jac,seval,Nat.reduceLeDiff,hL, *]|simp only[jab]|apply And.intro|intro _
  |none=>
   have e:mvW F w to T=(boxW 5 to.length,to++ja7 F a,T++[((to.length:Int),(a:Int))]):=by
    have hf2:T.find? (fun x=>decide ((a:Int)=x.2))=none:=by rw[←ha];exact hf
    simp only[mvW,h1,ha,hf2,Bool.true_eq_false,if_false,Int.toNat_natCast]
   have hz:jbg (newM T) (a:Int)=none:=by rw[←ha,jdE,hf];rfl
   have hpt:=ji6 (a:Int) (to.length:Int) T hz
   have fin:=fun x y=>Fin.keep (H0:=colH W Y (.own w0 gw 0 F.length false) g1 g3 to T) (HKK.out x y)
   rw[e] at fin
   have hlt':a<F.length:=by omega
   have hob:ja7 F a=(F.drop a).take (1+lng F[a]):=by unfold ja7;rw[List.getElem?_eq_getElem hlt'];rfl
   have hle':a+1+lng F[a]≤F.length:=by
    have: ∀b (hb:b<F.length),b=a→b+1+lng F[b]≤F.length→a+1+lng F[a]≤F.length:=fun b hb e h=>by subst e;exact h
    exact this _ hlt hta hle
   have hol:(ja7 F a).length=1+lng F[a]:=by rw[hob];simp;omega
   have hlg:(lng F[a]:Int)=F[a] % 4294967296:=by unfold lng;omega
   have hgt: ∀Z:ZH,(W++Z)[w0]?=some (.grow gw 1 (F.map eU)):=fun Z=>by rw[List.getElem?_append_left (jae hw0)];exact hw0
   have hq: ∀Z,jbV (W++Z) 1 a (.own w0 gw 0 F.length false)=some (.eptr w0 gw a 0):=fun Z=>by rw[jbT];exact⟨_,hgt Z,by simp,hlt',by simp⟩
   have hld: ∀Z,ldZ (W++Z) none (.eptr w0 gw a 0)=some (.val (.int .u64 F[a])):=fun Z=>by rw[jbO];exact⟨_,_,eU F[a],hgt Z,by rw[List.getElem?_map,List.getElem?_eq_getElem hlt'];rfl,rfl⟩
   have hcut: ∀(Z:ZH) (b:Bool),cutZ (W++Z) 1 a (a+1+lng F[a]) F.length b (.own w0 gw 0 F.length false)=some (.own w0 gw a (1+lng F[a]) (b&&(a+1+lng F[a])==F.length)):=fun Z b=>by
    simp only[cutZ,hgt Z]
    rw[if_pos ⟨trivial,trivial,by omega,hle',Nat.le_refl _,by simp⟩]
    simp only[Nat.zero_add,Bool.false_or]
    rw[show a+1+lng F[a] - a=1+lng F[a] by omega]
   have hrw: ∀(Z:ZH) (e:Bool),jbi (W++Z) 1 (.own w0 gw a (1+lng F[a]) e)=some ((ja7 F a).map eU):=fun Z e=>by
    rw[jc7]
    refine⟨_,hgt Z,by simp;omega,?_⟩
    rw[hob,List.map_take,List.map_drop]
   obtain⟨x,hx⟩: ∃x,x=F[a]:=⟨_,rfl⟩
   rw[←hx] at hld hcut hrw hol hlg hle'
   obtain⟨O,hO⟩: ∃O,O=ja7 F a:=⟨_,rfl⟩
   rw[←hO] at hrw hol fin
   have w1:IntKind.i64.wrap ((a:Int)+1)=((a+1:Nat):Int):=by rw[IntWalk.i64_in _ (by omega)];omega
   have w2:IntKind.i64.wrap (((a+1:Nat):Int)+x % 4294967296)=((a+1+lng x:Nat):Int):=by rw[IntWalk.i64_in _ (by omega)];omega
   have hr1:(T.length+1)*16≤ja5:=by unfold ja5;omega
   have hr2:(to.length+O.length)*8≤ja5:=by unfold ja5;omega
   have lF: ∀Z,lenZ (W++Z) (.own w0 gw 0 F.length false)=some F.length:=fun Z=>by rw[jaY];exact⟨_,_,hgt Z,rfl⟩
   have FF:=Lib.hid fin
   have HLG:=Lib.hid hlg
   have HLE:=Lib.hid hle'
   have HOL:=Lib.hid hol
   have L1:L (W.length+1)=true:=hL 1
   have lt1: ∀n,W.length+1<W.length+(n+1+1+1+1):=fun n=>by omega
   have L2:L (W.length+2)=true:=hL 2
   have L3:L (W.length+3)=true:=hL 3
   clear e hf hob hx hO hlt hle hn0 hta fin hlg hle' hol hlt' hF ht hT hgt
   rw[ha]
   clear ha
   unfold colH at FF ⊢
   with_reducible repeat' first|simp only[zP,jaf,jaa,jad,jac,seval,Nat.reduceLeDiff,lW,L1,L2,L3,g0,s0,jnL,jid,jr2,co_st1,jr1,co_st3,hz,jkr,jb6,jfE,jc2,ZV.mp.injEq,hq,hld,hr1,hr2,lF,hcut,hrw,w1,jgJ,jgI,lt1, *]|simp only[jab]|apply And.intro|intro _
   refine jrh ?_
   with_reducible repeat' first|simp only[zP,jaf,jaa,jad,jac,seval,Nat.reduceLeDiff,lW,L1,L2,L3,g0,s0,jnL,jid,jr2,co_st1,jr1,co_st3,hr1,hr2,lF,hcut,hrw,w2,jgJ,jgI,jlR,lt1, *]|simp only[jab]|apply And.intro|intro _
   refine box_z ?_
   with_reducible repeat' first|simp only[zP,jaf,jaa,jad,jac,seval,Nat.reduceLeDiff,lW, *]|simp only[jab]|apply And.intro|intro _
   have fin:=FF.out (g1+1) (g3+1)
   simp only[List.length_append,List.length_cons,List.length_nil,Nat.zero_add,List.map_append,List.map_cons,List.map_nil] at fin
   exact fin
set_option maxHeartbeats 4000000 in
theorem jic {w0 gw:Nat}{zr:ZV}{F R:List Int}(hw0:H[w0]?=some (.grow gw 1 (F.map eU)))(hcr:zr.isCell=true)(hr: ∀X,jbi (H++X) 1 zr=some (R.map eU))(huw:U64 F)(hur:U64 R)(hbW:F.length≤100000000000000)(hbR:R.length≤100000000000000)(hc:chkE F R=0)(hKo: ∀st,HRun F ⟨0,0,(jaB F R).2.1,(jaB F R).2.2⟩ st→st.i=st.to.length→ ∀A B C D b1 b3 g,K (.tuple [.agg [.own (H.length+4) b1 0 st.to.length false,.own (H.length+6) g 0 R.length false],.own (H.length+5) b3 0 st.T.length false,Z64 0]) (H++[A,B,C,D,.grow b1 1 (st.to.map eU),.grow b3 2 (st.T.map eP),.grow g 1 ((jaB F R).1.map eU)])):
  ZC (boxX tb) (jal Tryz.prog) 20 [.agg [.own w0 gw 0 F.length false,zr]] L H K:=by
 refine ZC.enterL ⟨[(6,[(1,1),(3,2)]),(7,[(0,1)])],[],[]⟩ (jai (by decide)) jkL (by simp) fun hL=>?_
 simp only[jfp,kkP]
 have hL0:L H.length=true:=hL 0
 have hL1:L (H.length+1)=true:=hL 1
 have g0: ∀A Y,(H++(A::Y))[H.length]?=some A:=fun A Y=>jay A Y
 have g1: ∀A B Y,(H++(A::B::Y))[H.length+1]?=some B:=fun A B Y=>jbf A B Y
 have s1: ∀A B C Y,(H++(A::B::Y)).set (H.length+1) C=H++(A::C::Y):=fun A B C Y=>jdH A B C Y
 have HR:=Lib.hid hr
 clear hr
 have hgt: ∀Z:ZH,(H++Z)[w0]?=some (.grow gw 1 (F.map eU)):=fun Z=>by rw[List.getElem?_append_left (jae hw0)];exact hw0
 have HGT:=Lib.hid hgt
 have lF: ∀Z,lenZ (H++Z) (.own w0 gw 0 F.length false)=some F.length:=fun Z=>by rw[jaY];exact⟨_,_,hgt Z,rfl⟩
 clear hgt
 with_reducible repeat' first|simp only[zP,jaf,jaa,jad,jac,seval,Nat.reduceLeDiff,g0,g1,s1, *]|simp only[jab]|apply And.intro|intro _
 refine check_z (W:=F) (R:=R) rfl hcr (fun X=>by rw[List.append_assoc];exact jhJ (HGT.out _) (by simp)) (fun X=>by rw[List.append_assoc];exact HR.out _) huw hur ?_ hbW hbR
 ·have HKO:=Lib.hid hKo
  clear hKo
  have lr:=fun X=>jb7 (HR.out X)
  simp only[List.length_map] at lr
  with_reducible repeat' first|simp only[zP,jaf,jaa,jad,jac,seval,Nat.reduceLeDiff,g0,g1,s1,hc,jiJ,lr,hl_cells,hl_cell, *]|simp only[jab]|apply And.intro|intro _
  obtain⟨c1,c2,c3,c4,c5⟩:=chk0 hc
  obtain⟨W,hW⟩: ∃W,W=H++[.box [.own w0 gw 0 F.length false,zr],.box [.nil,.nil]]:=⟨_,rfl⟩
  have hWl:W.length=H.length+2:=by rw[hW];simp
  have hw1:W[w0]?=some (.grow gw 1 (F.map eU)):=by rw[hW];exact HGT.out _
  have HW0:=Lib.hid hw1
  clear hw1
  have hrr: ∀w∈R,jaz w (objs F 0)=true:=fun w hw=>List.all_eq_true.1 c5 w hw
  have hZ: ∀Y g1 g3 to T,jbi (colH W Y (.own w0 gw 0 F.length false) g1 g3 to T) 1 zr=some (R.map eU):=fun Y g1 g3 to T=>by unfold colH;rw[hW,List.append_assoc];exact HR.out _
  have hLW: ∀k,L (W.length+k)=true:=fun k=>by rw[hWl,Nat.add_assoc];exact hL _
  have L6:L (H.length+6)=true:=hL 6
  have a4: ∀B Z zw a b to T,(colH W (B::Z) zw a b to T)[H.length+6]?=some B:=fun B Z zw a b to T=>by
   rw[show H.length+6=W.length+4 by omega];exact co_at4 _ _ _ _ _
  have t4: ∀B C Z zw a b to T,(colH W (B::Z) zw a b to T).set (H.length+6) C=colH W (C::Z) zw a b to T:=fun B C Z zw a b to T=>by
   rw[show H.length+6=W.length+4 by omega];exact co_st4 _ _ _ _ _ _
  refine jbp [(1,.ptr H.length 0),(2,.ptr (H.length+1) 0),(6,.ptr (H.length+3) 0),(26,zr)] R.length (fun k s' h'=> ∃g1 g3 g,s' 7= .own (H.length+6) g 0 k false∧h'=colH W [.grow g 1 ((jaB F (R.take k)).1.map eU)] (.own w0 gw 0 F.length false) g1 g3 (jaB F (R.take k)).2.1 (jaB F (R.take k)).2.2) (by omega) ⟨rfl,rfl,rfl,rfl,rfl,rfl⟩ rfl rfl (by repeat' (first|exact trivial|(refine⟨rfl,?_⟩)|(refine⟨by simp only[jaQ,Nat.reduceEqDiff,reduceIte];assumption,?_⟩))) rfl rfl (by decide) ⟨0,0,0,rfl,by rw[hW];simp[colH,newM,jaB]⟩ ?_ ?_
  ·rintro k s' h' hk ⟨b1,b3,g,f7,rfl⟩ hi hl ⟨f1,f2,f6,f26,-⟩
   obtain⟨q,hq,hld⟩:=jd9 (hZ [.grow g 1 ((jaB F (R.take k)).1.map eU)] b1 b3 (jaB F (R.take k)).2.1 (jaB F (R.take k)).2.2) hk
   have hI:=jdR c3 (R.take k) fun w hw=>hrr w (List.mem_of_mem_take hw)
   have hsm:=hI.small c3
   have hux:=hur R[k] (List.getElem_mem hk)
   have hrx:=hrr R[k] (List.getElem_mem hk)
   have hsn:=jc8 (F:=F) (R:=R.take k) (w:=R[k])
   rw[←List.take_succ_eq_append_getElem hk] at hsn
   have hkl:(jaB F (R.take k)).1.length=k:=by rw[jeR,List.length_take];omega
   have hre:(k+1)*8≤ja5:=by unfold ja5;omega
   obtain⟨x,hx⟩: ∃x,x=R[k]:=⟨_,rfl⟩
   rw[←hx] at hld hux hrx hsn
   obtain⟨rs,hrs⟩: ∃rs,rs=jaB F (R.take k):=⟨_,rfl⟩
   rw[hsn]
   rw[←hrs] at hq hld hsm hkl hI ⊢
   have HS:=Lib.hid hsm
   have HX:=Lib.hid hux
   have HRX:=Lib.hid hrx
   have HC:=Lib.hid c1
   have HE:=Lib.hid c3
   have hle:k≤(rs.1.map eU).length:=by rw[List.length_map];omega
   clear hsn hrs hx hI hsm hux hrx c1 c2 c3 c4 c5 hrr huw hur hW
   with_reducible repeat' first|simp only[zP,jaf,jaa,jad,jac,seval,Nat.reduceLeDiff,hq,hld, *]|simp only[jab]|apply And.intro|intro _
   rw[show H.length+3=W.length+1 by omega]
   refine jnF HW0.out hLW HX.out HC.out (by have:=HS.out;have:=HC.out;omega) (by have:=HS.out;have:=HC.out;omega) (jkd HE.out HRX.out) fun d1 d3=>?_
   with_reducible repeat' first|simp only[zP,jaf,jaa,jad,jac,seval,Nat.reduceLeDiff,a4,t4,L6,hkl,hre, *]|simp only[jab]|apply And.intro|intro _
   exact⟨d1,d3,by rw[List.take_of_length_le (by rw[List.length_map];omega)];simp⟩
  ·rintro s' h' ⟨b1,b3,g,f7,rfl⟩ ⟨f1,f2,f6,f26,-⟩
   rw[List.take_of_length_le (Nat.le_refl _)]
   have hI:=jdR c3 R hrr
   obtain⟨rs,hrs⟩: ∃rs,rs=jaB F R:=⟨_,rfl⟩
   rw[←hrs] at hI HKO ⊢
   have hS0:=HS.start hI
   have Hh:=Lib.hid (fun s (h:HRun F ⟨0,0,rs.2.1,rs.2.2⟩ s)=>HRun.hs c3 c4 hS0 h)
   have HC:=Lib.hid c1
   have HE:=Lib.hid c3
   have HO:=Lib.hid c4
   have HU:=Lib.hid huw
   have HrL:=Lib.hid (show rs.1.length=R.length by rw[hrs,jeR])
   have HWW:=Lib.hid hW
   clear hrs hI hS0 c1 c2 c3 c4 c5 hrr huw hur hW
   with_reducible repeat' first|simp only[zP,jaf,jaa,jad,jac,seval,Nat.reduceLeDiff,a4, *]|simp only[jab]|apply And.intro|intro _
   refine jdr [(2,.ptr (H.length+1) 0),(6,.ptr (H.length+3) 0),(7,.own (H.length+6) g 0 R.length false)] (F.length+1) (fun n s' h'=> ∃st b1 b3,HRun F ⟨0,0,rs.2.1,rs.2.2⟩ st∧st.i=st.nx∧s' 10=Z64 (st.i:Int)∧h'=colH W [.grow g 1 (rs.1.map eU)] (.own w0 gw 0 F.length false) b1 b3 st.to st.T∧n=F.length+1 - st.i) (by repeat' (first|exact trivial|(refine⟨rfl,?_⟩)|(refine⟨by simp only[jaQ,Nat.reduceEqDiff,reduceIte];assumption,?_⟩))) rfl ⟨⟨0,0,rs.2.1,rs.2.2⟩,b1,b3,.refl,rfl,rfl,rfl,rfl⟩ ?_
   rintro n s' h' ⟨st,b1,b3,hrun,hin,f10,rfl,rfl⟩ ⟨f2,f6,f7,-⟩
   have hS:=Hh.out st hrun
   have hsm:=hS.inv.small HE.out
   have e3:H.length+3=W.length+1:=by omega
   rw[e3] at f6
   have HWL:=Lib.hid hWl
   clear hWl e3
   have at1: ∀{Y:ZH} {zw:ZV} {b1 b3:Nat} {to:List Int} {T:List (Int×Int)},(colH W Y zw b1 b3 to T)[W.length+1]?=some (.box [zw,.own (W.length+2) b1 0 to.length false,.mp W.length,.own (W.length+3) b3 0 T.length false]):=col_at1
   have at2: ∀{Y:ZH} {zw:ZV} {b1 b3:Nat} {to:List Int} {T:List (Int×Int)},(colH W Y zw b1 b3 to T)[W.length+2]?=some (.grow b1 1 (to.map eU)):=col_at2
   by_cases hi:st.i<st.to.length
   ·obtain⟨x,hx,hxb,-⟩:=hS.word HE.out HO.out HU.out hi
    have k1:(st.i:Int)<(st.to.length:Int):=by omega
    have q1:=fun Y zw b1 b3=>jr0 (W:=W) (Y:=Y) (zw:=zw) (b1:=b1) (b3:=b3) (T:=st.T) hi
    have q2:=fun Y zw b1 b3=>col_ld (W:=W) (Y:=Y) (zw:=zw) (b1:=b1) (b3:=b3) (T:=st.T) hx
    have hst1:jdG F st=⟨st.i+1,st.i+1+lng x,st.to,st.T⟩:=by unfold jdG;rw[if_pos hin,hx,Option.getD_some]
    have hrun1:HRun F ⟨0,0,rs.2.1,rs.2.2⟩ ⟨st.i+1,st.i+1+lng x,st.to,st.T⟩:=by rw[←hst1];exact hrun.step hi
    have hnx:st.i+1+lng x≤st.to.length:=(Hh.out _ hrun1).le.2
    have lg:x % 4294967296=(lng x:Int):=by unfold lng;omega
    have w1:IntKind.i64.wrap ((st.i:Int)+1)=((st.i+1:Nat):Int):=by rw[IntWalk.i64_in _ (by omega)];omega
    have w2:IntKind.i64.wrap ((st.i:Int)+(lng x:Int))=((st.i+lng x:Nat):Int):=by rw[IntWalk.i64_in _ (by omega)];omega
    have w3:IntKind.i64.wrap (1+(lng x:Int))=((1+lng x:Nat):Int):=by rw[IntWalk.i64_in _ (by omega)];omega
    have w4:IntKind.i64.wrap ((st.i:Int)+((1+lng x:Nat):Int))=((st.i+1+lng x:Nat):Int):=by rw[IntWalk.i64_in _ (by omega)];omega
    have HRN:=Lib.hid hrun1
    have HNX:=Lib.hid hnx
    have HSM:=Lib.hid hsm
    have HLG:=Lib.hid lg
    clear hrun1 hnx hst1 hx hxb hsm lg hin
    with_reducible repeat' first|simp only[zP,jaf,jaa,jad,jac,seval,Nat.reduceLeDiff,q1,q2,k1, *]|simp only[jab]|apply And.intro|intro _
    refine jrh ?_
    rw[HLG.out]
    with_reducible repeat' first|simp only[zP,jaf,jaa,jad,jac,seval,Nat.reduceLeDiff,w1, *]|simp only[jab]|apply And.intro|intro _
    refine jdr [(2,.ptr (H.length+1) 0),(6,.ptr (W.length+1) 0),(7,.own (H.length+6) g 0 R.length false),(10,Z64 (st.i:Int)),(11,Z64 (lng x:Int))] (F.length+1 - (st.i+1)) (fun n s' h'=> ∃st2 b1 b3,HRun F ⟨0,0,rs.2.1,rs.2.2⟩ st2∧st2.nx=st.i+1+lng x∧s' 12=Z64 (st2.i:Int)∧h'=colH W [.grow g 1 (rs.1.map eU)] (.own w0 gw 0 F.length false) b1 b3 st2.to st2.T∧n=F.length+1 - st2.i) (by repeat' (first|exact trivial|(refine⟨rfl,?_⟩)|(refine⟨by simp only[jaQ,Nat.reduceEqDiff,reduceIte];assumption,?_⟩))) rfl ⟨⟨st.i+1,st.i+1+lng x,st.to,st.T⟩,b1,b3,HRN.out,rfl,rfl,rfl,rfl⟩ ?_
    rintro n s' h' ⟨st2,d1,d3,hrun2,hnx2,f12,rfl,rfl⟩ ⟨f2,f6,f7,f10,f11,-⟩
    have hS2:=Hh.out _ hrun2
    have hsm2:=hS2.inv.small HE.out
    by_cases hi2:st2.i<st2.nx
    ·have hlt2:st2.i<st2.to.length:=by have:=hS2.le.2;omega
     obtain⟨y,hy,hyb,hyr⟩:=hS2.word HE.out HO.out HU.out hlt2
     have hyr:=hyr (by omega)
     have k2:(st2.i:Int)≤((st.i+lng x:Nat):Int):=by omega
     have p1:=fun Y zw b1 b3=>jr0 (W:=W) (Y:=Y) (zw:=zw) (b1:=b1) (b3:=b3) (T:=st2.T) hlt2
     have p2:=fun Y zw b1 b3=>col_ld (W:=W) (Y:=Y) (zw:=zw) (b1:=b1) (b3:=b3) (T:=st2.T) hy
     obtain⟨e,E,e1,e2⟩:=jgB F y st2.to st2.T
     have hlt3:st2.i<(mvW F y st2.to st2.T).2.1.length:=by rw[e1,List.length_append];omega
     have p3:=fun Y zw b1 b3=>jr0 (W:=W) (Y:=Y) (zw:=zw) (b1:=b1) (b3:=b3) (T:=(mvW F y st2.to st2.T).2.2) hlt3
     have p4:=fun Y zw b1 b3=>col_st (L:=L) (W:=W) (Y:=Y) (zw:=zw) (b1:=b1) (b3:=b3) (T:=(mvW F y st2.to st2.T).2.2) (x:=(mvW F y st2.to st2.T).1) hlt3 (hLW 2)
     have hst2:jdG F st2=⟨st2.i+1,st2.nx,(mvW F y st2.to st2.T).2.1.set st2.i (mvW F y st2.to st2.T).1,(mvW F y st2.to st2.T).2.2⟩:=by unfold jdG;rw[if_neg (by omega),hy,Option.getD_some]
     have hrun3:=hrun2.step hlt2
     have w5:IntKind.i64.wrap ((st2.i:Int)+1)=((st2.i+1:Nat):Int):=by rw[IntWalk.i64_in _ (by have:=HC.out;omega)];omega
     have hm:F.length+1 - (st2.i+1)<F.length+1 - st2.i:=by omega
     obtain⟨r1,r2⟩:st2.to.length≤2000∧st2.T.length≤2000:=by have:=HC.out;omega
     have HY:=Lib.hid hyb
     have HR3:=Lib.hid hrun3
     have HS2:=Lib.hid hst2
     have HNX2:=Lib.hid hnx2
     have HM:=Lib.hid hm
     clear hrun3 hst2 hnx2 hm hyb hS2 hsm2 hlt2 hy hlt3 e1 e2 hi2
     with_reducible repeat' first|simp only[zP,jaf,jaa,jad,jac,seval,Nat.reduceLeDiff,p1,p2,k2,w2, *]|simp only[jab]|apply And.intro|intro _
     refine jnF HW0.out hLW HY.out HC.out r1 r2 (jkd HE.out hyr) fun d1 d3=>?_
     with_reducible repeat' first|simp only[zP,jaf,jaa,jad,jac,seval,Nat.reduceLeDiff,p3,p4,w5, *]|simp only[jab]|apply And.intro|intro _
     all_goals refine⟨_,HM.out,⟨st2.i+1,st2.nx,(mvW F y st2.to st2.T).2.1.set st2.i (mvW F y st2.to st2.T).1,(mvW F y st2.to st2.T).2.2⟩,by rw[←HS2.out];exact HR3.out,HNX2.out,rfl,⟨d1,d3,rfl⟩,rfl⟩
    ·have hie:st2.i=st2.nx:=by have:=hS2.le.1;omega
     have k2: ¬((st2.i:Int)≤((st.i+lng x:Nat):Int)):=by omega
     have hm:F.length+1 - st2.i<F.length+1 - st.i:=by have:=HSM.out;omega
     have hfin:st.i+1+lng x=st2.i:=by omega
     have HM:=Lib.hid hm
     have HF:=Lib.hid hfin
     have HIE:=Lib.hid hie
     clear hm hfin hie hS2 hsm2 hnx2 hi2
     with_reducible repeat' first|simp only[zP,jaf,jaa,jad,jac,seval,Nat.reduceLeDiff,w2,w3,w4,k2, *]|simp only[jab]|apply And.intro|intro _
     all_goals refine⟨_,HM.out,st2,hrun2,HIE.out,by rw[HF.out],⟨d1,d3,rfl⟩,rfl⟩
   ·have k1: ¬((st.i:Int)<(st.to.length:Int)):=by omega
    have HEQ:=Lib.hid (show st.i=st.to.length by have:=hS.le;omega)
    have at3: ∀{Y:ZH} {zw:ZV} {b1 b3:Nat} {to:List Int} {T:List (Int×Int)},(colH W Y zw b1 b3 to T)[W.length+3]?=some (.grow b3 2 (T.map eP)):=by unfold colH;exact jr2 _ _ _ _
    have fin:=fun A B C D=>Fin.keep (H0:=H) (HKO.out st hrun HEQ.out A B C D b1 b3 g)
    have se: ∀B,(colH W [.grow g 1 (rs.1.map eU)] (.own w0 gw 0 F.length false) b1 b3 st.to st.T).set (H.length+1) B=H++[.box [.own w0 gw 0 F.length false,zr],B,.box ((newM st.T).map ent),.box [.own w0 gw 0 F.length false,.own (W.length+2) b1 0 st.to.length false,.mp W.length,.own (W.length+3) b3 0 st.T.length false],.grow b1 1 (st.to.map eU),.grow b3 2 (st.T.map eP),.grow g 1 (rs.1.map eU)]:=fun B=>by
     unfold colH
     rw[HWW.out,List.append_assoc]
     exact s1 _ _ _ _
    have ge:(colH W [.grow g 1 (rs.1.map eU)] (.own w0 gw 0 F.length false) b1 b3 st.to st.T)[H.length+1]?=some (.box [.nil,.nil]):=by
     unfold colH
     rw[HWW.out,List.append_assoc]
     exact g1 _ _ _
    have ne:(H.length+1==W.length+1)=false:=by have:=HWL.out;rw[beq_eq_false_iff_ne];omega
    rw[show H.length+4=W.length+2 by have:=HWL.out;omega,show H.length+5=W.length+3 by have:=HWL.out;omega] at fin
    have lt1:W.length+1<(colH W [.grow g 1 (rs.1.map eU)] (.own w0 gw 0 F.length false) b1 b3 st.to st.T).length:=by unfold colH;simp
    have lt3:W.length+3<(colH W [.grow g 1 (rs.1.map eU)] (.own w0 gw 0 F.length false) b1 b3 st.to st.T).length:=by unfold colH;simp
    have lt2:W.length+2<(colH W [.grow g 1 (rs.1.map eU)] (.own w0 gw 0 F.length false) b1 b3 st.to st.T).length:=by unfold colH;simp
    clear hi hsm hS hin
    with_reducible repeat' first|simp only[zP,jaf,jaa,jad,jac,seval,Nat.reduceLeDiff,k1,at3,se,ge,ne,lt1,lt2,lt3, *]|simp only[jab]|apply And.intro|intro _
end
section
open Go Go.RowKit
theorem jqQ {F:List Int}{P:Int→Prop}: ∀R:List Int,(∀w∈R,jax w=true→P (jau w))→ ∀x∈(jaB F R).2.2,P x.2:=by
 refine jiS (fun _ x hx=>by simp[jaB] at hx) fun R w ih hr x hx=>?_
 rw[jc8] at hx
 rcases jrf x hx with hx|⟨hp,e⟩
 ·exact ih (fun v hv=>hr v (by simp[hv])) x hx
 ·rw[e];exact hr w (by simp) hp
theorem jqW {F R:List Int}{P:Int→Prop}(hc:chkE F R=0)(hR: ∀w∈R,jax w=true→P (jau w))
  (hP: ∀a:Int,P a→ ∀d,1≤d→d<osz F a.toNat→ ∀o,F[a.toNat+d]?=some o→jax o=true→P (jau o)) {s:HSt} (h:HRun F ⟨0,0,(jaB F R).2.1,(jaB F R).2.2⟩ s): ∀x∈s.T,P x.2:=by
 obtain⟨c1,c2,c3,c4,c5⟩:=chk0 hc
 have h0:=HS.start (jdR c3 R fun w hw=>List.all_eq_true.1 c5 w hw)
 induction h with
 |refl=>exact jqQ R hR
 |@step s hr hi ih=>
  have hs:=HRun.hs c3 c4 h0 hr
  intro x hx
  by_cases hn:s.i=s.nx
  ·unfold jdG at hx;rw[if_pos hn] at hx;exact ih x hx
  ·obtain⟨k,y,d,hy,hd1,hd2,hid,hlt,hto,hor,hrw⟩:=hs.other c3 c4 hi hn
   unfold jdG at hx
   rw[if_neg hn] at hx
   rcases jrf x hx with hx|⟨hp,e⟩
   ·exact ih x hx
   ·rw[e]
    obtain⟨o,ho⟩: ∃o,F[y.2.toNat+d]?=some o:=⟨_,List.getElem?_eq_getElem hlt⟩
    rw[hto,ho,Option.getD_some] at hp ⊢
    exact hP y.2 (ih y (List.mem_of_getElem? hy)) d hd1 hd2 o ho hp
structure AS where
  mks:List Int
  vs:List (List Int)
  hd:List Bool
abbrev AS.val (A:AS)(n:Nat):List Int:=A.vs.getD n []
inductive Rch (A:AS):Nat→Prop
  |held {n:Nat}:A.hd[n]?=some true→Rch A n
  |val {n m:Nat} {w:Int}:Rch A n→w∈A.val n→jax w=true→jau w=(m:Int)→Rch A m
abbrev atP (AT:List Int)(n:Nat):Int:=AT.getD n (-1)
def mapP (AT:List Int)(w:Int):Int:=if jax w=true then boxW 5 (atP AT (jau w).toNat) else w
structure AOk (A:AS):Prop where
  lv:A.vs.length=A.mks.length
  lh:A.hd.length=A.mks.length
  n100:A.mks.length≤100
  mkr: ∀x∈A.mks,0≤x∧x<2147483648
  vl: ∀n,Rch A n→(A.val n).length≤100
  vr: ∀n,Rch A n→ ∀w∈A.val n,(0≤w∧w<18446744073709551616)∧0≤jdZ w∧(jax w=true→0≤jau w∧jau w<(A.mks.length:Int))
theorem Rch.lt {A:AS}(h:AOk A){n:Nat}(hn:Rch A n):n<A.mks.length:=by
 induction hn with
 |held hh=>have:=(List.getElem?_eq_some_iff.1 hh).1;have:=h.lh;omega
 |val hr hw hp e ih=>have:=((h.vr _ hr _ hw).2.2 hp).2;omega
structure Rep (A:AS)(F AT:List Int):Prop where
  ok:AOk A
  la:AT.length=A.mks.length
  he:jaq F 0=F.length
  hw:okW F=true
  hl:F.length≤2000
  u:U64 F
  inj: ∀i j,0≤atP AT i→atP AT i=atP AT j→i=j
  obj: ∀i,atP AT i= -1∨(0≤atP AT i∧(atP AT i).toNat∈objs F 0)
  cell: ∀n,Rch A n→0≤atP AT n∧F[(atP AT n).toNat]?=some (A.mks.getD n 0*4294967296+((A.val n).length:Int))∧ ∀(i:Nat) w,(A.val n)[i]?=some w→F[(atP AT n).toNat+1+i]?=some (mapP AT w)
theorem jeC {a:Int}{n:Nat}(hn:n≤2000):lng (a*4294967296+(n:Int))=n:=by unfold lng;omega
variable {A:AS}{F AT:List Int}
theorem Rep.osz (h:Rep A F AT){n:Nat}(hn:Rch A n):osz F (atP AT n).toNat=1+(A.val n).length:=by
 have h1:=(h.cell n hn).2.1
 unfold Go.Proofs.YtjaahfncbechnaaGreatDoor.osz
 rw[h1,Option.getD_some,jeC (by have:=h.ok.vl n hn;omega)]
theorem Rep.obj' (h:Rep A F AT){n:Nat}(hn:0≤atP AT n):(atP AT n).toNat∈objs F 0:=by
 rcases h.obj n with e|e
 ·omega
 ·exact e.2
theorem Rep.fit (h:Rep A F AT){n:Nat}(hn:0≤atP AT n):(atP AT n).toNat<F.length∧(atP AT n).toNat+Go.Proofs.YtjaahfncbechnaaGreatDoor.osz F (atP AT n).toNat≤F.length:=(jbN F _ 0 (Nat.le_refl _) h.he _ (h.obj' hn)).2
theorem Rep.word (h:Rep A F AT){n d:Nat}(hn:Rch A n)(h1:1≤d)(h2:d<Go.Proofs.YtjaahfncbechnaaGreatDoor.osz F (atP AT n).toNat): ∃w,(A.val n)[d - 1]?=some w∧F[(atP AT n).toNat+d]?=some (mapP AT w)∧w∈A.val n:=by
 rw[h.osz hn] at h2
 have hlt:d - 1<(A.val n).length:=by omega
 refine⟨(A.val n)[d - 1],List.getElem?_eq_getElem hlt,?_,List.getElem_mem hlt⟩
 have:=(h.cell n hn).2.2 (d - 1) _ (List.getElem?_eq_getElem hlt)
 rwa [show (atP AT n).toNat+1+(d - 1)=(atP AT n).toNat+d by omega] at this
theorem Rep.ref (h:Rep A F AT){n:Nat}{w:Int}(hn:Rch A n)(hw:w∈A.val n)(hp:jax w=true): ∃m:Nat,jau w=(m:Int)∧Rch A m∧mapP AT w=boxW 5 (atP AT m)∧0≤atP AT m∧jax (mapP AT w)=true∧jau (mapP AT w)=atP AT m:=by
 obtain⟨h0,h1⟩:=(h.ok.vr n hn w hw).2.2 hp
 obtain⟨m,hm⟩:=Int.eq_ofNat_of_zero_le h0
 have hr:Rch A m:= .val hn hw hp hm
 have hc:=(h.cell m hr).1
 have hf:=(h.fit hc).1
 have hl:=h.hl
 have e:mapP AT w=boxW 5 (atP AT m):=by unfold mapP;rw[if_pos hp,hm];rfl
 obtain⟨b1,b2,b3,b4,b5,_⟩:=box5 (n:=atP AT m) hc (by omega)
 exact⟨m,hm,hr,e,hc,by rw[e];exact b4,by rw[e];exact b3⟩
theorem jeg {w:Int}(hp:jax w=false):mapP AT w=w:=by unfold mapP;rw[if_neg (by rw[hp];simp)]
def jbJ (AT:List Int)(HD:List Bool)(k:Nat):List Int:=(List.range k).flatMap fun n=>if HD.getD n false=true then [boxW 5 (atP AT n)] else []
theorem jfh {HD:List Bool}{k:Nat}:jbJ AT HD (k+1)=jbJ AT HD k++(if HD.getD k false=true then [boxW 5 (atP AT k)] else []):=by simp[jbJ,List.range_succ]
theorem jea {HD:List Bool}: ∀{k:Nat},(jbJ AT HD k).length≤k
 |0=>by simp[jbJ]
 |k+1=>by
  have:=jea (HD:=HD) (k:=k)
  rw[jfh,List.length_append]
  split<;>simp<;>omega
theorem jlA {HD:List Bool}{k:Nat}{w:Int}(h:w∈jbJ AT HD k): ∃n,n<k∧HD[n]?=some true∧w=boxW 5 (atP AT n):=by
 obtain⟨n,hn,hw⟩:=List.mem_flatMap.1 h
 split at hw
 ·rename_i hh
  refine⟨n,List.mem_range.1 hn,?_,by simpa using hw⟩
  rw[List.getD_eq_getElem?_getD] at hh
  cases hx:HD[n]? with
  |none=>rw[hx] at hh;simp at hh
  |some b=>rw[hx] at hh;simp at hh;rw[hh]
 ·simp at hw
abbrev jcH (A:AS)(AT:List Int):List Int:=jbJ AT A.hd A.hd.length
theorem Rep.rootW (h:Rep A F AT){w:Int}(hw:w∈jcH A AT): ∃n,Rch A n∧w=boxW 5 (atP AT n)∧jax w=true∧jau w=atP AT n∧jaz w (objs F 0)=true∧(0≤w∧w<18446744073709551616):=by
 obtain⟨n,hn,hh,rfl⟩:=jlA hw
 have hr:Rch A n:= .held hh
 have hc:=(h.cell n hr).1
 have hf:=(h.fit hc).1
 have hl:=h.hl
 obtain⟨b1,b2,b3,b4,b5,_⟩:=box5 (n:=atP AT n) hc (by omega)
 refine⟨n,hr,rfl,b4,b3,?_,jb4⟩
 simp only[jaz,b3,b4,b5,Bool.not_true,Bool.false_or,Bool.and_eq_true,decide_eq_true_eq]
 refine⟨by omega,List.mem_map.2 ⟨_,h.obj' hc,by show ((atP AT n).toNat:Int)=_;omega⟩⟩
theorem Rep.chk (h:Rep A F AT):chkE F (jcH A AT)=0:=by
 have h1:=h.hl
 have h2:(jcH A AT).length≤A.hd.length:=jea
 have h3:=h.ok.lh
 have h4:=h.ok.n100
 unfold chkE
 rw[if_neg (by omega),if_pos]
 exact⟨h.he,h.hw,List.all_eq_true.2 fun w hw=>by obtain⟨n,_,_,_,_,hr,_⟩:=h.rootW hw;exact hr⟩
theorem Rep.rootsU (h:Rep A F AT):U64 (jcH A AT):=fun w hw=>by obtain⟨n,_,_,_,_,_,hr⟩:=h.rootW hw;exact hr
structure Col (A:AS)(F AT to:List Int)(T:List (Int×Int)):Prop where
  d:Done F (jcH A AT) to T
  fr: ∀x∈T,∃ n,Rch A n∧x.2=atP AT n
theorem Rep.col (h:Rep A F AT){s:HSt}(hr:HRun F ⟨0,0,(jaB F (jcH A AT)).2.1,(jaB F (jcH A AT)).2.2⟩ s)(hi:s.i=s.to.length):Col A F AT s.to s.T:=by
 refine⟨done_of h.chk hr hi,jqW (P:=fun a=> ∃n,Rch A n∧a=atP AT n) h.chk (fun w hw _=>?_) ?_ hr⟩
 ·obtain⟨n,hn,_,_,e,_⟩:=h.rootW hw
  exact⟨n,hn,e⟩
 ·rintro a ⟨n,hn,rfl⟩ d h1 h2 o ho hp
  obtain⟨w,hw1,hw2,hw3⟩:=h.word hn h1 h2
  rw[hw2] at ho;injection ho with ho;subst ho
  by_cases hpw:jax w=true
  ·obtain⟨m,_,hm,_,_,_,e⟩:=h.ref hn hw3 hpw
   exact⟨m,hm,e⟩
  ·rw[jeg (by simpa using hpw)] at hp;exact absurd hp hpw
theorem Col.all {to:List Int}{T:List (Int×Int)}(h:Rep A F AT)(c:Col A F AT to T){n:Nat}(hn:Rch A n): ∃x∈T,x.2=atP AT n:=by
 induction hn with
 |@held n hh=>
  have hmem:boxW 5 (atP AT n)∈jcH A AT:=by
   have hlt:=(List.getElem?_eq_some_iff.1 hh).1
   refine List.mem_flatMap.2 ⟨n,List.mem_range.2 hlt,?_⟩
   rw[List.getD_eq_getElem?_getD,hh];simp
  obtain⟨n',hn',e,hp,e2,_⟩:=h.rootW hmem
  obtain⟨y,hy,ey⟩:=c.d.roots.2 _ hmem hp
  have hc:=(h.cell n (.held hh)).1
  have hf:=(h.fit hc).1
  have hl:=h.hl
  obtain⟨b1,b2,b3,b4,b5,_⟩:=box5 (n:=atP AT n) hc (by omega)
  exact⟨y,hy,by rw[ey,b3]⟩
 |@val n m w hr hw hp e ih=>
  obtain⟨x,hx,ex⟩:=ih
  obtain⟨i,hi⟩:=List.getElem?_of_mem hw
  obtain⟨k,hk⟩:=List.getElem?_of_mem hx
  have ho:=h.osz hr
  have hil:=(List.getElem?_eq_some_iff.1 hi).1
  obtain⟨o,ho1,ho2,ho3,ho4⟩:=c.d.words h.he hk (d:=1+i) (by omega) (by rw[ex,ho];omega)
  have hc:=(h.cell n hr).2.2 i w hi
  rw[ex,show (atP AT n).toNat+(1+i)=(atP AT n).toNat+1+i by omega,hc] at ho1
  injection ho1 with ho1;subst ho1
  obtain⟨m',hm',_,_,_,hpp,eu⟩:=h.ref hr hw hp
  obtain⟨y,hy,ey⟩:=ho3 hpp
  have:m'=m:=by omega
  subst this
  exact⟨y,hy,by rw[ey,eu]⟩
theorem Col.iff {to:List Int}{T:List (Int×Int)}(h:Rep A F AT)(c:Col A F AT to T){n:Nat}:(∃x∈T,x.2=atP AT n)↔Rch A n:=by
 refine⟨fun⟨x,hx,e⟩=>?_,c.all h⟩
 obtain⟨m,hm,e2⟩:=c.fr x hx
 have h0:=(h.cell m hm).1
 have:n=m:=h.inj n m (by omega) (by omega)
 rw[this];exact hm
open Classical in
noncomputable def size (A:AS):Nat:=(((List.range A.mks.length).filter fun n=>decide (Rch A n)).map fun n=>1+(A.val n).length).sum
theorem Col.size {to:List Int}{T:List (Int×Int)}(h:Rep A F AT)(c:Col A F AT to T):to.length=size A:=by
 classical
 have hfr: ∀x∈T,x.2.toNat∈objs F 0:=fun x hx=>(c.d.inv.frm x hx).2
 have h1:=jfL h.he hfr
 rw[c.d.inv.len,h1]
 have hn:(T.map fun x=>x.2.toNat).Nodup:=by
  have:=c.d.inv.nod
  rw[List.nodup_iff_pairwise_ne,List.pairwise_map] at this
  rw[List.nodup_iff_pairwise_ne,List.pairwise_map]
  refine this.imp_of_mem fun {a b} ha hb hne e=>hne ?_
  have h1:=(c.d.inv.frm a ha).1
  have h2:=(c.d.inv.frm b hb).1
  omega
 obtain⟨Q,hQ⟩: ∃Q,Q=(List.range A.mks.length).filter fun n=>decide (Rch A n):=⟨_,rfl⟩
 have hQm: ∀n,n∈Q↔Rch A n:=fun n=>by
  rw[hQ,List.mem_filter,List.mem_range,decide_eq_true_eq]
  exact⟨fun h=>h.2,fun hn=>⟨hn.lt h.ok,hn⟩⟩
 have hQn:(Q.map fun n=>(atP AT n).toNat).Nodup:=by
  have:Q.Nodup:=by rw[hQ];exact (List.nodup_range).filter _
  rw[List.nodup_iff_pairwise_ne] at this
  rw[List.nodup_iff_pairwise_ne,List.pairwise_map]
  refine this.imp_of_mem fun {a b} ha hb hne e=>hne ?_
  have h1:=(h.cell a ((hQm a).1 ha)).1
  have h2:=(h.cell b ((hQm b).1 hb)).1
  exact h.inj a b h1 (by omega)
 have hs1:=jgi (Go.Proofs.YtjaahfncbechnaaGreatDoor.osz F) hn (l2:=Q.map fun n=>(atP AT n).toNat) fun y hy=>by
  obtain⟨x,hx,rfl⟩:=List.mem_map.1 hy
  obtain⟨n,hn,e⟩:=c.fr x hx
  exact List.mem_map.2 ⟨n,(hQm n).2 hn,by rw[e]⟩
 have hs2:=jgi (Go.Proofs.YtjaahfncbechnaaGreatDoor.osz F) hQn (l2:=T.map fun x=>x.2.toNat) fun y hy=>by
  obtain⟨n,hn,rfl⟩:=List.mem_map.1 hy
  obtain⟨x,hx,e⟩:=c.all h ((hQm n).1 hn)
  exact List.mem_map.2 ⟨x,hx,by rw[e]⟩
 have e:(Q.map fun n=>(atP AT n).toNat).map (Go.Proofs.YtjaahfncbechnaaGreatDoor.osz F)=Q.map fun n=>1+(A.val n).length:=by
  rw[List.map_map]
  exact List.map_congr_left fun n hn=>h.osz ((hQm n).1 hn)
 rw[e] at hs1 hs2
 unfold Go.Proofs.YtjaahfncbechnaaGreatDoor.size
 rw[←hQ]
 omega
def jdo (T:List (Int×Int))(a:Int):Int:=match T.find? fun x=>decide (a=x.2) with
  |some x=>x.1
  |none=> -1
theorem jfM {T:List (Int×Int)}{a:Int}(h: ∃x∈T,x.2=a): ∃x∈T,x.2=a∧jdo T a=x.1:=by
 obtain⟨x,hx,e,hf⟩:=jgK h
 exact⟨x,hx,e,by unfold jdo;rw[hf]⟩
theorem jgA {T:List (Int×Int)}{a:Int}(h: ¬ ∃x∈T,x.2=a):jdo T a= -1:=by
 unfold jdo
 rw[List.find?_eq_none.2 fun x hx hd=>h ⟨x,hx,(of_decide_eq_true hd).symm⟩]
theorem jsj {f:Int→Int}{n:Nat}(h:n<AT.length):atP (AT.map f) n=f (atP AT n):=by
 simp[atP,List.getD_eq_getElem?_getD,h]
theorem jjk {n:Nat}(h:AT.length≤n):atP AT n= -1:=by simp[atP,List.getD_eq_getElem?_getD,h]
theorem Rep.collect {to:List Int}{T:List (Int×Int)}(h:Rep A F AT)(c:Col A F AT to T):Rep A to (AT.map (jdo T)):=by
 have hsm:=c.d.inv.small h.he
 have hob:=c.d.objs0 h.he
 have hck:=c.d.check h.chk
 have hl:=h.hl
 have hat: ∀n,atP (AT.map (jdo T)) n=if n<AT.length then jdo T (atP AT n) else -1:=fun n=>by
  by_cases hn:n<AT.length
  ·rw[if_pos hn,jsj hn]
  ·rw[if_neg hn,jjk (by simpa using hn)]
 have hto: ∀x∈T,∃ k,T[k]?=some x∧x.1=(ol F T k:Int)∧ol F T k<to.length:=fun x hx=>c.d.to_lt h.he hx
 have hcl: ∀n,Rch A n→ ∃(k:Nat) (x:Int×Int),T[k]?=some x∧x.2=atP AT n∧atP (AT.map (jdo T)) n=(ol F T k:Int):=fun n hn=>by
  obtain⟨x,hx,e1,e2⟩:=jfM (c.all h hn)
  obtain⟨k,hk,e3,e4⟩:=hto x hx
  refine⟨k,x,hk,e1,?_⟩
  rw[hat,if_pos (by rw[h.la];exact hn.lt h.ok),e2,e3]
 refine⟨h.ok,by rw[List.length_map];exact h.la,hob.2,(chk0 hck).2.2.2.1,by omega,?_,?_,?_,?_⟩
 ·intro w hw
  obtain⟨j,hj⟩:=List.getElem?_of_mem hw
  have hjl:=(List.getElem?_eq_some_iff.1 hj).1
  by_cases hn:jhU F T j
  ·obtain⟨o,ho⟩: ∃o,(orig F T)[j]?=some o:=⟨_,List.getElem?_eq_getElem (by rw[←c.d.inv.len];exact hjl)⟩
   have hm:=(c.d.cop j o ho hn).1
   rw[hj] at hm;injection hm with hm
   have hoU:0≤o∧o<18446744073709551616:=by
    have:=List.mem_of_getElem? ho
    obtain⟨l,hl,hol⟩:=List.mem_flatten.1 this
    obtain⟨x,hx,rfl⟩:=List.mem_map.1 hl
    exact h.u o (List.mem_of_mem_drop (List.mem_of_mem_take hol))
   rw[hm]
   unfold mapW
   split
   ·exact hoU
   ·split
    ·exact jb4
    ·first|exact hoU|exact jb4|(constructor<;>omega)
  ·have: ∃(k:Nat) (x:Int×Int),T[k]?=some x∧ol F T k=j:=Classical.byContradiction fun hx=>hn fun k x hk e=>hx ⟨k,x,hk,e⟩
   obtain⟨k,x,hk,e⟩:=this
   have:=(c.d.osz h.he hk).1
   rw[e,hj] at this
   exact h.u w (List.mem_of_getElem? this.symm)
 ·intro i j hi e
  rw[hat] at hi e
  rw[hat] at e
  by_cases hil:i<AT.length
  ·rw[if_pos hil] at hi e
   by_cases hri: ∃x∈T,x.2=atP AT i
   ·obtain⟨x,hx,e1,e2⟩:=jfM hri
    rw[e2] at e hi
    by_cases hjl:j<AT.length
    ·rw[if_pos hjl] at e
     by_cases hrj: ∃x∈T,x.2=atP AT j
     ·obtain⟨y,hy,e3,e4⟩:=jfM hrj
      rw[e4] at e
      obtain⟨k,hk,q1,q2⟩:=hto x hx
      obtain⟨k',hk',q3,q4⟩:=hto y hy
      have hkk:k=k':=by
       rcases Nat.lt_trichotomy k k' with hlt|he|hlt
       ·have a1:=(c.d.osz h.he hk).2.2.2
        have a2:=jgu (F:=F) (T:=T) (k:=k+1) (k':=k') hlt
        have:1≤Go.Proofs.YtjaahfncbechnaaGreatDoor.osz F x.2.toNat:=by unfold Go.Proofs.YtjaahfncbechnaaGreatDoor.osz;omega
        omega
       ·exact he
       ·have a1:=(c.d.osz h.he hk').2.2.2
        have a2:=jgu (F:=F) (T:=T) (k:=k'+1) (k':=k) hlt
        have:1≤Go.Proofs.YtjaahfncbechnaaGreatDoor.osz F y.2.toNat:=by unfold Go.Proofs.YtjaahfncbechnaaGreatDoor.osz;omega
        omega
      subst hkk
      rw[hk] at hk';injection hk' with hk'
      subst hk'
      have h0:=(c.d.inv.frm x hx).1
      exact h.inj i j (by omega) (by omega)
     ·rw[jgA hrj] at e;omega
    ·rw[if_neg hjl] at e;omega
   ·rw[jgA hri] at hi;omega
  ·rw[if_neg hil] at hi;omega
 ·intro i
  rw[hat]
  by_cases hil:i<AT.length
  ·rw[if_pos hil]
   by_cases hri: ∃x∈T,x.2=atP AT i
   ·obtain⟨x,hx,e1,e2⟩:=jfM hri
    obtain⟨k,hk,q1,q2⟩:=hto x hx
    refine .inr ⟨by omega,?_⟩
    rw[hob.1,e2]
    exact List.mem_map_of_mem (f:=fun x:Int×Int=>x.1.toNat) hx
   ·exact .inl (jgA hri)
  ·exact .inl (if_neg hil)
 ·intro n hn
  obtain⟨k,x,hk,ex,e⟩:=hcl n hn
  obtain⟨z1,z2,z3,z4⟩:=c.d.osz h.he hk
  rw[e,Int.toNat_natCast]
  refine⟨by omega,by rw[z1,ex];exact (h.cell n hn).2.1,fun i w hi=>?_⟩
  have hil:=(List.getElem?_eq_some_iff.1 hi).1
  obtain⟨o,ho1,ho2,ho3,ho4⟩:=c.d.words h.he hk (d:=1+i) (by omega) (by rw[ex,h.osz hn];omega)
  have hc:=(h.cell n hn).2.2 i w hi
  rw[ex,show (atP AT n).toNat+(1+i)=(atP AT n).toNat+1+i by omega,hc] at ho1
  injection ho1 with ho1;subst ho1
  rw[show ol F T k+1+i=ol F T k+(1+i) by omega,ho2]
  congr 1
  have hwm:=List.mem_of_getElem? hi
  by_cases hp:jax w=true
  ·obtain⟨m,em,hm,e1,e2,e3,e4⟩:=h.ref hn hwm hp
   obtain⟨k2,x2,hk2,ex2,ee2⟩:=hcl m hm
   obtain⟨y,hy,ey,hf⟩:=jgK (c.all h hm)
   have e5:mapW T (mapP AT w)=boxW 5 y.1:=by
    unfold mapW
    rw[if_neg (by rw[e3];simp),e4,hf]
   rw[e5]
   unfold mapP
   rw[if_pos hp,em]
   show boxW 5 y.1=boxW 5 (atP (AT.map (jdo T)) m)
   rw[hat,if_pos (by rw[h.la];exact hm.lt h.ok)]
   unfold jdo
   rw[hf]
  ·rw[jeg (by simpa using hp),jeg (by simpa using hp)]
   unfold mapW
   rw[if_pos (by simpa using hp)]
end
section
open Go Go.RowKit
theorem jhT {F G:List Int}(hl:G.length=F.length): ∀(m b:Nat),F.length - b≤m→(∀j∈objs F b,lng (G[j]?.getD 0)=lng (F[j]?.getD 0))→objs G b=objs F b∧jaq G b=jaq F b:=by
 intro m
 induction m with
 |zero=>
  intro b h _
  have h1: ¬b<F.length:=by omega
  have h2: ¬b<G.length:=by omega
  refine⟨?_,?_⟩
  ·rw[objs,objs];simp[h1,h2]
  ·rw[jaq,jaq];simp[h1,h2]
 |succ m ih=>
  intro b h hj
  by_cases hb:b<F.length
  ·have hb':b<G.length:=by omega
   have e0:=hj b (by rw[objs];simp[hb])
   rw[List.getElem?_eq_getElem hb,List.getElem?_eq_getElem hb',Option.getD_some,Option.getD_some] at e0
   obtain⟨i1,i2⟩:=ih (b+1+lng F[b]) (by omega) fun j hj'=>hj j (by rw[objs];simp[hb,hj'])
   refine⟨?_,?_⟩
   ·rw[objs,objs.eq_def F];simp only[hb,hb',dite_true];rw[e0,i1]
   ·rw[jaq,jaq.eq_def F];simp only[hb,hb',dite_true];rw[e0,i2]
  ·have hb': ¬b<G.length:=by omega
   refine⟨?_,?_⟩
   ·rw[objs,objs];simp[hb,hb']
   ·rw[jaq,jaq];simp[hb,hb']
theorem jhS (P Q:List Int): ∀(m b:Nat),Q.length - b≤m→objs (P++Q) (P.length+b)=(objs Q b).map (P.length+ ·)∧jaq (P++Q) (P.length+b)=P.length+jaq Q b:=by
 intro m
 induction m with
 |zero=>
  intro b h
  have h1: ¬b<Q.length:=by omega
  have h2: ¬P.length+b<(P++Q).length:=by simp;omega
  refine⟨?_,?_⟩
  ·rw[objs,objs];simp only[h1,h2,dite_false];rfl
  ·rw[jaq,jaq];simp only[h1,h2,dite_false]
 |succ m ih=>
  intro b h
  by_cases hb:b<Q.length
  ·have h2:P.length+b<(P++Q).length:=by simp;omega
   have e:(P++Q)[P.length+b]=Q[b]:=by rw[List.getElem_append_right (by omega)];congr 1;omega
   obtain⟨i1,i2⟩:=ih (b+1+lng Q[b]) (by omega)
   have e2:P.length+b+1+lng Q[b]=P.length+(b+1+lng Q[b]):=by omega
   refine⟨?_,?_⟩
   ·rw[objs,objs.eq_def Q];simp only[hb,h2,dite_true];rw[e,e2,i1];rfl
   ·rw[jaq,jaq.eq_def Q];simp only[hb,h2,dite_true];rw[e,e2,i2]
  ·have h2: ¬P.length+b<(P++Q).length:=by simp;omega
   refine⟨?_,?_⟩
   ·rw[objs,objs];simp only[hb,h2,dite_false];rfl
   ·rw[jaq,jaq];simp only[hb,h2,dite_false]
theorem objs_pre (P Q:List Int): ∀(m b:Nat),P.length - b≤m→jaq P b=P.length→objs (P++Q) b=objs P b++objs (P++Q) P.length∧jaq (P++Q) b=jaq (P++Q) P.length:=by
 intro m
 induction m with
 |zero=>
  intro b h he
  rw[jaq] at he
  simp only[show ¬b<P.length by omega,dite_false] at he
  subst he
  refine⟨?_,rfl⟩
  conv=>rhs;rw[objs.eq_def P]
  simp
 |succ m ih=>
  intro b h he
  by_cases hb:b<P.length
  ·have h2:b<(P++Q).length:=by simp;omega
   have e:(P++Q)[b]=P[b]:=List.getElem_append_left hb
   rw[jaq] at he
   simp only[hb,dite_true] at he
   obtain⟨i1,i2⟩:=ih (b+1+lng P[b]) (by omega) he
   refine⟨?_,?_⟩
   ·rw[objs.eq_def (P++Q) b,objs.eq_def P b]
    simp only[hb,h2,dite_true]
    rw[e,i1];rfl
   ·rw[jaq.eq_def (P++Q) b]
    simp only[h2,dite_true]
    rw[e,i2]
  ·rw[jaq] at he
   simp only[hb,dite_false] at he
   subst he
   refine⟨?_,rfl⟩
   conv=>rhs;rw[objs.eq_def P]
   simp
abbrev Whole (P:List Int):Prop:=jaq P 0=P.length
theorem jcp {P Q:List Int}(hp:Whole P):objs (P++Q) 0=objs P 0++(objs Q 0).map (P.length+ ·)∧jaq (P++Q) 0=P.length+jaq Q 0:=by
 obtain⟨a1,a2⟩:=objs_pre P Q _ 0 (Nat.le_refl _) hp
 obtain⟨b1,b2⟩:=jhS P Q _ 0 (Nat.le_refl _)
 rw[Nat.add_zero] at b1 b2
 exact⟨by rw[a1,b1],by rw[a2,b2]⟩
theorem Whole.app {P Q:List Int}(hp:Whole P)(hq:Whole Q):Whole (P++Q):=by
 unfold Whole
 rw[(jcp hp).2,hq,List.length_append]
theorem take_end (F:List Int): ∀(m b:Nat),F.length - b≤m→ ∀a∈objs F b,jaq (F.take a) b=a∧jaq F a=jaq F b:=by
 intro m
 induction m with
 |zero=>intro b h a ha;rw[objs] at ha;simp[show ¬b<F.length by omega] at ha
 |succ m ih=>
  intro b h a ha
  by_cases hb:b<F.length
  ·rw[objs] at ha
   simp only[hb,dite_true,List.mem_cons] at ha
   rcases ha with rfl|ha
   ·refine⟨?_,rfl⟩
    rw[jaq,dif_neg (by rw[List.length_take];omega)]
   ·obtain⟨h1,h2⟩:=ih (b+1+lng F[b]) (by omega) a ha
    have hge:=(jq8 F _ (b+1+lng F[b]) (Nat.le_refl _)).1 a ha
    have hlt:a<F.length:=by
     rcases Nat.lt_or_ge a F.length with q|q
     ·exact q
     ·exfalso
      have: ∀(m b:Nat),F.length - b≤m→ ∀a∈objs F b,a<F.length:=by
       intro m
       induction m with
       |zero=>intro b h a ha;rw[objs] at ha;simp[show ¬b<F.length by omega] at ha
       |succ m ih=>
        intro b h a ha
        by_cases hb:b<F.length
        ·rw[objs] at ha
         simp only[hb,dite_true,List.mem_cons] at ha
         rcases ha with rfl|ha
         ·exact hb
         ·exact ih _ (by omega) a ha
        ·rw[objs] at ha;simp[hb] at ha
      have:=this _ _ (Nat.le_refl _) a ha
      omega
    refine⟨?_,by rw[h2,jaq.eq_def F b];simp[hb]⟩
    rw[jaq]
    have hbt:b<(F.take a).length:=by rw[List.length_take];omega
    simp only[hbt,dite_true]
    rw[show (F.take a)[b]=F[b] from List.getElem_take]
    exact h1
  ·rw[objs] at ha;simp[hb] at ha
theorem cut3 {F:List Int}(he:Whole F){a:Nat}(ha:a∈objs F 0): ∃P O Q,F=P++(O++Q)∧P.length=a∧Whole P∧Whole Q∧O.length=osz F a∧O=ja7 F a∧Whole O∧objs O 0=[0]:=by
 obtain⟨h1,h2,h3⟩:=jbN F _ 0 (Nat.le_refl _) he a ha
 obtain⟨t1,t2⟩:=take_end F _ 0 (Nat.le_refl _) a ha
 have hP:(F.take a).length=a:=by rw[List.length_take];omega
 have hol:=jcZ h3
 refine⟨F.take a,ja7 F a,F.drop (a+osz F a),?_,hP,?_,?_,hol,rfl,?_,?_⟩
 ·have:ja7 F a=(F.drop a).take (osz F a):=rfl
  rw[this,← List.drop_drop,List.take_append_drop,List.take_append_drop]
 ·show jaq _ _=_;rw[hP];exact t1
 ·have e:F=F.take (a+osz F a)++F.drop (a+osz F a):=(List.take_append_drop _ _).symm
  have hl:(F.take (a+osz F a)).length=a+osz F a:=by rw[List.length_take];omega
  have hs:=(jhS (F.take (a+osz F a)) (F.drop (a+osz F a)) _ 0 (Nat.le_refl _)).2
  rw[←e,hl,Nat.add_zero] at hs
  have h5:jaq F (a+osz F a)=jaq F a:=by
   conv=>rhs;rw[jaq.eq_def]
   simp only[h2,dite_true]
   congr 1
   unfold osz
   rw[List.getElem?_eq_getElem h2]
   show a+(1+lng F[a])=_
   omega
  have he:jaq F 0=F.length:=he
  show jaq _ _=_
  rw[List.length_drop]
  omega
 ·have h0:0<(ja7 F a).length:=by rw[hol];unfold osz;omega
  have e0:(ja7 F a)[0]=F[a]:=by
   have q:(ja7 F a)[0]?=F[a]?:=by unfold ja7;rw[List.getElem?_take,if_pos (by omega),List.getElem?_drop,Nat.add_zero]
   rw[List.getElem?_eq_getElem h0,List.getElem?_eq_getElem h2] at q
   injection q
  show jaq _ _=_
  rw[jaq]
  simp only[h0,dite_true]
  rw[e0,jaq]
  have:osz F a=1+lng F[a]:=by unfold osz;rw[List.getElem?_eq_getElem h2];rfl
  rw[dif_neg (by rw[hol];omega),hol];omega
 ·have h0:0<(ja7 F a).length:=by rw[hol];unfold osz;omega
  have e0:(ja7 F a)[0]=F[a]:=by
   have q:(ja7 F a)[0]?=F[a]?:=by unfold ja7;rw[List.getElem?_take,if_pos (by omega),List.getElem?_drop,Nat.add_zero]
   rw[List.getElem?_eq_getElem h0,List.getElem?_eq_getElem h2] at q
   injection q
  rw[objs]
  simp only[h0,dite_true]
  rw[e0,objs]
  have:osz F a=1+lng F[a]:=by unfold osz;rw[List.getElem?_eq_getElem h2];rfl
  simp only[show ¬0+1+lng F[a]<(ja7 F a).length by rw[hol];omega,dite_false]
/-! ### All places are turned into others -/
def jfu (f:Int→Int)(w:Int):Int:=if jax w=true then boxW 5 (f (jau w)) else w
def jd7 (f:Int→Int)(F:List Int):List Int:=F.zipIdx.map fun x=>if x.2∈objs F 0 then x.1 else jfu f x.1
theorem ja3 {f:Int→Int}{F:List Int}:(jd7 f F).length=F.length:=by simp[jd7]
theorem jcw {f:Int→Int}{F:List Int}{j:Nat}:(jd7 f F)[j]?=F[j]?.map fun w=>if j∈objs F 0 then w else jfu f w:=by
 unfold jd7
 rw[List.getElem?_map,List.getElem?_zipIdx]
 cases F[j]?<;>simp
theorem jof {f:Int→Int}{F:List Int}:objs (jd7 f F) 0=objs F 0∧jaq (jd7 f F) 0=jaq F 0:=
 jhT ja3 _ 0 (Nat.le_refl _) fun j hj=>by
  rw[jcw]
  cases F[j]? with
  |none=>rfl
  |some w=>simp[hj]
def jcE (f:Int→Int)(AT:List Int):List Int:=AT.map fun a=>if 0≤a then f a else a
variable {A:AS}{F AT:List Int}
theorem jc5 {f:Int→Int}{n:Nat}:atP (jcE f AT) n=if 0≤atP AT n then f (atP AT n) else atP AT n:=by
 by_cases h:n<AT.length
 ·exact jsj h
 ·rw[jjk (AT:=AT) (by omega),jjk (by rw[jcE,List.length_map];omega)];rfl
theorem Rep.turn (h:Rep A F AT){F1:List Int}{f:Int→Int}(e1:Whole F1)(hl:F1.length≤2000)(hu:U64 F1)
  (img: ∀p∈objs F 0,0≤f (p:Int)∧(f (p:Int)).toNat∈objs F1 0∧ ∀d,d<Go.Proofs.YtjaahfncbechnaaGreatDoor.osz F p→F1[(f (p:Int)).toNat+d]?=F[p+d]?)
  (inj: ∀p∈objs F 0,∀ q∈objs F 0,f (p:Int)=f (q:Int)→p=q)
  (ok: ∀(j:Nat) w,F1[j]?=some w→j∉objs F1 0→jaz w (objs F 0)=true):Rep A (jd7 f F1) (jcE f AT):=by
 obtain⟨o1,o2⟩:=jof (f:=f) (F:=F1)
 have hobj: ∀n,0≤atP AT n→ ∃p:Nat,atP AT n=(p:Int)∧p∈objs F 0:=fun n hn=>⟨(atP AT n).toNat,by omega,h.obj' hn⟩
 have hf1: ∀a∈objs F1 0,a<F1.length:=fun a ha=>(jbN F1 _ 0 (Nat.le_refl _) e1 a ha).2.1
 refine⟨h.ok,by rw[jcE,List.length_map];exact h.la,by rw[o2,ja3];exact e1,?_,by rw[ja3];exact hl,?_,?_,?_,?_⟩
 ·refine jdb.2 fun j hj=>?_
  unfold okAt
  rw[o1]
  by_cases hjo:j∈objs F1 0
  ·rw[decide_eq_true hjo,Bool.true_or]
  ·rw[ja3] at hj
   have hg:=jcw (f:=f) (F:=F1) (j:=j)
   rw[List.getElem?_eq_getElem hj,List.getElem?_eq_getElem (by rw[ja3];exact hj),Option.map_some,if_neg hjo] at hg
   injection hg with hg
   rw[hg,decide_eq_false hjo,Bool.false_or]
   have hr:=ok j _ (List.getElem?_eq_getElem hj) hjo
   unfold jfu
   split
   ·rename_i hp
    obtain⟨q1,q2⟩:=jda hr hp
    obtain⟨i1,i2,i3⟩:=img _ q2
    rw[Int.toNat_of_nonneg q1] at i1 i2
    have:=hf1 _ i2
    obtain⟨b1,b2,b3,b4,b5,_⟩:=box5 (n:=f (jau F1[j])) i1 (by omega)
    simp only[jaz,b3,b4,b5,Bool.not_true,Bool.false_or,Bool.and_eq_true,decide_eq_true_eq]
    exact⟨by omega,List.mem_map.2 ⟨_,i2,by show ((f (jau F1[j])).toNat:Int)=_;omega⟩⟩
   ·rename_i hp
    have hp:jax F1[j]=false:=by simpa using hp
    simp only[jaz,hp,Bool.not_false,Bool.true_or,Bool.and_true] at hr ⊢
    exact hr
 ·intro w hw
  obtain⟨j,hj⟩:=List.getElem?_of_mem hw
  rw[jcw] at hj
  obtain⟨v,hv,e⟩:=Option.map_eq_some_iff.1 hj
  have huv:=hu v (List.mem_of_getElem? hv)
  rw[←e]
  split
  ·exact huv
  ·unfold jfu
   split
   ·exact jb4
   ·exact huv
 ·intro i j hi e
  rw[jc5] at hi e
  rw[jc5] at e
  by_cases ci:0≤atP AT i
  ·rw[if_pos ci] at e
   obtain⟨p,ep,hp⟩:=hobj i ci
   rw[ep] at e
   by_cases cj:0≤atP AT j
   ·rw[if_pos cj] at e
    obtain⟨q,eq,hq⟩:=hobj j cj
    rw[eq] at e
    exact h.inj i j ci (by rw[ep,eq,inj p hp q hq e])
   ·rw[if_neg cj] at e
    have:=(img p hp).1
    omega
  ·rw[if_neg ci] at hi;exact absurd hi ci
 ·intro i
  rw[jc5]
  by_cases ci:0≤atP AT i
  ·rw[if_pos ci]
   obtain⟨p,ep,hp⟩:=hobj i ci
   obtain⟨i1,i2,_⟩:=img p hp
   rw[ep,o1];exact .inr ⟨i1,i2⟩
  ·rw[if_neg ci]
   rcases h.obj i with e|e
   ·exact .inl e
   ·exact absurd e.1 ci
 ·intro n hn
  obtain⟨c1,c2,c3⟩:=h.cell n hn
  obtain⟨p,ep,hp⟩:=hobj n c1
  obtain⟨i1,i2,i3⟩:=img p hp
  have ho:=h.osz hn
  rw[jc5,if_pos c1]
  rw[ep,Int.toNat_natCast] at c2 c3 ho
  rw[ep]
  have hhd:=i3 0 (by rw[ho];omega)
  rw[Nat.add_zero,Nat.add_zero] at hhd
  have hoz:Go.Proofs.YtjaahfncbechnaaGreatDoor.osz F1 (f (p:Int)).toNat=Go.Proofs.YtjaahfncbechnaaGreatDoor.osz F p:=by unfold Go.Proofs.YtjaahfncbechnaaGreatDoor.osz;rw[hhd]
  refine⟨i1,?_,fun i w hi=>?_⟩
  ·rw[jcw,hhd,c2,Option.map_some,if_pos i2]
  ·have hil:=(List.getElem?_eq_some_iff.1 hi).1
   have hg:=i3 (1+i) (by rw[ho];omega)
   rw[←Nat.add_assoc,← Nat.add_assoc,c3 i w hi] at hg
   have hno:(f (p:Int)).toNat+1+i∉objs F1 0:=by
    rw[Nat.add_assoc]
    exact jco F1 _ 0 (Nat.le_refl _) _ i2 (1+i) (by omega) (by rw[hoz,ho];omega)
   rw[jcw,hg,Option.map_some,if_neg hno]
   congr 1
   have hwm:=List.mem_of_getElem? hi
   by_cases hpw:jax w=true
   ·obtain⟨m,em,hm,q1,q2,q3,q4⟩:=h.ref hn hwm hpw
    unfold jfu
    rw[if_pos q3,q4]
    unfold mapP
    rw[if_pos hpw,em]
    show _=boxW 5 (atP (jcE f AT) m)
    rw[jc5,if_pos q2]
   ·rw[jeg (by simpa using hpw),jeg (by simpa using hpw)]
    unfold jfu
    rw[if_neg hpw]
end
end Go.Proofs.YtjaahfncbechnaaGreatDoor
