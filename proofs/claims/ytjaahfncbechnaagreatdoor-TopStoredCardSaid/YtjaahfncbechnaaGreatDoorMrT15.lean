/-
  The store in ZM: all places are turned into others.
-/
import Derived.Test.YtjaahfncbechnaaGreatDoorMrT14
import Derived.Test.YtjaahfncbechnaaGreatDoorMrT4
set_option linter.unusedVariables false
set_option linter.unusedSimpArgs false
namespace Go.Proofs.YtjaahfncbechnaaGreatDoor
section
open Go Go.RowKit
variable {tb:List (FuncId×Bool)}{nd:Bool}{L:Nat→Bool}{H:ZH}{K:ZV→ZH→Prop}{p:Nat}{σ:Sg}{F AT:List Int}{HD:List Bool}{A:AS}
def trA (f:Int→Int)(AT:List Int)(k:Nat):List Int:=jcE f (AT.take k)++AT.drop k
theorem jlt {f:Int→Int}{k:Nat}:(trA f AT k).length=AT.length:=by unfold trA jcE;simp;omega
theorem trA_at {f:Int→Int}{k:Nat}(hk:k<AT.length):atP (trA f AT k) k=atP AT k:=by
 unfold trA jcE atP
 rw[List.getD_eq_getElem?_getD,List.getElem?_append_right (by simp;omega)]
 simp[Nat.min_eq_left (Nat.le_of_lt hk),List.getD_eq_getElem?_getD]
theorem trA_next {f:Int→Int}{k:Nat}(hk:k<AT.length):trA f AT (k+1)=(trA f AT k).set k (if 0≤atP AT k then f (atP AT k) else atP AT k):=by
 have e:atP AT k=AT[k]:=by simp[atP,List.getD_eq_getElem?_getD,hk]
 unfold trA jcE
 rw[List.take_succ_eq_append_getElem hk,List.map_append,List.append_assoc,List.set_append_right _ _ (by simp;omega),List.drop_eq_getElem_cons hk,e]
 simp only[List.length_map,List.length_take,Nat.min_eq_left (Nat.le_of_lt hk),Nat.sub_self,List.map_cons,List.map_nil,List.cons_append,List.nil_append,List.set_cons_zero]
theorem jqL {α:Type}{l:List α}{k:Nat}{x:α}(h:l[k]?=some x):l.set k x=l:=by
 apply List.ext_getElem?
 intro j
 rw[List.getElem?_set]
 split
 ·rename_i e;subst e;rw[if_pos (List.getElem?_eq_some_iff.1 h).1,h]
 ·rfl
def trF (f:Int→Int)(F:List Int)(k:Nat):List Int:=(jd7 f F).take k++F.drop k
theorem jcj {f:Int→Int}{k:Nat}:(trF f F k).length=F.length:=by unfold trF;simp[ja3];omega
theorem jge {f:Int→Int}{k j:Nat}:(trF f F k)[j]?=if j<k then (jd7 f F)[j]? else F[j]?:=by
 unfold trF
 by_cases h:j<k
 ·rw[if_pos h]
  by_cases hl:j<F.length
  ·rw[List.getElem?_append_left (by simp[ja3];omega),List.getElem?_take,if_pos h]
  ·rw[List.getElem?_eq_none (by simp[ja3];omega),List.getElem?_eq_none (by rw[ja3];omega)]
 ·rw[if_neg h]
  by_cases hl:j<F.length
  ·rw[List.getElem?_append_right (by simp[ja3];omega),List.getElem?_drop]
   congr 1;simp[ja3];omega
  ·rw[List.getElem?_eq_none (by simp[ja3];omega),List.getElem?_eq_none (by omega)]
theorem jne {f:Int→Int}{k:Nat}{w:Int}(hw:F[k]?=some w):trF f F (k+1)=(trF f F k).set k (if k∈objs F 0 then w else jfu f w):=by
 have hk:=(List.getElem?_eq_some_iff.1 hw).1
 apply List.ext_getElem?
 intro j
 rw[List.getElem?_set,jge,jge]
 by_cases e:k=j
 ·subst e
  rw[if_pos (by omega),if_pos rfl,if_pos (by rw[jcj];exact hk),jcw,hw];rfl
 ·rw[if_neg e]
  by_cases h:j<k
  ·rw[if_pos (by omega),if_pos h]
  ·rw[if_neg (by omega),if_neg h]
theorem trF_same {f:Int→Int}{k:Nat}{w:Int}(hw:F[k]?=some w)(h:(if k∈objs F 0 then w else jfu f w)=w):trF f F (k+1)=trF f F k:=by
 rw[jne hw,h]
 exact jqL (by rw[jge,if_neg (by omega)];exact hw)
theorem trF_zero {f:Int→Int}:trF f F 0=F:=by simp[trF]
theorem trF_full {f:Int→Int}:trF f F F.length=jd7 f F:=by
 unfold trF
 rw[List.drop_length,List.append_nil,← ja3 (f:=f) (F:=F),List.take_length]
theorem trA_zero {f:Int→Int}:trA f AT 0=AT:=by simp[trA,jcE]
theorem trA_full {f:Int→Int}:trA f AT AT.length=jcE f AT:=by simp[trA]
def TurnOk (tb:List (FuncId×Bool))(H:ZH)(p:Nat)(σ:Sg)(n:Nat)(HD:List Bool)(fid:FuncId)(caps:List ZV)(f:Int→Int):Prop:=
  ∀H' F' AT',StAt H' p σ F' AT' HD→FrS p σ σ H H'→F'.length=n→ ∀x:Int,0≤x→x≤2000→ ∀L' K',K' (Z64 (f x)) H'→ZC (XS tb false) (jal Tryz.prog) fid (Z64 x::caps) L' H' K'
set_option maxHeartbeats 8000000 in
theorem turn_z {fid:FuncId}{caps:List ZV}{f:Int→Int}(h:StAt H p σ F AT HD)(he:Whole F)(hl:F.length≤2000)(hu:U64 F)(hat: ∀n,atP AT n≤2000)(hal:AT.length≤100)
  (ok: ∀(j:Nat) w,F[j]?=some w→j∉objs F 0→jax w=true→0≤jau w∧jau w≤2000) (hL: ∀i,L i=true)
  (hf:TurnOk tb H p σ F.length HD fid caps f) (hK: ∀H',StAt H' p σ (jd7 f F) (jcE f AT) HD→FrS p σ σ H H'→K (.tuple []) H'):
  ZC (XS tb nd) (jal Tryz.prog) 100 [.ptr p 0,.func fid caps] L H K:=by
 refine ZC.enter Gh.no (jai (by decide)) jrA (by simp) ?_
 simp only[jk2,kkP]
 have hb:=h.box
 have hla:lenZ H (.own σ.a σ.ga 0 AT.length false)=some AT.length:=by rw[jaY];exact⟨_,_,h.ats,rfl⟩
 have HH:=Lib.hid h
 have HE:=Lib.hid he
 have HLL:=Lib.hid hl
 have HU:=Lib.hid hu
 have HAT:=Lib.hid hat
 have HAL:=Lib.hid hal
 have HOK:=Lib.hid ok
 have HF:=Lib.hid hf
 have HK:=Lib.hid hK
 have hAl:AT.length<9223372036854775807:=by omega
 clear h he hl hu hat hal ok hf hK
 with_reducible repeat' first|simp only[zP,jaf,jaa,jad,jac,seval,Nat.reduceLeDiff,hb,hla, *]|simp only[jab]|apply And.intro|intro _
 refine jbp [(0,.ptr p 0),(1,.func fid caps)] AT.length (fun k s' h'=>StAt h' p σ F (trA f AT k) HD∧FrS p σ σ H h') (by omega) ⟨rfl,rfl,rfl,rfl,rfl,rfl⟩ rfl rfl (by repeat' (first|exact trivial|(refine⟨rfl,?_⟩)|(refine⟨by simp only[jaQ,Nat.reduceEqDiff,reduceIte];assumption,?_⟩))) rfl rfl (by decide) ⟨by rw[trA_zero];exact HH.out,FrS.refl⟩ ?_ ?_
 ·rintro k s' h' hk ⟨hst,hfr⟩ hi hl ⟨f0,f1,-⟩
  have hln:=jlt (AT:=AT) (f:=f) (k:=k)
  have hkk:k<(trA f AT k).length:=by rw[hln];exact hk
  have hel:=a_el hst hkk
  have hld:=a_ld hst hkk
  rw[trA_at hk] at hld
  rw[hln] at hel
  have hbx:=hst.box
  rw[hln] at hbx
  have hstv:=fun x=>a_st (L:=L) (x:=x) hst hkk (hL _)
  have hnx:=trA_next (f:=f) hk
  have hlen:(trA f AT (k+1)).length=(trA f AT k).length:=by rw[jlt,jlt]
  obtain⟨s1,s2⟩:=hst.setA hlen
  have hpl:=jae hbx
  have hat:=HAT.out k
  obtain⟨a,ha⟩: ∃a,a=atP AT k:=⟨_,rfl⟩
  rw[←ha] at hld hnx hat
  have HS:=Lib.hid hst
  have HFr:=Lib.hid hfr
  by_cases ha0:0≤a
  ·rw[if_pos ha0] at hnx
   have fin:StAt (h'.set σ.a (.grow σ.ga 1 (((trA f AT k).set k (f a)).map eI))) p σ F (trA f AT (k+1)) HD∧FrS p σ σ H (h'.set σ.a (.grow σ.ga 1 (((trA f AT k).set k (f a)).map eI))):=by rw[←hnx];exact⟨s1,hfr.trans s2⟩
   have FN:=Lib.hid fin
   have HA:=Lib.hid hat
   clear hst hfr hln hkk hnx hlen s1 s2 ha fin hat
   with_reducible repeat' first|simp only[zP,jaf,jaa,jad,jac,seval,Nat.reduceLeDiff,hel,hld,hbx,hpl, *]|simp only[jab]|apply And.intro|intro _
   refine HF.out _ _ _ HS.out HFr.out rfl a ha0 HA.out _ _ ?_
   have hlz: ∀x,stZ (fun i=>L i) h' [Z64 x] (.eptr σ.a σ.ga k 0)=some (h'.set σ.a (.grow σ.ga 1 (((trA f AT k).set k x).map eI))):=hstv
   with_reducible repeat' first|simp only[zP,jaf,jaa,jad,jac,seval,Nat.reduceLeDiff,hel,hld,hbx,hstv, *]|simp only[jab]|apply And.intro|intro _
   all_goals first|exact FN.out.1|exact FN.out.2
  ·rw[if_neg ha0] at hnx
   have hsame:trA f AT (k+1)=trA f AT k:=by
    rw[hnx,ha]
    refine jqL ?_
    have:=trA_at (f:=f) hk
    unfold atP at this
    rw[List.getD_eq_getElem?_getD,List.getElem?_eq_getElem hkk] at this
    rw[List.getElem?_eq_getElem hkk]
    exact congrArg some this
   have fin:StAt h' p σ F (trA f AT (k+1)) HD∧FrS p σ σ H h':=by rw[hsame];exact⟨hst,hfr⟩
   have FN:=Lib.hid fin
   clear hst hfr hln hkk hnx hlen s1 s2 ha fin hsame hat
   with_reducible repeat' first|simp only[zP,jaf,jaa,jad,jac,seval,Nat.reduceLeDiff,hel,hld,hbx,ha0, *]|simp only[jab]|apply And.intro|intro _
   all_goals first|exact FN.out.1|exact FN.out.2
 ·rintro s' h' ⟨hst,hfr⟩ ⟨f0,f1,-⟩
  rw[trA_full] at hst
  have HS:=Lib.hid hst
  have HFr:=Lib.hid hfr
  clear hst hfr hb hla
  with_reducible repeat' first|simp only[zP,jaf,jaa,jad,jac,seval,Nat.reduceLeDiff, *]|simp only[jab]|apply And.intro|intro _
  have hobj: ∀b,(b∈objs F 0∨b=F.length)→b<F.length→b∈objs F 0:=fun b hb hlt=>hb.elim id fun e=>by omega
  have hnext: ∀b x,b∈objs F 0→F[b]?=some x→(b+1+lng x∈objs F 0∨b+1+lng x=F.length)∧b+1+lng x≤F.length:=fun b x hb hx=>by
   obtain⟨q1,q2,q3⟩:=jbN F _ 0 (Nat.le_refl _) HE.out b hb
   have hxe:=(List.getElem?_eq_some_iff.1 hx).2
   unfold osz at q3
   rw[hx,Option.getD_some] at q3
   refine⟨?_,by omega⟩
   have: ∀(m c:Nat),F.length - c≤m→jaq F c=F.length→b∈objs F c→(b+1+lng x∈objs F c∨b+1+lng x=F.length):=by
    intro m
    induction m with
    |zero=>intro c h he hm;rw[objs] at hm;simp[show ¬c<F.length by omega] at hm
    |succ m ih=>
     intro c h he hm
     by_cases hc:c<F.length
     ·rw[objs] at hm
      simp only[hc,dite_true,List.mem_cons] at hm
      have he2:=he
      rw[jaq] at he2
      simp only[hc,dite_true] at he2
      rcases hm with rfl|hm
      ·rw[hxe] at he2
       by_cases hc2:b+1+lng x<F.length
       ·left
        rw[objs]
        simp only[hc,dite_true,hxe]
        refine List.mem_cons_of_mem _ ?_
        rw[objs];simp[hc2]
       ·right;omega
      ·rcases ih (c+1+lng F[c]) (by omega) he2 hm with q|q
       ·left;rw[objs];simp only[hc,dite_true];exact List.mem_cons_of_mem _ q
       ·exact .inr q
     ·rw[objs] at hm;simp[hc] at hm
   exact this _ 0 (Nat.le_refl _) HE.out hb
  have h00:(0∈objs F 0∨0=F.length):=by
   by_cases h:0<F.length
   ·left;rw[objs];simp[h]
   ·right;omega
  have HOB:=Lib.hid hobj
  have HNX:=Lib.hid hnext
  clear hobj hnext
  refine jdr [(0,.ptr p 0),(1,.func fid caps)] (F.length - 0) (fun n s' h'=> ∃b:Nat,s' 5=Z64 (b:Int)∧(b∈objs F 0∨b=F.length)∧StAt h' p σ (trF f F b) (jcE f AT) HD∧FrS p σ σ H h'∧n=F.length - b) (by repeat' (first|exact trivial|(refine⟨rfl,?_⟩)|(refine⟨by simp only[jaQ,Nat.reduceEqDiff,reduceIte];assumption,?_⟩))) rfl ⟨0,rfl,h00,by rw[trF_zero];exact HS.out,HFr.out,rfl⟩ ?_
  rintro n s' h' ⟨b,f5,hbo,hst,hfr,rfl⟩ ⟨f0,f1,-⟩
  have hFl:=HLL.out
  have hbx:=hst.box
  have hlw:lenZ h' (.own σ.w σ.gw 0 F.length false)=some F.length:=by rw[jaY];exact⟨_,_,hst.ws,rfl⟩
  rw[jcj] at hbx
  by_cases hb:b<F.length
  ·have hbm:=HOB.out b hbo hb
   obtain⟨x,hx⟩: ∃x,F[b]?=some x:=⟨_,List.getElem?_eq_getElem hb⟩
   obtain⟨n1,n2⟩:=HNX.out b x hbm hx
   have hxt: ∀i,(trF f F i)[b]?=some x:=fun i=>by
    rw[jge,jcw,hx]
    split
    ·simp[hbm]
    ·rfl
   have k1:(b:Int)<(F.length:Int):=by omega
   have w1:IntKind.i64.wrap ((b:Int)+1)=((b+1:Nat):Int):=by rw[IntWalk.i64_in _ (by omega)];omega
   have w2:IntKind.i64.wrap ((b:Int)+(lng x:Int))=((b+lng x:Nat):Int):=by rw[IntWalk.i64_in _ (by omega)];omega
   have w3:IntKind.i64.wrap (1+(lng x:Int))=((1+lng x:Nat):Int):=by rw[IntWalk.i64_in _ (by omega)];omega
   have w4:IntKind.i64.wrap ((b:Int)+((1+lng x:Nat):Int))=((b+1+lng x:Nat):Int):=by rw[IntWalk.i64_in _ (by omega)];omega
   have hsame:trF f F (b+1)=trF f F b:=trF_same hx (if_pos hbm)
   have hst1:StAt h' p σ (trF f F (b+1)) (jcE f AT) HD:=by rw[hsame];exact hst
   have HST:=Lib.hid hst1
   have HFR:=Lib.hid hfr
   have HBM:=Lib.hid hbm
   have HX:=Lib.hid hx
   have HXT:=Lib.hid hxt
   have HN1:=Lib.hid n1
   have HN2:=Lib.hid n2
   clear hst hst1 hfr hbm hx hxt n1 n2 hsame hbo
   with_reducible repeat' first|simp only[zP,jaf,jaa,jad,jac,seval,Nat.reduceLeDiff,hbx,hlw,k1,w1, *]|simp only[jab]|apply And.intro|intro _
   refine jdr [(0,.ptr p 0),(1,.func fid caps),(5,Z64 (b:Int))] (F.length - (b+1)) (fun n s' h'=> ∃i:Nat,s' 6=Z64 (i:Int)∧b+1≤i∧i≤b+1+lng x∧StAt h' p σ (trF f F i) (jcE f AT) HD∧FrS p σ σ H h'∧n=F.length - i) (by repeat' (first|exact trivial|(refine⟨rfl,?_⟩)|(refine⟨by simp only[jaQ,Nat.reduceEqDiff,reduceIte];assumption,?_⟩))) rfl ⟨b+1,rfl,Nat.le_refl _,by omega,HST.out,HFR.out,rfl⟩ ?_
   rintro n s' h2 ⟨i,f6,hi1,hi2,hst,hfr,rfl⟩ ⟨f0,f1,f5,-⟩
   have hbx2:=hst.box
   rw[jcj] at hbx2
   have HST2:=Lib.hid hst
   have HFR2:=Lib.hid hfr
   by_cases hi:i<b+1+lng x
   ·have hiF:i<F.length:=by have:=HN2.out;omega
    obtain⟨w,hw⟩: ∃w,F[i]?=some w:=⟨_,List.getElem?_eq_getElem hiF⟩
    have hno:i∉objs F 0:=by
     have hz:osz F b=1+lng x:=by unfold osz;rw[HX.out];rfl
     have:=jco F _ 0 (Nat.le_refl _) b HBM.out (i - b) (by omega) (by omega)
     rwa [show b+(i - b)=i by omega] at this
    have hwu:=HU.out w (List.mem_of_getElem? hw)
    have hwi:(trF f F i)[i]?=some w:=by rw[jge,if_neg (by omega)];exact hw
    have hel:=w_el hst (n:=i) (by rw[jcj];exact hiF)
    rw[jcj] at hel
    have hld:=w_ld hst hwi
    have hstv:=fun x=>w_st (L:=L) (x:=x) hst (n:=i) (by rw[jcj];exact hiF) (hL _)
    have hnx:=jne (f:=f) hw
    rw[if_neg hno] at hnx
    have hlen:(trF f F (i+1)).length=(trF f F i).length:=by rw[jcj,jcj]
    obtain⟨s1,s2⟩:=hst.setW hlen
    have hpl:=jae hbx2
    have hwl:=jae hst.ws
    have k2:(i:Int)≤((b+lng x:Nat):Int):=by omega
    have w5:IntKind.i64.wrap ((i:Int)+1)=((i+1:Nat):Int):=by rw[IntWalk.i64_in _ (by omega)];omega
    have hm:F.length - (i+1)<F.length - i:=by omega
    have e1: ∀Y,(h2++Y)[p]?=some (.box [.own σ.w σ.gw 0 F.length false,.own σ.a σ.ga 0 (jcE f AT).length false,.own σ.h σ.gh 0 HD.length false]):=fun Y=>by rw[List.getElem?_append_left hpl];exact hbx2
    have e2: ∀Y,jbV (h2++Y) 1 i (.own σ.w σ.gw 0 F.length false)=some (.eptr σ.w σ.gw i 0):=fun Y=>by
     have:=w_el (hst.ext Y) (n:=i) (by rw[jcj];exact hiF)
     rwa [jcj] at this
    have e3: ∀Y x,stZ L (h2++Y) [.val (.int .u64 x)] (.eptr σ.w σ.gw i 0)=some ((h2++Y).set σ.w (.grow σ.gw 1 (((trF f F i).set i x).map eU))):=fun Y x=>w_st (hst.ext Y) (by rw[jcj];exact hiF) (hL _)
    have g0: ∀A,(h2++[A])[h2.length]?=some A:=fun A=>jay A []
    have s0: ∀A C,(h2++[A]).set h2.length C=h2++[C]:=fun A C=>jbR A C []
    have hpl2: ∀n,p<h2.length+n:=fun n=>by omega
    by_cases hp:jax w=true
    ·obtain⟨u0,u1⟩:=HOK.out i w hw hno hp
     have hpe:unE w=0∧jaw w=5:=by simpa[jax] using hp
     obtain⟨p1,p2⟩:=hpe
     have htw:jfu f w=boxW 5 (f (jau w)):=by unfold jfu;rw[if_pos hp]
     rw[htw] at hnx
     have FN: ∀Y,StAt ((h2++Y).set σ.w (.grow σ.gw 1 (((trF f F i).set i (boxW 5 (f (jau w)))).map eU))) p σ (trF f F (i+1)) (jcE f AT) HD∧FrS p σ σ H ((h2++Y).set σ.w (.grow σ.gw 1 (((trF f F i).set i (boxW 5 (f (jau w)))).map eU))):=fun Y=>by
      rw[←hnx]
      obtain⟨s1,s2⟩:=(hst.ext Y).setW hlen
      exact⟨s1,(hfr.trans FrS.ext).trans s2⟩
     have HFN:=Lib.hid FN
     have HM:=Lib.hid hm
     have HU0:=Lib.hid u0
     have HU1:=Lib.hid u1
     have HWU:=Lib.hid hwu
     obtain⟨u,hu⟩: ∃u,u=jau w:=⟨_,rfl⟩
     rw[←hu] at HU0 HU1 HFN
     clear hst hfr hno hwi hnx hlen s1 s2 htw FN hw hp u0 u1 hwu hm
     with_reducible repeat' first|simp only[zP,jaf,jaa,jad,jac,seval,Nat.reduceLeDiff,hbx2, *]|simp only[jab]|apply And.intro|intro _
     refine jbG HST2.out (HXT.out _) ?_
     with_reducible repeat' first|simp only[zP,jaf,jaa,jad,jac,seval,Nat.reduceLeDiff,hbx2,hel,hld,w2,k2, *]|simp only[jab]|apply And.intro|intro _
     refine jfG HWU.out ?_
     rw[←hu]
     clear hu
     with_reducible repeat' first|simp only[zP,jaf,jaa,jad,jac,seval,Nat.reduceLeDiff,g0,s0,p1,p2,e1,e2,hpl,hpl2, *]|simp only[jab]|apply And.intro|intro _
     refine HF.out _ _ _ (HST2.out.ext _) (HFR2.out.trans FrS.ext) (jcj) u HU0.out HU1.out _ _ ?_
     with_reducible repeat' first|simp only[zP,jaf,jaa,jad,jac,seval,Nat.reduceLeDiff,g0,s0,p1,p2,e1,e2,hpl,hpl2, *]|simp only[jab]|apply And.intro|intro _
     refine jj6 ?_
     with_reducible repeat' first|simp only[zP,jaf,jaa,jad,jac,seval,Nat.reduceLeDiff,g0,s0,p1,p2,e1,e2,e3,hpl,hpl2,w5, *]|simp only[jab]|apply And.intro|intro _
     all_goals exact⟨_,HM.out,i+1,rfl,by omega,by omega,(HFN.out _).1,(HFN.out _).2,rfl⟩
    ·have hpf:jax w=false:=by simpa using hp
     have htw:jfu f w=w:=by unfold jfu;rw[if_neg hp]
     rw[htw,jqL hwi] at hnx
     have FN: ∀Y,StAt (h2++Y) p σ (trF f F (i+1)) (jcE f AT) HD∧FrS p σ σ H (h2++Y):=fun Y=>by
      rw[hnx]
      exact⟨hst.ext Y,hfr.trans FrS.ext⟩
     have HFN:=Lib.hid FN
     have HM:=Lib.hid hm
     have HWU:=Lib.hid hwu
     have HPF:=Lib.hid hpf
     clear hst hfr hno hwi hnx hlen s1 s2 htw FN hw hp hwu hm hpf
     with_reducible repeat' first|simp only[zP,jaf,jaa,jad,jac,seval,Nat.reduceLeDiff,hbx2, *]|simp only[jab]|apply And.intro|intro _
     refine jbG HST2.out (HXT.out _) ?_
     with_reducible repeat' first|simp only[zP,jaf,jaa,jad,jac,seval,Nat.reduceLeDiff,hbx2,hel,hld,w2,k2, *]|simp only[jab]|apply And.intro|intro _
     refine jfG HWU.out ?_
     by_cases p1:unE w=0
     ·have p2: ¬jaw w=5:=fun q=>by have:=HPF.out;simp[jax,p1,q] at this
      with_reducible repeat' first|simp only[zP,jaf,jaa,jad,jac,seval,Nat.reduceLeDiff,g0,s0,p1,p2,e1,e2,hpl,hpl2,w5, *]|simp only[jab]|apply And.intro|intro _
      all_goals exact⟨_,HM.out,i+1,rfl,by omega,by omega,(HFN.out _).1,(HFN.out _).2,rfl⟩
     ·with_reducible repeat' first|simp only[zP,jaf,jaa,jad,jac,seval,Nat.reduceLeDiff,g0,s0,p1,e1,e2,hpl,hpl2,w5, *]|simp only[jab]|apply And.intro|intro _
      all_goals exact⟨_,HM.out,i+1,rfl,by omega,by omega,(HFN.out _).1,(HFN.out _).2,rfl⟩
   ·have hie:i=b+1+lng x:=by omega
    have k2: ¬((i:Int)≤((b+lng x:Nat):Int)):=by omega
    have HIE:=Lib.hid hie
    clear hst hfr hi hie
    with_reducible repeat' first|simp only[zP,jaf,jaa,jad,jac,seval,Nat.reduceLeDiff,hbx2, *]|simp only[jab]|apply And.intro|intro _
    refine jbG HST2.out (HXT.out _) ?_
    with_reducible repeat' first|simp only[zP,jaf,jaa,jad,jac,seval,Nat.reduceLeDiff,hbx2,w2,k2, *]|simp only[jab]|apply And.intro|intro _
    refine jbG HST2.out (HXT.out _) ?_
    with_reducible repeat' first|simp only[zP,jaf,jaa,jad,jac,seval,Nat.reduceLeDiff,hbx2,w3,w4, *]|simp only[jab]|apply And.intro|intro _
    all_goals exact⟨F.length - (b+1+lng x),by omega,b+1+lng x,rfl,HN1.out,by rw[←HIE.out];exact HST2.out,HFR2.out,rfl⟩
  ·have hbe:b=F.length:=hbo.elim (fun hm=>absurd (jbN F _ 0 (Nat.le_refl _) HE.out b hm).2.1 hb) id
   have k1: ¬((b:Int)<(F.length:Int)):=by omega
   rw[hbe,trF_full] at hst
   have fin:=Fin.keep (H0:=H) (HK.out _ hst hfr)
   clear hst hfr hbe hbo hb
   with_reducible repeat' first|simp only[zP,jaf,jaa,jad,jac,seval,Nat.reduceLeDiff,hbx,hlw,k1, *]|simp only[jab]|apply And.intro|intro _
   exact⟨_,rfl,fin⟩
end
section
open Go Go.RowKit
variable {tb:List (FuncId×Bool)}{nd:Bool}{L:Nat→Bool}{H:ZH}{K:ZV→ZH→Prop}{p:Nat}{σ:Sg}{F AT:List Int}{HD:List Bool}{A:AS}
theorem A1_clear {X:XT}{F:FuncId→Option jaM}{top:Option (Nat×Option (List Nat))}{fl:Nat→Bool}{s:jah}{h:Heap}{K:AV→Heap→Prop}{kk:Nat}{z:List AV}{x:Opd}:A1 X F top fl (.clear kk z x) s h K↔ ∃v h',(match x.ev s with
  | .val (.slice none 0 0)=>some (AV.no,h)
  | .hole=>some (.no,h)
  | .slice id off len _ _ _=>match wr fl h id off (List.replicate len z).flatten with
   |some h'=>some (.no,h')
   |none=>none
  |_=>none)=some (v,h')∧K v h':=Iff.rfl
theorem jqV (m:Nat):(List.replicate m [AV.val (.int .u64 0)]).flatten=List.replicate m (AV.val (.int .u64 0)):=by
 induction m with
 |zero=>rfl
 |succ k ih=>rw[List.replicate_succ,List.replicate_succ,List.flatten_cons,ih];rfl
theorem jrW {row:List AV}{bb n i m:Nat}(hi:i+m≤n)(h0:0<m)(hle:bb+n*1≤row.length)(z:List AV)(hz:z.length=m){row1:List AV}
  (h1:row1=row.take (bb+i*1)++((row.drop (bb+(i+m)*1)).take ((n - (i+m))*1))++row.drop (bb+(n - m)*1)):
  row1.length=row.length∧(((row1.take (bb+(n - m)*1)++z++row1.drop (bb+(n - m)*1+m)).drop bb).take ((n - m)*1))=(((row.drop bb).take (n*1)).take (i*1)++((row.drop bb).take (n*1)).drop ((i+m)*1)):=by
 have hl:row1.length=row.length:=by rw[h1];simp;omega
 refine⟨hl,List.ext_getElem? fun j=>?_⟩
 rw[List.getElem?_take]
 by_cases hj:j<(n - m)*1
 ·rw[if_pos hj,List.getElem?_drop,List.append_assoc,List.getElem?_append_left (by simp[hl];omega),List.getElem?_take,if_pos (by omega),h1]
  by_cases hji:j<i*1
  ·rw[List.append_assoc,List.getElem?_append_left (by simp;omega),List.getElem?_append_left (by simp;omega),List.getElem?_take,if_pos (by omega),List.getElem?_take,if_pos hji,List.getElem?_take,if_pos (by omega),List.getElem?_drop]
  ·have l1:(row.take (bb+i*1)).length=bb+i*1:=by simp;omega
   have l2:(((row.drop bb).take (n*1)).take (i*1)).length=i*1:=by simp;omega
   rw[List.append_assoc,List.getElem?_append_right (by omega),l1,List.getElem?_append_left (by simp;omega),List.getElem?_append_right (by omega),l2,List.getElem?_take,if_pos (by omega),List.getElem?_drop,List.getElem?_drop,List.getElem?_take,if_pos (by omega),List.getElem?_drop]
   congr 1;omega
 ·rw[if_neg hj]
  symm
  rw[List.getElem?_eq_none_iff]
  simp;omega
theorem setSame {h:Heap}{id:Nat}{row:List AV}(hb:blk h id=some row):h.set id (some row)=h:=by
 apply List.ext_getElem?
 intro j
 rw[List.getElem?_set]
 split
 ·rename_i e;subst e
  have hlt:=ja1 hb
  rw[if_pos hlt]
  unfold blk at hb
  split at hb
  ·rename_i l hl;injection hb with hb;subst hb;exact hl.symm
  ·cases hb
 ·rfl
set_option maxHeartbeats 2000000 in
theorem sdel_z {b g n i:Nat}{ex:Bool}{rows:List (List ZV)}(hb:H[b]?=some (.grow g 1 rows))(hn:n≤rows.length){m:Nat}(hi:i+m≤n)(hm0:0<m)(hL:L b=true)(hnr:n≤2000)(hK:K (.own b (g+1) 0 (n - m) false) (H.set b (.grow (g+1) 1 (rows.take i++(rows.take n).drop (i+m))))):
  ZC (XS tb false) (jal Tryz.prog) 99 [.own b g 0 n ex,Z64 i,Z64 ((i+m:Nat):Int)] L H K:=by
 obtain⟨Z,hZ⟩: ∃Z:List AV,Z=List.replicate m (AV.val (.int .u64 0)):=⟨_,rfl⟩
 have hZl:Z.length=m:=by rw[hZ];simp
 intro fl w args r eH ha
 subst eH
 obtain⟨hlen,hget⟩:=ha
 match args,hlen with
 |[a0,a1,a2],_=>
  have z0:=hget 0 _ _ rfl rfl
  have z1:=(hget 1 _ _ rfl rfl).val_inv
  have z2:=(hget 2 _ _ rfl rfl).val_inv
  subst z1;subst z2
  cases z0 with
  |fr hf=>cases hf
  |own p1 p2 p3 p4=>
   rcases (p2 _ _ _ hb).2 rfl with⟨_,h,_⟩|⟨id,bb,lb,ex',row,m1,e0,m2,m3,m4,m5,m6⟩
   ·rw[h] at hn;simp at hn;omega
   ·obtain⟨g0,gB⟩:=r.grow _ _ _ _ hb
    rcases gB with⟨n1,_⟩|⟨id',b',row',n1,n2,n3,n4⟩
    ·rw[m1] at n1;cases n1
    ·rw[m1] at n1;injection n1 with n1;injection n1 with t1 t2;subst t1;subst t2
     rw[m4] at n2;injection n2 with n2;subst n2
     rw[Nat.zero_mul,Nat.add_zero] at e0 m5
     subst e0
     have hfl:=r.wr _ _ m1 hL
     have hid:=(r.nfr _ _ m1).2
     simp only at hid
     have hnrow:bb+n*1≤row.length:=by omega
     obtain⟨row1,hrow1⟩: ∃x,x=row.take (bb+i*1)++((row.drop (bb+(i+m)*1)).take ((n - (i+m))*1))++row.drop (bb+(n - m)*1):=⟨_,rfl⟩
     obtain⟨q1,q2⟩:=jrW hi hm0 hnrow Z hZl hrow1
     obtain⟨cells,hcells⟩: ∃x,x=(row.drop (bb+(i+m)*1)).take ((n - (i+m))*1):=⟨_,rfl⟩
     have hcl:cells.length=(n - (i+m))*1:=by rw[hcells];simp;omega
     obtain⟨row2,hrow2⟩: ∃x,x=row1.take (bb+(n - m)*1)++Z++row1.drop (bb+(n - m)*1+m):=⟨_,rfl⟩
     have l2:row2.length=row.length:=by rw[hrow2];simp;omega
     have hw1:w.h.set id (some row1)=w.h.set id (some (row.take (bb+i*1)++cells++row.drop (bb+i*1+cells.length))):=by
      rw[hrow1,← hcells,hcl,show bb+i*1+(n - (i+m))*1=bb+(n - m)*1 by omega]
     obtain⟨h1,eh1⟩: ∃x,x=w.h.set id (some row1):=⟨_,rfl⟩
     have hb1:blk h1 id=some row1:=by rw[eh1];exact ja0 hid
     have fA: ∃ex2 lb2,jbb fl w.h 1 8 (.slice id bb i lb ex' 1) (n - (i+m)) cells=some (.slice id bb (n - m) lb2 ex2 1,h1)∧lb2=lb:=by
      refine⟨ex',lb,?_,rfl⟩
      unfold jbb
      by_cases h0:n - (i+m)=0
      ·have hc0:cells=[]:=List.eq_nil_of_length_eq_zero (by omega)
       rw[if_pos h0]
       simp only
       have:h1=w.h:=by
        rw[eh1,hw1,hc0];simp only[List.append_nil,List.length_nil,Nat.add_zero,List.take_append_drop];exact setSame m4
       rw[this,show n - m=i by omega]
      ·rw[if_neg h0]
       simp only
       rw[if_pos ⟨trivial,by unfold ja5;omega⟩,if_pos (by omega),jlp m4 hfl (by omega)]
       simp only
       rw[eh1,hw1,show i+(n - (i+m))=n - m by omega]
     obtain⟨ex2,lb2,fA,e2⟩:=fA
     subst e2
     obtain⟨w',e1,e2,e3,e4,e5⟩:=jds r (jae hb) hL (.grow (g+1) 1 (rows.take i++(rows.take n).drop (i+m))) (id,bb) (h1.set id (some row2)) row2
      (fun j hj hne=>by rw[jbl (hne _ m1),eh1,jbl (hne _ m1)]) (by rw[eh1];simp) ⟨by rw[eh1];simpa using hid,.inl ⟨_,m1,rfl⟩⟩ (ja0 (by rw[eh1];simpa using hid))
      (.inr ⟨g, 1, rows, g + 1, _, hb, rfl, fun x hx => (List.mem_append.1 hx).elim (fun h => g0 x (List.mem_of_mem_take h)) (fun h => g0 x (List.mem_of_mem_take (List.mem_of_mem_drop h))), by simp; omega, fun w' e' => by
       rw[show (rows.take i++(rows.take n).drop (i+m)).length=n - m by simp;omega]
       show ZRs w' _ ((row2.drop bb).take ((n - m)*1))
       have n4':=(n4.ext e').take (n*1)
       rw[List.take_take,Nat.min_eq_left (Nat.mul_le_mul_right _ hn),ja8 g0] at n4'
       have gt: ∀r∈rows.take n,r.length=1:=fun r hr=>g0 r (List.mem_of_mem_take hr)
       rw[hrow2,q2,List.flatten_append,show rows.take i=(rows.take n).take i by rw[List.take_take,Nat.min_eq_left (by omega)],← ja8 gt,← jbd gt]
       exact (n4'.take _).append (n4'.drop _),.inl (Nat.lt_succ_self _)⟩)
     have hres:ZR w' (.own b (g+1) 0 (n - m) false) (.slice id bb (n - m) lb2 ex2 1):=by
      have:=jgq (w:=w') e4 (i:=b) (g:=g+1) (k:=1) (rows:=rows.take i++(rows.take n).drop (i+m)) (by rw[e2,List.getElem?_set];simp[jae hb]) (id:=id) (b:=bb) (off:=0) (len:=n - m) (lb:=lb2) (ex:=false) (ex':=ex2) (row:=row2) e3 (by rw[e1];exact ja0 (by rw[eh1];simpa using hid)) (by simp;omega) (by omega) (by omega) (fun h=>by cases h)
      simpa using this
     have fin:PK fl L w K (.slice id bb (n - m) lb2 ex2 1) (h1.set id (some row2)):=⟨_,w',e1,e4,e5,hres,by rw[e2];exact hK⟩
     have s1:jbx 1 (.slice id bb n lb2 ex' 1) (some (I64 i)) (some (I64 ((i+m:Nat):Int))) (some (I64 n))=some (.slice id (bb+i*1) (i+m - i) (n - i) true 1):=by
      have c1:jbe (I64 i)=some i:=jce
      have c2:jbe (I64 ((i+m:Nat):Int))=some (i+m):=jce (n:=i+m)
      have c3:jbe (I64 n)=some n:=jce
      simp only[jbx,c1,c2,c3]
      rw[if_pos ⟨trivial,by omega,by omega,by omega⟩];simp
     have s2:jbx 1 (.slice id bb n lb2 ex' 1) none (some (I64 i)) none=some (.slice id bb i lb2 ex' 1):=by
      have c1:jbe (I64 i)=some i:=jce
      simp only[jbx,c1]
      rw[if_pos ⟨trivial,by omega,by omega,by omega⟩];simp
     have s3:jbx 1 (.slice id bb n lb2 ex' 1) (some (I64 ((i+m:Nat):Int))) none none=some (.slice id (bb+(i+m)*1) (n - (i+m)) (lb2 - (i+m)) ex' 1):=by
      have c2:jbe (I64 ((i+m:Nat):Int))=some (i+m):=jce (n:=i+m)
      simp only[jbx,c2]
      rw[if_pos ⟨trivial,by omega,by omega,by omega⟩];simp
     have s4:jbx 1 (.slice id bb (n - m) lb2 ex2 1) (some (I64 (n - m:Nat))) (some (I64 n)) none=some (.slice id (bb+(n - m)*1) m (lb2 - (n - m)) ex2 1):=by
      have c1:jbe (I64 (n - m:Nat))=some (n - m):=jce
      have c3:jbe (I64 n)=some n:=jce
      simp only[jbx,c1,c3]
      rw[if_pos ⟨trivial,by omega,by omega,by omega⟩,show n - (n - m)=m by omega];simp
     have sr:jdm w.h 1 (.slice id (bb+(i+m)*1) (n - (i+m)) (lb2 - (i+m)) ex' 1)=some (n - (i+m),cells):=by
      simp only[jdm,rd,m4]
      rw[if_pos (by omega),← hcells]
     have sw:wr fl h1 id (bb+(n - m)*1) Z=some (h1.set id (some row2)):=by
      rw[jlp hb1 hfl (by rw[q1];simp;omega),hrow2,hZl]
     have hne: ¬((i:Int)=((i+m:Nat):Int)):=by omega
     have fl1:lenA (.slice id bb n lb2 ex' 1)=some n:=rfl
     have fl2:lenA (.slice id bb (n - m) lb2 ex2 1)=some (n - m):=rfl
     have srep:(List.replicate m [AV.val (.int .u64 0)]).flatten=Z:=by rw[hZ];exact jqV m
     obtain⟨h2,eh2⟩: ∃x,x=h1.set id (some row2):=⟨_,rfl⟩
     rw[←eh2] at fin sw
     obtain⟨k,em⟩: ∃k,k=n - m:=⟨_,rfl⟩
     rw[←em] at fin s4 sw fl2 fA
     clear hK p2 p3 p4 g0 n3 n4 hget hb q1 q2 hcl l2 hw1 e1 e2 e3 e4 e5 hres eh2 hrow1 hrow2 hcells eh1 hb1 m2 m3 m4 m5 m6 hnrow hnr hL hn em p1 m1 hZ hZl
     simp only[Nat.mul_one] at s1 s2 s3 s4 sr fA sw fin
     refine AC.enter rfl f_sl_del (by simp) ?_
     simp only[jnS,kkP]
     repeat' (first|(simp only[AW_next,AW_ops,jmn,jsw,jn0,jsv,AW_ret,jss,AW_scope,jn1,AO_next,AO_nextW,joa,jeN,jgg,jqv,then_ret,jkx,jdU,jrm,A1_mv,jsy,A1_box,jmp,jn7,jsz,jmq,jj5,jn2,jfr,jrd,joA,A1_bin,jjm,jll,jn6,A1_un,jsB,jn5,jft,jfs,jg3,jn4,jn3,jiE,jiF,jsA,jmr,jma,jkT,jlm,A1_len,jlk,jfJ,put_none,jbw,ev_tmp,ev_av,jmg,jmh,jmi,jmj,jmk,jme,jml,jmd,jmf,jqs,jce,Bool.not_eq_false',Prod.mk.injEq,and_assoc,decide_false,decide_true,Bool.not_false,Bool.not_true,Bool.true_eq_false,Bool.false_eq_true,exists_false,Bool.not_eq_false,Bool.not_not,AV.val.injEq,AV.ptr.injEq,AV.slice.injEq,AV.func.injEq,AV.tuple.injEq,AV.agg.injEq,Value.bool.injEq,Value.int.injEq,Option.some.injEq,exists_eq_left',exists_eq_left,exists_and_left,exists_and_right,and_true,true_and,decide_eq_true_eq,decide_eq_false_iff_not,if_true,if_false,Bool.not_eq_true',beq_true,beq_false,ne_eq,not_true_eq_false,not_false_eq_true,reduceCtorEq,List.getD_cons_zero,List.getD_cons_succ,List.map_cons,List.map_nil,List.append_nil,Nat.reduceEqDiff,reduceIte,ite_true,ite_false,or_true,true_or,or_false,false_or,resA,jbK,true_imp_iff,false_imp_iff,implies_true,imp_false,and_self,imp_self,and_false,false_and,forall_const,cell_val,cell_ptr,jpe,jsa,jr9,jr8,jr6,jr7,jl8,jpc,jpb,jpd,List.length_cons,List.length_nil,List.all_cons,List.all_nil,Bool.and_self,ldA,List.mapM_cons,List.mapM_nil,Option.bind_eq_bind,Option.bind_some,Option.pure_def,Option.map_none,Option.map_some,List.set_cons_zero,List.set_cons_succ,Nat.lt_add_one,List.append_assoc,List.cons_append,List.nil_append,List.append_nil,List.length_append,rd1_n0,rd1_nK,rd1_c0,rd1_cS,rd_n0,rd_nK,rd_c0,rd_cS,jeF,List.take_zero,List.take_succ_cons,List.take_nil,List.drop_zero,List.drop_succ_cons,List.drop_nil,List.getElem?_cons_zero,List.getElem?_cons_succ,Nat.reduceAdd,Nat.reduceLeDiff,Nat.add_eq_zero_iff,and_self,Nat.zero_add,Nat.add_zero,Nat.mul_one,s1,s2,s3,s4,sr,fA,fl1,fl2,A1_clear,jmn,jrV,srep,sw, *])|(simp only[goO,jn1,jgg,goC])|(with_reducible apply And.intro)|(with_reducible intro _))
theorem sclone_z {w g a k:Nat}{F:List Int}(hw:H[w]?=some (.grow g 1 (F.map eU)))(hk:0<k)(hle:a+k≤F.length)(hF:F.length≤2000){ex:Bool}(hK:K (.fz 1 false (((F.drop a).take k).map eU)) H):ZC (XS tb false) (jal Tryz.prog) 98 [.own w g a k ex] L H K:=by
 refine ZC.enterL Gh.no (jai (by decide)) joZ (by simp) fun hL=>?_
 simp only[jit,kkP]
 obtain⟨O,hO⟩: ∃O,O=(F.drop a).take k:=⟨_,rfl⟩
 have hOl:O.length=k:=by rw[hO];simp;omega
 have hne:O≠[]:=by intro e;rw[e] at hOl;simp at hOl;omega
 have hrw:jbi H 1 (.own w g a k ex)=some (O.map eU):=by
  rw[jc7];exact⟨_,hw,by simp;omega,by rw[hO,List.map_take,List.map_drop]⟩
 have hnil:nilZ H 0 (.own w g a k ex)=some false:=by
  obtain⟨k',rfl⟩: ∃k',k=k'+1:=⟨k - 1,by omega⟩
  simp only[nilZ,hw]
  rw[if_pos ⟨trivial,by simp;omega⟩]
 have hap:appZ L H 1 8 (O.map eU) (.fz 1 true [])=some (.own H.length 0 0 O.length false,H++[.grow 0 1 (O.map eU)]):=by
  have hre:O.length*8≤ja5:=by unfold ja5;omega
  simp[appZ,hne,hre]
 rw[←hO] at hK
 have fin:Fin H (.own H.length 0 0 O.length false) (H++[.grow 0 1 (O.map eU)]) K:=by
  refine Fin.frz (k:=1) (rows:=O.map eU) (jay _ _) (by simp) pure_U ?_
  rw[jbR,List.drop_zero,List.take_of_length_le (by simp)]
  exact Fin.trunc (Mods.ext H _) rfl (by rw[List.take_left];exact hK)
 clear hK hL hO hOl hw hle
 with_reducible repeat' first|simp only[zP,jaf,jaa,jad,jac,seval,Nat.reduceLeDiff,hnil,hap,hrw, *]|simp only[jab]|apply And.intro|intro _
theorem smove1_z {i j a b:Nat}{x:Int}(hi:H[i]?=some (.box [Z64 (a:Int)]))(hj:H[j]?=some (.box [Z64 (b:Int)]))(hK:K (Z64 (jgO a b x)) H):ZC (XS tb false) (jal Tryz.prog) 102 [Z64 x,.ptr i 0,.ptr j 0] L H K:=by
 refine ZC.enter Gh.no (jai (by decide)) joU (by simp) ?_
 simp only[jio,kkP]
 have fin:=Fin.keep (H0:=H) hK
 clear hK
 by_cases h:x=(a:Int)
 ·unfold jgO at fin
  rw[if_pos h] at fin
  subst h
  have e:decide ((a:Int)=(a:Int))=true:=by simp
  with_reducible repeat' first|simp only[zP,jaf,jaa,jad,jac,seval,Nat.reduceLeDiff,hi,hj,e, *]|simp only[jab]|apply And.intro|intro _
 ·unfold jgO at fin
  rw[if_neg h] at fin
  with_reducible repeat' first|simp only[zP,jaf,jaa,jad,jac,seval,Nat.reduceLeDiff,hi,hj,h, *]|simp only[jab]|apply And.intro|intro _
theorem slast1_z {i q j a n:Nat}{x:Int}(h:StAt H p σ F AT HD)(hl:F.length≤2000)(hx:0≤x∧x≤2000)(hn:n≤2000)(hi:H[i]?=some (.box [Z64 (a:Int)]))(hq:H[q]?=some (.box [.ptr p 0]))(hj:H[j]?=some (.box [Z64 (n:Int)]))(hK:K (Z64 (jfz a n F.length x)) H):ZC (XS tb false) (jal Tryz.prog) 101 [Z64 x,.ptr i 0,.ptr q 0,.ptr j 0] L H K:=by
 refine ZC.enter Gh.no (jai (by decide)) joV (by simp) ?_
 simp only[jip,kkP]
 have fin:=Fin.keep (H0:=H) hK
 have hb:=h.box
 have hlF:lenZ H (.own σ.w σ.gw 0 F.length false)=some F.length:=by rw[jaY];exact⟨_,_,h.ws,rfl⟩
 have w1:IntKind.i64.wrap ((F.length:Int) - (n:Int))=(F.length:Int) - (n:Int):=IntWalk.i64_in _ (by omega)
 have w2:IntKind.i64.wrap (x - (n:Int))=x - (n:Int):=IntWalk.i64_in _ (by omega)
 clear hK h
 unfold jfz at fin
 by_cases h:x=(a:Int)
 ·rw[if_pos h] at fin
  clear hx hn hl
  subst h
  have e:decide ((a:Int)=(a:Int))=true:=by simp
  with_reducible repeat' first|simp only[zP,jaf,jaa,jad,jac,seval,Nat.reduceLeDiff,hi,hq,hj,hb,hlF,e,w1, *]|simp only[jab]|apply And.intro|intro _
 ·rw[if_neg h] at fin
  by_cases h2:x>(a:Int)
  ·rw[if_pos h2] at fin
   have h3:(a:Int)<x:=h2
   clear hx hn hl h2
   with_reducible repeat' first|simp only[zP,jaf,jaa,jad,jac,seval,Nat.reduceLeDiff,hi,hq,hj,hb,hlF,h,h3,w2, *]|simp only[jab]|apply And.intro|intro _
  ·rw[if_neg h2] at fin
   have h3: ¬((a:Int)<x):=h2
   clear hx hn hl h2
   with_reducible repeat' first|simp only[zP,jaf,jaa,jad,jac,seval,Nat.reduceLeDiff,hi,hq,hj,hb,hlF,h,h3, *]|simp only[jab]|apply And.intro|intro _
end
end Go.Proofs.YtjaahfncbechnaaGreatDoor
