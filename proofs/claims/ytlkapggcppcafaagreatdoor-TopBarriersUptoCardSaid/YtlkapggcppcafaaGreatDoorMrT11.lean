/-
  The marker in ZM: step.
-/
import Derived.Test.YtlkapggcppcafaaGreatDoorMrT10
import Derived.Test.YtlkapggcppcafaaGreatDoorMrT7
set_option linter.unusedVariables false
set_option maxHeartbeats 32000000
set_option linter.unusedSimpArgs false
open And renaming intro→P3
open Int renaming eq_ofNat_of_zero_le→O1g,toNat_natCast→O0f,toNat_of_nonneg→O1w
open List renaming take_left→K5,length_map→P2,getElem_mem→M4,findIdx?_eq_some_iff_getElem→Z7,take_succ_eq_append_getElem→X5,mem_append→O3,mem_singleton→X6,take_of_length_le→I5,findIdx?_eq_none_iff→Z5,foldl_append→O0l,mem_map→U6,getElem?_eq_getElem→U1,getElem?_set_self→H9,countP_cons→J9,getElem?_eq_some_iff→U0,countP_le_length→O1o,all_eq_true→N2,getElem?_set_ne→O0a,getD→E7,map_set→O1h,ext_getElem?→U7,getElem?_set→M1,getElem?_map→U8,getElem?_append_left→V5,append_nil→A0,getElem?_append_right→N0,set_append_right→B7,set_append_left→O0k,length_append→G3,map_append→L3,filterMap_append→O1p,filterMap_cons_none→O1q,filterMap_cons_some→O1r,take_length→K7,filterMap_cons→O1s,mem_filterMap→D0,mem_of_getElem?→R5,nodup_cons→O1t,length_set→D5,getElem_of_mem→M3,getElem_set_ne→O1u,mem_or_eq_of_mem_set→O1v,replicate→O6,getD_eq_getElem?_getD→C0,getElem?_eq_none→J1,mem_replicate→A6
open Nat renaming reduceLeDiff→X0,reduceEqDiff→X4,le_refl→V2,add_sub_cancel_left→D8,sub_self→B4,le_trans→V3,le_of_eq→O1x
open Option renaming map_some→U9,getD_some→W9
open Option.some renaming injEq→U4
namespace Go.Proofs.YtlkapggcppcafaaGreatDoor
open IntWalk renaming i64_in→Y5
open Lib renaming hid→Z4
open ZC renaming enter→Z9
section
open Go Go.RowKit
variable {tb:List (FuncId×Bool)}{nd:Bool}{L:Nat→Bool}{H:ZH}{K:ZV→ZH→Prop}{p t g:Nat}{kd:Int}{mk:Bool}{T:List TB}
theorem stepa_z {x:TB}(hK:K (ZBo (decide (x.2.2.1=1))) H):ZC (XC tb nd) (jag Tryz.prog) 78 [.agg (eT x)] L H K:=by
 refine ZC.enterL Gh.no (jaf (by decide)) jrA (by simp) fun hL=>?_
 simp only[jkN,kkP];have fin: ∀X,Fin H (ZBo (decide (x.2.2.1=1))) (H++X) K:=fun X=>Fin.trunc (Mods.ext H X) rfl (by rw[K5];exact hK)
 have hcl:(plZ x).isCell=true:=by obtain⟨o,y⟩:=x;cases o<;>rfl
 unfold eT;obtain⟨c,hc⟩: ∃c,c=x.2.2.1:=⟨_,rfl⟩;obtain⟨b,hb⟩: ∃b,b=x.2.2.2:=⟨_,rfl⟩;obtain⟨z,hz⟩: ∃z,z=plZ x:=⟨_,rfl⟩;rw[←hz] at hcl ⊢;rw[←hc] at fin ⊢;rw[←hb];clear hK hc hb hz;with_reducible repeat' first|simp only[zQ,seval,X0,hcl, *]|simp only[jab]|apply P3|intro _
theorem idxt_z {z:ZV}{l:List TB}{q:TB→Bool}{f:FuncId}{caps:List ZV}(hz:ja2 H 3 z=some (l.map eT))(hb:l.length≤100000000000000)(hf: ∀m∈l,∀ K,K (ZBo (q m)) H→ZC (XC tb nd) (jag Tryz.prog) f (.agg (eT m)::caps) L H K)(hK:K (Z64 (idxQ q l)) H):
  ZC (XC tb nd) (jag Tryz.prog) 77 [z,.func f caps] L H K:=by
 refine Z9 Gh.no (jaf (by decide)) juN (by simp) ?_;simp only[jnK,kkP];have hlen:=ja3 hz;rw[P2] at hlen;have HF:=Z4 hf;have HK:=Z4 hK;clear hf hK;with_reducible repeat' first|simp only[zQ,seval,X0,hlen, *]|simp only[jab]|apply P3|intro _
 refine jaK [(0,z),(1,.func f caps)] l.length (fun k s' h'=>h'=H∧jhk q (l.take k)) (by omega) ⟨rfl,rfl,rfl,rfl,rfl,rfl⟩ rfl rfl (by repeat' (first|exact trivial|(refine⟨rfl,?_⟩)|(refine⟨by simp only[jaj,X4,reduceIte];assumption,?_⟩))) rfl rfl (by decide) ⟨rfl,by simp[jhk]⟩ ?_ ?_
 ·rintro k s' h' hk ⟨rfl,hno⟩ hi hl ⟨f0,f1,-⟩
  obtain⟨pp,hq,hld0⟩:=jcS hz hk;have hld:ldZ h' (some 3) pp=some (.agg (eT l[k])):=hld0 (some 3);clear hld0;have HN:=Z4 hno;clear hno;with_reducible repeat' first|simp only[zQ,seval,X0,hq,hld, *]|simp only[jab]|apply P3|intro _
  refine HF.out _ (M4 hk) _ ?_
  cases hp:q l[k] with
  |true=>
   have hi:idxQ q l=(k:Int):=by
    have:l.findIdx? q=some k:=by
     rw[Z7];exact⟨hk,hp,fun j hj=>by simp only[Bool.not_eq_true];exact HN.out _ (by rw[List.mem_take_iff_getElem];exact⟨j,by omega,rfl⟩)⟩
    simp only[idxQ,this]
   have hK:=HK.out;rw[hi] at hK;have fin:=Fin.keep (H0:=h') hK;clear hp hi hK hld;with_reducible repeat' first|simp only[zQ,seval,X0, *]|simp only[jab]|apply P3|intro _
  |false=>
   have fin:jhk q (l.take (k+1)):=fun x hx=>by
    rw[X5 hk] at hx;rcases O3.1 hx with hx|hx
    ·exact HN.out x hx
    ·rw[X6.1 hx];exact hp
   clear hp hld;with_reducible repeat' first|simp only[zQ,seval,X0, *]|simp only[jab]|apply P3|intro _
 ·rintro s' h' ⟨rfl,hno⟩ ⟨f0,f1,-⟩
  rw[I5 (V2 _)] at hno;have hi:idxQ q l= -1:=by
   have:l.findIdx? q=none:=Z5.2 fun x hx=>by rw[hno x hx]
   simp only[idxQ,this]
  have hK:=HK.out;rw[hi] at hK;have fin:=Fin.keep (H0:=h') hK;clear hno hi hK;with_reducible repeat' first|simp only[zQ,seval,X0, *]|simp only[jab]|apply P3|intro _
def jjD (x:TB):Bool:=decide (x.2.2.1=1)
def shades (mk:Bool)(T:List TB)(l:List Int):List TB:=l.foldl (jaz mk) T
def jek (mk:Bool)(T:List TB):Option (List TB):=match T.findIdx? jjD with
  |none=>none
  |some i=>match T[i]? with
    |some x=>some (shades mk (T.set i (colX x 2)) x.2.1)
    |none=>none
theorem jdu {l:List Int}: ∀{T:List TB},(shades mk T l).map keyT=T.map keyT:=by
 induction l with
 |nil=>exact rfl
 |cons a l ih=>intro T;exact (ih (T:=jaz mk T a)).trans jdH
theorem joj {l:List Int}{k:Nat}(hk:k<l.length):shades mk T (l.take (k+1))=jaz mk (shades mk T (l.take k)) l[k]:=by
 unfold shades;rw[X5 hk,O0l];rfl
theorem jlC {T':List TB}(hk:T'.map keyT=T.map keyT){x:TB}(hx:x∈T'): ∃y∈T,y.1=x.1∧y.2.1=x.2.1:=by
 have:keyT x∈T.map keyT:=by rw[←hk];exact List.mem_map_of_mem hx
 obtain⟨y,hy,e⟩:=U6.1 this;injection e with e1 e2
 exact⟨y,hy,e1,e2⟩
theorem jce {T':List TB}(hk:T'.map keyT=T.map keyT):T'.length=T.length:=by have:=congrArg List.length hk;simpa using this
theorem Rng.key {T':List TB}(h:Rng T)(hk:T'.map keyT=T.map keyT):Rng T':=by
 refine⟨by rw[jce hk];exact h.len,fun x hx=>?_,fun x hx y hy=>?_⟩
 ·obtain⟨z,hz,_,e⟩:=jlC hk hx;rw[←e];exact h.sm z hz
 ·obtain⟨z,hz,_,e⟩:=jlC hk hx;rw[jce hk];rw[←e] at hy;exact h.rng z hz y hy
theorem step_z (h:MkAt H p t g kd mk T)(hr:Rng T)(hL:L t=true)(hK1:jek mk T=none→K (ZBo false) H)(hK2: ∀T',jek mk T=some T'→K (ZBo true) (thH H t g T')):
  ZC (XC tb nd) (jag Tryz.prog) 45 [.ptr p 0] L H K:=by
 refine Z9 Gh.no (jaf (by decide)) juL (by simp) ?_;simp only[jnI,kkP];have hb:=h.box;have h3:ja2 H 3 (.own t g 0 T.length false)=some (T.map eT):=jbz h.arr (by simp);have HM:=Z4 h;have HR:=Z4 hr;have HL:=Z4 hL;have K1:=Z4 hK1;have K2:=Z4 hK2;have H3:=Z4 h3;clear hK1 hK2 hr h h3 hL;with_reducible repeat' first|simp only[zQ,seval,X0,hb, *]|simp only[jab]|apply P3|intro _
 refine idxt_z (q:=jjD) H3.out (by have:=HM.out.len;omega) (fun m _ K2 k2=>stepa_z k2) ?_
 cases hf:T.findIdx? jjD with
 |none=>
  have hi:idxQ jjD T= -1:=by simp only[idxQ,hf]
  have fin:=Fin.keep (H0:=H) (K1.out (by unfold jek;rw[hf]));rw[hi];have hneg:(-1:Int)<0:=by omega
  clear hi hf hb;with_reducible repeat' first|simp only[zQ,seval,X0,hneg, *]|simp only[jab]|apply P3|intro _
 |some i=>
  have hi:idxQ jjD T=(i:Int):=by simp only[idxQ,hf]
  obtain⟨hil,_,_⟩:=Z7.1 hf;have hx:T[i]?=some T[i]:=U1 hil;have hmem:T[i]∈T:=M4 hil;have hs: ∀T',shades mk (T.set i (colX T[i] 2)) T[i].2.1=T'→jek mk T=some T':=fun T' e=>by
   unfold jek;rw[hf];simp only[hx];rw[e]
  rw[hi];have hel:=t_el HM.out hil;obtain⟨x,hxe⟩: ∃x,x=T[i]:=⟨_,rfl⟩;rw[←hxe] at hx hs hmem;have hst:=t_st HM.out HL.out hx 2;have hk1:(T.set i (colX x 2)).map keyT=T.map keyT:=jg8 hx rfl;have h1:=HM.out.upd hk1;have hl1:=jce hk1;have hb1:=h1.box;have hx1:(T.set i (colX x 2))[i]?=some (colX x 2):=by rw[H9 hil]
  have hel1:=t_el h1 (n:=i) (by rw[hl1];exact hil);have hld1:ldZ (thH H t g (T.set i (colX x 2))) none (.eptr t g i 0)=some (plZ x):=(t_ld h1 (o:=0) hx1).trans rfl;rw[hl1] at hb1 hel1;have hpl: ∀T',T'.map keyT=T.map keyT→ja2 (thH H t g T') 1 (plZ x)=some (x.2.1.map eI):=fun T' hk=>by
   have:=(HM.out.upd hk).pl;obtain⟨y,hy,e1,e2⟩:=jlC hk.symm hmem;have h2:=(HM.out.upd hk).rows hy;have e3:plZ y=plZ x:=by
    obtain⟨o,y2⟩:=y;obtain⟨o',x2⟩:=x
    simp only at e1 e2;subst e1
    cases o with
    |none=>rfl
    |some j=>simp only[plZ,e2]
   rw[e3,e2] at h2;exact h2
  have hpl0:=hpl _ hk1;have hlen:=ja3 hpl0;rw[P2] at hlen;have hsm:=HM.out.sm x hmem;have hrg:=HR.out.rng x hmem;obtain⟨T1,hT1⟩: ∃T1,T1=T.set i (colX x 2):=⟨_,rfl⟩;rw[←hT1] at hst hk1 hb1 hel1 hld1 hpl0 hlen hs;obtain⟨pz,hpz⟩: ∃pz,pz=plZ x:=⟨_,rfl⟩;rw[←hpz] at hpl hpl0 hld1 hlen;have HSM:=Z4 hsm;have HRG:=Z4 hrg;have HS:=Z4 hs;have HPL:=Z4 hpl;have HK1:=Z4 hk1;have hi0: ¬((i:Int)<0):=by omega
  clear hi hf hxe hx hmem h1 hl1 hx1 hsm hrg hs hT1 hpz hpl hk1 hpl0;with_reducible repeat' first|simp only[zQ,seval,X0,hb,hel,hst,hb1,hel1,hld1,hlen, *]|simp only[jab]|apply P3|intro _
  refine jaK [(27,pz),(0,.ptr p 0)] x.2.1.length (fun k s' h'=>h'=thH H t g (shades mk T1 (x.2.1.take k))) (by have:=HSM.out;omega) ⟨rfl,rfl,rfl,rfl,rfl,rfl⟩ rfl rfl (by repeat' (first|exact trivial|(refine⟨rfl,?_⟩)|(refine⟨by simp only[jaj,X4,reduceIte];assumption,?_⟩))) rfl rfl (by decide) rfl ?_ ?_
  ·rintro k s' h' hk rfl hi hll ⟨f27,f0,-⟩
   have hkk:=(jdu (mk:=mk) (l:=x.2.1.take k) (T:=T1)).trans HK1.out;obtain⟨pp,hp,hld⟩:=jcS (HPL.out _ hkk) hk;have hn:=joj (mk:=mk) (T:=T1) hk;have hrg:=HRG.out _ (M4 hk);obtain⟨y,hy⟩: ∃y,y=x.2.1[k]:=⟨_,rfl⟩;rw[←hy] at hld hn hrg;have HN:=Z4 hn;have HY:=Z4 hrg;have HKK:=Z4 hkk;clear hy hn hrg hkk hel hst hel1 hld1 hlen hb hb1;with_reducible repeat' first|simp only[zQ,seval,X0,hp,hld, *]|simp only[jab]|apply P3|intro _
   refine jfi (HM.out.upd HKK.out) HL.out (fun _ _=>by rw[jce HKK.out];exact HY.out) ?_;rw[jeN,← HN.out];with_reducible repeat' first|simp only[zQ,seval,X0, *]|simp only[jab]|apply P3|intro _
  ·rintro s' h' rfl ⟨f27,f0,-⟩
   rw[I5 (V2 _)];have fin:=Fin.keep (H0:=H) (K2.out _ (HS.out _ rfl));clear hel hst hel1 hld1 hlen hb hb1;with_reducible repeat' first|simp only[zQ,seval,X0, *]|simp only[jab]|apply P3|intro _
end
section
open Go Go.RowKit
variable {tb:List (FuncId×Bool)}{nd:Bool}{L:Nat→Bool}{H:ZH}{K:ZV→ZH→Prop}{p t g:Nat}{kd:Int}{mk:Bool}{T:List TB}
/-- So many steps. -/
inductive Stp (mk:Bool):Nat→List TB→List TB→Prop
  |zero {T:List TB}:Stp mk 0 T T
  |next {n:Nat} {T T1 T2:List TB}:Stp mk n T T1→jek mk T1=some T2→Stp mk (n+1) T T2
def dimB (x:TB):Bool:=decide (x.2.2.1=0∨x.2.2.1=1)
def dim (T:List TB):Nat:=T.countP dimB
theorem jhe {α:Type}{q:α→Bool}: ∀{l:List α} {n:Nat} {x y:α},l[n]?=some x→(l.set n y).countP q+(if q x=true then 1 else 0)=l.countP q+(if q y=true then 1 else 0)
 |[],n,x,y,h=>by simp at h
 |a::l,0,x,y,h=>by
  simp at h;subst h
  simp only[List.set_cons_zero,J9];omega
 |a::l,n+1,x,y,h=>by
  have:=jhe (q:=q) (l:=l) (n:=n) (x:=x) (y:=y) (by simpa using h);simp only[List.set_cons_succ,J9];omega
theorem jtJ {n:Int}:dim (jaz mk T n)=dim T:=by
 unfold jaz;split
 ·split
  ·rename_i x hx
   split
   ·rename_i h0
    have:=jhe (q:=dimB) (y:=colX x 1) hx;have e1:dimB x=true:=by simp[dimB,h0]
    have e2:dimB (colX x 1)=true:=by simp[dimB]
    rw[e1,e2] at this;unfold dim;simpa using this
   ·rfl
  ·rfl
 ·rfl
theorem jq9 {l:List Int}: ∀{T:List TB},dim (shades mk T l)=dim T:=by
 induction l with
 |nil=>exact rfl
 |cons a l ih=>intro T;exact (ih (T:=jaz mk T a)).trans jtJ
theorem jfJ {T':List TB}(h:jek mk T=some T'): ∃i x,T[i]?=some x∧x.2.2.1=1∧T'=shades mk (T.set i (colX x 2)) x.2.1∧(∀j y,j<i→T[j]?=some y→y.2.2.1≠1):=by
 unfold jek at h
 cases hf:T.findIdx? jjD with
 |none=>rw[hf] at h;cases h
 |some i=>
  obtain⟨h1,h2,h3⟩:=Z7.1 hf;rw[hf] at h;have hx:T[i]?=some T[i]:=U1 h1;simp only[hx,U4] at h;refine⟨i,T[i],hx,by simpa[jjD] using h2,h.symm,fun j y hj hy=>?_⟩;have:=h3 j hj;obtain⟨hjl,e⟩:=U0.1 hy;rw[e] at this;simpa[jjD] using this
theorem jiu {T':List TB}(h:jek mk T=some T'):dim T'<dim T:=by
 obtain⟨i,x,hx,h1,rfl,_⟩:=jfJ h;rw[jq9];have:=jhe (q:=dimB) (y:=colX x 2) hx;have e1:dimB x=true:=by simp[dimB,h1]
 have e2:dimB (colX x 2)=false:=by simp[dimB]
 rw[e1,e2] at this;unfold dim;simp at this;omega
theorem jts {T':List TB}(h:jek mk T=some T'):T'.map keyT=T.map keyT:=by
 obtain⟨i,x,hx,h1,rfl,_⟩:=jfJ h;rw[jdu,jg8 (y:=colX x 2) hx rfl]
theorem Stp.key {n:Nat}{T':List TB}(h:Stp mk n T T'):T'.map keyT=T.map keyT:=by
 induction h with
 |zero=>rfl
 |next _ h2 ih=>rw[jts h2,ih]
theorem Stp.len {n:Nat}{T':List TB}(h:Stp mk n T T'):n+dim T'≤dim T:=by
 induction h with
 |zero=>omega
 |next _ h2 ih=>have:=jiu h2;omega
theorem dim_le:dim T≤T.length:=O1o
theorem steps_z {n:Int}(h:MkAt H p t g kd mk T)(hr:Rng T)(hL:L t=true)(hK1:mk=false→K (.tuple [Z64 0,Z64 8]) H)(hK2:mk=true→n<0→K (.tuple [Z64 0,Z64 1]) H)
  (hK3: ∀(m:Nat) T1,mk=true→0≤n→Stp mk m T T1→(m:Int)≤n→((m:Int)<n→jek mk T1=none)→K (.tuple [Z64 m,Z64 0]) (thH H t g T1)):
  ZC (XC tb nd) (jag Tryz.prog) 25 [.ptr p 0,Z64 n] L H K:=by
 refine Z9 Gh.no (jaf (by decide)) joM (by simp) ?_;simp only[jjd,kkP];have hb:=h.box;have HM:=Z4 h;have HR:=Z4 hr;have HL:=Z4 hL;have K3:=Z4 hK3
 cases mk with
 |false=>
  have fin:=Fin.keep (H0:=H) (hK1 rfl);clear hK1 hK2 hK3 h hr hL;with_reducible repeat' first|simp only[zQ,seval,X0,hb, *]|simp only[jab]|apply P3|intro _
 |true=>
  by_cases h0:n<0
  ·have fin:=Fin.keep (H0:=H) (hK2 rfl h0)
   clear hK1 hK2 hK3 h hr hL;with_reducible repeat' first|simp only[zQ,seval,X0,hb, *]|simp only[jab]|apply P3|intro _
  ·have H0:=Z4 h0
   have hs:=h.same;clear hK1 hK2 hK3 h hr hL;with_reducible repeat' first|simp only[zQ,seval,X0,hb, *]|simp only[jab]|apply P3|intro _
   refine jcV [(0,.ptr p 0),(1,Z64 n)] (dim T) (fun d s' h'=> ∃(m:Nat) (T1:List TB),s' 6=Z64 (m:Nat)∧h'=thH H t g T1∧Stp true m T T1∧(m:Int)≤n∧d=dim T1) (by repeat' (first|exact trivial|(refine⟨rfl,?_⟩)|(refine⟨by simp only[jaj,X4,reduceIte];assumption,?_⟩))) rfl ⟨0,T,rfl,hs.symm,.zero,by have:=H0.out;omega,rfl⟩ ?_;clear hs hb h0;rintro d s' h' ⟨m,T1,f6,rfl,hS,hm,rfl⟩ ⟨f0,f1,-⟩;have hmlt:m≤100:=by have:=hS.len;have:=dim_le (T:=T);have:=HM.out.len;omega
   by_cases hlt:(m:Int)<n
   ·have HS:=Z4 hS
    have HMM:=Z4 hm;have HMX:=Z4 hmlt;clear hS hm hmlt;with_reducible repeat' first|simp only[zQ,seval,X0, *]|simp only[jab]|apply P3|intro _
    have hu:=HM.out.upd HS.out.key;refine step_z hu (HR.out.key HS.out.key) HL.out (fun hno=>?_) (fun T2 hT2=>?_)
    ·have fin:=Fin.keep (H0:=H) (K3.out m T1 rfl (by omega) HS.out HMM.out fun _=>hno)
     clear hno hu;with_reducible repeat' first|simp only[zQ,seval,X0, *]|simp only[jab]|apply P3|intro _
    ·have hS2:=HS.out.next hT2
     have hd:=jiu hT2;have w1:IntKind.i64.wrap ((m:Int)+1)=((m+1:Nat):Int):=by have:=HMX.out;rw[Y5 _ (by omega)];omega
     rw[jeN];have FN:Hid (∃d,d<dim T1∧ ∃(m2:Nat) (T3:List TB),((m+1:Nat):Int)=(m2:Nat)∧thH H t g T2=thH H t g T3∧Stp true m2 T T3∧(m2:Int)≤n∧d=dim T3):=Z4 ⟨_,hd,m+1,T2,rfl,rfl,hS2,by omega,rfl⟩;clear hS2 hd hT2 hu;with_reducible repeat' first|simp only[zQ,seval,X0,w1, *]|simp only[jab]|apply P3|intro _
     all_goals (obtain⟨d,q1,m2,T3,q2,q3,q4⟩:=FN.out;exact⟨d,q1,m2,q2,T3,q3,q4⟩)
   ·have fin:=Fin.keep (H0:=H) (K3.out m T1 rfl (by have:=H0.out;omega) hS hm fun h=>absurd h hlt)
    clear hS hm hmlt;with_reducible repeat' first|simp only[zQ,seval,X0, *]|simp only[jab]|apply P3|intro _
theorem pure_row {x:TB}{n:Nat}(hj: ∀j,x.1=some j→j<n):(eT x).all (jcT n)=true:=by
 obtain⟨o,pl,c,b⟩:=x
 cases o with
 |none=>rfl
 |some j=>have:=hj j rfl;simp[eT,plZ,jcT,this]
theorem MkAt.refs (h:MkAt H p t g kd mk T){T':List TB}(hk:T'.map keyT=T.map keyT){n:Nat}(hn:H.length≤n):jom n (.grow g 3 (T'.map eT))=true:=by
 simp only[jom];rw[N2];intro z hz;obtain⟨r,hr,hz⟩:=List.mem_flatten.1 hz;obtain⟨x,hx,rfl⟩:=U6.1 hr;refine N2.1 (pure_row fun j hj=>?_) z hz;obtain⟨y,hy,e1,e2⟩:=jlC hk hx;have:=h.pl y hy;rw[e1,hj] at this;have:=jap this.2;omega
abbrev pH (H:ZH)(p t g:Nat)(kd:Int)(mk:Bool)(n:Nat):ZH:=H.set p (.box [Z64 kd,ZBo mk,.own t g 0 n false])
theorem MkAt.flag (h:MkAt H p t g kd mk T)(b:Bool):MkAt (pH H p t g kd b T.length) p t g kd b T:=by
 refine⟨by rw[H9 (jap h.box)],by rw[O0a h.pt];exact h.arr,fun x hx=>?_,h.nod,h.len,h.sm⟩;have h1:=h.pl x hx;have h2: ∀j,x.1=some j→j≠t∧j≠p:=fun j hj=>h.jt hx hj
 revert h1 h2
 cases x.1 with
 |none=>exact fun h1 _=>h1
 |some j=>exact fun h1 h2=>⟨h1.1,by rw[O0a (Ne.symm (h2 j rfl).2)];exact h1.2⟩
def begT (T:List TB):List TB:=shades true T (jcH (jaE T))
theorem heldB_at {k:Nat}{x:TB}(hx:T[k]?=some x):(jaE T).getD k false=x.2.2.2:=by simp[jaE,E7,hx]
theorem jg2 {n:Int}:jaE (jaz mk T n)=jaE T:=by
 unfold jaz;split
 ·split
  ·rename_i x hx
   split
   ·unfold jaE
    rw[O1h];apply U7
    intro j;rw[M1];split
    ·rename_i e;subst e;rw[if_pos (by simpa using (U0.1 hx).1),U8,hx];rfl
    ·rfl
   ·rfl
  ·rfl
 ·rfl
theorem jf6 {l:List Int}: ∀{T:List TB},jaE (shades mk T l)=jaE T:=by
 induction l with
 |nil=>exact rfl
 |cons a l ih=>intro T;exact (ih (T:=jaz mk T a)).trans jg2
theorem begin_z (h:MkAt H p t g kd mk T)(hr:Rng T)(hL:L t=true)(hLp:L p=true)(hK1:mk=true→K (.tuple [Z64 0,Z64 8]) H)
  (hK2:mk=false→K (.tuple [Z64 (jcH (jaE T)).length,Z64 0]) (thH (pH H p t g kd true T.length) t g (begT T))):
  ZC (XC tb nd) (jag Tryz.prog) 24 [.ptr p 0] L H K:=by
 refine ZC.enterL Gh.no (jaf (by decide)) jrF (by simp) fun hLn=>?_
 simp only[jkS,kkP];have hb:=h.box;have HM:=Z4 h;have HR:=Z4 hr;have HL:=Z4 hL;have K2:=Z4 hK2
 cases mk with
 |true=>
  have fin:=Fin.keep (H0:=H) (hK1 rfl);clear hK1 hK2 h hr hL;with_reducible repeat' first|simp only[zQ,seval,X0,hb, *]|simp only[jab]|apply P3|intro _
 |false=>
  obtain⟨P,hP⟩: ∃P,P=pH H p t g kd true T.length:=⟨_,rfl⟩;have hPl:P.length=H.length:=by rw[hP];simp
  have hM2:MkAt P p t g kd true T:=by rw[hP];exact h.flag true
  have hs:=hM2.same;have hst:stZ L H [ZBo true] (.ptr p 1)=some P:=by
   rw[jmE];exact⟨_,hb,hLp,by simp,by rw[hP];rfl⟩
  have hb2:=hM2.box;have hl3:=ja3 (jbz (ex:=false) hM2.arr rfl);rw[P2] at hl3;have HM2:=Z4 hM2;have HP:=Z4 hP;have HPl:=Z4 hPl;have F:Hid (∀X,Fin H (.tuple [Z64 (jcH (jaE T)).length,Z64 0]) (thH P t g (begT T)++X) K):=Z4 fun X=>by
   have hl:(thH P t g (begT T)).length=H.length:=by simp[hPl]
   refine Fin.truncT (fun i B hi hB=>?_) rfl (by rw[←hl,K5];rw[hP];exact K2.out rfl);rw[V5 (by rw[hl];exact hi),hP] at hB;rw[M1] at hB;split at hB
   ·split at hB
    ·injection hB with hB;subst hB
     exact .inr (HM.out.refs (jdu) (V2 _))
    ·cases hB
   ·rw[M1] at hB
    split at hB
    ·split at hB
     ·injection hB with hB;subst hB
      exact .inr (by simp[jom,jcT,jap HM.out.arr])
     ·cases hB
    ·exact .inl hB
  clear hK1 hK2 h hr hL hP hPl hM2 hLp;with_reducible repeat' first|simp only[zQ,seval,X0,hb,hst,hb2,hl3, *]|simp only[jab]|apply P3|intro _
  refine jaK [(0,.ptr p 0),(17,.own t g 0 T.length false)] T.length (fun k s' h'=> ∃X,s' 4=Z64 (ja6 (jaE T) k).length∧h'=thH P t g (shades true T (ja6 (jaE T) k))++X) (by have:=HM.out.len;omega) ⟨rfl,rfl,rfl,rfl,rfl,rfl⟩ rfl rfl (by repeat' (first|exact trivial|(refine⟨rfl,?_⟩)|(refine⟨by simp only[jaj,X4,reduceIte];assumption,?_⟩))) rfl rfl (by decide) ⟨[],rfl,by rw[A0];exact hs.symm⟩ ?_ ?_
  ·clear hs hb hst hb2 hl3
   rintro k s' h' hk ⟨X,f4,rfl⟩ hi hll ⟨f0,f17,-⟩;have hkey:(shades true T (ja6 (jaE T) k)).map keyT=T.map keyT:=jdu;have hM3:=HM2.out.upd hkey;have hlen3:=jce hkey;have hheld:jaE (shades true T (ja6 (jaE T) k))=jaE T:=jf6;have hru:=jeR (jaE T) k;have hrl:=jdh (jaE T) k;obtain⟨T1,hT1⟩: ∃T1,T1=shades true T (ja6 (jaE T) k):=⟨_,rfl⟩;rw[←hT1] at hkey hM3 hlen3 hheld ⊢;have hk1:k<T1.length:=by rw[hlen3];exact hk
   have hx:T1[k]?=some T1[k]:=U1 hk1;have hhx:=heldB_at hx;rw[hheld] at hhx;rw[hhx] at hru;have hel:=t_el (hM3.ext X) hk1;rw[hlen3] at hel;have hnext: ∀n,shades true T (ja6 (jaE T) k++[n])=jaz true T1 n:=fun n=>by rw[hT1];unfold shades;rw[O0l];rfl
   obtain⟨W,hW⟩: ∃W,W=thH P t g T1:=⟨_,rfl⟩;rw[←hW] at hM3 hel ⊢;have hld: ∀Y,ldZ (W++Y) (some 3) (.eptr t g k 0)=some (.agg (eT T1[k])):=fun Y=>by
    rw[jbS];exact⟨_,_,eT T1[k],(hM3.ext Y).arr,by rw[U8,hx];rfl,rfl⟩
   obtain⟨x,hxe⟩: ∃x,x=T1[k]:=⟨_,rfl⟩;rw[←hxe] at hld hru;have hcl:(plZ x).isCell=true:=by obtain⟨o,y⟩:=x;cases o<;>rfl
   unfold eT at hld;obtain⟨z,hz⟩: ∃z,z=plZ x:=⟨_,rfl⟩;obtain⟨c,hc⟩: ∃c,c=x.2.2.1:=⟨_,rfl⟩;obtain⟨b,hbb⟩: ∃b,b=x.2.2.2:=⟨_,rfl⟩;rw[←hz] at hcl hld;rw[←hc] at hld;rw[←hbb] at hld hru;have a0: ∀C:ZB,(W++(X++[C]))[W.length+X.length]?=some C:=fun C=>by rw[N0 (by omega),D8];simp
   have s0: ∀C D:ZB,(W++(X++[C])).set (W.length+X.length) D=W++(X++[D]):=fun C D=>by rw[B7 _ _ (by omega),D8];simp
   have hWl:W.length=H.length:=by rw[hW];simp[HPl.out]
   have l0:L (W.length+X.length)=true:=by
    rw[hWl]
    cases hX:X.length with
    |zero=>exact hLn 0
    |succ n=>exact hLn (n+1)
   have HM3:=Z4 hM3;have HW:=Z4 hW;have HT1:=Z4 hT1;have HRU:=Z4 hru;have HNX:=Z4 hnext;have HL3:=Z4 hlen3;have w1:IntKind.i64.wrap (((ja6 (jaE T) k).length:Int)+1)=(((ja6 (jaE T) k).length+1:Nat):Int):=by have:=HM.out.len;rw[Y5 _ (by omega)];omega
   clear hkey hM3 hlen3 hheld hru hrl hT1 hk1 hx hhx hnext hW hxe hz hc hbb hWl
   cases b with
   |true=>
    with_reducible repeat' first|simp only[zQ,seval,X0,hel,hld,hcl,a0,s0,l0, *]|simp only[jab]|apply P3|intro _
    refine jfi (HM3.out.ext _) HL.out (fun _ _=>by rw[HL3.out];omega) ?_;have e: ∀Y,thH (W++Y) t g (jaz true T1 (k:Int))=thH P t g (shades true T (ja6 (jaE T) (k+1)))++Y:=fun Y=>by
     unfold thH;rw[O0k _ _ (jap HM3.out.arr),HW.out,HRU.out,if_pos rfl,HNX.out];unfold thH;rw[List.set_set]
    rw[e];have e2:(ja6 (jaE T) (k+1)).length=(ja6 (jaE T) k).length+1:=by rw[HRU.out,if_pos rfl,G3];rfl
    have E2:=Z4 e2;clear e e2 hel hld;with_reducible repeat' first|simp only[zQ,seval,X0,w1, *]|simp only[jab]|apply P3|intro _
    all_goals first|(rw[E2.out];done)|exact⟨_,rfl⟩|(rw[E2.out];exact⟨_,rfl⟩)
   |false=>
    have e:W=thH P t g (shades true T (ja6 (jaE T) (k+1))):=by
     rw[HW.out,HRU.out,if_neg (by decide),HT1.out]
    have e2:(ja6 (jaE T) (k+1)).length=(ja6 (jaE T) k).length:=by rw[HRU.out,if_neg (by decide)]
    have E:=Z4 e;have E2:=Z4 e2;clear e e2;with_reducible repeat' first|simp only[zQ,seval,X0,hel,hld,hcl,a0,s0,l0, *]|simp only[jab]|apply P3|intro _
    all_goals first|(rw[E2.out];done)|(rw[←E.out];exact⟨_,rfl⟩)
  ·rintro s' h' ⟨X,f4,rfl⟩ ⟨f0,f17,-⟩
   have e:ja6 (jaE T) T.length=jcH (jaE T):=by unfold jcH;rw[show (jaE T).length=T.length by simp[jaE]]
   rw[e] at f4 ⊢;have fin:=F.out X;unfold begT at fin;clear e hs hb hst hb2 hl3;with_reducible repeat' first|simp only[zQ,seval,X0, *]|simp only[jab]|apply P3|intro _
end
section
open Go Go.RowKit
variable {tb:List (FuncId×Bool)}{nd:Bool}{L:Nat→Bool}{H:ZH}{K:ZV→ZH→Prop}{p t g:Nat}{kd:Int}{mk:Bool}{T:List TB}
abbrev jut:TB:=(none,[],3,false)
def endX (x:TB):TB:=if x.2.2.1=0 then jut else if x.2.2.1=2 then colX x 0 else x
def endTo (T:List TB)(k:Nat):List TB:=(T.take k).map endX++T.drop k
def jin (T:List TB):Nat:=T.countP fun x=>decide (x.2.2.1=0)
theorem jfw {k:Nat}:(endTo T k).length=T.length:=by unfold endTo;simp;omega
theorem endTo_at {k:Nat}(hk:k<T.length):(endTo T k)[k]?=T[k]?:=by
 unfold endTo;rw[N0 (by simp;omega)];simp[Nat.min_eq_left (Nat.le_of_lt hk)]
theorem jr1 {k:Nat}(hk:k<T.length):endTo T (k+1)=(endTo T k).set k (endX T[k]):=by
 unfold endTo;have hl:((T.take k).map endX).length=k:=by simp;omega
 rw[B7 _ _ (by omega),hl,B4,X5 hk,L3,List.append_assoc,List.drop_eq_getElem_cons hk]
 rfl
theorem MkAt.less (h:MkAt H p t g kd mk T){T':List TB}(hl:T'.length=T.length)(hmem: ∀x∈T',(x.1=none∧x.2.1=[])∨ ∃y∈T,y.1=x.1∧y.2.1=x.2.1)(hsub:(T'.filterMap Prod.fst).Sublist (T.filterMap Prod.fst)):MkAt (thH H t g T') p t g kd mk T':=by
 refine⟨by rw[O0a (Ne.symm h.pt),hl];exact h.box,by rw[H9 (jap h.arr)],fun x hx=>?_,hsub.nodup h.nod,by rw[hl];exact h.len,fun x hx=>?_⟩
 ·rcases hmem x hx with⟨e1,e2⟩|⟨y,hy,e1,e2⟩
  ·rw[e1];exact e2
  ·have h1:=h.pl y hy
   have h2: ∀j,y.1=some j→j≠t∧j≠p:=fun j hj=>h.jt hy hj
   rw[e1,e2] at h1;rw[e1] at h2
   revert h1 h2
   cases x.1 with
   |none=>exact fun h1 _=>h1
   |some j=>exact fun h1 h2=>⟨h1.1,by rw[O0a (Ne.symm (h2 j rfl).1)];exact h1.2⟩
 ·rcases hmem x hx with⟨e1,e2⟩|⟨y,hy,e1,e2⟩
  ·rw[e2];simp
  ·rw[←e2];exact h.sm y hy
theorem jlM {x:TB}(hx:x∈T):((endX x).1=none∧(endX x).2.1=[])∨ ∃y∈T,y.1=(endX x).1∧y.2.1=(endX x).2.1:=by
 unfold endX;split
 ·exact .inl ⟨rfl,rfl⟩
 ·split
  ·exact .inr ⟨x,hx,rfl,rfl⟩
  ·exact .inr ⟨x,hx,rfl,rfl⟩
theorem MkAt.endTo (h:MkAt H p t g kd mk T)(k:Nat):MkAt (thH H t g (endTo T k)) p t g kd mk (endTo T k):=by
 refine h.less jfw (fun x hx=>?_) ?_
 ·rcases O3.1 hx with hx|hx
  ·obtain⟨y,hy,rfl⟩:=U6.1 hx
   exact jlM (List.mem_of_mem_take hy)
  ·exact .inr ⟨x,List.mem_of_mem_drop hx,rfl,rfl⟩
 ·unfold Go.Proofs.YtlkapggcppcafaaGreatDoor.endTo
  rw[O1p];have e:T.filterMap Prod.fst=(T.take k).filterMap Prod.fst++(T.drop k).filterMap Prod.fst:=by rw[←O1p,List.take_append_drop]
  rw[e];refine List.Sublist.append ?_ (List.Sublist.refl _);generalize T.take k=l;induction l with
  |nil=>exact List.Sublist.refl _
  |cons x l ih=>
   obtain⟨o,y⟩:=x;have hx:(endX (o,y)).1=none∨(endX (o,y)).1=o:=by unfold endX;split;exact .inl rfl;split<;>exact .inr rfl
   rw[List.map_cons];rcases hx with hx|hx
   ·rw[O1q (by exact hx)]
    cases o with
    |none=>rw[O1q rfl];exact ih
    |some j=>rw[O1r (f:=Prod.fst) (a:=(some j,y)) (b:=j) rfl];exact ih.cons _
   ·cases o with
    |none=>rw[O1q (by exact hx),O1q rfl];exact ih
    |some j=>rw[O1r (b:=j) (by exact hx),O1r (f:=Prod.fst) (a:=(some j,y)) (b:=j) rfl];exact ih.cons_cons _
theorem t_stA (h:MkAt H p t g kd mk T)(hL:L t=true){n:Nat}{x:TB}(hx:T[n]?=some x):stZ L H (eT jut) (.eptr t g n 0)=some (thH H t g (T.set n jut)):=by
 rw[jfe];refine⟨3,_,eT x,h.arr,by rw[U8,hx];rfl,hL,by simp[eT],?_⟩;unfold thH;rw[O1h];rfl
def jcR (T:List TB)(k:Nat):Nat:=jin (T.take k)
theorem jmw {k:Nat}(hk:k<T.length):jcR T (k+1)=jcR T k+(if T[k].2.2.1=0 then 1 else 0):=by
 unfold jcR jin;rw[X5 hk,List.countP_append];simp[J9]
theorem jqX {k:Nat}:jcR T k≤T.length:=by
 unfold jcR jin;exact V3 O1o (by simp;omega)
theorem end_z (h:MkAt H p t g kd mk T)(hr:Rng T)(hL:L t=true)(hLp:L p=true)(hK1:mk=false→K (.tuple [Z64 0,Z64 8]) H)
  (hK2: ∀m T1,mk=true→Stp true m T T1→jek true T1=none→K (.tuple [Z64 (jin T1),Z64 0]) (pH (thH H t g (T1.map endX)) p t g kd false T.length)):
  ZC (XC tb nd) (jag Tryz.prog) 26 [.ptr p 0] L H K:=by
 refine Z9 ⟨[(36,[(0,1001)])],[],[]⟩ (jaf (by decide)) f_mk_end (by simp) ?_;simp only[jqH,kkP];have hb:=h.box;have HM:=Z4 h;have HR:=Z4 hr;have HL:=Z4 hL;have HLp:=Z4 hLp;have K2:=Z4 hK2
 cases mk with
 |false=>
  have fin:=Fin.keep (H0:=H) (hK1 rfl);clear hK1 hK2 h hr hL hLp;with_reducible repeat' first|simp only[zQ,seval,X0,hb, *]|simp only[jab]|apply P3|intro _
 |true=>
  have hs:=h.same;clear hK1 hK2 h hr hL hLp;with_reducible repeat' first|simp only[zQ,seval,X0,hb, *]|simp only[jab]|apply P3|intro _
  refine jcV [(0,.ptr p 0)] (dim T) (fun d s' h'=> ∃(m:Nat) (T1:List TB),h'=thH H t g T1∧Stp true m T T1∧d=dim T1) (by repeat' (first|exact trivial|(refine⟨rfl,?_⟩)|(refine⟨by simp only[jaj,X4,reduceIte];assumption,?_⟩))) rfl ⟨0,T,hs.symm,.zero,rfl⟩ ?_;clear hs hb;rintro d s' h' ⟨m,T1,rfl,hS,rfl⟩ ⟨f0,-⟩;have HS:=Z4 hS;clear hS;with_reducible repeat' first|simp only[zQ,seval,X0, *]|simp only[jab]|apply P3|intro _
  have hu:=HM.out.upd HS.out.key;refine step_z hu (HR.out.key HS.out.key) HL.out (fun hno=>?_) (fun T2 hT2=>?_)
  ·have hb1:=hu.box
   have hlen1:=jce HS.out.key;rw[hlen1] at hb1;have hl3:=ja3 (jbz (ex:=false) hu.arr rfl);rw[P2,hlen1] at hl3;have HU:=Z4 hu;have HNO:=Z4 hno;have HL1:=Z4 hlen1;obtain⟨W,hW⟩: ∃W,W=thH H t g T1:=⟨_,rfl⟩;rw[←hW] at hb1 hl3 ⊢;have HW:=Z4 hW;clear hu hno hlen1 hW;with_reducible repeat' first|simp only[zQ,seval,X0,hb1,hl3, *]|simp only[jab]|apply P3|intro _
   refine jaK [(0,.ptr p 0)] T.length (fun k s' h'=>s' 4=Z64 (jcR T1 k)∧h'=thH H t g (Go.Proofs.YtlkapggcppcafaaGreatDoor.endTo T1 k)) (by have:=HM.out.len;omega) ⟨rfl,rfl,rfl,rfl,rfl,rfl⟩ rfl rfl (by repeat' (first|exact trivial|(refine⟨rfl,?_⟩)|(refine⟨by simp only[jaj,X4,reduceIte];assumption,?_⟩))) rfl rfl (by decide) ⟨rfl,by rw[HW.out];unfold Go.Proofs.YtlkapggcppcafaaGreatDoor.endTo;simp⟩ ?_ ?_
   ·clear hb1 hl3
    rintro k s' h' hk ⟨f4,rfl⟩ hi hll ⟨f0,-⟩;have hk1:k<T1.length:=by rw[HL1.out];exact hk
    have hM:=HU.out.endTo k;rw[jeN] at hM;have hb:=hM.box;rw[jfw,HL1.out] at hb;have hx:=endTo_at hk1;rw[U1 hk1] at hx;have hel:=t_el hM (n:=k) (by rw[jfw];exact hk1);rw[jfw,HL1.out] at hel;have hld:=t_ld hM (o:=1) hx;have hnx:=jr1 hk1;have hwn:=jmw hk1;have hwl:=jqX (T:=T1) (k:=k);have hstA:=t_stA hM HL.out hx;have hstC:=t_st hM HL.out hx 0;rw[jeN] at hstA hstC;obtain⟨x,hxe⟩: ∃x,x=T1[k]:=⟨_,rfl⟩;rw[←hxe] at hx hld hnx hwn hstC;have hld:ldZ (thH H t g (Go.Proofs.YtlkapggcppcafaaGreatDoor.endTo T1 k)) none (.eptr t g k 1)=some (Z64 x.2.2.1):=hld.trans rfl;obtain⟨c,hc⟩: ∃c,c=x.2.2.1:=⟨_,rfl⟩;have hexx:endX x=if c=0 then jut else if c=2 then colX x 0 else x:=by rw[hc];rfl
    rw[hexx] at hnx;rw[←hc] at hld hwn;have w1:IntKind.i64.wrap ((jcR T1 k:Int)+1)=((jcR T1 k+1:Nat):Int):=by have:=HM.out.len;have:=HL1.out;rw[Y5 _ (by omega)];omega
    have hsx:(Go.Proofs.YtlkapggcppcafaaGreatDoor.endTo T1 k).set k x=Go.Proofs.YtlkapggcppcafaaGreatDoor.endTo T1 k:=by
     apply U7
     intro j;rw[M1];split
     ·rename_i e;subst e;rw[if_pos (U0.1 hx).1,hx]
     ·rfl
    obtain⟨W2,hW2⟩: ∃W2,W2=thH H t g (Go.Proofs.YtlkapggcppcafaaGreatDoor.endTo T1 k):=⟨_,rfl⟩;rw[←hW2] at hb hel hld hstA hstC ⊢;have HNX:=Z4 hnx;have HWN:=Z4 hwn;have HW2:=Z4 hW2;have HSX:=Z4 hsx;unfold eT at hstA;clear hM hx hnx hwn hwl hxe hc hexx hW2 hsx hk1;by_cases h0:c=0
    ·subst h0
     have e1:((jcR T1 k+1:Nat):Int)=(jcR T1 (k+1):Nat):=by rw[HWN.out,if_pos rfl]
     have e2:thH H t g ((Go.Proofs.YtlkapggcppcafaaGreatDoor.endTo T1 k).set k jut)=thH H t g (Go.Proofs.YtlkapggcppcafaaGreatDoor.endTo T1 (k+1)):=by rw[HNX.out,if_pos rfl]
     have E1:=Z4 e1;have E2:=Z4 e2;clear e1 e2 hstC;with_reducible repeat' first|simp only[zQ,seval,X0,hb,hel,hld,hstA,w1,ownC_fz, *]|simp only[jab]|apply P3|intro _
     all_goals first|exact E1.out|exact E2.out|exact⟨E1.out,E2.out⟩
    ·by_cases h2:c=2
     ·subst h2
      have e1:(jcR T1 k:Int)=(jcR T1 (k+1):Nat):=by rw[HWN.out,if_neg (by decide)];simp
      have e2:thH H t g ((Go.Proofs.YtlkapggcppcafaaGreatDoor.endTo T1 k).set k (colX x 0))=thH H t g (Go.Proofs.YtlkapggcppcafaaGreatDoor.endTo T1 (k+1)):=by rw[HNX.out,if_neg (by decide),if_pos rfl]
      have E1:=Z4 e1;have E2:=Z4 e2;have n20: ¬((2:Int)=0):=by decide
      clear e1 e2 hstA h0;with_reducible repeat' first|simp only[zQ,seval,X0,hb,hel,hld,hstC,n20, *]|simp only[jab]|apply P3|intro _
      all_goals first|exact E1.out|exact E2.out|exact⟨E1.out,E2.out⟩|(rw[←E1.out];done)|exact⟨by rw[←E1.out],E2.out⟩
     ·have e1:(jcR T1 k:Int)=(jcR T1 (k+1):Nat):=by rw[HWN.out,if_neg h0];simp
      have e2:W2=thH H t g (Go.Proofs.YtlkapggcppcafaaGreatDoor.endTo T1 (k+1)):=by rw[HNX.out,if_neg h0,if_neg h2,HSX.out,HW2.out]
      have E1:=Z4 e1;have E2:=Z4 e2;clear e1 e2 hstA hstC;with_reducible repeat' first|simp only[zQ,seval,X0,hb,hel,hld, *]|simp only[jab]|apply P3|intro _
      all_goals first|exact E1.out|exact E2.out|exact⟨E1.out,E2.out⟩|(rw[←E1.out];done)|exact⟨by rw[←E1.out],E2.out⟩
   ·rintro s' h' ⟨f4,rfl⟩ ⟨f0,-⟩
    have e1:Go.Proofs.YtlkapggcppcafaaGreatDoor.endTo T1 T.length=T1.map endX:=by unfold Go.Proofs.YtlkapggcppcafaaGreatDoor.endTo;rw[←HL1.out,K7,List.drop_length,A0]
    have e2:jcR T1 T.length=jin T1:=by unfold jcR;rw[←HL1.out,K7]
    have hM:=HU.out.endTo T.length;rw[jeN] at hM;have hbx:=hM.box;rw[jfw,HL1.out] at hbx;rw[e1] at hbx ⊢;rw[e2] at f4;have hst:stZ L (thH H t g (T1.map endX)) [ZBo false] (.ptr p 1)=some (pH (thH H t g (T1.map endX)) p t g kd false T.length):=by
     rw[jmE];exact⟨_,hbx,HLp.out,by simp,rfl⟩
    have fin:=Fin.keep (H0:=H) (K2.out m T1 rfl HS.out HNO.out);obtain⟨W2,hW2⟩: ∃W2,W2=thH H t g (T1.map endX):=⟨_,rfl⟩;rw[←hW2] at hst fin ⊢;obtain⟨W3,hW3⟩: ∃W3,W3=pH W2 p t g kd false T.length:=⟨_,rfl⟩;rw[←hW3] at hst fin;clear e1 e2 hM hbx hW2 hW3 hb1 hl3;with_reducible repeat' first|simp only[zQ,seval,X0,hst, *]|simp only[jab]|apply P3|intro _
  ·have hd:=jiu hT2
   rw[jeN];have FN:Hid (∃d,d<dim T1∧ ∃(m2:Nat) (T3:List TB),thH H t g T2=thH H t g T3∧Stp true m2 T T3∧d=dim T3):=Z4 ⟨_,hd,_,T2,rfl,HS.out.next hT2,rfl⟩;clear hd hT2 hu;with_reducible repeat' first|simp only[zQ,seval,X0, *]|simp only[jab]|apply P3|intro _
   all_goals first|exact FN.out|(obtain⟨d,q1,m2,T3,q3,q4⟩:=FN.out;exact⟨d,q1,m2,T3,q3,q4⟩)|fail
end
section
open Go Go.RowKit
variable {tb:List (FuncId×Bool)}{nd:Bool}{L:Nat→Bool}{H:ZH}{K:ZV→ZH→Prop}{p t g:Nat}{kd:Int}{mk:Bool}{T:List TB}
noncomputable def jeo (kd:Int)(mk:Bool)(T:List TB)(n:Int)(b:Bool):Int×List TB:=
  if jbO T [n]≠0 then (jbO T [n],T) else
  if b=false∧((T[n.toNat]?).map (·.2.2.2)).getD false=false then (8,T) else
  (0,let T1:=if b=decide (kd=1) then jaz mk T n else T
    match T1[n.toNat]? with
    |some x=>T1.set n.toNat (x.1,x.2.1,x.2.2.1,b)
    |none=>T1)
theorem jeX {l:List Int}(h:jbO T l=0):(∀n∈l,0≤n∧n<(T.length:Int))∧ ∀n∈l,Sn (jfs T) n.toNat:=by
 unfold jbO at h;split at h
 ·rename_i h1
  split at h
  ·rename_i h2;exact⟨h1,h2⟩
  ·cases h
 ·cases h
theorem getB {n:Nat}{x:TB}(hx:T[n]?=some x):((T[n]?).map (·.2.2.2)).getD false=x.2.2.2:=by rw[hx];rfl
theorem hold_z {n:Int}{b:Bool}(h:MkAt H p t g kd mk T)(hr:Rng T)(hL:L t=true)(hK:K (Z64 (jeo kd mk T n b).1) (thH H t g (jeo kd mk T n b).2)):
  ZC (XC tb nd) (jag Tryz.prog) 23 [.ptr p 0,Z64 n,ZBo b] L H K:=by
 refine Z9 Gh.no (jaf (by decide)) juP (by simp) ?_;simp only[jnM,kkP];have hb:=h.box;have HM:=Z4 h;have HR:=Z4 hr;have HL:=Z4 hL;have HK:=Z4 hK;clear hK hr h hL;with_reducible repeat' first|simp only[zQ,seval,X0, *]|simp only[jab]|apply P3|intro _
 refine jow (l:=[n]) HM.out HR.out (fun _=>by simp[ja2]) (by simp) ?_;by_cases he:jbO T [n]=0
 ·obtain⟨h1,h2⟩:=jeX he
  obtain⟨m,rfl⟩:=O1g (h1 n (by simp)).1;have hm:m<T.length:=by have:=(h1 (m:Int) (by simp)).2;omega
  have hx:T[m]?=some T[m]:=U1 hm;have hel:=t_el HM.out hm;obtain⟨x,hxe⟩: ∃x,x=T[m]:=⟨_,rfl⟩;rw[←hxe] at hx;have hld:ldZ H none (.eptr t g m 2)=some (ZBo x.2.2.2):=(t_ld HM.out (o:=2) hx).trans rfl;have hg:=getB hx;have hfin: ∀T1:List TB,T1=(if b=decide (kd=1) then jaz mk T (m:Int) else T)→ ¬(b=false∧x.2.2.2=false)→ ∃y,T1[m]?=some y∧Fin H (Z64 0) (thH H t g (T1.set m (y.1,y.2.1,y.2.2.1,b))) K:=fun T1 hT1 hc=>by
   have hl:T1.length=T.length:=by rw[hT1];split;exact jd2;rfl
   have hy:T1[m]?=some (T1[m]'(by omega)):=U1 _;have:=HK.out;unfold jeo at this;rw[if_neg (by simp[he]),O0f,hg,if_neg hc,← hT1] at this;simp only[hy] at this;exact⟨_,hy,Fin.keep this⟩
  have h8:b=false→x.2.2.2=false→Fin H (Z64 8) H K:=fun e1 e2=>by
   have:=HK.out;unfold jeo at this;rw[if_neg (by simp[he]),O0f,hg,if_pos ⟨e1,e2⟩] at this;simp only[HM.out.same] at this;exact Fin.keep this
  have hke: ∀T1:List TB,T1=(if b=decide (kd=1) then jaz mk T (m:Int) else T)→T1.map keyT=T.map keyT:=fun T1 hT1=>by rw[hT1];split;exact jdH;rfl
  obtain⟨c,hc⟩: ∃c,c=x.2.2.2:=⟨_,rfl⟩;rw[←hc] at hld hfin h8;have HF:=Z4 hfin;have H8:=Z4 h8;have HKE:=Z4 hke;have hm0:(0:Int)≤(m:Int):=by omega
  rw[he];have HX:=Z4 hm;clear hfin h8 hke h1 h2 hx hg hxe hc he
  -- behind the test
  have go: ∀(b0:Bool),b0=b→ ¬(b0=false∧c=false)→True:=fun _ _ _=>trivial
  clear go
  cases b with
  |false=>
   cases c with
   |false=>
    have fin:=H8.out rfl rfl;with_reducible repeat' first|simp only[zQ,seval,X0,hb,hel,hld, *]|simp only[jab]|apply P3|intro _
   |true=>
    by_cases hk1:kd=1
    ·have e0: ¬(false=decide (kd=1)):=by simp[hk1]
     obtain⟨y,hy,fin⟩:=HF.out T (by rw[if_neg e0]) (by simp);have hst:=t_sth HM.out HL.out hy false;subst hk1;clear hy e0 hm;with_reducible repeat' first|simp only[zQ,seval,X0,hb,hel,hld,hst, *]|simp only[jab]|apply P3|intro _
    ·have e0:false=decide (kd=1):=by simp[hk1]
     obtain⟨y,hy,fin⟩:=HF.out _ (by rw[if_pos e0]) (by simp);have hke:=HKE.out _ (by rw[if_pos e0]);have hM2:=HM.out.upd hke;have hb2:=hM2.box;have hel2:=t_el hM2 (n:=m) (by rw[jd2];exact HX.out);rw[jd2] at hb2 hel2;have hst2:=t_sth hM2 HL.out hy false;rw[jeN] at hst2;have HM2:=Z4 hM2;clear hke hM2 hy e0;with_reducible repeat' first|simp only[zQ,seval,X0,hb,hel,hld, *]|simp only[jab]|apply P3|intro _
     refine jfi HM.out HL.out (fun _ _=>by have:=HX.out;omega) ?_;with_reducible repeat' first|simp only[zQ,seval,X0,hb2,hel2,hst2, *]|simp only[jab]|apply P3|intro _
  |true=>
   by_cases hk1:kd=1
   ·have e0:true=decide (kd=1):=by simp[hk1]
    obtain⟨y,hy,fin⟩:=HF.out _ (by rw[if_pos e0]) (by simp);have hke:=HKE.out _ (by rw[if_pos e0]);have hM2:=HM.out.upd hke;have hb2:=hM2.box;have hel2:=t_el hM2 (n:=m) (by rw[jd2];exact HX.out);rw[jd2] at hb2 hel2;have hst2:=t_sth hM2 HL.out hy true;rw[jeN] at hst2;subst hk1;clear hke hM2 hy e0;with_reducible repeat' first|simp only[zQ,seval,X0,hb,hel,hld, *]|simp only[jab]|apply P3|intro _
    refine jfi HM.out HL.out (fun _ _=>by have:=HX.out;omega) ?_;with_reducible repeat' first|simp only[zQ,seval,X0,hb2,hel2,hst2, *]|simp only[jab]|apply P3|intro _
   ·have e0: ¬(true=decide (kd=1)):=by simp[hk1]
    obtain⟨y,hy,fin⟩:=HF.out T (by rw[if_neg e0]) (by simp);have hst:=t_sth HM.out HL.out hy true;clear hy e0;with_reducible repeat' first|simp only[zQ,seval,X0,hb,hel,hld,hst, *]|simp only[jab]|apply P3|intro _
 ·have fin:Fin H (Z64 (jbO T [n])) H K:=by
   have:=HK.out;unfold jeo at this;rw[if_pos he] at this;simp only[HM.out.same] at this;exact Fin.keep this
  obtain⟨e,hee⟩: ∃e,e=jbO T [n]:=⟨_,rfl⟩;rw[←hee] at he fin ⊢;clear hee;with_reducible repeat' first|simp only[zQ,seval,X0, *]|simp only[jab]|apply P3|intro _
end
section
open Go Go.RowKit
variable {tb:List (FuncId×Bool)}{nd:Bool}{L:Nat→Bool}{H:ZH}{K:ZV→ZH→Prop}{p t g:Nat}{kd:Int}{mk:Bool}{T:List TB}
def FrB (p:Nat)(H H':ZH):Prop:= ∀(i:Nat) cs,i≠p→H[i]?=some (.box cs)→H'[i]?=some (.box cs)
theorem FrB.refl:FrB p H H:=fun _ _ _ h=>h
theorem FrB.trans {A B C:ZH}(h1:FrB p A B)(h2:FrB p B C):FrB p A C:=fun i cs hi h=>h2 i cs hi (h1 i cs hi h)
theorem FrB.ext {A X:ZH}:FrB p A (A++X):=fun i cs _ h=>by rw[V5 (jap h)];exact h
theorem FrB.grow {A:ZH}{i g k:Nat}{rows rows':List (List ZV)}{g' k':Nat}(h:A[i]?=some (.grow g k rows)):FrB p A (A.set i (.grow g' k' rows')):=fun j cs _ hj=>by
 rw[O0a (fun e=>by subst e;rw[h] at hj;cases hj)];exact hj
theorem FrB.own {A:ZH}{B:ZB}:FrB p A (A.set p B):=fun j cs hj h=>by rw[O0a (Ne.symm hj)];exact h
theorem MkAt.frT (h:MkAt H p t g kd mk T){T':List TB}{g':Nat}:FrB p H (thH H t g' T'):=FrB.grow h.arr
theorem juc: ∀{l:List TB} {i a j:Nat} {x y:TB},(l.filterMap Prod.fst).Nodup→l[i]?=some x→l[a]?=some y→x.1=some j→y.1=some j→i=a
 |[],i,a,j,x,y,_,h,_,_,_=>by simp at h
 |z::l,0,0,j,x,y,_,_,_,_,_=>rfl
 |z::l,0,a+1,j,x,y,hn,hx,hy,e1,e2=>by
  have hx:z=x:=by simpa using hx
  subst hx;rw[show (z::l).filterMap Prod.fst=j::l.filterMap Prod.fst by simp[O1s,e1]] at hn;exact absurd (D0.2 ⟨y,R5 (by simpa using hy),e2⟩) (O1t.1 hn).1
 |z::l,i+1,0,j,x,y,hn,hx,hy,e1,e2=>by
  have hy:z=y:=by simpa using hy
  subst hy;rw[show (z::l).filterMap Prod.fst=j::l.filterMap Prod.fst by simp[O1s,e2]] at hn;exact absurd (D0.2 ⟨x,R5 (by simpa using hx),e1⟩) (O1t.1 hn).1
 |z::l,i+1,a+1,j,x,y,hn,hx,hy,e1,e2=>by
  have hn2:(l.filterMap Prod.fst).Nodup:=by
   cases hz:z.1 with
   |none=>rw[show (z::l).filterMap Prod.fst=l.filterMap Prod.fst by simp[O1s,hz]] at hn;exact hn
   |some b=>rw[show (z::l).filterMap Prod.fst=b::l.filterMap Prod.fst by simp[O1s,hz]] at hn;exact (O1t.1 hn).2
  have:=juc (i:=i) (a:=a) (x:=x) (y:=y) hn2 (by simpa using hx) (by simpa using hy) e1 e2;omega
theorem MkAt.place (h:MkAt H p t g kd mk T){a j:Nat}{x:TB}(hx:T[a]?=some x)(hj:x.1=some j){pl':List Int}(hl:pl'.length=x.2.1.length):MkAt (H.set j (.grow 0 1 (pl'.map eI))) p t g kd mk (T.set a (x.1,pl',x.2.2)):=by
 have hm:=R5 hx;obtain⟨ht,hp⟩:=h.jt hm hj;have hjx:=h.pl x hm;rw[hj] at hjx;have he:(T.set a (x.1,pl',x.2.2)).map eT=T.map eT:=by
  have e:eT (x.1,pl',x.2.2)=eT x:=by
   obtain⟨o,pl,y⟩:=x;simp only at hj hl ⊢;subst hj
   simp only[eT,plZ,hl]
  rw[O1h,e];apply U7
  intro i;rw[M1];split
  ·rename_i e;subst e;rw[if_pos (by simpa using (U0.1 hx).1),U8,hx];rfl
  ·rfl
 refine⟨by rw[O0a hp,D5];exact h.box,by rw[O0a ht,he];exact h.arr,fun y hy=>?_,?_,by rw[D5];exact h.len,fun y hy=>?_⟩
 ·obtain⟨i,hi,rfl⟩:=M3 hy
  rw[D5] at hi;by_cases e:a=i
  ·subst e
   rw[List.getElem_set_self];simp only[hj];refine⟨fun e=>?_,by rw[H9 (jap hjx.2)]⟩;rw[e] at hl;exact hjx.1 (List.eq_nil_of_length_eq_zero hl.symm)
  ·rw[O1u e]
   have h1:=h.pl T[i] (M4 hi);have h2: ∀j',T[i].1=some j'→j'≠j:=fun j' hj' e2=>by
    subst e2;exact e (juc h.nod (U1 hi) hx hj' hj).symm
   revert h1 h2
   cases T[i].1 with
   |none=>exact fun h1 _=>h1
   |some j'=>exact fun h1 h2=>⟨h1.1,by rw[O0a (Ne.symm (h2 j' rfl))];exact h1.2⟩
 ·have e:(T.set a (x.1,pl',x.2.2)).filterMap Prod.fst=T.filterMap Prod.fst:=by
   have h1: ∀l:List TB,l.filterMap Prod.fst=(l.map Prod.fst).filterMap id:=fun l=>by rw[List.filterMap_map];rfl
   rw[h1,h1 T,O1h];congr 1
   apply U7
   intro i;rw[M1];split
   ·rename_i e;subst e;rw[if_pos (by simpa using (U0.1 hx).1),U8,hx];rfl
   ·rfl
  rw[e];exact h.nod
 ·rcases O1v hy with hy|rfl
  ·exact h.sm y hy
  ·simp only;rw[hl];exact h.sm x hm
def setL (a b:Int):List Int:=if b= -1 then [a] else [a,b]
noncomputable def setT (kd:Int)(mk:Bool)(T:List TB)(a b n:Int):Int×List TB:=
  if jbO T (setL a b)≠0 then (jbO T (setL a b),T) else
  match T[a.toNat]? with
  |none=>(0,T)
  |some x=>if n<0∨(x.2.1.length:Int)≤n then (1,T) else
    (0,let T1:=jaz mk T (if kd=1 then b else x.2.1.getD n.toNat 0)
      match T1[a.toNat]? with
      |some y=>T1.set a.toNat (y.1,x.2.1.set n.toNat b,y.2.2)
      |none=>T1)
noncomputable def setX (kd:Int)(mk:Bool)(T:List TB)(m:Nat)(x:TB)(b n:Int):Int×List TB:=
  if n<0∨(x.2.1.length:Int)≤n then (1,T) else
    (0,match (jaz mk T (if kd=1 then b else x.2.1.getD n.toNat 0))[m]? with
      |some y=>(jaz mk T (if kd=1 then b else x.2.1.getD n.toNat 0)).set m (y.1,x.2.1.set n.toNat b,y.2.2)
      |none=>(jaz mk T (if kd=1 then b else x.2.1.getD n.toNat 0)))
theorem jp2 {m:Nat}{x:TB}{b n:Int}(he:jbO T (setL (m:Int) b)=0)(hx:T[m]?=some x):setT kd mk T (m:Int) b n=setX kd mk T m x b n:=by
 unfold setT setX;rw[if_neg (by simp[he]),O0f,hx]
theorem p_el {j m:Nat}{pl:List Int}(hj:H[j]?=some (.grow 0 1 (pl.map eI)))(hm:m<pl.length):jdd H 1 m (.own j 0 0 pl.length false)=some (.eptr j 0 m 0):=by
 rw[jbQ];exact⟨_,hj,by simp,hm,by simp⟩
theorem p_ld {j m:Nat}{pl:List Int}{y:Int}(hj:H[j]?=some (.grow 0 1 (pl.map eI)))(hm:pl[m]?=some y):ldZ H none (.eptr j 0 m 0)=some (Z64 y):=by
 rw[jbS];exact⟨_,_,eI y,hj,by rw[U8,hm];rfl,rfl⟩
theorem p_st {j m:Nat}{pl:List Int}{b:Int}(hj:H[j]?=some (.grow 0 1 (pl.map eI)))(hm:m<pl.length)(hL:L j=true):stZ L H [Z64 b] (.eptr j 0 m 0)=some (H.set j (.grow 0 1 ((pl.set m b).map eI))):=by
 rw[jfe];refine⟨1,_,eI pl[m],hj,by rw[U8,U1 hm];rfl,hL,by simp,?_⟩;rw[O1h];rfl
theorem jlt {i:Nat}{x y:TB}{T1:List TB}(hk:T1.map keyT=T.map keyT)(hx:T[i]?=some x)(hy:T1[i]?=some y):y.1=x.1∧y.2.1=x.2.1:=by
 have:(T1.map keyT)[i]?=(T.map keyT)[i]?:=by rw[hk]
 rw[U8,U8,hx,hy] at this;injection this with this
 injection this with e1 e2
 exact⟨e1,e2⟩
theorem set_z {dd a b n:Int}(h:MkAt H p t g kd mk T)(hr:Rng T)(hL: ∀i,L i=true)(hK: ∀H',MkAt H' p t g kd mk (setT kd mk T a b n).2→FrB p H H'→K (Z64 (setT kd mk T a b n).1) H'):
  ZC (XC tb nd) (jag Tryz.prog) 22 [.ptr p 0,.agg [Z64 dd,Z64 a,Z64 b,Z64 n]] L H K:=by
 refine Z9 Gh.no (jaf (by decide)) f_mk_set (by simp) ?_;simp only[jqE,kkP];have hb: ∀X,(H++X)[p]?=some (.box [Z64 kd,ZBo mk,.own t g 0 T.length false]):=fun X=>(h.ext X).box
 have HM:=Z4 h;have HR:=Z4 hr;have HL:=Z4 hL;have HK:=Z4 hK;clear hK hr h hL;have hcut: ∀H,cutZ H 1 0 1 2 false (.fz 1 true [[Z64 a],[Z64 (-1)]])=some (.fz 1 false [[Z64 a]]):=fun H=>by simp[cutZ]
 have hn1:natZ (Z64 1)=some 1:=rfl;by_cases hb1:b= -1
 ·subst hb1
  with_reducible repeat' first|simp only[zQ,seval,X0,jug,juf,hcut,hn1,Option.bind_some,Option.isSome_none, *]|simp only[jab]|apply P3|intro _
  refine jow (l:=[a]) (HM.out.ext _) HR.out (fun _=>jaM) (by simp) ?_;clear hcut hn1;by_cases he:jbO T [a]=0
  ·obtain⟨h1,-⟩:=jeX he
   obtain⟨m,hma⟩:=O1g (h1 a (by simp)).1;subst hma;have hm:m<T.length:=by have:=(h1 (m:Int) (by simp)).2;omega
   have hx:T[m]?=some T[m]:=U1 hm;have hmem:T[m]∈T:=M4 hm;obtain⟨x,hxe⟩: ∃x,x=T[m]:=⟨_,rfl⟩;rw[←hxe] at hx hmem;have hel:=fun Y=>t_el (HM.out.ext Y) hm
   have hld: ∀Y,ldZ (H++Y) (some 3) (.eptr t g m 0)=some (.agg [plZ x,Z64 x.2.2.1,ZBo x.2.2.2]):=fun Y=>by
    rw[jbS];exact⟨_,_,eT x,(HM.out.ext Y).arr,by rw[U8,hx];rfl,rfl⟩
   have hcl:(plZ x).isCell=true:=by obtain⟨o,y⟩:=x;cases o<;>rfl
   have hlen: ∀Y,lenZ (H++Y) (plZ x)=some x.2.1.length:=fun Y=>by have:=ja3 ((HM.out.ext Y).rows hmem);rwa [P2] at this
   have hST:setT kd mk T (m:Int) (-1) n=setX kd mk T m x (-1) n:=by
    have e:setL (m:Int) (-1)=[(m:Int)]:=by unfold setL;rw[if_pos rfl]
    exact jp2 (by rw[e];exact he) hx
   unfold setX at hST;have l0:=HL.out H.length;have l1:=HL.out (H.length+1);obtain⟨pz,hpz⟩: ∃pz,pz=plZ x:=⟨_,rfl⟩;obtain⟨c,hc⟩: ∃c,c=x.2.2.1:=⟨_,rfl⟩;obtain⟨hbo,hbo2⟩: ∃hbo,hbo=x.2.2.2:=⟨_,rfl⟩;rw[←hpz,← hc,← hbo2] at hld;rw[←hpz] at hcl hlen;rw[he];have HS:=Z4 hST;have HX:=Z4 hx;have HMM:=Z4 hmem;have HPZ:=Z4 hpz;have HM0:=Z4 hm;have H1:=Z4 h1;have hm0:(0:Int)≤(m:Int):=by omega
   clear hST hx hmem hxe hpz hc hbo2 h1 he;by_cases hno:n<0∨(x.2.1.length:Int)≤n
   ·have fin: ∀X,Fin H (Z64 1) (H++X) K:=fun X=>by
     have hk:=HK.out (H++X) (by rw[HS.out,if_pos hno];exact HM.out.ext X) FrB.ext;rw[HS.out,if_pos hno] at hk;exact Fin.keep hk
    by_cases hn0:n<0
    ·clear hno
     with_reducible repeat' first|simp only[zQ,seval,X0,hb,hel,hld,hcl,hlen,l0,l1, *]|simp only[jab]|apply P3|intro _
    ·have hn1:(x.2.1.length:Int)≤n:=by omega
     clear hno;with_reducible repeat' first|simp only[zQ,seval,X0,hb,hel,hld,hcl,hlen,l0,l1, *]|simp only[jab]|apply P3|intro _
   ·obtain⟨q,rfl⟩:=O1g (show 0≤n by omega)
    have hq:q<x.2.1.length:=by omega
    have hST:=HS.out;rw[if_neg hno,O0f] at hST;obtain⟨j,hj⟩: ∃j,x.1=some j:=by
     have:=HM.out.pl x HMM.out
     cases hj:x.1 with
     |none=>rw[hj] at this;simp only at this;rw[this] at hq;simp at hq
     |some j=>exact⟨j,rfl⟩
    have hpl:=HM.out.pl x HMM.out;rw[hj] at hpl;have hpz1:pz= .own j 0 0 x.2.1.length false:=by rw[HPZ.out];obtain⟨o,y⟩:=x;simp only at hj;subst hj;rfl
    obtain⟨y0,hy0⟩: ∃y0,y0=x.2.1[q]:=⟨_,rfl⟩;have hgd:x.2.1.getD q 0=y0:=by rw[hy0];simp[E7,hq]
    have hyq:x.2.1[q]?=some y0:=by rw[hy0];exact U1 hq
    rw[hgd] at hST;have hyr:=HR.out.rng x HMM.out y0 (by rw[hy0];exact M4 hq);obtain⟨sb,hsb⟩: ∃sb,sb=(if kd=1 then (-1) else y0):=⟨_,rfl⟩;rw[←hsb] at hST;have hsr:0≤sb→sb<(T.length:Int):=fun h0=>by
     rw[hsb] at h0 ⊢;split
     ·rename_i hk;rw[if_pos hk] at h0;omega
     ·exact hyr
    have hkey:(jaz mk T sb).map keyT=T.map keyT:=jdH;have hM1:=HM.out.upd hkey;have hs1:m<(jaz mk T sb).length:=by rw[jce hkey];exact HM0.out
    have hy1:(jaz mk T sb)[m]?=some ((jaz mk T sb)[m]'hs1):=U1 hs1;obtain⟨y,hye⟩: ∃y,y=((jaz mk T sb)[m]'hs1):=⟨_,rfl⟩;rw[←hye] at hy1;rw[hy1] at hST;simp only at hST;obtain⟨k1,k2⟩:=jlt hkey HX.out hy1;have hjW:(thH H t g (jaz mk T sb))[j]?=some (.grow 0 1 (x.2.1.map eI)):=by
     have h3:=hM1.pl y (R5 hy1);rw[k1,hj,k2] at h3;exact h3.2
    have hM2:=hM1.place hy1 (k1.trans hj) (pl':=x.2.1.set q (-1)) (by rw[k2];simp);obtain⟨W,hW⟩: ∃W,W=thH H t g (jaz mk T sb):=⟨_,rfl⟩;rw[←hW] at hM1 hjW hM2;have hWl:W.length=H.length:=by rw[hW];simp
    have fr:FrB p H W:=by rw[hW];exact HM.out.frT
    have fin: ∀X,Fin H (Z64 0) (W.set j (.grow 0 1 ((x.2.1.set q (-1)).map eI))++X) K:=fun X=>by
     have hk:=HK.out (W.set j (.grow 0 1 ((x.2.1.set q (-1)).map eI))++X) (by rw[hST];exact hM2.ext X) (fr.trans ((FrB.grow hjW).trans FrB.ext));rw[hST] at hk;exact Fin.keep hk
    have e: ∀Y,thH (H++Y) t g (jaz mk T sb)=W++Y:=fun Y=>by
     rw[hW];unfold thH;rw[O0k _ _ (jap HM.out.arr)]
    have hjX: ∀Y,(W++Y)[j]?=some (.grow 0 1 (x.2.1.map eI)):=fun Y=>by rw[V5 (jap hjW)];exact hjW
    have hjH: ∀Y,(H++Y)[j]?=some (.grow 0 1 (x.2.1.map eI)):=fun Y=>by rw[V5 (jap hpl.2)];exact hpl.2
    have r0: ∀A B:ZB,(W++[A,B])[H.length]?=some A:=fun A B=>by rw[←hWl];exact jeC _ _
    have r1: ∀A B:ZB,(W++[A,B])[H.length+1]?=some B:=fun A B=>by rw[←hWl];exact mv_at1 _ _ _
    have pe: ∀Y,jdd (H++Y) 1 q pz=some (.eptr j 0 q 0):=fun Y=>by rw[hpz1];exact p_el (hjH Y) hq
    have pld: ∀Y,ldZ (H++Y) none (.eptr j 0 q 0)=some (Z64 y0):=fun Y=>p_ld (hjH Y) hyq
    have we: ∀Y,jdd (W++Y) 1 q pz=some (.eptr j 0 q 0):=fun Y=>by rw[hpz1];exact p_el (hjX Y) hq
    have wst: ∀Y,stZ L (W++Y) [Z64 (-1)] (.eptr j 0 q 0)=some (W.set j (.grow 0 1 ((x.2.1.set q (-1)).map eI))++Y):=fun Y=>by
     rw[p_st (hjX Y) hq (HL.out j),O0k _ _ (jap hjW)]
    obtain⟨W2,hW2⟩: ∃W2,W2=W.set j (.grow 0 1 ((x.2.1.set q (-1)).map eI)):=⟨_,rfl⟩;rw[←hW2] at wst fin;have HE:=Z4 e;have HSR:=Z4 hsr;have HSB:=Z4 hsb;have hq0: ¬((q:Int)<0):=by omega
    have hq1: ¬((x.2.1.length:Int)≤(q:Int)):=by omega
    have hq2:(0:Int)≤(q:Int):=by omega
    clear hST hj hpl hpz1 hy0 hgd hyq hyr hsb hsr hkey hM1 hs1 hy1 hye k1 k2 hjW hM2 hW hWl fr e hjX hjH hW2 hno;by_cases hk1:kd=1
    ·have hs:sb=(-1):=by rw[HSB.out,if_pos hk1]
     subst hk1;clear pe pld;with_reducible repeat' first|simp only[zQ,seval,X0,hb,hel,hld,hcl,hlen,l0,l1, *]|simp only[jab]|apply P3|intro _
     rw[←hs];rw[←hs] at wst;refine jfi (HM.out.ext _) (HL.out t) (fun _ h0=>HSR.out h0) ?_;rw[HE.out];have hs2:=Z4 hs;clear hs hel hld hlen hb;with_reducible repeat' first|simp only[zQ,seval,X0,r0,r1,we,wst, *]|simp only[jab]|apply P3|intro _
    ·have hs:sb=y0:=by rw[HSB.out,if_neg hk1]
     with_reducible repeat' first|simp only[zQ,seval,X0,hb,hel,hld,hcl,hlen,l0,l1,pe,pld, *]|simp only[jab]|apply P3|intro _
     rw[←hs];refine jfi (HM.out.ext _) (HL.out t) (fun _ h0=>HSR.out h0) ?_;rw[HE.out];clear hs hel hld hlen hb pe pld;with_reducible repeat' first|simp only[zQ,seval,X0,r0,r1,we,wst, *]|simp only[jab]|apply P3|intro _
  ·have e:setL a (-1)=[a]:=by unfold setL;rw[if_pos rfl]
   have fin: ∀X,Fin H (Z64 (jbO T [a])) (H++X) K:=fun X=>by
    have hST:setT kd mk T a (-1) n=(jbO T [a],T):=by unfold setT;rw[e,if_pos he]
    have hk:=HK.out (H++X) (by rw[hST];exact HM.out.ext X) FrB.ext;rw[hST] at hk;exact Fin.keep hk
   obtain⟨ee,hee⟩: ∃ee,ee=jbO T [a]:=⟨_,rfl⟩;rw[←hee] at he fin ⊢;clear hee e;with_reducible repeat' first|simp only[zQ,seval,X0,hb, *]|simp only[jab]|apply P3|intro _
 ·have HB1:=Z4 hb1
  clear hcut hn1;with_reducible repeat' first|simp only[zQ,seval,X0, *]|simp only[jab]|apply P3|intro _
  refine jow (l:=[a,b]) (HM.out.ext _) HR.out (fun _=>jaM) (by simp) ?_;clear hb1;by_cases he:jbO T [a,b]=0
  ·obtain⟨h1,-⟩:=jeX he
   obtain⟨m,hma⟩:=O1g (h1 a (by simp)).1;subst hma;have hm:m<T.length:=by have:=(h1 (m:Int) (by simp)).2;omega
   have hx:T[m]?=some T[m]:=U1 hm;have hmem:T[m]∈T:=M4 hm;obtain⟨x,hxe⟩: ∃x,x=T[m]:=⟨_,rfl⟩;rw[←hxe] at hx hmem;have hel:=fun Y=>t_el (HM.out.ext Y) hm
   have hld: ∀Y,ldZ (H++Y) (some 3) (.eptr t g m 0)=some (.agg [plZ x,Z64 x.2.2.1,ZBo x.2.2.2]):=fun Y=>by
    rw[jbS];exact⟨_,_,eT x,(HM.out.ext Y).arr,by rw[U8,hx];rfl,rfl⟩
   have hcl:(plZ x).isCell=true:=by obtain⟨o,y⟩:=x;cases o<;>rfl
   have hlen: ∀Y,lenZ (H++Y) (plZ x)=some x.2.1.length:=fun Y=>by have:=ja3 ((HM.out.ext Y).rows hmem);rwa [P2] at this
   have hST:setT kd mk T (m:Int) (b) n=setX kd mk T m x (b) n:=by
    have e:setL (m:Int) (b)=[(m:Int),b]:=by unfold setL;rw[if_neg HB1.out]
    exact jp2 (by rw[e];exact he) hx
   unfold setX at hST;have l0:=HL.out H.length;have l1:=HL.out (H.length+1);obtain⟨pz,hpz⟩: ∃pz,pz=plZ x:=⟨_,rfl⟩;obtain⟨c,hc⟩: ∃c,c=x.2.2.1:=⟨_,rfl⟩;obtain⟨hbo,hbo2⟩: ∃hbo,hbo=x.2.2.2:=⟨_,rfl⟩;rw[←hpz,← hc,← hbo2] at hld;rw[←hpz] at hcl hlen;rw[he];have HS:=Z4 hST;have HX:=Z4 hx;have HMM:=Z4 hmem;have HPZ:=Z4 hpz;have HM0:=Z4 hm;have H1:=Z4 h1;have hm0:(0:Int)≤(m:Int):=by omega
   clear hST hx hmem hxe hpz hc hbo2 h1 he;by_cases hno:n<0∨(x.2.1.length:Int)≤n
   ·have fin: ∀X,Fin H (Z64 1) (H++X) K:=fun X=>by
     have hk:=HK.out (H++X) (by rw[HS.out,if_pos hno];exact HM.out.ext X) FrB.ext;rw[HS.out,if_pos hno] at hk;exact Fin.keep hk
    by_cases hn0:n<0
    ·clear hno
     with_reducible repeat' first|simp only[zQ,seval,X0,hb,hel,hld,hcl,hlen,l0,l1, *]|simp only[jab]|apply P3|intro _
    ·have hn1:(x.2.1.length:Int)≤n:=by omega
     clear hno;with_reducible repeat' first|simp only[zQ,seval,X0,hb,hel,hld,hcl,hlen,l0,l1, *]|simp only[jab]|apply P3|intro _
   ·obtain⟨q,rfl⟩:=O1g (show 0≤n by omega)
    have hq:q<x.2.1.length:=by omega
    have hST:=HS.out;rw[if_neg hno,O0f] at hST;obtain⟨j,hj⟩: ∃j,x.1=some j:=by
     have:=HM.out.pl x HMM.out
     cases hj:x.1 with
     |none=>rw[hj] at this;simp only at this;rw[this] at hq;simp at hq
     |some j=>exact⟨j,rfl⟩
    have hpl:=HM.out.pl x HMM.out;rw[hj] at hpl;have hpz1:pz= .own j 0 0 x.2.1.length false:=by rw[HPZ.out];obtain⟨o,y⟩:=x;simp only at hj;subst hj;rfl
    obtain⟨y0,hy0⟩: ∃y0,y0=x.2.1[q]:=⟨_,rfl⟩;have hgd:x.2.1.getD q 0=y0:=by rw[hy0];simp[E7,hq]
    have hyq:x.2.1[q]?=some y0:=by rw[hy0];exact U1 hq
    rw[hgd] at hST;have hyr:=HR.out.rng x HMM.out y0 (by rw[hy0];exact M4 hq);obtain⟨sb,hsb⟩: ∃sb,sb=(if kd=1 then (b) else y0):=⟨_,rfl⟩;rw[←hsb] at hST;have hsr:0≤sb→sb<(T.length:Int):=fun h0=>by
     rw[hsb] at h0 ⊢;split
     ·rename_i hk;rw[if_pos hk] at h0;exact (H1.out b (by simp)).2
     ·exact hyr
    have hkey:(jaz mk T sb).map keyT=T.map keyT:=jdH;have hM1:=HM.out.upd hkey;have hs1:m<(jaz mk T sb).length:=by rw[jce hkey];exact HM0.out
    have hy1:(jaz mk T sb)[m]?=some ((jaz mk T sb)[m]'hs1):=U1 hs1;obtain⟨y,hye⟩: ∃y,y=((jaz mk T sb)[m]'hs1):=⟨_,rfl⟩;rw[←hye] at hy1;rw[hy1] at hST;simp only at hST;obtain⟨k1,k2⟩:=jlt hkey HX.out hy1;have hjW:(thH H t g (jaz mk T sb))[j]?=some (.grow 0 1 (x.2.1.map eI)):=by
     have h3:=hM1.pl y (R5 hy1);rw[k1,hj,k2] at h3;exact h3.2
    have hM2:=hM1.place hy1 (k1.trans hj) (pl':=x.2.1.set q (b)) (by rw[k2];simp);obtain⟨W,hW⟩: ∃W,W=thH H t g (jaz mk T sb):=⟨_,rfl⟩;rw[←hW] at hM1 hjW hM2;have hWl:W.length=H.length:=by rw[hW];simp
    have fr:FrB p H W:=by rw[hW];exact HM.out.frT
    have fin: ∀X,Fin H (Z64 0) (W.set j (.grow 0 1 ((x.2.1.set q (b)).map eI))++X) K:=fun X=>by
     have hk:=HK.out (W.set j (.grow 0 1 ((x.2.1.set q (b)).map eI))++X) (by rw[hST];exact hM2.ext X) (fr.trans ((FrB.grow hjW).trans FrB.ext));rw[hST] at hk;exact Fin.keep hk
    have e: ∀Y,thH (H++Y) t g (jaz mk T sb)=W++Y:=fun Y=>by
     rw[hW];unfold thH;rw[O0k _ _ (jap HM.out.arr)]
    have hjX: ∀Y,(W++Y)[j]?=some (.grow 0 1 (x.2.1.map eI)):=fun Y=>by rw[V5 (jap hjW)];exact hjW
    have hjH: ∀Y,(H++Y)[j]?=some (.grow 0 1 (x.2.1.map eI)):=fun Y=>by rw[V5 (jap hpl.2)];exact hpl.2
    have r0: ∀A B:ZB,(W++[A,B])[H.length]?=some A:=fun A B=>by rw[←hWl];exact jeC _ _
    have r1: ∀A B:ZB,(W++[A,B])[H.length+1]?=some B:=fun A B=>by rw[←hWl];exact mv_at1 _ _ _
    have pe: ∀Y,jdd (H++Y) 1 q pz=some (.eptr j 0 q 0):=fun Y=>by rw[hpz1];exact p_el (hjH Y) hq
    have pld: ∀Y,ldZ (H++Y) none (.eptr j 0 q 0)=some (Z64 y0):=fun Y=>p_ld (hjH Y) hyq
    have we: ∀Y,jdd (W++Y) 1 q pz=some (.eptr j 0 q 0):=fun Y=>by rw[hpz1];exact p_el (hjX Y) hq
    have wst: ∀Y,stZ L (W++Y) [Z64 (b)] (.eptr j 0 q 0)=some (W.set j (.grow 0 1 ((x.2.1.set q (b)).map eI))++Y):=fun Y=>by
     rw[p_st (hjX Y) hq (HL.out j),O0k _ _ (jap hjW)]
    obtain⟨W2,hW2⟩: ∃W2,W2=W.set j (.grow 0 1 ((x.2.1.set q (b)).map eI)):=⟨_,rfl⟩;rw[←hW2] at wst fin;have HE:=Z4 e;have HSR:=Z4 hsr;have HSB:=Z4 hsb;have hq0: ¬((q:Int)<0):=by omega
    have hq1: ¬((x.2.1.length:Int)≤(q:Int)):=by omega
    have hq2:(0:Int)≤(q:Int):=by omega
    clear hST hj hpl hpz1 hy0 hgd hyq hyr hsb hsr hkey hM1 hs1 hy1 hye k1 k2 hjW hM2 hW hWl fr e hjX hjH hW2 hno;by_cases hk1:kd=1
    ·have hs:sb=(b):=by rw[HSB.out,if_pos hk1]
     subst hk1;clear pe pld;with_reducible repeat' first|simp only[zQ,seval,X0,hb,hel,hld,hcl,hlen,l0,l1, *]|simp only[jab]|apply P3|intro _
     rw[←hs];rw[←hs] at wst;refine jfi (HM.out.ext _) (HL.out t) (fun _ h0=>HSR.out h0) ?_;rw[HE.out];have hs2:=Z4 hs;clear hs hel hld hlen hb;with_reducible repeat' first|simp only[zQ,seval,X0,r0,r1,we,wst, *]|simp only[jab]|apply P3|intro _
    ·have hs:sb=y0:=by rw[HSB.out,if_neg hk1]
     with_reducible repeat' first|simp only[zQ,seval,X0,hb,hel,hld,hcl,hlen,l0,l1,pe,pld, *]|simp only[jab]|apply P3|intro _
     rw[←hs];refine jfi (HM.out.ext _) (HL.out t) (fun _ h0=>HSR.out h0) ?_;rw[HE.out];clear hs hel hld hlen hb pe pld;with_reducible repeat' first|simp only[zQ,seval,X0,r0,r1,we,wst, *]|simp only[jab]|apply P3|intro _
  ·have e:setL a (b)=[a,b]:=by unfold setL;rw[if_neg HB1.out]
   have fin: ∀X,Fin H (Z64 (jbO T [a,b])) (H++X) K:=fun X=>by
    have hST:setT kd mk T a (b) n=(jbO T [a,b],T):=by unfold setT;rw[e,if_pos he]
    have hk:=HK.out (H++X) (by rw[hST];exact HM.out.ext X) FrB.ext;rw[hST] at hk;exact Fin.keep hk
   obtain⟨ee,hee⟩: ∃ee,ee=jbO T [a,b]:=⟨_,rfl⟩;rw[←hee] at he fin ⊢;clear hee e;with_reducible repeat' first|simp only[zQ,seval,X0,hb, *]|simp only[jab]|apply P3|intro _
end
section
open Go Go.RowKit
variable {tb:List (FuncId×Bool)}{nd:Bool}{L:Nat→Bool}{H:ZH}{K:ZV→ZH→Prop}{p t g:Nat}{kd:Int}{mk:Bool}{T:List TB}
theorem jt1 {z:ZV}{x:Int}(hz:ja2 H 1 z=some [[Z64 x]])(hK:K (.fz 1 false []) H):
  ZC (XC tb nd) (jag Tryz.prog) 42 [z,Z64 ((0:Nat):Int)] L H K:=by
 refine ZC.frzF (n:=0) (k:=1) (rows:=[]) (jp7 hz (by omega) ⟨rfl,rfl⟩) rfl rfl hK
theorem MkAt.push (h:MkAt H p t g kd mk T){x:TB}{Y:ZH}(hlen:T.length<100)(hsm:x.2.1.length≤10)(hx:(x.1=none∧x.2.1=[])∨ ∃j,x.1=some j∧x.2.1≠[]∧H.length≤j∧(H++Y)[j]?=some (.grow 0 1 (x.2.1.map eI))):
  MkAt (((H++Y).set t (.grow (g+1) 3 ((T++[x]).map eT))).set p (.box [Z64 kd,ZBo mk,.own t (g+1) 0 (T.length+1) false])) p t (g+1) kd mk (T++[x]):=by
 have h0:=h.ext Y;have hpl:=jap h0.box;have htl:=jap h0.arr;refine⟨by rw[H9 (by rw[D5];exact hpl),G3];rfl,by rw[O0a h.pt,H9 htl],fun y hy=>?_,?_,by simp;omega,fun y hy=>?_⟩
 ·rcases O3.1 hy with hy|hy
  ·have h1:=h0.pl y hy
   have h2: ∀j,y.1=some j→j≠t∧j≠p:=fun j hj=>h0.jt hy hj
   revert h1 h2
   cases y.1 with
   |none=>exact fun h1 _=>h1
   |some j=>exact fun h1 h2=>⟨h1.1,by rw[O0a (Ne.symm (h2 j rfl).2),O0a (Ne.symm (h2 j rfl).1)];exact h1.2⟩
  ·rw[X6.1 hy]
   rcases hx with⟨e1,e2⟩|⟨j,e1,e2,e3,e4⟩
   ·rw[e1];exact e2
   ·rw[e1]
    have:=jap h.box;have:=jap h.arr;exact⟨e2,by rw[O0a (by omega),O0a (by omega)];exact e4⟩
 ·rw[O1p]
  rcases hx with⟨e1,e2⟩|⟨j,e1,e2,e3,e4⟩
  ·rw[show [x].filterMap Prod.fst=[] by simp[O1s,e1],A0];exact h.nod
  ·rw[show [x].filterMap Prod.fst=[j] by simp[O1s,e1],List.nodup_append]
   refine⟨h.nod,by simp,fun a ha b hb e=>?_⟩;simp at hb;subst hb;subst e
   obtain⟨y,hy,e5⟩:=D0.1 ha;have h1:=h.pl y hy;rw[e5] at h1;have:=jap h1.2;omega
 ·rcases O3.1 hy with hy|hy
  ·exact h.sm y hy
  ·rw[X6.1 hy];exact hsm
def jaJ (mk:Bool)(n:Int)(o:Option Nat):TB:=(o,O6 n.toNat (-1),if mk=true then 2 else 0,true)
structure MadeT (mk:Bool)(T:List TB)(n:Int)(r e:Int)(T':List TB):Prop where
  arg:n<0∨10<n→r=0∧e=1∧T'=T
  large: ¬(n<0∨10<n)→100≤T.length→r=0∧e=2∧T'=T
  ok: ¬(n<0∨10<n)→T.length<100→r=T.length∧e=0∧ ∃o,T'=T++[jaJ mk n o]
theorem make_z {n:Int}(h:MkAt H p t g kd mk T)(hL: ∀i,L i=true)(hK: ∀H' g' r e T',MadeT mk T n r e T'→MkAt H' p t g' kd mk T'→FrB p H H'→K (.tuple [Z64 r,Z64 e]) H'):
  ZC (XC tb nd) (jag Tryz.prog) 21 [.ptr p 0,Z64 n] L H K:=by
 refine Z9 ⟨[],[36],[]⟩ (jaf (by decide)) juM (by simp) ?_;simp only[jnJ,kkP];have hb:=h.box;have h3:ja2 H 3 (.own t g 0 T.length false)=some (T.map eT):=jbz h.arr (by simp);have hl3:=ja3 h3;rw[P2] at hl3;have HM:=Z4 h;have HL:=Z4 hL;have HK:=Z4 hK;clear hK h hL h3;by_cases ha:n<0∨10<n
 ·have fin:Fin H (.tuple [Z64 0,Z64 1]) H K:=Fin.keep (HK.out H g 0 1 T ⟨fun _=>⟨rfl,rfl,rfl⟩,fun h=>absurd ha h,fun h=>absurd ha h⟩ HM.out FrB.refl)
  by_cases hn:n<0
  ·clear ha
   with_reducible repeat' first|simp only[zQ,seval,X0,hb,hl3, *]|simp only[jab]|apply P3|intro _
  ·have hn2:10<n:=by omega
   clear ha;with_reducible repeat' first|simp only[zQ,seval,X0,hb,hl3, *]|simp only[jab]|apply P3|intro _
 ·by_cases hl:100≤T.length
  ·have fin:Fin H (.tuple [Z64 0,Z64 2]) H K:=Fin.keep (HK.out H g 0 2 T ⟨fun h=>absurd h ha,fun _ _=>⟨rfl,rfl,rfl⟩,fun _ h=>absurd hl (by omega)⟩ HM.out FrB.refl)
   have g1: ¬n<0:=by omega
   have g2: ¬10<n:=by omega
   have g3:(100:Int)≤(T.length:Int):=by omega
   clear ha hl;with_reducible repeat' first|simp only[zQ,seval,X0,hb,hl3, *]|simp only[jab]|apply P3|intro _
  ·obtain⟨m,rfl⟩:=O1g (show 0≤n by omega)
   have hm:m≤10:=by omega
   have g1: ¬(m:Int)<0:=by omega
   have g2: ¬10<(m:Int):=by omega
   have g3: ¬(100:Int)≤(T.length:Int):=by omega
   have HA:=Z4 ha;have HT:=Z4 hl;have HMM:=Z4 hm;clear ha hl hm;have hbX: ∀Y,(H++Y)[p]?=some (.box [Z64 kd,ZBo mk,.own t g 0 T.length false]):=fun Y=>(HM.out.ext Y).box
   have hap: ∀x Y,appZ L (H++Y) 3 40 [eT x] (.own t g 0 T.length false)=some (.own t (g+1) 0 (T.length+1) false,(H++Y).set t (.grow (g+1) 3 ((T++[x]).map eT))):=fun x Y=>by
    rw[jlW (HM.out.ext Y).arr (by simp) (by have:=HT.out;unfold reach;simp;omega) (HL.out t),L3];rfl
   have hst: ∀x Y,stZ L ((H++Y).set t (.grow (g+1) 3 ((T++[x]).map eT))) [.own t (g+1) 0 (T.length+1) false] (.ptr p 2)=some (((H++Y).set t (.grow (g+1) 3 ((T++[x]).map eT))).set p (.box [Z64 kd,ZBo mk,.own t (g+1) 0 (T.length+1) false])):=fun x Y=>by
    rw[jmE];exact⟨_,by rw[O0a (Ne.symm HM.out.pt)];exact hbX Y,HL.out p,by simp,rfl⟩
   have fin: ∀(o:Option Nat) (Y:ZH),((jaJ mk m o).1=none∧(jaJ mk m o).2.1=[])∨(∃j,(jaJ mk m o).1=some j∧(jaJ mk m o).2.1≠[]∧H.length≤j∧(H++Y)[j]?=some (.grow 0 1 ((jaJ mk m o).2.1.map eI)))→
     Fin H (.tuple [Z64 T.length,Z64 0]) (((H++Y).set t (.grow (g+1) 3 ((T++[jaJ mk m o]).map eT))).set p (.box [Z64 kd,ZBo mk,.own t (g+1) 0 (T.length+1) false])) K:=fun o Y hx=>by
    have hM2:=HM.out.push (x:=jaJ mk m o) (Y:=Y) (by have:=HT.out;omega) (by simp[jaJ];exact HMM.out) hx;exact Fin.keep (HK.out _ _ _ _ _ ⟨fun h=>absurd h HA.out,fun _ h=>absurd h HT.out,fun _ _=>⟨rfl,rfl,o,rfl⟩⟩ hM2 (FrB.ext.trans ((FrB.grow (HM.out.ext Y).arr).trans FrB.own)))
   have hl4: ∀x Y,lenZ (((H++Y).set t (.grow (g+1) 3 ((T++[x]).map eT))).set p (.box [Z64 kd,ZBo mk,.own t (g+1) 0 (T.length+1) false])) (.own t (g+1) 0 (T.length+1) false)=some (T.length+1):=fun x Y=>by
    have hq:(((H++Y).set t (.grow (g+1) 3 ((T++[x]).map eT))).set p (.box [Z64 kd,ZBo mk,.own t (g+1) 0 (T.length+1) false]))[t]?=some (.grow (g+1) 3 ((T++[x]).map eT)):=by
     rw[O0a HM.out.pt,H9 (jap (HM.out.ext Y).arr)]
    have:=ja3 (jbz (ex:=false) hq rfl);simpa using this
   have hb4: ∀x Y,(((H++Y).set t (.grow (g+1) 3 ((T++[x]).map eT))).set p (.box [Z64 kd,ZBo mk,.own t (g+1) 0 (T.length+1) false]))[p]?=some (.box [Z64 kd,ZBo mk,.own t (g+1) 0 (T.length+1) false]):=fun x Y=>by
    rw[H9 (by rw[D5];exact jap (hbX Y))]
   have w1:IntKind.i64.wrap (((T.length+1:Nat):Int) - 1)=(T.length:Int):=by have:=HT.out;rw[Y5 _ (by omega)];omega
   have FN:=Z4 fin;have HAP:=Z4 hap;have HST:=Z4 hst;have HL4:=Z4 hl4;have HB4:=Z4 hb4;have l0:=HL.out H.length;have l1:=HL.out (H.length+1);clear fin hap hst hl4 hb4;rcases Nat.eq_zero_or_pos m with rfl|hp
   ·with_reducible repeat' first|simp only[zQ,seval,X0,hb,hl3,l0, *]|simp only[jab]|apply P3|intro _
    refine jt1 (x:= -1) jaM ?_
    cases mk with
    |true=>
     have fin:=FN.out none [.box (eT (jaJ true (0:Nat) none)),.grow 0 3 [eT (jaJ true (0:Nat) none)]] (.inl ⟨rfl,rfl⟩);have hap:=HAP.out (jaJ true (0:Nat) none) [.box (eT (jaJ true (0:Nat) none)),.grow 0 3 [eT (jaJ true (0:Nat) none)]];have hst:=HST.out (jaJ true (0:Nat) none) [.box (eT (jaJ true (0:Nat) none)),.grow 0 3 [eT (jaJ true (0:Nat) none)]];have hl4:=HL4.out (jaJ true (0:Nat) none) [.box (eT (jaJ true (0:Nat) none)),.grow 0 3 [eT (jaJ true (0:Nat) none)]];have hb4:=HB4.out (jaJ true (0:Nat) none) [.box (eT (jaJ true (0:Nat) none)),.grow 0 3 [eT (jaJ true (0:Nat) none)]];have e:eT (jaJ true (0:Nat) none)=[.fz 1 false [],Z64 2,ZBo true]:=rfl;rw[e] at fin hap hst hl4 hb4;obtain⟨R,hR⟩: ∃R,R=(T++[(jaJ true (0:Nat) none)]).map eT:=⟨_,rfl⟩;rw[←hR] at fin hap hst hl4 hb4;clear hR e;with_reducible repeat' first|simp only[zQ,seval,X0,hbX,hap,hst,hl4,hb4,w1,l0, *]|simp only[jab]|apply P3|intro _
    |false=>
     have fin:=FN.out none [.box (eT (jaJ false (0:Nat) none)),.grow 0 3 [eT (jaJ false (0:Nat) none)]] (.inl ⟨rfl,rfl⟩);have hap:=HAP.out (jaJ false (0:Nat) none) [.box (eT (jaJ false (0:Nat) none)),.grow 0 3 [eT (jaJ false (0:Nat) none)]];have hst:=HST.out (jaJ false (0:Nat) none) [.box (eT (jaJ false (0:Nat) none)),.grow 0 3 [eT (jaJ false (0:Nat) none)]];have hl4:=HL4.out (jaJ false (0:Nat) none) [.box (eT (jaJ false (0:Nat) none)),.grow 0 3 [eT (jaJ false (0:Nat) none)]];have hb4:=HB4.out (jaJ false (0:Nat) none) [.box (eT (jaJ false (0:Nat) none)),.grow 0 3 [eT (jaJ false (0:Nat) none)]];have e:eT (jaJ false (0:Nat) none)=[.fz 1 false [],Z64 0,ZBo true]:=rfl;rw[e] at fin hap hst hl4 hb4;obtain⟨R,hR⟩: ∃R,R=(T++[(jaJ false (0:Nat) none)]).map eT:=⟨_,rfl⟩;rw[←hR] at fin hap hst hl4 hb4;clear hR e;with_reducible repeat' first|simp only[zQ,seval,X0,hbX,hap,hst,hl4,hb4,w1,l0, *]|simp only[jab]|apply P3|intro _
   ·with_reducible repeat' first|simp only[zQ,seval,X0,hb,hl3,l0, *]|simp only[jab]|apply P3|intro _
    refine jp7 (x:= -1) jaM (by have:=HMM.out;omega) ?_
    cases mk with
    |true=>
     have fin:=FN.out (some H.length) [.grow 0 1 ((O6 m (-1)).map eI),.box (eT (jaJ true m (some H.length))),.grow 0 3 [eT (jaJ true m (some H.length))]] (.inr ⟨H.length,rfl,by simp[jaJ];omega,V2 _,by rw[N0 (V2 _),B4];simp[jaJ]⟩);have hap:=HAP.out (jaJ true m (some H.length)) [.grow 0 1 ((O6 m (-1)).map eI),.box (eT (jaJ true m (some H.length))),.grow 0 3 [eT (jaJ true m (some H.length))]];have hst:=HST.out (jaJ true m (some H.length)) [.grow 0 1 ((O6 m (-1)).map eI),.box (eT (jaJ true m (some H.length))),.grow 0 3 [eT (jaJ true m (some H.length))]];have hl4:=HL4.out (jaJ true m (some H.length)) [.grow 0 1 ((O6 m (-1)).map eI),.box (eT (jaJ true m (some H.length))),.grow 0 3 [eT (jaJ true m (some H.length))]];have hb4:=HB4.out (jaJ true m (some H.length)) [.grow 0 1 ((O6 m (-1)).map eI),.box (eT (jaJ true m (some H.length))),.grow 0 3 [eT (jaJ true m (some H.length))]];have e:eT (jaJ true m (some H.length))=[.own H.length 0 0 m false,Z64 2,ZBo true]:=by simp[jaJ,eT,plZ]
     rw[e] at fin hap hst hl4 hb4;obtain⟨R,hR⟩: ∃R,R=(T++[(jaJ true m (some H.length))]).map eT:=⟨_,rfl⟩;rw[←hR] at fin hap hst hl4 hb4;obtain⟨Q,hQ⟩: ∃Q,Q=(O6 m (-1)).map eI:=⟨_,rfl⟩;rw[←hQ] at fin hap hst hl4 hb4 ⊢;clear hQ hp;clear hR e;with_reducible repeat' first|simp only[zQ,seval,X0,hbX,hap,hst,hl4,hb4,w1,l0,l1, *]|simp only[jab]|apply P3|intro _
    |false=>
     have fin:=FN.out (some H.length) [.grow 0 1 ((O6 m (-1)).map eI),.box (eT (jaJ false m (some H.length))),.grow 0 3 [eT (jaJ false m (some H.length))]] (.inr ⟨H.length,rfl,by simp[jaJ];omega,V2 _,by rw[N0 (V2 _),B4];simp[jaJ]⟩);have hap:=HAP.out (jaJ false m (some H.length)) [.grow 0 1 ((O6 m (-1)).map eI),.box (eT (jaJ false m (some H.length))),.grow 0 3 [eT (jaJ false m (some H.length))]];have hst:=HST.out (jaJ false m (some H.length)) [.grow 0 1 ((O6 m (-1)).map eI),.box (eT (jaJ false m (some H.length))),.grow 0 3 [eT (jaJ false m (some H.length))]];have hl4:=HL4.out (jaJ false m (some H.length)) [.grow 0 1 ((O6 m (-1)).map eI),.box (eT (jaJ false m (some H.length))),.grow 0 3 [eT (jaJ false m (some H.length))]];have hb4:=HB4.out (jaJ false m (some H.length)) [.grow 0 1 ((O6 m (-1)).map eI),.box (eT (jaJ false m (some H.length))),.grow 0 3 [eT (jaJ false m (some H.length))]];have e:eT (jaJ false m (some H.length))=[.own H.length 0 0 m false,Z64 0,ZBo true]:=by simp[jaJ,eT,plZ]
     rw[e] at fin hap hst hl4 hb4;obtain⟨R,hR⟩: ∃R,R=(T++[(jaJ false m (some H.length))]).map eT:=⟨_,rfl⟩;rw[←hR] at fin hap hst hl4 hb4;obtain⟨Q,hQ⟩: ∃Q,Q=(O6 m (-1)).map eI:=⟨_,rfl⟩;rw[←hQ] at fin hap hst hl4 hb4 ⊢;clear hQ hp;clear hR e;with_reducible repeat' first|simp only[zQ,seval,X0,hbX,hap,hst,hl4,hb4,w1,l0,l1, *]|simp only[jab]|apply P3|intro _
inductive DoT (kd:Int)(mk:Bool)(T:List TB)(a b n:Int):Int→Int→Int→Bool→List TB→Prop
  |new {r e:Int} {T':List TB}:MadeT mk T n r e T'→DoT kd mk T a b n 1 r e mk T'
  |set:DoT kd mk T a b n 2 0 (setT kd mk T a b n).1 mk (setT kd mk T a b n).2
  |drop:DoT kd mk T a b n 3 0 (jeo kd mk T a false).1 mk (jeo kd mk T a false).2
  |hold:DoT kd mk T a b n 4 0 (jeo kd mk T a true).1 mk (jeo kd mk T a true).2
  |stepNo:mk=false→DoT kd mk T a b n 5 0 8 mk T
  |stepArg:mk=true→n<0→DoT kd mk T a b n 5 0 1 mk T
  |step {m:Nat} {T1:List TB}:mk=true→0≤n→Stp mk m T T1→(m:Int)≤n→((m:Int)<n→jek mk T1=none)→DoT kd mk T a b n 5 m 0 mk T1
  |beginNo:mk=true→DoT kd mk T a b n 6 0 8 mk T
  |begn:mk=false→DoT kd mk T a b n 6 (jcH (jaE T)).length 0 true (begT T)
  |endNo:mk=false→DoT kd mk T a b n 7 0 8 mk T
  |done {m:Nat} {T1:List TB}:mk=true→Stp true m T T1→jek true T1=none→DoT kd mk T a b n 7 (jin T1) 0 false (T1.map endX)
  |other {d:Int}:d<1∨7<d→DoT kd mk T a b n d 0 7 mk T
theorem jh0 {n:Int}{b:Bool}:((jeo kd mk T n b).2).map keyT=T.map keyT:=by
 unfold jeo;split
 ·rfl
 ·split
  ·rfl
  ·simp only
   have hk:(if b=decide (kd=1) then jaz mk T n else T).map keyT=T.map keyT:=by split;exact jdH;rfl
   split
   ·rename_i x hx
    rw[jg8 (y:=(x.1,x.2.1,x.2.2.1,b)) hx rfl,hk]
   ·exact hk
theorem do_z {d a b n:Int}(h:MkAt H p t g kd mk T)(hr:Rng T)(hL: ∀i,L i=true)(hK: ∀H' g' r e mk' T',DoT kd mk T a b n d r e mk' T'→MkAt H' p t g' kd mk' T'→FrB p H H'→K (.tuple [Z64 r,Z64 e]) H'):
  ZC (XC tb nd) (jag Tryz.prog) 11 [.ptr p 0,.agg [Z64 d,Z64 a,Z64 b,Z64 n]] L H K:=by
 refine Z9 Gh.no (jaf (by decide)) f_mk_do (by simp) ?_;simp only[jvj,kkP];obtain⟨X,hX⟩: ∃X,X=[ZB.box [Z64 d,Z64 a,Z64 b,Z64 n]]:=⟨_,rfl⟩;have F: ∀H' g' r e mk' T',DoT kd mk T a b n d r e mk' T'→MkAt H' p t g' kd mk' T'→FrB p (H++[ZB.box [Z64 d,Z64 a,Z64 b,Z64 n]]) H'→Fin H (.tuple [Z64 r,Z64 e]) H' K:=fun H' g' r e mk' T' h1 h2 h3=>Fin.keep (hK H' g' r e mk' T' h1 h2 (FrB.ext.trans h3))
 have FF:=Z4 F;have HM:=Z4 (h.ext [ZB.box [Z64 d,Z64 a,Z64 b,Z64 n]]);have HR:=Z4 hr;have HL:=Z4 hL;clear hK h hr hL F hX;by_cases h1:d=1
 ·subst h1
  with_reducible repeat' first|simp only[zQ,seval,X0, *]|simp only[jab]|apply P3|intro _
  refine make_z HM.out HL.out fun H' g' r e T' q1 q2 q3=>?_
  have fin:=FF.out H' g' r e mk T' (.new q1) q2 q3;clear q1 q2 q3;with_reducible repeat' first|simp only[zQ,seval,X0, *]|simp only[jab]|apply P3|intro _
 ·by_cases h2:d=2
  ·subst h2
   with_reducible repeat' first|simp only[zQ,seval,X0, *]|simp only[jab]|apply P3|intro _
   refine set_z HM.out HR.out HL.out fun H' q2 q3=>?_
   have fin:=FF.out H' g 0 _ mk _ .set q2 q3;obtain⟨e,he⟩: ∃e,e=(setT kd mk T a b n).1:=⟨_,rfl⟩;rw[←he] at fin ⊢;clear q2 q3 he;with_reducible repeat' first|simp only[zQ,seval,X0, *]|simp only[jab]|apply P3|intro _
  ·by_cases h4:d=4
   ·subst h4
    with_reducible repeat' first|simp only[zQ,seval,X0, *]|simp only[jab]|apply P3|intro _
    refine hold_z HM.out HR.out (HL.out _) ?_;have hk:((jeo kd mk T a true).2).map keyT=T.map keyT:=jh0;have fin:=FF.out _ g 0 _ mk _ .hold (HM.out.upd hk) HM.out.frT;obtain⟨e,he⟩: ∃e,e=(jeo kd mk T a true).1:=⟨_,rfl⟩;rw[←he] at fin ⊢;obtain⟨W,hW⟩: ∃W,W=thH (H++[.box [Z64 4,Z64 a,Z64 b,Z64 n]]) t g (jeo kd mk T a true).2:=⟨_,rfl⟩;rw[←hW] at fin ⊢;clear he hk hW;with_reducible repeat' first|simp only[zQ,seval,X0, *]|simp only[jab]|apply P3|intro _
   ·by_cases h3:d=3
    ·subst h3
     with_reducible repeat' first|simp only[zQ,seval,X0, *]|simp only[jab]|apply P3|intro _
     refine hold_z HM.out HR.out (HL.out _) ?_;have hk:((jeo kd mk T a false).2).map keyT=T.map keyT:=jh0;have fin:=FF.out _ g 0 _ mk _ .drop (HM.out.upd hk) HM.out.frT;obtain⟨e,he⟩: ∃e,e=(jeo kd mk T a false).1:=⟨_,rfl⟩;rw[←he] at fin ⊢;obtain⟨W,hW⟩: ∃W,W=thH (H++[.box [Z64 3,Z64 a,Z64 b,Z64 n]]) t g (jeo kd mk T a false).2:=⟨_,rfl⟩;rw[←hW] at fin ⊢;clear he hk hW;with_reducible repeat' first|simp only[zQ,seval,X0, *]|simp only[jab]|apply P3|intro _
    ·by_cases h6:d=6
     ·subst h6
      with_reducible repeat' first|simp only[zQ,seval,X0, *]|simp only[jab]|apply P3|intro _
      refine begin_z HM.out HR.out (HL.out _) (HL.out _) (fun hm=>?_) (fun hm=>?_)
      ·have fin:=FF.out _ g 0 8 mk T (.beginNo hm) HM.out FrB.refl
       with_reducible repeat' first|simp only[zQ,seval,X0, *]|simp only[jab]|apply P3|intro _
      ·have hM2:=(HM.out.flag true).upd (T':=begT T) jdu
       have fin:=FF.out _ g _ 0 true _ (.begn hm) hM2 (FrB.own.trans (HM.out.flag true).frT);obtain⟨q,hq⟩: ∃q,q=(jcH (jaE T)).length:=⟨_,rfl⟩;rw[←hq] at fin ⊢;obtain⟨W,hW⟩: ∃W,W=thH (pH (H++[.box [Z64 6,Z64 a,Z64 b,Z64 n]]) p t g kd true T.length) t g (begT T):=⟨_,rfl⟩;rw[←hW] at fin ⊢;clear hM2 hq hW;with_reducible repeat' first|simp only[zQ,seval,X0, *]|simp only[jab]|apply P3|intro _
     ·by_cases h5:d=5
      ·subst h5
       with_reducible repeat' first|simp only[zQ,seval,X0, *]|simp only[jab]|apply P3|intro _
       refine steps_z HM.out HR.out (HL.out _) (fun hm=>?_) (fun hm hn=>?_) (fun m T1 hm h0 hS q1 q2=>?_)
       ·have fin:=FF.out _ g 0 8 mk T (.stepNo hm) HM.out FrB.refl
        with_reducible repeat' first|simp only[zQ,seval,X0, *]|simp only[jab]|apply P3|intro _
       ·have fin:=FF.out _ g 0 1 mk T (.stepArg hm hn) HM.out FrB.refl
        clear hn;with_reducible repeat' first|simp only[zQ,seval,X0, *]|simp only[jab]|apply P3|intro _
       ·have fin:=FF.out _ g m 0 mk T1 (.step hm h0 hS q1 q2) (HM.out.upd hS.key) HM.out.frT
        obtain⟨W,hW⟩: ∃W,W=thH (H++[.box [Z64 5,Z64 a,Z64 b,Z64 n]]) t g T1:=⟨_,rfl⟩;rw[←hW] at fin ⊢;clear hW h0 q1 q2 hS;with_reducible repeat' first|simp only[zQ,seval,X0, *]|simp only[jab]|apply P3|intro _
      ·by_cases h7:d=7
       ·subst h7
        with_reducible repeat' first|simp only[zQ,seval,X0, *]|simp only[jab]|apply P3|intro _
        refine end_z HM.out HR.out (HL.out _) (HL.out _) (fun hm=>?_) (fun m T1 hm hS hno=>?_)
        ·have fin:=FF.out _ g 0 8 mk T (.endNo hm) HM.out FrB.refl
         with_reducible repeat' first|simp only[zQ,seval,X0, *]|simp only[jab]|apply P3|intro _
        ·have hM1:=HM.out.upd hS.key
         have hM2:=(hM1.endTo T1.length).flag false;rw[jeN] at hM2;have e1:endTo T1 T1.length=T1.map endX:=by unfold endTo;rw[K7,List.drop_length,A0]
         rw[e1] at hM2;have e2:(T1.map endX).length=T.length:=by rw[P2];exact jce hS.key
         rw[e2] at hM2;have fin:=FF.out _ g _ 0 false _ (.done hm hS hno) hM2 (HM.out.frT.trans FrB.own);obtain⟨q,hq⟩: ∃q,q=jin T1:=⟨_,rfl⟩;rw[←hq] at fin ⊢;obtain⟨W,hW⟩: ∃W,W=pH (thH (H++[.box [Z64 7,Z64 a,Z64 b,Z64 n]]) t g (T1.map endX)) p t g kd false T.length:=⟨_,rfl⟩;rw[←hW] at fin ⊢;clear hM1 hM2 e1 e2 hq hW hS hno;with_reducible repeat' first|simp only[zQ,seval,X0, *]|simp only[jab]|apply P3|intro _
       ·have fin:=FF.out _ g 0 7 mk T (.other (by omega)) HM.out FrB.refl
        with_reducible repeat' first|simp only[zQ,seval,X0, *]|simp only[jab]|apply P3|intro _
end
section
open Go Go.RowKit
section
variable {c c':Nat→Int}{e e':Nat→Nat→Prop}{r r':Nat→Prop}{kd:Int}{mk:Bool}
inductive Nd (e:Nat→Nat→Prop)(r:Nat→Prop):Nat→Prop
  |root {n:Nat}:r n→Nd e r n
  |edge {n k:Nat}:Nd e r n→e n k→Nd e r k
inductive Wr (c:Nat→Int)(e:Nat→Nat→Prop):Nat→Prop
  |grey {n:Nat}:c n=1→Wr c e n
  |edge {n k:Nat}:Wr c e n→c n=0∨c n=1→e n k→Wr c e k
structure Good (kd:Int)(mk:Bool)(c:Nat→Int)(e:Nat→Nat→Prop)(r:Nat→Prop):Prop where
  kind:kd=1∨kd=2
  rngc: ∀n,c n=0∨c n=1∨c n=2∨c n=3
  keep: ∀n,Nd e r n→c n≠3
  idle:mk=false→ ∀n,c n=0∨c n=3
  d1:mk=true→kd=1→ ∀n k,c n=2→e n k→c k≠0
  d2:mk=true→kd=1→ ∀n,r n→c n≠0
  y1:mk=true→kd=2→ ∀n,Nd e r n→c n=0→Wr c e n
structure UIn (U:Nat→Prop)(c:Nat→Int)(e:Nat→Nat→Prop)(r:Nat→Prop):Prop where
  u1: ∀n,r n→ ¬U n
  u2: ∀n k,¬ U n→e n k→ ¬U k
  u3: ∀n,U n→c n=0∨c n=3
theorem UIn.nd {U:Nat→Prop}(h:UIn U c e r){n:Nat}(hn:Nd e r n): ¬U n:=by
 induction hn with
 |root hr=>exact h.u1 _ hr
 |edge _ he ih=>exact h.u2 _ _ ih he
theorem Nd.sub (hr: ∀n,r' n→Nd e r n)(he: ∀n k,e' n k→e n k∨Nd e r k){n:Nat}(h:Nd e' r' n):Nd e r n:=by
 induction h with
 |root h=>exact hr _ h
 |edge _ h ih=>exact (he _ _ h).elim (fun q=> .edge ih q) id
section
variable (hS: ∀k,c' k=c k∨(c k=0∧c' k=1∧Nd e r k))(hm:mk=false→ ∀k,c' k=c k)(he: ∀n k,e' n k→e n k∨Nd e r k)(hr: ∀n,r' n→Nd e r n)
include hS he hr
theorem UIn.mut {U:Nat→Prop}(h:UIn U c e r):UIn U c' e' r':=by
 refine⟨fun n hn=>h.nd (hr n hn),fun n k hn hk=>(he n k hk).elim (fun q=>h.u2 n k hn q) (fun q=>h.nd q),fun n hn=>?_⟩;rcases hS n with q|⟨_,_,q⟩
 ·rw[q];exact h.u3 n hn
 ·exact absurd hn (h.nd q)
include hm
theorem Good.mut (h:Good kd mk c e r)(he1:mk=true→kd=1→ ∀n k,e' n k→e n k∨c' k≠0)(he2:mk=true→kd=2→ ∀n k,e n k→e' n k∨c' k≠0)(hr1:mk=true→kd=1→ ∀n,r' n→r n∨c' n≠0):Good kd mk c' e' r':=by
 have hsub: ∀n,Nd e' r' n→Nd e r n:=fun n=>Nd.sub hr he
 have h0: ∀k,c' k=0→c k=0:=fun k hk=>by rcases hS k with q|q<;>omega
 refine⟨h.kind,fun n=>?_,fun n hn=>?_,fun hmk n=>?_,fun hmk hk n k hn hnk=>?_,fun hmk hk n hn=>?_,fun hmk hk n hn hc=>?_⟩
 ·rcases hS n with q|q
  ·rw[q];exact h.rngc n
  ·omega
 ·have:=h.keep n (hsub n hn)
  rcases hS n with q|q<;>omega
 ·rw[hm hmk n];exact h.idle hmk n
 ·rcases he1 hmk hk n k hnk with q|q
  ·have hn2:c n=2:=by rcases hS n with q|q<;>omega
   exact fun hz=>h.d1 hmk hk n k hn2 q (h0 k hz)
  ·exact q
 ·rcases hr1 hmk hk n hn with q|q
  ·exact fun hz=>h.d2 hmk hk n q (h0 n hz)
  ·exact q
 ·have key: ∀n,Wr c e n→(c' n=0∨c' n=1)→Wr c' e' n:=by
   intro n hw;induction hw with
   |@grey n hg=>intro _;exact .grey (by rcases hS n with q|q<;>omega)
   |@edge n k _ hcn hnk ih=>
    intro hck;have hcn':c' n=0∨c' n=1:=by rcases hS n with q|q<;>omega
    rcases he2 hmk hk n k hnk with q|q
    ·exact .edge (ih hcn') hcn' q
    ·exact .grey (by omega)
  exact key n (h.y1 hmk hk n (hsub n hn) (h0 n hc)) (.inl hc)
end
section
variable {l:Nat}(hl: ∀k,¬ e l k∧ ¬e k l)(hc: ∀k,k≠l→c' k=c k)(hcl:c' l=if mk=true then 2 else 0)(he: ∀n k,e' n k↔e n k)(hr: ∀n,r' n↔r n∨n=l)
include hl he hr
theorem Nd.new {n:Nat}(h:Nd e' r' n):Nd e r n∨n=l:=by
 induction h with
 |root h=>exact ((hr _).1 h).imp .root id
 |@edge n k _ h ih=>
  rcases ih with ih|rfl
  ·exact .inl (.edge ih ((he _ _).1 h))
  ·exact absurd ((he _ _).1 h) (hl k).1
include hc hcl
theorem Good.new (h:Good kd mk c e r):Good kd mk c' e' r':=by
 refine⟨h.kind,fun n=>?_,fun n hn=>?_,fun hmk n=>?_,fun hmk hk n k hn hnk=>?_,fun hmk hk n hn=>?_,fun hmk hk n hn hcn=>?_⟩
 ·by_cases hn:n=l
  ·subst hn;rw[hcl];split<;>simp
  ·rw[hc n hn];exact h.rngc n
 ·by_cases hnl:n=l
  ·subst hnl;rw[hcl];split<;>simp
  ·rw[hc n hnl]
   rcases Nd.new hl he hr hn with q|q
   ·exact h.keep n q
   ·exact absurd q hnl
 ·by_cases hn:n=l
  ·subst hn;rw[hcl,hmk];simp
  ·rw[hc n hn];exact h.idle hmk n
 ·have hnk:=(he n k).1 hnk
  have h1:n≠l:=fun q=>(hl k).1 (q▸hnk)
  have h2:k≠l:=fun q=>(hl n).2 (q▸hnk)
  rw[hc n h1] at hn;rw[hc k h2];exact h.d1 hmk hk n k hn hnk
 ·by_cases hnl:n=l
  ·subst hnl;rw[hcl,hmk];simp
  ·rw[hc n hnl]
   rcases (hr n).1 hn with q|q
   ·exact h.d2 hmk hk n q
   ·exact absurd q hnl
 ·have hnl:n≠l:=fun q=>by rw[q,hcl,hmk] at hcn;simp at hcn
  rw[hc n hnl] at hcn;rcases Nd.new hl he hr hn with q|q
  ·have key: ∀n,Wr c e n→n≠l→Wr c' e' n:=by
    intro n hw;induction hw with
    |@grey n hg=>intro q;exact .grey (by rw[hc n q];exact hg)
    |@edge n k _ h1 h2 ih=>
     intro q;have h3:n≠l:=fun q=>(hl k).1 (q▸h2)
     exact .edge (ih h3) (by rw[hc n h3];exact h1) ((he n k).2 h2)
   exact key n (h.y1 hmk hk n q hcn) hnl
  ·exact absurd q hnl
omit hl hcl in
theorem UIn.new {U:Nat→Prop}(h:UIn U c e r)(hU: ¬U l):UIn U c' e' r':=by
 refine⟨fun n hn=>?_,fun n k hn hnk=>h.u2 n k hn ((he n k).1 hnk),fun n hn=>?_⟩
 ·rcases (hr n).1 hn with q|rfl
  ·exact h.u1 n q
  ·exact hU
 ·rw[hc n fun q=>hU (q▸hn)];exact h.u3 n hn
end
section
variable {i:Nat}(hi:c i=1)(hci:c' i=2)(hc: ∀k,k≠i→c' k=c k∨(c k=0∧c' k=1∧e i k))(hsh: ∀k,k≠i→e i k→c k=0→c' k=1)
include hi hci hc hsh
theorem Good.step (h:Good kd true c e r):Good kd true c' e r:=by
 have h0: ∀k,c' k=0→c k=0∧k≠i:=fun k hk=>by
  have hki:k≠i:=fun q=>by rw[q,hci] at hk;simp at hk
  rcases hc k hki with q|q<;>exact⟨by omega,hki⟩
 refine⟨h.kind,fun n=>?_,fun n hn=>?_,fun hmk n=>(by cases hmk),fun hmk hk n k hn hnk hz=>?_,fun hmk hk n hn hz=>?_,fun hmk hk n hn hcn=>?_⟩
 ·by_cases hni:n=i
  ·subst hni;omega
  ·have:=h.rngc n
   rcases hc n hni with q|q<;>omega
 ·by_cases hni:n=i
  ·subst hni;omega
  ·have:=h.keep n hn
   rcases hc n hni with q|q<;>omega
 ·obtain⟨hz0,hki⟩:=h0 k hz
  by_cases hni:n=i
  ·subst hni
   have:=hsh k hki hnk hz0;omega
  ·have hn2:c n=2:=by rcases hc n hni with q|q<;>omega
   exact h.d1 hmk hk n k hn2 hnk hz0
 ·exact h.d2 hmk hk n hn (h0 n hz).1
 ·have key: ∀n,Wr c e n→(c' n=0∨c' n=1)→Wr c' e n:=by
   intro n hw;induction hw with
   |@grey n hg=>
    intro q;have hni:n≠i:=fun q2=>by rw[q2,hci] at q;omega
    exact .grey (by rcases hc n hni with q|q<;>omega)
   |@edge n k _ hcn hnk ih=>
    intro q;have hki:k≠i:=fun q2=>by rw[q2,hci] at q;omega
    by_cases hni:n=i
    ·subst hni
     by_cases hk0:c k=0
     ·exact .grey (hsh k hki hnk hk0)
     ·exact .grey (by rcases hc k hki with q|q<;>omega)
    ·have hcn':c' n=0∨c' n=1:=by rcases hc n hni with q|q<;>omega
     exact .edge (ih hcn') hcn' hnk
  exact key n (h.y1 hmk hk n hn (h0 n hcn).1) (.inl hcn)
omit hci hsh in
theorem UIn.step {U:Nat→Prop}(h:UIn U c e r):UIn U c' e r:=by
 have hUi: ¬U i:=fun q=>by have:=h.u3 i q;omega
 refine⟨h.u1,h.u2,fun n hn=>?_⟩;have hni:n≠i:=fun q=>hUi (q▸hn)
 rcases hc n hni with q|⟨_,_,q⟩
 ·rw[q];exact h.u3 n hn
 ·exact absurd hn (h.u2 i n hUi q)
end
section
variable (hc: ∀k,c' k=c k∨(c k=0∧c' k=1∧r k))(hsh: ∀k,r k→c k=0→c' k=1)
include hc hsh
theorem Good.begin (h:Good kd false c e r):Good kd true c' e r:=by
 refine⟨h.kind,fun n=>?_,fun n hn=>?_,fun hmk n=>(by cases hmk),fun hmk hk n k hn hnk=>?_,fun hmk hk n hn hz=>?_,fun hmk hk n hn hcn=>?_⟩
 ·have:=h.rngc n
  rcases hc n with q|q<;>omega
 ·have:=h.keep n hn
  rcases hc n with q|q<;>omega
 ·have:=h.idle rfl n
  rcases hc n with q|q<;>omega
 ·have h1:=h.keep n (.root hn)
  have h2:=h.idle rfl n;have:=hsh n hn (by omega);omega
 ·clear hcn
  induction hn with
  |@root n hr=>
   have h1:=h.keep n (.root hr);have h2:=h.idle rfl n;exact .grey (hsh n hr (by omega))
  |@edge n k hn hnk ih=>
   have h1:=h.keep n hn;have h2:=h.idle rfl n;exact .edge ih (by rcases hc n with q|q<;>omega) hnk
omit hsh in
theorem UIn.begin {U:Nat→Prop}(h:Good kd false c e r)(hU: ∀n,U n→ ¬Nd e r n)(hU2: ∀n k,¬ U n→e n k→Nd e r n):UIn U c' e r:=by
 refine⟨fun n hn q=>hU n q (.root hn),fun n k hn hnk q=>hU k q (.edge (hU2 n k hn hnk) hnk),fun n hn=>?_⟩;rcases hc n with q|⟨_,_,q⟩
 ·rw[q];exact h.idle rfl n
 ·exact absurd (.root q) (hU n hn)
end
section
variable (hng: ∀n,c n≠1)
include hng
theorem Wr.none {n:Nat}(h:Wr c e n):False:=by
 induction h with
 |grey h=>exact hng _ h
 |edge _ _ _ ih=>exact ih
theorem Good.black (h:Good kd true c e r){n:Nat}(hn:Nd e r n):c n=2:=by
 rcases h.kind with hk|hk
 ·induction hn with
  |@root n hr=>
   have h1:=h.keep n (.root hr);have h2:=h.d2 rfl hk n hr;have h3:=h.rngc n;have h4:=hng n;omega
  |@edge n k hn hnk ih=>
   have h1:=h.keep k (.edge hn hnk);have h2:=h.d1 rfl hk n k ih hnk;have h3:=h.rngc k;have h4:=hng k;omega
 ·have h1:=h.keep n hn;have h3:=h.rngc n;have h4:=hng n
  have h2:c n≠0:=fun hz=>Wr.none hng (h.y1 rfl hk n hn hz)
  omega
theorem Good.done (h:Good kd true c e r)(hc: ∀n,c' n=if c n=0 then 3 else if c n=2 then 0 else c n)(he: ∀n k,e' n k→e n k)(hr: ∀n,r' n→r n):Good kd false c' e' r':=by
 have hsub: ∀n,Nd e' r' n→Nd e r n:=fun n=>Nd.sub (fun n hn=> .root (hr n hn)) (fun n k hk=> .inl (he n k hk))
 have hid: ∀n,c' n=0∨c' n=3:=fun n=>by
  have h1:=h.rngc n;have h2:=hng n;rw[hc n]
  split
  ·exact .inr rfl
  ·split
   ·exact .inl rfl
   ·right;omega
 exact⟨h.kind,fun n=>by rcases hid n with q|q<;>omega,fun n hn=>by rw[hc n,h.black hng (hsub n hn)];simp,fun _ n=>hid n,fun q=>(by cases q),fun q=>(by cases q),fun q=>(by cases q)⟩
end
end
end
section
open Go Go.RowKit
variable {kd:Int}{mk:Bool}{T T':List TB}
def cF (T:List TB)(n:Nat):Int:=((T[n]?).map fun x=>x.2.2.1).getD 3
def eF (T:List TB)(n k:Nat):Prop:= ∃x,T[n]?=some x∧(k:Int)∈x.2.1
def rF (T:List TB)(n:Nat):Prop:= ∃x,T[n]?=some x∧x.2.2.2=true
theorem jhM {n:Nat}{x:TB}(h:T[n]?=some x):cF T n=x.2.2.1:=by unfold cF;rw[h];rfl
theorem ju5 (hk:T'.map keyT=T.map keyT){n k:Nat}:eF T' n k↔eF T n k:=by
 have h: ∀{A B:List TB},A.map keyT=B.map keyT→eF A n k→eF B n k:=fun {A B} h ⟨x,hx,hm⟩=>by
  have hl:=jce h;have hn:n<A.length:=(U0.1 hx).1;have hy:B[n]?=some (B[n]'(by omega)):=U1 _;obtain⟨_,e2⟩:=jlt h hy hx;exact⟨_,hy,by rw[←e2];exact hm⟩
 exact⟨h hk,h hk.symm⟩
theorem jiF {n:Nat}:rF T n↔Sn (jaE T) n:=by
 unfold rF Sn jaE;rw[C0,U8]
 cases T[n]? with
 |none=>simp
 |some x=>simp
theorem jop (hh:jaE T'=jaE T){n:Nat}:rF T' n↔rF T n:=by rw[jiF,jiF,hh]
theorem eF_lt (hr:Rng T){n k:Nat}(h:eF T n k):n<T.length∧k<T.length:=by
 obtain⟨x,hx,hm⟩:=h;have:=hr.rng x (R5 hx) _ hm;exact⟨(U0.1 hx).1,by omega⟩
theorem rF_lt {n:Nat}(h:rF T n):n<T.length:=by obtain⟨x,hx,_⟩:=h;exact (U0.1 hx).1
theorem jur {n:Nat}{y:Int}:y∈(jc1 T).getD n []↔0≤y∧eF T n y.toNat:=by
 unfold jc1 eF;rw[C0,U8]
 cases T[n]? with
 |none=>simp
 |some x=>
  simp only[U9,W9,jdK,List.mem_filter];constructor
  ·rintro⟨h1,h2⟩
   have h2: ¬y<0:=by simpa using h2
   exact⟨by omega,x,rfl,by rw[O1w (by omega)];exact h1⟩
  ·rintro⟨h0,z,hz,hm⟩
   injection hz with hz
   subst hz;rw[O1w h0] at hm;exact⟨hm,by simp;omega⟩
theorem liv_nd {n:Nat}:Liv (jc1 T) [] (jcH (jaE T)) n↔Nd (eF T) (rF T) n:=by
 constructor
 ·intro h
  refine h (Nd (eF T) (rF T)) (fun n hn y hy=>?_) (fun p hp=>(by cases hp)) (fun x hx=>?_)
  ·exact .edge hn (jur.1 hy).2
  ·exact .root (jiF.2 (jfP.1 hx).2)
 ·intro h
  induction h with
  |@root n hr=>
   have:((n:Nat):Int)∈jcH (jaE T):=jfP.2 ⟨by omega,by rw[O0f];exact jiF.1 hr⟩;have:=Liv.base (has:=jc1 T) (ps:=[]) this
   rwa [O0f] at this
  |@edge n k _ he ih=>
   have:=Liv.cl (jc1 T) [] (jcH (jaE T)) n ih (k:Int) (jur.2 ⟨by omega,by rw[O0f];exact he⟩)
   rwa [O0f] at this
theorem nd_lt (hr:Rng T){n:Nat}(h:Nd (eF T) (rF T) n):n<T.length:=by
 cases h with
 |root h=>exact rF_lt h
 |edge _ h=>exact (eF_lt hr h).2
theorem jg4 (hr:Rng T){n:Nat}:Sn (jfs T) n↔Nd (eF T) (rF T) n:=by
 unfold jfs;rw[jn5,liv_nd,jeD];exact⟨fun h=>h.2,fun h=>⟨nd_lt hr h,h⟩⟩
def GS (kd:Int)(mk:Bool)(T:List TB):Prop:=Rng T∧Good kd mk (cF T) (eF T) (rF T)
theorem jqN {n k:Nat}{x y:TB}(hx:T[n]?=some x):cF (T.set n y) k=if k=n then y.2.2.1 else cF T k:=by
 have hn:=(U0.1 hx).1;split
 ·rename_i e;subst e;exact jhM (H9 hn)
 ·rename_i e;unfold cF;rw[O0a (fun q=>e q.symm)]
theorem jgO {z:Int}{k:Nat}:cF (jaz mk T z) k=if mk=true∧(k:Int)=z∧cF T k=0 then 1 else cF T k:=by
 unfold jaz;split
 ·rename_i h
  obtain⟨m,rfl⟩:=O1g h.2;rw[O0f];split
  ·rename_i x hx
   split
   ·rename_i h0
    rw[jqN hx];split
    ·rename_i e;subst e
     rw[if_pos ⟨h.1,rfl,by rw[jhM hx];exact h0⟩]
    ·rename_i e
     rw[if_neg fun q=>e (by have:=q.2.1;omega)]
   ·rename_i h0
    rw[if_neg];rintro⟨_,q1,q2⟩;have:k=m:=by omega
    subst this;rw[jhM hx] at q2;exact h0 q2
  ·rename_i hx
   rw[if_neg];rintro⟨_,q1,q2⟩;have:k=m:=by omega
   subst this;unfold cF at q2;rw[hx] at q2;simp at q2
 ·rename_i h
  rw[if_neg];rintro⟨q0,q1,q2⟩;exact h ⟨q0,by omega⟩
theorem jnY {l:List Int}{k:Nat}: ∀{T:List TB},cF (shades mk T l) k=if mk=true∧(k:Int)∈l∧cF T k=0 then 1 else cF T k:=by
 induction l with
 |nil=>intro T;simp[shades]
 |cons a l ih=>
  intro T;have:shades mk T (a::l)=shades mk (jaz mk T a) l:=rfl;rw[this,ih,jgO];by_cases h1:mk=true<;>by_cases h2:(k:Int)=a<;>by_cases h3:cF T k=0<;>by_cases h4:(k:Int)∈l<;>simp[h1,h2,h3,h4]
  all_goals (try simp_all)
theorem Rng.set {a:Nat}{x:TB}(h:Rng T)(hx:T[a]?=some x){pl:List Int}{y:Int×Bool}{o:Option Nat}(hl:pl.length≤10)(hp: ∀z∈pl,z<(T.length:Int)):Rng (T.set a (o,pl,y)):=by
 refine⟨by rw[D5];exact h.len,fun z hz=>?_,fun z hz w hw=>?_⟩
 ·rcases O1v hz with hz|rfl
  ·exact h.sm z hz
  ·exact hl
 ·rw[D5]
  rcases O1v hz with hz|rfl
  ·exact h.rng z hz w hw
  ·exact hp w hw
theorem eF_set {a n k:Nat}{x y:TB}(hx:T[a]?=some x):eF (T.set a y) n k↔if n=a then (k:Int)∈y.2.1 else eF T n k:=by
 have ha:=(U0.1 hx).1;unfold eF;split
 ·rename_i e;subst e
  rw[H9 ha];exact⟨fun⟨z,hz,hm⟩=>by injection hz with hz;subst hz;exact hm,fun h=>⟨y,rfl,h⟩⟩
 ·rename_i e
  rw[O0a (fun q=>e q.symm)]
theorem rF_set {a n:Nat}{x y:TB}(hx:T[a]?=some x):rF (T.set a y) n↔if n=a then y.2.2.2=true else rF T n:=by
 have ha:=(U0.1 hx).1;unfold rF;split
 ·rename_i e;subst e
  rw[H9 ha];exact⟨fun⟨z,hz,hm⟩=>by injection hz with hz;subst hz;exact hm,fun h=>⟨y,rfl,h⟩⟩
 ·rename_i e
  rw[O0a (fun q=>e q.symm)]
theorem jht {z:Int}{n:Nat}:rF (jaz mk T z) n↔rF T n:=jop jg2
structure Mut (kd:Int)(mk:Bool)(T T':List TB):Prop where
  rng:Rng T'
  hS: ∀k,cF T' k=cF T k∨(cF T k=0∧cF T' k=1∧Nd (eF T) (rF T) k)
  hm:mk=false→ ∀k,cF T' k=cF T k
  he: ∀n k,eF T' n k→eF T n k∨Nd (eF T) (rF T) k
  hr: ∀n,rF T' n→Nd (eF T) (rF T) n
  he1:mk=true→kd=1→ ∀n k,eF T' n k→eF T n k∨cF T' k≠0
  he2:mk=true→kd=2→ ∀n k,eF T n k→eF T' n k∨cF T' k≠0
  hr1:mk=true→kd=1→ ∀n,rF T' n→rF T n∨cF T' n≠0
theorem Mut.same (h:Rng T):Mut kd mk T T:=⟨h,fun _=> .inl rfl,fun _ _=>rfl,fun _ _ h=> .inl h,fun _ h=> .root h,fun _ _ _ _ h=> .inl h,fun _ _ _ _ h=> .inl h,fun _ _ _ h=> .inl h⟩
theorem Mut.good (h:Mut kd mk T T')(g:GS kd mk T):GS kd mk T':=⟨h.rng,g.2.mut h.hS h.hm h.he h.hr h.he1 h.he2 h.hr1⟩
theorem Mut.un (h:Mut kd mk T T'){U:Nat→Prop}(u:UIn U (cF T) (eF T) (rF T)):UIn U (cF T') (eF T') (rF T'):=u.mut h.hS h.he h.hr
theorem jnZ {z:Int}{k:Nat}(h:mk=true)(hz:(k:Int)=z):cF (jaz mk T z) k≠0:=by
 rw[jgO];split
 ·decide
 ·rename_i q;exact fun q2=>q ⟨h,hz,q2⟩
theorem jhW (hr:Rng T){l:List Int}(h:jbO T l=0){z:Int}(hz:z∈l):0≤z∧z<(T.length:Int)∧Nd (eF T) (rF T) z.toNat:=by
 obtain⟨h1,h2⟩:=jeX h;exact⟨(h1 z hz).1,(h1 z hz).2,(jg4 hr).1 (h2 z hz)⟩
theorem jhZ (hr:Rng T)(hkd:kd=1∨kd=2){n:Int}{b:Bool}:Mut kd mk T (jeo kd mk T n b).2:=by
 unfold jeo;split
 ·exact Mut.same hr
 ·rename_i he
  split
  ·exact Mut.same hr
  ·simp only
   have he:jbO T [n]=0:=Decidable.not_not.1 he;obtain⟨h0,h1,hnd⟩:=jhW hr he (z:=n) (by simp);obtain⟨m,rfl⟩:=O1g h0;rw[O0f] at hnd ⊢;obtain⟨T1,hT1⟩: ∃T1,T1=(if b=decide (kd=1) then jaz mk T (m:Int) else T):=⟨_,rfl⟩;rw[←hT1];have hk:T1.map keyT=T.map keyT:=by rw[hT1];split;exact jdH;rfl
   have hh:jaE T1=jaE T:=by rw[hT1];split;exact jg2;rfl
   have hml:m<T1.length:=by rw[jce hk];omega
   have hx:T1[m]?=some T1[m]:=U1 hml;rw[hx];simp only;have hc: ∀k,cF (T1.set m (T1[m].1,T1[m].2.1,T1[m].2.2.1,b)) k=cF T1 k:=fun k=>by
    rw[jqN hx];split
    ·rename_i e;subst e;exact (jhM hx).symm
    ·rfl
   have hc1: ∀k,cF T1 k=if b=decide (kd=1)∧mk=true∧k=m∧cF T k=0 then 1 else cF T k:=fun k=>by
    rw[hT1];split
    ·rename_i hb
     rw[jgO];by_cases q:mk=true∧(k:Int)=(m:Int)∧cF T k=0
     ·rw[if_pos q,if_pos ⟨hb,q.1,by have:=q.2.1;omega,q.2.2⟩]
     ·rw[if_neg q,if_neg fun q2=>q ⟨q2.2.1,by have:=q2.2.2.1;omega,q2.2.2.2⟩]
    ·rename_i hb;rw[if_neg fun q=>hb q.1]
   have hek:((T1.set m (T1[m].1,T1[m].2.1,T1[m].2.2.1,b))).map keyT=T.map keyT:=(jg8 (y:=(T1[m].1,T1[m].2.1,T1[m].2.2.1,b)) hx rfl).trans hk;have hE: ∀n k,eF (T1.set m (T1[m].1,T1[m].2.1,T1[m].2.2.1,b)) n k↔eF T n k:=fun n k=>ju5 hek
   have hR: ∀n,rF (T1.set m (T1[m].1,T1[m].2.1,T1[m].2.2.1,b)) n↔if n=m then b=true else rF T n:=fun n=>by
    rw[rF_set hx];split
    ·exact Iff.rfl
    ·exact jop hh
   refine⟨hr.key hek,fun k=>?_,fun hmk k=>?_,fun n k h=> .inl ((hE n k).1 h),fun n h=>?_,fun _ _ n k h=> .inl ((hE n k).1 h),fun _ _ n k h=> .inl ((hE n k).2 h),fun hmk hk1 n h=>?_⟩
   ·rw[hc,hc1]
    split
    ·rename_i q;right;obtain⟨_,_,q1,q2⟩:=q;subst q1;exact⟨q2,rfl,hnd⟩
    ·exact .inl rfl
   ·rw[hc,hc1,if_neg]
    rintro⟨_,q,_⟩;rw[hmk] at q;cases q
   ·have:=(hR n).1 h
    split at this
    ·rename_i q;subst q;exact hnd
    ·exact .root this
   ·have:=(hR n).1 h
    split at this
    ·rename_i q;subst q
     right;rw[hc,hc1];split
     ·decide
     ·rename_i q;exact fun q2=>q ⟨by rw[this,hk1];rfl,hmk,rfl,q2⟩
    ·exact .inl this
theorem jtM (hr:Rng T)(hkd:kd=1∨kd=2){a b n:Int}:Mut kd mk T (setT kd mk T a b n).2:=by
 by_cases he:jbO T (setL a b)=0
 ·have ha:a∈setL a b:=by unfold setL;split<;>simp
  obtain⟨h0,h1,hnd⟩:=jhW hr he ha;obtain⟨m,rfl⟩:=O1g h0;rw[O0f] at hnd;have hx:T[m]?=some (T[m]'(by omega)):=U1 _;obtain⟨x,hxe⟩: ∃x,x=(T[m]'(by omega)):=⟨_,rfl⟩;rw[←hxe] at hx;rw[jp2 he hx];unfold setX;split
  ·exact Mut.same hr
  ·rename_i hn
   obtain⟨q,rfl⟩:=O1g (show 0≤n by omega);have hq:q<x.2.1.length:=by omega
   rw[O0f];have hgd:x.2.1.getD q 0=x.2.1[q]:=by simp[E7,hq]
   rw[hgd];obtain⟨sb,hsb⟩: ∃sb,sb=(if kd=1 then b else x.2.1[q]):=⟨_,rfl⟩;rw[←hsb];have hkey:(jaz mk T sb).map keyT=T.map keyT:=jdH;have hml:m<(jaz mk T sb).length:=by rw[jce hkey];omega
   have hy:(jaz mk T sb)[m]?=some ((jaz mk T sb)[m]'hml):=U1 _;rw[hy];simp only;obtain⟨y,hye⟩: ∃y,y=((jaz mk T sb)[m]'hml):=⟨_,rfl⟩;rw[←hye] at hy ⊢;obtain⟨k1,k2⟩:=jlt hkey hx hy;have hbn: ∀k:Nat,(k:Int)=b→Nd (eF T) (rF T) k:=fun k hk=>by
    have hb:b∈setL (m:Int) b:=by unfold setL;split;omega;simp
    have:=(jhW hr he hb).2.2;rw[←hk,O0f] at this;exact this
   have hbl:b<(T.length:Int):=by
    by_cases hb1:b= -1
    ·omega
    ·have hb:b∈setL (m:Int) b:=by unfold setL;rw[if_neg hb1];simp
     exact (jhW hr he hb).2.1
   have hon: ∀k:Nat,(k:Int)=x.2.1[q]→Nd (eF T) (rF T) k:=fun k hk=> .edge hnd ⟨x,hx,by rw[hk];exact M4 hq⟩
   have hc: ∀k,cF ((jaz mk T sb).set m (y.1,x.2.1.set q b,y.2.2)) k=cF (jaz mk T sb) k:=fun k=>by
    rw[jqN hy];split
    ·rename_i e;subst e;exact (jhM hy).symm
    ·rfl
   have hE: ∀n k,eF ((jaz mk T sb).set m (y.1,x.2.1.set q b,y.2.2)) n k↔if n=m then (k:Int)∈x.2.1.set q b else eF T n k:=fun n k=>by
    rw[eF_set hy];split
    ·exact Iff.rfl
    ·exact ju5 hkey
   have hR: ∀n,rF ((jaz mk T sb).set m (y.1,x.2.1.set q b,y.2.2)) n↔rF T n:=fun n=>by
    rw[rF_set hy];split
    ·rename_i e;subst e
     rw[←jht (mk:=mk) (z:=sb)];exact⟨fun h=>⟨y,hy,h⟩,fun⟨z,hz,h⟩=>by rw[hy] at hz;injection hz with hz;rw[hz];exact h⟩
    ·exact jht
   have hold: ∀k,eF T m k↔(k:Int)∈x.2.1:=fun k=>⟨fun⟨z,hz,h⟩=>by rw[hx] at hz;injection hz with hz;rw[hz];exact h,fun h=>⟨x,hx,h⟩⟩
   refine⟨?_,fun k=>?_,fun hmk k=>?_,fun n k h=>?_,fun n h=> .root ((hR n).1 h),fun hmk hk1 n k h=>?_,fun hmk hk2 n k h=>?_,fun _ _ n h=> .inl ((hR n).1 h)⟩
   ·have hl:=jce hkey
    refine (hr.key hkey).set hy (by rw[D5];exact hr.sm x (R5 hx)) (fun z hz=>?_);rw[hl];rcases O1v hz with hz|rfl
    ·exact hr.rng x (R5 hx) z hz
    ·exact hbl
   ·rw[hc,jgO]
    split
    ·rename_i h
     right;refine⟨h.2.2,rfl,?_⟩;have h2:=h.2.1;rw[hsb] at h2;split at h2
     ·exact hbn k h2
     ·exact hon k h2
    ·exact .inl rfl
   ·rw[hc,jgO,if_neg]
    rintro⟨h,_⟩;rw[hmk] at h;cases h
   ·have:=(hE n k).1 h
    split at this
    ·rename_i e;subst e
     rcases O1v this with h2|h2
     ·exact .inl ((hold k).2 h2)
     ·exact .inr (hbn k h2)
    ·exact .inl this
   ·have:=(hE n k).1 h
    split at this
    ·rename_i e;subst e
     rcases O1v this with h2|h2
     ·exact .inl ((hold k).2 h2)
     ·right;rw[hc];exact jnZ hmk (by rw[hsb,if_pos hk1];exact h2)
    ·exact .inl this
   ·by_cases e:n=m
    ·subst e
     have hk:=(hold k).1 h;by_cases h3:(k:Int)=x.2.1[q]
     ·right;rw[hc];exact jnZ hmk (by rw[hsb,if_neg (by omega)];exact h3)
     ·left
      refine (hE n k).2 ?_;rw[if_pos rfl];obtain⟨i,hi,hie⟩:=M3 hk;have hiq:i≠q:=fun q2=>by subst q2;exact h3 hie.symm
      exact List.mem_iff_getElem.2 ⟨i,by rw[D5];exact hi,by rw[O1u (Ne.symm hiq)];exact hie⟩
    ·exact .inl ((hE n k).2 (by rw[if_neg e];exact h))
 ·unfold setT
  rw[if_pos he];exact Mut.same hr
end
section
open Go Go.RowKit
variable {kd:Int}{mk:Bool}{T T':List TB}
theorem jjx {x:TB}{n:Nat}:(T++[x])[n]?=if n=T.length then some x else T[n]?:=by
 split
 ·rename_i e;subst e;simp
 ·rename_i e
  by_cases h:n<T.length
  ·rw[V5 h]
  ·rw[J1 (by simp;omega),J1 (by omega)]
theorem jkp {n:Int}{o:Option Nat}(hr:Rng T)(hn: ¬(n<0∨10<n))(hl:T.length<100):
  Rng (T++[jaJ mk n o])∧(∀k,k≠T.length→cF (T++[jaJ mk n o]) k=cF T k)∧cF (T++[jaJ mk n o]) T.length=(if mk=true then 2 else 0)∧
  (∀a k,eF (T++[jaJ mk n o]) a k↔eF T a k)∧(∀a,rF (T++[jaJ mk n o]) a↔rF T a∨a=T.length):=by
 refine⟨⟨by simp;omega,fun x hx=>?_,fun x hx y hy=>?_⟩,fun k hk=>?_,?_,fun a k=>?_,fun a=>?_⟩
 ·rcases O3.1 hx with hx|hx
  ·exact hr.sm x hx
  ·rw[X6.1 hx];simp[jaJ];omega
 ·rcases O3.1 hx with hx|hx
  ·have:=hr.rng x hx y hy;simp;omega
  ·rw[X6.1 hx] at hy
   have:=(A6.1 hy).2;simp;omega
 ·unfold cF;rw[jjx,if_neg hk]
 ·unfold cF;rw[jjx,if_pos rfl];rfl
 ·unfold eF
  by_cases ha:a=T.length
  ·rw[jjx,if_pos ha]
   constructor
   ·rintro⟨x,hx,h⟩
    injection hx with hx
    subst hx;have:=(A6.1 h).2;omega
   ·rintro⟨x,hx,h⟩
    rw[ha,J1 (V2 _)] at hx;cases hx
  ·rw[jjx,if_neg ha]
 ·unfold rF
  by_cases ha:a=T.length
  ·rw[jjx,if_pos ha]
   exact⟨fun _=> .inr ha,fun _=>⟨_,rfl,rfl⟩⟩
  ·rw[jjx,if_neg ha]
   exact⟨fun h=> .inl h,fun h=>h.elim id fun q=>absurd q ha⟩
theorem new_lt (hr:Rng T)(k:Nat): ¬eF T T.length k∧ ¬eF T k T.length:=⟨fun h=>absurd (eF_lt hr h).1 (by omega),fun h=>absurd (eF_lt hr h).2 (by omega)⟩
theorem juh {n r e:Int}(h:MadeT mk T n r e T')(g:GS kd mk T):GS kd mk T':=by
 by_cases ha:n<0∨10<n
 ·rw[(h.arg ha).2.2];exact g
 ·by_cases hl:100≤T.length
  ·rw[(h.large ha hl).2.2];exact g
  ·obtain⟨-, -, o,rfl⟩:=h.ok ha (by omega)
   obtain⟨q1,q2,q3,q4,q5⟩:=jkp (mk:=mk) (o:=o) g.1 ha (by omega);exact⟨q1,g.2.new (new_lt g.1) q2 q3 q4 q5⟩
theorem made_un {n r e:Int}(h:MadeT mk T n r e T')(g:Rng T){U:Nat→Prop}(u:UIn U (cF T) (eF T) (rF T))(hU: ∀n,U n→n<T.length):UIn U (cF T') (eF T') (rF T')∧T.length≤T'.length:=by
 by_cases ha:n<0∨10<n
 ·rw[(h.arg ha).2.2];exact⟨u,V2 _⟩
 ·by_cases hl:100≤T.length
  ·rw[(h.large ha hl).2.2];exact⟨u,V2 _⟩
  ·obtain⟨-, -, o,rfl⟩:=h.ok ha (by omega)
   obtain⟨q1,q2,q3,q4,q5⟩:=jkp (mk:=mk) (o:=o) g ha (by omega);exact⟨u.new q2 q4 q5 (fun q=>absurd (hU _ q) (by omega)),by simp⟩
theorem jgZ (h:jek true T=some T'): ∃i,cF T i=1∧cF T' i=2∧(∀k,k≠i→cF T' k=cF T k∨(cF T k=0∧cF T' k=1∧eF T i k))∧(∀k,k≠i→eF T i k→cF T k=0→cF T' k=1)∧T'.map keyT=T.map keyT∧jaE T'=jaE T:=by
 obtain⟨i,x,hx,h1,rfl,_⟩:=jfJ h;have hc: ∀k,cF (shades true (T.set i (colX x 2)) x.2.1) k=if (k:Int)∈x.2.1∧k≠i∧cF T k=0 then 1 else if k=i then 2 else cF T k:=fun k=>by
  rw[jnY,jqN hx];by_cases hk:k=i
  ·simp[hk]
  ·simp[hk]
 have hE: ∀k,eF T i k↔(k:Int)∈x.2.1:=fun k=>⟨fun⟨z,hz,h⟩=>by rw[hx] at hz;injection hz with hz;rw[hz];exact h,fun h=>⟨x,hx,h⟩⟩
 refine⟨i,by rw[jhM hx];exact h1,by rw[hc,if_neg (fun q=>q.2.1 rfl),if_pos rfl],fun k hk=>?_,fun k hk he h0=>?_,by rw[jdu,jg8 (y:=colX x 2) hx rfl],?_⟩
 ·rw[hc]
  split
  ·rename_i q;exact .inr ⟨q.2.2,rfl,(hE k).2 q.1⟩
  ·first|exact .inl rfl|(rw[if_neg hk];exact .inl rfl)
 ·rw[hc,if_pos ⟨(hE k).1 he,hk,h0⟩]
 ·rw[jf6]
  unfold jaE;rw[O1h];apply U7
  intro j;rw[M1];split
  ·rename_i e;subst e;rw[if_pos (by simpa using (U0.1 hx).1),U8,hx];rfl
  ·rfl
theorem jkA (hk:T'.map keyT=T.map keyT):eF T'=eF T:=by funext n k;exact propext (ju5 hk)
theorem jkh (hh:jaE T'=jaE T):rF T'=rF T:=by funext n;exact propext (jop hh)
theorem jtr (h:jek true T=some T')(g:GS kd true T):GS kd true T':=by
 obtain⟨i,q1,q2,q3,q4,q5,q6⟩:=jgZ h;refine⟨g.1.key q5,?_⟩;rw[jkA q5,jkh q6];exact g.2.step q1 q2 q3 q4
theorem step_un (h:jek true T=some T'){U:Nat→Prop}(u:UIn U (cF T) (eF T) (rF T)):UIn U (cF T') (eF T') (rF T'):=by
 obtain⟨i,q1,q2,q3,q4,q5,q6⟩:=jgZ h;rw[jkA q5,jkh q6];exact u.step q1 q3
theorem Stp.good {m:Nat}(h:Stp true m T T')(g:GS kd true T):GS kd true T':=by
 induction h with
 |zero=>exact g
 |next _ h2 ih=>exact jtr h2 (ih g)
theorem Stp.un {m:Nat}(h:Stp true m T T'){U:Nat→Prop}(u:UIn U (cF T) (eF T) (rF T)):UIn U (cF T') (eF T') (rF T'):=by
 induction h with
 |zero=>exact u
 |next _ h2 ih=>exact step_un h2 (ih u)
theorem Stp.held {m:Nat}(h:Stp true m T T'):jaE T'=jaE T:=by
 induction h with
 |zero=>rfl
 |next _ h2 ih=>obtain⟨i,_,_,_,_,_,q6⟩:=jgZ h2;rw[q6,ih]
open Classical in
theorem jge:(∀k,cF (begT T) k=cF T k∨(cF T k=0∧cF (begT T) k=1∧rF T k))∧(∀k,rF T k→cF T k=0→cF (begT T) k=1):=by
 have hm: ∀k:Nat,(k:Int)∈jcH (jaE T)↔rF T k:=fun k=>by rw[jfP,O0f,jiF];exact⟨fun h=>h.2,fun h=>⟨by omega,h⟩⟩
 have hc: ∀k,cF (begT T) k=if rF T k∧cF T k=0 then 1 else cF T k:=fun k=>by
  unfold begT;rw[jnY];by_cases q:rF T k∧cF T k=0
  ·rw[if_pos q,if_pos ⟨rfl,(hm k).2 q.1,q.2⟩]
  ·rw[if_neg q,if_neg fun q2=>q ⟨(hm k).1 q2.2.1,q2.2.2⟩]
 refine⟨fun k=>?_,fun k h1 h2=>by rw[hc,if_pos ⟨h1,h2⟩]⟩;rw[hc];split
 ·rename_i q;exact .inr ⟨q.2,rfl,q.1⟩
 ·exact .inl rfl
theorem jjw:(begT T).map keyT=T.map keyT:=jdu
theorem jlU:jaE (begT T)=jaE T:=jf6
theorem jlb (g:GS kd false T):GS kd true (begT T):=by
 refine⟨g.1.key jjw,?_⟩;rw[jkA jjw,jkh jlU];exact g.2.begin jge.1 jge.2
def Un (b:List Bool)(n:Nat):Prop:=n<b.length∧ ¬Sn b n
theorem jqm (T:List TB):(jfs T).length=T.length:=by unfold jfs;rw[jdW,jeD]
theorem begin_un (g:GS kd false T):UIn (Un (jfs T)) (cF (begT T)) (eF (begT T)) (rF (begT T)):=by
 rw[jkA jjw,jkh jlU];refine UIn.begin jge.1 g.2 (fun n hn hnd=>hn.2 ((jg4 g.1).2 hnd)) (fun n k hn he=>?_);have hl:=(eF_lt g.1 he).1;exact (jg4 g.1).1 (Decidable.not_not.1 fun q=>hn ⟨by rw[jqm];exact hl,q⟩)
theorem jud (h:jek true T=none): ∀n,cF T n≠1:=fun n hc=>by
 unfold jek at h
 cases hf:T.findIdx? jjD with
 |none=>
  have h1:=Z5.1 hf
  cases hx:T[n]? with
  |none=>unfold cF at hc;rw[hx] at hc;simp at hc
  |some x=>
   have:=h1 x (R5 hx);rw[jhM hx] at hc;simp[jjD,hc] at this
 |some i=>
  obtain⟨h1,_,_⟩:=Z7.1 hf;rw[hf] at h;simp[U1 h1] at h
theorem ju2 (n:Nat):(T.map endX)[n]?=(T[n]?).map endX:=U8 ..
theorem end_c (n:Nat):cF (T.map endX) n=if cF T n=0 then 3 else if cF T n=2 then 0 else cF T n:=by
 unfold cF;rw[ju2]
 cases T[n]? with
 |none=>simp
 |some x=>
  simp only[U9,W9];unfold endX;split
  ·rfl
  ·split<;>rfl
theorem ju1:(∀n k,eF (T.map endX) n k→eF T n k)∧ ∀n,rF (T.map endX) n→rF T n:=by
 have h: ∀(n:Nat) (y:TB),(T.map endX)[n]?=some y→ ∃x:TB,T[n]?=some x∧(∀z∈y.2.1,z∈x.2.1)∧(y.2.2.2=true→x.2.2.2=true):=fun n y hy=>by
  rw[ju2] at hy
  cases hx:T[n]? with
  |none=>rw[hx] at hy;cases hy
  |some x=>
   rw[hx] at hy;simp only[U9,U4] at hy;subst hy;refine⟨x,rfl,fun z hz=>?_,fun hz=>?_⟩
   ·unfold endX at hz
    split at hz
    ·simp at hz
    ·split at hz<;>exact hz
   ·unfold endX at hz
    split at hz
    ·simp at hz
    ·split at hz<;>exact hz
 exact⟨fun n k ⟨y,hy,hm⟩=>by obtain⟨x,hx,h1,_⟩:=h n y hy;exact⟨x,hx,h1 _ hm⟩,fun n ⟨y,hy,hm⟩=>by obtain⟨x,hx,_,h2⟩:=h n y hy;exact⟨x,hx,h2 hm⟩⟩
theorem end_rng (hr:Rng T):Rng (T.map endX):=by
 refine⟨by rw[P2];exact hr.len,fun x hx=>?_,fun x hx y hy=>?_⟩
 ·obtain⟨w,hw,rfl⟩:=U6.1 hx
  rcases jlM hw with q|⟨z,hz,_,e⟩
  ·rw[q.2];simp
  ·rw[←e];exact hr.sm z hz
 ·rw[P2]
  obtain⟨w,hw,rfl⟩:=U6.1 hx;rcases jlM hw with q|⟨z,hz,_,e⟩
  ·rw[q.2] at hy;simp at hy
  ·rw[←e] at hy;exact hr.rng z hz y hy
theorem end_good (g:GS kd true T)(hn:jek true T=none):GS kd false (T.map endX):=
 ⟨end_rng g.1,g.2.done (jud hn) end_c ju1.1 ju1.2⟩
theorem jfy {a b n d r e:Int}{mk':Bool}(h:DoT kd mk T a b n d r e mk' T')(g:GS kd mk T):GS kd mk' T':=by
 cases h with
 |new h=>exact juh h g
 |set=>exact (jtM g.1 g.2.kind).good g
 |drop=>exact (jhZ g.1 g.2.kind).good g
 |hold=>exact (jhZ g.1 g.2.kind).good g
 |stepNo _=>exact g
 |stepArg _ _=>exact g
 |step hm _ hS _ _=>subst hm;exact hS.good g
 |beginNo _=>exact g
 |begn hm=>subst hm;exact jlb g
 |endNo _=>exact g
 |done hm hS hno=>subst hm;exact end_good (hS.good g) hno
 |other _=>exact g
theorem do_len {a b n d r e:Int}{mk':Bool}(h:DoT kd mk T a b n d r e mk' T'):T.length≤T'.length:=by
 cases h with
 |new h=>
  by_cases ha:n<0∨10<n
  ·rw[(h.arg ha).2.2];exact V2 _
  ·by_cases hl:100≤T.length
   ·rw[(h.large ha hl).2.2];exact V2 _
   ·obtain⟨-, -, o,rfl⟩:=h.ok ha (by omega);simp
 |set=>
  unfold setT;split
  ·exact V2 _
  ·split
   ·exact V2 _
   ·split
    ·exact V2 _
    ·simp only
     split
     ·rw[D5,jd2];exact V2 _
     ·rw[jd2];exact V2 _
 |drop=>exact O1x (jce jh0).symm
 |hold=>exact O1x (jce jh0).symm
 |step _ _ hS _ _=>exact O1x (jce hS.key).symm
 |begn _=>exact O1x (jce jjw).symm
 |done _ hS _=>rw[P2];exact O1x (jce hS.key).symm
 |_=>exact V2 _
theorem do_un {a b n d r e:Int}{mk':Bool}(h:DoT kd mk T a b n d r e mk' T')(g:GS kd mk T)(hm:mk=true)(hm':mk'=true){U:Nat→Prop}(u:UIn U (cF T) (eF T) (rF T))(hU: ∀n,U n→n<T.length):UIn U (cF T') (eF T') (rF T'):=by
 cases h with
 |new h=>exact (made_un h g.1 u hU).1
 |set=>exact (jtM g.1 g.2.kind).un u
 |drop=>exact (jhZ g.1 g.2.kind).un u
 |hold=>exact (jhZ g.1 g.2.kind).un u
 |step hm _ hS _ _=>subst hm;exact hS.un u
 |begn q=>rw[hm] at q;cases q
 |done _ _ _=>cases hm'
 |_=>exact u
end
section
open Go Go.RowKit
theorem best_min {n m:Nat}:jhN false (Z64 (n:Nat)) [Z64 (m:Nat)]=some (Z64 ((min n m:Nat):Int)):=by
 simp only[jhN];by_cases h:m<n
 ·rw[show min n m=m by omega]
  have:((m:Nat):Int)<((n:Nat):Int):=by omega
  simp[this]
 ·rw[show min n m=n by omega]
  have: ¬((m:Nat):Int)<((n:Nat):Int):=by omega
  simp[this]
section
variable {kd:Int}{mk mk':Bool}{T T':List TB}{a b n d r e:Int}
theorem gs_start (hk:kd=1∨kd=2):GS kd false []:=by
 have hn: ∀n,¬ Nd (eF []) (rF []) n:=fun n hn=>by
  cases hn with
  |root h=>obtain⟨x,hx,_⟩:=h;simp at hx
  |edge _ h=>obtain⟨x,hx,_⟩:=h;simp at hx
 exact⟨⟨by simp,by simp,by simp⟩,hk,fun n=> .inr (.inr (.inr rfl)),fun n h=>absurd h (hn n),fun _ n=> .inr rfl,fun q=>(by cases q),fun q=>(by cases q),fun q=>(by cases q)⟩
structure KI (kd:Int)(bg:List Bool)(mk:Bool)(T:List TB):Prop where
  gs:GS kd mk T
  un:mk=true→UIn (Un bg) (cF T) (eF T) (rF T)
  len:bg.length≤T.length
theorem KI.go {bg:List Bool}(k:KI kd bg mk T)(h:DoT kd mk T a b n d r e mk' T')(hm:mk=true):KI kd bg mk' T':=
 ⟨jfy h k.gs,fun hm'=>do_un h k.gs hm hm' (k.un hm) (fun n hn=>Nat.lt_of_lt_of_le hn.1 k.len),V3 k.len (do_len h)⟩
theorem KI.idle {bg:List Bool}(k:KI kd bg mk T)(h:DoT kd mk T a b n d r e mk' T')(hm:mk'=false):KI kd bg mk' T':=
 ⟨jfy h k.gs,fun q=>(by rw[hm] at q;cases q),V3 k.len (do_len h)⟩
theorem cols_at (hl:n=n){m:Nat}(hm:m<T.length):(jc5 T)[m]?=some (cF T m):=by
 unfold jc5;rw[U8,U1 hm];rw[jhM (U1 hm)];rfl
theorem cols_len:(jc5 T).length=T.length:=by simp[jc5]
end
end
end Go.Proofs.YtlkapggcppcafaaGreatDoor
