/-
  'TopStored': what a store, and a list, have, in plain Lean.
-/
import Derived.Test.YtjaahfncbechnaaGreatDoorMrT18
import Derived.Test.YtjaahfncbechnaaGreatDoorMrT19
import Derived.Test.YtjaahfncbechnaaGreatDoorMrT22
set_option linter.unusedVariables false
set_option linter.unusedSimpArgs false
namespace Go.Proofs.YtjaahfncbechnaaGreatDoor
section
open Go Go.RowKit
section
variable {L:Nat→Bool}{H:ZH}{p:Nat}{σ:Sg}{A:AS}{u:Nat}
theorem size_nil:size ⟨[],[],[]⟩=0:=by simp[size]
theorem make0 {mk:Int}(hm:0≤mk∧mk<2147483648)(hA:A.mks.length<100)(hs:size A+1≤2000):jeA A mk=0∧jkt A mk=jdY A mk∧jku A mk=(A.mks.length:Int):=by
 have hE:jeA A mk=0:=by unfold jeA;rw[if_neg (by omega),if_neg (by omega)]
 exact⟨hE,by unfold jkt;rw[if_pos hE],by unfold jku;rw[if_pos hE]⟩
theorem jrP {i o:Nat}:nilZ H 1 (.ptr i o)=some false:=rfl
theorem StO.setO {H1:ZH}{i:Nat}{B:ZB}(h:StO H1 p σ A u)(hi:i≠p∧i≠σ.w∧i≠σ.a∧i≠σ.h):StO (H1.set i B) p σ A u:=by
 obtain⟨F,AT,q1,q2,q3⟩:=h
 exact⟨F,AT,⟨by rw[List.getElem?_set_ne hi.1];exact q1.box,by rw[List.getElem?_set_ne hi.2.1];exact q1.ws,by rw[List.getElem?_set_ne hi.2.2.1];exact q1.ats,by rw[List.getElem?_set_ne hi.2.2.2];exact q1.hs,q1.wa,q1.wh,q1.ah⟩,q2,q3⟩
theorem FrS.setO {H1 H2:ZH}{σ':Sg}{i:Nat}{B:ZB}(h:FrS p σ σ' H1 H2)(hi:H1.length≤i):FrS p σ σ' H1 (H2.set i B):=
 ⟨by rw[List.length_set];exact h.len,fun j C a b c d hj=>by rw[List.getElem?_set_ne (by have:=jae hj;omega)];exact h.keep j C a b c d hj,h.w,h.a,h.h⟩
theorem dd_cut {α:Type}{e:α→List ZV}{k n:Nat}{ex:Bool}{l:List α}(h:n≤l.length): ∃ex2,∀ H,cutZ H k 0 n l.length false (.fz k ex (l.map e))=some (.fz k ex2 ((l.take n).map e)):=by
 by_cases hl:l=[]
 ·subst hl
  have:n=0:=by simpa using h
  subst this
  exact⟨false,fun H=>by simp[cutZ]⟩
 ·refine⟨(ex||false)&&n==l.length,fun H=>?_⟩
  simp only[cutZ]
  rw[if_pos ⟨trivial,Nat.zero_le _,h,by simp⟩,if_neg (by simpa using hl)]
  simp only[List.drop_zero,Nat.sub_zero,List.map_take]
theorem best_min {n m:Nat}:jjg false (Z64 (n:Nat)) [Z64 (m:Nat)]=some (Z64 ((min n m:Nat):Int)):=by
 simp only[jjg]
 by_cases h:m<n
 ·rw[show min n m=m by omega]
  have:((m:Nat):Int)<((n:Nat):Int):=by omega
  simp[this]
 ·rw[show min n m=n by omega]
  have: ¬((m:Nat):Int)<((n:Nat):Int):=by omega
  simp[this]
end
def PV (k n:Int):Prop:=(k=0∧n=0)∨(k=1∧(n=0∨n=1))∨(k=2∧ -2147483648≤n∧n≤2147483647)
theorem PV.rv {k n:Int}(h:PV k n):RV k n:=by
 unfold PV at h;unfold RV
 rcases h with h|h|h
 ·exact .inl h
 ·exact .inr (.inl h)
 ·exact .inr (.inr (.inl h))
theorem PV.i64 {k n:Int}(h:PV k n): -9223372036854775808≤n∧n≤9223372036854775807:=by unfold PV at h;omega
theorem PV.box {k n:Int}(h:PV k n):boxE k n=0∧jaw (boxW k n)=k∧jau (boxW k n)=n∧jax (boxW k n)=false∧k≠5:=by
 have hE:boxE k n=0:=by
  rcases h with⟨rfl,rfl⟩|⟨rfl,rfl|rfl⟩|⟨rfl,h1,h2⟩
  ·decide
  ·decide
  ·decide
  ·unfold boxE
   rw[if_neg (by omega),if_neg (by omega),if_neg (by unfold loI hiI;simp;omega)]
 have hk:k≠5∧k≠3:=by unfold PV at h;omega
 obtain⟨z1,z2,z3,z4,z5⟩:=jdT h.i64 hE
 exact⟨hE,z3,z5 hk.2,by rw[z4];simp[hk.1],hk.1⟩
structure TI (A:AS)(l:List (Int×Int))(k:Nat):Prop where
  n:A.mks.length≤1+k
  h:A.hd[0]?=some true
  v0:A.val 0=l.map fun v=>boxW v.1 v.2
  vn: ∀n,0<n→A.val n=[]
variable {A:AS}{l:List (Int×Int)}{k:Nat}{kk n:Int}
theorem jep {f:Nat→Nat}{p:Nat→Bool}: ∀l:List Nat,((l.filter p).map f).sum≤(l.map f).sum
 |[]=>Nat.le_refl _
 |a::l=>by
  have ih:=jep (f:=f) (p:=p) l
  rw[List.filter_cons]
  split<;>simp only[List.map_cons,List.sum_cons]<;>omega
theorem jqx {f:Nat→Nat}{c:Nat}(h0:f 0=1+c)(hn: ∀n,0<n→f n=1): ∀m,((List.range m).map f).sum≤m+c
 |0=>by simp
 |m+1=>by
  rw[List.range_succ,List.map_append,List.sum_append]
  simp only[List.map_cons,List.map_nil,List.sum_cons,List.sum_nil]
  cases m with
  |zero=>simp[h0]
  |succ m=>
   have ih:=jqx h0 hn (m+1)
   have:=hn (m+1) (by omega)
   omega
theorem TI.size (h:TI A l k):size A≤A.mks.length+l.length:=by
 classical
 unfold Go.Proofs.YtjaahfncbechnaaGreatDoor.size
 refine Nat.le_trans (jep _) (jqx ?_ ?_ _)
 ·rw[h.v0];simp
 ·intro n hn;rw[h.vn n hn];rfl
theorem TI.rch (h:TI A l k):Rch A 0:= .held h.h
theorem TI.pos (h:TI A l k)(hA:AOk A):0<A.mks.length:=by
 have:=(List.getElem?_eq_some_iff.1 h.h).1
 have:=hA.lh;omega
theorem TI.up (h:TI A l k){k':Nat}(hk:k≤k'):TI A l k':=⟨by have:=h.n;omega,h.h,h.v0,h.vn⟩
theorem TI.make (h:TI A l k)(hk:k≤30)(hl:l.length≤30){mk:Int}(hm:0≤mk∧mk<2147483648):TI (jkt A mk) l (k+1):=by
 have h1:=h.n
 have h2:=h.size
 obtain⟨_,e,_⟩:=make0 (A:=A) hm (by omega) (by omega)
 rw[e]
 refine⟨by simp only[jdY,List.length_append,List.length_singleton];omega,?_,by rw[jcg];exact h.v0,fun n hn=>by rw[jcg];exact h.vn n hn⟩
 have h3:=(List.getElem?_eq_some_iff.1 h.h).1
 simp only[jdY]
 rw[List.getElem?_append_left h3];exact h.h
theorem TI.drop (h:TI A l k):TI (jjd A 1) l k:=by
 unfold jjd
 split
 ·exact⟨h.n,by rw[List.getElem?_set_ne (by decide)];exact h.h,h.v0,h.vn⟩
 ·exact h
theorem TI.named (h:TI A l k)(hA:AOk A):jaZ A 0=0:=jhW hA h.rch
theorem TI.pushE (h:TI A l k)(hA:AOk A)(hk:k≤60)(hl:l.length≤30)(hv:PV kk n):Go.Proofs.YtjaahfncbechnaaGreatDoor.pushE A 0 kk n=0:=by
 obtain⟨b1,b2,b3,b4,b5⟩:=hv.box
 have h1:=h.n
 have h2:=h.size
 unfold Go.Proofs.YtjaahfncbechnaaGreatDoor.pushE jci
 rw[if_neg (by rw[h.named hA];simp),if_neg (by rw[if_neg (by rw[b1];simp),if_pos b5];simp),if_neg ?_]
 show ¬(100≤(A.val 0).length∨_)
 rw[h.v0]
 simp;omega
theorem TI.push (h:TI A l k)(hA:AOk A)(hk:k≤60)(hl:l.length≤30)(hv:PV kk n):TI (jfw A 0 kk n) (l++[(kk,n)]) k:=by
 unfold jfw
 rw[if_pos (h.pushE hA hk hl hv)]
 have hp:=h.pos hA
 have hvl:0<A.vs.length:=by have:=hA.lv;omega
 refine⟨h.n,h.h,?_,fun m hm=>?_⟩
 ·show (putV A 0 _).val 0=_
  rw[jcn hvl,if_pos rfl]
  show A.val 0++_=_
  rw[h.v0];simp
 ·show (putV A 0 _).val m=_
  rw[jcn hvl,if_neg (by omega)];exact h.vn m hm
theorem TI.count (h:TI A l k)(hA:AOk A):jkQ A 0=(l.length:Int):=by
 unfold jkQ
 rw[if_pos (h.named hA)]
 show ((A.val 0).length:Int)=_
 rw[h.v0];simp
theorem TI.get (h:TI A l k)(hA:AOk A){i:Nat}(hi:l[i]?=some (kk,n))(hv:PV kk n):atE A 0 i=0∧getV A 0 i=(kk,n):=by
 have hil:=(List.getElem?_eq_some_iff.1 hi).1
 have e:atE A 0 i=0:=by
  unfold atE
  rw[if_neg (by rw[h.named hA];simp),if_neg ?_]
  show ¬((i:Int)<0∨((A.val 0).length:Int)≤i)
  rw[h.v0];simp;omega
 refine⟨e,?_⟩
 obtain⟨b1,b2,b3,b4,b5⟩:=hv.box
 unfold getV
 rw[if_pos e]
 show (jaw ((A.val 0).getD i 0),jau ((A.val 0).getD i 0))=_
 rw[h.v0,List.getD_eq_getElem?_getD,List.getElem?_map,hi]
 simp[b2,b3]
theorem TI.init:TI (jdY ⟨[],[],[]⟩ 0) [] 0:=⟨by simp[jdY],rfl,rfl,fun n hn=>by
 rw[jcg];simp[AS.val]⟩
end
section
open Go Go.RowKit
section
variable {tb:List (FuncId×Bool)}{nd:Bool}{L:Nat→Bool}{H:ZH}{K:ZV→ZH→Prop}{S:ZS}{KK:jas→ZS→ZH→Prop}{X:XT}{q:Nat}{k n:Int}
theorem jnp (htb:tb=[])(hK:K (ZBo true) H):ZC (XS tb nd) (jal Tryz.prog) 4 [] L H K:=by
 subst htb
 refine ZC.enter Gh.no (fun args fl hp ha => by
  have:args=[]:=List.eq_nil_of_length_eq_zero ha
  subst this
  simp[boxX,jia]) jlW (by simp) ?_
 simp only[jgU,kkP]
 have fin:=Fin.keep (H0:=H) hK
 have w5:boxW 5 3=18445899648779419651:=by decide
 have e5:boxE 5 3=0:=by decide
 have b5:binV .eql (.int .u64 18445899648779419651) (.int .u64 18445899648779419651)=some (.bool true):=by simp[binV]
 clear hK
 with_reducible repeat' first|simp only[zP,jaf,jaa,jad,jac,seval,Nat.reduceLeDiff, *]|simp only[jab]|apply And.intro|intro _
 refine jj6 ?_
 with_reducible repeat' first|simp only[zP,jaf,jaa,jad,jac,seval,Nat.reduceLeDiff,w5,e5,b5,decide_true,decide_false, *]|simp only[jab]|apply And.intro|intro _
def plB (k n:Int):Bool:=(k==0&&n==0)||(k==1&&(n==0||n==1))||(k==2&&decide (-2147483648≤n)&&decide (n≤2147483647))
theorem jq4:plB k n=true↔PV k n:=by
 unfold plB PV
 simp only[Bool.or_eq_true,Bool.and_eq_true,beq_iff_eq,decide_eq_true_eq]
 constructor
 ·rintro ((h|h)|⟨⟨h1,h2⟩,h3⟩)
  ·exact .inl h
  ·exact .inr (.inl h)
  ·exact .inr (.inr ⟨h1,h2,h3⟩)
 ·rintro (h|h|⟨h1,h2,h3⟩)
  ·exact .inl (.inl h)
  ·exact .inl (.inr h)
  ·exact .inr ⟨⟨h1,h2⟩,h3⟩
set_option maxHeartbeats 4000000 in
theorem tsP_z (h11:S 11= .ptr q 0)(hq:H[q]?=some (.box [Z64 k,Z64 n]))(h: ∀S':ZS,(∀t,t≤56→t≠12→S' t=S t)→S' 12=ZBo (plB k n)→KK .normal S' H):zW X (jal Tryz.prog) Gh.no L c_tsP S H KK:=by
 simp only[c_tsP,kkP]
 have HK:=Lib.hid h
 clear h
 by_cases k0:k=0
 ·subst k0
  by_cases n0:n=0
  ·subst n0
   rw[show plB 0 0=true from rfl] at HK
   with_reducible repeat' first|simp only[zP,jaf,jaa,jad,jac,seval,Nat.reduceLeDiff,h11,hq,decide_true,decide_false, *]|simp only[jab]|apply And.intro|intro _
   all_goals exact HK.out _ (fun t h1 h2=>by simp only[zupd];repeat rw[if_neg (by omega)]) (by simp[zupd])
  ·skip
   rw[show plB 0 n=false by simp[plB,n0]] at HK
   with_reducible repeat' first|simp only[zP,jaf,jaa,jad,jac,seval,Nat.reduceLeDiff,h11,hq,n0,decide_true,decide_false, *]|simp only[jab]|apply And.intro|intro _
   all_goals exact HK.out _ (fun t h1 h2=>by simp only[zupd];repeat rw[if_neg (by omega)]) (by simp[zupd])
 ·by_cases k1:k=1
  ·subst k1
   by_cases n0:n=0
   ·subst n0
    rw[show plB 1 0=true from rfl] at HK
    with_reducible repeat' first|simp only[zP,jaf,jaa,jad,jac,seval,Nat.reduceLeDiff,h11,hq,decide_true,decide_false, *]|simp only[jab]|apply And.intro|intro _
    all_goals exact HK.out _ (fun t h1 h2=>by simp only[zupd];repeat rw[if_neg (by omega)]) (by simp[zupd])
   ·by_cases n1:n=1
    ·subst n1
     rw[show plB 1 1=true from rfl] at HK
     with_reducible repeat' first|simp only[zP,jaf,jaa,jad,jac,seval,Nat.reduceLeDiff,h11,hq,decide_true,decide_false, *]|simp only[jab]|apply And.intro|intro _
     all_goals exact HK.out _ (fun t h1 h2=>by simp only[zupd];repeat rw[if_neg (by omega)]) (by simp[zupd])
    ·skip
     rw[show plB 1 n=false by simp[plB,n0,n1]] at HK
     with_reducible repeat' first|simp only[zP,jaf,jaa,jad,jac,seval,Nat.reduceLeDiff,h11,hq,n0,n1,decide_true,decide_false, *]|simp only[jab]|apply And.intro|intro _
     all_goals exact HK.out _ (fun t h1 h2=>by simp only[zupd];repeat rw[if_neg (by omega)]) (by simp[zupd])
  ·by_cases k2:k=2
   ·subst k2
    by_cases l1: -2147483648≤n
    ·by_cases l2:n≤2147483647
     ·skip
      rw[show plB 2 n=true by simp[plB,l1,l2]] at HK
      with_reducible repeat' first|simp only[zP,jaf,jaa,jad,jac,seval,Nat.reduceLeDiff,h11,hq,l1,l2,decide_true,decide_false, *]|simp only[jab]|apply And.intro|intro _
      all_goals exact HK.out _ (fun t h1 h2=>by simp only[zupd];repeat rw[if_neg (by omega)]) (by simp[zupd])
     ·skip
      rw[show plB 2 n=false by simp[plB,l2]] at HK
      with_reducible repeat' first|simp only[zP,jaf,jaa,jad,jac,seval,Nat.reduceLeDiff,h11,hq,l1,l2,decide_true,decide_false, *]|simp only[jab]|apply And.intro|intro _
      all_goals exact HK.out _ (fun t h1 h2=>by simp only[zupd];repeat rw[if_neg (by omega)]) (by simp[zupd])
    ·skip
     rw[show plB 2 n=false by simp[plB,l1]] at HK
     with_reducible repeat' first|simp only[zP,jaf,jaa,jad,jac,seval,Nat.reduceLeDiff,h11,hq,l1,decide_true,decide_false, *]|simp only[jab]|apply And.intro|intro _
     all_goals exact HK.out _ (fun t h1 h2=>by simp only[zupd];repeat rw[if_neg (by omega)]) (by simp[zupd])
   ·skip
    rw[show plB k n=false by simp[plB,k0,k1,k2]] at HK
    with_reducible repeat' first|simp only[zP,jaf,jaa,jad,jac,seval,Nat.reduceLeDiff,h11,hq,k0,k1,k2,decide_true,decide_false, *]|simp only[jab]|apply And.intro|intro _
    all_goals exact HK.out _ (fun t h1 h2=>by simp only[zupd];repeat rw[if_neg (by omega)]) (by simp[zupd])
end
end
end Go.Proofs.YtjaahfncbechnaaGreatDoor
