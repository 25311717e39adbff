/-
  Proved: the law TopStored answers true, whatever the input: what was put behind a list, and behind a cell of a store, is the same.
-/
import Derived.Deep.DeepHandedRow
import Derived.Lay
import Derived.Lib.LaidTab
import Derived.MakeChecks
import Derived.Stop.LaidErr
import Derived.Test.YtjaahfncbechnaaGreatDoorCards
import Derived.Test.YtjaahfncbechnaaGreatDoorMrT23
import Derived.Test.YtjaahfncbechnaaGreatDoorTie
set_option linter.unusedVariables false
set_option linter.unusedSimpArgs false
namespace Go.Proofs.YtjaahfncbechnaaGreatDoor
section
open Go Go.RowKit
def Fo (p:Nat)(σ:Sg)(i:Nat):Prop:=i≠p∧i≠σ.w∧i≠σ.a∧i≠σ.h
structure LwI (H:ZH)(p b:Nat)(σ:Sg)(A:AS)(u:Nat)(l:List (Int×Int))(jt jl:Nat):Prop where
  st:StO H p σ A u
  ti:TI A l jt
  sb: ∃vz ex e1 e2,VzOk vz l∧H[b]?=some (.box (s8 (.fz 4 ex [rowC vz]) e1 e2))
  lb:H[b+1]?=some (.box [Z64 5,Z64 0])
  pv: ∀v∈l,PV v.1 v.2
  ll:l.length≤jl
  f0:Fo p σ b
  f1:Fo p σ (b+1)
variable {L:Nat→Bool}{H H':ZH}{S:ZS}{KK:jas→ZS→ZH→Prop}{p b q u jt jl:Nat}{k n:Int}{σ σ':Sg}{A A':AS}{l:List (Int×Int)}
theorem LwI.ext (h:LwI H p b σ A u l jt jl)(X:ZH):LwI (H++X) p b σ A u l jt jl:=by
 obtain⟨vz,ex,e1,e2,h1,h2⟩:=h.sb
 exact⟨h.st.ext X,h.ti,⟨vz,ex,e1,e2,h1,blkX h2 X⟩,blkX h.lb X,h.pv,h.ll,h.f0,h.f1⟩
theorem Fo.step (h:Fo p σ q)(f:FrS p σ σ' H H')(hq:q<H.length):Fo p σ' q:=by
 refine⟨h.1,?_,by rw[f.a];exact h.2.2.1,by rw[f.h];exact h.2.2.2⟩
 rcases f.w with e|e
 ·rw[e];exact h.2.1
 ·omega
theorem LwI.step (h:LwI H p b σ A u l jt jl)(f:FrS p σ σ' H H'){u' jt':Nat}(s:StO H' p σ' A' u')(t:TI A' l jt'):LwI H' p b σ' A' u' l jt' jl:=by
 obtain⟨vz,ex,e1,e2,h1,h2⟩:=h.sb
 exact⟨s,t,⟨vz,ex,e1,e2,h1,f.keep _ _ h.f0.1 h.f0.2.1 h.f0.2.2.1 h.f0.2.2.2 h2⟩,f.keep _ _ h.f1.1 h.f1.2.1 h.f1.2.2.1 h.f1.2.2.2 h.lb,h.pv,h.ll,h.f0.step f (jae h2),h.f1.step f (jae h.lb)⟩
theorem same2 {a b:Int}:jj7 [0,0] [Z64 a,Z64 b] [Z64 a,Z64 b]=some true:=by simp[jj7,joo]
set_option maxHeartbeats 8000000 in
theorem tsT_z (hI:LwI H p b σ A u l jt jl)(hv:PV k n)(hjt:jt≤60)(hjl:jl<30)(hL: ∀i,L i=true)(h5:S 5= .ptr p 0)(h6:S 6=Z64 0)(h8:S 8= .ptr b 0)(h9:S 9= .ptr (b+1) 0)(h11:S 11= .ptr q 0)(hq:H[q]?=some (.box [Z64 k,Z64 n]))
  (h: ∀S' H',(∃σ' A' u',LwI H' p b σ' A' u' (l++[(k,n)]) jt (jl+1))→KK .normal S' H'):zW (XS [] true) (jal Tryz.prog) Gh.no L c_tsT S H KK:=by
 simp only[c_tsT,kkP]
 obtain⟨vz,ex,e1,e2,hvz,hb⟩:=hI.sb
 have hb1:=hI.lb
 have HI:=Lib.hid hI
 have HV:=Lib.hid hv
 have HK:=Lib.hid h
 have HZ:=Lib.hid hvz
 have hll:l.length<100:=by have:=hI.ll;omega
 have c5:((5:Int),(0:Int))=(5,0):=rfl
 clear h hI hv hvz
 with_reducible repeat' first|simp only[zP,jaf,jaa,jad,jac,seval,Nat.reduceLeDiff,h5,h6,h8,h9,h11,hb,hb1,hq, *]|simp only[jab]|apply And.intro|intro _
 refine tcall_z HZ.out (fun v hv=>(HI.out.pv v hv).rv) hll HV.out.rv ?_
 have g0: ∀A X,(H++(A::X))[H.length]?=some A:=fun A X=>jay A X
 have s0: ∀A C X,(H++(A::X)).set H.length C=H++(C::X):=fun A C X=>jbR A C X
 have g1: ∀A B X,(H++(A::B::X))[H.length+1]?=some B:=fun A B X=>jbf A B X
 have s1: ∀A B C X,(H++(A::B::X)).set (H.length+1) C=H++(A::C::X):=fun A B C X=>jdH A B C X
 have gq:=blkX hq
 with_reducible repeat' first|simp only[zP,jaf,jaa,jad,jac,seval,Nat.reduceLeDiff,h5,h6,h8,h9,h11,g0,s0,g1,s1,gq,hL,decide_true,decide_false, *]|simp only[jab]|apply And.intro|intro _
 have hne:l++[(k,n)]≠[]:=by simp
 have hA:=HI.out.st.ok
 have hlk:l.length≤30:=by have:=HI.out.ll;omega
 have hpE:=HI.out.ti.pushE hA hjt hlk HV.out
 refine sPush_z HV.out.i64 (HI.out.st.ext _) hL fun H' σ' u' q1 q2=>?_
 rw[hpE]
 have hlt:=HI.out.st.lt
 have kp: ∀i B,H.length≤i→(H++[ZB.box [ZV.fz 4 false [rowC (ZV.fz 2 false (List.map eVl l++[[Z64 k,Z64 n]]))],ZV.fz 2 false jhG,ZV.fz 1 false jbn,ZV.nil,ZV.nil,ZV.nil,Z64 0,Z64 0],ZB.box [Z64 2,Z64 ↑(l.length+1)]])[i]?=some B→H'[i]?=some B:=fun i B hi h=>q2.keep i B (by omega) (by omega) (by omega) (by omega) h
 have r13:=kp _ _ (Nat.le_refl _) (jay _ _)
 have r14:=kp _ _ (by omega) (jbf _ _ _)
 have hI2:=HI.out.ext [ZB.box [ZV.fz 4 false [rowC (ZV.fz 2 false (List.map eVl l++[[Z64 k,Z64 n]]))],ZV.fz 2 false jhG,ZV.fz 1 false jbn,ZV.nil,ZV.nil,ZV.nil,Z64 0,Z64 0],ZB.box [Z64 2,Z64 ↑(l.length+1)]]
 have rb:=q2.keep _ _ HI.out.f0.1 HI.out.f0.2.1 HI.out.f0.2.2.1 HI.out.f0.2.2.2 (blkX hb _)
 have rb1:=q2.keep _ _ HI.out.f1.1 HI.out.f1.2.1 HI.out.f1.2.2.1 HI.out.f1.2.2.2 (blkX hb1 _)
 have F0:=HI.out.f0.step q2 (by have:=jae hb;simp;omega)
 have F1:=HI.out.f1.step q2 (by have:=jae hb1;simp;omega)
 have hbl:=jae hb
 have T2:=HI.out.ti.push hA hjt hlk HV.out
 have st2: ∀B,StO (H'.set b B) p σ' (jfw A 0 k n) u':=fun B=>q1.setO F0
 have r14': ∀B,(H'.set b B)[H.length+1]?=_:=fun B=>(List.getElem?_set_ne (by omega)).trans r14
 have hc:=T2.count q1.ok
 have hn:=T2.named q1.ok
 rw[List.length_append] at hc
 have fin:KK .normal=KK .normal:=rfl
 have LF:LwI (H'.set b (.box (s8 (.fz 4 false [rowC (.fz 2 false (List.map eVl l++[[Z64 k,Z64 n]]))]) false false))) p b σ' (jfw A 0 k n) u' (l++[(k,n)]) jt (jl+1):=
  ⟨st2 _, T2, ⟨_, false, false, false, .inr ⟨hne, false, by rw [List.map_append]; rfl⟩, List.getElem?_set_self (jae rb)⟩, (List.getElem?_set_ne (by omega)).trans rb1, fun v hv => by
   rcases List.mem_append.1 hv with hv|hv
   ·exact HI.out.pv v hv
   ·rw[List.mem_singleton.1 hv];exact HV.out,by rw[List.length_append];have:=HI.out.ll;simp;omega,F0,F1⟩
 have LL:=Lib.hid LF
 have ST:=Lib.hid st2
 clear q1 q2 kp hI2 rb1 F0 F1 T2 st2 LF hlt fin hne hpE hA hlk hb hb1
 with_reducible repeat' first|simp only[zP,jaf,jaa,jad,jac,seval,Nat.reduceLeDiff,h5,h6,h8,h9,r13,rb,hL,decide_true,decide_false, *]|simp only[jab]|apply And.intro|intro _
 refine jnj (ST.out _) ?_
 rw[hc,hn]
 with_reducible repeat' first|simp only[zP,jaf,jaa,jad,jac,seval,Nat.reduceLeDiff,r14',same2,decide_true,decide_false, *]|simp only[jab]|apply And.intro|intro _
 all_goals exact HK.out _ _ ⟨_,_,_,LL.out⟩
end
section
open Go Go.RowKit
variable {L:Nat→Bool}{H H':ZH}{S:ZS}{KK:jas→ZS→ZH→Prop}{p b q u jt jl:Nat}{k n:Int}{σ σ':Sg}{A A':AS}{l:List (Int×Int)}
set_option maxHeartbeats 8000000 in
theorem tsG_z (hI:LwI H p b σ A u l jt jl)(hjl:jl≤30){i:Nat}(hi:i<l.length)(hL: ∀i,L i=true)(h5:S 5= .ptr p 0)(h6:S 6=Z64 0)(h8:S 8= .ptr b 0)(h9:S 9= .ptr (b+1) 0)(h20:S 20=Z64 i)
  (h: ∀S' X,KK .normal S' (H++X)):zW (XS [] true) (jal Tryz.prog) Gh.no L c_tsG S H KK:=by
 simp only[c_tsG,kkP]
 obtain⟨vz,ex,e1,e2,hvz,hb⟩:=hI.sb
 have hb1:=hI.lb
 have hne:l≠[]:=fun e=>by rw[e] at hi;cases hi
 obtain⟨exv,rfl⟩: ∃exv,vz= .fz 2 exv (l.map eVl):=by
  rcases hvz with⟨_,e⟩|⟨_,e⟩
  ·exact absurd e hne
  ·exact e
 obtain⟨a,c,hac⟩: ∃a c,l[i]?=some (a,c):=⟨l[i].1,l[i].2,by rw[List.getElem?_eq_getElem hi]⟩
 have hll:=hI.ll
 have HI:=Lib.hid hI
 have HK:=Lib.hid h
 have HAC:=Lib.hid hac
 clear h hI hvz hac
 with_reducible repeat' first|simp only[zP,jaf,jaa,jad,jac,seval,Nat.reduceLeDiff,h5,h6,h8,h9,h20,hb,hb1, *]|simp only[jab]|apply And.intro|intro _
 refine tget_z (fun v hv=>(HI.out.pv v hv).rv) (by omega) HAC.out ?_
 have g0: ∀A X,(H++(A::X))[H.length]?=some A:=fun A X=>jay A X
 have s0: ∀A C X,(H++(A::X)).set H.length C=H++(C::X):=fun A C X=>jbR A C X
 have g1: ∀A B X,(H++(A::B::X))[H.length+1]?=some B:=fun A B X=>jbf A B X
 have s1: ∀A B C X,(H++(A::B::X)).set (H.length+1) C=H++(A::C::X):=fun A B C X=>jdH A B C X
 have hav:=HI.out.pv _ (List.mem_of_getElem? HAC.out)
 obtain⟨q1,q2⟩:=HI.out.ti.get HI.out.st.ok HAC.out hav
 have Q:=Lib.hid (And.intro q1 q2)
 clear q1 q2 hav hne hb hb1
 with_reducible repeat' first|simp only[zP,jaf,jaa,jad,jac,seval,Nat.reduceLeDiff,h5,h6,h8,h9,h20,g0,s0,g1,s1,hL,decide_true,decide_false, *]|simp only[jab]|apply And.intro|intro _
 refine sget_z (by omega) (HI.out.st.ext _) ?_
 rw[Q.out.1,Q.out.2]
 with_reducible repeat' first|simp only[zP,jaf,jaa,jad,jac,seval,Nat.reduceLeDiff,g0,s0,g1,s1,hL,same2,decide_true,decide_false, *]|simp only[jab]|apply And.intro|intro _
 all_goals exact HK.out _ _
theorem tsE_z (hI:LwI H p b σ A u l jt jl)(h7:S 7=Z64 0)(h8:S 8= .ptr b 0)(h18:S 18=Z64 l.length)(h19:S 19=Z64 0)
  (h: ∀S',S' 4=ZBo true→KK .ret S' H):zW (XS [] true) (jal Tryz.prog) Gh.no L c_tsE S H KK:=by
 simp only[c_tsE,kkP]
 obtain⟨vz,ex,e1,e2,hvz,hb⟩:=hI.sb
 have HK:=Lib.hid h
 have n0:natZ (Z64 0)=some 0:=rfl
 have hln:=hvz.is.len
 clear h hI hvz
 with_reducible repeat' first|simp only[zP,jaf,jaa,jad,jac,seval,Nat.reduceLeDiff,h7,h8,h18,h19,hb,n0,hln,decide_true,decide_false, *]|simp only[jab]|apply And.intro|intro _
 all_goals exact HK.out _ (by simp[zupd])
end
section
open Go Go.RowKit
def TsI (p b j:Nat)(h':ZH):Prop:= ∃σ A u l,LwI h' p b σ A u l j j
abbrev eW (w:Bool):List ZV:=[ZBo w]
theorem LwI.up {H:ZH}{p b u jt jl jt' jl':Nat}{σ:Sg}{A:AS}{l:List (Int×Int)}(h:LwI H p b σ A u l jt jl)(h1:jt≤jt')(h2:jl≤jl'):LwI H p b σ A u l jt' jl':=
 ⟨h.st,h.ti.up h1,h.sb,h.lb,h.pv,by have:=h.ll;omega,h.f0,h.f1⟩
set_option maxHeartbeats 8000000 in
theorem jlu {ex ex':Bool}{l:List (Int×Int)}{ws:List Bool}:
  ZC (XS [] true) (jal Tryz.prog) 3 [.fz 2 ex (l.map eVl),.fz 1 ex' (ws.map eW)] (fun _=>true) [] fun z _=>z=ZBo true:=by
 refine ZC.enter Gh.no (jai (by decide)) jrt (by simp) ?_
 simp only[jkV,kkP]
 have fin: ∀X,Fin [] (ZBo true) X (fun z _=>z=ZBo true):=fun X=>Fin.trunc (Mods.ext [] X) rfl rfl
 have FI:=Lib.hid fin
 clear fin
 with_reducible repeat' first|simp only[zP,jaf,jaa,jad,jac,seval,Nat.reduceLeDiff, *]|simp only[jab]|apply And.intro|intro _
 refine jnp rfl ?_
 with_reducible repeat' first|simp only[zP,jaf,jaa,jad,jac,seval,Nat.reduceLeDiff, *]|simp only[jab]|apply And.intro|intro _
 refine snew_z rfl fun H1 p σ h1 h2 h3 h4=>?_
 have S1:=Lib.hid h1
 clear h1 h2 h3 h4
 with_reducible repeat' first|simp only[zP,jaf,jaa,jad,jac,seval,Nat.reduceLeDiff,jrP, *]|simp only[jab]|apply And.intro|intro _
 refine jnp rfl ?_
 with_reducible repeat' first|simp only[zP,jaf,jaa,jad,jac,seval,Nat.reduceLeDiff, *]|simp only[jab]|apply And.intro|intro _
 refine jqN S1.out (fun _=>rfl) fun H2 σ2 u2 q1 q2 q3=>?_
 obtain⟨e1,e2,e3⟩:=make0 (A:=⟨[],[],[]⟩) (mk:=0) (by omega) (by simp) (by rw[size_nil];omega)
 have e4:jku ⟨[],[],[]⟩ 0=0:=e3
 rw[e2] at q1
 rw[e1,e4]
 have S2:=Lib.hid q1
 clear q1 q2 q3 e1 e2 e3 e4
 with_reducible repeat' first|simp only[zP,jaf,jaa,jad,jac,seval,Nat.reduceLeDiff, *]|simp only[jab]|apply And.intro|intro _
 refine words_z ?_
 have g0: ∀A X,(H2++(A::X))[H2.length]?=some A:=fun A X=>jay A X
 have s0: ∀A C X,(H2++(A::X)).set H2.length C=H2++(C::X):=fun A C X=>jbR A C X
 have g1: ∀A B X,(H2++(A::B::X))[H2.length+1]?=some B:=fun A B X=>jbf A B X
 have s1: ∀A B C X,(H2++(A::B::X)).set (H2.length+1) C=H2++(A::C::X):=fun A B C X=>jdH A B C X
 obtain⟨ex2,hct⟩:=dd_cut (e:=eVl) (k:=2) (ex:=ex) (l:=l) (n:=min l.length 30) (Nat.min_le_left _ _)
 obtain⟨ds,hds⟩: ∃ds,ds=l.take (min l.length 30):=⟨_,rfl⟩
 have hlen:ds.length≤30:=by rw[hds,List.length_take];omega
 rw[←hds] at hct
 have hbm:jjg false (Z64 (l.length:Nat)) [Z64 (30:Int)]=some (Z64 ((min l.length 30:Nat):Int)):=best_min (m:=30)
 have HLEN:=Lib.hid hlen
 have LW:LwI (H2++[.box (s8 (.fz 4 true [rowC .nil]) true false),.box [Z64 5,Z64 0]]) p H2.length σ2 (jdY ⟨[],[],[]⟩ 0) u2 [] 0 0:=by
  have hlt:=S2.out.lt
  refine⟨S2.out.ext _,TI.init,⟨_,_,_,_,.inl ⟨rfl,rfl⟩,jay _ _⟩,jbf _ _ _,fun v hv=>(by cases hv),Nat.le_refl _,⟨by omega,by omega,by omega,by omega⟩,⟨by omega,by omega,by omega,by omega⟩⟩
 have LW:=Lib.hid LW
 clear hlen hds
 with_reducible repeat' first|simp only[zP,jaf,jaa,jad,jac,seval,Nat.reduceLeDiff,g0,s0,g1,s1,hbm,hct,jgJ,jgI,jfN,Option.bind_some,Option.isSome_none, *]|simp only[jab]|apply And.intro|intro _
 clear hct hbm
 have hdl:ds.length<9223372036854775807:=by have:=HLEN.out;omega
 obtain⟨b,hb⟩: ∃b,b=H2.length:=⟨_,rfl⟩
 rw[←hb] at LW ⊢
 clear hb g0 s0 g1 s1
 have I0:TsI p b 0 (H2++[.box (s8 (.fz 4 true [rowC .nil]) true false),.box [Z64 5,Z64 0]]):=⟨_,_,_,_,LW.out⟩
 refine jbp [(1,.fz 1 ex' (ws.map eW)),(5,.ptr p 0),(6,Z64 0),(7,Z64 0),(8,.ptr b 0),(9,.ptr (b+1) 0),(50,.fz 2 ex2 (ds.map eVl))] ds.length (fun j s' h'=>TsI p b j h') (by omega) ⟨rfl,rfl,rfl,rfl,rfl,rfl⟩ rfl rfl (by repeat' (first|exact trivial|(refine⟨rfl,?_⟩)|(refine⟨by simp only[jaQ,Nat.reduceEqDiff,reduceIte];assumption,?_⟩))) rfl rfl (by decide) I0 ?_ ?_
 ·rintro j s' h' hk ⟨σ1,A1,u1,l1,hI⟩ hi hl ⟨f1,f5,f6,f7,f8,f9,f50,-⟩
  have hx:ds[j]?=some ds[j]:=List.getElem?_eq_getElem hk
  obtain⟨d,hd⟩: ∃d,d=ds[j]:=⟨_,rfl⟩
  rw[←hd] at hx
  obtain⟨k,n⟩:=d
  have hx2:(ds.map eVl)[j]?=some [Z64 k,Z64 n]:=by rw[List.getElem?_map,hx];rfl
  have HI:=Lib.hid hI
  have g0': ∀A Z,(h'++(A::Z))[h'.length]?=some A:=fun A Z=>jay A Z
  have s0': ∀A C Z,(h'++(A::Z)).set h'.length C=h'++(C::Z):=fun A C Z=>jbR A C Z
  clear hd hI hx
  with_reducible repeat' first|simp only[zP,jaf,jaa,jad,jac,seval,Nat.reduceLeDiff,hx2,g0',s0',List.length_map, *]|simp only[jab]|apply And.intro|intro _
  refine tsP_z (q:=h'.length) (by simp[zupd]) (jay _ _) fun S' hS h12=>?_
  have r1:=hS 1 (by omega) (by omega)
  have r5:=hS 5 (by omega) (by omega)
  have r6:=hS 6 (by omega) (by omega)
  have r8:=hS 8 (by omega) (by omega)
  have r9:=hS 9 (by omega) (by omega)
  have r10:=hS 10 (by omega) (by omega)
  have r11:=hS 11 (by omega) (by omega)
  simp only[jaQ,Nat.reduceEqDiff,reduceIte,f1,f5,f6,f8,f9] at r1 r5 r6 r8 r9 r10 r11
  have hj:=HLEN.out
  have fin:TsI p b (j+1) (h'++[.box [Z64 k,Z64 n]]):=⟨_,_,_,_,(HI.out.ext _).up (by omega) (by omega)⟩
  cases c:plB k n with
  |false=>
   rw[c] at h12
   clear hS
   with_reducible repeat' first|simp only[zP,jaf,jaa,jad,jac,seval,Nat.reduceLeDiff,h12, *]|simp only[jab]|apply And.intro|intro _
  |true=>
   rw[c] at h12
   clear hS fin
   by_cases cw:j<ws.length
   ·have wx:(ws.map eW)[j]?=some [ZBo ws[j]]:=by rw[List.getElem?_map,List.getElem?_eq_getElem cw];rfl
    have c1:(j:Int)<(ws.length:Int):=by omega
    obtain⟨w,hw⟩: ∃w,w=ws[j]:=⟨_,rfl⟩
    rw[←hw] at wx
    clear hw
    cases w with
    |false=>
     with_reducible repeat' first|simp only[zP,jaf,jaa,jad,jac,seval,Nat.reduceLeDiff,h12,r1,r5,r6,r8,r9,r10,r11,wx,c1,cw,List.length_map, *]|simp only[jab]|apply And.intro|intro _
     refine tsT_z ((HI.out.ext _).up (Nat.le_succ j) (Nat.le_refl _)) (jq4.1 c) (by omega) (by omega) (fun _=>rfl) (by simp[zupd,r5]) (by simp[zupd,r6]) (by simp[zupd,r8]) (by simp[zupd,r9]) (by simp[zupd,r11]) (jay _ _) fun S2 H3 ⟨σ3,A3,u3,hI3⟩=>?_
     simp only[jbh,jaK]
     exact⟨_,_,_,_,hI3⟩
    |true=>
     with_reducible repeat' first|simp only[zP,jaf,jaa,jad,jac,seval,Nat.reduceLeDiff,h12,r1,r5,r6,r8,r9,r10,r11,wx,c1,cw,List.length_map, *]|simp only[jab]|apply And.intro|intro _
     have LE:=HI.out.ext [.box [Z64 k,Z64 n]]
     have hle:=HI.out.ll
     refine jqN LE.st (fun _=>rfl) fun H4 σ4 u4 q1 q2 q3=>?_
     have L4:=LE.step q2 q1 (LE.ti.make (by omega) (by omega) (by omega))
     have k4:=q2.keep h'.length (.box [Z64 k,Z64 n]) (by have:=HI.out.st.lt;omega) (by have:=HI.out.st.lt;omega) (by have:=HI.out.st.lt;omega) (by have:=HI.out.st.lt;omega) (jay _ _)
     have F4:Fo p σ4 h'.length:=Fo.step (σ:=σ1) (by have:=HI.out.st.lt;exact⟨by omega,by omega,by omega,by omega⟩) q2 (by simp)
     have L4:=Lib.hid L4
     have F4:=Lib.hid F4
     have K4:=Lib.hid k4
     clear q1 q2 q3 LE k4
     have w1:IntKind.i64.wrap (0+1)=1:=rfl
     with_reducible repeat' first|simp only[zP,jaf,jaa,jad,jac,seval,Nat.reduceLeDiff,r5,r6,w1, *]|simp only[jab]|apply And.intro|intro _
     refine sdrop_z L4.out.st (fun _=>rfl) fun H5 q1 q2=>?_
     have L5:=Lib.hid (L4.out.step q2 q1 L4.out.ti.drop)
     have K5:=Lib.hid (q2.keep _ _ F4.out.1 F4.out.2.1 F4.out.2.2.1 F4.out.2.2.2 K4.out)
     clear q1 q2
     with_reducible repeat' first|simp only[zP,jaf,jaa,jad,jac,seval,Nat.reduceLeDiff,r5, *]|simp only[jab]|apply And.intro|intro _
     refine jop L5.out.st (fun _=>rfl) fun H6 σ6 q1 q2 q3=>?_
     have L6:=Lib.hid (L5.out.step q2 q1 L5.out.ti)
     have K6:=Lib.hid (q2.keep _ _ F4.out.1 F4.out.2.1 F4.out.2.2.1 F4.out.2.2.2 K5.out)
     clear q1 q2 q3
     with_reducible repeat' first|simp only[zP,jaf,jaa,jad,jac,seval,Nat.reduceLeDiff, *]|simp only[jab]|apply And.intro|intro _
     refine tsT_z L6.out (jq4.1 c) (by omega) (by omega) (fun _=>rfl) (by simp[zupd,r5]) (by simp[zupd,r6]) (by simp[zupd,r8]) (by simp[zupd,r9]) (by simp[zupd,r11]) K6.out fun S2 H3 ⟨σ3,A3,u3,hI3⟩=>?_
     simp only[jbh,jaK]
     exact⟨_,_,_,_,hI3⟩
   ·have c1: ¬((j:Int)<(ws.length:Int)):=by omega
    with_reducible repeat' first|simp only[zP,jaf,jaa,jad,jac,seval,Nat.reduceLeDiff,h12,r1,r5,r6,r8,r9,r10,r11,c1,List.length_map, *]|simp only[jab]|apply And.intro|intro _
    refine tsT_z ((HI.out.ext _).up (Nat.le_succ j) (Nat.le_refl _)) (jq4.1 c) (by omega) (by omega) (fun _=>rfl) (by simp[zupd,r5]) (by simp[zupd,r6]) (by simp[zupd,r8]) (by simp[zupd,r9]) (by simp[zupd,r11]) (jay _ _) fun S2 H3 ⟨σ3,A3,u3,hI3⟩=>?_
    simp only[jbh,jaK]
    exact⟨_,_,_,_,hI3⟩
 ·rintro s' h' ⟨σ1,A1,u1,l1,hI⟩ ⟨f1,f5,f6,f7,f8,f9,f50,-⟩
  have hll:=hI.ll
  have hj:=HLEN.out
  have hc:=hI.ti.count hI.st.ok
  have hn:=hI.ti.named hI.st.ok
  have HI:=Lib.hid hI
  clear hI
  with_reducible repeat' first|simp only[zP,jaf,jaa,jad,jac,seval,Nat.reduceLeDiff, *]|simp only[jab]|apply And.intro|intro _
  refine jnj HI.out.st ?_
  rw[hc,hn]
  with_reducible repeat' first|simp only[zP,jaf,jaa,jad,jac,seval,Nat.reduceLeDiff, *]|simp only[jab]|apply And.intro|intro _
  refine jbp [(5,.ptr p 0),(6,Z64 0),(7,Z64 0),(8,.ptr b 0),(9,.ptr (b+1) 0),(18,Z64 l1.length),(19,Z64 0)] l1.length (fun j s' h'=>LwI h' p b σ1 A1 u1 l1 ds.length ds.length) (by omega) ⟨rfl,rfl,rfl,rfl,rfl,rfl⟩ rfl rfl (by repeat' (first|exact trivial|(refine⟨rfl,?_⟩)|(refine⟨by simp only[jaQ,Nat.reduceEqDiff,reduceIte];assumption,?_⟩))) rfl rfl (by decide) HI.out ?_ ?_
  ·rintro j s' h' hk hI2 hi hl ⟨f5,f6,f7,f8,f9,f18,f19,-⟩
   have HI2:=Lib.hid hI2
   clear hI2
   with_reducible repeat' first|simp only[zP,jaf,jaa,jad,jac,seval,Nat.reduceLeDiff, *]|simp only[jab]|apply And.intro|intro _
   refine tsG_z HI2.out (by omega) hk (fun _=>rfl) (by simp[zupd,f5]) (by simp[zupd,f6]) (by simp[zupd,f8]) (by simp[zupd,f9]) (by simp[zupd]) fun S2 X=>?_
   simp only[jbh,jaK]
   exact HI2.out.ext X
  ·rintro s' h' hI2 ⟨f5,f6,f7,f8,f9,f18,f19,-⟩
   have HI2:=Lib.hid hI2
   have fin:=FI.out
   clear hI2
   with_reducible repeat' first|simp only[zP,jaf,jaa,jad,jac,seval,Nat.reduceLeDiff, *]|simp only[jab]|apply And.intro|intro _
   refine tsE_z HI2.out (by simp[zupd,f7]) (by simp[zupd,f8]) (by simp[zupd,f18]) (by simp[zupd,f19]) fun S' h4=>?_
   rw[h4]
   exact⟨.inr rfl,fin _⟩
end
section
open Go Go.RowKit Go.ChangeShapes Go.WideShapes Go.ChangeAt
section
variable {H:Type}{enc:TypeId×Value→H}
theorem jg6 {C:Checked}{os:Os}{f:FuncId}{fn:Func}{s:ChangeSpec}{laid:List (String×DataW Unit)}(m:Nat)(tys:List (Bool×Ty))(tb:TypeId)
  (own:ownKnob C.prog.godebug=none) (hlo:laidOutB C.prog=true) (started:os.Started) (noInit:C.prog.inits.idxOf? f=none) (hfn:C.prog.funcs[f]?=some fn)
  (witness: ∃(w:World) (tape:Tape) (i:Input),w.os=os∧(w.forCall tape i).Shaped C.prog∧i.vars=[]∧Input.okWide C.prog (w.forCall tape i) .any w.heap.size f i∧
   (OpenSpec.ofChange s).preRow enc C.prog fn [] false laid (w.forCall tape i).memory i.args∧({}:Assume).holds C.prog (lone (Frame.enter C.prog f i.args .normal) [] (w.forCall tape i)))
  (hvars:s.vars=[]) (hres:fn.resultTypes= #[tb]) (htb:C.prog.underlying tb=some .bool)
  (hspec: ∀ds:List (DataW H),ds.length=fn.params.size→s.fn H ds={ results:=[.lit (.bool true)],args:=ds })
  (hread:fn.params.all (fun t=>C.prog.readableRec t&&decide (t<C.prog.types.size))=true)
  (htys:jlf C.prog m fn.params.toList=some tys)
  (FF:Stop.Interp) (walk: ∀(W:World) (args:Array Value),laidMetH C.prog laid W→jnZ W W.heap.size tys args.toList→Calls C.prog f args W fun e W'=>e= .returned (.bool true)∧Below W.heap.size W W'):
  ReturnsInHanded {} C os f .any ((OpenSpec.ofChange s).preRow enc C.prog fn [] false laid) (((OpenSpec.ofChange s).at FF).post enc C.prog fn false true false false):=by
 refine returnsInHanded_of_row (s:=OpenSpec.ofChange s) own started noInit hfn witness ?_
 intro W base args ds gs before hval hW0 _ _ hsz hL _ _
 have hW:DataW.Whole enc C.prog fn.params.toList s.vars false W args.toList ds gs before:=hW0
 have hsz:(DataW.weightsEach C.prog (fn.params.toList++s.plain.varTypes C.prog) (ds++gs)).all (· ≤reachBytes)=true:=hsz
 have hW':=hW
 obtain⟨p,q,hA,hV,rfl,_,_⟩:=hW
 rw[hvars] at hV
 obtain⟨rfl,rfl⟩:=trodVars_none hV
 simp only[List.append_nil] at hsz hW'
 have hvt:s.plain.varTypes C.prog=[]:=by simp[ChangeSpec.plain,DataSpec.varTypes,hvars]
 rw[hvt,List.append_nil] at hsz
 have hlt: ∀x∈p,x.block<W.heap.size:=fun x hx=>by simpa using hW'.lt x hx
 have hlen:ds.length=fn.params.size:=by
  have: ∀(ts:List TypeId) (vs:List Value) (ds:List (DataW H)) (ps:List MemPlace),DataW.TrodAll enc C.prog W 0 (fun _=>true) true ts vs ds ps→ds.length=ts.length:=by
   intro ts
   induction ts with
   |nil=>intro vs ds ps h;obtain⟨_,rfl,_⟩:=trodAll_nil h;rfl
   |cons t ts ih=>
    intro vs ds ps h
    obtain⟨v,vs',d,ds',p,q,rfl,rfl,rfl,h0,h1⟩:=trodAll_cons h
    simp[ih _ _ _ h1]
  simpa using this _ _ _ _ hA
 have hargs:=jmm (B:=W.heap.size) m fn.params.toList tys htys args.toList ds p .any base (fun j t v h1 h2=>hval j t v (by simpa using h1) (by simpa using h2)) hA hlt
  (fun k hk=>by simpa using List.all_eq_true.1 hsz k hk)
 refine (walk W args hL hargs).mono fun e W' ⟨he,hb⟩=>⟨_,he,ds,[],p,[],p,[],hW',?_,?_,?_,hb.frame _,fun h=>by cases h⟩
 ·rw[List.append_nil]
  show DataW.TrodAll enc C.prog W' _ _ _ _ _ (s.fn H ds).results _
  rw[hspec ds hlen,hres]
  exact trodAll_mk1 (shut_bool htb true)
 ·rw[List.append_nil]
  show DataW.TrodAll enc C.prog W' _ _ _ _ _ (s.fn H ds).args _
  rw[hspec ds hlen]
  refine jiP hlo hb fn.params.toList (fun t ht=>?_) args.toList ds p hA hlt
  have:=Array.all_eq_true_iff_forall_mem.1 hread t (by simpa using ht)
  simpa using this
 ·rw[List.append_nil]
  show DataW.TrodVars enc C.prog W' _ s.vars (s.fn H ds).vars _
  rw[hspec ds hlen,hvars]
  rfl
end
theorem cell_lt0 {w:World}{a:Addr}{v:Value}(h:w.cell? a=some v):a.block<w.heap.size:=by
 unfold World.cell? at h
 by_cases hb:a.block<w.heap.size
 ·exact hb
 ·rw[Array.getElem?_eq_none (by omega)] at h;simp at h
theorem gl_of {W:World}(h:laidMetH Tryz.prog Rows.topStoredRow.laid W):GlOk W.heap.size W:=by
 rw[MakeChecks.laidMetH_plain _ _ _ (by kernel_rfl)] at h
 have h5:=(laidMet.tail (laidMet.tail (laidMet.tail (laidMet.tail h))))
 obtain⟨zs,hzs⟩: ∃zs:List Int,zs=(List.range 256).map fun i=>if i=32∨(9≤i∧i≤13) then 1 else 0:=⟨_,rfl⟩
 have e:(Rows.laid_strings_asciiSpace:DataW Unit)=Lib.tabData .u8 zs:=by rw[hzs];kernel_rfl
 have hG : Tryz.prog.globalNamed "strings.asciiSpace" = some 0 := by kernel_rfl
 have ht : Lib.TabIs Tryz.prog W "strings.asciiSpace" .u8 zs := by
  refine Lib.tabIs_of_head (rest:=[]) hG (t:=92) (e:=5) (n:=256) (by kernel_rfl) (by kernel_rfl) (by kernel_rfl) (by kernel_rfl) (by kernel_rfl) ?_
  rw[←e];exact h5
 have hl:zs.length=256:=by rw[hzs];simp
 have hc: ∀i,i<256→W.cell? ⟨0,i,none⟩=some (.int .u8 (zs.getD i 0)):=fun i hi=>ht.cell hG i (by omega)
 intro g hg
 obtain rfl:=List.mem_singleton.1 hg
 refine⟨cell_lt0 (hc 0 (by omega)),fun i v hv=>?_⟩
 have hi:i<256:=by have:=(List.getElem?_eq_some_iff.1 hv).1;simpa using this
 rw[hc i hi]
 rw[List.getElem?_map,List.getElem?_range hi,Option.map_some] at hv
 rw[hzs,List.getD_eq_getElem?_getD,List.getElem?_map,List.getElem?_range hi,Option.map_some,Option.getD_some]
 exact hv
set_option maxRecDepth 100000 in
theorem jog (os:Os)(H:Type)(enc:TypeId×Value→H): ∃(w:World) (tape:Tape) (i:Input),w.os=os∧(w.forCall tape i).Shaped Tryz.checked.prog∧i.vars=[]∧Input.okWide Tryz.checked.prog (w.forCall tape i) .any w.heap.size 3 i∧
   (OpenSpec.ofChange Rows.topStoredSpec).preRow enc Tryz.checked.prog Tryz.f3 [] false Rows.topStoredRow.laid (w.forCall tape i).memory i.args∧({}:Assume).holds Tryz.checked.prog (lone (Frame.enter Tryz.checked.prog 3 i.args .normal) [] (w.forCall tape i)):=by
 have hok:Input.okWideB Tryz.prog ((World.laidAll Tryz.prog os Rows.topStoredRow.laid).forCall (fun _ _=>0) ⟨#[],#[.slice none 0 0,.slice none 0 0],[]⟩) 3 ⟨#[],#[.slice none 0 0,.slice none 0 0],[]⟩=true:=by kernel_rfl
 have hw:(DataW.whole enc Tryz.prog ((World.laidAll Tryz.prog os Rows.topStoredRow.laid).forCall (fun _ _=>0) ⟨#[],#[.slice none 0 0,.slice none 0 0],[]⟩).memory Tryz.f3.params.toList (OpenSpec.ofChange Rows.topStoredSpec).vars false #[Value.slice none 0 0,Value.slice none 0 0].toList 8).map (fun x=>(x.1,x.2.1))=
   some ([.nil,.nil],[]):=by kernel_rfl
 obtain⟨⟨x1,x2,x3⟩,hx,hx1⟩:=Option.map_eq_some_iff.1 hw
 simp only[Prod.mk.injEq] at hx1
 obtain⟨rfl,rfl⟩:=hx1
 refine ⟨World.laidAll Tryz.prog os Rows.topStoredRow.laid, fun _ _ => 0, ⟨#[], #[.slice none 0 0, .slice none 0 0], []⟩, World.laidAll_os _ _ _, World.shaped_of_ZipB (by kernel_rfl) (by kernel_rfl), rfl, (Input.okWide_of_okWideB hok).2, OpenSpec.preRow_of_cond 8 hx (by kernel_rfl) (fun k hk => by cases hk) (by kernel_rfl)
  (by rw[MakeChecks.laidMetH_plain _ _ _ (by kernel_rfl)];exact laidMet_laidAll _ (by kernel_rfl) (by kernel_rfl)),?_⟩
 simp only[Assume.holds]
 exact⟨by simp,by simp,fun _=>Modest.zero,by simp,by simp⟩
set_option maxRecDepth 100000 in
theorem jfv (os:Os)(started:os.Started)(H:Type)(enc:TypeId×Value→H)(FF:Stop.Interp):
  ReturnsInHanded {} Tryz.checked os 3 .any ((OpenSpec.ofChange Rows.topStoredSpec).preRow enc Tryz.prog Tryz.f3 Rows.topStoredRow.domain false Rows.topStoredRow.laid) (((OpenSpec.ofChange Rows.topStoredSpec).at FF).post enc Tryz.prog Tryz.f3 false true false false):=by
 refine jg6 (C:=Tryz.checked) 12 [(false,.slice 16 (.prod (.int .i64) (.int .i64))),(false,.slice 1 .bool)] 4 Tryz.own Tryz.laidOut started (by kernel_rfl) Tryz.func3
  (jog os H enc) rfl (by kernel_rfl) Tryz.underlying4 (fun ds h=>?_) (by kernel_rfl) (by kernel_rfl) FF (fun W args hL h=>?_)
 ·match ds,h with
  |[d0,d1],_=>rfl
 ·refine jpF (by kernel_rfl) (boxX_ok (jrZ (n:=1) (F:=jal Tryz.prog) (by kernel_rfl) (fun f af h=>h) [] (by intro p hp;simp at hp))) pnT_ok (fun v h=>h) (fun f af h=>h) rfl (fun zl hz=>?_) W args h (gl_of hL)
  obtain⟨l,ex,rfl,hl,_,ws,ex',rfl,hv,_,rfl⟩:=hz
  exact jlu (l:=l) (ws:=ws)
theorem jg4:Rows.TopStoredSaid:=
 OpenClaim.holds_of_cond 3 Tryz.f3 rfl rfl rfl rfl rfl rfl rfl ⟨rfl,rfl,rfl,rfl,rfl⟩ rfl rfl rfl rfl rfl (by kernel_rfl) Tryz.func3 (by kernel_rfl) (of_decide_eq_true (by kernel_rfl)) (by unfold Func.isWrapper;first|(rw[if_pos (by decide+kernel)];kernel_rfl)|(rw[if_neg (by decide+kernel)];exact⟨rfl,rfl⟩))
  (fun os started H enc _ F=>by rw[OpenClaim.pre_eq_preRow];exact jfv os started H enc F)
theorem jgf (f : FuncId)(fn : Func)(hf : Tryz.pinned.checked.prog.funcNamed "backstitch/backstitchtop.TopStored" = some f)(hfn : Tryz.pinned.checked.prog.funcs[f]? = some fn) :
  false=Tryz.pinned.checked.prog.looks []∧ ∀(j:Nat) t,fn.params[j]?=some t→Tryz.pinned.checked.prog.wantsStandIn t=false:=by
 obtain rfl : f = 3 := Option.some.inj ((show Tryz.prog.funcNamed "backstitch/backstitchtop.TopStored" = some 3 by kernel_rfl).symm.trans hf) |>.symm
 obtain rfl:fn=Tryz.f3:=(Option.some.inj (Tryz.func3.symm.trans hfn)).symm
 refine⟨by kernel_rfl,fun j t ht=>?_⟩
 have hm:=Array.mem_of_getElem? ht
 have hall:(Tryz.f3.params.all fun t=> !Tryz.pinned.checked.prog.wantsStandIn t)=true:=by kernel_rfl
 have:=Array.all_eq_true_iff_forall_mem.1 hall t hm
 simpa using this
theorem topstored_card:Rows.TopStoredCardSaid:=
 Claim7.holds_tied_plain_at .later [] _ _ _ _ jg4 (fun _ h=>by cases h) (by kernel_rfl) (fun _ h=>by cases h) topStored_row_tie rfl ⟨rfl,rfl⟩ (by kernel_rfl) rfl jgf (by kernel_rfl)
end
end Go.Proofs.YtjaahfncbechnaaGreatDoor
