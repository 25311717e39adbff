/-
  cells in ZM, of a state of one list: Copy.
-/
import Derived.Test.YtjaahfncbechnaaGreatDoorMrT20
import Derived.Test.YtjaahfncbechnaaGreatDoorMrT6
set_option linter.unusedVariables false
set_option linter.unusedSimpArgs false
namespace Go.Proofs.YtjaahfncbechnaaGreatDoor
section
open Go Go.RowKit
variable {tb:List (FuncId×Bool)}{nd:Bool}{L:Nat→Bool}{H:ZH}{K:ZV→ZH→Prop}{p:Nat}{cz vz:ZV}{e1 e2:Bool}{k n:Int}{l:List (Int×Int)}
theorem jjb:jal Tryz.prog 47=some ⟨8,c_cl 2 16,[.tmp 2]⟩:=by kernel_rfl
theorem jrN:jal Tryz.prog 42=some ⟨8,c_cl 4 64,[.tmp 2]⟩:=by kernel_rfl
theorem jo4:jal Tryz.prog 43=some ⟨8,c_cl 2 16,[.tmp 2]⟩:=by kernel_rfl
theorem f_cl_str:jal Tryz.prog 44=some ⟨8,c_cl 1 16,[.tmp 2]⟩:=by kernel_rfl
theorem jl3:jal Tryz.prog 45=some ⟨8,c_cl 5 56,[.tmp 2]⟩:=by kernel_rfl
theorem f_cl_end:jal Tryz.prog 46=some ⟨8,c_cl 3 24,[.tmp 2]⟩:=by kernel_rfl
theorem jo5:jal Tryz.prog 87=some ⟨8,c_cl 8 96,[.tmp 2]⟩:=by kernel_rfl
theorem bx1 {g:FuncId}(h:g≠15∧g≠29): ∀args fl hp,args.length=1→(XS tb nd).x g args fl hp=none:=jai (z:= .nil) (zs:=[]) h
theorem frames_z (hK:K .nil H):ZC (XS tb nd) (jal Tryz.prog) 48 [.nil] L H K:=by
 refine ZC.enterL Gh.no (jai (by decide)) jlZ (by simp) fun hL=>?_
 simp only[jgX,kkP]
 have fin:=Fin.keep (H0:=H) hK
 have FI:=Lib.hid fin
 clear hK fin
 with_reducible repeat' first|simp only[zP,jaf,jaa,jad,jac,seval,Nat.reduceLeDiff, *]|simp only[jab]|apply And.intro|intro _
 refine jgR jo5 (bx1 (by decide)) ?_
 with_reducible repeat' first|simp only[zP,jaf,jaa,jad,jac,seval,Nat.reduceLeDiff, *]|simp only[jab]|apply And.intro|intro _
 refine jbp [(0,.nil)] 0 (fun k s' h'=>h'=H) (by omega) ⟨rfl,rfl,rfl,rfl,rfl,rfl⟩ rfl rfl (by repeat' (first|exact trivial|(refine⟨rfl,?_⟩)|(refine⟨by simp only[jaQ,Nat.reduceEqDiff,reduceIte];assumption,?_⟩))) rfl rfl (by decide) rfl ?_ ?_
 ·rintro j s' h' hk
  exact absurd hk (Nat.not_lt_zero _)
 ·rintro s' h' rfl ⟨f0,-⟩
  have fin:=FI.out
  with_reducible repeat' first|simp only[zP,jaf,jaa,jad,jac,seval,Nat.reduceLeDiff, *]|simp only[jab]|apply And.intro|intro _
theorem jr3 {ex:Bool}(hK:K (.fz 1 false jbn) H):ZC (XS tb nd) (jal Tryz.prog) 44 [.fz 1 ex jbn] L H K:=by
 obtain⟨a,r,e⟩: ∃a r,jbn=a::r:=by
  cases h:jbn with
  |nil=>have:=jbt;rw[h] at this;cases this
  |cons a r=>exact⟨a,r,rfl⟩
 have hp:jbn.flatten.all jbL=true:=by kernel_rfl
 have hl:=jbt
 rw[e] at hp hK hl ⊢
 exact jr5 f_cl_str (bx1 (by decide)) hp (by rw[hl];decide) hK
def c_cp5:jar:= .opsV [⟨(some 35),.fieldAddr 0 (.tmp 1),none,false⟩,
 ⟨(some 36),.load none (.tmp 35),none,false⟩,
 ⟨(some 37),.mv (.tmp 3),none,false⟩,
 ⟨(some 38),.fieldAddr 0 (.tmp 1),none,false⟩,
 ⟨(some 39),.load none (.tmp 38),none,false⟩,
 ⟨(some 40),.mv (.tmp 3),none,false⟩,
 ⟨(some 41),.fieldAddr 0 (.tmp 1),none,false⟩,
 ⟨(some 43),.mv (.tmp 3),none,false⟩,
 ⟨(some 48),.fieldAddr 0 (.tmp 1),none,false⟩,
 ⟨(some 49),.load none (.tmp 48),none,false⟩,
 ⟨(some 50),.mv (.tmp 3),none,false⟩,
 ⟨(some 51),.indexAddr 4 (.tmp 49) (.tmp 50),none,false⟩,
 ⟨(some 52),.fieldAddr 3 (.tmp 51),none,false⟩,
 ⟨(some 53),.load none (.tmp 52),none,false⟩,
 ⟨(some 42),.load none (.tmp 41),none,true⟩,
 ⟨(some 44),.indexAddr 4 (.tmp 42) (.tmp 43),none,false⟩,
 ⟨(some 45),.fieldAddr 2 (.tmp 44),none,false⟩,
 ⟨(some 46),.load none (.tmp 45),none,true⟩,
 ⟨(some 47),.call (.av (.func 47 [])) [(.tmp 46)],none,true⟩,
 ⟨(some 54),.call (.av (.func 48 [])) [(.tmp 53)],none,true⟩,
 ⟨(some 55),.indexAddr 4 (.tmp 36) (.tmp 37),none,false⟩,
 ⟨(some 56),.fieldAddr 2 (.tmp 55),none,false⟩,
 ⟨none,.store 1 (.tmp 56) (.tmp 47),none,true⟩,
 ⟨(some 57),.indexAddr 4 (.tmp 39) (.tmp 40),none,false⟩,
 ⟨(some 58),.fieldAddr 3 (.tmp 57),none,false⟩,
 ⟨none,.store 1 (.tmp 58) (.tmp 54),none,true⟩]
section
variable {F:FuncId→Option jaM}{S:ZS}{c:Nat}{vz':ZV}{H1:ZH}{KK:jas→ZS→ZH→Prop}{G:Gh}
theorem jjn {x:jaG}{j n:Nat}{l:List jap}{K:ZS→ZH→Prop}{cs:List ZV}{g:Nat}{rows:List (List ZV)}{dst:Option Nat}{io:Bool}{y:Opd}{z z':ZV}(hz:zev S y=some z)(hz':z= .ptr p 0∧n=0∧z'= .ptr p 0∨z= .eptr c g 0 0∧z'= .eptr c g 0 n)(hp:H[p]?=some (.box cs))(hc:H[c]?=some (.grow g 4 rows))(h:ZVg x F p c j L l (zput S dst z') H K):
  ZVg x F p c j L (⟨dst,.fieldAddr n y,none,io⟩::l) S H K:=by
 refine zv_op (pn:=PX.no) (.inl ⟨_,_,rfl⟩) hp hc ?_
 rcases hz' with⟨rfl,rfl,rfl⟩|⟨rfl,rfl⟩
 ·exact⟨_,_,hz,rfl,rfl,h⟩
 ·refine⟨_,_,hz,rfl,rfl,?_⟩
  simpa using h
theorem zv_ia {x:jaG}{j:Nat}{l:List jap}{K:ZS→ZH→Prop}{cs:List ZV}{row:List ZV}{dst:Option Nat}{io:Bool}{y i:Opd}(hz:zev S y=some (.own c 0 0 1 false))(hi:zev S i=some (Z64 0))(hp:H[p]?=some (.box cs))(hc:H[c]?=some (.grow 0 4 [row]))(h:ZVg x F p c j L l (zput S dst (.eptr c 0 0 0)) H K):
  ZVg x F p c j L (⟨dst,.indexAddr 4 y i,none,io⟩::l) S H K:=by
 refine zv_op (pn:=PX.no) (.inr ⟨_,_,_,rfl⟩) hp hc ?_
 exact jd6.2 ⟨_,_,0,_,hz,hi,rfl,jbT.2 ⟨_,hc,by simp,by omega,rfl⟩,rfl,h⟩
theorem blkX' {q:Nat}{B:ZB}(hp:H[q]?=some B)(X:ZH):(H++X)[q]?=some B:=by rw[List.getElem?_append_left (jae hp)];exact hp
def cp5d:List Nat:=[35,36,37,38,39,40,41,43,48,49,50,51,52,53,42,44,45,46,47,54,55,56,57,58]
theorem cp5_z {z:ZV}{X:ZH}(h1:S 1= .ptr p 0)(h3:S 3=Z64 0)(hp:H[p]?=some (.box (s8 (.own c 0 0 1 false) e1 e2)))(hc:H[c]?=some (.grow 0 4 [rowC vz]))(hL:L c=true)(hz1:z.cells=[z])(hz2:z.isCell=true)
  (hcl: ∀L K,K z (H++X)→ZC (XS tb false) (jal Tryz.prog) 47 [vz] L H K)
  (h: ∀S':ZS,(∀t,t∉cp5d→S' t=S t)→KK .normal S' ((H++X).set c (.grow 0 4 [rowC z]))):
  zW (XS tb true) (jal Tryz.prog) G L c_cp5 S H KK:=by
 have hp':=blkX' hp X
 have hc':=blkX' hc X
 have hpc:p≠c:=fun e=>by rw[e,hc] at hp;cases hp
 refine zW_opsV (p:=p) (c:=c) (g:=0) (j:=3) hp hc (by simp) ?_
 refine jjn (z:= .ptr p 0) (by simp[zev,zput,zupd,h1]) (.inl ⟨rfl,rfl,rfl⟩) hp hc ?_
 refine jn8 (z:= .ptr p 0) (by simp[zev,zput,zupd]) (.inr (.inl rfl)) hc (jhX.2 ⟨_,hp,rfl⟩) ?_
 refine zv_mv (z:=Z64 0) (by simp[zev,zput,zupd,h3]) ?_
 refine jjn (z:= .ptr p 0) (by simp[zev,zput,zupd,h1]) (.inl ⟨rfl,rfl,rfl⟩) hp hc ?_
 refine jn8 (z:= .ptr p 0) (by simp[zev,zput,zupd]) (.inr (.inl rfl)) hc (jhX.2 ⟨_,hp,rfl⟩) ?_
 refine zv_mv (z:=Z64 0) (by simp[zev,zput,zupd,h3]) ?_
 refine jjn (z:= .ptr p 0) (by simp[zev,zput,zupd,h1]) (.inl ⟨rfl,rfl,rfl⟩) hp hc ?_
 refine zv_mv (z:=Z64 0) (by simp[zev,zput,zupd,h3]) ?_
 refine jjn (z:= .ptr p 0) (by simp[zev,zput,zupd,h1]) (.inl ⟨rfl,rfl,rfl⟩) hp hc ?_
 refine jn8 (z:= .ptr p 0) (by simp[zev,zput,zupd]) (.inr (.inl rfl)) hc (jhX.2 ⟨_,hp,rfl⟩) ?_
 refine zv_mv (z:=Z64 0) (by simp[zev,zput,zupd,h3]) ?_
 refine zv_ia (by simp[zev,zput,zupd]) (by simp[zev,zput,zupd]) hp hc ?_
 refine jjn (z:= .eptr c 0 0 0) (by simp[zev,zput,zupd]) (.inr ⟨rfl,rfl⟩) hp hc ?_
 refine jn8 (z:= .eptr c 0 0 3) (v:= .nil) (by simp[zev,zput,zupd]) (.inr (.inr rfl)) hc (jbO.2 ⟨_,_,_,hc,rfl,rfl⟩) ?_
 refine jn8 (z:= .ptr p 0) (by simp[zev,zput,zupd]) (.inl rfl) hc (jhX.2 ⟨_,hp,rfl⟩) ?_
 refine zv_ia (by simp[zev,zput,zupd]) (by simp[zev,zput,zupd]) hp hc ?_
 refine jjn (z:= .eptr c 0 0 0) (by simp[zev,zput,zupd]) (.inr ⟨rfl,rfl⟩) hp hc ?_
 refine jn8 (z:= .eptr c 0 0 2) (v:=vz) (by simp[zev,zput,zupd]) (.inl rfl) hc (jbO.2 ⟨_,_,_,hc,rfl,rfl⟩) ?_
 refine jpm (pn:=pnT) (z:= .func 47 []) (zs:=[vz]) rfl (by simp[zevs,zev,zput,zupd]) rfl hp hc (hcl _ _ ⟨hp',⟨_,hc'⟩,?_⟩)
 refine jpm (pn:=pnT) (z:= .func 48 []) (zs:=[.nil]) rfl (by simp[zevs,zev,zput,zupd]) rfl hp' hc' (frames_z ⟨hp',⟨_,hc'⟩,?_⟩)
 refine zv_ia (by simp[zev,zput,zupd]) (by simp[zev,zput,zupd]) hp' hc' ?_
 refine jjn (z:= .eptr c 0 0 0) (by simp[zev,zput,zupd]) (.inr ⟨rfl,rfl⟩) hp' hc' ?_
 refine zv_st (pn:=pnT) (o:=2) (by simp[zev,zput,zupd]) (.inl (by omega)) hp' hc' (jiI.2 ⟨.eptr c 0 0 2,z,(H++X).set c (.grow 0 4 [rowC z]),by simp[zev,zput,zupd],by simp[zev,zput,zupd],by rw[hz1];rfl,by rw[hz1];simp[hz2],jdt.2 ⟨4,_,_,hc',rfl,hL,by rw[hz1];simp,by rw[hz1];rfl⟩,?_⟩)
 have hp2:((H++X).set c (.grow 0 4 [rowC z]))[p]?=some (.box (s8 (.own c 0 0 1 false) e1 e2)):=by rw[List.getElem?_set_ne hpc.symm];exact hp'
 have hc2:((H++X).set c (.grow 0 4 [rowC z]))[c]?=some (.grow 0 4 [rowC z]):=by rw[List.getElem?_set_self (jae hc')]
 refine⟨hp2,⟨_,hc2⟩,?_⟩
 refine zv_ia (by simp[zev,zput,zupd]) (by simp[zev,zput,zupd]) hp2 hc2 ?_
 refine jjn (z:= .eptr c 0 0 0) (by simp[zev,zput,zupd]) (.inr ⟨rfl,rfl⟩) hp2 hc2 ?_
 refine zv_st (pn:=pnT) (o:=3) (by simp[zev,zput,zupd]) (.inr ⟨jbO.2 ⟨_,_,_,hc2,rfl,rfl⟩,by simp[zev,zput,zupd],rfl⟩) hp2 hc2 (jiI.2 ⟨.eptr c 0 0 3,.nil,(H++X).set c (.grow 0 4 [rowC z]),by simp[zev,zput,zupd],by simp[zev,zput,zupd],rfl,rfl,jdt.2 ⟨4,_,_,hc2,rfl,hL,by show 3+1≤4;omega,by rw[List.set_set];rfl⟩,?_⟩)
 refine⟨hp2,⟨_,hc2⟩,zv_nil ?_⟩
 have hf: ∀t,t∉cp5d→ ∀S'':ZS,S''=S→True:=fun _ _ _ _=>trivial
 refine⟨fun t ht=>?_,h _ fun t ht=>?_⟩
 ·simp only[List.filterMap_cons,List.filterMap_nil,List.mem_cons,List.not_mem_nil,or_false,not_or] at ht
  simp[zput,zupd,ht]
 ·simp only[cp5d,List.mem_cons,List.not_mem_nil,or_false,not_or] at ht
  simp[zput,zupd,ht]
end
set_option maxHeartbeats 4000000 in
theorem copy_z {ex:Bool}{z:ZV}{X:ZH}(hz1:z.cells=[z])(hz2:z.isCell=true)
  (hcl: ∀(H4:ZH) L K,H4.length=H.length+3→K z (H4++X)→ZC (XS tb false) (jal Tryz.prog) 47 [vz] L H4 K)
  (hK: ∀B1 B2,K (.agg (s8 (.own (H.length+2) 0 0 1 false) false false)) (H++(B1::B2:: .grow 0 4 [rowC z]::X))):ZC (XS tb true) (jal Tryz.prog) 23 [.agg (s8 (.fz 4 ex [rowC vz]) e1 e2)] L H K:=by
 refine ZC.enterL Gh.no (jai (by decide)) jrw (by simp) fun hL=>?_
 simp only[jkY,kkP]
 have g0: ∀A X,(H++(A::X))[H.length]?=some A:=fun A X=>jay A X
 have s0: ∀A C X,(H++(A::X)).set H.length C=H++(C::X):=fun A C X=>jbR A C X
 have g1: ∀A B X,(H++(A::B::X))[H.length+1]?=some B:=fun A B X=>jbf A B X
 have s1: ∀A B C X,(H++(A::B::X)).set (H.length+1) C=H++(A::C::X):=fun A B C X=>jdH A B C X
 have g2: ∀A B C X,(H++(A::B::C::X))[H.length+2]?=some C:=fun A B C X=>by rw[List.getElem?_append_right (by omega),Nat.add_sub_cancel_left];rfl
 have s2: ∀A B D C X,(H++(A::B::D::X)).set (H.length+2) C=H++(A::B::C::X):=fun A B D C X=>by rw[List.set_append_right _ _ (by omega),Nat.add_sub_cancel_left];rfl
 have l2:H.length<H.length+2:=by omega
 have l3:H.length<H.length+3:=by omega
 have l4:H.length+2<H.length+3:=by omega
 have hL0:L H.length=true:=by simpa using hL 0
 have hL1:L (H.length+1)=true:=hL 1
 have hL2:=Lib.hid (hL 2)
 have KK:=Lib.hid hK
 have HC:=Lib.hid hcl
 have HZ:=Lib.hid (And.intro hz1 hz2)
 clear hK hcl hz1 hz2
 with_reducible repeat' first|simp only[zP,jaf,jaa,jad,jac,seval,Nat.reduceLeDiff,g0,s0,g1,s1, *]|simp only[jab]|apply And.intro|intro _
 refine jl7 jrN (bx1 (by decide)) (by show 1*64≤ja5;decide) ?_
 with_reducible repeat' first|simp only[zP,jaf,jaa,jad,jac,seval,Nat.reduceLeDiff,g0,s0,g1,s1,g2,s2,l2,l3,l4,hL0, *]|simp only[jab]|apply And.intro|intro _
 refine jr5 jo4 (bx1 (by decide)) rfl (by decide) ?_
 with_reducible repeat' first|simp only[zP,jaf,jaa,jad,jac,seval,Nat.reduceLeDiff,g0,s0,g1,s1,g2,s2,l2,l3,l4,hL0, *]|simp only[jab]|apply And.intro|intro _
 refine jr3 ?_
 with_reducible repeat' first|simp only[zP,jaf,jaa,jad,jac,seval,Nat.reduceLeDiff,g0,s0,g1,s1,g2,s2,l2,l3,l4,hL0, *]|simp only[jab]|apply And.intro|intro _
 refine jgR jl3 (bx1 (by decide)) ?_
 with_reducible repeat' first|simp only[zP,jaf,jaa,jad,jac,seval,Nat.reduceLeDiff,g0,s0,g1,s1,g2,s2,l2,l3,l4,hL0, *]|simp only[jab]|apply And.intro|intro _
 refine jgR f_cl_end (bx1 (by decide)) ?_
 with_reducible repeat' first|simp only[zP,jaf,jaa,jad,jac,seval,Nat.reduceLeDiff,g0,s0,g1,s1,g2,s2,l2,l3,l4,hL0, *]|simp only[jab]|apply And.intro|intro _
 refine jgR jjb (bx1 (by decide)) ?_
 with_reducible repeat' first|simp only[zP,jaf,jaa,jad,jac,seval,Nat.reduceLeDiff,g0,s0,g1,s1,g2,s2,l2,l3,l4,hL0, *]|simp only[jab]|apply And.intro|intro _
 obtain⟨B2,hB2⟩: ∃B:ZB,B= .box [.val (.slice none 0 0),.val (.slice none 0 0),.val (.slice none 0 0),.val (.slice none 0 0),.val (.slice none 0 0),.val (.slice none 0 0),Z64 0,Z64 0]:=⟨_,rfl⟩
 rw[←hB2]
 have HB2:=Lib.hid hB2
 clear hB2
 refine jbp [(1,.ptr H.length 0),(2,.ptr (H.length+1) 0)] 1 (fun k s' h'=>(k=0→h'=H++[.box (s8 (.own (H.length+2) 0 0 1 false) false false),B2,.grow 0 4 [rowC vz]])∧(k=1→h'=H++(.box (s8 (.own (H.length+2) 0 0 1 false) false false)::B2:: .grow 0 4 [rowC z]::X))) (by omega) ⟨rfl,rfl,rfl,rfl,rfl,rfl⟩ rfl rfl (by repeat' (first|exact trivial|(refine⟨rfl,?_⟩)|(refine⟨by simp only[jaQ,Nat.reduceEqDiff,reduceIte];assumption,?_⟩))) rfl rfl (by decide) ⟨fun _=>rfl,fun h=>by cases h⟩ ?_ ?_
 ·rintro j s' h' hk ⟨hI,-⟩ hi hl ⟨f1,f2,-⟩
  obtain rfl:j=0:=by omega
  obtain rfl:=hI rfl
  clear hI
  with_reducible repeat' first|simp only[zP,jaf,jaa,jad,jac,seval,Nat.reduceLeDiff,g0,s0,g1,s1,g2,s2,l2,l3,l4,hL0, *]|simp only[jab]|apply And.intro|intro _
  refine cp5_z (p:=H.length) (c:=H.length+2) ?_ ?_ (jay _ _) (g2 _ _ _ _) (hL2.out) HZ.out.1 HZ.out.2 (fun L K hK=>HC.out _ _ _ (by simp) hK) fun S' hS'=>?_
  ·exact f1
  ·simp only[jaQ,reduceIte]<;>rfl
  ·simp only[jbh,jaK]
   rw[List.append_assoc]
   exact s2 _ _ _ _ _
 ·rintro s' h' ⟨-, hI⟩ ⟨f1,f2,-⟩
  obtain rfl:=hI rfl
  clear hI
  with_reducible repeat' first|simp only[zP,jaf,jaa,jad,jac,seval,Nat.reduceLeDiff,g0,s0,g1,s1,g2,s2,l2,l3,l4,hL0, *]|simp only[jab]|apply And.intro|intro _
  refine jbp [(1,.ptr H.length 0),(2,.ptr (H.length+1) 0)] 0 (fun k s' h'=>h'=H++(.box (s8 (.own (H.length+2) 0 0 1 false) false false)::B2:: .grow 0 4 [rowC z]::X)) (by omega) ⟨rfl,rfl,rfl,rfl,rfl,rfl⟩ rfl rfl (by repeat' (first|exact trivial|(refine⟨rfl,?_⟩)|(refine⟨by simp only[jaQ,Nat.reduceEqDiff,reduceIte];assumption,?_⟩))) rfl rfl (by decide) rfl ?_ ?_
  ·rintro j s' h' hk
   exact absurd hk (Nat.not_lt_zero _)
  ·rintro s' h' rfl ⟨f1,f2,-⟩
   rw[HB2.out]
   have fin:=fun B1 B2=>Fin.keep (H0:=H) (KK.out B1 B2)
   with_reducible repeat' first|simp only[zP,jaf,jaa,jad,jac,seval,Nat.reduceLeDiff,g0,s0,g1,s1,g2,s2,l2,l3,l4,hL0,hL1, *]|simp only[jab]|apply And.intro|intro _
theorem copy0_z {ex:Bool}(hK: ∀B1 B2,K (.agg (s8 (.own (H.length+2) 0 0 1 false) false false)) (H++[B1,B2,.grow 0 4 [rowC .nil]])):ZC (XS tb true) (jal Tryz.prog) 23 [.agg (s8 (.fz 4 ex [rowC .nil]) e1 e2)] L H K:=
 copy_z (X:=[]) rfl rfl (fun H4 L K _ hK=>jgR jjb (bx1 (by decide)) (by simpa using hK)) hK
theorem copy1_z {ex exv:Bool}{a:List ZV}{r:List (List ZV)}(hr:(a::r).length*16≤ja5)(hK: ∀B1 B2,K (.agg (s8 (.own (H.length+2) 0 0 1 false) false false)) (H++[B1,B2,.grow 0 4 [rowC (.own (H.length+3) 0 0 (a::r).length false)],.grow 0 2 (a::r)])):ZC (XS tb true) (jal Tryz.prog) 23 [.agg (s8 (.fz 4 ex [rowC (.fz 2 exv (a::r))]) e1 e2)] L H K:=
 copy_z (X:=[.grow 0 2 (a::r)]) rfl rfl (fun H4 L K h4 hK=>jl7 jjb (bx1 (by decide)) hr (by rw[h4];exact hK)) hK
end
section
open Go Go.RowKit
variable {tb:List (FuncId×Bool)}{nd:Bool}{L:Nat→Bool}{H:ZH}{K:ZV→ZH→Prop}{p:Nat}{cz vz:ZV}{e1 e2:Bool}{k n:Int}{l:List (Int×Int)}
set_option maxHeartbeats 1000000 in
theorem form_z (hK:K (.tuple [.val (.string ⟨#[108,42]⟩),ZBo true]) H):ZC (XS tb nd) (jal Tryz.prog) 49 [Z64 1] L H K:=by
 refine ZC.enterL Gh.no (jai (by decide)) jrv (by simp) fun hL=>?_
 simp only[jkX,kkP]
 have g0: ∀A X,(H++(A::X))[H.length]?=some A:=fun A X=>jay A X
 have fin: ∀X,Fin H (.tuple [.val (.string ⟨#[108,42]⟩),ZBo true]) (H++X) K:=fun X=>Fin.trunc (Mods.ext H X) rfl (by rw[List.take_left];exact hK)
 have n1:natZ (Z64 1)=some 1:=rfl
 have hL0:L H.length=true:=by simpa using hL 0
 have s0: ∀A C X,(H++(A::X)).set H.length C=H++(C::X):=fun A C X=>jbR A C X
 clear hK
 with_reducible repeat' first|simp only[zP,jaf,jaa,jad,jac,seval,Nat.reduceLeDiff,g0,s0,n1,hL0,decide_true,decide_false, *]|simp only[jab]|apply And.intro|intro _
set_option maxHeartbeats 1000000 in
theorem is_z (hp:H[p]?=some (.box (s8 cz e1 e2)))(hc:CzAt H cz vz)(hK:K (ZBo true) H):ZC (XS tb nd) (jal Tryz.prog) 85 [.ptr p 0,.agg [Z64 5,Z64 0],Z64 2] L H K:=by
 refine ZC.enterL Gh.no (jai (by decide)) f_ts_is (by simp) fun hL=>?_
 simp only[jsb,kkP]
 have g0: ∀A X,(H++(A::X))[H.length]?=some A:=fun A X=>jay A X
 have fin: ∀X,Fin H (ZBo true) (H++X) K:=fun X=>Fin.trunc (Mods.ext H X) rfl (by rw[List.take_left];exact hK)
 have GP:=Lib.hid hp
 have GC:=Lib.hid hc
 have gp:=blkX hp
 have n0:natZ (Z64 0)=some 0:=rfl
 clear hK hp
 rcases hc with⟨ex,rfl⟩|⟨i,g,ex,rfl,hi⟩
 ·with_reducible repeat' first|simp only[zP,jaf,jaa,jad,jac,seval,Nat.reduceLeDiff,g0,decide_true,decide_false, *]|simp only[jab]|apply And.intro|intro _
  refine jlU (blkX GP.out _) (GC.out.ext _) ?_
  with_reducible repeat' first|simp only[zP,jaf,jaa,jad,jac,seval,Nat.reduceLeDiff,g0,gp,n0,decide_true,decide_false, *]|simp only[jab]|apply And.intro|intro _
 ·have gi:=blkX hi
  clear hi
  with_reducible repeat' first|simp only[zP,jaf,jaa,jad,jac,seval,Nat.reduceLeDiff,g0,decide_true,decide_false, *]|simp only[jab]|apply And.intro|intro _
  refine jlU (blkX GP.out _) (GC.out.ext _) ?_
  with_reducible repeat' first|simp only[zP,jaf,jaa,jad,jac,seval,Nat.reduceLeDiff,g0,gp,gi,n0,decide_true,decide_false, *]|simp only[jab]|apply And.intro|intro _
set_option maxHeartbeats 1000000 in
theorem hfl_z (hp:H[p]?=some (.box (s8 cz e1 e2)))(hc:CzAt H cz vz)(hK:K (ZBo true) H):ZC (XS tb nd) (jal Tryz.prog) 50 [.agg [.ptr p 0],.val (.int .u8 108),.agg [Z64 5,Z64 0]] L H K:=by
 refine ZC.enterL Gh.no (jai (by decide)) jh4 (by simp) fun hL=>?_
 simp only[je1,kkP]
 have g0: ∀A X,(H++(A::X))[H.length]?=some A:=fun A X=>jay A X
 have g1: ∀A B X,(H++(A::B::X))[H.length+1]?=some B:=fun A B X=>jbf A B X
 have fin: ∀X,Fin H (ZBo true) (H++X) K:=fun X=>Fin.trunc (Mods.ext H X) rfl (by rw[List.take_left];exact hK)
 have GP:=Lib.hid hp
 have GC:=Lib.hid hc
 have b0:binV .eql (.int .u8 108) (.int .u8 108)=some (.bool true):=rfl
 clear hK hp hc
 with_reducible repeat' first|simp only[zP,jaf,jaa,jad,jac,seval,Nat.reduceLeDiff,g0,g1,b0,decide_true,decide_false, *]|simp only[jab]|apply And.intro|intro _
 refine is_z (blkX GP.out _) (GC.out.ext _) ?_
 with_reducible repeat' first|simp only[zP,jaf,jaa,jad,jac,seval,Nat.reduceLeDiff,g0,g1,decide_true,decide_false, *]|simp only[jab]|apply And.intro|intro _
set_option maxHeartbeats 1000000 in
theorem hfs_z (hK:K (ZBo true) H):ZC (XS tb nd) (jal Tryz.prog) 50 [.agg [.ptr p 0],.val (.int .u8 42),.agg [Z64 k,Z64 n]] L H K:=by
 refine ZC.enterL Gh.no (jai (by decide)) jh4 (by simp) fun hL=>?_
 simp only[je1,kkP]
 have g0: ∀A X,(H++(A::X))[H.length]?=some A:=fun A X=>jay A X
 have g1: ∀A B X,(H++(A::B::X))[H.length+1]?=some B:=fun A B X=>jbf A B X
 have fin: ∀X,Fin H (ZBo true) (H++X) K:=fun X=>Fin.trunc (Mods.ext H X) rfl (by rw[List.take_left];exact hK)
 have b0:binV .eql (.int .u8 42) (.int .u8 108)=some (.bool false):=rfl
 have b1:binV .eql (.int .u8 42) (.int .u8 111)=some (.bool false):=rfl
 have b2:binV .eql (.int .u8 42) (.int .u8 110)=some (.bool false):=rfl
 have b3:binV .eql (.int .u8 42) (.int .u8 102)=some (.bool false):=rfl
 have b4:binV .eql (.int .u8 42) (.int .u8 103)=some (.bool false):=rfl
 have b5:binV .eql (.int .u8 42) (.int .u8 119)=some (.bool false):=rfl
 have b6:binV .eql (.int .u8 42) (.int .u8 114)=some (.bool false):=rfl
 have b7:binV .eql (.int .u8 42) (.int .u8 99)=some (.bool false):=rfl
 clear hK
 with_reducible repeat' first|simp only[zP,jaf,jaa,jad,jac,seval,Nat.reduceLeDiff,g0,g1,b0,b1,b2,b3,b4,b5,b6,b7,decide_true,decide_false, *]|simp only[jab]|apply And.intro|intro _
set_option maxHeartbeats 1000000 in
theorem jql (hK:K (.agg [Z64 2,Z64 n]) H):ZC (XS tb nd) (jal Tryz.prog) 58 [Z64 n] L H K:=by
 refine ZC.enterL Gh.no (jai (by decide)) joH (by simp) fun hL=>?_
 simp only[jif,kkP]
 have g0: ∀A X,(H++(A::X))[H.length]?=some A:=fun A X=>jay A X
 have s0: ∀A C X,(H++(A::X)).set H.length C=H++(C::X):=fun A C X=>jbR A C X
 have hL0:L H.length=true:=by simpa using hL 0
 have fin: ∀X,Fin H (.agg [Z64 2,Z64 n]) (H++X) K:=fun X=>Fin.trunc (Mods.ext H X) rfl (by rw[List.take_left];exact hK)
 clear hK
 with_reducible repeat' first|simp only[zP,jaf,jaa,jad,jac,seval,Nat.reduceLeDiff,g0,s0,hL0,decide_true,decide_false, *]|simp only[jab]|apply And.intro|intro _
set_option maxHeartbeats 1000000 in
theorem ofo_z {i g:Nat}{ex:Bool}(hp:H[p]?=some (.box (s8 (.own i g 0 1 ex) e1 e2)))(hi:H[i]?=some (.grow g 4 [rowC vz]))(hK:K (.eptr i g 0 0) H):ZC (XS tb nd) (jal Tryz.prog) 60 [.agg [.ptr p 0],.agg [Z64 5,Z64 0]] L H K:=by
 refine ZC.enterL Gh.no (jai (by decide)) jrs (by simp) fun hL=>?_
 simp only[jmb,kkP]
 have g0: ∀A X,(H++(A::X))[H.length]?=some A:=fun A X=>jay A X
 have g1: ∀A B X,(H++(A::B::X))[H.length+1]?=some B:=fun A B X=>jbf A B X
 have fin: ∀X,Fin H (.eptr i g 0 0) (H++X) K:=fun X=>Fin.trunc (Mods.ext H X) (by simpa[refs,jcc] using jae hi) (by rw[List.take_left];exact hK)
 have gp:=blkX hp
 have gi:=blkX hi
 have n0:natZ (Z64 0)=some 0:=rfl
 clear hK hp hi
 with_reducible repeat' first|simp only[zP,jaf,jaa,jad,jac,seval,Nat.reduceLeDiff,g0,g1,gp,gi,n0,decide_true,decide_false, *]|simp only[jab]|apply And.intro|intro _
set_option maxHeartbeats 1000000 in
theorem off_z {ex:Bool}(hp:H[p]?=some (.box (s8 (.fz 4 ex [rowC vz]) e1 e2)))(hK:K (.fptr 4 [rowC vz] 0 0) H):ZC (XS tb nd) (jal Tryz.prog) 60 [.agg [.ptr p 0],.agg [Z64 5,Z64 0]] L H K:=by
 refine ZC.enterL Gh.no (jai (by decide)) jrs (by simp) fun hL=>?_
 simp only[jmb,kkP]
 have g0: ∀A X,(H++(A::X))[H.length]?=some A:=fun A X=>jay A X
 have g1: ∀A B X,(H++(A::B::X))[H.length+1]?=some B:=fun A B X=>jbf A B X
 have fin: ∀X,Fin H (.fptr 4 [rowC vz] 0 0) (H++X) K:=fun X=>Fin.trunc (Mods.ext H X) rfl (by rw[List.take_left];exact hK)
 have gp:=blkX hp
 have n0:natZ (Z64 0)=some 0:=rfl
 clear hK hp
 with_reducible repeat' first|simp only[zP,jaf,jaa,jad,jac,seval,Nat.reduceLeDiff,g0,g1,gp,n0,decide_true,decide_false, *]|simp only[jab]|apply And.intro|intro _
end
section
open Go Go.RowKit
variable {tb:List (FuncId×Bool)}{nd:Bool}{L:Nat→Bool}{H:ZH}{K:ZV→ZH→Prop}{p c d g m:Nat}{cz vz:ZV}{e1 e2:Bool}{k n:Int}{rows:List (List ZV)}
set_option maxHeartbeats 4000000 in
theorem listsN_z {ex:Bool}(hp:H[p]?=some (.box (s8 (.own c 0 0 1 false) e1 e2)))(hc:H[c]?=some (.grow 0 4 [rowC .nil]))(hLc:L c=true)
  (hK: ∀B1 B2,K (.tuple [.agg [Z64 2,Z64 1],Z64 (-1)]) (H.set c (.grow 0 4 [rowC (.own (H.length+2) 0 0 1 false)])++[B1,B2,.grow 0 2 [[Z64 k,Z64 n]]])):
  ZC (XS tb nd) (jal Tryz.prog) 62 [.agg [.ptr p 0],Z64 1,.fz 2 ex [[Z64 5,Z64 0],[Z64 k,Z64 n]]] L H K:=by
 refine ZC.enterL Gh.no (jai (by decide)) jh2 (by simp) fun hL=>?_
 simp only[je0,kkP]
 have hcl:=jae hc
 have g0: ∀A X,(H++(A::X))[H.length]?=some A:=fun A X=>jay A X
 have gc:=blkX hc
 have GP:=Lib.hid (blkX hp)
 have GC:=Lib.hid gc
 have sc: ∀X B,(H++X).set c B=H.set c B++X:=fun X B=>List.set_append_left _ _ hcl
 have w0: ∀B A X,(H.set c B++(A::X))[H.length]?=some A:=fun B A X=>by rw[List.getElem?_append_right (by simp)];simp
 have w1: ∀B A D X,(H.set c B++(A::D::X))[H.length+1]?=some D:=fun B A D X=>by rw[List.getElem?_append_right (by simp)];simp
 have w2: ∀B A D E X,(H.set c B++(A::D::E::X))[H.length+2]?=some E:=fun B A D E X=>by rw[List.getElem?_append_right (by simp)];simp
 have s1: ∀B A D E X,(H.set c B++(A::D::X)).set (H.length+1) E=H.set c B++(A::E::X):=fun B A D E X=>by rw[List.set_append_right _ _ (by simp)];simp
 have wc: ∀B X,(H.set c B++X)[c]?=some B:=fun B X=>by rw[List.getElem?_append_left (by simpa using hcl),List.getElem?_set_self hcl]
 have hL1:L (H.length+1)=true:=hL 1
 have n0:natZ (Z64 0)=some 0:=rfl
 have n1:natZ (Z64 1)=some 1:=rfl
 have l0: ¬((100:Int)≤((0:Nat):Int)):=by decide
 have rr:1*16≤ja5:=by decide
 have c1:((1:Nat):Int)=1:=rfl
 have fin:=fun B1 B2=>Fin.keep (H0:=H) (hK B1 B2)
 clear hK hp hc
 with_reducible repeat' first|simp only[zP,jaf,jaa,jad,jac,seval,Nat.reduceLeDiff,g0,decide_true,decide_false, *]|simp only[jab]|apply And.intro|intro _
 refine ofo_z (GP.out _) (GC.out _) ?_
 with_reducible repeat' first|simp only[zP,jaf,jaa,jad,jac,seval,Nat.reduceLeDiff,g0,gc,sc,w0,w1,w2,s1,wc,hL1,n0,n1,l0,rr,c1,hLc,decide_true,decide_false, *]|simp only[jab]|apply And.intro|intro _
 refine jql ?_
 with_reducible repeat' first|simp only[zP,jaf,jaa,jad,jac,seval,Nat.reduceLeDiff,g0,gc,sc,w0,w1,w2,s1,wc,hL1,n0,n1,l0,rr,c1,hLc,decide_true,decide_false, *]|simp only[jab]|apply And.intro|intro _
set_option maxHeartbeats 4000000 in
theorem listsO_z {ex:Bool}(hp:H[p]?=some (.box (s8 (.own c 0 0 1 false) e1 e2)))(hc:H[c]?=some (.grow 0 4 [rowC (.own d g 0 m false)]))(hd:H[d]?=some (.grow g 2 rows))(hm:rows.length=m)(hm1:m<100)(hdc:d≠c)(hLc:L c=true)(hLd:L d=true)
  (hK: ∀B1 B2,K (.tuple [.agg [Z64 2,Z64 (m+1:Nat)],Z64 (-1)]) ((H.set d (.grow (g+1) 2 (rows++[[Z64 k,Z64 n]]))).set c (.grow 0 4 [rowC (.own d (g+1) 0 (m+1) false)])++[B1,B2])):
  ZC (XS tb nd) (jal Tryz.prog) 62 [.agg [.ptr p 0],Z64 1,.fz 2 ex [[Z64 5,Z64 0],[Z64 k,Z64 n]]] L H K:=by
 refine ZC.enterL Gh.no (jai (by decide)) jh2 (by simp) fun hL=>?_
 simp only[je0,kkP]
 have hcl:=jae hc
 have hdl:=jae hd
 have g0: ∀A X,(H++(A::X))[H.length]?=some A:=fun A X=>jay A X
 have gc:=blkX hc
 have gd:=blkX hd
 have GP:=Lib.hid (blkX hp)
 have GC:=Lib.hid gc
 have sd: ∀X B,(H++X).set d B=H.set d B++X:=fun X B=>List.set_append_left _ _ hdl
 have gc2: ∀B X,(H.set d B++X)[c]?=some (.grow 0 4 [rowC (.own d g 0 m false)]):=fun B X=>by rw[List.getElem?_append_left (by simpa using hcl),List.getElem?_set_ne hdc];exact hc
 have sc: ∀D X B,(H.set d D++X).set c B=(H.set d D).set c B++X:=fun D X B=>List.set_append_left _ _ (by simpa using hcl)
 have w0: ∀D B A X,((H.set d D).set c B++(A::X))[H.length]?=some A:=fun D B A X=>by rw[List.getElem?_append_right (by simp)];simp
 have w1: ∀D B A E X,((H.set d D).set c B++(A::E::X))[H.length+1]?=some E:=fun D B A E X=>by rw[List.getElem?_append_right (by simp)];simp
 have s1: ∀D B A F E X,((H.set d D).set c B++(A::F::X)).set (H.length+1) E=(H.set d D).set c B++(A::E::X):=fun D B A F E X=>by rw[List.set_append_right _ _ (by simp)];simp
 have wc: ∀D B X,((H.set d D).set c B++X)[c]?=some B:=fun D B X=>by rw[List.getElem?_append_left (by simpa using hcl),List.getElem?_set_self (by simpa using hcl)]
 have wd: ∀D B X,((H.set d D).set c B++X)[d]?=some D:=fun D B X=>by rw[List.getElem?_append_left (by simpa using hdl),List.getElem?_set_ne hdc.symm,List.getElem?_set_self hdl]
 have hL1:L (H.length+1)=true:=hL 1
 have n0:natZ (Z64 0)=some 0:=rfl
 have n1:natZ (Z64 1)=some 1:=rfl
 have l0: ¬((100:Int)≤(m:Int)):=by omega
 have rr:(m+1)*16≤ja5:=by unfold ja5;omega
 have hle:m≤rows.length:=by omega
 have ht:rows.take m=rows:=List.take_of_length_le (by omega)
 have fin:=fun B1 B2=>Fin.keep (H0:=H) (hK B1 B2)
 clear hK hp hc hd
 with_reducible repeat' first|simp only[zP,jaf,jaa,jad,jac,seval,Nat.reduceLeDiff,g0,decide_true,decide_false, *]|simp only[jab]|apply And.intro|intro _
 refine ofo_z (GP.out _) (GC.out _) ?_
 with_reducible repeat' first|simp only[zP,jaf,jaa,jad,jac,seval,Nat.reduceLeDiff,g0,gc,gd,sd,gc2,sc,w0,w1,s1,wc,wd,hL1,n0,n1,l0,rr,hle,ht,hLc,hLd,decide_true,decide_false, *]|simp only[jab]|apply And.intro|intro _
 refine jql ?_
 with_reducible repeat' first|simp only[zP,jaf,jaa,jad,jac,seval,Nat.reduceLeDiff,g0,gc,gd,sd,gc2,sc,w0,w1,s1,wc,wd,hL1,n0,n1,l0,rr,hle,ht,hLc,hLd,decide_true,decide_false, *]|simp only[jab]|apply And.intro|intro _
end
end Go.Proofs.YtjaahfncbechnaaGreatDoor
