/-
  cells in ZM, of a state of one list: Heap.Call.
-/
import Derived.Test.YtjaahfncbechnaaGreatDoorMrT21
set_option linter.unusedVariables false
set_option linter.unusedSimpArgs false
namespace Go.Proofs.YtjaahfncbechnaaGreatDoor
section
open Go Go.RowKit
variable {tb:List (FuncId×Bool)}{nd:Bool}{L:Nat→Bool}{H H0 H':ZH}{K:ZV→ZH→Prop}{p c d g m:Nat}{cz vz:ZV}{e1 e2:Bool}{k n:Int}{rows:List (List ZV)}
def StIs (H0 H:ZH)(p c:Nat)(rows:List (List ZV)):Prop:=(∃X,H=H0++X)∧H0.length≤c∧H0.length≤p∧H[p]?=some (.box (s8 (.own c 0 0 1 false) false false))∧
  ((rows=[]∧H[c]?=some (.grow 0 4 [rowC .nil]))∨ ∃d g,H[c]?=some (.grow 0 4 [rowC (.own d g 0 rows.length false)])∧H[d]?=some (.grow g 2 rows)∧d≠c∧H0.length≤d)
def BoxK (H H':ZH):Prop:= ∀(i:Nat) (B:List ZV),H[i]?=some (ZB.box B)→H'[i]?=some (ZB.box B)
theorem StIs.ext (h:StIs H0 H p c rows)(X:ZH):StIs H0 (H++X) p c rows:=by
 obtain⟨⟨Y,e⟩,h1,h2,h3,h4⟩:=h
 refine⟨⟨Y++X,by rw[e,List.append_assoc]⟩,h1,h2,blkX h3 X,?_⟩
 rcases h4 with⟨r,h5⟩|⟨d,g,h5,h6,h7,h8⟩
 ·exact .inl ⟨r,blkX h5 X⟩
 ·exact .inr ⟨d,g,blkX h5 X,blkX h6 X,h7,h8⟩
theorem StIs.box (h:StIs H0 H p c rows){i:Nat}{B B':List ZV}(hi:H[i]?=some (.box B))(hn:H0.length≤i)(hp:i≠p):StIs H0 (H.set i (.box B')) p c rows:=by
 obtain⟨⟨Y,e⟩,h1,h2,h3,h4⟩:=h
 refine⟨⟨Y.set (i - H0.length) (.box B'),by rw[e,List.set_append_right _ _ hn]⟩,h1,h2,by rw[List.getElem?_set_ne hp];exact h3,?_⟩
 rcases h4 with⟨r,h5⟩|⟨d,g,h5,h6,h7,h8⟩
 ·refine .inl ⟨r,?_⟩
  have:i≠c:=fun e=>by rw[e,h5] at hi;cases hi
  rw[List.getElem?_set_ne this];exact h5
 ·have q1:i≠c:=fun e=>by rw[e,h5] at hi;cases hi
  have q2:i≠d:=fun e=>by rw[e,h6] at hi;cases hi
  exact .inr ⟨d,g,by rw[List.getElem?_set_ne q1];exact h5,by rw[List.getElem?_set_ne q2];exact h6,h7,h8⟩
theorem StIs.czAt (h:StIs H0 H p c rows): ∃vz,CzAt H (.own c 0 0 1 false) vz∧H[p]?=some (.box (s8 (.own c 0 0 1 false) false false)):=by
 obtain⟨_,_,_,h3,h4⟩:=h
 rcases h4 with⟨r,h5⟩|⟨d,g,h5,h6,h7,h8⟩
 ·exact⟨_,.inr ⟨_,_,_,rfl,h5⟩,h3⟩
 ·exact⟨_,.inr ⟨_,_,_,rfl,h5⟩,h3⟩
theorem lists_z {ex:Bool}(hS:StIs H0 H p c rows)(hm:rows.length<100)(hL: ∀i,L (H0.length+i)=true)
  (hK: ∀H',StIs H0 H' p c (rows++[[Z64 k,Z64 n]])→BoxK H H'→K (.tuple [.agg [Z64 2,Z64 (rows.length+1:Nat)],Z64 (-1)]) H'):
  ZC (XS tb nd) (jal Tryz.prog) 62 [.agg [.ptr p 0],Z64 1,.fz 2 ex [[Z64 5,Z64 0],[Z64 k,Z64 n]]] L H K:=by
 obtain⟨⟨Y,e⟩,h1,h2,h3,h4⟩:=hS
 have hLn: ∀i,H0.length≤i→L i=true:=fun i hi=>by have:=hL (i - H0.length);rwa [Nat.add_sub_cancel' hi] at this
 rcases h4 with⟨r,h5⟩|⟨d,g,h5,h6,h7,h8⟩
 ·subst r
  have hcl:=jae h5
  have hcp:c≠p:=fun e=>by rw[e,h3] at h5;cases h5
  refine listsN_z h3 h5 (hLn c h1) fun B1 B2=>hK _ ⟨⟨_,by rw[e,List.set_append_right _ _ h1,List.append_assoc]⟩,h1,h2,?_,.inr ⟨H.length+2,0,?_,?_,by omega,by rw[e];simp;omega⟩⟩ ?_
  ·rw[List.getElem?_append_left (by simpa using jae h3),List.getElem?_set_ne hcp];exact h3
  ·rw[List.getElem?_append_left (by simpa using hcl),List.getElem?_set_self hcl];rfl
  ·rw[List.getElem?_append_right (by simp)];simp
  ·unfold BoxK
   intro i B hi
   have q1:c≠i:=fun e=>by rw[←e,h5] at hi;cases hi
   rw[List.getElem?_append_left (by simpa using jae hi),List.getElem?_set_ne q1];exact hi
 ·have hcl:=jae h5
  have hdl:=jae h6
  have hcp:c≠p:=fun e=>by rw[e,h3] at h5;cases h5
  have hdp:d≠p:=fun e=>by rw[e,h3] at h6;cases h6
  refine listsO_z h3 h5 h6 rfl hm h7 (hLn c h1) (hLn d h8) fun B1 B2=>hK _ ⟨⟨_,by rw[e,List.set_append_right _ _ h8,List.set_append_right _ _ h1,List.append_assoc]⟩,h1,h2,?_,.inr ⟨d,g+1,?_,?_,h7,h8⟩⟩ ?_
  ·rw[List.getElem?_append_left (by simpa using jae h3),List.getElem?_set_ne hcp,List.getElem?_set_ne hdp];exact h3
  ·rw[List.getElem?_append_left (by simpa using hcl),List.getElem?_set_self (by simpa using hcl),List.length_append];rfl
  ·rw[List.getElem?_append_left (by simpa using hdl),List.getElem?_set_ne h7.symm,List.getElem?_set_self hdl]
  ·unfold BoxK
   intro i B hi
   have q1:c≠i:=fun e=>by rw[←e,h5] at hi;cases hi
   have q2:d≠i:=fun e=>by rw[←e,h6] at hi;cases hi
   rw[List.getElem?_append_left (by simpa using jae hi),List.getElem?_set_ne q1,List.getElem?_set_ne q2];exact hi
def CallI (H:ZH)(A B:ZB)(k:Nat)(h':ZH):Prop:= ∃X,X.length=k∧h'=H++(A::B::X)
set_option maxHeartbeats 4000000 in
theorem hcall_z {ex:Bool}(hS:StIs H0 H p c rows)(hm:rows.length<100)(hL: ∀i,L (H0.length+i)=true)
  (hK: ∀H',StIs H0 H' p c (rows++[[Z64 k,Z64 n]])→BoxK H H'→K (.tuple [.agg [Z64 2,Z64 (rows.length+1:Nat)],Z64 (-1)]) H'):
  ZC (XS tb nd) (jal Tryz.prog) 24 [.agg [.ptr p 0],Z64 1,.fz 2 ex [[Z64 5,Z64 0],[Z64 k,Z64 n]]] L H K:=by
 have hLL:=hL
 refine ZC.enterL Gh.no (jai (by decide)) joM (by simp) fun hL=>?_
 simp only[jii,kkP]
 have g0: ∀A X,(H++(A::X))[H.length]?=some A:=fun A X=>jay A X
 have g1: ∀A B X,(H++(A::B::X))[H.length+1]?=some B:=fun A B X=>jbf A B X
 have g2: ∀A B C X,(H++(A::B::C::X))[H.length+2]?=some C:=fun A B C X=>by rw[List.getElem?_append_right (by omega),Nat.add_sub_cancel_left];rfl
 have s2: ∀A B D C X,(H++(A::B::D::X)).set (H.length+2) C=H++(A::B::C::X):=fun A B D C X=>by rw[List.set_append_right _ _ (by omega),Nat.add_sub_cancel_left];rfl
 have g3: ∀A B E C X,(H++(A::B::E::C::X))[H.length+3]?=some C:=fun A B E C X=>by rw[List.getElem?_append_right (by omega),Nat.add_sub_cancel_left];rfl
 have s3: ∀A B E D C X,(H++(A::B::E::D::X)).set (H.length+3) C=H++(A::B::E::C::X):=fun A B E D C X=>by rw[List.set_append_right _ _ (by omega),Nat.add_sub_cancel_left];rfl
 have HS:=Lib.hid hS
 have HK:=Lib.hid hK
 have HL:=Lib.hid hLL
 have hL2:L (H.length+2)=true:=hL 2
 have hL3:L (H.length+3)=true:=hL 3
 have hL1:L (H.length+1)=true:=hL 1
 have sz:(⟨#[108,42]⟩:ByteArray).size=2:=rfl
 have c2:((2:Nat):Int)=2:=rfl
 have c1:((1:Nat):Int)=1:=rfl
 have c0:((0:Nat):Int)=0:=rfl
 have n0:natZ (Z64 0)=some 0:=rfl
 have n1:natZ (Z64 1)=some 1:=rfl
 have t0:(⟨#[108,42]⟩:ByteArray)[0]?=some 108:=rfl
 have t1:(⟨#[108,42]⟩:ByteArray)[1]?=some 42:=rfl
 have u0:((UInt8.toNat 108:Nat):Int)=108:=rfl
 have u1:((UInt8.toNat 42:Nat):Int)=42:=rfl
 have b2:binV .neq (.int .i64 2) (.int .i64 2)=some (.bool false):=rfl
 clear hS hK hLL
 with_reducible repeat' first|simp only[zP,jaf,jaa,jad,jac,seval,Nat.reduceLeDiff,g0,g1, *]|simp only[jab]|apply And.intro|intro _
 refine form_z ?_
 with_reducible repeat' first|simp only[zP,jaf,jaa,jad,jac,seval,Nat.reduceLeDiff,g0,g1,sz,c2,b2,Value.string.injEq,decide_true,decide_false, *]|simp only[jab]|apply And.intro|intro _
 obtain⟨B2,hB2⟩: ∃B:ZB,B= .box [Z64 0,Z64 0]:=⟨_,rfl⟩
 rw[←hB2]
 have HB2:=Lib.hid hB2
 clear hB2
 have i1: ∀C,CallI H (.box [.ptr p 0]) B2 1 (H++[.box [.ptr p 0],B2,C]):=fun C=>⟨[C],rfl,rfl⟩
 have i2: ∀C D,CallI H (.box [.ptr p 0]) B2 2 (H++[.box [.ptr p 0],B2,C,D]):=fun C D=>⟨[C,D],rfl,rfl⟩
 refine jbp [(1,Z64 1),(2,.fz 2 ex [[Z64 5,Z64 0],[Z64 k,Z64 n]]),(3,.ptr H.length 0),(6,.ptr (H.length+1) 0),(8,.val (.string ⟨#[108,42]⟩)),(29,.fz 2 ex [[Z64 5,Z64 0],[Z64 k,Z64 n]])] 2 (fun k s' h'=>CallI H (.box [.ptr p 0]) B2 k h') (by omega) ⟨rfl,rfl,rfl,rfl,rfl,rfl⟩ rfl rfl (by repeat' (first|exact trivial|(refine⟨rfl,?_⟩)|(refine⟨by simp only[jaQ,Nat.reduceEqDiff,reduceIte];assumption,?_⟩))) rfl rfl (by decide) ⟨[],rfl,rfl⟩ ?_ ?_
 ·rintro j s' h' hk ⟨X,hX,rfl⟩ hi hl ⟨f1,f2,f3,f4,f5,f6,-⟩
  have hj:j=0∨j=1:=by omega
  rcases hj with rfl|rfl
  ·obtain rfl:=List.length_eq_zero_iff.1 hX
   with_reducible repeat' first|simp only[zP,jaf,jaa,jad,jac,seval,Nat.reduceLeDiff,g0,g1,g2,s2,hL2,n0,t0,u0,c0,Value.string.injEq, *]|simp only[jab]|apply And.intro|intro _
   obtain⟨vz,h1,h2⟩:=HS.out.czAt
   refine hfl_z (blkX h2 _) (h1.ext _) ?_
   clear h1 h2
   with_reducible repeat' first|simp only[zP,jaf,jaa,jad,jac,seval,Nat.reduceLeDiff,g0,g1,g2,s2,i1, *]|simp only[jab]|apply And.intro|intro _
  ·obtain⟨C,rfl⟩:=List.length_eq_one_iff.1 hX
   with_reducible repeat' first|simp only[zP,jaf,jaa,jad,jac,seval,Nat.reduceLeDiff,g0,g1,g3,s3,hL3,n1,t1,u1,c1,Value.string.injEq, *]|simp only[jab]|apply And.intro|intro _
   refine hfs_z ?_
   with_reducible repeat' first|simp only[zP,jaf,jaa,jad,jac,seval,Nat.reduceLeDiff,g0,g1,g3,s3,i2, *]|simp only[jab]|apply And.intro|intro _
 ·rintro s' h' ⟨X,hX,rfl⟩ ⟨f1,f2,f3,f4,f5,f6,-⟩
  with_reducible repeat' first|simp only[zP,jaf,jaa,jad,jac,seval,Nat.reduceLeDiff,g0,g1,decide_true,decide_false, *]|simp only[jab]|apply And.intro|intro _
  rw[HB2.out]
  refine lists_z (HS.out.ext _) hm HL.out fun H' hS' hB'=>?_
  have e1:=hB' _ _ (g1 _ _ _)
  have hb: ∀i,i<H.length→ ∀(H'':ZH) B,(H''.set (H.length+1) B)[i]?=H''[i]?:=fun i hi H'' B=>List.getElem?_set_ne (by omega)
  obtain⟨⟨Y,eY⟩,-, -, hp,-⟩:=HS.out
  have hpl:=jae hp
  have hY:H0.length≤H.length:=by rw[eY];simp
  have fin : ∀ B, Fin H (.tuple [.agg [Z64 2, Z64 (rows.length + 1 : Nat)], Z64 (-1)]) (H'.set (H.length + 1) (.box B)) K := fun B => Fin.keep (HK.out _ (hS'.box e1 (by omega) (by omega)) fun i C hi => by
   have h1:=jae hi
   rw[hb i h1]
   exact hB' _ _ (blkX hi _))
  have e3:=hB' _ _ (g0 _ _)
  have e4: ∀B,(H'.set (H.length+1) B)[H.length+1]?=some B:=fun B=>List.getElem?_set_self (jae e1)
  clear hS' hB' hp eY hb hX HB2
  with_reducible repeat' first|simp only[zP,jaf,jaa,jad,jac,seval,Nat.reduceLeDiff,e1,e4,hL1, *]|simp only[jab]|apply And.intro|intro _
end
section
open Go Go.RowKit
variable {tb:List (FuncId×Bool)}{nd:Bool}{L:Nat→Bool}{H H0 H':ZH}{K:ZV→ZH→Prop}{p c d g m:Nat}{cz vz:ZV}{e1 e2:Bool}{k n:Int}{rows:List (List ZV)}{l:List (Int×Int)}
theorem StIs.fin {r:List ZV}(hS:StIs H0 H' p c rows)(hne:rows≠[])(hp:rows.flatten.all jbL=true)(hr:(ZV.agg (s8 (.fz 4 false [rowC (.fz 2 false rows)]) false false)::r).all (refs H0.length)=true)
  (hK:K (.tuple (.agg (s8 (.fz 4 false [rowC (.fz 2 false rows)]) false false)::r)) H0):Fin H0 (.tuple (.agg (s8 (.own c 0 0 1 false) false false)::r)) H' K:=by
 obtain⟨⟨Y,e⟩,h1,h2,h3,h4⟩:=hS
 rcases h4 with⟨r,h5⟩|⟨d,g,h5,h6,h7,h8⟩
 ·exact absurd r hne
 ·have hcl:=jae h5
  refine Fin.frzRow (t:=c) (e:=0) (c:=2) (j:=d) h5 rfl rfl h6 (Nat.le_refl _) hp h7 ?_
  rw[List.take_length]
  refine Fin.frzTA (j:=0) (c:=0) (i:=c) (k:=4) (rows:=[rowC (.fz 2 false rows)]) rfl rfl (by rw[List.getElem?_set_self (by simpa using hcl)];rfl) (by simp) (by simp[jbL,hp]) ?_
  have e2:(((H'.set d .dead).set c (.grow 0 4 ([rowC (.own d g 0 rows.length false)].set 0 (jac (rowC (.own d g 0 rows.length false)) 2 [.fz 2 false rows])))).set c .dead)=H0++((Y.set (d - H0.length) .dead).set (c - H0.length) .dead):=by
   rw[List.set_set,e,List.set_append_right _ _ h8,List.set_append_right _ _ h1]
  rw[e2]
  exact Fin.truncT (Mods.ext _ _) hr (by rw[List.take_left];exact hK)
theorem pure_vl:(l.map eVl).flatten.all jbL=true:=by
 induction l with
 |nil=>rfl
 |cons a l ih=>simp[List.map_cons,List.flatten_cons,List.all_append,ih,jbL]
def VzOk (vz:ZV)(l:List (Int×Int)):Prop:=(vz= .nil∧l=[])∨(l≠[]∧ ∃ex,vz= .fz 2 ex (l.map eVl))
theorem VzOk.is (h:VzOk vz l):VzIs vz l:=by
 rcases h with h|⟨_,h⟩
 ·exact .inl h
 ·exact .inr h
def CopyX (z:ZV)(X:ZH)(l:List (Int×Int))(j:Nat):Prop:=(l=[]∧z= .nil)∨(z= .own j 0 0 l.length false∧X=[.grow 0 2 (l.map eVl)])
theorem copyS_z {ex:Bool}(hv:VzOk vz l)(hl:l.length≤100)(hK: ∀B1 B2 z X,CopyX z X l (H.length+3)→K (.agg (s8 (.own (H.length+2) 0 0 1 false) false false)) (H++(B1::B2:: .grow 0 4 [rowC z]::X))):
  ZC (XS tb true) (jal Tryz.prog) 23 [.agg (s8 (.fz 4 ex [rowC vz]) e1 e2)] L H K:=by
 rcases hv with⟨rfl,rfl⟩|⟨hne,e,rfl⟩
 ·exact copy0_z fun B1 B2=>hK B1 B2 _ _ (.inl ⟨rfl,rfl⟩)
 ·obtain⟨a,r,rfl⟩:=List.exists_cons_of_ne_nil hne
  refine copy1_z (by rw[←List.map_cons (f:=eVl)];simp only[List.length_map] at *; unfold ja5;simp at hl ⊢;omega) fun B1 B2=>hK B1 B2 _ _ (.inr ⟨?_,rfl⟩)
  simp
theorem StIs.ofCopy {z:ZV}{X:ZH}{A B C D:ZB}(h:CopyX z X l (H.length+6)):StIs H (H++(.box (s8 (.own (H.length+5) 0 0 1 false) false false)::A::B::C::D:: .grow 0 4 [rowC z]::X)) H.length (H.length+5) (l.map eVl):=by
 have g5: ∀A B C D E F Y,(H++(A::B::C::D::E::F::Y))[H.length+5]?=some F:=fun A B C D E F Y=>by rw[List.getElem?_append_right (by omega),Nat.add_sub_cancel_left];rfl
 have g6: ∀A B C D E F G Y,(H++(A::B::C::D::E::F::G::Y))[H.length+6]?=some G:=fun A B C D E F G Y=>by rw[List.getElem?_append_right (by omega),Nat.add_sub_cancel_left];rfl
 refine⟨⟨_,rfl⟩,by omega,Nat.le_refl _,jay _ _,?_⟩
 rcases h with⟨rfl,rfl⟩|⟨rfl,rfl⟩
 ·exact .inl ⟨rfl,g5 ..⟩
 ·exact .inr ⟨H.length+6,0,by rw[List.length_map];exact g5 .., g6 .., by omega,by omega⟩
set_option maxHeartbeats 4000000 in
theorem tcall_z {ex exs:Bool}(hv:VzOk vz l)(hr: ∀v∈l,RV v.1 v.2)(hl:l.length<100)(hv1:RV k n)
  (hK:K (.tuple [.agg (s8 (.fz 4 false [rowC (.fz 2 false (l.map eVl++[[Z64 k,Z64 n]]))]) false false),.agg [Z64 2,Z64 (l.length+1:Nat)],Z64 (-1)]) H):
  ZC (XS tb true) (jal Tryz.prog) 10 [.agg (s8 (.fz 4 ex [rowC vz]) e1 e2),Z64 1,.fz 2 exs [[Z64 5,Z64 0],[Z64 k,Z64 n]]] L H K:=by
 refine ZC.enterL Gh.no (jai (by decide)) jry (by simp) fun hL=>?_
 simp only[jk0,kkP]
 have g0: ∀A X,(H++(A::X))[H.length]?=some A:=fun A X=>jay A X
 have s0: ∀A C X,(H++(A::X)).set H.length C=H++(C::X):=fun A C X=>jbR A C X
 have hL0:L H.length=true:=by simpa using hL 0
 have hL1:L (H.length+1)=true:=hL 1
 have hL2:L (H.length+2)=true:=hL 2
 have HK:=Lib.hid hK
 have HR:=Lib.hid hr
 have HV:=Lib.hid hv
 have HV1:=Lib.hid hv1
 have HL:=Lib.hid hL
 have c0:((0:Nat):Int)=0:=rfl
 clear hK hr hv hv1
 with_reducible repeat' first|simp only[zP,jaf,jaa,jad,jac,seval,Nat.reduceLeDiff,g0, *]|simp only[jab]|apply And.intro|intro _
 refine jsk (l2:=[(5,0),(k,n)]) (jay _ _) HV.out.is HR.out (by omega) (by rw[jd8];rfl) (by simp) (fun v hv=>?_) ?_
 ·rcases List.mem_cons.1 hv with rfl|hv
  ·exact .inr (.inr (.inr ⟨rfl,rfl⟩))
  ·rw[List.mem_singleton.1 hv];exact HV1.out
 with_reducible repeat' first|simp only[zP,jaf,jaa,jad,jac,seval,Nat.reduceLeDiff,g0, *]|simp only[jab]|apply And.intro|intro _
 refine copyS_z HV.out (by omega) fun B1 B2 z X hX=>?_
 have hX:CopyX z X l (H.length+6):=by simpa using hX
 have e5:H.length+3+2=H.length+5:=rfl
 with_reducible repeat' first|simp only[zP,jaf,jaa,jad,jac,seval,Nat.reduceLeDiff,g0,s0,hL0,e5, *]|simp only[jab]|apply And.intro|intro _
 refine hcall_z (StIs.ofCopy hX) (by rw[List.length_map];omega) HL.out fun H' hS hB=>?_
 have b0:=hS.2.2.2.1
 have b1:=hB _ _ (jbf _ _ _)
 have b2:=hB _ _ (by rw[List.getElem?_append_right (by omega),Nat.add_sub_cancel_left];rfl:(H++_)[H.length+2]?=some (.box _))
 have k0:=jae b0
 have k1:=jae b1
 have k2:=jae b2
 have r0: ∀A X,(H'++(A::X))[H'.length]?=some A:=fun A X=>jay A X
 have t0: ∀A C X,(H'++(A::X)).set H'.length C=H'++(C::X):=fun A C X=>jbR A C X
 have r0': ∀Y,(H'++Y)[H.length]?=_:=fun Y=>blkX b0 Y
 have r1: ∀Y,(H'++Y)[H.length+1]?=_:=fun Y=>blkX b1 Y
 have q1: ∀B Y,(H'++Y).set (H.length+1) B=H'.set (H.length+1) B++Y:=fun B Y=>List.set_append_left _ _ k1
 have r2: ∀B Y,(H'.set (H.length+1) B++Y)[H.length+2]?=_:=fun B Y=>(List.getElem?_append_left (by simpa using k2)).trans ((List.getElem?_set_ne (by omega)).trans b2)
 have r9: ∀B A Y,(H'.set (H.length+1) B++(A::Y))[H'.length]?=some A:=fun B A Y=>by rw[List.getElem?_append_right (by simp)];simp
 have q2: ∀B C Y,(H'.set (H.length+1) B++Y).set (H.length+2) C=(H'.set (H.length+1) B).set (H.length+2) C++Y:=fun B C Y=>List.set_append_left _ _ (by simpa using k2)
 have z1: ∀B C Y,((H'.set (H.length+1) B).set (H.length+2) C++Y)[H.length+1]?=some B:=fun B C Y=>by rw[List.getElem?_append_left (by simpa using k1),List.getElem?_set_ne (by omega),List.getElem?_set_self k1]
 have z2: ∀B C Y,((H'.set (H.length+1) B).set (H.length+2) C++Y)[H.length+2]?=some C:=fun B C Y=>by rw[List.getElem?_append_left (by simpa using k2),List.getElem?_set_self (by simpa using k2)]
 have hb2: ∀B,(H'.set (H.length+1) B)[H.length+2]?=_:=fun B=>(List.getElem?_set_ne (by omega)).trans b2
 have fin: ∀B C D,Fin H (.tuple [.agg (s8 (.own (H.length+5) 0 0 1 false) false false),.agg [Z64 2,Z64 (l.length+1:Nat)],Z64 (-1)]) ((H'.set (H.length+1) (.box B)).set (H.length+2) (.box C)++[D]) K:=fun B C D=>
  StIs.fin (((hS.box b1 (by omega) (by omega)).box (hb2 _) (by omega) (by omega)).ext [D]) (by simp) (by simp[pure_vl,jbL]) rfl HK.out
 have ll:(l.map eVl).length=l.length:=List.length_map _
 clear hS hB b0 b1 b2 hb2 hX
 have LH:L H'.length=true:=by have:=hL (H'.length - H.length);rwa [Nat.add_sub_cancel' (by omega)] at this
 have n1:(H.length+1==H'.length)=false:=by simpa using Nat.ne_of_lt k1
 have n2:(H.length+2==H'.length)=false:=by simpa using Nat.ne_of_lt k2
 have n1':(H'.length==H.length+1)=false:=by simpa using Nat.ne_of_gt k1
 have n2':(H'.length==H.length+2)=false:=by simpa using Nat.ne_of_gt k2
 with_reducible repeat' first|simp only[zP,jaf,jaa,jad,jac,seval,Nat.reduceLeDiff,r0,t0,r0',r1,q1,r2,r9,q2,z1,z2,LH,n1,n2,n1',n2',ll,hL1,hL2,Bool.not_false,Bool.and_self,decide_true,decide_false, *]|simp only[jab]|apply And.intro|intro _
end
section
open Go Go.RowKit
variable {tb:List (FuncId×Bool)}{nd:Bool}{L:Nat→Bool}{H H0 H':ZH}{K:ZV→ZH→Prop}{p c d g m i:Nat}{cz vz:ZV}{ex e1 e2:Bool}{k n a b:Int}{rows:List (List ZV)}{l:List (Int×Int)}
set_option maxHeartbeats 4000000 in
theorem slot_z (hp:H[p]?=some (.box (s8 (.fz 4 ex [rowC vz]) e1 e2)))(hv:VzIs vz l)(hl:l.length≤100)(hi:i<l.length)(hK:K (.tuple [Z64 i,Z64 (-1)]) H):
  ZC (XS tb nd) (jal Tryz.prog) 65 [.agg [.ptr p 0],.agg [Z64 5,Z64 0],.agg [Z64 2,Z64 i]] L H K:=by
 refine ZC.enterL Gh.no (jai (by decide)) jrr (by simp) fun hL=>?_
 simp only[jkU,kkP]
 have g0: ∀A X,(H++(A::X))[H.length]?=some A:=fun A X=>jay A X
 have g1: ∀A B X,(H++(A::B::X))[H.length+1]?=some B:=fun A B X=>jbf A B X
 have g2: ∀A B C X,(H++(A::B::C::X))[H.length+2]?=some C:=fun A B C X=>by rw[List.getElem?_append_right (by omega),Nat.add_sub_cancel_left];rfl
 have GP:=Lib.hid (blkX hp)
 have gp:=blkX hp
 have hln:=hv.len
 have hw:decide ((0:Int)≤(i:Int)∧(i:Int)≤(l.length:Int) - 1)=true:=decide_eq_true (by omega)
 have nz: ∀H rows j o,nilZ H 1 (.fptr 4 rows j o)=some false:=fun _ _ _ _=>rfl
 have fin: ∀X,Fin H (.tuple [Z64 i,Z64 (-1)]) (H++X) K:=fun X=>Fin.trunc (Mods.ext H X) rfl (by rw[List.take_left];exact hK)
 have ww:IntKind.i64.wrap ((l.length:Int) - 1)=(l.length:Int) - 1:=IntWalk.i64_in _ (by omega)
 clear hK hp hv
 with_reducible repeat' first|simp only[zP,jaf,jaa,jad,jac,seval,Nat.reduceLeDiff,g0,g1,decide_true,decide_false, *]|simp only[jab]|apply And.intro|intro _
 refine off_z (GP.out _) ?_
 with_reducible repeat' first|simp only[zP,jaf,jaa,jad,jac,seval,Nat.reduceLeDiff,g0,g1,g2,gp,hln,nz,ww,decide_true,decide_false, *]|simp only[jab]|apply And.intro|intro _
 refine jqt ?_
 rw[hw]
 with_reducible repeat' first|simp only[zP,jaf,jaa,jad,jac,seval,Nat.reduceLeDiff,g0,g1,g2,gp,hln,nz,ww,decide_true,decide_false, *]|simp only[jab]|apply And.intro|intro _
set_option maxHeartbeats 4000000 in
theorem hget_z {exv:Bool}(hp:H[p]?=some (.box (s8 (.fz 4 ex [rowC (.fz 2 exv (l.map eVl))]) e1 e2)))(hl:l.length≤100)(hab:l[i]?=some (a,b))(hK:K (.tuple [.agg [Z64 a,Z64 b],Z64 (-1)]) H):
  ZC (XS tb nd) (jal Tryz.prog) 28 [.agg [.ptr p 0],.agg [Z64 5,Z64 0],.agg [Z64 2,Z64 i]] L H K:=by
 refine ZC.enterL Gh.no (jai (by decide)) jru (by simp) fun hL=>?_
 simp only[jkW,kkP]
 have g0: ∀A X,(H++(A::X))[H.length]?=some A:=fun A X=>jay A X
 have g1: ∀A B X,(H++(A::B::X))[H.length+1]?=some B:=fun A B X=>jbf A B X
 have g2: ∀A B C X,(H++(A::B::C::X))[H.length+2]?=some C:=fun A B C X=>by rw[List.getElem?_append_right (by omega),Nat.add_sub_cancel_left];rfl
 have g3: ∀A B E C X,(H++(A::B::E::C::X))[H.length+3]?=some C:=fun A B E C X=>by rw[List.getElem?_append_right (by omega),Nat.add_sub_cancel_left];rfl
 have s3: ∀A B E D C X,(H++(A::B::E::D::X)).set (H.length+3) C=H++(A::B::E::C::X):=fun A B E D C X=>by rw[List.set_append_right _ _ (by omega),Nat.add_sub_cancel_left];rfl
 have GP:=Lib.hid (blkX hp)
 have gp:=blkX hp
 have hL3:L (H.length+3)=true:=hL 3
 have hi0: ¬((i:Int)<0):=by omega
 have hi:i<l.length:=(List.getElem?_eq_some_iff.1 hab).1
 have hi1:i<(l.map eVl).length:=by rw[List.length_map];exact hi
 have hat:(l.map eVl)[i]?=some [Z64 a,Z64 b]:=by rw[List.getElem?_map,hab];rfl
 have ni:natZ (Z64 (i:Nat))=some i:=jfN
 have fin: ∀X,Fin H (.tuple [.agg [Z64 a,Z64 b],Z64 (-1)]) (H++X) K:=fun X=>Fin.trunc (Mods.ext H X) rfl (by rw[List.take_left];exact hK)
 clear hK hp hab
 with_reducible repeat' first|simp only[zP,jaf,jaa,jad,jac,seval,Nat.reduceLeDiff,g0,g1,g2,decide_true,decide_false, *]|simp only[jab]|apply And.intro|intro _
 refine slot_z (GP.out _) (.inr ⟨exv,rfl⟩) hl hi ?_
 with_reducible repeat' first|simp only[zP,jaf,jaa,jad,jac,seval,Nat.reduceLeDiff,g0,g1,g2,hi0,decide_true,decide_false, *]|simp only[jab]|apply And.intro|intro _
 refine off_z (GP.out _) ?_
 generalize l.map eVl=lm at hi1 hat gp GP
 with_reducible repeat' first|simp only[zP,jaf,jaa,jad,jac,seval,Nat.reduceLeDiff,g0,g1,g2,g3,s3,gp,hL3,hi1,hat,ni,decide_true,decide_false, *]|simp only[jab]|apply And.intro|intro _
set_option maxHeartbeats 4000000 in
theorem tget_z {exv:Bool}(hr: ∀v∈l,RV v.1 v.2)(hl:l.length≤100)(hab:l[i]?=some (a,b))(hK:K (.tuple [.agg [Z64 a,Z64 b],Z64 (-1)]) H):
  ZC (XS tb true) (jal Tryz.prog) 13 [.agg (s8 (.fz 4 ex [rowC (.fz 2 exv (l.map eVl))]) e1 e2),.agg [Z64 5,Z64 0],.agg [Z64 2,Z64 i]] L H K:=by
 refine ZC.enterL Gh.no (jai (by decide)) f_ts_get (by simp) fun hL=>?_
 simp only[jnM,kkP]
 have g0: ∀A X,(H++(A::X))[H.length]?=some A:=fun A X=>jay A X
 have g1: ∀A B X,(H++(A::B::X))[H.length+1]?=some B:=fun A B X=>jbf A B X
 have g2: ∀A B C X,(H++(A::B::C::X))[H.length+2]?=some C:=fun A B C X=>by rw[List.getElem?_append_right (by omega),Nat.add_sub_cancel_left];rfl
 have g3: ∀A B E C X,(H++(A::B::E::C::X))[H.length+3]?=some C:=fun A B E C X=>by rw[List.getElem?_append_right (by omega),Nat.add_sub_cancel_left];rfl
 have s3: ∀A B E D C X,(H++(A::B::E::D::X)).set (H.length+3) C=H++(A::B::E::C::X):=fun A B E D C X=>by rw[List.set_append_right _ _ (by omega),Nat.add_sub_cancel_left];rfl
 have hL3:L (H.length+3)=true:=hL 3
 have HR:=Lib.hid hr
 have hi:i<l.length:=(List.getElem?_eq_some_iff.1 hab).1
 have fin: ∀X,Fin H (.tuple [.agg [Z64 a,Z64 b],Z64 (-1)]) (H++X) K:=fun X=>Fin.trunc (Mods.ext H X) rfl (by rw[List.take_left];exact hK)
 have HAB:=Lib.hid hab
 clear hK hr hab
 with_reducible repeat' first|simp only[zP,jaf,jaa,jad,jac,seval,Nat.reduceLeDiff,g0,g1,g2,decide_true,decide_false, *]|simp only[jab]|apply And.intro|intro _
 refine jsk (l:=l) (vz:= .fz 2 exv (l.map eVl)) (l2:=[(5,0),(2,(i:Int))]) (jay _ _) (.inr ⟨exv,rfl⟩) HR.out hl (by rw[jd8];rfl) (by simp) (fun v hv=>?_) ?_
 ·rcases List.mem_cons.1 hv with rfl|hv
  ·exact .inr (.inr (.inr ⟨rfl,rfl⟩))
  ·rw[List.mem_singleton.1 hv];exact .inr (.inr (.inl ⟨rfl,by simp only;omega,by simp only;omega⟩))
 with_reducible repeat' first|simp only[zP,jaf,jaa,jad,jac,seval,Nat.reduceLeDiff,g0,g1,g2,decide_true,decide_false, *]|simp only[jab]|apply And.intro|intro _
 refine hget_z (jay _ _) hl HAB.out ?_
 with_reducible repeat' first|simp only[zP,jaf,jaa,jad,jac,seval,Nat.reduceLeDiff,g0,g1,g2,g3,s3,hL3,decide_true,decide_false, *]|simp only[jab]|apply And.intro|intro _
end
end Go.Proofs.YtjaahfncbechnaaGreatDoor
