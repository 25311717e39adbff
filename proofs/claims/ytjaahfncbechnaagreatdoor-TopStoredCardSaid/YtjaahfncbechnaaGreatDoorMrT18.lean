/-
  The store in ZM: Get, Set, Push, Make, Collect as they are offered.
-/
import Derived.Test.YtjaahfncbechnaaGreatDoorMrT17
set_option linter.unusedVariables false
set_option linter.unusedSimpArgs false
namespace Go.Proofs.YtjaahfncbechnaaGreatDoor
section
open Go Go.RowKit
variable {tb:List (FuncId×Bool)}{nd:Bool}{L:Nat→Bool}{H:ZH}{K:ZV→ZH→Prop}{p:Nat}{σ:Sg}{F AT:List Int}{HD:List Bool}{A:AS}{u:Nat}
noncomputable def atE (A:AS)(n i:Int):Int:=if jaZ A n≠0 then jaZ A n else if i<0∨((A.val n.toNat).length:Int)≤i then 1 else 0
noncomputable def getV (A:AS)(n i:Int):Int×Int:=if atE A n i=0 then (jaw ((A.val n.toNat).getD i.toNat 0),jau ((A.val n.toNat).getD i.toNat 0)) else (0,0)
theorem scell_z {m:Nat}(h:StAt H p σ F AT A.hd)(r:Rep A F AT)(hm:Rch A m)(hK:K (Z64 (m:Int)) H):ZC (XS tb nd) (jal Tryz.prog) 30 [.ptr p 0,Z64 (atP AT m)] L H K:=by
 refine ZC.enter Gh.no (jai (by decide)) jrJ (by simp) ?_
 simp only[jlb,kkP]
 have hb:=h.box
 have fin:=Fin.keep (H0:=H) hK
 have HH:=Lib.hid h
 have HR:=Lib.hid r
 have HM:=Lib.hid hm
 clear hK h r hm
 with_reducible repeat' first|simp only[zP,jaf,jaa,jad,jac,seval,Nat.reduceLeDiff,hb, *]|simp only[jab]|apply And.intro|intro _
 refine sindex_z (jhJ HH.out.ats (by simp)) (by rw[HR.out.la];have:=HR.out.ok.n100;omega) fun i hi=>?_
 have hml:m<AT.length:=by rw[HR.out.la];exact HM.out.lt HR.out.ok
 have hme:AT[m]?=some (atP AT m):=by rw[List.getElem?_eq_getElem hml];simp[atP,List.getD_eq_getElem?_getD,hml]
 have hc:=(HR.out.cell m HM.out).1
 have:i=(m:Int):=by
  rcases hi with⟨_,hno⟩|⟨k,rfl,hk⟩
  ·exact absurd (List.mem_of_getElem? hme) hno
  ·have he:atP AT k=atP AT m:=by unfold atP;rw[List.getD_eq_getElem?_getD,hk];rfl
   have:=HR.out.inj m k hc he.symm
   omega
 subst this
 clear hi hml hme hc hb
 with_reducible repeat' first|simp only[zP,jaf,jaa,jad,jac,seval,Nat.reduceLeDiff, *]|simp only[jab]|apply And.intro|intro _
set_option maxHeartbeats 4000000 in
theorem sget_z {n i:Int}(hib: -9223372036854775808≤i∧i≤9223372036854775807)(h:StO H p σ A u)(hK:K (.tuple [.agg [Z64 (getV A n i).1,Z64 (getV A n i).2],Z64 (atE A n i)]) H):ZC (XS tb nd) (jal Tryz.prog) 14 [.ptr p 0,Z64 n,Z64 i] L H K:=by
 refine ZC.enterL Gh.no (jai (by decide)) f_st_get (by simp) fun hLL=>?_
 simp only[jnP,kkP]
 obtain⟨F,AT,h1,h2,h3⟩:=h
 have g0: ∀A Z,(H++(A::Z))[H.length]?=some A:=fun A Z=>jay A Z
 have s0: ∀A C Z,(H++(A::Z)).set H.length C=H++(C::Z):=fun A C Z=>jbR A C Z
 have l0:L H.length=true:=hLL 0
 have fin: ∀X,Fin H (.tuple [.agg [Z64 (getV A n i).1,Z64 (getV A n i).2],Z64 (atE A n i)]) (H++X) K:=fun X=>Fin.truncT (Mods.ext H X) rfl (by rw[List.take_left];exact hK)
 have FN:=Lib.hid fin
 have HH:=Lib.hid h1
 have HR:=Lib.hid h2
 clear hK h3 h1 h2 fin
 with_reducible repeat' first|simp only[zP,jaf,jaa,jad,jac,seval,Nat.reduceLeDiff,g0,s0,l0, *]|simp only[jab]|apply And.intro|intro _
 refine jeq (HH.out.ext _) HR.out ?_
 by_cases h0:jaZ A n=0
 ·obtain⟨m,rfl,hm⟩:=jb3 h0
  obtain⟨a,hd,e1,e2,e3,e4,e5,e6,e7,e8,e9⟩:=jgo HH.out HR.out hm
  have hb: ∀X,(H++X)[p]?=some (.box [.own σ.w σ.gw 0 F.length false,.own σ.a σ.ga 0 AT.length false,.own σ.h σ.gh 0 A.hd.length false]):=fun X=>(HH.out.ext X).box
  have r5: ∀X,jbV (H++X) 1 m (.own σ.a σ.ga 0 AT.length false)=some (.eptr σ.a σ.ga m 0):=fun X=>a_el (HH.out.ext X) e9
  have r6: ∀X,ldZ (H++X) none (.eptr σ.a σ.ga m 0)=some (Z64 (a:Int)):=fun X=>by rw[←e1];exact a_ld (HH.out.ext X) e9
  have HX:=Lib.hid e2
  have HLG:=Lib.hid e4
  have HM:=Lib.hid hm
  have HE8:=Lib.hid e8
  have HE1:=Lib.hid e1
  by_cases c1:i<0
  ·have hE:atE A (m:Int) i=1:=by unfold atE;rw[if_neg (by rw[h0];simp),if_pos (.inl c1)]
   have fin:=FN.out
   unfold getV at fin
   simp only[hE] at fin
   rw[if_neg (by decide)] at fin
   rw[h0]
   clear e1 e2 e3 e4 e5 e6 e7 e8 e9 h0 hE
   with_reducible repeat' first|simp only[zP,jaf,jaa,jad,jac,seval,Nat.reduceLeDiff,hb,r5,r6,g0,s0,l0,c1, *]|simp only[jab]|apply And.intro|intro _
  ·obtain⟨j,rfl⟩:=Int.eq_ofNat_of_zero_le (show 0≤i by omega)
   by_cases c2:j<(A.val m).length
   ·have hE:atE A (m:Int) (j:Int)=0:=by unfold atE;rw[if_neg (by rw[h0];simp),if_neg (by rw[Int.toNat_natCast];omega)]
    obtain⟨w,hw⟩: ∃w,(A.val m)[j]?=some w:=⟨_,List.getElem?_eq_getElem c2⟩
    have hgd:(A.val m).getD j 0=w:=by rw[List.getD_eq_getElem?_getD,hw];rfl
    have fin:=FN.out
    unfold getV at fin
    simp only[hE,if_true,Int.toNat_natCast,hgd] at fin
    have hwm:=List.mem_of_getElem? hw
    obtain⟨v1,v2,v3⟩:=HR.out.ok.vr m hm w hwm
    have hcell:=(HR.out.cell m hm).2.2 j w hw
    rw[e1,Int.toNat_natCast] at hcell
    have hFj:=(List.getElem?_eq_some_iff.1 hcell).1
    have hFl:=HR.out.hl
    have r7: ∀X,jbV (H++X) 1 (a+1+j) (.own σ.w σ.gw 0 F.length false)=some (.eptr σ.w σ.gw (a+1+j) 0):=fun X=>w_el (HH.out.ext X) hFj
    have r8: ∀X,ldZ (H++X) none (.eptr σ.w σ.gw (a+1+j) 0)=some (.val (.int .u64 (mapP AT w))):=fun X=>w_ld (HH.out.ext X) hcell
    have c3: ¬(((A.val m).length:Int)≤(j:Int)):=by omega
    have w1:IntKind.i64.wrap ((a:Int)+1)=((a+1:Nat):Int):=by rw[IntWalk.i64_in _ (by omega)];omega
    have w2:IntKind.i64.wrap (((a+1:Nat):Int)+(j:Int))=((a+1+j:Nat):Int):=by rw[IntWalk.i64_in _ (by omega)];omega
    have hun:unE w=0:=by
     unfold jdZ at v2
     by_cases q:unE w=0
     ·exact q
     ·rw[if_neg q] at v2;omega
    have hW:=Lib.hid (HR.out.u _ (List.mem_of_getElem? hcell))
    have s3: ∀A B C Z,(H++(A::B::Z)).set (H.length+1) C=H++(A::C::Z):=fun A B C Z=>jdH A B C Z
    have g3: ∀A B Z,(H++(A::B::Z))[H.length+1]?=some B:=fun A B Z=>jbf A B Z
    have l1:L (H.length+1)=true:=hLL 1
    rw[h0]
    by_cases hp:jax w=true
    ·obtain⟨m2,em2,hm2,q1,q2,q3,q4⟩:=HR.out.ref hm hwm hp
     obtain⟨k1,k2⟩:unE w=0∧jaw w=5:=by simpa[jax] using hp
     have hfit:=(HR.out.fit q2).1
     obtain⟨b1,b2,b3,b4,b5,_⟩:=box5 (n:=atP AT m2) q2 (by omega)
     rw[←q1] at b1 b2 b3
     rw[k2,em2] at fin
     have HQ:=Lib.hid q2
     have HM2:=Lib.hid hm2
     obtain⟨W,hWW⟩: ∃W,W=mapP AT w:=⟨_,rfl⟩
     rw[←hWW] at r8 hW b1 b2 b3
     clear e1 e2 e3 e4 e5 e6 e7 e8 e9 h0 hE hw hgd hwm v1 v2 v3 hcell hFj hFl hun hp em2 hm2 q1 q2 q3 q4 k1 k2 hfit b4 b5 hWW c2
     with_reducible repeat' first|simp only[zP,jaf,jaa,jad,jac,seval,Nat.reduceLeDiff,hb,r5,r6,g0,s0,l0, *]|simp only[jab]|apply And.intro|intro _
     refine jbG (HH.out.ext _) HX.out ?_
     rw[HLG.out]
     with_reducible repeat' first|simp only[zP,jaf,jaa,jad,jac,seval,Nat.reduceLeDiff,hb,r5,r6,g0,s0,l0,c3,w1,w2,r7,r8, *]|simp only[jab]|apply And.intro|intro _
     refine jfG hW.out ?_
     rw[b1,b2,b3]
     clear b1 b2 b3
     with_reducible repeat' first|simp only[zP,jaf,jaa,jad,jac,seval,Nat.reduceLeDiff,g0,s0,l0,s3,g3,l1, *]|simp only[jab]|apply And.intro|intro _
     refine scell_z (HH.out.ext _) HR.out HM2.out ?_
     with_reducible repeat' first|simp only[zP,jaf,jaa,jad,jac,seval,Nat.reduceLeDiff,g0,s0,l0,s3,g3,l1, *]|simp only[jab]|apply And.intro|intro _
    ·have hpf:jax w=false:=by simpa using hp
     have k2: ¬jaw w=5:=fun q=>by simp[jax,hun,q] at hpf
     rw[jeg hpf] at r8 hW
     obtain⟨uk,huk⟩: ∃k,k=jaw w:=⟨_,rfl⟩
     obtain⟨un,hunn⟩: ∃k,k=jau w:=⟨_,rfl⟩
     rw[←huk] at k2 fin
     rw[←hunn] at fin
     have HU:=Lib.hid huk
     have HN:=Lib.hid hunn
     have HZ:=Lib.hid hun
     clear e1 e2 e3 e4 e5 e6 e7 e8 e9 h0 hE hw hgd hwm v1 v2 v3 hcell hFj hFl hun hp hpf c2 huk hunn
     with_reducible repeat' first|simp only[zP,jaf,jaa,jad,jac,seval,Nat.reduceLeDiff,hb,r5,r6,g0,s0,l0, *]|simp only[jab]|apply And.intro|intro _
     refine jbG (HH.out.ext _) HX.out ?_
     rw[HLG.out]
     with_reducible repeat' first|simp only[zP,jaf,jaa,jad,jac,seval,Nat.reduceLeDiff,hb,r5,r6,g0,s0,l0,c3,w1,w2,r7,r8, *]|simp only[jab]|apply And.intro|intro _
     refine jfG hW.out ?_
     rw[HZ.out,← HU.out,← HN.out]
     with_reducible repeat' first|simp only[zP,jaf,jaa,jad,jac,seval,Nat.reduceLeDiff,g0,s0,l0,s3,g3,l1,k2, *]|simp only[jab]|apply And.intro|intro _
   ·have hE:atE A (m:Int) (j:Int)=1:=by unfold atE;rw[if_neg (by rw[h0];simp),if_pos (by rw[Int.toNat_natCast];omega)]
    have fin:=FN.out
    unfold getV at fin
    simp only[hE] at fin
    rw[if_neg (by decide)] at fin
    rw[h0]
    have c3:((A.val m).length:Int)≤(j:Int):=by omega
    clear e1 e2 e3 e4 e5 e6 e7 e8 e9 h0 hE c2
    with_reducible repeat' first|simp only[zP,jaf,jaa,jad,jac,seval,Nat.reduceLeDiff,hb,r5,r6,g0,s0,l0, *]|simp only[jab]|apply And.intro|intro _
    refine jbG (HH.out.ext _) HX.out ?_
    rw[HLG.out]
    with_reducible repeat' first|simp only[zP,jaf,jaa,jad,jac,seval,Nat.reduceLeDiff,g0,s0,l0,c3, *]|simp only[jab]|apply And.intro|intro _
 ·have hE:atE A n i=jaZ A n:=by unfold atE;rw[if_pos h0]
  have fin:=FN.out
  unfold getV at fin
  rw[hE,if_neg h0] at fin
  clear hE
  with_reducible repeat' first|simp only[zP,jaf,jaa,jad,jac,seval,Nat.reduceLeDiff,g0,s0,l0,h0, *]|simp only[jab]|apply And.intro|intro _
end
section
open Go Go.RowKit
variable {tb:List (FuncId×Bool)}{nd:Bool}{L:Nat→Bool}{H:ZH}{K:ZV→ZH→Prop}{p:Nat}{σ:Sg}{F AT:List Int}{HD:List Bool}{A:AS}{u:Nat}
theorem Rep.size_le (h:Rep A F AT):size A≤F.length:=by
 classical
 obtain⟨Q,hQ⟩: ∃Q,Q=(List.range A.mks.length).filter fun n=>decide (Rch A n):=⟨_,rfl⟩
 have hQm: ∀n,n∈Q↔Rch A n:=fun n=>by
  rw[hQ,List.mem_filter,List.mem_range,decide_eq_true_eq]
  exact⟨fun h=>h.2,fun hn=>⟨hn.lt h.ok,hn⟩⟩
 have hQn:(Q.map fun n=>(atP AT n).toNat).Nodup:=by
  have:Q.Nodup:=by rw[hQ];exact (List.nodup_range).filter _
  rw[List.nodup_iff_pairwise_ne] at this
  rw[List.nodup_iff_pairwise_ne,List.pairwise_map]
  refine this.imp_of_mem fun {a b} ha hb hne e=>hne ?_
  have h1:=(h.cell a ((hQm a).1 ha)).1
  have h2:=(h.cell b ((hQm b).1 hb)).1
  exact h.inj a b h1 (by omega)
 have hs:=jgi (Go.Proofs.YtjaahfncbechnaaGreatDoor.osz F) hQn (l2:=objs F 0) fun y hy=>by
  obtain⟨n,hn,rfl⟩:=List.mem_map.1 hy
  exact h.obj' (h.cell n ((hQm n).1 hn)).1
 have ho:=jnB F _ 0 (Nat.le_refl _)
 have e:(Q.map fun n=>(atP AT n).toNat).map (Go.Proofs.YtjaahfncbechnaaGreatDoor.osz F)=Q.map fun n=>1+(A.val n).length:=by
  rw[List.map_map]
  exact List.map_congr_left fun n hn=>h.osz ((hQm n).1 hn)
 rw[e] at hs
 have he:=h.he
 unfold size
 rw[←hQ]
 omega
theorem jop (h:StO H p σ A u)(hL: ∀i,L i=true)(hK: ∀H' σ',StO H' p σ' A (size A)→FrS p σ σ' H H'→size A≤u→K (Z64 ((u:Int) - (size A:Int))) H'):ZC (XS tb nd) (jal Tryz.prog) 9 [.ptr p 0] L H K:=by
 obtain⟨F,AT,h1,h2,rfl⟩:=h
 exact jqM h1 h2 hL fun H' σ' F' AT' q1 q2 q3 q4 q5=>hK H' σ' ⟨F',AT',q1,q2,q3⟩ q5 q4
noncomputable def pushE (A:AS)(n k v:Int):Int:=if jaZ A n≠0 then jaZ A n else if jci A k v≠0 then jci A k v else if 100≤(A.val n.toNat).length∨2000<size A+1 then 2 else 0
noncomputable def jfw (A:AS)(n k v:Int):AS:=if pushE A n k v=0 then putV A n.toNat (A.val n.toNat++[boxW k v]) else A
set_option maxHeartbeats 4000000 in
theorem sPush_z {n k v:Int}(hv: -9223372036854775808≤v∧v≤9223372036854775807)(h:StO H p σ A u)(hL: ∀i,L i=true)(hK: ∀H' σ' u',StO H' p σ' (jfw A n k v) u'→FrS p σ σ' H H'→K (Z64 (pushE A n k v)) H'):ZC (XS tb true) (jal Tryz.prog) 11 [.ptr p 0,Z64 n,.agg [Z64 k,Z64 v]] L H K:=by
 refine ZC.enter Gh.no (jai (by decide)) jrK (by simp) ?_
 simp only[jlc,kkP]
 have h9:=h
 obtain⟨F,AT,h1,h2,h3⟩:=h
 have g0: ∀A Z,(H++(A::Z))[H.length]?=some A:=fun A Z=>jay A Z
 have HH:=Lib.hid h1
 have HR:=Lib.hid h2
 have H9:=Lib.hid h9
 have HV:=Lib.hid hv
 have HK:=Lib.hid hK
 have same:jfw A n k v=A→ ∀X,Fin H (Z64 (pushE A n k v)) (H++X) K:=fun hs X=>Fin.trunc (Mods.ext H X) rfl (by rw[List.take_left];exact HK.out H σ u (by rw[hs];exact H9.out) FrS.refl)
 have SM:=Lib.hid same
 clear hK h3 h1 h2 h9 same hv
 with_reducible repeat' first|simp only[zP,jaf,jaa,jad,jac,seval,Nat.reduceLeDiff,g0, *]|simp only[jab]|apply And.intro|intro _
 refine jeq (HH.out.ext _) HR.out ?_
 by_cases h0:jaZ A n=0
 ·obtain⟨m,rfl,hm⟩:=jb3 h0
  rw[h0]
  with_reducible repeat' first|simp only[zP,jaf,jaa,jad,jac,seval,Nat.reduceLeDiff,g0, *]|simp only[jab]|apply And.intro|intro _
  refine jnk HV.out (HH.out.ext _) HR.out fun w hw0=>?_
  by_cases hbx:jci A k v=0
  ·obtain⟨a,hd,e1,e2,e3,e4,e5,e6,e7,e8,e9⟩:=jgo HH.out HR.out hm
   have hb: ∀X,(H++X)[p]?=some (.box [.own σ.w σ.gw 0 F.length false,.own σ.a σ.ga 0 AT.length false,.own σ.h σ.gh 0 A.hd.length false]):=fun X=>(HH.out.ext X).box
   have r5: ∀X,jbV (H++X) 1 m (.own σ.a σ.ga 0 AT.length false)=some (.eptr σ.a σ.ga m 0):=fun X=>a_el (HH.out.ext X) e9
   have r6: ∀X,ldZ (H++X) none (.eptr σ.a σ.ga m 0)=some (Z64 (a:Int)):=fun X=>by rw[←e1];exact a_ld (HH.out.ext X) e9
   have HX:=Lib.hid e2
   have HLG:=Lib.hid e4
   rw[hbx]
   by_cases c1:100≤(A.val m).length
   ·have hE:pushE A (m:Int) k v=2:=by unfold pushE;rw[if_neg (by rw[h0];simp),if_neg (by rw[hbx];simp),if_pos (.inl (by rw[Int.toNat_natCast];exact c1))]
    have fin:=SM.out (by unfold jfw;rw[if_neg (by rw[hE];decide)])
    rw[hE] at fin
    have c2:(100:Int)≤((A.val m).length:Int):=by omega
    clear e1 e2 e3 e4 e5 e6 e7 e8 e9 h0 hE hw0 hbx hm c1
    with_reducible repeat' first|simp only[zP,jaf,jaa,jad,jac,seval,Nat.reduceLeDiff,hb,r5,r6,g0, *]|simp only[jab]|apply And.intro|intro _
    refine jbG (HH.out.ext _) HX.out ?_
    rw[HLG.out]
    with_reducible repeat' first|simp only[zP,jaf,jaa,jad,jac,seval,Nat.reduceLeDiff,g0,c2, *]|simp only[jab]|apply And.intro|intro _
   ·have c2: ¬((100:Int)≤((A.val m).length:Int)):=by omega
    have HM:=Lib.hid hm
    have HC1:=Lib.hid c1
    have HBX:=Lib.hid hbx
    have H0:=Lib.hid h0
    have hsz:=HR.out.size_le
    clear e1 e2 e3 e4 e5 e6 e7 e8 e9 h0 hw0 hbx hm c1
    with_reducible repeat' first|simp only[zP,jaf,jaa,jad,jac,seval,Nat.reduceLeDiff,hb,r5,r6,g0, *]|simp only[jab]|apply And.intro|intro _
    refine jbG (HH.out.ext _) HX.out ?_
    rw[HLG.out]
    with_reducible repeat' first|simp only[zP,jaf,jaa,jad,jac,seval,Nat.reduceLeDiff,g0,c2, *]|simp only[jab]|apply And.intro|intro _
    refine jnh (HH.out.ext _) HR.out ?_
    have hFl:=HR.out.hl
    have w1:IntKind.i64.wrap ((size A:Int)+1)=((size A+1:Nat):Int):=by rw[IntWalk.i64_in _ (by omega)];omega
    by_cases c3:2000<size A+1
    ·have hE:pushE A (m:Int) k v=2:=by unfold pushE;rw[if_neg (by rw[H0.out];simp),if_neg (by rw[HBX.out];simp),if_pos (.inr c3)]
     have fin:=SM.out (by unfold jfw;rw[if_neg (by rw[hE];decide)])
     rw[hE] at fin
     have c4:(2000:Int)<((size A+1:Nat):Int):=by omega
     clear hE hsz hFl c3
     with_reducible repeat' first|simp only[zP,jaf,jaa,jad,jac,seval,Nat.reduceLeDiff,g0,w1,c4, *]|simp only[jab]|apply And.intro|intro _
    ·have hE:pushE A (m:Int) k v=0:=by unfold pushE;rw[if_neg (by rw[H0.out];simp),if_neg (by rw[HBX.out];simp),if_neg (by rw[Int.toNat_natCast];have:=HC1.out;omega)]
     have hS:jfw A (m:Int) k v=putV A m (A.val m++[boxW k v]):=by unfold jfw;rw[if_pos hE,Int.toNat_natCast]
     have c4: ¬((2000:Int)<((size A+1:Nat):Int)):=by omega
     have HE:=Lib.hid hE
     have HS:=Lib.hid hS
     have H3:=Lib.hid c3
     clear hE hS hsz hFl c3
     with_reducible repeat' first|simp only[zP,jaf,jaa,jad,jac,seval,Nat.reduceLeDiff,g0,w1,c4, *]|simp only[jab]|apply And.intro|intro _
     refine spush_z HV.out (HH.out.ext _) HR.out HM.out (by have:=HC1.out;omega) (by have:=H3.out;omega) HBX.out hL fun H' σ' F' AT' q1 q2 q3=>?_
     have fin:=Fin.keep (H0:=H) (HK.out H' σ' F'.length (by rw[HS.out];exact⟨F',AT',q1,q2,rfl⟩) q3.pre)
     rw[HE.out] at fin
     clear q1 q2 q3 hb r5 r6
     with_reducible repeat' first|simp only[zP,jaf,jaa,jad,jac,seval,Nat.reduceLeDiff, *]|simp only[jab]|apply And.intro|intro _
  ·have hE:pushE A (m:Int) k v=jci A k v:=by unfold pushE;rw[if_neg (by rw[h0];simp),if_pos hbx]
   have fin:=SM.out (by unfold jfw;rw[if_neg (by rw[hE];exact hbx)])
   rw[hE] at fin
   clear hE hw0 h0
   with_reducible repeat' first|simp only[zP,jaf,jaa,jad,jac,seval,Nat.reduceLeDiff,g0,hbx, *]|simp only[jab]|apply And.intro|intro _
 ·have hE:pushE A n k v=jaZ A n:=by unfold pushE;rw[if_pos h0]
  have fin:=SM.out (by unfold jfw;rw[if_neg (by rw[hE];exact h0)])
  rw[hE] at fin
  clear hE
  with_reducible repeat' first|simp only[zP,jaf,jaa,jad,jac,seval,Nat.reduceLeDiff,g0,h0, *]|simp only[jab]|apply And.intro|intro _
noncomputable def jeA (A:AS)(mk:Int):Int:=if mk<0∨2147483648≤mk then 1 else if 100≤A.mks.length∨2000<size A+1 then 2 else 0
noncomputable def jku (A:AS)(mk:Int):Int:=if jeA A mk=0 then (A.mks.length:Int) else 0
noncomputable def jkt (A:AS)(mk:Int):AS:=if jeA A mk=0 then jdY A mk else A
abbrev stHa (H:ZH)(p:Nat)(σ:Sg)(F AT:List Int)(HD:List Bool)(x:Int):ZH:=(H.set σ.a (.grow (σ.ga+1) 1 ((AT++[x]).map eI))).set p (.box [.own σ.w σ.gw 0 F.length false,.own σ.a (σ.ga+1) 0 (AT.length+1) false,.own σ.h σ.gh 0 HD.length false])
theorem StAt.growA (h:StAt H p σ F AT HD)(x:Int):StAt (stHa H p σ F AT HD x) p ⟨σ.w,σ.gw,σ.a,σ.ga+1,σ.h,σ.gh⟩ F (AT++[x]) HD∧FrS p σ ⟨σ.w,σ.gw,σ.a,σ.ga+1,σ.h,σ.gh⟩ H (stHa H p σ F AT HD x):=by
 have hp:=jae h.box
 refine⟨⟨by rw[List.getElem?_set_self (by simpa using hp),List.length_append];rfl,by rw[List.getElem?_set_ne h.pw,List.getElem?_set_ne (Ne.symm h.wa)];exact h.ws,by rw[List.getElem?_set_ne h.pa,List.getElem?_set_self (jae h.ats)],by rw[List.getElem?_set_ne h.ph,List.getElem?_set_ne h.ah];exact h.hs,h.wa,h.wh,h.ah⟩,⟨by simp,fun i B hi hw ha hh hb=>by rw[List.getElem?_set_ne (Ne.symm hi),List.getElem?_set_ne (Ne.symm ha)];exact hb,.inl rfl,rfl,rfl⟩⟩
abbrev stHh (H:ZH)(p:Nat)(σ:Sg)(F AT:List Int)(HD:List Bool)(x:Bool):ZH:=(H.set σ.h (.grow (σ.gh+1) 1 ((HD++[x]).map eB))).set p (.box [.own σ.w σ.gw 0 F.length false,.own σ.a σ.ga 0 AT.length false,.own σ.h (σ.gh+1) 0 (HD.length+1) false])
theorem StAt.growH (h:StAt H p σ F AT HD)(x:Bool):StAt (stHh H p σ F AT HD x) p ⟨σ.w,σ.gw,σ.a,σ.ga,σ.h,σ.gh+1⟩ F AT (HD++[x])∧FrS p σ ⟨σ.w,σ.gw,σ.a,σ.ga,σ.h,σ.gh+1⟩ H (stHh H p σ F AT HD x):=by
 have hp:=jae h.box
 refine⟨⟨by rw[List.getElem?_set_self (by simpa using hp),List.length_append];rfl,by rw[List.getElem?_set_ne h.pw,List.getElem?_set_ne (Ne.symm h.wh)];exact h.ws,by rw[List.getElem?_set_ne h.pa,List.getElem?_set_ne (Ne.symm h.ah)];exact h.ats,by rw[List.getElem?_set_ne h.ph,List.getElem?_set_self (jae h.hs)],h.wa,h.wh,h.ah⟩,⟨by simp,fun i B hi hw ha hh hb=>by rw[List.getElem?_set_ne (Ne.symm hi),List.getElem?_set_ne (Ne.symm hh)];exact hb,.inl rfl,rfl,rfl⟩⟩
theorem sshl (a:Int):binV .shl (.int .u64 a) (.int .u64 32)=some (.int .u64 (IntKind.u64.wrap (a*2 ^ 32))):=by simp[binV,IntKind.bits]
def jnQ:jar:= .seq (.ops [kkM 54 0,kkM 55 0,kkI 56 (.nilCheck (.tmp 55)),kkA 57 0 56,kkL 58 57,kkM 59 1,kkI 60 (.conv .u64 (.tmp 59)),kkI 61 (.bin .shl (.tmp 60) (.av (.val (.int .u64 32)))),kkI 62 (.lits 1 1 [(.val (.int .u64 0))] [(0,1,(.tmp 61))]),kkI 63 (.append 1 8 (.tmp 58) (.tmp 62)),kkI 64 (.nilCheck (.tmp 54)),kkA 65 0 64,⟨none,.store 1 (.tmp 65) (.tmp 63),none,true⟩]) (.seq (.ops [kkM 66 0,kkI 67 (.nilCheck (.tmp 66)),kkA 68 1 67,kkL 69 68,kkI 70 (.len (.tmp 69)),kkI 71 (.bin .sub (.tmp 70) (kkV 1)),kkM 4 71,kkI 5 (.mv (kkV 0))]) (.ret))
def jnR:jar:= .seq (.ops [kkM 45 0,kkM 46 0,kkI 47 (.nilCheck (.tmp 46)),kkA 48 2 47,kkL 49 48,kkI 50 (.lits 1 1 [(.val (.bool false))] [(0,1,(.av (.val (.bool true))))]),kkI 51 (.append 1 1 (.tmp 49) (.tmp 50)),kkI 52 (.nilCheck (.tmp 45)),kkA 53 2 52,⟨none,.store 1 (.tmp 53) (.tmp 51),none,true⟩]) jnQ
def jsc:jar:= .seq (.opsD [kkM 31 0,kkM 32 0,kkI 33 (.nilCheck (.tmp 32)),kkA 34 1 33,kkL 35 34,kkM 36 0,kkI 37 (.nilCheck (.tmp 36)),kkA 38 0 37,kkL 39 38,kkI 40 (.len (.tmp 39)),kkI 41 (.lits 1 1 [kkZ 0] [(0,1,(.tmp 40))]),kkI 42 (.append 1 8 (.tmp 35) (.tmp 41)),kkI 43 (.nilCheck (.tmp 31)),kkA 44 1 43,⟨none,.store 1 (.tmp 44) (.tmp 42),none,true⟩]) jnR
def jk6:jar:= .seq (.ops [kkI 4 (.mv (kkV 0)),kkI 5 (.mv (kkV 0))]) (.seq (.block 0 (.seq (.ops [kkM 7 1,kkI 8 (.bin .lss (.tmp 7) (kkV 0)),kkM 9 8,⟨(some 10),.mv (.tmp 1),(some (9,false)),true⟩,⟨(some 11),.bin .geq (.tmp 10) (kkV 2147483648),(some (9,false)),true⟩,kkI 12 (.pick (.tmp 9) (.av (.val (.bool true))) (.tmp 11)),kkM 6 12]) (.cond (.tmp 6) (.seq (.ops [kkI 4 (.mv (kkV 0)),kkI 5 (.mv (kkV 1))]) (.ret)) (.seq (.ops [kkM 14 0,kkI 15 (.nilCheck (.tmp 14)),kkA 16 1 15,kkL 17 16,kkI 18 (.len (.tmp 17)),kkI 19 (.bin .geq (.tmp 18) (kkV 100)),kkM 20 19,⟨(some 21),.mv (.tmp 0),(some (20,false)),true⟩,⟨(some 22),.call (kkF 16) [(.tmp 21)],(some (20,false)),true⟩,⟨(some 23),.bin .add (.tmp 22) (kkV 1),(some (20,false)),true⟩,⟨(some 24),.bin .gtr (.tmp 23) (kkV 2000),(some (20,false)),true⟩,kkI 25 (.pick (.tmp 20) (.av (.val (.bool true))) (.tmp 24)),kkM 26 25,⟨(some 27),.mv (.tmp 0),(some (26,false)),true⟩,⟨(some 28),.call (kkF 17) [(.tmp 27),(kkV 1)],(some (26,false)),true⟩,⟨(some 29),.un .not (.tmp 28),(some (26,false)),true⟩,kkI 30 (.pick (.tmp 26) (.av (.val (.bool true))) (.tmp 29)),kkM 13 30]) (.cond (.tmp 13) (.seq (.ops [kkI 4 (.mv (kkV 0)),kkI 5 (.mv (kkV 2))]) (.ret)) (.skip)))))) jsc)
theorem jrE:jal Tryz.prog 6=some ⟨72,jk6,[.tmp 4,.tmp 5]⟩:=by kernel_rfl
theorem smT1_z {S:ZS}{KK:jas→ZS→ZH→Prop}{mk:Int}(h:StAt H p σ F AT HD)(hl:F.length≤2000)(ha:AT.length≤100)(hL: ∀i,L i=true)(h0:S 0= .ptr p 0)(h1:S 1=Z64 mk)
  (hK: ∀S' H' σ',S' 0= .ptr p 0→S' 1=Z64 mk→StAt H' p σ' F (AT++[(F.length:Int)]) HD→FrS p σ σ' H H'→zW (XS tb true) (jal Tryz.prog) Gh.no L jnR S' H' KK):zW (XS tb true) (jal Tryz.prog) Gh.no L jsc S H KK:=by
 simp only[jsc,kkP]
 obtain⟨g1,g1f⟩:=h.growA (F.length:Int)
 have b1:=h.box
 have s1:=h.ats
 have l1:lenZ H (.own σ.w σ.gw 0 F.length false)=some F.length:=by rw[jaY];exact⟨_,_,h.ws,rfl⟩
 have hbs: ∀B,(H.set σ.a B)[p]?=some (.box [.own σ.w σ.gw 0 F.length false,.own σ.a σ.ga 0 AT.length false,.own σ.h σ.gh 0 HD.length false]):=fun B=>by
  rw[List.getElem?_set_ne (Ne.symm h.pa)];exact h.box
 have hap:appZ L H 1 8 [[Z64 (F.length:Int)]] (.own σ.a σ.ga 0 AT.length false)=some (.own σ.a (σ.ga+1) 0 (AT.length+1) false,H.set σ.a (.grow (σ.ga+1) 1 ((AT++[(F.length:Int)]).map eI))):=by
  rw[jdL]
  refine⟨_,h.ats,by simp,by simp;unfold ja5;omega,hL _,rfl,?_⟩
  rw[List.drop_zero,List.take_of_length_le (by simp),List.map_append];rfl
 have HK:=Lib.hid (fun S' a b=>hK S' _ _ a b g1 g1f)
 have hpl:=jae h.box
 clear hK g1 g1f h s1 hl ha
 with_reducible repeat' first|simp only[zP,jaf,jaa,jad,jac,seval,Nat.reduceLeDiff,b1,l1,hap,hbs,h0,h1,hL,hpl, *]|simp only[jab]|apply And.intro|intro _
 all_goals exact HK.out _ (by simp[zupd,h0]) (by simp[zupd,h1])
theorem smT2_z {S:ZS}{KK:jas→ZS→ZH→Prop}{mk:Int}(h:StAt H p σ F AT HD)(ha:HD.length≤100)(hL: ∀i,L i=true)(h0:S 0= .ptr p 0)(h1:S 1=Z64 mk)
  (hK: ∀S' H' σ',S' 0= .ptr p 0→S' 1=Z64 mk→StAt H' p σ' F AT (HD++[true])→FrS p σ σ' H H'→zW (XS tb true) (jal Tryz.prog) Gh.no L jnQ S' H' KK):zW (XS tb true) (jal Tryz.prog) Gh.no L jnR S H KK:=by
 simp only[jnR,kkP]
 obtain⟨g1,g1f⟩:=h.growH true
 have b1:=h.box
 have hbs: ∀B,(H.set σ.h B)[p]?=some (.box [.own σ.w σ.gw 0 F.length false,.own σ.a σ.ga 0 AT.length false,.own σ.h σ.gh 0 HD.length false]):=fun B=>by
  rw[List.getElem?_set_ne (Ne.symm h.ph)];exact h.box
 have hap:appZ L H 1 1 [[ZBo true]] (.own σ.h σ.gh 0 HD.length false)=some (.own σ.h (σ.gh+1) 0 (HD.length+1) false,H.set σ.h (.grow (σ.gh+1) 1 ((HD++[true]).map eB))):=by
  rw[jdL]
  refine⟨_,h.hs,by simp,by simp;unfold ja5;omega,hL _,rfl,?_⟩
  rw[List.drop_zero,List.take_of_length_le (by simp),List.map_append];rfl
 have HK:=Lib.hid (fun S' a b=>hK S' _ _ a b g1 g1f)
 have hpl:=jae h.box
 clear hK g1 g1f h ha
 with_reducible repeat' first|simp only[zP,jaf,jaa,jad,jac,seval,Nat.reduceLeDiff,b1,hap,hbs,h0,h1,hL,hpl, *]|simp only[jab]|apply And.intro|intro _
 all_goals exact HK.out _ (by simp[zupd,h0]) (by simp[zupd,h1])
theorem smT3_z {S:ZS}{KK:jas→ZS→ZH→Prop}{mk:Int}(hm:0≤mk∧mk<2147483648)(h:StAt H p σ F AT HD)(hl:F.length≤2000)(ha:AT.length≤200∧0<AT.length)(hL: ∀i,L i=true)(h0:S 0= .ptr p 0)(h1:S 1=Z64 mk)
  (hK: ∀S' H' σ',S' 4=Z64 ((AT.length:Int) - 1)→S' 5=Z64 0→StAt H' p σ' (F++[mk*4294967296]) AT HD→FrS p σ σ' H H'→KK .ret S' H'):zW (XS tb true) (jal Tryz.prog) Gh.no L jnQ S H KK:=by
 simp only[jnQ,kkP]
 obtain⟨F2,hF2⟩: ∃F2,F2=F++[mk*4294967296]:=⟨_,rfl⟩
 rw[←hF2] at hK
 have hl2:F2.length=F.length+1:=by rw[hF2];simp
 obtain⟨g1,g1f⟩:=h.growW (σ.gw+1) F2
 have b1:=h.box
 have b2:=g1.box
 have hbs: ∀B,(H.set σ.w B)[p]?=some (.box [.own σ.w σ.gw 0 F.length false,.own σ.a σ.ga 0 AT.length false,.own σ.h σ.gh 0 HD.length false]):=fun B=>by
  rw[List.getElem?_set_ne (Ne.symm h.pw)];exact h.box
 have hap:appZ L H 1 8 [[.val (.int .u64 (mk*4294967296))]] (.own σ.w σ.gw 0 F.length false)=some (.own σ.w (σ.gw+1) 0 F2.length false,H.set σ.w (.grow (σ.gw+1) 1 (F2.map eU))):=by
  rw[jdL]
  refine⟨_,h.ws,by simp,by simp;unfold ja5;omega,hL _,by rw[hl2];rfl,?_⟩
  rw[List.drop_zero,List.take_of_length_le (by simp),hF2,List.map_append];rfl
 have l4: ∀B,lenZ ((H.set σ.w B).set p (.box [.own σ.w (σ.gw+1) 0 F2.length false,.own σ.a σ.ga 0 AT.length false,.own σ.h σ.gh 0 HD.length false])) (.own σ.a σ.ga 0 AT.length false)=some AT.length:=fun B=>by
  rw[jaY];exact⟨_,_,by rw[List.getElem?_set_ne h.pa,List.getElem?_set_ne h.wa];exact h.ats,rfl⟩
 have HK:=Lib.hid (fun S' a b=>hK S' _ _ a b g1 g1f)
 have hpl:=jae h.box
 have w1:IntKind.u64.wrap mk=mk:=by simp only[IntKind.wrap,IntKind.bits,IntKind.signed];simp;omega
 have w2:IntKind.u64.wrap (mk*2 ^ 32)=mk*4294967296:=by simp only[IntKind.wrap,IntKind.bits,IntKind.signed];simp;omega
 have w2b:IntKind.u64.wrap (mk*4294967296)=mk*4294967296:=w2
 have w3:IntKind.i64.wrap ((AT.length:Int) - 1)=(AT.length:Int) - 1:=IntWalk.i64_in _ (by omega)
 clear hK g1 g1f h hl ha hm hF2 hl2
 with_reducible repeat' first|simp only[zP,jaf,jaa,jad,jac,seval,Nat.reduceLeDiff,b1,b2,hap,hbs,h0,h1,hL,hpl,sshl,w1,w2,w2b,w3,l4, *]|simp only[jab]|apply And.intro|intro _
 all_goals exact HK.out _ (by simp[zupd]) (by simp[zupd])
set_option maxHeartbeats 8000000 in
theorem jqN {mk:Int}(h:StO H p σ A u)(hL: ∀i,L i=true)(hK: ∀H' σ' u',StO H' p σ' (jkt A mk) u'→FrS p σ σ' H H'→(jeA A mk=0→u+1≤2000→u'=u+1)→K (.tuple [Z64 (jku A mk),Z64 (jeA A mk)]) H'):ZC (XS tb true) (jal Tryz.prog) 6 [.ptr p 0,Z64 mk] L H K:=by
 refine ZC.enter Gh.no (jai (by decide)) jrE (by simp) ?_
 simp only[jk6,kkP]
 have h9:=h
 obtain⟨F,AT,h1,h2,h3⟩:=h
 have hb:=h1.box
 have hlA:lenZ H (.own σ.a σ.ga 0 AT.length false)=some AT.length:=by rw[jaY];exact⟨_,_,h1.ats,rfl⟩
 have HH:=Lib.hid h1
 have HR:=Lib.hid h2
 have H9:=Lib.hid h9
 have HU:=Lib.hid h3
 have HK:=Lib.hid hK
 have same: ∀e,jeA A mk=e→e≠0→Fin H (.tuple [Z64 0,Z64 e]) H K:=fun e he h0=>by
  have hS:jkt A mk=A:=by unfold jkt;rw[if_neg (by rw[he];exact h0)]
  have hN:jku A mk=0:=by unfold jku;rw[if_neg (by rw[he];exact h0)]
  have:=HK.out H σ u (by rw[hS];exact H9.out) FrS.refl (fun h _=>absurd (he.symm.trans h) h0)
  rw[hN,he] at this
  exact Fin.keep this
 have SM:=Lib.hid same
 clear hK h3 h1 h2 h9 same
 by_cases c1:mk<0
 ·have fin:=SM.out 1 (by unfold jeA;rw[if_pos (.inl c1)]) (by decide)
  with_reducible repeat' first|simp only[zP,jaf,jaa,jad,jac,seval,Nat.reduceLeDiff,c1, *]|simp only[jab]|apply And.intro|intro _
 ·by_cases c2:2147483648≤mk
  ·have fin:=SM.out 1 (by unfold jeA;rw[if_pos (.inr c2)]) (by decide)
   with_reducible repeat' first|simp only[zP,jaf,jaa,jad,jac,seval,Nat.reduceLeDiff,c1,c2, *]|simp only[jab]|apply And.intro|intro _
  ·have hA100:=HR.out.ok.n100
   have hla:=HR.out.la
   rw[hla] at hb hlA
   by_cases c3:100≤A.mks.length
   ·have fin:=SM.out 2 (by unfold jeA;rw[if_neg (by omega),if_pos (.inl c3)]) (by decide)
    have c4:(100:Int)≤(A.mks.length:Int):=by omega
    clear hA100 hla c3
    with_reducible repeat' first|simp only[zP,jaf,jaa,jad,jac,seval,Nat.reduceLeDiff,c1,c2,hb,hlA,c4, *]|simp only[jab]|apply And.intro|intro _
   ·have c4: ¬((100:Int)≤(A.mks.length:Int)):=by omega
    have C3:=Lib.hid c3
    have HLA:=Lib.hid hla
    clear hA100 hla c3
    with_reducible repeat' first|simp only[zP,jaf,jaa,jad,jac,seval,Nat.reduceLeDiff,c1,c2,hb,hlA,c4, *]|simp only[jab]|apply And.intro|intro _
    refine jnh HH.out HR.out ?_
    have hsz:=HR.out.size_le
    have hFl:=HR.out.hl
    have w1:IntKind.i64.wrap ((size A:Int)+1)=((size A+1:Nat):Int):=by rw[IntWalk.i64_in _ (by omega)];omega
    by_cases c5:2000<size A+1
    ·have fin:=SM.out 2 (by unfold jeA;rw[if_neg (by omega),if_pos (.inr c5)]) (by decide)
     have c6:(2000:Int)<((size A+1:Nat):Int):=by omega
     clear hsz hFl c5
     with_reducible repeat' first|simp only[zP,jaf,jaa,jad,jac,seval,Nat.reduceLeDiff,w1,c6, *]|simp only[jab]|apply And.intro|intro _
    ·have c6: ¬((2000:Int)<((size A+1:Nat):Int)):=by omega
     have C5:=Lib.hid c5
     have hE:jeA A mk=0:=by unfold jeA;rw[if_neg (by omega),if_neg (by omega)]
     have hS:jkt A mk=jdY A mk:=by unfold jkt;rw[if_pos hE]
     have hN:jku A mk=(A.mks.length:Int):=by unfold jku;rw[if_pos hE]
     have HE:=Lib.hid hE
     have HS:=Lib.hid hS
     have HN:=Lib.hid hN
     have C1:=Lib.hid c1
     have C2:=Lib.hid c2
     clear hsz hFl c5 hE hS hN c1 c2
     with_reducible repeat' first|simp only[zP,jaf,jaa,jad,jac,seval,Nat.reduceLeDiff,w1,c6, *]|simp only[jab]|apply And.intro|intro _
     refine jqA (n:=1) HH.out HR.out hL (by omega) fun H1 σ1 F1 AT1 q1 q2 q3 q3b q4=>?_
     have c7:F1.length+1≤2000:=by
      by_cases q:F1.length+1≤2000
      ·exact q
      ·have:=q3 q;have:=C5.out;omega
     rw[decide_eq_true c7]
     have hr:=q2.make (mark:=mk) (by have:=C1.out;have:=C2.out;omega) c7 (by have:=C3.out;omega)
     have hla1:AT1.length=A.mks.length:=q2.la
     have hlh1:A.hd.length=A.mks.length:=q2.ok.lh
     have Q1:=Lib.hid q1
     have Q4:=Lib.hid q4
     have R:=Lib.hid hr
     have LA:=Lib.hid hla1
     have LH:=Lib.hid hlh1
     have C7:=Lib.hid c7
     have Q3:=Lib.hid q3b
     clear q1 q2 q3 q3b q4 hr hla1 hlh1 c7 hb hlA w1 c6 c4
     with_reducible repeat' first|simp only[zP,jaf,jaa,jad,jac,seval,Nat.reduceLeDiff, *]|simp only[jab]|apply And.intro|intro _
     refine smT1_z (mk:=mk) Q1.out (by have:=C7.out;omega) (by have:=LA.out;have:=C3.out;omega) hL rfl rfl fun S1 H2 σ2 a1 a2 t1 f1=>?_
     refine smT2_z (mk:=mk) t1 (by have:=LH.out;have:=C3.out;omega) hL a1 a2 fun S2 H3 σ3 a3 a4 t2 f2=>?_
     refine smT3_z (mk:=mk) (by have:=C1.out;have:=C2.out;omega) t2 (by have:=C7.out;omega) (by rw[List.length_append];have:=LA.out;have:=C3.out;simp;omega) hL a3 a4 fun S3 H4 σ4 a5 a6 t3 f3=>?_
     have hFn:=HK.out H4 σ4 (F1++[mk*4294967296]).length (by rw[HS.out];exact⟨_,_,t3,R.out,rfl⟩) (Q4.out.trans (f1.trans (f2.trans f3))) (fun _ h=>by rw[List.length_append,Q3.out (by have:=HU.out;omega)];have:=HU.out;simp;omega)
     rw[HN.out,HE.out] at hFn
     have e5:S3 4=Z64 (A.mks.length:Int):=by rw[a5,List.length_append,← LA.out];congr 2;simp
     rw[←e5,← a6] at hFn
     first|exact Fin.keep hFn|exact⟨.inr rfl,Fin.keep hFn⟩|exact⟨.inr rfl,_,rfl,Fin.keep hFn⟩
end
end Go.Proofs.YtjaahfncbechnaaGreatDoor
