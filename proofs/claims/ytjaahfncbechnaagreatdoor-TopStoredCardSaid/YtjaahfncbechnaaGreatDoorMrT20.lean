/-
  cells in ZM, of a state of one list: what its values are.
-/
import Derived.Test.YtjaahfncbechnaaGreatDoorMrT13
import Derived.Test.YtjaahfncbechnaaGreatDoorMrT14
import Derived.Test.YtjaahfncbechnaaGreatDoorMrT19
set_option linter.unusedVariables false
set_option linter.unusedSimpArgs false
namespace Go.Proofs.YtjaahfncbechnaaGreatDoor
section
open Go Go.RowKit
variable {tb:List (FuncId×Bool)}{nd:Bool}{L:Nat→Bool}{H:ZH}{K:ZV→ZH→Prop}{p:Nat}{cz vz:ZV}{e1 e2:Bool}{k n:Int}
abbrev eVl (v:Int×Int):List ZV:=[Z64 v.1,Z64 v.2]
def RV (k n:Int):Prop:=(k=0∧n=0)∨(k=1∧(n=0∨n=1))∨(k=2∧ -2147483648≤n∧n≤2147483647)∨(k=5∧n=0)
abbrev rowC (vz:ZV):List ZV:=[Z64 2,Z64 0,vz,.nil]
abbrev s8 (cz:ZV)(e1 e2:Bool):List ZV:=[cz,.fz 2 e1 jhG,.fz 1 e2 jbn,.nil,.nil,.nil,Z64 0,Z64 0]
def CzAt (H:ZH)(cz vz:ZV):Prop:=(∃ex,cz= .fz 4 ex [rowC vz])∨ ∃i g ex,cz= .own i g 0 1 ex∧H[i]?=some (.grow g 4 [rowC vz])
theorem CzAt.ext (h:CzAt H cz vz)(X:ZH):CzAt (H++X) cz vz:=by
 rcases h with h|⟨i,g,ex,e,hi⟩
 ·exact .inl h
 ·exact .inr ⟨i,g,ex,e,by rw[List.getElem?_append_left (jae hi)];exact hi⟩
theorem CzAt.rows (h:CzAt H cz vz):jbi H 4 cz=some [rowC vz]:=by
 rcases h with⟨ex,rfl⟩|⟨i,g,ex,rfl,hi⟩
 ·simp[jbi]
 ·rw[jc7];exact⟨_,hi,by simp,rfl⟩
theorem jhz {lo hi:Int}(hK:K (ZBo (decide (lo≤n∧n≤hi))) H):ZC (XS tb nd) (jal Tryz.prog) 136 [Z64 n,Z64 lo,Z64 hi] L H K:=by
 refine ZC.enter Gh.no (jai (by decide)) jkE (by simp) ?_
 simp only[jfn,kkP]
 have HK:=Lib.hid hK
 clear hK
 by_cases h1:lo≤n
 ·by_cases h2:n≤hi
  ·have fin:=Fin.keep (H0:=H) HK.out
   rw[decide_eq_true ⟨h1,h2⟩] at fin
   with_reducible repeat' first|simp only[zP,jaf,jaa,jad,jac,seval,Nat.reduceLeDiff,h1,h2, *]|simp only[jab]|apply And.intro|intro _
  ·have fin:=Fin.keep (H0:=H) HK.out
   rw[decide_eq_false (fun h=>h2 h.2)] at fin
   with_reducible repeat' first|simp only[zP,jaf,jaa,jad,jac,seval,Nat.reduceLeDiff,h1,h2, *]|simp only[jab]|apply And.intro|intro _
 ·have fin:=Fin.keep (H0:=H) HK.out
  rw[decide_eq_false (fun h=>h1 h.1)] at fin
  with_reducible repeat' first|simp only[zP,jaf,jaa,jad,jac,seval,Nat.reduceLeDiff,h1, *]|simp only[jab]|apply And.intro|intro _
theorem jqt {lo hi:Int}(hK:K (ZBo (decide (lo≤n∧n≤hi))) H):ZC (XS tb nd) (jal Tryz.prog) 84 [Z64 n,Z64 lo,Z64 hi] L H K:=by
 refine ZC.enter Gh.no (jai (by decide)) jlV (by simp) ?_
 simp only[jgT,kkP]
 have HK:=Lib.hid hK
 clear hK
 by_cases h1:lo≤n
 ·by_cases h2:n≤hi
  ·have fin:=Fin.keep (H0:=H) HK.out
   rw[decide_eq_true ⟨h1,h2⟩] at fin
   with_reducible repeat' first|simp only[zP,jaf,jaa,jad,jac,seval,Nat.reduceLeDiff,h1,h2, *]|simp only[jab]|apply And.intro|intro _
  ·have fin:=Fin.keep (H0:=H) HK.out
   rw[decide_eq_false (fun h=>h2 h.2)] at fin
   with_reducible repeat' first|simp only[zP,jaf,jaa,jad,jac,seval,Nat.reduceLeDiff,h1,h2, *]|simp only[jab]|apply And.intro|intro _
 ·have fin:=Fin.keep (H0:=H) HK.out
  rw[decide_eq_false (fun h=>h1 h.1)] at fin
  with_reducible repeat' first|simp only[zP,jaf,jaa,jad,jac,seval,Nat.reduceLeDiff,h1, *]|simp only[jab]|apply And.intro|intro _
set_option maxHeartbeats 1000000 in
theorem jiQ (hv:RV k n)(hK:K (ZBo true) H):ZC (XS tb nd) (jal Tryz.prog) 119 [.agg [Z64 k,Z64 n]] L H K:=by
 refine ZC.enterL Gh.no (jai (by decide)) joI (by simp) fun hL=>?_
 simp only[jig,kkP]
 have g0: ∀A X,(H++(A::X))[H.length]?=some A:=fun A X=>jay A X
 have fin: ∀X,Fin H (ZBo true) (H++X) K:=fun X=>Fin.trunc (Mods.ext H X) rfl (by rw[List.take_left];exact hK)
 clear hK
 rcases hv with⟨rfl,rfl⟩|⟨rfl,hn⟩|⟨rfl,h1,h2⟩|⟨rfl,rfl⟩
 ·with_reducible repeat' first|simp only[zP,jaf,jaa,jad,jac,seval,Nat.reduceLeDiff,g0,decide_true,decide_false, *]|simp only[jab]|apply And.intro|intro _
 ·with_reducible repeat' first|simp only[zP,jaf,jaa,jad,jac,seval,Nat.reduceLeDiff,g0,decide_true,decide_false, *]|simp only[jab]|apply And.intro|intro _
  refine jhz ?_
  rw[decide_eq_true (by omega)]
  with_reducible repeat' first|simp only[zP,jaf,jaa,jad,jac,seval,Nat.reduceLeDiff,g0,decide_true,decide_false, *]|simp only[jab]|apply And.intro|intro _
 ·with_reducible repeat' first|simp only[zP,jaf,jaa,jad,jac,seval,Nat.reduceLeDiff,g0,decide_true,decide_false, *]|simp only[jab]|apply And.intro|intro _
  refine jhz ?_
  rw[decide_eq_true (by omega)]
  with_reducible repeat' first|simp only[zP,jaf,jaa,jad,jac,seval,Nat.reduceLeDiff,g0,decide_true,decide_false, *]|simp only[jab]|apply And.intro|intro _
 ·with_reducible repeat' first|simp only[zP,jaf,jaa,jad,jac,seval,Nat.reduceLeDiff,g0,decide_true,decide_false, *]|simp only[jab]|apply And.intro|intro _
end
section
open Go Go.RowKit
variable {tb:List (FuncId×Bool)}{nd:Bool}{L:Nat→Bool}{H:ZH}{K:ZV→ZH→Prop}{p:Nat}{cz vz:ZV}{e1 e2:Bool}{k n:Int}
theorem blkX {q:Nat}{B:ZB}(hp:H[q]?=some B)(X:ZH):(H++X)[q]?=some B:=by rw[List.getElem?_append_left (jae hp)];exact hp
set_option maxHeartbeats 1000000 in
theorem jlU (hp:H[p]?=some (.box (s8 cz e1 e2)))(hc:CzAt H cz vz)(hK:K (ZBo true) H):ZC (XS tb nd) (jal Tryz.prog) 81 [.ptr p 0,.agg [Z64 5,Z64 0]] L H K:=by
 refine ZC.enterL Gh.no (jai (by decide)) jkH (by simp) fun hL=>?_
 simp only[jgY,kkP]
 have g0: ∀A X,(H++(A::X))[H.length]?=some A:=fun A X=>jay A X
 have fin: ∀X,Fin H (ZBo true) (H++X) K:=fun X=>Fin.trunc (Mods.ext H X) rfl (by rw[List.take_left];exact hK)
 have gp:=blkX hp
 have h01:(0:Int)<((1:Nat):Int):=by decide
 have n0:natZ (Z64 0)=some 0:=rfl
 have n3:binV .neq (.int .i64 2) (.int .i64 0)=some (.bool true):=rfl
 clear hK hp
 rcases hc with⟨ex,rfl⟩|⟨i,g,ex,rfl,hi⟩
 ·with_reducible repeat' first|simp only[zP,jaf,jaa,jad,jac,seval,Nat.reduceLeDiff,g0,decide_true,decide_false, *]|simp only[jab]|apply And.intro|intro _
  refine jiQ (.inr (.inr (.inr ⟨rfl,rfl⟩))) ?_
  with_reducible repeat' first|simp only[zP,jaf,jaa,jad,jac,seval,Nat.reduceLeDiff,g0,gp,h01,n0,n3,decide_true,decide_false, *]|simp only[jab]|apply And.intro|intro _
 ·have gi:=blkX hi
  clear hi
  with_reducible repeat' first|simp only[zP,jaf,jaa,jad,jac,seval,Nat.reduceLeDiff,g0,decide_true,decide_false, *]|simp only[jab]|apply And.intro|intro _
  refine jiQ (.inr (.inr (.inr ⟨rfl,rfl⟩))) ?_
  with_reducible repeat' first|simp only[zP,jaf,jaa,jad,jac,seval,Nat.reduceLeDiff,g0,gp,gi,h01,n0,n3,decide_true,decide_false, *]|simp only[jab]|apply And.intro|intro _
set_option maxHeartbeats 1000000 in
theorem fits_z (hp:H[p]?=some (.box (s8 cz e1 e2)))(hc:CzAt H cz vz)(hv:RV k n)(hK:K (ZBo true) H):ZC (XS tb nd) (jal Tryz.prog) 81 [.ptr p 0,.agg [Z64 k,Z64 n]] L H K:=by
 by_cases h5:k=5
 ·have hn:n=0:=by unfold RV at hv;omega
  subst h5;subst hn
  exact jlU hp hc hK
 ·refine ZC.enterL Gh.no (jai (by decide)) jkH (by simp) fun hL=>?_
  simp only[jgY,kkP]
  have g0: ∀A X,(H++(A::X))[H.length]?=some A:=fun A X=>jay A X
  have fin: ∀X,Fin H (ZBo true) (H++X) K:=fun X=>Fin.trunc (Mods.ext H X) rfl (by rw[List.take_left];exact hK)
  have h4: ¬k=4:=by unfold RV at hv;omega
  have HV:=Lib.hid hv
  clear hK hp hc hv
  with_reducible repeat' first|simp only[zP,jaf,jaa,jad,jac,seval,Nat.reduceLeDiff,g0,decide_true,decide_false, *]|simp only[jab]|apply And.intro|intro _
  refine jiQ HV.out ?_
  with_reducible repeat' first|simp only[zP,jaf,jaa,jad,jac,seval,Nat.reduceLeDiff,g0,h4,h5,decide_true,decide_false, *]|simp only[jab]|apply And.intro|intro _
theorem all1_z {q:Nat}(hq:H[q]?=some (.box [.ptr p 0]))(hp:H[p]?=some (.box (s8 cz e1 e2)))(hc:CzAt H cz vz)(hv:RV k n)(hK:K (ZBo false) H):ZC (XS tb nd) (jal Tryz.prog) 86 [.agg [Z64 k,Z64 n],.ptr q 0] L H K:=by
 refine ZC.enterL Gh.no (jai (by decide)) jrz (by simp) fun hL=>?_
 simp only[jk1,kkP]
 have g0: ∀A X,(H++(A::X))[H.length]?=some A:=fun A X=>jay A X
 have fin: ∀X,Fin H (ZBo false) (H++X) K:=fun X=>Fin.trunc (Mods.ext H X) rfl (by rw[List.take_left];exact hK)
 have gq:=blkX hq
 have gp:=Lib.hid (blkX hp)
 have HV:=Lib.hid hv
 have GC:=Lib.hid hc
 clear hK hc hv hq hp
 with_reducible repeat' first|simp only[zP,jaf,jaa,jad,jac,seval,Nat.reduceLeDiff,g0,gq, *]|simp only[jab]|apply And.intro|intro _
 refine fits_z (gp.out _) (GC.out.ext _) HV.out ?_
 with_reducible repeat' first|simp only[zP,jaf,jaa,jad,jac,seval,Nat.reduceLeDiff,g0, *]|simp only[jab]|apply And.intro|intro _
theorem jh3:jal Tryz.prog 118=some ⟨19,c_if 2 (some 2),[.tmp 4]⟩:=by kernel_rfl
theorem jh5:jal Tryz.prog 79=some ⟨9,c_cf 118,[.tmp 4]⟩:=by kernel_rfl
theorem jgM:jal Tryz.prog 113=some ⟨19,c_if 4 (some 4),[.tmp 4]⟩:=by kernel_rfl
theorem jgN:jal Tryz.prog 76=some ⟨9,c_cf 113,[.tmp 4]⟩:=by kernel_rfl
theorem jkF:jal Tryz.prog 112=some ⟨19,c_if 2 (some 2),[.tmp 4]⟩:=by kernel_rfl
theorem jkI:jal Tryz.prog 74=some ⟨9,c_cf 112,[.tmp 4]⟩:=by kernel_rfl
theorem joL:jal Tryz.prog 120=some ⟨19,c_if 3 (some 3),[.tmp 4]⟩:=by kernel_rfl
theorem joP:jal Tryz.prog 82=some ⟨9,c_cf 120,[.tmp 4]⟩:=by kernel_rfl
theorem jkG:jal Tryz.prog 135=some ⟨19,c_if 8 (some 8),[.tmp 4]⟩:=by kernel_rfl
theorem jkJ:jal Tryz.prog 116=some ⟨9,c_cf 135,[.tmp 4]⟩:=by kernel_rfl
theorem joK:jal Tryz.prog 133=some ⟨19,c_if 1 none,[.tmp 4]⟩:=by kernel_rfl
theorem joO:jal Tryz.prog 107=some ⟨9,c_cf 133,[.tmp 4]⟩:=by kernel_rfl
theorem cfn_z {g g2:FuncId}{k:Nat}{m:Option Nat}{f:FuncId}{caps:List ZV}(hF2:jal Tryz.prog g2=some ⟨9,c_cf g,[.tmp 4]⟩)(hF:jal Tryz.prog g=some ⟨19,c_if k m,[.tmp 4]⟩)(h2:g2≠15∧g2≠29)(h:g≠15∧g≠29)(hK:K (ZBo false) H):
  ZC (XS tb nd) (jal Tryz.prog) g2 [.nil,.func f caps] L H K:=
 jpa (α:=Unit) (e:=fun _=>[]) (arg:=fun _=> .nil) (l:=[]) (p:=fun _=>false) hF2 (jai (z:= .nil) (zs:=[.nil]) h2) hF (jai (z:= .nil) (zs:=[.nil]) h) (fun m h=>by cases h) rfl (by simp) (fun m h=>by cases h) hK
set_option maxHeartbeats 1000000 in
theorem tall_z {z:ZV}{l:List (Int×Int)}(hp:H[p]?=some (.box (s8 cz e1 e2)))(hc:CzAt H cz vz)(hz: ∀X,jbi (H++X) 2 z=some (l.map eVl))(hl:l.length≤1000)(hv: ∀v∈l,RV v.1 v.2)(hK:K (ZBo true) H):ZC (XS tb nd) (jal Tryz.prog) 41 [.ptr p 0,z] L H K:=by
 refine ZC.enterL Gh.no (jai (by decide)) f_ts_all (by simp) fun hL=>?_
 simp only[jnN,kkP]
 have g0: ∀A X,(H++(A::X))[H.length]?=some A:=fun A X=>jay A X
 have fin: ∀X,Fin H (ZBo true) (H++X) K:=fun X=>Fin.trunc (Mods.ext H X) rfl (by rw[List.take_left];exact hK)
 have gp:=Lib.hid (blkX hp)
 have HV:=Lib.hid hv
 have HZ:=Lib.hid hz
 have GC:=Lib.hid hc
 have HL:=Lib.hid hl
 clear hK hc hv hp hz hl
 with_reducible repeat' first|simp only[zP,jaf,jaa,jad,jac,seval,Nat.reduceLeDiff,g0, *]|simp only[jab]|apply And.intro|intro _
 refine jpa (α:=Int×Int) (e:=eVl) (arg:=fun v=> .agg (eVl v)) (l:=l) (p:=fun _=>false) jh5 (jai (z:= .nil) (zs:=[.nil]) (by decide)) jh3 (jai (z:= .nil) (zs:=[.nil]) (by decide)) (fun m h=>rfl) (HZ.out _) (by have:=HL.out;omega) (fun v hv K hK=>all1_z (jay _ _) (gp.out _) (GC.out.ext _) (HV.out v hv) hK) ?_
 have hn:(l.any fun _=>false)=false:=by simp
 rw[hn]
 with_reducible repeat' first|simp only[zP,jaf,jaa,jad,jac,seval,Nat.reduceLeDiff,g0, *]|simp only[jab]|apply And.intro|intro _
end
section
open Go Go.RowKit
variable {tb:List (FuncId×Bool)}{nd:Bool}{L:Nat→Bool}{H:ZH}{K:ZV→ZH→Prop}{p:Nat}{cz vz:ZV}{e1 e2:Bool}{k n:Int}{l:List (Int×Int)}
def VzIs (vz:ZV)(l:List (Int×Int)):Prop:=(vz= .nil∧l=[])∨ ∃ex,vz= .fz 2 ex (l.map eVl)
theorem VzIs.rows (h:VzIs vz l)(H:ZH):jbi H 2 vz=some (l.map eVl):=by
 rcases h with⟨rfl,rfl⟩|⟨ex,rfl⟩
 ·rfl
 ·simp[jbi]
theorem VzIs.len (h:VzIs vz l)(H:ZH):lenZ H vz=some l.length:=by have:=jb7 (h.rows H);rwa [List.length_map] at this
theorem VzIs.cell (h:VzIs vz l):vz.isCell=true:=by
 rcases h with⟨rfl,rfl⟩|⟨ex,rfl⟩<;>rfl
theorem large1_z {s:ByteArray}(hs:s.size≤200)(hK:K (ZBo false) H):ZC (XS tb nd) (jal Tryz.prog) 108 [.val (.string s)] L H K:=by
 refine ZC.enterL Gh.no (jai (by decide)) jlY (by simp) fun hL=>?_
 simp only[jgW,kkP]
 have fin:=Fin.keep (H0:=H) hK
 have h1: ¬((200:Int)<(s.size:Int)):=by omega
 clear hK
 with_reducible repeat' first|simp only[zP,jaf,jaa,jad,jac,seval,Nat.reduceLeDiff,h1, *]|simp only[jab]|apply And.intro|intro _
 exact⟨s,rfl,by rw[decide_eq_false h1];exact fin⟩
theorem large2_z (hv:VzIs vz l)(hl:l.length≤100)(hK:K (ZBo false) H):ZC (XS tb nd) (jal Tryz.prog) 109 [.agg (rowC vz)] L H K:=by
 refine ZC.enterL Gh.no (jai (by decide)) jlX (by simp) fun hL=>?_
 simp only[jgV,kkP]
 have g0: ∀A X,(H++(A::X))[H.length]?=some A:=fun A X=>jay A X
 have fin: ∀X,Fin H (ZBo false) (H++X) K:=fun X=>Fin.trunc (Mods.ext H X) rfl (by rw[List.take_left];exact hK)
 have h1: ¬((100:Int)<(l.length:Int)):=by omega
 have hln:=hv.len
 have hic:=hv.cell
 clear hK hv
 with_reducible repeat' first|simp only[zP,jaf,jaa,jad,jac,seval,Nat.reduceLeDiff,g0,h1,hln,hic,Bool.and_true,decide_true,decide_false, *]|simp only[jab]|apply And.intro|intro _
theorem check1_z (hp:H[p]?=some (.box (s8 cz e1 e2)))(hK:K (ZBo false) H):ZC (XS tb nd) (jal Tryz.prog) 75 [.agg [Z64 (-1),Z64 (-1)],.ptr p 0] L H K:=by
 refine ZC.enterL Gh.no (jai (by decide)) jl1 (by simp) fun hL=>?_
 simp only[jg0,kkP]
 have g0: ∀A X,(H++(A::X))[H.length]?=some A:=fun A X=>jay A X
 have fin: ∀X,Fin H (ZBo false) (H++X) K:=fun X=>Fin.trunc (Mods.ext H X) rfl (by rw[List.take_left];exact hK)
 have gp:=blkX hp
 have hw: ∀H,lenZ H (.fz 1 e2 jbn)=some 19:=fun H=>by simp[lenZ,jbt]
 have h1: ¬(((19:Nat):Int)≤(-1:Int)):=by decide
 clear hK
 with_reducible repeat' first|simp only[zP,jaf,jaa,jad,jac,seval,Nat.reduceLeDiff,g0,gp,hw,h1,decide_true,decide_false, *]|simp only[jab]|apply And.intro|intro _
set_option maxHeartbeats 1000000 in
theorem cell_z (hp:H[p]?=some (.box (s8 cz e1 e2)))(hc:CzAt H cz vz)(hv:VzIs vz l)(hr: ∀v∈l,RV v.1 v.2)(hl:l.length≤100)(hK:K (ZBo true) H):ZC (XS tb nd) (jal Tryz.prog) 78 [.ptr p 0,.agg (rowC vz)] L H K:=by
 refine ZC.enterL Gh.no (jai (by decide)) jrx (by simp) fun hL=>?_
 simp only[jkZ,kkP]
 have g0: ∀A X,(H++(A::X))[H.length]?=some A:=fun A X=>jay A X
 have g1: ∀A B X,(H++(A::B::X))[H.length+1]?=some B:=fun A B X=>jbf A B X
 have fin: ∀X,Fin H (ZBo true) (H++X) K:=fun X=>Fin.trunc (Mods.ext H X) rfl (by rw[List.take_left];exact hK)
 have gp:=Lib.hid (blkX hp)
 have HR:=Lib.hid hr
 have GC:=Lib.hid hc
 have HV:=Lib.hid hv
 have hln:=hv.len
 have hic:=hv.cell
 have c00:((0:Nat):Int)=0:=rfl
 clear hK hp hc hr hv
 with_reducible repeat' first|simp only[zP,jaf,jaa,jad,jac,seval,Nat.reduceLeDiff,g0,g1,c00,hln,hic,Bool.and_true,decide_true,decide_false, *]|simp only[jab]|apply And.intro|intro _
 refine tall_z (gp.out _) (GC.out.ext _) (fun X=>HV.out.rows _) (by omega) HR.out ?_
 with_reducible repeat' first|simp only[zP,jaf,jaa,jad,jac,seval,Nat.reduceLeDiff,g0,g1,c00,hln,hic,Bool.and_true,decide_true,decide_false, *]|simp only[jab]|apply And.intro|intro _
 refine cfn_z jkJ jkG (by decide) (by decide) ?_
 with_reducible repeat' first|simp only[zP,jaf,jaa,jad,jac,seval,Nat.reduceLeDiff,g0,g1,decide_true,decide_false, *]|simp only[jab]|apply And.intro|intro _
theorem check2_z (hp:H[p]?=some (.box (s8 cz e1 e2)))(hc:CzAt H cz vz)(hv:VzIs vz l)(hr: ∀v∈l,RV v.1 v.2)(hl:l.length≤100)(hK:K (ZBo false) H):ZC (XS tb nd) (jal Tryz.prog) 77 [.agg (rowC vz),.ptr p 0] L H K:=by
 refine ZC.enterL Gh.no (jai (by decide)) jl0 (by simp) fun hL=>?_
 simp only[jgZ,kkP]
 have g0: ∀A X,(H++(A::X))[H.length]?=some A:=fun A X=>jay A X
 have fin: ∀X,Fin H (ZBo false) (H++X) K:=fun X=>Fin.trunc (Mods.ext H X) rfl (by rw[List.take_left];exact hK)
 have gp:=Lib.hid (blkX hp)
 have HR:=Lib.hid hr
 have GC:=Lib.hid hc
 have HV:=Lib.hid hv
 have hic:=hv.cell
 clear hK hp hc hr hv
 with_reducible repeat' first|simp only[zP,jaf,jaa,jad,jac,seval,Nat.reduceLeDiff,g0,hic,Bool.and_true, *]|simp only[jab]|apply And.intro|intro _
 refine cell_z (gp.out _) (GC.out.ext _) HV.out HR.out hl ?_
 with_reducible repeat' first|simp only[zP,jaf,jaa,jad,jac,seval,Nat.reduceLeDiff,g0, *]|simp only[jab]|apply And.intro|intro _
set_option maxHeartbeats 1000000 in
theorem tlarge_z (hp:H[p]?=some (.box (s8 cz e1 e2)))(hc:CzAt H cz vz)(hv:VzIs vz l)(hl:l.length≤100)(hK:K (ZBo false) H):ZC (XS tb nd) (jal Tryz.prog) 71 [.ptr p 0] L H K:=by
 refine ZC.enterL Gh.no (jai (by decide)) joJ (by simp) fun hL=>?_
 simp only[jih,kkP]
 have fin:=Fin.keep (H0:=H) hK
 have hcl:lenZ H cz=some 1:=by have:=jb7 hc.rows;simpa using this
 have hw: ∀H,lenZ H (.fz 1 e2 jbn)=some 19:=fun H=>by simp[lenZ,jbt]
 have h1: ¬((300:Int)<((1:Nat):Int)):=by decide
 have h2: ¬((300:Int)<((19:Nat):Int)):=by decide
 have h3: ¬((200:Int)<((0:Nat):Int)):=by decide
 have h4: ¬((100:Int)<((0:Nat):Int)):=by decide
 have GC:=Lib.hid hc
 have HV:=Lib.hid hv
 have HL:=Lib.hid hl
 clear hK hv hl hc
 with_reducible repeat' first|simp only[zP,jaf,jaa,jad,jac,seval,Nat.reduceLeDiff,hp,hcl,hw,h1,h2,h3,h4,decide_true,decide_false, *]|simp only[jab]|apply And.intro|intro _
 refine jpa (α := Nat) (e := fun k => [.val (.string (jbX k))]) (arg := fun k => .val (.string (jbX k))) (l := List.range 19) (p := fun _ => false) joO (jai (z := .nil) (zs := [.nil]) (by decide)) joK (jai (z := .nil) (zs := [.nil]) (by decide)) (fun m h => rfl) (by
  rw[jd8]
  congr 1) (by simp) (fun v hv K hK => large1_z (by
   by_cases h:v<19
   ·have: ∀k:_root_.Fin 19,(jbX k.val).size≤200:=by decide+kernel
    exact this ⟨v,h⟩
   ·exact absurd (List.mem_range.1 hv) h) hK) ?_
 have hn:((List.range 19).any fun _=>false)=false:=by simp
 rw[hn]
 with_reducible repeat' first|simp only[zP,jaf,jaa,jad,jac,seval,Nat.reduceLeDiff,hp,decide_true,decide_false, *]|simp only[jab]|apply And.intro|intro _
 refine jpa (α:=Unit) (e:=fun _=>rowC vz) (arg:=fun _=> .agg (rowC vz)) (l:=[()]) (p:=fun _=>false) jgN (jai (z:= .nil) (zs:=[.nil]) (by decide)) jgM (jai (z:= .nil) (zs:=[.nil]) (by decide)) (fun m h=>rfl) GC.out.rows (by simp) (fun v hv K hK=>large2_z HV.out HL.out hK) ?_
 have hn:([()].any fun _=>false)=false:=rfl
 rw[hn]
 with_reducible repeat' first|simp only[zP,jaf,jaa,jad,jac,seval,Nat.reduceLeDiff, *]|simp only[jab]|apply And.intro|intro _
set_option maxHeartbeats 1000000 in
theorem tcheck_z {ex:Bool}(hv:VzIs vz l)(hr: ∀v∈l,RV v.1 v.2)(hl:l.length≤100)(hK:K (Z64 0) H):ZC (XS tb true) (jal Tryz.prog) 40 [.agg (s8 (.fz 4 ex [rowC vz]) e1 e2)] L H K:=by
 refine ZC.enterL Gh.no (jai (by decide)) joN (by simp) fun hL=>?_
 simp only[jij,kkP]
 have g0: ∀A X,(H++(A::X))[H.length]?=some A:=fun A X=>jay A X
 have fin: ∀X,Fin H (Z64 0) (H++X) K:=fun X=>Fin.trunc (Mods.ext H X) rfl (by rw[List.take_left];exact hK)
 have HR:=Lib.hid hr
 have HV:=Lib.hid hv
 clear hK hr hv
 have hc: ∀X,CzAt X (.fz 4 ex [rowC vz]) vz:=fun X=> .inl ⟨ex,rfl⟩
 have GC:=Lib.hid hc
 clear hc
 with_reducible repeat' first|simp only[zP,jaf,jaa,jad,jac,seval,Nat.reduceLeDiff,g0, *]|simp only[jab]|apply And.intro|intro _
 refine tlarge_z (jay _ _) (GC.out _) HV.out hl ?_
 with_reducible repeat' first|simp only[zP,jaf,jaa,jad,jac,seval,Nat.reduceLeDiff,g0, *]|simp only[jab]|apply And.intro|intro _
 refine shc_z ?_
 with_reducible repeat' first|simp only[zP,jaf,jaa,jad,jac,seval,Nat.reduceLeDiff,g0,decide_true,decide_false, *]|simp only[jab]|apply And.intro|intro _
 refine texts_z ?_
 with_reducible repeat' first|simp only[zP,jaf,jaa,jad,jac,seval,Nat.reduceLeDiff,g0,decide_true,decide_false, *]|simp only[jab]|apply And.intro|intro _
 refine jpa (α:=Unit) (e:=fun _=>[Z64 (-1),Z64 (-1)]) (arg:=fun _=> .agg [Z64 (-1),Z64 (-1)]) (l:=[()]) (p:=fun _=>false) jkI (jai (z:= .nil) (zs:=[.nil]) (by decide)) jkF (jai (z:= .nil) (zs:=[.nil]) (by decide)) (fun m h=>rfl) jd8 (by simp) (fun v hv K hK=>check1_z (jay _ _) hK) ?_
 have hn:([()].any fun _=>false)=false:=rfl
 rw[hn]
 with_reducible repeat' first|simp only[zP,jaf,jaa,jad,jac,seval,Nat.reduceLeDiff,g0,decide_true,decide_false, *]|simp only[jab]|apply And.intro|intro _
 refine jpa (α:=Unit) (e:=fun _=>rowC vz) (arg:=fun _=> .agg (rowC vz)) (l:=[()]) (p:=fun _=>false) jgN (jai (z:= .nil) (zs:=[.nil]) (by decide)) jgM (jai (z:= .nil) (zs:=[.nil]) (by decide)) (fun m h=>rfl) jd8 (by simp) (fun v hv K hK=>check2_z (jay _ _) (GC.out _) HV.out HR.out hl hK) ?_
 rw[hn]
 with_reducible repeat' first|simp only[zP,jaf,jaa,jad,jac,seval,Nat.reduceLeDiff,g0,decide_true,decide_false, *]|simp only[jab]|apply And.intro|intro _
 refine cfn_z jh5 jh3 (by decide) (by decide) ?_
 with_reducible repeat' first|simp only[zP,jaf,jaa,jad,jac,seval,Nat.reduceLeDiff,g0,decide_true,decide_false, *]|simp only[jab]|apply And.intro|intro _
 refine cfn_z joP joL (by decide) (by decide) ?_
 with_reducible repeat' first|simp only[zP,jaf,jaa,jad,jac,seval,Nat.reduceLeDiff,g0,decide_true,decide_false, *]|simp only[jab]|apply And.intro|intro _
theorem jsk {z:ZV}{ex:Bool}{l2:List (Int×Int)}(hp:H[p]?=some (.box (s8 (.fz 4 ex [rowC vz]) e1 e2)))(hv:VzIs vz l)(hr: ∀v∈l,RV v.1 v.2)(hl:l.length≤100)(hz:jbi H 2 z=some (l2.map eVl))(hl2:l2.length≤1000)(hr2: ∀v∈l2,RV v.1 v.2)(hK:K (ZBo true) H):
  ZC (XS tb true) (jal Tryz.prog) 22 [.ptr p 0,z] L H K:=by
 refine ZC.enterL Gh.no (jai (by decide)) joQ (by simp) fun hL=>?_
 simp only[jik,kkP]
 have fin:=Fin.keep (H0:=H) hK
 have HR:=Lib.hid hr
 have HR2:=Lib.hid hr2
 have HV:=Lib.hid hv
 have HZ:=Lib.hid hz
 have HP:=Lib.hid hp
 clear hK hr hr2 hv hz
 with_reducible repeat' first|simp only[zP,jaf,jaa,jad,jac,seval,Nat.reduceLeDiff,hp, *]|simp only[jab]|apply And.intro|intro _
 refine tcheck_z HV.out HR.out hl ?_
 with_reducible repeat' first|simp only[zP,jaf,jaa,jad,jac,seval,Nat.reduceLeDiff,hp,decide_true,decide_false, *]|simp only[jab]|apply And.intro|intro _
 refine tall_z HP.out (.inl ⟨ex,rfl⟩) (fun X=>rows_ext HZ.out X) hl2 HR2.out ?_
 with_reducible repeat' first|simp only[zP,jaf,jaa,jad,jac,seval,Nat.reduceLeDiff, *]|simp only[jab]|apply And.intro|intro _
end
end Go.Proofs.YtjaahfncbechnaaGreatDoor
