/-
  ops.Words, cells.texts, shape.Check at what a new state has, by the kit's walk.
-/
import Derived.KernelRfl
import Derived.Maps.Own
import Derived.Maps.OwnOps
import Derived.Shelf.Strings.Fields
import Derived.Test.YtjaahfncbechnaaGreatDoorMrT4
import Derived.Test.YtjaahfncbechnaaGreatDoorMrT6
set_option linter.unusedVariables false
set_option linter.unusedSimpArgs false
namespace Go.Proofs.YtjaahfncbechnaaGreatDoor
section
open Go Go.RowKit Go.Shelf Go.WideMaps Go.Maps
def Tryz.lays157_ren:Go.Shelf.Ren:=⟨fun|157=>18|229=>35|199=>36|261=>67|311=>104|312=>105|n=>n,fun|9=>9|31=>37|3=>3|5=>5|4=>4|119=>92|0=>0|40=>94|152=>135|21=>21|154=>137|51=>89|141=>139|196=>180|193=>177|198=>183|49=>181|194=>178|201=>186|226=>213|46=>63|227=>214|n=>n,fun|0=>0|6=>1|n=>n⟩
theorem Tryz.lays157:Go.Proofs.Lays.n157 Tryz.prog Tryz.lays157_ren:={
  mixed:=by kernel_rfl
  f157:=Tryz.func18.trans (congrArg some (by kernel_rfl))
  f199:=Tryz.func36.trans (congrArg some (by kernel_rfl))
  f229:=Tryz.func35.trans (congrArg some (by kernel_rfl))
  f261:=Tryz.func67.trans (congrArg some (by kernel_rfl))
  f311:=Tryz.func104.trans (congrArg some (by kernel_rfl))
  f312:=Tryz.func105.trans (congrArg some (by kernel_rfl))
  t0:=Tryz.underlying0
  a0:=Tryz.isAgg0
  z0:=Tryz.sizeOf0
  v0:=Tryz.zeroValue0
  t3:=Tryz.underlying3
  a3:=Tryz.isAgg3
  z3:=Tryz.sizeOf3
  v3:=Tryz.zeroValue3
  t4:=Tryz.underlying4
  a4:=Tryz.isAgg4
  z4:=Tryz.sizeOf4
  v4:=Tryz.zeroValue4
  t5:=Tryz.underlying5
  a5:=Tryz.isAgg5
  z5:=Tryz.sizeOf5
  v5:=Tryz.zeroValue5
  t9:=Tryz.underlying9
  a9:=Tryz.isAgg9
  z9:=Tryz.sizeOf9
  v9:=Tryz.zeroValue9
  t21:=Tryz.underlying21
  a21:=Tryz.isAgg21
  z21:=Tryz.sizeOf21
  v21:=Tryz.zeroValue21
  t31:=Tryz.underlying37
  a31:=Tryz.isAgg37
  z31:=Tryz.sizeOf37
  v31:=Tryz.zeroValue37
  t40:=Tryz.underlying94
  a40:=Tryz.isAgg94
  z40:=Tryz.sizeOf94
  v40:=Tryz.zeroValue94
  t46:=Tryz.underlying63
  a46:=Tryz.isAgg63
  z46:=Tryz.sizeOf63
  v46:=Tryz.zeroValue63
  t49:=Tryz.underlying181
  a49:=Tryz.isAgg181
  z49:=Tryz.sizeOf181
  v49:=Tryz.zeroValue181
  t51:=Tryz.underlying89
  a51:=Tryz.isAgg89
  z51:=Tryz.sizeOf89
  v51:=Tryz.zeroValue89
  t119:=Tryz.underlying92
  a119:=Tryz.isAgg92
  z119:=Tryz.sizeOf92
  t141:=Tryz.underlying139
  a141:=Tryz.isAgg139
  z141:=Tryz.sizeOf139
  v141:=Tryz.zeroValue139
  t152:=Tryz.underlying135
  a152:=Tryz.isAgg135
  z152:=Tryz.sizeOf135
  v152:=Tryz.zeroValue135
  t154:=Tryz.underlying137
  a154:=Tryz.isAgg137
  z154:=Tryz.sizeOf137
  v154:=Tryz.zeroValue137
  t193:=Tryz.underlying177
  a193:=Tryz.isAgg177
  z193:=Tryz.sizeOf177
  v193:=Tryz.zeroValue177
  t194:=Tryz.underlying178
  a194:=Tryz.isAgg178
  z194:=Tryz.sizeOf178
  v194:=Tryz.zeroValue178
  t196:=Tryz.underlying180
  a196:=Tryz.isAgg180
  z196:=Tryz.sizeOf180
  v196:=Tryz.zeroValue180
  t198:=Tryz.underlying183
  a198:=Tryz.isAgg183
  z198:=Tryz.sizeOf183
  v198:=Tryz.zeroValue183
  t201:=Tryz.underlying186
  a201:=Tryz.isAgg186
  z201:=Tryz.sizeOf186
  v201:=Tryz.zeroValue186
  t226:=Tryz.underlying213
  a226:=Tryz.isAgg213
  z226:=Tryz.sizeOf213
  v226:=Tryz.zeroValue213
  t227:=Tryz.underlying214
  a227:=Tryz.isAgg214
  z227:=Tryz.sizeOf214
  v227:=Tryz.zeroValue214
  g0:=by kernel_rfl
  g6:=by kernel_rfl }
def jjT:List UInt8:=[107,105,110,100,32,114,97,110,103,101,32,122,101,114,111,32,105,110,100,101,120,32,108,97,114,103,101,32,100,101,101,112,32,115,116,97,116,101,32,99,111,117,110,116,32,110,105,108,32,98,111,111,108,32,105,110,116,32,102,108,111,97,116,32,116,101,120,116,32,111,98,106,101,99,116,32,108,105,115,116,32,102,117,110,99,116,105,111,110,32,103,101,110,101,114,97,116,111,114,32,108,111,99,107,32,119,101,97,107]
def jcv:List ByteArray:=(Lib.fields jjT).map fun l=>⟨l.toArray⟩
def jbX (k:Nat):ByteArray:=jcv.getD k ByteArray.empty
theorem jcu:jcv.length=19:=by kernel_rfl
def jpj (w:World):Prop:= ∀c:Nat,c<256→w.cell? ⟨0,c,none⟩=some (.int .u8 (if Lib.isSp (UInt8.ofNat c) then 1 else 0))
theorem jpj.of {B:Nat}{w:World}(h:GlOk B w):jpj w:=fun c hc=>by
 refine (h (0,_) (List.mem_singleton.2 rfl)).2 c _ ?_
 rw[List.getElem?_map,List.getElem?_range hc,Option.map_some]
 have: ∀c:_root_.Fin 256,(if c.val=32∨(9≤c.val∧c.val≤13) then (1:Int) else 0)=if Lib.isSp (UInt8.ofNat c.val) then 1 else 0:=by decide+kernel
 rw[this ⟨c,hc⟩]
theorem hi9:((Tryz.prog).info? 9).map (fun i=>(i.zero,i.size,i.bytes))=some (some (.string ByteArray.empty),1,16):=by kernel_rfl
set_option maxRecDepth 100000 in
theorem jf9 (w:World)(hT:jpj w):
  Calls Tryz.prog 7 #[] w fun e w'=>e= .returned (.slice (some ⟨w.heap.size,0,none⟩) 19 19)∧w'=w.alloc (.cells (jcv.map Value.string).toArray 9):=by
 have H := Any.strings_Fields_core Tryz.lays157 hi9 ⟨jjT.toArray⟩ w (by decide +kernel) (by
  intro j b hb
  have: ∀b∈jjT,b.toNat<128:=by decide+kernel
  exact this b (List.mem_of_getElem? (by simpa using hb))) hT
 have e1:(Lib.fields (⟨jjT.toArray⟩:ByteArray).data.toList).length=19:=by kernel_rfl
 have e2:((Lib.fields (⟨jjT.toArray⟩:ByteArray).data.toList).map fun l=>Value.string ⟨l.toArray⟩).toArray=(jcv.map Value.string).toArray:=by kernel_rfl
 rw[e1,e2] at H
 go_enter Tryz.func7,Tryz.ntmps7
 go_wp2_with (go_at_call 18;refine (H).mono ?_;rintro e w' ⟨rfl,rfl⟩)
 go_ret
 exact⟨rfl,rfl⟩
set_option maxRecDepth 100000 in
set_option maxHeartbeats 1000000 in
theorem jqK (b o c:Nat)(w:World)(hc:1≤c)(hb:b<w.heap.size)(h0:w.cell? ⟨b,o,none⟩=some (.int .i64 (-1)))(h1:w.cell? ⟨b,o+1,none⟩=some (.int .i64 (-1))):
  Calls Tryz.prog 72 #[.slice (some ⟨b,o,none⟩) 1 c] w fun e w'=>e= .returned (.int .i64 0)∧Below w.heap.size w w':=by
 have hmm:=@run_makeMap Tryz.prog
 go_enter Tryz.func72,Tryz.ntmps72
 go_wp2
 all_goals (refine wp_loop_rounds 1 ?_;rw[rounds_succ];go_wp2;go_ret;exact⟨rfl,(by repeat' (first|(with_reducible exact Below.refl _ _)|(with_reducible assumption)|(with_reducible refine below_drewN ?_ _)|(with_reducible refine Below.drew ?_)|(with_reducible refine Below.alloc ?_ ?_ _)|(with_reducible refine Below.setCell ?_ ?_ _)|go_size))⟩)
def jeL (k:Nat):Lit:= .string (jbX k).data.toList
def jfb {H:Type}(k:Nat):DataW H:=(List.range k).foldl (fun d j=>d.put (jeL j) (.lit (.int .i64 1))) (.map [])
theorem jlq {H:Type}(k:Nat):(jfb (k+1):DataW H)=(jfb k).put (jeL k) (.lit (.int .i64 1)):=by
 unfold jfb
 rw[List.range_succ,List.foldl_append];rfl
def jrk:DataW Unit→Bool
  | .lit (.int .i64 n)=>n==0
  |_=>false
theorem jlO {d:DataW Unit}(h:jrk d=true):d= .lit (.int .i64 0):=by
 unfold jrk at h
 split at h
 ·rw[eq_of_beq h]
 ·cases h
theorem jqj (k:Nat)(hk:k<19):(jfb k:DataW Unit).atKey (jeL k) (.lit (.int .i64 0))= .lit (.int .i64 0):=by
 have h:((List.range 19).all fun k=>jrk ((jfb k).atKey (jeL k) (.lit (.int .i64 0))))=true:=by kernel_rfl
 exact jlO (List.all_eq_true.1 h k (List.mem_range.2 hk))
theorem skeyed:Keyed Tryz.prog 9:=string_keyed Tryz.underlying9
theorem szero (w:World):(zeroValue 3).run Tryz.prog w= .ok (.int .i64 0) w:=by kernel_rfl
theorem jqk (k:Nat):(jbX k).size≤1000:=by
 by_cases h:k<19
 ·have: ∀k:_root_.Fin 19,(jbX k.val).size≤1000:=by decide+kernel
  exact this ⟨k,h⟩
 ·unfold jbX
  rw[List.getD_eq_getElem?_getD,List.getElem?_eq_none (by rw[jcu];omega)]
  decide
set_option maxRecDepth 100000 in
set_option maxHeartbeats 4000000 in
theorem jlv (b o c:Nat)(w:World)(hT:jpj w)(hb:b<w.heap.size)(hw: ∀k,k<19→w.cell? ⟨b,o+k,none⟩=some (.string (jbX k))):
  Calls Tryz.prog 73 #[.slice (some ⟨b,o,none⟩) 19 c] w fun e w'=>e= .returned (.bool true)∧Below w.heap.size w w':=by
 have hmm:=@run_makeMap Tryz.prog
 have hz:(w.alloc (.cells (jcv.map Value.string).toArray 9)).heap.size=w.heap.size+1:=by simp
 have hcell: ∀k,k<19→(w.alloc (.cells (jcv.map Value.string).toArray 9)).cell? ⟨w.heap.size,k,none⟩=some (.string (jbX k)):=fun k hk=>by
  have h1:jcv[k]?=some (jbX k):=by
   unfold jbX
   rw[List.getD_eq_getElem?_getD,List.getElem?_eq_getElem (by rw[jcu];exact hk)];rfl
  simp[h1]
 go_enter Tryz.func73,Tryz.ntmps73
 go_wp2_with (go_at_call 7;refine (jf9 _ hT).mono ?_;rintro e w1 ⟨rfl,hw1⟩)
 rw[←hw1] at hz hcell
 have hb1:Below w.heap.size w w1:=by rw[hw1];exact (Below.refl _ _).alloc (Nat.le_refl _) _
 go_loopw [11] (fun i wr=> ∃k:Nat,k≤19∧i= .int .i64 k∧wr.ownsMap Tryz.prog 9 (plainElem (H:=Unit) Tryz.prog 3) w1.heap.size k (jfb k)∧Below w1.heap.size w1 wr)
  (fun i _=>19 - (intOf i).toNat)
 case atStart=>exact⟨0,by omega,rfl,by rw[hw1];exact World.ownsMap_made _ _ _ _,by rw[hw1];exact (Below.refl _ _).alloc (Nat.le_refl _) _⟩
 case round=>
  obtain⟨k,hk,rfl,hown,hnx⟩:=hrel
  clear hw1
  rw[hz] at hown
  obtain⟨s,hs⟩: ∃s,s=jbX k:=⟨_,rfl⟩
  have hcx:k<19→wr.cell? ⟨b,o+k,none⟩=some (.string s):=fun hk=>by rw[hs];exact ((hnx.cell (by show b<_;omega)).trans (hb1.cell (by exact hb))).trans (hw k hk)
  have hcy:k<19→wr.cell? ⟨w.heap.size,k,none⟩=some (.string s):=fun hk=>by rw[hs];exact (hnx.cell (by show w.heap.size<_;omega)).trans (hcell k hk)
  have hkey:keyOf Tryz.prog 9 (.string s)=some (jeL k):=by rw[hs];exact keyOf_string_mk Tryz.underlying9 (Nat.le_trans (jqk k) (by decide))
  have hst:(jfb (k+1):DataW Unit)=(jfb k).put (jeL k) (.lit (.int .i64 1)):=jlq k
  have hat0:=fun h:k<19=>jqj k h
  clear hs
  obtain⟨c,hrun,hat,_⟩:=hown.lookup_int skeyed Tryz.underlying192 Tryz.underlying3 (szero _) hkey
  by_cases hk9:k<19
  ·have hcx:=hcx hk9
   have hcy:=hcy hk9
   have hc0:c=0:=by
    rw[hat0 hk9] at hat
    simpa using hat.symm
   subst hc0
   go_wp2_with (first
    |(at_mapUpdate;refine wpList_mapUpdate_own _ rfl _ _ _ 192 rfl 9 3 skeyed Tryz.underlying192 _ (w.heap.size+1) k _ rfl hown (by unfold maxLen;omega) _ _ _ rfl rfl hkey _ [] (plainElem_int Tryz.underlying3 (by decide)) ?_)
    |go_in)
   ·intro wx hown1 hgrow1
    rw[←hst] at hown1
    have R2:=hnx.grown hgrow1 hnx.size (fun j hj=>by cases hj;omega)
    clear hgrow1 hown hrun hat hcx hcy hst hat0
    go_wp2
    go_roundw
    case rel=>exact⟨k+1,by omega,by go_num,by rw[hz];exact hown1,R2⟩
    case measure=>simp[intOf];omega
  ·have:k=19:=by omega
   subst this
   clear hrun hat hst hat0
   go_wp2
   go_ret
   exact⟨rfl,hb1.trans (hnx.mono (by omega))⟩
end
section
open Go Go.RowKit
theorem jnI {n0 B0 k:Nat}{m:Map}{h:Heap}{W:World}{Fr:Nat→Prop}{ex:Bool}{rows:List (List ZV)}{a:AV}{x:Value}(r:Rels n0 B0 m h W)(hf:FR Fr h (.fz k ex rows) a)(hne:rows≠[])(hv:VR m a x):
  ∃b o c,x= .slice (some ⟨b,o,none⟩) rows.length c∧rows.length≤c∧b<W.heap.size∧ ∀i v,rows.flatten[i]?=some (.val v)→W.cell? ⟨b,o+i,none⟩=some v:=by
 cases hf with
 |fnil e=>exact (hne rfl).elim
 |@fz _ _ _ id off lb ex' row cell h1 h2 h3 h4 h5 h6 h7 h8=>
  cases hv with
  |@slice _ _ _ _ _ _ b o c hb ho g1 g2 g3 g4=>
   refine⟨b.b,b.off+o,c,rfl,by omega,r.rel.lt _ _ hb.1,fun i v hi=>?_⟩
   have hl:0<rows.length:=List.length_pos_iff.2 hne
   have hoo:=ho (by omega)
   subst hoo
   have e1:=h7 i _ hi
   have e2:=h8 i _ hi
   obtain⟨v',q1,q2⟩:=r.rel.cell _ _ b h2 hb _ _ e1
   have e3:cell i= .val v:=by generalize cell i=y at e2;cases e2;rfl
   rw[e3] at q2
   rw[q2.lit] at q1
   rw[Nat.add_assoc];exact q1
def jbn:List (List ZV):=jcv.map fun s=>[.val (.string s)]
theorem jbt:jbn.length=19:=by unfold jbn;rw[List.length_map,jcu]
theorem jga (k:Nat)(hk:k<19):jbn.flatten[k]?=some (.val (.string (jbX k))):=by
 have h1:jcv[k]?=some (jbX k):=by
  unfold jbX
  rw[List.getD_eq_getElem?_getD,List.getElem?_eq_getElem (by rw[jcu];exact hk)];rfl
 have:jbn.flatten=jcv.map fun s=>ZV.val (.string s):=by
  unfold jbn
  generalize jcv=l
  induction l with
  |nil=>rfl
  |cons x l ih=>simp[ih]
 rw[this,List.getElem?_map,h1];rfl
def jhG:List (List ZV):=[[Z64 (-1),Z64 (-1)]]
def yTs (f:FuncId)(args:List AV)(fl:Nat→Bool)(h:Heap)(K:AV→Heap→Prop):Prop:=
  ∃(L:Nat→Bool) (w:Wd),ZRel fl L w∧w.h=h∧((f=7∧args=[]∧K=PK fl L w (fun z H'=>z= .fz 1 false jbn∧H'=w.H))∨
    (f=73∧(∃ex,ZRs w [.fz 1 ex jbn] args)∧K=PK fl L w (fun z H'=>z=ZBo true∧H'=w.H))∨
    (f=72∧(∃ex,ZRs w [.fz 2 ex jhG] args)∧K=PK fl L w (fun z H'=>z=Z64 0∧H'=w.H)))
def pnT:PX:=⟨fun _=>False,yTs⟩
theorem fr_of {w:Wd}{k:Nat}{ex:Bool}{rows:List (List ZV)}{a:AV}(h:ZR w (.fz k ex rows) a):FR w.Fr w.h (.fz k ex rows) a:=by
 cases h with|fr h=>exact h
theorem jmc {f : FuncId}{fn : Func}(h : (Tryz.prog).funcs[f]? = some fn)(h1 : (fn.name == "runtime.NumGoroutine") = false)(h2 : fn.body.isSome = true) : ∃ fn c, (Tryz.prog).funcs[f]? = some fn ∧ (fn.name == "runtime.NumGoroutine") = false ∧ fn.body = some c := by
 obtain⟨c,hc⟩:=Option.isSome_iff_exists.1 h2
 exact⟨fn,c,h,h1,hc⟩
theorem pnT_ok:YOk Tryz.prog pnT:=by
 rintro f args fl h K ⟨L,w,r,rfl,hy⟩
 rcases hy with⟨rfl,rfl,rfl⟩|⟨rfl,⟨ex,ha⟩,rfl⟩|⟨rfl,⟨ex,ha⟩,rfl⟩
 ·refine⟨jmc Tryz.func7 (by kernel_rfl) (by kernel_rfl),fun n0 B0 m W vals rl hfl hv=>?_⟩
  have hvals:vals= #[]:=Array.eq_empty_of_size_eq_zero (by have:=hv.1;simpa using this.symm)
  subst hvals
  refine (jf9 W (jpj.of rl.rel.gl)).mono fun e w' hp=>?_
  obtain⟨rfl,rfl⟩:=hp
  obtain⟨row,hrow⟩: ∃row,row=jcv.map fun s=>AV.val (.string s):=⟨_,rfl⟩
  have hrl:row.length=19:=by rw[hrow,List.length_map,jcu]
  obtain⟨w2,e1,e2,e3,e4,r2,x2⟩:=jnU r row
  have p := jb0 (fl := fl) rl row (jcv.map Value.string).toArray 9 19 (fun x hx => by rw [hrow] at hx; obtain ⟨s, _, rfl⟩ := List.mem_map.1 hx; rfl) (by omega) (by simp [jcu]) (fun i x hx => by
   rw[hrow,List.getElem?_map] at hx
   obtain⟨s,hs,rfl⟩:=Option.map_eq_some_iff.1 hx
   exact⟨.string s,by simp[hs],.val rfl⟩)
  refine .inl ⟨.slice w.h.length 0 19 19 true 1,w.h++[some row],_,_,⟨.fz 1 false jbn,w2,e1,r2,x2,?_,rfl,e2⟩,rfl,p,?_⟩
  ·have hz:FR w2.Fr w2.h (.fz 1 false jbn) (.slice w.h.length 0 jbn.length 19 true 1):=by
    refine .fz (fun i=> .val (.string (jbX i))) (row:=row) e4 (by rw[e1];exact jaI ..) (by rw[jbt];omega) (by rw[jbt];omega) (fun h=>by cases h) (fun q hq=>?_) (fun i z hi=>?_) (fun i z hi=>?_)
    ·unfold jbn at hq
     obtain⟨s,_,rfl⟩:=List.mem_map.1 hq;rfl
    all_goals
     have hi19:i<19:=by
      have:=List.getElem?_eq_some_iff.1 hi
      obtain⟨h1,_⟩:=this
      have:jbn.flatten.length=19:=by kernel_rfl
      omega
    ·have:=jcv.length
     have h1:jcv[i]?=some (jbX i):=by
      unfold jbX
      rw[List.getD_eq_getElem?_getD,List.getElem?_eq_getElem (by rw[jcu];exact hi19)];rfl
     rw[hrow,Nat.zero_add,List.getElem?_map,h1];rfl
    ·rw[jga i hi19] at hi
     injection hi with hi;subst hi
     exact .val _
   rw[jbt] at hz
   exact .fr hz
  ·exact .slice (b:=⟨W.heap.size,0,19,false⟩) (o:=0) ⟨by simp[mset],rfl⟩ (fun _=>rfl) (Nat.le_refl _) (Nat.le_refl _) (fun _=>rfl) (by simp)
 ·refine⟨jmc Tryz.func73 (by kernel_rfl) (by kernel_rfl),fun n0 B0 m W vals rl hfl hv=>?_⟩
  obtain⟨a,ha0,ha1⟩:=ha.get (i:=0) rfl
  obtain⟨x,hx0,hx1⟩:=hv.get ha0
  have hvals:vals= #[x]:=by
   have h1:=hv.1;have h2:=ha.1
   match hl:vals.toList,h1,hx0 with
   |[y],_,hx0=>simp at hx0;subst hx0;apply Array.ext';simpa using hl
   |[],h1,hx0=>simp at hx0
   |_::_::_,h1,_=>rw[←h2] at h1;simp at h1
  subst hvals
  obtain⟨b,o,c,rfl,h1,h2,h3⟩:=jnI rl (fr_of ha1) (fun h=>by have:=jbt;rw[h] at this;cases this) hx1
  rw[jbt]
  refine (jlv b o c W (jpj.of rl.rel.gl) h2 fun k hk=>h3 k _ (jga k hk)).mono fun e w' hp=>?_
  obtain⟨rfl,hb⟩:=hp
  exact .inl ⟨.val (.bool true),w.h,_,m,PK.same r (.fr (.val _)) ⟨rfl,rfl⟩,rfl,Post.below rl hb,.val rfl⟩
 ·refine⟨jmc Tryz.func72 (by kernel_rfl) (by kernel_rfl),fun n0 B0 m W vals rl hfl hv=>?_⟩
  obtain⟨a,ha0,ha1⟩:=ha.get (i:=0) rfl
  obtain⟨x,hx0,hx1⟩:=hv.get ha0
  have hvals:vals= #[x]:=by
   have h1:=hv.1;have h2:=ha.1
   match hl:vals.toList,h1,hx0 with
   |[y],_,hx0=>simp at hx0;subst hx0;apply Array.ext';simpa using hl
   |[],h1,hx0=>simp at hx0
   |_::_::_,h1,_=>rw[←h2] at h1;simp at h1
  subst hvals
  obtain⟨b,o,c,rfl,h1,h2,h3⟩:=jnI rl (fr_of ha1) (by simp[jhG]) hx1
  refine (jqK b o c W h1 h2 (h3 0 _ rfl) (h3 1 _ rfl)).mono fun e w' hp=>?_
  obtain⟨rfl,hb⟩:=hp
  exact .inl ⟨.val (.int .i64 0),w.h,_,m,PK.same r (.fr (.val _)) ⟨rfl,rfl⟩,rfl,Post.below rl hb,.val rfl⟩
section
variable {x:jaG}{F:FuncId→Option jaM}{L:Nat→Bool}{H:ZH}{K:ZV→ZH→Prop}
theorem words_z (hK:K (.fz 1 false jbn) H):ZC ⟨x,true,pnT⟩ F 7 [] L H K:=fun fl w args r e ha=>by
 subst e
 have:args=[]:=List.eq_nil_of_length_eq_zero ha.1.symm
 subst this
 refine AC.known rfl ⟨L,w,r,rfl,.inl ⟨rfl,rfl,rfl⟩⟩ fun v h' p=>p.mono fun z H' hz=>?_
 obtain⟨rfl,rfl⟩:=hz
 exact hK
theorem texts_z {ex:Bool}(hK:K (ZBo true) H):ZC ⟨x,true,pnT⟩ F 73 [.fz 1 ex jbn] L H K:=fun fl w args r e ha=>by
 subst e
 refine AC.known rfl ⟨L,w,r,rfl,.inr (.inl ⟨rfl,⟨ex,ha⟩,rfl⟩)⟩ fun v h' p=>p.mono fun z H' hz=>?_
 obtain⟨rfl,rfl⟩:=hz
 exact hK
theorem shc_z {ex:Bool}(hK:K (Z64 0) H):ZC ⟨x,true,pnT⟩ F 72 [.fz 2 ex jhG] L H K:=fun fl w args r e ha=>by
 subst e
 refine AC.known rfl ⟨L,w,r,rfl,.inr (.inr ⟨rfl,⟨ex,ha⟩,rfl⟩)⟩ fun v h' p=>p.mono fun z H' hz=>?_
 obtain⟨rfl,rfl⟩:=hz
 exact hK
end
end
section
open Go Go.RowKit
variable {X:XT}{F:FuncId→Option jaM}{L:Nat→Bool}{H:ZH}{K:ZV→ZH→Prop}{α:Type}{e:α→List ZV}{arg:α→ZV}{l:List α}{p:α→Bool}{k b:Nat}{n:Option Nat}{g f:FuncId}{caps:List ZV}{z:ZV}
def idxP {α:Type}(p:α→Bool)(l:List α):Int:=match l.findIdx? p with
  |some i=>(i:Int)
  |none=> -1
theorem idx_ge {α:Type}{p:α→Bool}{l:List α}:decide ((0:Int)≤idxP p l)=l.any p:=by
 unfold idxP
 cases h:l.findIdx? p with
 |none=>
  have:=List.findIdx?_eq_none_iff.1 h
  simp only[Int.reduceNeg,show ¬((0:Int)≤ -1) by omega,decide_false]
  symm
  rw[List.any_eq_false]
  intro x hx;rw[this x hx];simp
 |some i=>
  obtain⟨h1,h2,_⟩:=List.findIdx?_eq_some_iff_getElem.1 h
  have h3:(0:Int)≤(i:Int):=by omega
  simp only[h3,decide_true]
  symm
  exact List.any_eq_true.2 ⟨_,List.getElem_mem h1,h2⟩
def NoneY {α:Type}(p:α→Bool)(l:List α):Prop:= ∀x∈l,p x=false
def c_if (k:Nat)(n:Option Nat):jar:= .seq (.ops [kkI 4 (.mv (kkV 0))]) (.seq (.seq (.ops [kkM 6 0,kkI 7 (.len (.tmp 6)),kkI 8 (.mv (kkV 0))]) (jaF 0 1 9 8 7 18 (.seq (.ops [kkM 10 8,kkM 5 10]) (.seq (.ops [kkM 11 1,kkM 12 0,kkM 13 5,kkI 14 (.indexAddr k (.tmp 12) (.tmp 13)),kkI 15 (.load n (.tmp 14)),kkI 16 (.call (.tmp 11) [(.tmp 15)])]) (.cond (.tmp 16) (.seq (.ops [kkM 17 5,kkM 4 17]) (.ret)) (.skip)))))) (.seq (.ops [kkI 4 (.mv (kkV (-1)))]) (.ret)))
theorem idxg_z (hF:F g=some ⟨19,c_if k n,[.tmp 4]⟩)(hx: ∀args fl hp,args.length=2→X.x g args fl hp=none)(ha: ∀m∈l,jcY (e m) 0 n=some (arg m))(hz:jbi H k z=some (l.map e))(hb:l.length≤100000000000000)
  (hf: ∀m∈l,∀ K,K (ZBo (p m)) H→ZC X F f (arg m::caps) L H K) (hK:K (Z64 (idxP p l)) H):ZC X F g [z,.func f caps] L H K:=by
 refine ZC.enter Gh.no hx hF (by simp) ?_
 simp only[c_if,kkP]
 have hlen:=jb7 hz
 rw[List.length_map] at hlen
 have HF:=Lib.hid hf
 have HK:=Lib.hid hK
 have HA:=Lib.hid ha
 clear hf hK ha hF hx
 with_reducible repeat' first|simp only[zP,jaf,jaa,jad,jac,seval,Nat.reduceLeDiff,hlen, *]|simp only[jab]|apply And.intro|intro _
 refine jbp [(0,z),(1,.func f caps)] l.length (fun k s' h'=>h'=H∧NoneY p (l.take k)) (by omega) ⟨rfl,rfl,rfl,rfl,rfl,rfl⟩ rfl rfl (by repeat' (first|exact trivial|(refine⟨rfl,?_⟩)|(refine⟨by simp only[jaQ,Nat.reduceEqDiff,reduceIte];assumption,?_⟩))) rfl rfl (by decide) ⟨rfl,by simp[NoneY]⟩ ?_ ?_
 ·rintro j s' h' hk ⟨rfl,hno⟩ hi hl ⟨f0,f1,-⟩
  obtain⟨q,hq,hld⟩:=jd9 hz hk
  have hld:=(hld n).trans (HA.out _ (List.getElem_mem hk))
  have HN:=Lib.hid hno
  clear hno
  with_reducible repeat' first|simp only[zP,jaf,jaa,jad,jac,seval,Nat.reduceLeDiff,hq,hld, *]|simp only[jab]|apply And.intro|intro _
  refine HF.out _ (List.getElem_mem hk) _ ?_
  cases hp:p l[j] with
  |true=>
   have hi:idxP p l=(j:Int):=by
    have:l.findIdx? p=some j:=by
     rw[List.findIdx?_eq_some_iff_getElem]
     exact⟨hk,hp,fun j hj=>by simp only[Bool.not_eq_true];exact HN.out _ (by rw[List.mem_take_iff_getElem];exact⟨j,by omega,rfl⟩)⟩
    simp only[idxP,this]
   have hK:=HK.out
   rw[hi] at hK
   have fin:=Fin.keep (H0:=h') hK
   clear hp hi hK hld
   with_reducible repeat' first|simp only[zP,jaf,jaa,jad,jac,seval,Nat.reduceLeDiff, *]|simp only[jab]|apply And.intro|intro _
  |false=>
   have fin:NoneY p (l.take (j+1)):=fun x hx=>by
    rw[List.take_succ_eq_append_getElem hk] at hx
    rcases List.mem_append.1 hx with hx|hx
    ·exact HN.out x hx
    ·rw[List.mem_singleton.1 hx];exact hp
   clear hp hld
   with_reducible repeat' first|simp only[zP,jaf,jaa,jad,jac,seval,Nat.reduceLeDiff, *]|simp only[jab]|apply And.intro|intro _
 ·rintro s' h' ⟨rfl,hno⟩ ⟨f0,f1,-⟩
  rw[List.take_of_length_le (Nat.le_refl _)] at hno
  have hi:idxP p l= -1:=by
   have:l.findIdx? p=none:=List.findIdx?_eq_none_iff.2 fun x hx=>by rw[hno x hx]
   simp only[idxP,this]
  have hK:=HK.out
  rw[hi] at hK
  have fin:=Fin.keep (H0:=h') hK
  clear hno hi hK
  with_reducible repeat' first|simp only[zP,jaf,jaa,jad,jac,seval,Nat.reduceLeDiff, *]|simp only[jab]|apply And.intro|intro _
def c_cf (g:FuncId):jar:= .seq (.ops [kkI 4 (.mv (.av (.val (.bool false))))]) (.seq (.ops [kkM 5 0,kkM 6 1,kkI 7 (.call (.av (.func g [])) [(.tmp 5),(.tmp 6)]),kkI 8 (.bin .geq (.tmp 7) (kkV 0)),kkM 4 8]) (.ret))
theorem jpa {g2:FuncId}(hF2:F g2=some ⟨9,c_cf g,[.tmp 4]⟩)(hx2: ∀args fl hp,args.length=2→X.x g2 args fl hp=none)(hF:F g=some ⟨19,c_if k n,[.tmp 4]⟩)(hx: ∀args fl hp,args.length=2→X.x g args fl hp=none)
  (ha: ∀m∈l,jcY (e m) 0 n=some (arg m)) (hz:jbi H k z=some (l.map e)) (hb:l.length≤100000000000000) (hf: ∀m∈l,∀ K,K (ZBo (p m)) H→ZC X F f (arg m::caps) L H K) (hK:K (ZBo (l.any p)) H):ZC X F g2 [z,.func f caps] L H K:=by
 refine ZC.enter Gh.no hx2 hF2 (by simp) ?_
 simp only[c_cf,kkP]
 have HF:=Lib.hid hf
 have fin:=Fin.keep (H0:=H) hK
 have HX:=Lib.hid hx
 have HA:=Lib.hid ha
 have HFF:=Lib.hid hF
 have HZ:=Lib.hid hz
 clear hf hK hx2 hF2 hx hF hz ha
 with_reducible repeat' first|simp only[zP,jaf,jaa,jad,jac,seval,Nat.reduceLeDiff, *]|simp only[jab]|apply And.intro|intro _
 refine idxg_z HFF.out HX.out HA.out HZ.out hb HF.out ?_
 with_reducible repeat' first|simp only[zP,jaf,jaa,jad,jac,seval,Nat.reduceLeDiff,idx_ge, *]|simp only[jab]|apply And.intro|intro _
def c_cl (k b:Nat):jar:= .seq (.ops [kkI 2 (.mv (.av kkS))]) (.seq (.seq (.ops [kkM 3 0,kkI 4 (.eqNil false 0 (.tmp 3))]) (.cond (.tmp 4) (.seq (.ops [kkI 2 (.mv (.av kkS))]) (.ret)) (.skip))) (.seq (.ops [kkI 5 (.lits k 0 [] []),kkM 6 0,kkI 7 (.append k b (.tmp 5) (.tmp 6)),kkM 2 7]) (.ret)))
theorem jgR (hF:F g=some ⟨8,c_cl k b,[.tmp 2]⟩)(hx: ∀args fl hp,args.length=1→X.x g args fl hp=none)(hK:K .nil H):ZC X F g [.nil] L H K:=by
 refine ZC.enter Gh.no hx hF (by simp) ?_
 simp only[c_cl,kkP]
 have fin:=Fin.keep (H0:=H) hK
 have hn:nilZ H 0 .nil=some true:=rfl
 clear hK hx hF
 with_reducible repeat' first|simp only[zP,jaf,jaa,jad,jac,seval,Nat.reduceLeDiff,hn,Option.some.injEq,exists_eq_left',Bool.true_eq_false, *]|simp only[jab]|apply And.intro|intro _
theorem nil_cons {H:ZH}{k:Nat}{ex:Bool}{a:List ZV}{r:List (List ZV)}:nilZ H 0 (.fz k ex (a::r))=some false:=rfl
theorem jl7 {ex:Bool}{a:List ZV}{r:List (List ZV)}(hF:F g=some ⟨8,c_cl k b,[.tmp 2]⟩)(hx: ∀args fl hp,args.length=1→X.x g args fl hp=none)(hr:(a::r).length*b≤ja5)(hK:K (.own H.length 0 0 (a::r).length false) (H++[.grow 0 k (a::r)])):
  ZC X F g [.fz k ex (a::r)] L H K:=by
 refine ZC.enter Gh.no hx hF (by simp) ?_
 simp only[c_cl,kkP]
 have hap: ∀L H v H',appZ L H k b (a::r) (.fz k true [])=some (v,H')↔ .own H.length 0 0 (a::r).length false=v∧H++[.grow 0 k (a::r)]=H':=fun L H v H'=>app_fzN (by simp) hr
 have fin:=Fin.keep (H0:=H) hK
 have hne: ∀k2 ex,(ZV.fz k ex (a::r)= .fz k2 ex [])↔False:=fun k2 ex=>by simp
 clear hK hx hF
 obtain⟨n,hn⟩: ∃n,n=(a::r).length:=⟨_,rfl⟩
 rw[←hn] at hap fin
 clear hn hr
 with_reducible repeat' first|simp only[zP,jaf,jaa,jad,jac,seval,Nat.reduceLeDiff,nil_cons,hap,hne, *]|simp only[jab]|apply And.intro|intro _
 omega
theorem jr5 {ex:Bool}{a:List ZV}{r:List (List ZV)}(hF:F g=some ⟨8,c_cl k b,[.tmp 2]⟩)(hx: ∀args fl hp,args.length=1→X.x g args fl hp=none)(hp:(a::r).flatten.all jbL=true)(hr:(a::r).length*b≤ja5)(hK:K (.fz k false (a::r)) H):
  ZC X F g [.fz k ex (a::r)] L H K:=by
 refine ZC.thenF (jl7 hF hx hr (K:=fun z H'=>z= .own H.length 0 0 (a::r).length false∧H'=H++[.grow 0 k (a::r)]) ⟨rfl,rfl⟩) fun z H' ⟨e1,e2⟩=>?_
 subst e1;subst e2
 refine Fin.frz (k:=k) (rows:=a::r) (H_at0 ..) (by omega) hp ?_
 rw[List.drop_zero,List.take_of_length_le (by omega)]
 exact Fin.trunc (by rw[List.set_append_right _ _ (Nat.le_refl _)];exact Mods.ext H _) rfl (by rw[List.set_append_right _ _ (Nat.le_refl _),List.take_left];exact hK)
end
end Go.Proofs.YtjaahfncbechnaaGreatDoor
