/-
  What package nanbox computes: Box, Unbox, Kind (and the reference's Odd).
-/
import Derived.KernelRfl
import Derived.Test.YtjaahfncbechnaaGreatDoorMrT1
import Derived.Test.YtjaahfncbechnaaGreatDoorMrT4
import Derived.Test.YtjaahfncbechnaaGreatDoorMrT6
set_option linter.unusedVariables false
set_option linter.unusedSimpArgs false
namespace Go.Proofs.YtjaahfncbechnaaGreatDoor
section
open Go.RowKit
theorem jpi (n:Int)(h0:0≤n)(h1:n<18446744073709551616):bits .and .u64 n 9223372036854775807=n % 9223372036854775808:=by
 rw[u64_and n _ h0 h1 (by omega) (by omega)]
 have:(9223372036854775807:Int).toNat=2^63 - 1:=rfl
 rw[this,Nat.and_two_pow_sub_one_eq_mod]
 omega
def jbF (n:Int):Bool:=decide (9218868437227405312<n % 9223372036854775808)
def tagI (k:Int):Int:=(65529+(if 3<k then k - 1 else k))*281474976710656
def loI (k:Int):Int:=if k=2 then -2147483648 else 0
def hiI (k:Int):Int:=if k=0 then 0 else if k=1 then 1 else if k=2 then 2147483647 else 4294967295
set_option maxHeartbeats 400000 in
theorem jcQ (n:Int)(w:World)(h0:0≤n)(h1:n<18446744073709551616):
  Calls Tryz.prog 31 #[.int .u64 n] w fun e w'=>e= .returned (.bool (jbF n))∧w=w':=by
 have e:=Lib.hid (jpi n h0 h1)
 go_enter Tryz.func31,Tryz.ntmps31
 go_wp2
 go_ret
 exact⟨ret_bool (by unfold jbF;rw[e.out]),rfl⟩
set_option maxHeartbeats 400000 in
theorem tag_any (n:Int)(w:World)(h:0≤n)(h1:n≤6):
  Calls Tryz.prog 33 #[.int .i64 n] w fun e w'=>e= .returned (.int .u64 (tagI n))∧w=w':=by
 go_enter Tryz.func33,Tryz.ntmps33
 go_wp2
 all_goals go_ret
 ·exact⟨jqT (by unfold tagI;rw[if_pos (by assumption)]),rfl⟩
 ·exact⟨jqT (by unfold tagI;rw[if_neg (by omega)]),rfl⟩
set_option maxHeartbeats 400000 in
theorem je3 (n:Int)(w:World):
  Calls Tryz.prog 32 #[.int .i64 n] w fun e w'=>e= .returned (.tuple #[.int .i64 (loI n),.int .i64 (hiI n)])∧w=w':=by
 go_enter Tryz.func32,Tryz.ntmps32
 go_wp2
 all_goals go_ret2
 all_goals exact⟨jcI (by unfold loI;simp_all) (by unfold hiI;simp_all),rfl⟩
def boxE (k n:Int):Int:=if k<0∨6<k then 7 else if k=3 then 0 else if n<loI k∨hiI k<n then 1 else 0
def boxW (k n:Int):Int:=
  if k<0∨6<k then 0 else if k=3 then (if jbF (IntKind.u64.wrap n) then 9221120237041090561 else IntKind.u64.wrap n)
  else if n<loI k∨hiI k<n then 0 else tagI k+n % 4294967296
theorem or_tag (k n:Int)(h:0≤k)(h1:k≤6):bits .or .u64 (tagI k) (n % 4294967296)=tagI k+n % 4294967296:=by
 have hn:0≤n % 4294967296:=by omega
 have hn1:n % 4294967296<4294967296:=by omega
 generalize n % 4294967296=m at*
 have ht:tagI k=((tagI k).toNat:Int):=by unfold tagI;split<;>omega
 rw[u64_or _ _ (by unfold tagI;split<;>omega) (by unfold tagI;split<;>omega) (by omega) (by omega)]
 rw[nat_join 48 _ _ (by unfold tagI;split<;>omega) (by omega)]
 omega
theorem u64r (n:Int):0≤IntKind.u64.wrap n∧IntKind.u64.wrap n<18446744073709551616:=by simp only[IntKind.wrap_u64];omega
set_option maxHeartbeats 400000 in
theorem jcM (k n:Int)(w:World)  :
  Calls Tryz.prog 15 #[.agg #[.int .i64 k,.int .i64 n]] w fun e w'=>e= .returned (.tuple #[.int .u64 (boxW k n),.int .i64 (boxE k n)])∧Below w.heap.size w w':=by
 by_cases h1:k<0
 ·go_enter Tryz.func15,Tryz.ntmps15
  go_wp2
  go_ret2
  exact⟨jcI (by unfold boxW;rw[if_pos (.inl h1)]) (by unfold boxE;rw[if_pos (.inl h1)]),(by repeat' (first|(with_reducible exact Below.refl _ _)|(with_reducible assumption)|(with_reducible refine below_drewN ?_ _)|(with_reducible refine Below.drew ?_)|(with_reducible refine Below.alloc ?_ ?_ _)|(with_reducible refine Below.setCell ?_ ?_ _)|go_size))⟩
 by_cases h2:6<k
 ·go_enter Tryz.func15,Tryz.ntmps15
  go_wp2
  go_ret2
  exact⟨jcI (by unfold boxW;rw[if_pos (.inr h2)]) (by unfold boxE;rw[if_pos (.inr h2)]),(by repeat' (first|(with_reducible exact Below.refl _ _)|(with_reducible assumption)|(with_reducible refine below_drewN ?_ _)|(with_reducible refine Below.drew ?_)|(with_reducible refine Below.alloc ?_ ?_ _)|(with_reducible refine Below.setCell ?_ ?_ _)|go_size))⟩
 have h1':0≤k:=by omega
 have h2':k≤6:=by omega
 by_cases h3:k=3
 ·subst h3
  by_cases hs:jbF (IntKind.u64.wrap n)=true
  ·go_enter Tryz.func15,Tryz.ntmps15
   go_wp2_with (go_at_call 31;refine (jcQ _ _ (u64r n).1 (u64r n).2).mono ?_;rintro e w' ⟨rfl,rfl⟩)
   go_ret2
   exact⟨jcI (by unfold boxW;rw[if_neg (by omega),if_pos rfl,if_pos hs]) (by unfold boxE;rw[if_neg (by omega),if_pos rfl]),(by repeat' (first|(with_reducible exact Below.refl _ _)|(with_reducible assumption)|(with_reducible refine below_drewN ?_ _)|(with_reducible refine Below.drew ?_)|(with_reducible refine Below.alloc ?_ ?_ _)|(with_reducible refine Below.setCell ?_ ?_ _)|go_size))⟩
  ·have hs':jbF (IntKind.u64.wrap n)=false:=by simpa using hs
   go_enter Tryz.func15,Tryz.ntmps15
   go_wp2_with (go_at_call 31;refine (jcQ _ _ (u64r n).1 (u64r n).2).mono ?_;rintro e w' ⟨rfl,rfl⟩)
   go_ret2
   exact⟨jcI (by unfold boxW;rw[if_neg (by omega),if_pos rfl,if_neg hs]) (by unfold boxE;rw[if_neg (by omega),if_pos rfl]),(by repeat' (first|(with_reducible exact Below.refl _ _)|(with_reducible assumption)|(with_reducible refine below_drewN ?_ _)|(with_reducible refine Below.drew ?_)|(with_reducible refine Below.alloc ?_ ?_ _)|(with_reducible refine Below.setCell ?_ ?_ _)|go_size))⟩
 by_cases h4:n<loI k
 ·go_enter Tryz.func15,Tryz.ntmps15
  go_wp2_with (go_at_call 32;refine (je3 _ _).mono ?_;rintro e w' ⟨rfl,rfl⟩)
  go_ret2
  exact⟨jcI (by unfold boxW;rw[if_neg (by omega),if_neg h3,if_pos (by omega)]) (by unfold boxE;rw[if_neg (by omega),if_neg h3,if_pos (by omega)]),(by repeat' (first|(with_reducible exact Below.refl _ _)|(with_reducible assumption)|(with_reducible refine below_drewN ?_ _)|(with_reducible refine Below.drew ?_)|(with_reducible refine Below.alloc ?_ ?_ _)|(with_reducible refine Below.setCell ?_ ?_ _)|go_size))⟩
 by_cases h5:hiI k<n
 ·go_enter Tryz.func15,Tryz.ntmps15
  go_wp2_with (go_at_call 32;refine (je3 _ _).mono ?_;rintro e w' ⟨rfl,rfl⟩)
  go_ret2
  exact⟨jcI (by unfold boxW;rw[if_neg (by omega),if_neg h3,if_pos (by omega)]) (by unfold boxE;rw[if_neg (by omega),if_neg h3,if_pos (by omega)]),(by repeat' (first|(with_reducible exact Below.refl _ _)|(with_reducible assumption)|(with_reducible refine below_drewN ?_ _)|(with_reducible refine Below.drew ?_)|(with_reducible refine Below.alloc ?_ ?_ _)|(with_reducible refine Below.setCell ?_ ?_ _)|go_size))⟩
 have ho:=Lib.hid (or_tag k n h1' h2')
 go_enter Tryz.func15,Tryz.ntmps15
 go_wp2_with (go_at_call 32;refine (je3 _ _).mono ?_;rintro e w' ⟨rfl,rfl⟩)
 go_quiet ((go_at_call 33;exact Calls.quiet_of_same ((tag_any _ _ h1' h2').mono fun _ _ h=>⟨h.1,h.2.symm⟩)))
 go_wp2
 go_ret2
 exact⟨jcI (by unfold boxW;rw[if_neg (by omega),if_neg h3,if_neg (by omega)];exact ho.out) (by unfold boxE;rw[if_neg (by omega),if_neg h3,if_neg (by omega)]),(by repeat' (first|(with_reducible exact Below.refl _ _)|(with_reducible assumption)|(with_reducible refine below_drewN ?_ _)|(with_reducible refine Below.drew ?_)|(with_reducible refine Below.alloc ?_ ?_ _)|(with_reducible refine Below.setCell ?_ ?_ _)|go_size))⟩
def unK0 (w:Int):Int:=w / 281474976710656 - 65529
def unK (w:Int):Int:=if 3≤unK0 w then unK0 w+1 else unK0 w
def unN (w:Int):Int:=if unK w=2 then wrap64 (wrap32 (w % 4294967296)) else w % 4294967296
def jdp (w:Int):Bool:=decide (65529≤w / 281474976710656∧w / 281474976710656≤65534)
def unE (w:Int):Int:=
  if jdp w then (if boxE (unK w) (unN w)=0∧boxW (unK w) (unN w)=w then 0 else 3)
  else if jbF w∧w≠9221120237041090561 then 3 else 0
def jaw (w:Int):Int:=if unE w=0 then (if jdp w then unK w else 3) else 0
def jau (w:Int):Int:=if unE w=0 then (if jdp w then unN w else wrap64 w) else 0
theorem jck {k n e k' n' e':Int}(h1:k=k')(h2:n=n')(h3:e=e'):
  Ending.returned (.tuple #[.agg #[.int .i64 k,.int .i64 n],.int .i64 e])= .returned (.tuple #[.agg #[.int .i64 k',.int .i64 n'],.int .i64 e']):=by rw[h1,h2,h3]
set_option maxHeartbeats 400000 in
theorem jls (u:Int)(w:World)(h0:0≤u)(h1:u<18446744073709551616)(ht:jdp u=false)(hs:jbF u=false):
  Calls Tryz.prog 29 #[.int .u64 u] w fun e w'=>e= .returned (.tuple #[.agg #[.int .i64 (jaw u),.int .i64 (jau u)],.int .i64 (unE u)])∧Below w.heap.size w w':=by
 have hb:u / 281474976710656<65529∨65534<u / 281474976710656:=by simp[jdp] at ht;omega
 have hE:Hid (unE u=0):=by show unE u=0;simp[unE,ht,hs]
 have hK:Hid (jaw u=3):=by show jaw u=3;simp[jaw,hE.out,ht]
 have hN:Hid (jau u=wrap64 u):=by show jau u=_;simp[jau,hE.out,ht]
 clear ht
 rcases hb with hb|hb
 all_goals
  go_enter Tryz.func29,Tryz.ntmps29
  go_wp2_with (go_at_call 31;refine (jcQ _ _ h0 h1).mono ?_;rintro e w' ⟨rfl,rfl⟩)
  exact bodyPost_ret (v:= .tuple #[.agg #[.int .i64 3,.int .i64 (wrap64 u)],.int .i64 0]) (by simp[results,Tryz.results29,go_sem]) rfl ⟨jck hK.out.symm hN.out.symm hE.out.symm,(by repeat' (first|(with_reducible exact Below.refl _ _)|(with_reducible assumption)|(with_reducible refine below_drewN ?_ _)|(with_reducible refine Below.drew ?_)|(with_reducible refine Below.alloc ?_ ?_ _)|(with_reducible refine Below.setCell ?_ ?_ _)|go_size))⟩
set_option maxHeartbeats 400000 in
theorem jqq (w:World):
  Calls Tryz.prog 29 #[.int .u64 9221120237041090561] w fun e w'=>e= .returned (.tuple #[.agg #[.int .i64 (jaw 9221120237041090561),.int .i64 (jau 9221120237041090561)],.int .i64 (unE 9221120237041090561)])∧Below w.heap.size w w':=by
 have hs:jbF 9221120237041090561=true:=by decide+kernel
 have hE:Hid (unE 9221120237041090561=0):=by show unE _=_;decide+kernel
 have hK:Hid (jaw 9221120237041090561=3):=by show jaw _=_;decide+kernel
 have hN:Hid (jau 9221120237041090561=9221120237041090561):=by show jau _=_;decide+kernel
 go_enter Tryz.func29,Tryz.ntmps29
 go_wp2_with (go_at_call 31;refine (jcQ _ _ (by omega) (by omega)).mono ?_;rintro e w' ⟨rfl,rfl⟩)
 exact bodyPost_ret (v:= .tuple #[.agg #[.int .i64 3,.int .i64 9221120237041090561],.int .i64 0]) (by simp[results,Tryz.results29,go_sem]) rfl ⟨jck hK.out.symm hN.out.symm hE.out.symm,(by repeat' (first|(with_reducible exact Below.refl _ _)|(with_reducible assumption)|(with_reducible refine below_drewN ?_ _)|(with_reducible refine Below.drew ?_)|(with_reducible refine Below.alloc ?_ ?_ _)|(with_reducible refine Below.setCell ?_ ?_ _)|go_size))⟩
set_option maxHeartbeats 400000 in
theorem jjW (u:Int)(w:World)(h0:0≤u)(h1:u<18446744073709551616)(ht:jdp u=false)(hs:jbF u=true)(ho:(u !=9221120237041090561)=true):
  Calls Tryz.prog 29 #[.int .u64 u] w fun e w'=>e= .returned (.tuple #[.agg #[.int .i64 (jaw u),.int .i64 (jau u)],.int .i64 (unE u)])∧Below w.heap.size w w':=by
 have hb:u / 281474976710656<65529∨65534<u / 281474976710656:=by simp[jdp] at ht;omega
 have hE:Hid (unE u=3):=by show unE u=3;simp only[bne_iff_ne] at ho;simp[unE,ht,hs,ho]
 have hK:Hid (jaw u=0):=by show jaw u=0;simp[jaw,hE.out]
 have hN:Hid (jau u=0):=by show jau u=_;simp[jau,hE.out]
 clear ht
 rcases hb with hb|hb
 all_goals
  go_enter Tryz.func29,Tryz.ntmps29
  go_wp2_with (go_at_call 31;refine (jcQ _ _ h0 h1).mono ?_;rintro e w' ⟨rfl,rfl⟩)
  exact bodyPost_ret (v:= .tuple #[.agg #[.int .i64 0,.int .i64 0],.int .i64 3]) (by simp[results,Tryz.results29,go_sem]) rfl ⟨jck hK.out.symm hN.out.symm hE.out.symm,(by repeat' (first|(with_reducible exact Below.refl _ _)|(with_reducible assumption)|(with_reducible refine below_drewN ?_ _)|(with_reducible refine Below.drew ?_)|(with_reducible refine Below.alloc ?_ ?_ _)|(with_reducible refine Below.setCell ?_ ?_ _)|go_size))⟩
set_option maxHeartbeats 1000000 in
theorem jod (u:Int)(w:World)(h0:0≤u)(h1:u<18446744073709551616)(ht:jdp u=true)(hk:u / 281474976710656<65531):
  Calls Tryz.prog 29 #[.int .u64 u] w fun e w'=>e= .returned (.tuple #[.agg #[.int .i64 (jaw u),.int .i64 (jau u)],.int .i64 (unE u)])∧Below w.heap.size w w':=by
 have hb:65529≤u / 281474976710656∧u / 281474976710656≤65534:=by simpa[jdp] using ht
 obtain⟨hb1,hb2⟩:=hb
 have hK:Hid (unK u=u / 281474976710656 - 65529):=by show unK u=_;unfold unK unK0;split<;>omega
 have hN:Hid (unN u=u % 4294967296):=by show unN u=_;unfold unN;rw[hK.out];rw[if_neg (by omega)]
 have hT:=Lib.hid ht;clear ht
 by_cases hE:boxE (u / 281474976710656 - 65529) (u % 4294967296)=0
 ·by_cases hW:boxW (u / 281474976710656 - 65529) (u % 4294967296)=u
  ·have h3:Hid (unE u=0):=by show unE u=0;simp[unE,hT.out,hK.out,hN.out,hE,hW]
   have h4:Hid (jaw u=u / 281474976710656 - 65529):=by show jaw u=_;simp[jaw,h3.out,hT.out,hK.out]
   have h5:Hid (jau u=u % 4294967296):=by show jau u=_;simp[jau,h3.out,hT.out,hN.out]
   have HE:(boxE (u / 281474976710656 - 65529) (u % 4294967296) !=0)=false:=by simp[hE]
   have HW:(boxW (u / 281474976710656 - 65529) (u % 4294967296) !=u)=false:=by simp[hW]
   clear hE hW
   go_enter Tryz.func29,Tryz.ntmps29
   go_wp2_with (go_at_call 15;refine (jcM _ _ _).mono ?_;rintro e w' ⟨rfl,hbw⟩;obtain⟨hc,hf,hz⟩:=jji hbw;have hB:=jbv (B:=w.heap.size) (w:=w) hbw (by repeat' (first|(with_reducible exact Below.refl _ _)|(with_reducible assumption)|(with_reducible refine below_drewN ?_ _)|(with_reducible refine Below.drew ?_)|(with_reducible refine Below.alloc ?_ ?_ _)|(with_reducible refine Below.setCell ?_ ?_ _)|go_size)) (by simp;try omega);have hs0:(w'.cell? ⟨w.heap.size,0,none⟩).isSome=true:=(by rw[hc _ _ (by simp;omega)];simp[go_sem]);have hs1:(w'.cell? ⟨w.heap.size,1,none⟩).isSome=true:=(by rw[hc _ _ (by simp;omega)];simp[go_sem]);simp at hz)
   exact bodyPost_ret (v:= .tuple #[.agg #[.int .i64 (u / 281474976710656 - 65529),.int .i64 (u % 4294967296)],.int .i64 0]) (by simp[results,Tryz.results29,go_sem, *]) rfl ⟨jck h4.out.symm h5.out.symm h3.out.symm,(by repeat' (first|(with_reducible exact Below.refl _ _)|(with_reducible assumption)|(with_reducible refine below_drewN ?_ _)|(with_reducible refine Below.drew ?_)|(with_reducible refine Below.alloc ?_ ?_ _)|(with_reducible refine Below.setCell ?_ ?_ _)|go_size))⟩
  ·have h3:Hid (unE u=3):=by show unE u=3;simp[unE,hT.out,hK.out,hN.out,hW]
   have h4:Hid (jaw u=0):=by show jaw u=_;simp[jaw,h3.out]
   have h5:Hid (jau u=0):=by show jau u=_;simp[jau,h3.out]
   have HE:(boxE (u / 281474976710656 - 65529) (u % 4294967296) !=0)=false:=by simp[hE]
   have HW:(boxW (u / 281474976710656 - 65529) (u % 4294967296) !=u)=true:=by simp[hW]
   clear hE hW
   go_enter Tryz.func29,Tryz.ntmps29
   go_wp2_with (go_at_call 15;refine (jcM _ _ _).mono ?_;rintro e w' ⟨rfl,hbw⟩;obtain⟨hc,hf,hz⟩:=jji hbw;have hB:=jbv (B:=w.heap.size) (w:=w) hbw (by repeat' (first|(with_reducible exact Below.refl _ _)|(with_reducible assumption)|(with_reducible refine below_drewN ?_ _)|(with_reducible refine Below.drew ?_)|(with_reducible refine Below.alloc ?_ ?_ _)|(with_reducible refine Below.setCell ?_ ?_ _)|go_size)) (by simp;try omega);have hs0:(w'.cell? ⟨w.heap.size,0,none⟩).isSome=true:=(by rw[hc _ _ (by simp;omega)];simp[go_sem]);have hs1:(w'.cell? ⟨w.heap.size,1,none⟩).isSome=true:=(by rw[hc _ _ (by simp;omega)];simp[go_sem]);simp at hz)
   exact bodyPost_ret (v:= .tuple #[.agg #[.int .i64 (0),.int .i64 (0)],.int .i64 3]) (by simp[results,Tryz.results29,go_sem, *]) rfl ⟨jck h4.out.symm h5.out.symm h3.out.symm,(by repeat' (first|(with_reducible exact Below.refl _ _)|(with_reducible assumption)|(with_reducible refine below_drewN ?_ _)|(with_reducible refine Below.drew ?_)|(with_reducible refine Below.alloc ?_ ?_ _)|(with_reducible refine Below.setCell ?_ ?_ _)|go_size))⟩
 ·have h3:Hid (unE u=3):=by show unE u=3;simp[unE,hT.out,hK.out,hN.out,hE]
  have h4:Hid (jaw u=0):=by show jaw u=_;simp[jaw,h3.out]
  have h5:Hid (jau u=0):=by show jau u=_;simp[jau,h3.out]
  have HE:(boxE (u / 281474976710656 - 65529) (u % 4294967296) !=0)=true:=by simp[hE]
  clear hE
  go_enter Tryz.func29,Tryz.ntmps29
  go_wp2_with (go_at_call 15;refine (jcM _ _ _).mono ?_;rintro e w' ⟨rfl,hbw⟩;obtain⟨hc,hf,hz⟩:=jji hbw;have hB:=jbv (B:=w.heap.size) (w:=w) hbw (by repeat' (first|(with_reducible exact Below.refl _ _)|(with_reducible assumption)|(with_reducible refine below_drewN ?_ _)|(with_reducible refine Below.drew ?_)|(with_reducible refine Below.alloc ?_ ?_ _)|(with_reducible refine Below.setCell ?_ ?_ _)|go_size)) (by simp;try omega);have hs0:(w'.cell? ⟨w.heap.size,0,none⟩).isSome=true:=(by rw[hc _ _ (by simp;omega)];simp[go_sem]);have hs1:(w'.cell? ⟨w.heap.size,1,none⟩).isSome=true:=(by rw[hc _ _ (by simp;omega)];simp[go_sem]);simp at hz)
  exact bodyPost_ret (v:= .tuple #[.agg #[.int .i64 (0),.int .i64 (0)],.int .i64 3]) (by simp[results,Tryz.results29,go_sem, *]) rfl ⟨jck h4.out.symm h5.out.symm h3.out.symm,(by repeat' (first|(with_reducible exact Below.refl _ _)|(with_reducible assumption)|(with_reducible refine below_drewN ?_ _)|(with_reducible refine Below.drew ?_)|(with_reducible refine Below.alloc ?_ ?_ _)|(with_reducible refine Below.setCell ?_ ?_ _)|go_size))⟩
set_option maxHeartbeats 1000000 in
theorem joc (u:Int)(w:World)(h0:0≤u)(h1:u<18446744073709551616)(ht:jdp u=true)(hk:u / 281474976710656=65531):
  Calls Tryz.prog 29 #[.int .u64 u] w fun e w'=>e= .returned (.tuple #[.agg #[.int .i64 (jaw u),.int .i64 (jau u)],.int .i64 (unE u)])∧Below w.heap.size w w':=by
 have hb:65529≤u / 281474976710656∧u / 281474976710656≤65534:=by simpa[jdp] using ht
 obtain⟨hb1,hb2⟩:=hb
 have hK:Hid (unK u=2):=by show unK u=_;unfold unK unK0;rw[hk];rfl
 have hN:Hid (unN u=wrap64 (wrap32 (u % 4294967296))):=by show unN u=_;unfold unN;rw[hK.out];rw[if_pos rfl]
 have hT:=Lib.hid ht;clear ht
 by_cases hE:boxE (2) (wrap64 (wrap32 (u % 4294967296)))=0
 ·by_cases hW:boxW (2) (wrap64 (wrap32 (u % 4294967296)))=u
  ·have h3:Hid (unE u=0):=by show unE u=0;simp[unE,hT.out,hK.out,hN.out,hE,hW]
   have h4:Hid (jaw u=2):=by show jaw u=_;simp[jaw,h3.out,hT.out,hK.out]
   have h5:Hid (jau u=wrap64 (wrap32 (u % 4294967296))):=by show jau u=_;simp[jau,h3.out,hT.out,hN.out]
   have HE:(boxE (2) (wrap64 (wrap32 (u % 4294967296))) !=0)=false:=by simp[hE]
   have HW:(boxW (2) (wrap64 (wrap32 (u % 4294967296))) !=u)=false:=by simp[hW]
   clear hE hW
   go_enter Tryz.func29,Tryz.ntmps29
   go_wp2_with (go_at_call 15;refine (jcM _ _ _).mono ?_;rintro e w' ⟨rfl,hbw⟩;obtain⟨hc,hf,hz⟩:=jji hbw;have hB:=jbv (B:=w.heap.size) (w:=w) hbw (by repeat' (first|(with_reducible exact Below.refl _ _)|(with_reducible assumption)|(with_reducible refine below_drewN ?_ _)|(with_reducible refine Below.drew ?_)|(with_reducible refine Below.alloc ?_ ?_ _)|(with_reducible refine Below.setCell ?_ ?_ _)|go_size)) (by simp;try omega);have hs0:(w'.cell? ⟨w.heap.size,0,none⟩).isSome=true:=(by rw[hc _ _ (by simp;omega)];simp[go_sem]);have hs1:(w'.cell? ⟨w.heap.size,1,none⟩).isSome=true:=(by rw[hc _ _ (by simp;omega)];simp[go_sem]);simp at hz)
   exact bodyPost_ret (v:= .tuple #[.agg #[.int .i64 (2),.int .i64 (wrap64 (wrap32 (u % 4294967296)))],.int .i64 0]) (by simp[results,Tryz.results29,go_sem, *]) rfl ⟨jck h4.out.symm h5.out.symm h3.out.symm,(by repeat' (first|(with_reducible exact Below.refl _ _)|(with_reducible assumption)|(with_reducible refine below_drewN ?_ _)|(with_reducible refine Below.drew ?_)|(with_reducible refine Below.alloc ?_ ?_ _)|(with_reducible refine Below.setCell ?_ ?_ _)|go_size))⟩
  ·have h3:Hid (unE u=3):=by show unE u=3;simp[unE,hT.out,hK.out,hN.out,hW]
   have h4:Hid (jaw u=0):=by show jaw u=_;simp[jaw,h3.out]
   have h5:Hid (jau u=0):=by show jau u=_;simp[jau,h3.out]
   have HE:(boxE (2) (wrap64 (wrap32 (u % 4294967296))) !=0)=false:=by simp[hE]
   have HW:(boxW (2) (wrap64 (wrap32 (u % 4294967296))) !=u)=true:=by simp[hW]
   clear hE hW
   go_enter Tryz.func29,Tryz.ntmps29
   go_wp2_with (go_at_call 15;refine (jcM _ _ _).mono ?_;rintro e w' ⟨rfl,hbw⟩;obtain⟨hc,hf,hz⟩:=jji hbw;have hB:=jbv (B:=w.heap.size) (w:=w) hbw (by repeat' (first|(with_reducible exact Below.refl _ _)|(with_reducible assumption)|(with_reducible refine below_drewN ?_ _)|(with_reducible refine Below.drew ?_)|(with_reducible refine Below.alloc ?_ ?_ _)|(with_reducible refine Below.setCell ?_ ?_ _)|go_size)) (by simp;try omega);have hs0:(w'.cell? ⟨w.heap.size,0,none⟩).isSome=true:=(by rw[hc _ _ (by simp;omega)];simp[go_sem]);have hs1:(w'.cell? ⟨w.heap.size,1,none⟩).isSome=true:=(by rw[hc _ _ (by simp;omega)];simp[go_sem]);simp at hz)
   exact bodyPost_ret (v:= .tuple #[.agg #[.int .i64 (0),.int .i64 (0)],.int .i64 3]) (by simp[results,Tryz.results29,go_sem, *]) rfl ⟨jck h4.out.symm h5.out.symm h3.out.symm,(by repeat' (first|(with_reducible exact Below.refl _ _)|(with_reducible assumption)|(with_reducible refine below_drewN ?_ _)|(with_reducible refine Below.drew ?_)|(with_reducible refine Below.alloc ?_ ?_ _)|(with_reducible refine Below.setCell ?_ ?_ _)|go_size))⟩
 ·have h3:Hid (unE u=3):=by show unE u=3;simp[unE,hT.out,hK.out,hN.out,hE]
  have h4:Hid (jaw u=0):=by show jaw u=_;simp[jaw,h3.out]
  have h5:Hid (jau u=0):=by show jau u=_;simp[jau,h3.out]
  have HE:(boxE (2) (wrap64 (wrap32 (u % 4294967296))) !=0)=true:=by simp[hE]
  clear hE
  go_enter Tryz.func29,Tryz.ntmps29
  go_wp2_with (go_at_call 15;refine (jcM _ _ _).mono ?_;rintro e w' ⟨rfl,hbw⟩;obtain⟨hc,hf,hz⟩:=jji hbw;have hB:=jbv (B:=w.heap.size) (w:=w) hbw (by repeat' (first|(with_reducible exact Below.refl _ _)|(with_reducible assumption)|(with_reducible refine below_drewN ?_ _)|(with_reducible refine Below.drew ?_)|(with_reducible refine Below.alloc ?_ ?_ _)|(with_reducible refine Below.setCell ?_ ?_ _)|go_size)) (by simp;try omega);have hs0:(w'.cell? ⟨w.heap.size,0,none⟩).isSome=true:=(by rw[hc _ _ (by simp;omega)];simp[go_sem]);have hs1:(w'.cell? ⟨w.heap.size,1,none⟩).isSome=true:=(by rw[hc _ _ (by simp;omega)];simp[go_sem]);simp at hz)
  exact bodyPost_ret (v:= .tuple #[.agg #[.int .i64 (0),.int .i64 (0)],.int .i64 3]) (by simp[results,Tryz.results29,go_sem, *]) rfl ⟨jck h4.out.symm h5.out.symm h3.out.symm,(by repeat' (first|(with_reducible exact Below.refl _ _)|(with_reducible assumption)|(with_reducible refine below_drewN ?_ _)|(with_reducible refine Below.drew ?_)|(with_reducible refine Below.alloc ?_ ?_ _)|(with_reducible refine Below.setCell ?_ ?_ _)|go_size))⟩
set_option maxHeartbeats 1000000 in
theorem job (u:Int)(w:World)(h0:0≤u)(h1:u<18446744073709551616)(ht:jdp u=true)(hk:65531<u / 281474976710656):
  Calls Tryz.prog 29 #[.int .u64 u] w fun e w'=>e= .returned (.tuple #[.agg #[.int .i64 (jaw u),.int .i64 (jau u)],.int .i64 (unE u)])∧Below w.heap.size w w':=by
 have hb:65529≤u / 281474976710656∧u / 281474976710656≤65534:=by simpa[jdp] using ht
 obtain⟨hb1,hb2⟩:=hb
 have hK:Hid (unK u=u / 281474976710656 - 65529+1):=by show unK u=_;unfold unK unK0;rw[if_pos (by omega)]
 have hN:Hid (unN u=u % 4294967296):=by show unN u=_;unfold unN;rw[hK.out];rw[if_neg (by omega)]
 have hT:=Lib.hid ht;clear ht
 by_cases hE:boxE (u / 281474976710656 - 65529+1) (u % 4294967296)=0
 ·by_cases hW:boxW (u / 281474976710656 - 65529+1) (u % 4294967296)=u
  ·have h3:Hid (unE u=0):=by show unE u=0;simp[unE,hT.out,hK.out,hN.out,hE,hW]
   have h4:Hid (jaw u=u / 281474976710656 - 65529+1):=by show jaw u=_;simp[jaw,h3.out,hT.out,hK.out]
   have h5:Hid (jau u=u % 4294967296):=by show jau u=_;simp[jau,h3.out,hT.out,hN.out]
   have HE:(boxE (u / 281474976710656 - 65529+1) (u % 4294967296) !=0)=false:=by simp[hE]
   have HW:(boxW (u / 281474976710656 - 65529+1) (u % 4294967296) !=u)=false:=by simp[hW]
   clear hE hW
   go_enter Tryz.func29,Tryz.ntmps29
   go_wp2_with (go_at_call 15;refine (jcM _ _ _).mono ?_;rintro e w' ⟨rfl,hbw⟩;obtain⟨hc,hf,hz⟩:=jji hbw;have hB:=jbv (B:=w.heap.size) (w:=w) hbw (by repeat' (first|(with_reducible exact Below.refl _ _)|(with_reducible assumption)|(with_reducible refine below_drewN ?_ _)|(with_reducible refine Below.drew ?_)|(with_reducible refine Below.alloc ?_ ?_ _)|(with_reducible refine Below.setCell ?_ ?_ _)|go_size)) (by simp;try omega);have hs0:(w'.cell? ⟨w.heap.size,0,none⟩).isSome=true:=(by rw[hc _ _ (by simp;omega)];simp[go_sem]);have hs1:(w'.cell? ⟨w.heap.size,1,none⟩).isSome=true:=(by rw[hc _ _ (by simp;omega)];simp[go_sem]);simp at hz)
   exact bodyPost_ret (v:= .tuple #[.agg #[.int .i64 (u / 281474976710656 - 65529+1),.int .i64 (u % 4294967296)],.int .i64 0]) (by simp[results,Tryz.results29,go_sem, *]) rfl ⟨jck h4.out.symm h5.out.symm h3.out.symm,(by repeat' (first|(with_reducible exact Below.refl _ _)|(with_reducible assumption)|(with_reducible refine below_drewN ?_ _)|(with_reducible refine Below.drew ?_)|(with_reducible refine Below.alloc ?_ ?_ _)|(with_reducible refine Below.setCell ?_ ?_ _)|go_size))⟩
  ·have h3:Hid (unE u=3):=by show unE u=3;simp[unE,hT.out,hK.out,hN.out,hW]
   have h4:Hid (jaw u=0):=by show jaw u=_;simp[jaw,h3.out]
   have h5:Hid (jau u=0):=by show jau u=_;simp[jau,h3.out]
   have HE:(boxE (u / 281474976710656 - 65529+1) (u % 4294967296) !=0)=false:=by simp[hE]
   have HW:(boxW (u / 281474976710656 - 65529+1) (u % 4294967296) !=u)=true:=by simp[hW]
   clear hE hW
   go_enter Tryz.func29,Tryz.ntmps29
   go_wp2_with (go_at_call 15;refine (jcM _ _ _).mono ?_;rintro e w' ⟨rfl,hbw⟩;obtain⟨hc,hf,hz⟩:=jji hbw;have hB:=jbv (B:=w.heap.size) (w:=w) hbw (by repeat' (first|(with_reducible exact Below.refl _ _)|(with_reducible assumption)|(with_reducible refine below_drewN ?_ _)|(with_reducible refine Below.drew ?_)|(with_reducible refine Below.alloc ?_ ?_ _)|(with_reducible refine Below.setCell ?_ ?_ _)|go_size)) (by simp;try omega);have hs0:(w'.cell? ⟨w.heap.size,0,none⟩).isSome=true:=(by rw[hc _ _ (by simp;omega)];simp[go_sem]);have hs1:(w'.cell? ⟨w.heap.size,1,none⟩).isSome=true:=(by rw[hc _ _ (by simp;omega)];simp[go_sem]);simp at hz)
   exact bodyPost_ret (v:= .tuple #[.agg #[.int .i64 (0),.int .i64 (0)],.int .i64 3]) (by simp[results,Tryz.results29,go_sem, *]) rfl ⟨jck h4.out.symm h5.out.symm h3.out.symm,(by repeat' (first|(with_reducible exact Below.refl _ _)|(with_reducible assumption)|(with_reducible refine below_drewN ?_ _)|(with_reducible refine Below.drew ?_)|(with_reducible refine Below.alloc ?_ ?_ _)|(with_reducible refine Below.setCell ?_ ?_ _)|go_size))⟩
 ·have h3:Hid (unE u=3):=by show unE u=3;simp[unE,hT.out,hK.out,hN.out,hE]
  have h4:Hid (jaw u=0):=by show jaw u=_;simp[jaw,h3.out]
  have h5:Hid (jau u=0):=by show jau u=_;simp[jau,h3.out]
  have HE:(boxE (u / 281474976710656 - 65529+1) (u % 4294967296) !=0)=true:=by simp[hE]
  clear hE
  go_enter Tryz.func29,Tryz.ntmps29
  go_wp2_with (go_at_call 15;refine (jcM _ _ _).mono ?_;rintro e w' ⟨rfl,hbw⟩;obtain⟨hc,hf,hz⟩:=jji hbw;have hB:=jbv (B:=w.heap.size) (w:=w) hbw (by repeat' (first|(with_reducible exact Below.refl _ _)|(with_reducible assumption)|(with_reducible refine below_drewN ?_ _)|(with_reducible refine Below.drew ?_)|(with_reducible refine Below.alloc ?_ ?_ _)|(with_reducible refine Below.setCell ?_ ?_ _)|go_size)) (by simp;try omega);have hs0:(w'.cell? ⟨w.heap.size,0,none⟩).isSome=true:=(by rw[hc _ _ (by simp;omega)];simp[go_sem]);have hs1:(w'.cell? ⟨w.heap.size,1,none⟩).isSome=true:=(by rw[hc _ _ (by simp;omega)];simp[go_sem]);simp at hz)
  exact bodyPost_ret (v:= .tuple #[.agg #[.int .i64 (0),.int .i64 (0)],.int .i64 3]) (by simp[results,Tryz.results29,go_sem, *]) rfl ⟨jck h4.out.symm h5.out.symm h3.out.symm,(by repeat' (first|(with_reducible exact Below.refl _ _)|(with_reducible assumption)|(with_reducible refine below_drewN ?_ _)|(with_reducible refine Below.drew ?_)|(with_reducible refine Below.alloc ?_ ?_ _)|(with_reducible refine Below.setCell ?_ ?_ _)|go_size))⟩
theorem jqr (u:Int)(w:World)(h0:0≤u)(h1:u<18446744073709551616):
  Calls Tryz.prog 29 #[.int .u64 u] w fun e w'=>e= .returned (.tuple #[.agg #[.int .i64 (jaw u),.int .i64 (jau u)],.int .i64 (unE u)])∧Below w.heap.size w w':=by
 cases ht:jdp u with
 |true=>
  by_cases hk:u / 281474976710656=65531
  ·exact joc u w h0 h1 ht hk
  ·by_cases hk2:u / 281474976710656<65531
   ·exact jod u w h0 h1 ht hk2
   ·exact job u w h0 h1 ht (by omega)
 |false=>
  cases hs:jbF u with
  |false=>exact jls u w h0 h1 ht hs
  |true=>
   by_cases ho:u=9221120237041090561
   ·subst ho;exact jqq w
   ·exact jjW u w h0 h1 ht hs (by simpa using ho)
def jdZ (u:Int):Int:=if unE u=0 then jaw u else -1
end
section
open Go Go.RowKit
def boxX (l:List (FuncId×Bool)):jaG:=fun f args fl h=>match args with
  |[.agg [.val (.int .i64 k),.val (.int .i64 n)]]=>if f=15 then some (.tuple [.val (.int .u64 (boxW k n)),I64 (boxE k n)],h) else none
  |[.val (.int .u64 u)]=>if f=29∧0≤u∧u<18446744073709551616 then some (.tuple [.agg [I64 (jaw u),I64 (jau u)],I64 (unE u)],h) else none
  |[]=>jia l f [] fl h
  |_=>none
theorem jlP {m:Map}{k:IntKind}{n:Int}{v:Value}(h:VR m (.val (.int k n)) v):v= .int k n:=h.lit
theorem boxX_ok {l:List (FuncId×Bool)}(hc:jbo Tryz.prog (jia l)):jbo Tryz.prog (boxX l):=by
 intro f args fl h v h' he
 unfold boxX at he
 split at he
 ·rename_i k n
  split at he
  ·rename_i hf
   subst hf
   injection he with he;injection he with e1 e2;subst e1;subst e2
   have hb:(Tryz.f15.body).isSome=true:=by kernel_rfl
   obtain⟨c,hc'⟩:=Option.isSome_iff_exists.1 hb
   refine⟨⟨Tryz.f15,c,Tryz.func15,by kernel_rfl,hc'⟩,fun n0 B0 m w vals r hfl hv=>?_⟩
   have hvals:vals= #[.agg #[.int .i64 k,.int .i64 n]]:=by
    obtain⟨hl,hg⟩:=hv
    match hvl:vals.toList,hl,hg with
    |[x],_,hg=>
     have:=hg 0 _ x rfl rfl
     obtain⟨vs,rfl,h2⟩:=VRs.of_agg this
     match hvs:vs.toList,h2 with
     |[a,b],h2=>
      have ha:=jlP (h2.2 0 _ a rfl rfl)
      have hb:=jlP (h2.2 1 _ b rfl rfl)
      subst ha;subst hb
      have e1:vs= #[.int .i64 k,.int .i64 n]:=by apply Array.ext';simpa using hvs
      subst e1
      apply Array.ext';simpa using hvl
     |[],h2=>have:=h2.1;simp at this
     |[_],h2=>have:=h2.1;simp at this
     |_::_::_::_,h2=>have:=h2.1;simp at this
   subst hvals
   refine (jcM k n w).mono fun e W' hp=>?_
   obtain⟨rfl,hbl⟩:=hp
   refine⟨_,m,rfl,Post.below r hbl,?_⟩
   exact VRs.tuple (vs:= #[.int .u64 (boxW k n),.int .i64 (boxE k n)]) (.cons (.val rfl) (.cons (.val rfl) .nil))
  ·cases he
 ·rename_i u
  split at he
  ·rename_i hf
   obtain⟨hf,h0,h1⟩:=hf
   subst hf
   injection he with he;injection he with e1 e2;subst e1;subst e2
   have hb:(Tryz.f29.body).isSome=true:=by kernel_rfl
   obtain⟨c,hc'⟩:=Option.isSome_iff_exists.1 hb
   refine⟨⟨Tryz.f29,c,Tryz.func29,by kernel_rfl,hc'⟩,fun n0 B0 m w vals r hfl hv=>?_⟩
   have hvals:vals= #[.int .u64 u]:=by
    obtain⟨hl,hg⟩:=hv
    match hvl:vals.toList,hl,hg with
    |[x],_,hg=>
     have hx:=jlP (hg 0 _ x rfl rfl)
     subst hx
     apply Array.ext';simpa using hvl
   subst hvals
   refine (jqr u w h0 h1).mono fun e W' hp=>?_
   obtain⟨rfl,hbl⟩:=hp
   refine⟨_,m,rfl,Post.below r hbl,?_⟩
   refine VRs.tuple (vs:= #[.agg #[.int .i64 (jaw u),.int .i64 (jau u)],.int .i64 (unE u)]) (.cons ?_ (.cons (.val rfl) .nil))
   exact VRs.agg (vs:= #[.int .i64 (jaw u),.int .i64 (jau u)]) (.cons (.val rfl) (.cons (.val rfl) .nil))
  ·cases he
 ·exact hc _ _ _ _ _ _ he
 ·cases he
variable {tb:List (FuncId×Bool)}{L:Nat→Bool}{H:ZH}{K:ZV→ZH→Prop}
theorem jai {f:FuncId}{z:ZV}{zs:List ZV}(hf:f≠15∧f≠29): ∀(args:List AV) (fl:Nat→Bool) (hp:Heap),args.length=(z::zs).length→boxX tb f args fl hp=none:=fun args fl hp ha=>by
 unfold boxX
 split
 ·rw[if_neg hf.1]
 ·rw[if_neg (fun h=>hf.2 h.1)]
 ·simp at ha
 ·rfl
theorem box_z {k n:Int}(hK:K (.tuple [.val (.int .u64 (boxW k n)),Z64 (boxE k n)]) H):ZC (boxX tb) (jal Tryz.prog) 15 [.agg [Z64 k,Z64 n]] L H K:=by
 intro fl w args r e ha
 subst e
 obtain⟨a,ha0,ha1⟩:=ha.get (i:=0) rfl
 obtain⟨ys,rfl,hys⟩:=ha1.agg_inv
 have e1:ys=[I64 k,I64 n]:=by
  have h1:=hys.1
  match ys,h1,hys with
  |[x,y],_,hys=>rw[(hys.2 0 _ x rfl rfl).val_inv,(hys.2 1 _ y rfl rfl).val_inv]
 have e2:args=[.agg ys]:=by
  have:=ha.1
  match args,this,ha0 with
  |[x],_,hv0=>simp at hv0;rw[hv0]
 subst e1;subst e2
 refine AC.const (v:= .tuple [.val (.int .u64 (boxW k n)),I64 (boxE k n)]) (h':=w.h) (by simp[boxX]) ⟨_,w,rfl,r,Ext.refl w,?_,hK⟩
 exact ZRs.toTuple (.cons (.fr (.val _)) (.cons (.fr (.val _)) .nil))
theorem jlr {u:Int}(h0:0≤u∧u<18446744073709551616)(hK:K (.tuple [.agg [Z64 (jaw u),Z64 (jau u)],Z64 (unE u)]) H):ZC (boxX tb) (jal Tryz.prog) 29 [.val (.int .u64 u)] L H K:=by
 intro fl w args r e ha
 subst e
 obtain⟨a,ha0,ha1⟩:=ha.get (i:=0) rfl
 have ea:=ha1.val_inv
 subst ea
 have e2:args=[.val (.int .u64 u)]:=by
  have:=ha.1
  match args,this,ha0 with
  |[x],_,hv0=>simp at hv0;rw[hv0]
 subst e2
 refine AC.const (v:= .tuple [.agg [I64 (jaw u),I64 (jau u)],I64 (unE u)]) (h':=w.h) (by simp[boxX,h0]) ⟨_,w,rfl,r,Ext.refl w,?_,hK⟩
 exact ZRs.toTuple (.cons (ZRs.toAgg (.cons (.fr (.val _)) (.cons (.fr (.val _)) .nil))) (.cons (.fr (.val _)) .nil))
end
section
open Go Go.RowKit
def jfp:jar:= .seq (.ops [kkI 1 (.box 2 (.tmp 0)),kkI 2 (.zero [kkS,kkS]),kkI 3 (.mv (.av kkS)),kkI 4 (.mv (kkV 0))]) (.seq (.seq (.ops [kkI 14 (.load (some 2) (.tmp 1)),kkI 15 (.call (kkF 37) [(.tmp 14)]),kkM 5 15]) (.seq (.ops [kkM 16 5,kkI 17 (.bin .neq (.tmp 16) (kkV 0))]) (.cond (.tmp 17) (.seq (.ops [kkI 18 (.build [kkS,kkS] []),kkM 19 5,⟨none,.store 2 (.tmp 2) (.tmp 18),none,true⟩,kkI 3 (.mv (.av kkS)),kkM 4 19]) (.ret)) (.skip)))) (.seq (.ops [kkA 20 0 1,kkL 21 20,kkI 22 (.mkMap),kkI 23 (.build [kkS,kkS,(.val (.map none)),kkS] [(0,1,(.tmp 21)),(2,1,(.tmp 22))]),kkI 24 (.box 4 (.tmp 23)),kkM 6 24]) (.seq (.ops [kkI 7 (.mv (.av kkS))]) (.seq (.seq (.ops [kkA 25 1 1,kkL 26 25,kkI 27 (.len (.tmp 26)),kkI 28 (.mv (kkV 0))]) (jaF 0 1 29 28 27 38 (.seq (.ops [kkI 30 (.indexAddr 1 (.tmp 26) (.tmp 28)),kkL 31 30,kkM 9 31]) (.ops [kkM 32 7,kkM 33 6,kkM 34 9,kkI 35 (.call (kkF 38) [(.tmp 33),(.tmp 34)]),kkI 36 (.lits 1 1 [(.val (.int .u64 0))] [(0,1,(.tmp 35))]),kkI 37 (.append 1 8 (.tmp 32) (.tmp 36)),kkM 7 37])))) (.seq (.seq (.ops [kkI 10 (.mv (kkV 0))]) (.block 2 (.loop (.seq (.seq (.ops [kkM 39 10,kkM 40 6,kkI 41 (.nilCheck (.tmp 40)),kkA 42 1 41,kkL 43 42,kkI 44 (.len (.tmp 43)),kkI 45 (.bin .lss (.tmp 39) (.tmp 44))]) (.cond (.tmp 45) (.skip) (.exit 2))) (.block 3 (.seq (.ops [kkM 46 6,kkI 47 (.nilCheck (.tmp 46)),kkA 48 1 47,kkL 49 48,kkM 50 10,kkI 51 (.indexAddr 1 (.tmp 49) (.tmp 50)),kkL 52 51,kkI 53 (.call (kkF 39) [(.tmp 52)]),kkM 11 53]) (.seq (.seq (.ops [kkM 54 10,kkI 55 (.bin .add (.tmp 54) (kkV 1)),kkM 12 55]) (.block 4 (.loop (.seq (.seq (.ops [kkM 56 12,kkM 57 10,kkM 58 11,kkI 59 (.bin .add (.tmp 57) (.tmp 58)),kkI 60 (.bin .leq (.tmp 56) (.tmp 59))]) (.cond (.tmp 60) (.skip) (.exit 4))) (.seq (.block 5 (.seq (.ops [kkM 63 6,kkM 64 6,kkI 65 (.nilCheck (.tmp 64)),kkA 66 1 65,kkL 67 66,kkM 68 12,kkI 69 (.indexAddr 1 (.tmp 67) (.tmp 68)),kkL 70 69,kkI 71 (.call (kkF 38) [(.tmp 63),(.tmp 70)]),kkM 13 71]) (.ops [kkM 72 6,kkI 73 (.nilCheck (.tmp 72)),kkA 74 1 73,kkL 75 74,kkM 76 12,kkM 77 13,kkI 78 (.indexAddr 1 (.tmp 75) (.tmp 76)),⟨none,.store 1 (.tmp 78) (.tmp 77),none,true⟩]))) (.ops [kkM 61 12,kkI 62 (.bin .add (.tmp 61) (kkV 1)),kkM 12 62])))))) (.ops [kkM 79 10,kkM 80 11,kkI 81 (.bin .add (kkV 1) (.tmp 80)),kkI 82 (.bin .add (.tmp 79) (.tmp 81)),kkM 10 82])))))))) (.seq (.opsD [kkM 83 6,kkI 84 (.nilCheck (.tmp 83)),kkA 85 1 84,kkL 86 85,kkM 87 7,kkI 88 (.build [kkS,kkS] [(0,1,(.tmp 86)),(1,1,(.tmp 87))]),kkM 89 6,kkI 90 (.nilCheck (.tmp 89)),kkA 91 3 90,⟨(some 92),.load none (.tmp 91),none,false⟩,⟨none,.store 2 (.tmp 2) (.tmp 88),none,false⟩,kkM 3 92,kkI 4 (.mv (kkV 0))]) (.ret)))))))
theorem jkL:jal Tryz.prog 20=some ⟨93,jfp,[.cell 2 (some 2),.tmp 3,.tmp 4]⟩:=by kernel_rfl
def jix:jar:= .seq (.ops [kkI 1 (.box 2 (.tmp 0)),kkI 2 (.mv (kkV 0))]) (.seq (.seq (.ops [kkA 14 0 1,kkL 15 14,kkI 16 (.len (.tmp 15)),kkI 17 (.bin .gtr (.tmp 16) (kkV 2000)),kkM 18 17,⟨(some 19),.fieldAddr 1 (.tmp 1),(some (18,false)),true⟩,⟨(some 20),.load none (.tmp 19),(some (18,false)),true⟩,⟨(some 21),.len (.tmp 20),(some (18,false)),true⟩,⟨(some 22),.bin .gtr (.tmp 21) (kkV 100),(some (18,false)),true⟩,kkI 23 (.pick (.tmp 18) (.av (.val (.bool true))) (.tmp 22))]) (.cond (.tmp 23) (.seq (.ops [kkI 2 (.mv (kkV 2))]) (.ret)) (.skip))) (.seq (.ops [kkA 25 0 1,kkL 26 25,kkI 27 (.call (kkF 68) [(.tmp 26)]),kkM 24 27,kkI 28 (.extract 0 (.tmp 24)),kkI 29 (.extract 1 (.tmp 24)),kkM 3 28,kkM 4 29]) (.seq (.seq (.ops [kkM 30 4,kkI 31 (.un .not (.tmp 30))]) (.cond (.tmp 31) (.seq (.ops [kkI 2 (.mv (kkV 3))]) (.ret)) (.skip))) (.seq (.ops [kkI 32 (.mkMap),kkM 5 32]) (.seq (.seq (.ops [kkM 33 3,kkI 34 (.len (.tmp 33)),kkI 35 (.mv (kkV 0))]) (jaF 0 1 36 35 34 42 (.seq (.ops [kkI 37 (.indexAddr 1 (.tmp 33) (.tmp 35)),kkL 38 37,kkM 7 38]) (.ops [kkM 39 5,kkM 40 7,kkI 41 (.build [] []),⟨none,.mapSet (.tmp 39) (.tmp 40) (.tmp 41),none,true⟩])))) (.seq (.seq (.ops [kkA 43 0 1,kkL 44 43,kkI 45 (.len (.tmp 44)),kkI 46 (.mv (kkV 0))]) (jaF 2 3 47 46 45 65 (.seq (.ops [kkM 48 46,kkI 49 (.indexAddr 1 (.tmp 44) (.tmp 46)),kkL 50 49,kkM 8 48,kkM 9 50]) (.seq (.ops [kkM 52 5,kkM 53 8,kkI 54 (.mapGet true (.agg []) (.tmp 52) (.tmp 53)),kkM 51 54,kkI 55 (.extract 0 (.tmp 51)),kkI 56 (.extract 1 (.tmp 51)),kkI 10 (.zero []),⟨none,.store 0 (.tmp 10) (.tmp 55),none,true⟩,kkM 11 56]) (.seq (.ops [kkM 57 11,kkI 58 (.un .not (.tmp 57)),kkM 59 58,⟨(some 60),.mv (.tmp 9),(some (59,true)),true⟩,⟨(some 61),.mv (.tmp 5),(some (59,true)),true⟩,⟨(some 62),.call (kkF 69) [(.tmp 60),(.tmp 61)],(some (59,true)),true⟩,⟨(some 63),.un .not (.tmp 62),(some (59,true)),true⟩,kkI 64 (.pick (.tmp 59) (.tmp 63) (.av (.val (.bool false))))]) (.cond (.tmp 64) (.seq (.ops [kkI 2 (.mv (kkV 3))]) (.ret)) (.skip))))))) (.seq (.seq (.ops [kkA 66 1 1,kkL 67 66,kkI 68 (.len (.tmp 67)),kkI 69 (.mv (kkV 0))]) (jaF 4 5 70 69 68 77 (.seq (.ops [kkI 71 (.indexAddr 1 (.tmp 67) (.tmp 69)),kkL 72 71,kkM 13 72]) (.seq (.ops [kkM 73 13,kkM 74 5,kkI 75 (.call (kkF 69) [(.tmp 73),(.tmp 74)]),kkI 76 (.un .not (.tmp 75))]) (.cond (.tmp 76) (.seq (.ops [kkI 2 (.mv (kkV 3))]) (.ret)) (.skip)))))) (.seq (.ops [kkI 2 (.mv (kkV 0))]) (.ret)))))))))
theorem jo3:jal Tryz.prog 37=some ⟨78,jix,[.tmp 2]⟩:=by kernel_rfl
def jiw:jar:= .seq (.ops [kkI 4 (.mv (.av (.val (.int .u64 0))))]) (.seq (.ops [kkM 12 1,kkI 13 (.call (kkF 70) [(.tmp 12)]),kkM 11 13,kkI 14 (.extract 0 (.tmp 11)),kkI 15 (.extract 1 (.tmp 11)),kkM 5 14,kkM 6 15]) (.seq (.seq (.ops [kkM 16 6,kkI 17 (.un .not (.tmp 16))]) (.cond (.tmp 17) (.seq (.ops [kkM 18 1,kkM 4 18]) (.ret)) (.skip))) (.seq (.ops [kkM 20 0,kkI 21 (.nilCheck (.tmp 20)),kkA 22 2 21,kkL 23 22,kkM 24 5,kkI 25 (.mapGet true (kkZ 0) (.tmp 23) (.tmp 24)),kkM 19 25,kkI 26 (.extract 0 (.tmp 19)),kkI 27 (.extract 1 (.tmp 19)),kkM 7 26,kkM 8 27]) (.seq (.seq (.ops [kkM 28 8,kkI 29 (.un .not (.tmp 28))]) (.cond (.tmp 29) (.seq (.ops [kkM 30 0,kkI 31 (.nilCheck (.tmp 30)),kkA 32 1 31,kkL 33 32,kkI 34 (.len (.tmp 33)),kkM 7 34]) (.seq (.ops [kkM 35 0,kkI 36 (.nilCheck (.tmp 35)),kkA 37 2 36,kkL 38 37,kkM 39 5,kkM 40 7,⟨none,.mapSet (.tmp 38) (.tmp 39) (.tmp 40),none,true⟩]) (.seq (.ops [kkM 41 0,kkM 42 0,kkI 43 (.nilCheck (.tmp 42)),kkA 44 3 43,kkL 45 44,kkM 46 7,kkM 47 5,kkI 48 (.build [kkZ 0,kkZ 0] [(0,1,(.tmp 46)),(1,1,(.tmp 47))]),kkI 49 (.lits 2 1 [kkZ 0,kkZ 0] [(0,2,(.tmp 48))]),kkI 50 (.append 2 16 (.tmp 45) (.tmp 49)),kkI 51 (.nilCheck (.tmp 41)),kkA 52 3 51,⟨none,.store 1 (.tmp 52) (.tmp 50),none,true⟩]) (.opsD [kkM 53 0,kkM 54 0,kkI 55 (.nilCheck (.tmp 54)),kkA 56 1 55,⟨(some 57),.load none (.tmp 56),none,false⟩,kkM 58 0,kkI 59 (.nilCheck (.tmp 58)),kkA 60 0 59,⟨(some 61),.load none (.tmp 60),none,false⟩,kkM 62 5,kkM 63 5,kkI 64 (.bin .add (.tmp 63) (kkV 1)),kkM 65 0,kkI 66 (.nilCheck (.tmp 65)),kkA 67 0 66,kkL 68 67,kkM 69 5,kkI 70 (.indexAddr 1 (.tmp 68) (.tmp 69)),kkL 71 70,⟨(some 72),.call (kkF 39) [(.tmp 71)],none,false⟩,kkI 73 (.bin .add (.tmp 64) (.tmp 72)),kkI 74 (.slice 1 (.tmp 61) (some (.tmp 62)) (some (.tmp 73)) none),kkI 75 (.append 1 8 (.tmp 57) (.tmp 74)),kkI 76 (.nilCheck (.tmp 53)),kkA 77 1 76,⟨none,.store 1 (.tmp 77) (.tmp 75),none,true⟩])))) (.skip))) (.seq (.ops [kkM 79 7,kkI 80 (.build [kkZ 0,kkZ 0] [(0,1,(kkV 5)),(1,1,(.tmp 79))]),kkI 81 (.call (kkF 15) [(.tmp 80)]),kkM 78 81,kkI 82 (.extract 0 (.tmp 78)),kkI 83 (.extract 1 (.tmp 78)),kkM 9 82,kkM 10 83]) (.seq (.ops [kkM 84 9,kkM 4 84]) (.ret)))))))
theorem jo2:jal Tryz.prog 38=some ⟨85,jiw,[.tmp 4]⟩:=by kernel_rfl
def jld:jar:= .seq (.ops [kkI 2 (.mv (kkV 0))]) (.seq (.ops [kkM 3 0,kkI 4 (.conv .u32 (.tmp 3)),kkI 5 (.conv .i64 (.tmp 4)),kkM 2 5]) (.ret))
theorem jrL:jal Tryz.prog 39=some ⟨6,jld,[.tmp 2]⟩:=by kernel_rfl
def jfo:jar:= .seq (.ops [kkI 2 (.mv (.av kkS)),kkI 3 (.mv (.av (.val (.bool false))))]) (.seq (.ops [kkI 4 (.mv (.av kkS))]) (.seq (.ops [kkI 5 (.mv (kkV 0))]) (.seq (.block 0 (.loop (.seq (.seq (.ops [kkM 6 5,kkM 7 0,kkI 8 (.len (.tmp 7)),kkI 9 (.bin .lss (.tmp 6) (.tmp 8))]) (.cond (.tmp 9) (.skip) (.exit 0))) (.block 1 (.seq (.ops [kkM 10 4,kkM 11 5,kkI 12 (.lits 1 1 [kkZ 0] [(0,1,(.tmp 11))]),kkI 13 (.append 1 8 (.tmp 10) (.tmp 12)),kkM 4 13]) (.ops [kkM 14 5,kkM 15 0,kkM 16 5,kkI 17 (.indexAddr 1 (.tmp 15) (.tmp 16)),kkL 18 17,kkI 19 (.call (kkF 39) [(.tmp 18)]),kkI 20 (.bin .add (kkV 1) (.tmp 19)),kkI 21 (.bin .add (.tmp 14) (.tmp 20)),kkM 5 21])))))) (.seq (.ops [kkM 22 4,kkM 23 5,kkM 24 0,kkI 25 (.len (.tmp 24)),kkI 26 (.bin .eql (.tmp 23) (.tmp 25)),kkM 2 22,kkM 3 26]) (.ret)))))
theorem jkK:jal Tryz.prog 68=some ⟨27,jfo,[.tmp 2,.tmp 3]⟩:=by kernel_rfl
def jiu:jar:= .seq (.ops [kkI 4 (.mv (.av (.val (.bool false))))]) (.seq (.seq (.ops [kkM 9 0,kkI 10 (.call (kkF 106) [(.tmp 9)]),kkI 11 (.bin .lss (.tmp 10) (kkV 0))]) (.cond (.tmp 11) (.seq (.ops [kkI 4 (.mv (.av (.val (.bool false))))]) (.ret)) (.skip))) (.seq (.ops [kkM 13 0,kkI 14 (.call (kkF 70) [(.tmp 13)]),kkM 12 14,kkI 15 (.extract 0 (.tmp 12)),kkI 16 (.extract 1 (.tmp 12)),kkM 5 15,kkM 6 16]) (.seq (.seq (.ops [kkM 17 6,kkI 18 (.un .not (.tmp 17))]) (.cond (.tmp 18) (.seq (.ops [kkI 4 (.mv (.av (.val (.bool true))))]) (.ret)) (.skip))) (.seq (.ops [kkM 20 1,kkM 21 5,kkI 22 (.mapGet true (.agg []) (.tmp 20) (.tmp 21)),kkM 19 22,kkI 23 (.extract 0 (.tmp 19)),kkI 24 (.extract 1 (.tmp 19)),kkI 7 (.zero []),⟨none,.store 0 (.tmp 7) (.tmp 23),none,true⟩,kkM 8 24]) (.seq (.ops [kkM 25 8,kkM 4 25]) (.ret))))))
theorem jo0:jal Tryz.prog 69=some ⟨26,jiu,[.tmp 4]⟩:=by kernel_rfl
def jiv:jar:= .seq (.ops [kkI 2 (.mv (kkV 0)),kkI 3 (.mv (.av (.val (.bool false))))]) (.seq (.ops [kkM 7 0,kkI 8 (.call (kkF 29) [(.tmp 7)]),kkM 6 8,kkI 9 (.extract 0 (.tmp 6)),kkI 10 (.extract 1 (.tmp 6)),kkI 4 (.zero [kkZ 0,kkZ 0]),⟨none,.store 2 (.tmp 4) (.tmp 9),none,true⟩,kkM 5 10]) (.seq (.opsD [kkA 11 1 4,kkL 12 11,kkM 13 5,kkI 14 (.bin .eql (.tmp 13) (kkV 0)),kkM 15 14,⟨(some 16),.fieldAddr 0 (.tmp 4),(some (15,true)),true⟩,⟨(some 17),.load none (.tmp 16),(some (15,true)),true⟩,⟨(some 18),.bin .eql (.tmp 17) (kkV 5),(some (15,true)),true⟩,kkI 19 (.pick (.tmp 15) (.tmp 18) (.av (.val (.bool false)))),kkM 2 12,kkM 3 19]) (.ret)))
theorem jo1:jal Tryz.prog 70=some ⟨20,jiv,[.tmp 2,.tmp 3]⟩:=by kernel_rfl
def jle:jar:= .seq (.ops [kkI 2 (.mv (kkV 0))]) (.seq (.ops [kkM 6 0,kkI 7 (.call (kkF 29) [(.tmp 6)]),kkM 5 7,kkI 8 (.extract 0 (.tmp 5)),kkI 9 (.extract 1 (.tmp 5)),kkI 3 (.zero [kkZ 0,kkZ 0]),⟨none,.store 2 (.tmp 3) (.tmp 8),none,true⟩,kkM 4 9]) (.seq (.seq (.ops [kkM 10 4,kkI 11 (.bin .neq (.tmp 10) (kkV 0))]) (.cond (.tmp 11) (.seq (.ops [kkI 2 (.mv (kkV (-1)))]) (.ret)) (.skip))) (.seq (.ops [kkA 12 0 3,kkL 13 12,kkM 2 13]) (.ret))))
theorem jrM:jal Tryz.prog 106=some ⟨14,jle,[.tmp 2]⟩:=by kernel_rfl
end
end Go.Proofs.YtjaahfncbechnaaGreatDoor
