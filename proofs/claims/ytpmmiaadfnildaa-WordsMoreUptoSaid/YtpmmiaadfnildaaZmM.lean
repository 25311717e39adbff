/-
  ZM: rules by which 'simp' runs it.
-/
import Derived.Test.YtpmmiaadfnildaaZmL
namespace Go.Proofs.Ytpmmiaadfnildaa
open Go Go.RowKit
set_option linter.unusedVariables false
set_option linter.unusedSimpArgs false
section
variable {L : Nat → Bool} {S : ZS} {H : ZH} {X : CallT} {F : FuncId → Option AFunc} {G : Gh} {KK : AExit → ZS → ZH → Prop}

/-! ### What goes on, held back -/
def ZgoO (X : CallT) (F : FuncId → Option AFunc) (G : Gh) (L : Nat → Bool) (base : Nat) (rs : List Nat) (pr : Option (List Nat)) (l : List AOper) (S : ZS) (dst : Option Nat) (K : ZS → ZH → Prop) (z : ZV) (H : ZH) : Prop := zO X F G L base rs pr l (zput S dst z) H K
def ZgoG (G : Gh) (dst : Option Nat) (K : ZV → ZH → Prop) (z : ZV) (H : ZH) : Prop := zgo G dst K z H
def ZgoC (X : CallT) (F : FuncId → Option AFunc) (G : Gh) (L : Nat → Bool) (c : ACode) (K : AExit → ZS → ZH → Prop) (S : ZS) (H : ZH) : Prop := zW X F G L c S H K
section
variable {base : Nat} {rs : List Nat} {pr : Option (List Nat)} {l : List AOper} {dst : Option Nat} {K : ZS → ZH → Prop} {z : ZV} {K1 : ZV → ZH → Prop} {c a b : ACode} {op : AOp}
theorem zgoO : ZgoO X F G L base rs pr l S dst K z H ↔ zO X F G L base rs pr l (zput S dst z) H K := Iff.rfl
theorem zgoG : ZgoG G dst K1 z H ↔ zgo G dst K1 z H := Iff.rfl
theorem zgoC : ZgoC X F G L c KK S H ↔ zW X F G L c S H KK := Iff.rfl
theorem zgoN : ZgoG Gh.no dst K1 z H ↔ K1 z H := by cases dst <;> exact Iff.rfl
theorem zW_skip : zW X F G L .skip S H KK ↔ KK .normal S H := Iff.rfl
theorem zW_ops : zW X F G L (.ops l) S H KK ↔ zO X F G L H.length [] none l S H (KK .normal) := Iff.rfl
theorem zW_seq : zW X F G L (.seq a b) S H KK ↔ zW X F G L a S H (zthen (ZgoC X F G L b KK) KK) := Iff.rfl
theorem zW_cond {x : Opd} : zW X F G L (.cond x a b) S H KK ↔ ∃ t, zev S x = some (.val (.bool t)) ∧ (t = true → zW X F G L a S H KK) ∧ (t = false → zW X F G L b S H KK) := Iff.rfl
theorem zW_block {id : Nat} : zW X F G L (.block id c) S H KK ↔ zW X F G L c S H (zinBlk id KK) := Iff.rfl
theorem zW_exit {id : Nat} : zW X F G L (.exit id) S H KK ↔ KK (.exit id) S H := Iff.rfl
theorem zW_scope : zW X F G L (.scope c) S H KK ↔ zW X F G L c S H KK := Iff.rfl
theorem zW_ret : zW X F G L .ret S H KK ↔ KK .ret S H := Iff.rfl
theorem zthen_normal {k1 : ZS → ZH → Prop} : zthen k1 KK .normal S H ↔ k1 S H := Iff.rfl
theorem zthen_exit {k1 : ZS → ZH → Prop} {id : Nat} : zthen k1 KK (.exit id) S H ↔ KK (.exit id) S H := Iff.rfl
theorem zthen_ret {k1 : ZS → ZH → Prop} : zthen k1 KK .ret S H ↔ KK .ret S H := Iff.rfl
theorem zinBlk_normal {id : Nat} : zinBlk id KK .normal S H ↔ KK .normal S H := Iff.rfl
theorem zinBlk_exit {id j : Nat} : zinBlk id KK (.exit j) S H ↔ (if j = id then KK .normal S H else KK (.exit j) S H) := Iff.rfl
theorem zinBlk_ret {id : Nat} : zinBlk id KK .ret S H ↔ KK .ret S H := Iff.rfl
theorem zO_nil : zO X F G L base rs pr [] S H K ↔ K S H := Iff.rfl
def wantB' : ZV → Bool → Option Bool
  | .val (.bool b), w => some (b == w)
  | .val _, _ => some false
  | .tuple [], _ => some false
  | _, _ => none
theorem wantB'_bool {b w : Bool} : wantB' (.val (.bool b)) w = some (b == w) := rfl
theorem wantB'_no {w : Bool} : wantB' .no w = some false := rfl
theorem zO_next : zO X F G L base rs pr (⟨dst, op, none, true⟩ :: l) S H K ↔ z1c X F L none (zlit G dst) S H (ZgoG G dst (ZgoO X F G L base rs pr l S dst K)) op := by
  show WantK (some true) (if true = true then _ else _) _ ↔ _
  rw [wantK_true, if_pos rfl]; exact Iff.rfl
theorem wantZ_guard {t : Nat} {wt : Bool} {iso : Bool} : wantZ ⟨dst, op, some (t, wt), iso⟩ S = wantB' (S t) wt := by
  unfold wantZ wantB'
  simp only
  cases S t with
  | val v => cases v <;> rfl
  | tuple l => cases l <;> rfl
  | _ => rfl
theorem zO_nextW {t : Nat} {wt : Bool} : zO X F G L base rs pr (⟨dst, op, some (t, wt), true⟩ :: l) S H K ↔ WantK (wantB' (S t) wt) (z1c X F L none (zlit G dst) S H (ZgoG G dst (ZgoO X F G L base rs pr l S dst K)) op) (ZgoO X F G L base rs pr l S dst K .no H) := by
  show WantK (wantZ _ S) (if true = true then _ else _) _ ↔ _
  rw [wantZ_guard, if_pos rfl]; exact Iff.rfl
/-- An operation in no fixed place. -/
def zfree (X : CallT) (F : FuncId → Option AFunc) (G : Gh) (L : Nat → Bool) (base : Nat) (rs : List Nat) (pr : Option (List Nat)) (o : AOper) (l : List AOper) (S : ZS) (H : ZH) (K : ZS → ZH → Prop) : Prop :=
  ∃ fb, zforb rs o l S = some fb ∧ ∃ rs', zrs rs o S = rs' ∧ ∃ pr', zpr rs pr o l S = pr' ∧ z1c X F (fun i => L i && !fb.contains i) (some (base, pr)) (zlit G o.dst) S H (ZgoG G o.dst (ZgoO X F G L base rs' pr' l S o.dst K)) o.op
theorem zO_nextF : zO X F G L base rs pr (⟨dst, op, none, false⟩ :: l) S H K ↔ zfree X F G L base rs pr ⟨dst, op, none, false⟩ l S H K := by
  show WantK (some true) (if false = true then _ else _) _ ↔ _
  rw [wantK_true, if_neg (by simp)]
  unfold zfree
  constructor
  · rintro ⟨fb, h1, h2⟩; exact ⟨fb, h1, _, rfl, _, rfl, h2⟩
  · rintro ⟨fb, h1, _, rfl, _, rfl, h2⟩; exact ⟨fb, h1, h2⟩
theorem zO_nextFW {t : Nat} {wt : Bool} : zO X F G L base rs pr (⟨dst, op, some (t, wt), false⟩ :: l) S H K ↔ WantK (wantB' (S t) wt) (zfree X F G L base rs pr ⟨dst, op, some (t, wt), false⟩ l S H K) (ZgoO X F G L base rs pr l S dst K .no H) := by
  have : zfree X F G L base rs pr ⟨dst, op, some (t, wt), false⟩ l S H K ↔ (∃ fb, zforb rs ⟨dst, op, some (t, wt), false⟩ l S = some fb ∧ z1c X F (fun i => L i && !fb.contains i) (some (base, pr)) (zlit G dst) S H (zgo G dst fun z H' => zO X F G L base (zrs rs ⟨dst, op, some (t, wt), false⟩ S) (zpr rs pr ⟨dst, op, some (t, wt), false⟩ l S) l (zput S dst z) H' K) op) := by
    unfold zfree
    constructor
    · rintro ⟨fb, h1, _, rfl, _, rfl, h2⟩; exact ⟨fb, h1, h2⟩
    · rintro ⟨fb, h1, h2⟩; exact ⟨fb, h1, _, rfl, _, rfl, h2⟩
  rw [this]
  show WantK (wantZ _ S) (if false = true then _ else _) _ ↔ _
  rw [wantZ_guard, if_neg (by simp)]; exact Iff.rfl
end

/-! ### Operations -/
section
variable {top : Option (Nat × Option (List Nat))} {gl : Bool} {K : ZV → ZH → Prop}
theorem z_mv {x : Opd} : z1c X F L top gl S H K (.mv x) ↔ ∃ z, zev S x = some z ∧ K z H := Iff.rfl
theorem z_pick {c a b : Opd} : z1c X F L top gl S H K (.pick c a b) ↔ ∃ t x y, zev S c = some (.val (.bool t)) ∧ zev S a = some x ∧ zev S b = some y ∧ K (if t = true then x else y) H := Iff.rfl
theorem z_box {n : Nat} {x : Opd} : z1c X F L top gl S H K (.box n x) ↔ ∃ z, zev S x = some z ∧ z.cells.length = n ∧ z.cells.all ZV.isCell = true ∧ K (.ptr H.length 0) (H ++ [.box z.cells]) := Iff.rfl
theorem z_zero {cs : List AV} : z1c X F L top gl S H K (.zero cs) ↔ ∃ zs, zcs cs = some zs ∧ K (.ptr H.length 0) (H ++ [.box zs]) := Iff.rfl
theorem z_build {z : List AV} {ps : List (Nat × Nat × Opd)} : z1c X F L top gl S H K (.build z ps) ↔ ∃ zs qs cs, zcs z = some zs ∧ zparts S ps = some qs ∧ fillZ zs qs = some cs ∧ K (.agg cs) H := Iff.rfl
theorem z_lits {k len : Nat} {z : List AV} {ps : List (Nat × Nat × Opd)} : z1c X F L top gl S H K (.lits k len z ps) ↔ ∃ zs qs cs, zcs z = some zs ∧ zparts S ps = some qs ∧ fillZ zs qs = some cs ∧ cs.length = len * k ∧ cs.all ZV.isCell = true ∧
      (if gl = true then K (.own H.length 0 0 len true) (H ++ [.grow 0 k (chunk len k cs)]) else cs.all pureZ = true ∧ K (.fz k true (chunk len k cs)) H) := Iff.rfl
theorem z_load {n : Option Nat} {x : Opd} : z1c X F L top gl S H K (.load n x) ↔ ∃ z v, zev S x = some z ∧ topZ top z = true ∧ ldZ H n z = some v ∧ K v H := Iff.rfl
theorem z_store {n : Nat} {a v : Opd} : z1c X F L top gl S H K (.store n a v) ↔ ∃ p z H', zev S a = some p ∧ zev S v = some z ∧ z.cells.length = n ∧ z.cells.all ZV.isCell = true ∧ stZ L H z.cells p = some H' ∧ K .no H' := Iff.rfl
theorem z_nilCheck {x : Opd} : z1c X F L top gl S H K (.nilCheck x) ↔ ∃ z, zev S x = some z ∧ nilOkZ z = true ∧ K z H := Iff.rfl
theorem z_bin {op : BinOp} {x y : Opd} : z1c X F L top gl S H K (.bin op x y) ↔ ∃ a b v, zev S x = some (.val a) ∧ zev S y = some (.val b) ∧ binV op a b = some v ∧ K (.val v) H := Iff.rfl
theorem z_eqNil {neg : Bool} {kd : Nat} {x : Opd} : z1c X F L top gl S H K (.eqNil neg kd x) ↔ ∃ z b, zev S x = some z ∧ nilZ H kd z = some b ∧ K (.val (.bool (if neg = true then !b else b))) H := Iff.rfl
theorem z_eqBool {neg : Bool} {x y : Opd} : z1c X F L top gl S H K (.eqBool neg x y) ↔ ∃ a b, zev S x = some (.val (.bool a)) ∧ zev S y = some (.val (.bool b)) ∧ K (.val (.bool (if neg = true then !(a == b) else a == b))) H := Iff.rfl
theorem z_eqAgg {neg : Bool} {ks : List Nat} {x y : Opd} : z1c X F L top gl S H K (.eqAgg neg ks x y) ↔ ∃ a b t, zev S x = some (.agg a) ∧ zev S y = some (.agg b) ∧ sameZ ks a b = some t ∧ K (.val (.bool (if neg = true then !t else t))) H := Iff.rfl
theorem z_un {op : UnOp} {x : Opd} : z1c X F L top gl S H K (.un op x) ↔ ∃ a v, zev S x = some (.val a) ∧ unV op a = some v ∧ K (.val v) H := Iff.rfl
theorem z_conv {kd : IntKind} {x : Opd} : z1c X F L top gl S H K (.conv kd x) ↔ ∃ k' n, zev S x = some (.val (.int k' n)) ∧ K (.val (.int kd (kd.wrap n))) H := Iff.rfl
theorem z_field {off : Nat} {n : Option Nat} {x : Opd} : z1c X F L top gl S H K (.field off n x) ↔ ∃ cs v, zev S x = some (.agg cs) ∧ partZ cs off n = some v ∧ K v H := Iff.rfl
theorem z_fieldAddr {off : Nat} {x : Opd} : z1c X F L top gl S H K (.fieldAddr off x) ↔ ∃ z v, zev S x = some z ∧ addZ off z = some v ∧ K v H := Iff.rfl
theorem z_indexAddr {k : Nat} {x i : Opd} : z1c X F L top gl S H K (.indexAddr k x i) ↔ ∃ z y j v, zev S x = some z ∧ zev S i = some y ∧ natZ y = some j ∧ elemZ H k j z = some v ∧ K v H := Iff.rfl
theorem z_indexArr {k len : Nat} {x i : Opd} : z1c X F L top gl S H K (.indexArr k len x i) ↔ ∃ z y j v, zev S x = some z ∧ zev S i = some y ∧ natZ y = some j ∧ j < len ∧ addZ (j * k) z = some v ∧ K v H := Iff.rfl
theorem z_index {k len : Nat} {n : Option Nat} {x i : Opd} : z1c X F L top gl S H K (.index k len n x i) ↔ ∃ cs y j v, zev S x = some (.agg cs) ∧ zev S i = some y ∧ natZ y = some j ∧ j < len ∧ partZ cs (j * k) n = some v ∧ K v H := Iff.rfl
theorem z_indexStr {x i : Opd} : z1c X F L top gl S H K (.indexStr x i) ↔ ∃ t y j b, zev S x = some (.val (.string t)) ∧ zev S i = some y ∧ natZ y = some j ∧ t[j]? = some b ∧ K (.val (.int .u8 b.toNat)) H := Iff.rfl
theorem z_slice {k : Nat} {x : Opd} {lo hi mx : Option Opd} : z1c X F L top gl S H K (.slice k x lo hi mx) ↔ ∃ z n l u m v, zev S x = some z ∧ lenZ H z = some n ∧ numZ S 0 lo = some l ∧ numZ S n hi = some u ∧ numZ S n mx = some m ∧ cutZ H k l u m mx.isSome z = some v ∧ K v H := Iff.rfl
theorem z_mkSlice {k bytes : Nat} {z : List AV} {l c : Opd} : z1c X F L top gl S H K (.mkSlice k bytes z l c) ↔ ∃ x y a b zs, zev S l = some x ∧ zev S c = some y ∧ natZ x = some a ∧ natZ y = some b ∧ zcs z = some zs ∧ zs.length = k ∧ a ≤ b ∧ b * bytes ≤ reach ∧ K (.own H.length 0 0 a (a == b)) (H ++ [.grow 0 k (List.replicate a zs)]) := Iff.rfl
theorem z_extract {i : Nat} {x : Opd} : z1c X F L top gl S H K (.extract i x) ↔ ∃ vs v, zev S x = some (.tuple vs) ∧ vs[i]? = some v ∧ K v H := Iff.rfl
theorem z_func {f : FuncId} {caps : List Opd} : z1c X F L top gl S H K (.func f caps) ↔ ∃ zs, zevs S caps = some zs ∧ K (.func f zs) H := Iff.rfl
theorem z_call {f : Opd} {args : List Opd} : z1c X F L top gl S H K (.call f args) ↔ ∃ g caps zs, zev S f = some (.func g caps) ∧ zevs S args = some zs ∧ ZC X F g (zs ++ caps) L H K := Iff.rfl
theorem z_append {k bytes : Nat} {x y : Opd} : z1c X F L top gl S H K (.append k bytes x y) ↔ ∃ z u new v H', zev S x = some z ∧ zev S y = some u ∧ rowsZ H k u = some new ∧ appZ L H k bytes new z = some (v, H') ∧ K v H' := Iff.rfl
theorem z_len {x : Opd} : z1c X F L top gl S H K (.len x) ↔ ∃ z n, zev S x = some z ∧ lenZ H z = some n ∧ K (.val (.int .i64 n)) H := Iff.rfl
theorem z_lenStr {x : Opd} : z1c X F L top gl S H K (.lenStr x) ↔ ∃ t, zev S x = some (.val (.string t)) ∧ K (.val (.int .i64 t.size)) H := Iff.rfl
theorem z_copy {k : Nat} {x y : Opd} : z1c X F L top gl S H K (.copy k x y) ↔ ∃ z u new n H', zev S x = some z ∧ zev S y = some u ∧ rowsZ H k u = some new ∧ copyZ L H k new z = some (n, H') ∧ K (.val (.int .i64 (n : Nat))) H' := Iff.rfl
theorem z_minmax {mx : Bool} {x : Opd} {xs : List Opd} : z1c X F L top gl S H K (.minmax mx x xs) ↔ ∃ z zs v, zev S x = some z ∧ zevs S xs = some zs ∧ bestZ mx z zs = some v ∧ K v H := Iff.rfl
end

/-! ### Operands, slots -/
theorem zev_tmp {t : Nat} : zev S (.tmp t) = some (S t) := rfl
theorem zev_val {v : Value} : zev S (.av (.val v)) = some (.val v) := rfl
theorem zev_func {f : FuncId} : zev S (.av (.func f [])) = some (.func f []) := rfl
theorem zev_agg {cs : List AV} : zev S (.av (.agg cs)) = (zcs cs).map .agg := rfl
theorem zev_no : zev S (.av (.tuple [])) = some .no := rfl
theorem zevs_nil : zevs S [] = some [] := rfl
theorem zevs_cons {x : Opd} {l : List Opd} {zs : List ZV} : zevs S (x :: l) = some zs ↔ ∃ z r, zev S x = some z ∧ zevs S l = some r ∧ z :: r = zs := by
  simp only [zevs]
  constructor
  · intro h
    split at h
    · rename_i z r h1 h2; injection h with h; exact ⟨z, r, h1, h2, h⟩
    · cases h
  · rintro ⟨z, r, h1, h2, rfl⟩; rw [h1, h2]
theorem zcs_nil : zcs [] = some [] := rfl
theorem zcs_cons {v : Value} {l : List AV} : zcs (.val v :: l) = (zcs l).map (ZV.val v :: ·) := rfl
theorem zparts_nil : zparts S [] = some [] := rfl
theorem zparts_cons {o n : Nat} {x : Opd} {r : List (Nat × Nat × Opd)} {qs : List (Nat × Nat × ZV)} : zparts S ((o, n, x) :: r) = some qs ↔ ∃ z l, zev S x = some z ∧ zparts S r = some l ∧ (o, n, z) :: l = qs := by
  simp only [zparts]
  constructor
  · intro h
    split at h
    · rename_i z l h1 h2; injection h with h; exact ⟨z, l, h1, h2, h⟩
    · cases h
  · rintro ⟨z, l, h1, h2, rfl⟩; rw [h1, h2]
theorem fillZ_nil {cs : List ZV} : fillZ cs [] = some cs := rfl
theorem fillZ_cons {cs cs' : List ZV} {o n : Nat} {v : ZV} {r : List (Nat × Nat × ZV)} : fillZ cs ((o, n, v) :: r) = some cs' ↔ (v.cells.length = n ∧ o + n ≤ cs.length ∧ v.cells.all ZV.isCell = true) ∧ fillZ (setAt cs o v.cells) r = some cs' := by
  simp only [fillZ]
  constructor
  · intro h
    split at h
    · exact ⟨by assumption, h⟩
    · cases h
  · rintro ⟨h1, h2⟩; rw [if_pos h1]; exact h2
theorem zput_some {d : Nat} {v : ZV} : zput S (some d) v = zupd S d v := rfl
theorem zput_none {v : ZV} : zput S none v = S := rfl
theorem zupd_at {d t : Nat} {v : ZV} : zupd S d v t = if t = d then v else S t := rfl
theorem zlit_no {d : Option Nat} : zlit Gh.no d = false := by cases d <;> rfl
theorem zlit_some {d : Nat} : zlit G (some d) = G.lit.contains d := rfl
theorem topZ_none {z : ZV} : (topZ none z = true) = True := by simp [topZ]
theorem topZ_some0 {b i o : Nat} : (topZ (some (b, none)) (.ptr i o) = true) ↔ i < b := by simp [topZ]
theorem topZ_some1 {b i o : Nat} {l : List Nat} : (topZ (some (b, some l)) (.ptr i o) = true) ↔ i < b ∧ l.contains i = true := by simp [topZ]
theorem natZ_nat {n : Nat} : natZ (Z64 (n : Nat)) = some n := by simp [natZ]
theorem natZ_lit {n : Int} (h : 0 ≤ n) : natZ (Z64 n) = some n.toNat := by simp [natZ, h]
theorem zcells_val {v : Value} : (ZV.val v).cells = [.val v] := rfl
theorem zcells_fz {k : Nat} {ex : Bool} {rows : List (List ZV)} : (ZV.fz k ex rows).cells = [.fz k ex rows] := rfl
theorem zcells_own {i g o l : Nat} {ex : Bool} : (ZV.own i g o l ex).cells = [.own i g o l ex] := rfl
theorem zcells_ptr {i o : Nat} : (ZV.ptr i o).cells = [.ptr i o] := rfl
theorem zcells_func {f : FuncId} {c : List ZV} : (ZV.func f c).cells = [.func f c] := rfl
theorem zcells_agg {cs : List ZV} : (ZV.agg cs).cells = cs := rfl
theorem zcells_of {z : ZV} (h : z.isCell = true) : z.cells = [z] := by cases z <;> first | rfl | (simp [ZV.isCell] at h)
theorem zcell_val {v : Value} : (ZV.val v).isCell = true := rfl
theorem zcell_fz {k : Nat} {ex : Bool} {rows : List (List ZV)} : (ZV.fz k ex rows).isCell = true := rfl
theorem zcell_own {i g o l : Nat} {ex : Bool} : (ZV.own i g o l ex).isCell = true := rfl
theorem zcell_ptr {i o : Nat} : (ZV.ptr i o).isCell = true := rfl
theorem zcell_func {f : FuncId} {c : List ZV} : (ZV.func f c).isCell = true := rfl
theorem pure_val {v : Value} : pureZ (.val v) = true := rfl
theorem pure_fz {k : Nat} {ex : Bool} {rows : List (List ZV)} : pureZ (.fz k ex rows) = true := rfl
theorem nilOk_zptr {i o : Nat} : nilOkZ (.ptr i o) = true := rfl
theorem nilOk_zeptr {i g e o : Nat} : nilOkZ (.eptr i g e o) = true := rfl
theorem nilOk_zfptr {k : Nat} {rows : List (List ZV)} {j o : Nat} : nilOkZ (.fptr k rows j o) = true := rfl
theorem nilOk_zfunc {f : FuncId} {c : List ZV} : nilOkZ (.func f c) = true := rfl
theorem add_ptr {n i o : Nat} : addZ n (.ptr i o) = some (.ptr i (o + n)) := rfl
theorem add_eptr {n i g e o : Nat} : addZ n (.eptr i g e o) = some (.eptr i g e (o + n)) := rfl
theorem add_fptr {n k : Nat} {rows : List (List ZV)} {j o : Nat} : addZ n (.fptr k rows j o) = some (.fptr k rows j (o + n)) := rfl
theorem part_none {cs : List ZV} {o : Nat} : partZ cs o none = cs[o]? := rfl
theorem part_some {cs : List ZV} {o n : Nat} {v : ZV} : partZ cs o (some n) = some v ↔ o + n ≤ cs.length ∧ .agg ((cs.drop o).take n) = v := by
  simp only [partZ]
  constructor
  · intro h
    split at h
    · injection h with h; exact ⟨by assumption, h⟩
    · cases h
  · rintro ⟨h1, rfl⟩; rw [if_pos h1]
theorem elem_fz {k j : Nat} {ex : Bool} {rows : List (List ZV)} {v : ZV} : elemZ H k j (.fz k ex rows) = some v ↔ j < rows.length ∧ .fptr k rows j 0 = v := by
  simp only [elemZ]
  constructor
  · intro h
    split at h
    · rename_i hc; injection h with h; exact ⟨hc.2, h⟩
    · cases h
  · rintro ⟨h1, rfl⟩; rw [if_pos ⟨trivial, h1⟩]
theorem elem_own {k j i g off len : Nat} {ex : Bool} {v : ZV} : elemZ H k j (.own i g off len ex) = some v ↔ ∃ rows, H[i]? = some (.grow g k rows) ∧ off + len ≤ rows.length ∧ j < len ∧ .eptr i g (off + j) 0 = v := by
  simp only [elemZ]
  constructor
  · intro h
    split at h
    · rename_i g' k' rows hb
      split at h
      · rename_i hc
        obtain ⟨rfl, rfl, h1, h2⟩ := hc
        injection h with h; exact ⟨rows, hb, h1, h2, h⟩
      · cases h
    · cases h
  · rintro ⟨rows, h1, h2, h3, rfl⟩; rw [h1]; simp only; rw [if_pos ⟨trivial, trivial, h2, h3⟩]
theorem ld_ptr {n : Option Nat} {i o : Nat} {v : ZV} : ldZ H n (.ptr i o) = some v ↔ ∃ cs, H[i]? = some (.box cs) ∧ partZ cs o n = some v := by
  simp only [ldZ]
  constructor
  · intro h
    split at h
    · rename_i cs hb; exact ⟨cs, hb, h⟩
    · cases h
  · rintro ⟨cs, h1, h2⟩; rw [h1]; exact h2
theorem ld_eptr {n : Option Nat} {i g e o : Nat} {v : ZV} : ldZ H n (.eptr i g e o) = some v ↔ ∃ k rows r, H[i]? = some (.grow g k rows) ∧ rows[e]? = some r ∧ partZ r o n = some v := by
  simp only [ldZ]
  constructor
  · intro h
    split at h
    · rename_i g' k rows hb
      split at h
      · rename_i hg; subst hg
        split at h
        · rename_i r hr; exact ⟨k, rows, r, hb, hr, h⟩
        · cases h
      · cases h
    · cases h
  · rintro ⟨k, rows, r, h1, h2, h3⟩; rw [h1]; simp only [if_true]; rw [h2]; exact h3
theorem ld_fptr {n : Option Nat} {k : Nat} {rows : List (List ZV)} {j o : Nat} {v : ZV} : ldZ H n (.fptr k rows j o) = some v ↔ ∃ r, rows[j]? = some r ∧ partZ r o n = some v := by
  simp only [ldZ]
  constructor
  · intro h
    split at h
    · rename_i r hr; exact ⟨r, hr, h⟩
    · cases h
  · rintro ⟨r, h1, h2⟩; rw [h1]; exact h2
theorem st_ptr {vs : List ZV} {i o : Nat} {H' : ZH} : stZ L H vs (.ptr i o) = some H' ↔ ∃ cs, H[i]? = some (.box cs) ∧ L i = true ∧ o + vs.length ≤ cs.length ∧ H.set i (.box (setAt cs o vs)) = H' := by
  simp only [stZ]
  constructor
  · intro h
    split at h
    · rename_i cs hb
      split at h
      · rename_i hc; injection h with h; exact ⟨cs, hb, hc.1, hc.2, h⟩
      · cases h
    · cases h
  · rintro ⟨cs, h1, h2, h3, rfl⟩; rw [h1]; simp only; rw [if_pos ⟨h2, h3⟩]
theorem st_eptr {vs : List ZV} {i g e o : Nat} {H' : ZH} : stZ L H vs (.eptr i g e o) = some H' ↔ ∃ k rows r, H[i]? = some (.grow g k rows) ∧ rows[e]? = some r ∧ L i = true ∧ o + vs.length ≤ r.length ∧ H.set i (.grow g k (rows.set e (setAt r o vs))) = H' := by
  simp only [stZ]
  constructor
  · intro h
    split at h
    · rename_i g' k rows hb
      split at h
      · rename_i hg; subst hg
        split at h
        · rename_i r hr
          split at h
          · rename_i hc; injection h with h; exact ⟨k, rows, r, hb, hr, hc.1, hc.2, h⟩
          · cases h
        · cases h
      · cases h
    · cases h
  · rintro ⟨k, rows, r, h1, h2, h3, h4, rfl⟩; rw [h1]; simp only [if_true]; rw [h2]; simp only; rw [if_pos ⟨h3, h4⟩]
theorem rows_nil {k : Nat} : rowsZ H k .nil = some [] := rfl
theorem rows_fz {k : Nat} {ex : Bool} {rows : List (List ZV)} : rowsZ H k (.fz k ex rows) = some rows := by simp [rowsZ]
theorem rows_own {k i g off len : Nat} {ex : Bool} {r : List (List ZV)} : rowsZ H k (.own i g off len ex) = some r ↔ ∃ rows, H[i]? = some (.grow g k rows) ∧ off + len ≤ rows.length ∧ (rows.drop off).take len = r := by
  simp only [rowsZ]
  constructor
  · intro h
    split at h
    · rename_i g' k' rows hb
      split at h
      · rename_i hc
        obtain ⟨rfl, rfl, h1⟩ := hc
        injection h with h; exact ⟨rows, hb, h1, h⟩
      · cases h
    · cases h
  · rintro ⟨rows, h1, h2, rfl⟩; rw [h1]; simp only; rw [if_pos ⟨trivial, trivial, h2⟩]
theorem len_nil : lenZ H .nil = some 0 := rfl
theorem len_fz {k : Nat} {ex : Bool} {rows : List (List ZV)} : lenZ H (.fz k ex rows) = some rows.length := rfl
theorem len_own {i g off len : Nat} {ex : Bool} {n : Nat} : lenZ H (.own i g off len ex) = some n ↔ ∃ k rows, H[i]? = some (.grow g k rows) ∧ len = n := by
  simp only [lenZ]
  constructor
  · intro h
    split at h
    · rename_i g' k rows hb
      split at h
      · rename_i hg; subst hg; injection h with h; exact ⟨k, rows, hb, h⟩
      · cases h
    · cases h
  · rintro ⟨k, rows, h1, rfl⟩; rw [h1]; simp
theorem app_nil {k bytes : Nat} {new : List (List ZV)} {v : ZV} {H' : ZH} : appZ L H k bytes new .nil = some (v, H') ↔ new.length * bytes ≤ reach ∧ .own H.length 0 0 new.length false = v ∧ H ++ [.grow 0 k new] = H' := by
  simp only [appZ]
  constructor
  · intro h
    split at h
    · injection h with h; injection h with h1 h2; exact ⟨by assumption, h1, h2⟩
    · cases h
  · rintro ⟨h1, rfl, rfl⟩; rw [if_pos h1]
theorem app_own {k bytes i g off len : Nat} {new : List (List ZV)} {v : ZV} {H' : ZH} : appZ L H k bytes new (.own i g off len false) = some (v, H') ↔ ∃ rows, H[i]? = some (.grow g k rows) ∧ off + len ≤ rows.length ∧ (len + new.length) * bytes ≤ reach ∧ L i = true ∧ .own i (g + 1) 0 (len + new.length) false = v ∧ H.set i (.grow (g + 1) k ((rows.drop off).take len ++ new)) = H' := by
  simp only [appZ]
  constructor
  · intro h
    split at h
    · rename_i g' k' rows hb
      split at h
      · rename_i hc
        obtain ⟨rfl, rfl, h1, h2⟩ := hc
        simp only [Bool.false_eq_true, if_false] at h
        split at h
        · injection h with h; injection h with h3 h4; exact ⟨rows, hb, h1, h2, by assumption, h3, h4⟩
        · cases h
      · cases h
    · cases h
  · rintro ⟨rows, h1, h2, h3, h4, rfl, rfl⟩; rw [h1]; simp only; rw [if_pos ⟨trivial, trivial, h2, h3⟩]; simp only [Bool.false_eq_true, if_false]; rw [if_pos h4]
/-- One element more: no cases. -/
theorem app_ownX {k bytes i g off len : Nat} {x : List ZV} {v : ZV} {H' : ZH} : appZ L H k bytes [x] (.own i g off len true) = some (v, H') ↔ ∃ rows, H[i]? = some (.grow g k rows) ∧ off + len ≤ rows.length ∧ (len + 1) * bytes ≤ reach ∧ .own H.length 0 0 (len + 1) false = v ∧ H ++ [.grow 0 k ((rows.drop off).take len ++ [x])] = H' := by
  simp only [appZ]
  constructor
  · intro h
    split at h
    · rename_i g' k' rows hb
      split at h
      · rename_i hc
        obtain ⟨rfl, rfl, h1, h2⟩ := hc
        simp at h
        exact ⟨rows, hb, h1, h2, h.1, h.2⟩
      · cases h
    · cases h
  · rintro ⟨rows, h1, h2, h3, rfl, rfl⟩; rw [h1]; simp only; rw [if_pos ⟨trivial, trivial, h2, h3⟩]; simp
theorem app_fzX {k bytes : Nat} {rows : List (List ZV)} {x : List ZV} {v : ZV} {H' : ZH} : appZ L H k bytes [x] (.fz k true rows) = some (v, H') ↔ (rows.length + 1) * bytes ≤ reach ∧ .own H.length 0 0 (rows.length + 1) false = v ∧ H ++ [.grow 0 k (rows ++ [x])] = H' := by
  simp only [appZ]
  constructor
  · intro h
    split at h
    · rename_i hc
      simp at h
      exact ⟨hc.2, h.1, h.2⟩
    · cases h
  · rintro ⟨h1, rfl, rfl⟩; rw [if_pos ⟨trivial, h1⟩]; simp
theorem set_one {cs : List ZV} {o : Nat} {v : ZV} (h : o < cs.length) : setAt cs o [v] = cs.set o v := by
  unfold setAt
  rw [List.set_eq_take_append_cons_drop, if_pos h]
  simp
end
/-! ### What is seen ahead, as a table -/
def ovG {α : Type} (ov : List (Nat × α)) (d : Nat → α) (t : Nat) : α := match ov with
  | [] => d t
  | (u, x) :: r => if t = u then x else ovG r d t
def owL (ov : List (Nat × List Nat)) (S : ZS) : Opd → Option (List Nat)
  | .tmp t => some (ovG ov (fun t => owners (S t)) t)
  | .av (.ptr ..) | .av (.slice ..) => none
  | _ => some []
def owLop (ov : List (Nat × List Nat)) (S : ZS) : AOp → Option (List Nat)
  | .mv x | .fieldAddr _ x | .indexAddr _ x _ | .indexArr _ _ x _ | .slice _ x _ _ _ | .nilCheck x => owL ov S x
  | _ => some []
def ovP {α : Type} (ov : List (Nat × α)) : Option Nat → α → List (Nat × α)
  | some d, x => (d, x) :: ov
  | none, _ => ov
def ovO (ov : List (Nat × List Nat)) (S : ZS) : Option Nat → List Nat
  | some d => ovG ov (fun t => owners (S t)) d
  | none => []
def zaheadL : List AOper → List (Nat × List Nat) → ZS → Option (List Nat)
  | [], _, _ => some []
  | o :: r, ov, S => if light o.op = true then match owLop ov S o.op with
      | some x => zaheadL r (ovP ov o.dst (x ++ ovO ov S o.dst)) S
      | none => none
    else match o.op, o.iso with
      | .load _ x, false => match owL ov S x, zaheadL r ov S with
        | some a, some b => some (a ++ b)
        | _, _ => none
      | _, _ => zaheadL r ov S
theorem ovG_fun {α : Type} {ov : List (Nat × α)} {d : Nat → α} {D : Option Nat} {x : α} : putO (fun t => ovG ov d t) D x = fun t => ovG (ovP ov D x) d t := by
  cases D with
  | none => rfl
  | some k => funext t; simp only [putO, ovP, ovG]
theorem owL_eq (ov : List (Nat × List Nat)) (S : ZS) (x : Opd) : owO (fun t => ovG ov (fun t => owners (S t)) t) x = owL ov S x := by
  cases x with
  | tmp t => rfl
  | av v => cases v <;> rfl
theorem owLop_eq (ov : List (Nat × List Nat)) (S : ZS) (op : AOp) : owOp (fun t => ovG ov (fun t => owners (S t)) t) op = owLop ov S op := by
  cases op <;> first | rfl | exact owL_eq ov S _
theorem zaheadL_eq (S : ZS) : ∀ (l : List AOper) (ov : List (Nat × List Nat)), zahead l (fun t => ovG ov (fun t => owners (S t)) t) = zaheadL l ov S
  | [], ov => rfl
  | o :: l, ov => by
    have ho : oldO (fun t => ovG ov (fun t => owners (S t)) t) o.dst = ovO ov S o.dst := by cases o.dst <;> rfl
    simp only [zahead, zaheadL, owLop_eq, ho, ovG_fun, zaheadL_eq S l, owL_eq]
    rfl
def exL (ov : List (Nat × Option ZV)) (S : ZS) : Opd → Option ZV
  | .tmp t => ovG ov (fun t => some (S t)) t
  | _ => none
def exLop (ov : List (Nat × Option ZV)) (S : ZS) : AOp → Option ZV
  | .mv x => exL ov S x
  | .fieldAddr n x => match exL ov S x with
    | some (.ptr i o) => some (.ptr i (o + n))
    | _ => none
  | _ => none
def zunderL : List AOper → List (Nat × Option ZV) → ZS → List Nat
  | [], _, _ => []
  | o :: r, ov, S => if light o.op = true then zunderL r (ovP ov o.dst (exLop ov S o.op)) S
    else match o.op, o.iso with
      | .load _ x, false => match exL ov S x with
        | some (.ptr i _) => i :: zunderL r ov S
        | _ => zunderL r ov S
      | _, _ => zunderL r ov S
theorem exL_eq (ov : List (Nat × Option ZV)) (S : ZS) (x : Opd) : exO (fun t => ovG ov (fun t => some (S t)) t) x = exL ov S x := by cases x <;> rfl
theorem exLop_eq (ov : List (Nat × Option ZV)) (S : ZS) (op : AOp) : exOp (fun t => ovG ov (fun t => some (S t)) t) op = exLop ov S op := by
  cases op <;> simp only [exOp, exLop, exL_eq] <;> rfl
theorem zunderL_eq (S : ZS) : ∀ (l : List AOper) (ov : List (Nat × Option ZV)), zunder l (fun t => ovG ov (fun t => some (S t)) t) = zunderL l ov S
  | [], ov => rfl
  | o :: l, ov => by
    simp only [zunder, zunderL, exLop_eq, ovG_fun, zunderL_eq S l, exL_eq]
    rfl
theorem zforb_eq {rs : List Nat} {o : AOper} {l : List AOper} {S : ZS} : zforb rs o l S = if heavy o.op = true then (match zaheadL l [] S with | some fb => some (rs ++ fb) | none => none) else some [] := by
  unfold zforb
  rw [show (fun t => owners (S t)) = fun t => ovG [] (fun t => owners (S t)) t from rfl, zaheadL_eq]; rfl
theorem zpr_eq {rs : List Nat} {pr : Option (List Nat)} {o : AOper} {l : List AOper} {S : ZS} : zpr rs pr o l S = if heavy o.op = true then some (match pr with | none => rs ++ zunderL l [] S | some p => p.filter (rs ++ zunderL l [] S).contains) else pr := by
  unfold zpr
  rw [show (fun t => some (S t)) = fun t => ovG [] (fun t => some (S t)) t from rfl, zunderL_eq]; rfl
def dull : AOp → Bool
  | .load _ _ => false
  | .mv .. | .fieldAddr .. | .indexAddr .. | .indexArr .. | .slice .. | .nilCheck .. | .bin .. => false
  | _ => true
def appO : Option (List Nat) → Option (List Nat) → Option (List Nat)
  | some a, some b => some (a ++ b)
  | _, _ => none
def consP : Option ZV → List Nat → List Nat
  | some (.ptr i _), l => i :: l
  | _, l => l
section
variable {d : Option Nat} {g : Option (Nat × Bool)} {i : Bool} {r : List AOper} {ov : List (Nat × List Nat)} {ow : List (Nat × Option ZV)} {S : ZS} {op : AOp} {t : Nat} {n : Option Nat} {x y : Opd} {v : Value}
theorem zh_dull (h : dull op = true) : zaheadL (⟨d, op, g, i⟩ :: r) ov S = zaheadL r ov S := by cases op <;> first | (cases h; done) | rfl
theorem zh_bin {b : BinOp} : zaheadL (⟨d, .bin b x y, g, i⟩ :: r) ov S = zaheadL r (ovP ov d (ovO ov S d)) S := rfl
theorem zh_mv : zaheadL (⟨d, .mv (.tmp t), g, i⟩ :: r) ov S = zaheadL r (ovP ov d (ovG ov (fun t => owners (S t)) t ++ ovO ov S d)) S := rfl
theorem zh_mvV : zaheadL (⟨d, .mv (.av (.val v)), g, i⟩ :: r) ov S = zaheadL r (ovP ov d (ovO ov S d)) S := rfl
theorem zh_fieldAddr {o : Nat} : zaheadL (⟨d, .fieldAddr o (.tmp t), g, i⟩ :: r) ov S = zaheadL r (ovP ov d (ovG ov (fun t => owners (S t)) t ++ ovO ov S d)) S := rfl
theorem zh_indexAddr {o : Nat} : zaheadL (⟨d, .indexAddr o (.tmp t) x, g, i⟩ :: r) ov S = zaheadL r (ovP ov d (ovG ov (fun t => owners (S t)) t ++ ovO ov S d)) S := rfl
theorem zh_indexArr {o l : Nat} : zaheadL (⟨d, .indexArr o l (.tmp t) x, g, i⟩ :: r) ov S = zaheadL r (ovP ov d (ovG ov (fun t => owners (S t)) t ++ ovO ov S d)) S := rfl
theorem zh_slice {o : Nat} {a b c : Option Opd} : zaheadL (⟨d, .slice o (.tmp t) a b c, g, i⟩ :: r) ov S = zaheadL r (ovP ov d (ovG ov (fun t => owners (S t)) t ++ ovO ov S d)) S := rfl
theorem zh_nilCheck : zaheadL (⟨d, .nilCheck (.tmp t), g, i⟩ :: r) ov S = zaheadL r (ovP ov d (ovG ov (fun t => owners (S t)) t ++ ovO ov S d)) S := rfl
theorem zh_loadI : zaheadL (⟨d, .load n x, g, true⟩ :: r) ov S = zaheadL r ov S := rfl
theorem zh_load : zaheadL (⟨d, .load n (.tmp t), g, false⟩ :: r) ov S = appO (some (ovG ov (fun t => owners (S t)) t)) (zaheadL r ov S) := by
  simp only [zaheadL, light, owL, appO]
  cases zaheadL r ov S <;> rfl
theorem zu_dull (h : dull op = true) : zunderL (⟨d, op, g, i⟩ :: r) ow S = zunderL r ow S := by cases op <;> first | (cases h; done) | rfl
theorem zu_bin {b : BinOp} : zunderL (⟨d, .bin b x y, g, i⟩ :: r) ow S = zunderL r (ovP ow d none) S := rfl
theorem zu_mv : zunderL (⟨d, .mv x, g, i⟩ :: r) ow S = zunderL r (ovP ow d (exL ow S x)) S := rfl
def addP (n : Nat) : Option ZV → Option ZV
  | some (.ptr i o) => some (.ptr i (o + n))
  | _ => none
theorem zu_fieldAddr {o : Nat} : zunderL (⟨d, .fieldAddr o x, g, i⟩ :: r) ow S = zunderL r (ovP ow d (addP o (exL ow S x))) S := rfl
theorem zu_indexAddr {o : Nat} : zunderL (⟨d, .indexAddr o x y, g, i⟩ :: r) ow S = zunderL r (ovP ow d none) S := rfl
theorem zu_indexArr {o l : Nat} : zunderL (⟨d, .indexArr o l x y, g, i⟩ :: r) ow S = zunderL r (ovP ow d none) S := rfl
theorem zu_slice {o : Nat} {a b c : Option Opd} : zunderL (⟨d, .slice o x a b c, g, i⟩ :: r) ow S = zunderL r (ovP ow d none) S := rfl
theorem zu_nilCheck : zunderL (⟨d, .nilCheck x, g, i⟩ :: r) ow S = zunderL r (ovP ow d none) S := rfl
theorem zu_loadI : zunderL (⟨d, .load n x, g, true⟩ :: r) ow S = zunderL r ow S := rfl
theorem zu_load : zunderL (⟨d, .load n x, g, false⟩ :: r) ow S = consP (exL ow S x) (zunderL r ow S) := by
  simp only [zunderL, light]
  unfold consP
  cases exL ow S x with
  | none => rfl
  | some z => cases z <;> rfl
theorem zh_nil : zaheadL [] ov S = some [] := rfl
theorem zu_nil : zunderL [] ow S = [] := rfl
theorem appO_some {a b : List Nat} : appO (some a) (some b) = some (a ++ b) := rfl
theorem consP_ptr {i o : Nat} {l : List Nat} : consP (some (.ptr i o)) l = i :: l := rfl
theorem consP_none {l : List Nat} : consP none l = l := rfl
theorem addP_ptr {n i o : Nat} : addP n (some (.ptr i o)) = some (.ptr i (o + n)) := rfl
theorem addP_none {n : Nat} : addP n none = none := rfl
theorem ovG_nil {α : Type} {f : Nat → α} : ovG [] f t = f t := rfl
theorem ovG_cons {α : Type} {f : Nat → α} {u : Nat} {a : α} {o : List (Nat × α)} : ovG ((u, a) :: o) f t = if t = u then a else ovG o f t := rfl
theorem ovP_some {α : Type} {o : List (Nat × α)} {k : Nat} {a : α} : ovP o (some k) a = (k, a) :: o := rfl
theorem ovP_none {α : Type} {o : List (Nat × α)} {a : α} : ovP o none a = o := rfl
theorem ovO_some {k : Nat} : ovO ov S (some k) = ovG ov (fun t => owners (S t)) k := rfl
theorem ovO_none : ovO ov S none = [] := rfl
theorem exL_tmp : exL ow S (.tmp t) = ovG ow (fun t => some (S t)) t := rfl
theorem exL_av {a : AV} : exL ow S (.av a) = none := rfl
def preO (rs : List Nat) : Option (List Nat) → Option (List Nat)
  | some fb => some (rs ++ fb)
  | none => none
theorem preO_some {rs fb : List Nat} : preO rs (some fb) = some (rs ++ fb) := rfl
theorem zf_heavy {rs : List Nat} {l : List AOper} (h : heavy op = true) : zforb rs ⟨d, op, g, i⟩ l S = preO rs (zaheadL l [] S) := by
  rw [zforb_eq, if_pos h]; cases zaheadL l [] S <;> rfl
theorem zf_light {rs : List Nat} {l : List AOper} (h : heavy op = false) : zforb rs ⟨d, op, g, i⟩ l S = some [] := by
  rw [zforb_eq, if_neg (by simp [h])]
theorem zp_heavy0 {rs : List Nat} {l : List AOper} (h : heavy op = true) : zpr rs none ⟨d, op, g, i⟩ l S = some (rs ++ zunderL l [] S) := by
  rw [zpr_eq, if_pos h]
theorem zp_heavy1 {rs p : List Nat} {l : List AOper} (h : heavy op = true) : zpr rs (some p) ⟨d, op, g, i⟩ l S = some (p.filter (rs ++ zunderL l [] S).contains) := by
  rw [zpr_eq, if_pos h]
theorem zp_light {rs : List Nat} {pr : Option (List Nat)} {l : List AOper} (h : heavy op = false) : zpr rs pr ⟨d, op, g, i⟩ l S = pr := by
  rw [zpr_eq, if_neg (by simp [h])]
theorem zr_load {rs : List Nat} : zrs rs ⟨d, .load n (.tmp t), g, i⟩ S = consP (some (S t)) rs := by
  simp only [zrs, zev]
  unfold consP
  cases S t <;> rfl
theorem zr_heavy {rs : List Nat} (h : heavy op = true) : zrs rs ⟨d, op, g, i⟩ S = rs := by
  cases op <;> first | rfl | (cases h; done)
end
section
variable {n : Option Nat} {x y c a b : Opd} {n0 k l : Nat} {cs : List AV} {ps : List (Nat × Nat × Opd)} {ng : Bool} {ks : List Nat} {u : UnOp} {ik : IntKind} {f : FuncId} {os : List Opd} {d : Option Nat} {g : Option (Nat × Bool)} {i : Bool} {r : List AOper} {ov : List (Nat × List Nat)} {ow : List (Nat × Option ZV)} {S : ZS} {rs p : List Nat} {pr : Option (List Nat)}
theorem zh_pick : zaheadL (⟨d, .pick c a b, g, i⟩ :: r) ov S = zaheadL r ov S := rfl
theorem zu_pick : zunderL (⟨d, .pick c a b, g, i⟩ :: r) ow S = zunderL r ow S := rfl
theorem zh_box : zaheadL (⟨d, .box n0 x, g, i⟩ :: r) ov S = zaheadL r ov S := rfl
theorem zu_box : zunderL (⟨d, .box n0 x, g, i⟩ :: r) ow S = zunderL r ow S := rfl
theorem zh_zero : zaheadL (⟨d, .zero cs, g, i⟩ :: r) ov S = zaheadL r ov S := rfl
theorem zu_zero : zunderL (⟨d, .zero cs, g, i⟩ :: r) ow S = zunderL r ow S := rfl
theorem zh_build : zaheadL (⟨d, .build cs ps, g, i⟩ :: r) ov S = zaheadL r ov S := rfl
theorem zu_build : zunderL (⟨d, .build cs ps, g, i⟩ :: r) ow S = zunderL r ow S := rfl
theorem zh_lits : zaheadL (⟨d, .lits k l cs ps, g, i⟩ :: r) ov S = zaheadL r ov S := rfl
theorem zu_lits : zunderL (⟨d, .lits k l cs ps, g, i⟩ :: r) ow S = zunderL r ow S := rfl
theorem zh_store : zaheadL (⟨d, .store n0 x y, g, i⟩ :: r) ov S = zaheadL r ov S := rfl
theorem zu_store : zunderL (⟨d, .store n0 x y, g, i⟩ :: r) ow S = zunderL r ow S := rfl
theorem zh_eqNil : zaheadL (⟨d, .eqNil ng k x, g, i⟩ :: r) ov S = zaheadL r ov S := rfl
theorem zu_eqNil : zunderL (⟨d, .eqNil ng k x, g, i⟩ :: r) ow S = zunderL r ow S := rfl
theorem zh_eqBool : zaheadL (⟨d, .eqBool ng x y, g, i⟩ :: r) ov S = zaheadL r ov S := rfl
theorem zu_eqBool : zunderL (⟨d, .eqBool ng x y, g, i⟩ :: r) ow S = zunderL r ow S := rfl
theorem zh_eqAgg : zaheadL (⟨d, .eqAgg ng ks x y, g, i⟩ :: r) ov S = zaheadL r ov S := rfl
theorem zu_eqAgg : zunderL (⟨d, .eqAgg ng ks x y, g, i⟩ :: r) ow S = zunderL r ow S := rfl
theorem zh_un : zaheadL (⟨d, .un u x, g, i⟩ :: r) ov S = zaheadL r ov S := rfl
theorem zu_un : zunderL (⟨d, .un u x, g, i⟩ :: r) ow S = zunderL r ow S := rfl
theorem zh_conv : zaheadL (⟨d, .conv ik x, g, i⟩ :: r) ov S = zaheadL r ov S := rfl
theorem zu_conv : zunderL (⟨d, .conv ik x, g, i⟩ :: r) ow S = zunderL r ow S := rfl
theorem zh_field : zaheadL (⟨d, .field k n x, g, i⟩ :: r) ov S = zaheadL r ov S := rfl
theorem zu_field : zunderL (⟨d, .field k n x, g, i⟩ :: r) ow S = zunderL r ow S := rfl
theorem zh_index : zaheadL (⟨d, .index k l n x y, g, i⟩ :: r) ov S = zaheadL r ov S := rfl
theorem zu_index : zunderL (⟨d, .index k l n x y, g, i⟩ :: r) ow S = zunderL r ow S := rfl
theorem zh_indexStr : zaheadL (⟨d, .indexStr x y, g, i⟩ :: r) ov S = zaheadL r ov S := rfl
theorem zu_indexStr : zunderL (⟨d, .indexStr x y, g, i⟩ :: r) ow S = zunderL r ow S := rfl
theorem zh_mkSlice : zaheadL (⟨d, .mkSlice k l cs x y, g, i⟩ :: r) ov S = zaheadL r ov S := rfl
theorem zu_mkSlice : zunderL (⟨d, .mkSlice k l cs x y, g, i⟩ :: r) ow S = zunderL r ow S := rfl
theorem zh_extract : zaheadL (⟨d, .extract k x, g, i⟩ :: r) ov S = zaheadL r ov S := rfl
theorem zu_extract : zunderL (⟨d, .extract k x, g, i⟩ :: r) ow S = zunderL r ow S := rfl
theorem zh_func : zaheadL (⟨d, .func f os, g, i⟩ :: r) ov S = zaheadL r ov S := rfl
theorem zu_func : zunderL (⟨d, .func f os, g, i⟩ :: r) ow S = zunderL r ow S := rfl
theorem zh_call : zaheadL (⟨d, .call x os, g, i⟩ :: r) ov S = zaheadL r ov S := rfl
theorem zu_call : zunderL (⟨d, .call x os, g, i⟩ :: r) ow S = zunderL r ow S := rfl
theorem zh_append : zaheadL (⟨d, .append k l x y, g, i⟩ :: r) ov S = zaheadL r ov S := rfl
theorem zu_append : zunderL (⟨d, .append k l x y, g, i⟩ :: r) ow S = zunderL r ow S := rfl
theorem zh_len : zaheadL (⟨d, .len x, g, i⟩ :: r) ov S = zaheadL r ov S := rfl
theorem zu_len : zunderL (⟨d, .len x, g, i⟩ :: r) ow S = zunderL r ow S := rfl
theorem zh_lenStr : zaheadL (⟨d, .lenStr x, g, i⟩ :: r) ov S = zaheadL r ov S := rfl
theorem zu_lenStr : zunderL (⟨d, .lenStr x, g, i⟩ :: r) ow S = zunderL r ow S := rfl
theorem zh_copy : zaheadL (⟨d, .copy k x y, g, i⟩ :: r) ov S = zaheadL r ov S := rfl
theorem zu_copy : zunderL (⟨d, .copy k x y, g, i⟩ :: r) ow S = zunderL r ow S := rfl
theorem zh_minmax : zaheadL (⟨d, .minmax ng x os, g, i⟩ :: r) ov S = zaheadL r ov S := rfl
theorem zu_minmax : zunderL (⟨d, .minmax ng x os, g, i⟩ :: r) ow S = zunderL r ow S := rfl
theorem zf_store : zforb rs ⟨d, .store n0 x y, g, i⟩ r S = preO rs (zaheadL r [] S) := zf_heavy rfl
theorem zp0_store : zpr rs none ⟨d, .store n0 x y, g, i⟩ r S = some (rs ++ zunderL r [] S) := zp_heavy0 rfl
theorem zp1_store : zpr rs (some p) ⟨d, .store n0 x y, g, i⟩ r S = some (p.filter (rs ++ zunderL r [] S).contains) := zp_heavy1 rfl
theorem zr_store : zrs rs ⟨d, .store n0 x y, g, i⟩ S = rs := zr_heavy rfl
theorem zf_append : zforb rs ⟨d, .append k l x y, g, i⟩ r S = preO rs (zaheadL r [] S) := zf_heavy rfl
theorem zp0_append : zpr rs none ⟨d, .append k l x y, g, i⟩ r S = some (rs ++ zunderL r [] S) := zp_heavy0 rfl
theorem zp1_append : zpr rs (some p) ⟨d, .append k l x y, g, i⟩ r S = some (p.filter (rs ++ zunderL r [] S).contains) := zp_heavy1 rfl
theorem zr_append : zrs rs ⟨d, .append k l x y, g, i⟩ S = rs := zr_heavy rfl
theorem zf_copy : zforb rs ⟨d, .copy k x y, g, i⟩ r S = preO rs (zaheadL r [] S) := zf_heavy rfl
theorem zp0_copy : zpr rs none ⟨d, .copy k x y, g, i⟩ r S = some (rs ++ zunderL r [] S) := zp_heavy0 rfl
theorem zp1_copy : zpr rs (some p) ⟨d, .copy k x y, g, i⟩ r S = some (p.filter (rs ++ zunderL r [] S).contains) := zp_heavy1 rfl
theorem zr_copy : zrs rs ⟨d, .copy k x y, g, i⟩ S = rs := zr_heavy rfl
theorem zf_call : zforb rs ⟨d, .call x os, g, i⟩ r S = preO rs (zaheadL r [] S) := zf_heavy rfl
theorem zp0_call : zpr rs none ⟨d, .call x os, g, i⟩ r S = some (rs ++ zunderL r [] S) := zp_heavy0 rfl
theorem zp1_call : zpr rs (some p) ⟨d, .call x os, g, i⟩ r S = some (p.filter (rs ++ zunderL r [] S).contains) := zp_heavy1 rfl
theorem zr_call : zrs rs ⟨d, .call x os, g, i⟩ S = rs := zr_heavy rfl
theorem zf_load : zforb rs ⟨d, .load n x, g, i⟩ r S = some [] := zf_light rfl
theorem zp_load : zpr rs pr ⟨d, .load n x, g, i⟩ r S = pr := zp_light rfl
end
/-! ### What the proof adds -/
def zgoS (o : Option (List (Nat × Nat))) (b : Bool) (K : ZV → ZH → Prop) (z : ZV) (H : ZH) : Prop := match o with
  | some l => zown l K z H
  | none => if b = true then zfrz K z H else K z H
section
variable {H : ZH} {G : Gh} {K : ZV → ZH → Prop} {z : ZV} {l : List (Nat × Nat)} {b : Bool} {d k : Nat}
theorem zgoG_some {p : Nat × List (Nat × Nat)} {ow : List (Nat × List (Nat × Nat))} {li fr : List Nat} : ZgoG ⟨p :: ow, li, fr⟩ (some d) K z H ↔ zgoS ((p :: ow).lookup d) (fr.contains d) K z H := by
  unfold ZgoG zgo zgoS
  cases h : List.lookup d (p :: ow) <;> simp [h]
theorem zgoG_someF {li fr : List Nat} {f : Nat} : ZgoG ⟨[], li, f :: fr⟩ (some d) K z H ↔ zgoS none ((f :: fr).contains d) K z H := Iff.rfl
theorem zgoG_someL {li : List Nat} {f : Nat} : ZgoG ⟨[], f :: li, []⟩ (some d) K z H ↔ K z H := by
  simp [ZgoG, zgo]
theorem zgoG_none : ZgoG G none K z H ↔ K z H := Iff.rfl
theorem zgoS_no : zgoS none false K z H ↔ K z H := by simp [zgoS]
theorem zgoS_frz : zgoS none true K z H ↔ zfrz K z H := by simp [zgoS]
theorem zgoS_own : zgoS (some l) b K z H ↔ zown l K z H := Iff.rfl
theorem zown_nil : zown [(0, k)] K .nil H ↔ K (.own H.length 0 0 0 false) (H ++ [.grow 0 k []]) := by
  simp [zown, ownCells]
  exact ⟨fun ⟨_, _, ⟨e1, e2⟩, k⟩ => by subst e1; subst e2; exact k, fun k => ⟨_, _, ⟨rfl, rfl⟩, k⟩⟩
theorem zown_own {i g o n : Nat} {e : Bool} : zown l K (.own i g o n e) H ↔ K (.own i g o n e) H := Iff.rfl
theorem zown_fz {k : Nat} {e : Bool} {r : List (List ZV)} : zown l K (.fz k e r) H ↔ K (.fz k e r) H := Iff.rfl
theorem zown_agg {cs : List ZV} : zown l K (.agg cs) H ↔ ∃ cs' H', ownCells l cs H = some (cs', H') ∧ K (.agg cs') H' := Iff.rfl
theorem zown_ptr {i o : Nat} : zown l K (.ptr i o) H ↔ ∃ cs, H[i]? = some (.box cs) ∧ ∃ cs' H', ownCells l cs H = some (cs', H') ∧ K (.ptr i o) (H'.set i (.box cs')) := by
  simp only [zown]
  constructor
  · intro h
    split at h
    · rename_i cs hb; exact ⟨cs, hb, h⟩
    · exact h.elim
  · rintro ⟨cs, h1, h2⟩; rw [h1]; exact h2
theorem zfrz_own {i g off len : Nat} {ex : Bool} : zfrz K (.own i g off len ex) H ↔ ∃ k rows, H[i]? = some (.grow g k rows) ∧ off + len ≤ rows.length ∧ rows.flatten.all pureZ = true ∧ K (.fz k ex ((rows.drop off).take len)) (H.set i .dead) := by
  simp only [zfrz]
  constructor
  · intro h
    split at h
    · rename_i g' k rows hb
      obtain ⟨rfl, h1, h2, h3⟩ := h
      exact ⟨k, rows, hb, h1, h2, h3⟩
    · exact h.elim
  · rintro ⟨k, rows, h1, h2, h3, h4⟩; rw [h1]; exact ⟨rfl, h2, h3, h4⟩
theorem zfrz_fz {k : Nat} {e : Bool} {r : List (List ZV)} : zfrz K (.fz k e r) H ↔ K (.fz k e r) H := by simp [zfrz, pureZ]
theorem zfrz_val {v : Value} : zfrz K (.val v) H ↔ K (.val v) H := by simp [zfrz, pureZ]
theorem ownC_nil {cs : List ZV} : ownCells [] cs H = some (cs, H) := rfl
theorem ownC_cons {j : Nat} {r : List (Nat × Nat)} {cs : List ZV} {p : List ZV × ZH} : ownCells ((j, k) :: r) cs H = some p ↔ cs[j]? = some .nil ∧ ownCells r (cs.set j (.own H.length 0 0 0 false)) (H ++ [.grow 0 k []]) = some p := by
  simp only [ownCells]
  constructor
  · intro h
    split at h
    · rename_i hj; exact ⟨hj, h⟩
    · cases h
  · rintro ⟨h1, h2⟩; rw [h1]; exact h2
theorem pure_mapI {α : Type} {f : α → List ZV} {l : List α} (h : ∀ a, (f a).all pureZ = true) : (l.map f).flatten.all pureZ = true := by
  induction l with
  | nil => rfl
  | cons a l ih => rw [List.map_cons, List.flatten_cons, List.all_append, h, ih]; rfl
end
/-! ### Memory -/
section
variable {H e : ZH}
theorem H_at0 : (H ++ e)[H.length]? = e[0]? := by rw [List.getElem?_append_right (Nat.le_refl _), Nat.sub_self]
theorem H_atK {k : Nat} : (H ++ e)[H.length + k]? = e[k]? := by rw [List.getElem?_append_right (by omega)]; congr 1; omega
theorem H_set0 {B : ZB} : (H ++ e).set H.length B = H ++ e.set 0 B := by rw [List.set_append_right _ _ (Nat.le_refl _), Nat.sub_self]
theorem H_setK {k : Nat} {B : ZB} : (H ++ e).set (H.length + k) B = H ++ e.set k B := by rw [List.set_append_right _ _ (by omega), Nat.add_sub_cancel_left]
theorem H_app {i : Nat} {B : ZB} (h : H[i]? = some B) (e : ZH) : (H ++ e)[i]? = some B := by rw [List.getElem?_append_left (List.getElem?_eq_some_iff.1 h).1]; exact h
theorem H_setL {i : Nat} {B C : ZB} (h : H[i]? = some B) (e : ZH) : (H ++ e).set i C = H.set i C ++ e := List.set_append_left _ _ (List.getElem?_eq_some_iff.1 h).1
end
end Go.Proofs.Ytpmmiaadfnildaa
