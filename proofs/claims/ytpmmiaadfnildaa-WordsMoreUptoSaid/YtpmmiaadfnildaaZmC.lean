/-
  ZM: what each operation does.
-/
import Derived.Test.YtpmmiaadfnildaaZmB
namespace Go.Proofs.Ytpmmiaadfnildaa
open Go Go.RowKit
set_option linter.unusedVariables false
set_option linter.unusedSimpArgs false

def zcs : List AV → Option (List ZV)
  | [] => some []
  | .val v :: r => (zcs r).map (ZV.val v :: ·)
  | _ => none
def zev (S : ZS) : Opd → Option ZV
  | .tmp t => some (S t)
  | .av (.val v) => some (.val v)
  | .av (.func f []) => some (.func f [])
  | .av (.agg cs) => (zcs cs).map .agg
  | .av (.tuple []) => some .no
  | _ => none
def zevs (S : ZS) : List Opd → Option (List ZV)
  | [] => some []
  | x :: r => match zev S x, zevs S r with
    | some z, some l => some (z :: l)
    | _, _ => none
def setAt (cs : List ZV) (o : Nat) (vs : List ZV) : List ZV := cs.take o ++ vs ++ cs.drop (o + vs.length)
def fillZ : List ZV → List (Nat × Nat × ZV) → Option (List ZV)
  | cs, [] => some cs
  | cs, (o, n, v) :: r => if v.cells.length = n ∧ o + n ≤ cs.length ∧ v.cells.all ZV.isCell = true then fillZ (setAt cs o v.cells) r else none
def zparts (S : ZS) : List (Nat × Nat × Opd) → Option (List (Nat × Nat × ZV))
  | [] => some []
  | (o, n, x) :: r => match zev S x, zparts S r with
    | some z, some l => some ((o, n, z) :: l)
    | _, _ => none
def chunk : Nat → Nat → List ZV → List (List ZV)
  | 0, _, _ => []
  | n + 1, k, cs => cs.take k :: chunk n k (cs.drop k)
def pureZ : ZV → Bool
  | .val _ => true
  | .fz _ _ _ => true
  | .func _ caps => caps.isEmpty
  | _ => false
def partZ (cs : List ZV) (o : Nat) : Option Nat → Option ZV
  | some n => if o + n ≤ cs.length then some (.agg ((cs.drop o).take n)) else none
  | none => cs[o]?
/-- What an address tells. -/
def ldZ (H : ZH) (n : Option Nat) : ZV → Option ZV
  | .ptr i o => match H[i]? with
    | some (.box cs) => partZ cs o n
    | _ => none
  | .eptr i g e o => match H[i]? with
    | some (.grow g' _ rows) => if g' = g then match rows[e]? with
      | some r => partZ r o n
      | none => none
      else none
    | _ => none
  | .fptr _ rows j o => match rows[j]? with
    | some r => partZ r o n
    | none => none
  | _ => none
def stZ (L : Nat → Bool) (H : ZH) (vs : List ZV) : ZV → Option ZH
  | .ptr i o => match H[i]? with
    | some (.box cs) => if L i = true ∧ o + vs.length ≤ cs.length then some (H.set i (.box (setAt cs o vs))) else none
    | _ => none
  | .eptr i g e o => match H[i]? with
    | some (.grow g' k rows) => if g' = g then match rows[e]? with
      | some r => if L i = true ∧ o + vs.length ≤ r.length then some (H.set i (.grow g k (rows.set e (setAt r o vs)))) else none
      | none => none
      else none
    | _ => none
  | _ => none
def rowsZ (H : ZH) (k : Nat) : ZV → Option (List (List ZV))
  | .val (.slice none 0 0) => some []
  | .fz k' _ rows => if k' = k then some rows else none
  | .own i g off len _ => match H[i]? with
    | some (.grow g' k' rows) => if g' = g ∧ k' = k ∧ off + len ≤ rows.length then some ((rows.drop off).take len) else none
    | _ => none
  | _ => none
def lenZ (H : ZH) : ZV → Option Nat
  | .val (.slice none 0 0) => some 0
  | .fz _ _ rows => some rows.length
  | .own i g off len _ => match H[i]? with
    | some (.grow g' _ _) => if g' = g then some len else none
    | _ => none
  | _ => none
def addZ (n : Nat) : ZV → Option ZV
  | .ptr i o => some (.ptr i (o + n))
  | .eptr i g e o => some (.eptr i g e (o + n))
  | .fptr k rows j o => some (.fptr k rows j (o + n))
  | _ => none
/-- The address of an element. -/
def elemZ (H : ZH) (k j : Nat) : ZV → Option ZV
  | .fz k' _ rows => if k' = k ∧ j < rows.length then some (.fptr k rows j 0) else none
  | .own i g off len _ => match H[i]? with
    | some (.grow g' k' rows) => if g' = g ∧ k' = k ∧ off + len ≤ rows.length ∧ j < len then some (.eptr i g (off + j) 0) else none
    | _ => none
  | _ => none
def natZ : ZV → Option Nat
  | .val (.int _ n) => if 0 ≤ n then some n.toNat else none
  | _ => none
def nilOkZ : ZV → Bool
  | .ptr _ _ | .eptr _ _ _ _ | .fptr _ _ _ _ | .func _ _ => true
  | _ => false
def nilZ (H : ZH) : Nat → ZV → Option Bool
  | 0, .val (.slice none 0 0) | 1, .val (.pointer none) | 2, .val .nilFunc => some true
  | 1, .ptr _ _ | 1, .eptr _ _ _ _ | 1, .fptr _ _ _ _ | 2, .func _ _ => some false
  | 0, .fz _ _ (_ :: _) => some false
  | 0, .own i g off (len + 1) _ => match H[i]? with
    | some (.grow g' _ rows) => if g' = g ∧ off + (len + 1) ≤ rows.length then some false else none
    | _ => none
  | _, _ => none
def sameZ : List Nat → List ZV → List ZV → Option Bool
  | [], [], [] => some true
  | t :: ts, .val a :: x, .val b :: y => match sameV t a b with
    | some t => match sameZ ts x y with
      | some u => some (t && u)
      | none => none
    | none => none
  | _, _, _ => none
def numZ (S : ZS) (d : Nat) : Option Opd → Option Nat
  | none => some d
  | some x => match zev S x with
    | some z => natZ z
    | none => none
def cutZ (H : ZH) (k l u m : Nat) (mx : Bool) : ZV → Option ZV
  | .val (.slice none 0 0) => if l = 0 ∧ u = 0 ∧ m = 0 then some .nil else none
  | .fz k' ex rows => if k' = k ∧ l ≤ u ∧ u ≤ m ∧ m ≤ rows.length then (if rows = [] then some (.fz k false []) else some (.fz k ((ex || mx) && u == m) ((rows.drop l).take (u - l)))) else none
  | .own i g off len ex => match H[i]? with
    | some (.grow g' k' rows) => if g' = g ∧ k' = k ∧ l ≤ u ∧ u ≤ m ∧ m ≤ len ∧ off + len ≤ rows.length then some (.own i g (off + l) (u - l) ((ex || mx) && u == m)) else none
    | _ => none
  | _ => none
def bestZ (max : Bool) : ZV → List ZV → Option ZV
  | a, [] => some a
  | .val (.int k n), .val (.int _ p) :: r => bestZ max (.val (.int k (if max then (if p > n then p else n) else (if p < n then p else n)))) r
  | _, _ => none
/-- Appending: what comes of it. -/
def appZ (L : Nat → Bool) (H : ZH) (k bytes : Nat) (new : List (List ZV)) : ZV → Option (ZV × ZH)
  | .val (.slice none 0 0) => if new.length * bytes ≤ reach then some (.own H.length 0 0 new.length false, H ++ [.grow 0 k new]) else none
  | .fz k' ex rows => if k' = k ∧ (rows.length + new.length) * bytes ≤ reach then
      (if new = [] then some (.fz k ex rows, H) else if ex = true then some (.own H.length 0 0 (rows.length + new.length) false, H ++ [.grow 0 k (rows ++ new)]) else none) else none
  | .own i g off len ex => match H[i]? with
    | some (.grow g' k' rows) => if g' = g ∧ k' = k ∧ off + len ≤ rows.length ∧ (len + new.length) * bytes ≤ reach then
        (if ex = true then (if new = [] then some (.own i g off len ex, H) else some (.own H.length 0 0 (len + new.length) false, H ++ [.grow 0 k ((rows.drop off).take len ++ new)]))
        else if L i = true then some (.own i (g + 1) 0 (len + new.length) false, H.set i (.grow (g + 1) k ((rows.drop off).take len ++ new))) else none) else none
    | _ => none
  | _ => none
def copyZ (L : Nat → Bool) (H : ZH) (k : Nat) (new : List (List ZV)) : ZV → Option (Nat × ZH)
  | .val (.slice none 0 0) => some (0, H)
  | .own i g off len _ => match H[i]? with
    | some (.grow g' k' rows) => if g' = g ∧ k' = k ∧ off + len ≤ rows.length ∧ L i = true ∧ 0 < len then some (min new.length len, H.set i (.grow g k (rows.take off ++ new.take (min new.length len) ++ rows.drop (off + min new.length len)))) else none
    | _ => none
  | _ => none

/-- A read in no fixed place: only of boxes that were there. -/
def topZ : Option (Nat × Option (List Nat)) → ZV → Bool
  | none, _ => true
  | some (base, pr), .ptr i _ => decide (i < base) && (match pr with | none => true | some l => l.contains i)
  | _, _ => false

def z1 (L : Nat → Bool) (top : Option (Nat × Option (List Nat))) (gl : Bool) (S : ZS) (H : ZH) (K : ZV → ZH → Prop) : AOp → Prop
  | .mv x => ∃ z, zev S x = some z ∧ K z H
  | .pick c a b => ∃ t x y, zev S c = some (.val (.bool t)) ∧ zev S a = some x ∧ zev S b = some y ∧ K (if t = true then x else y) H
  | .box n x => ∃ z, zev S x = some z ∧ z.cells.length = n ∧ z.cells.all ZV.isCell = true ∧ K (.ptr H.length 0) (H ++ [.box z.cells])
  | .zero cs => ∃ zs, zcs cs = some zs ∧ K (.ptr H.length 0) (H ++ [.box zs])
  | .build z ps => ∃ zs qs cs, zcs z = some zs ∧ zparts S ps = some qs ∧ fillZ zs qs = some cs ∧ K (.agg cs) H
  | .lits k len z ps => ∃ zs qs cs, zcs z = some zs ∧ zparts S ps = some qs ∧ fillZ zs qs = some cs ∧ cs.length = len * k ∧ cs.all ZV.isCell = true ∧
      (if gl = true then K (.own H.length 0 0 len true) (H ++ [.grow 0 k (chunk len k cs)]) else cs.all pureZ = true ∧ K (.fz k true (chunk len k cs)) H)
  | .load n x => ∃ z v, zev S x = some z ∧ topZ top z = true ∧ ldZ H n z = some v ∧ K v H
  | .store n a v => ∃ p z H', zev S a = some p ∧ zev S v = some z ∧ z.cells.length = n ∧ z.cells.all ZV.isCell = true ∧ stZ L H z.cells p = some H' ∧ K .no H'
  | .nilCheck x => ∃ z, zev S x = some z ∧ nilOkZ z = true ∧ K z H
  | .bin op x y => ∃ a b v, zev S x = some (.val a) ∧ zev S y = some (.val b) ∧ binV op a b = some v ∧ K (.val v) H
  | .eqNil neg kd x => ∃ z b, zev S x = some z ∧ nilZ H kd z = some b ∧ K (.val (.bool (if neg = true then !b else b))) H
  | .eqBool neg x y => ∃ a b, zev S x = some (.val (.bool a)) ∧ zev S y = some (.val (.bool b)) ∧ K (.val (.bool (if neg = true then !(a == b) else a == b))) H
  | .eqAgg neg ks x y => ∃ a b t, zev S x = some (.agg a) ∧ zev S y = some (.agg b) ∧ sameZ ks a b = some t ∧ K (.val (.bool (if neg = true then !t else t))) H
  | .un op x => ∃ a v, zev S x = some (.val a) ∧ unV op a = some v ∧ K (.val v) H
  | .conv k x => ∃ k' n, zev S x = some (.val (.int k' n)) ∧ K (.val (.int k (k.wrap n))) H
  | .field off n x => ∃ cs v, zev S x = some (.agg cs) ∧ partZ cs off n = some v ∧ K v H
  | .fieldAddr off x => ∃ z v, zev S x = some z ∧ addZ off z = some v ∧ K v H
  | .indexAddr k x i => ∃ z y j v, zev S x = some z ∧ zev S i = some y ∧ natZ y = some j ∧ elemZ H k j z = some v ∧ K v H
  | .indexArr k len x i => ∃ z y j v, zev S x = some z ∧ zev S i = some y ∧ natZ y = some j ∧ j < len ∧ addZ (j * k) z = some v ∧ K v H
  | .index k len n x i => ∃ cs y j v, zev S x = some (.agg cs) ∧ zev S i = some y ∧ natZ y = some j ∧ j < len ∧ partZ cs (j * k) n = some v ∧ K v H
  | .indexStr x i => ∃ t y j b, zev S x = some (.val (.string t)) ∧ zev S i = some y ∧ natZ y = some j ∧ t[j]? = some b ∧ K (.val (.int .u8 b.toNat)) H
  | .slice k x lo hi mx => ∃ z n l u m v, zev S x = some z ∧ lenZ H z = some n ∧ numZ S 0 lo = some l ∧ numZ S n hi = some u ∧ numZ S n mx = some m ∧ cutZ H k l u m mx.isSome z = some v ∧ K v H
  | .mkSlice k bytes z l c => ∃ x y a b zs, zev S l = some x ∧ zev S c = some y ∧ natZ x = some a ∧ natZ y = some b ∧ zcs z = some zs ∧ zs.length = k ∧ a ≤ b ∧ b * bytes ≤ reach ∧ K (.own H.length 0 0 a (a == b)) (H ++ [.grow 0 k (List.replicate a zs)])
  | .extract i x => ∃ vs v, zev S x = some (.tuple vs) ∧ vs[i]? = some v ∧ K v H
  | .func f caps => ∃ zs, zevs S caps = some zs ∧ K (.func f zs) H
  | .call _ _ => False
  | .append k bytes x y => ∃ z u new v H', zev S x = some z ∧ zev S y = some u ∧ rowsZ H k u = some new ∧ appZ L H k bytes new z = some (v, H') ∧ K v H'
  | .len x => ∃ z n, zev S x = some z ∧ lenZ H z = some n ∧ K (.val (.int .i64 n)) H
  | .lenStr x => ∃ t, zev S x = some (.val (.string t)) ∧ K (.val (.int .i64 t.size)) H
  | .copy k x y => ∃ z u new n H', zev S x = some z ∧ zev S y = some u ∧ rowsZ H k u = some new ∧ copyZ L H k new z = some (n, H') ∧ K (.val (.int .i64 (n : Nat))) H'
  | .clear _ _ _ => False
  | .minmax max x xs => ∃ z zs v, zev S x = some z ∧ zevs S xs = some zs ∧ bestZ max z zs = some v ∧ K v H
  | .bad => False
end Go.Proofs.Ytpmmiaadfnildaa
