/-
  What package nanbox computes: Box, Unbox, Kind (and the reference's Odd).
-/
import Derived.KernelRfl
import Derived.Test.YtmholkmghhkbhaaMrB1
import Derived.Test.YtmholkmghhkbhaaMrB4
import Derived.Test.YtmholkmghhkbhaaMrB6
set_option linter.unusedVariables false
set_option linter.unusedSimpArgs false
namespace Go.Proofs.Ytmholkmghhkbhaa
open Go.RowKit

theorem jli (n : Int) (h0 : 0 ≤ n) (h1 : n < 18446744073709551616) : bits .and .u64 n 9223372036854775807 = n % 9223372036854775808 := by
 rw [u64_and n _ h0 h1 (by omega) (by omega)]
 have : (9223372036854775807 : Int).toNat = 2^63 - 1 := rfl
 rw [this, Nat.and_two_pow_sub_one_eq_mod]
 omega

def jfn (n : Int) : Bool := decide (9218868437227405312 < n % 9223372036854775808)
def tagI (k : Int) : Int := (65529 + (if 3 < k then k - 1 else k)) * 281474976710656
def loI (k : Int) : Int := if k = 2 then -2147483648 else 0
def hiI (k : Int) : Int := if k = 0 then 0 else if k = 1 then 1 else if k = 2 then 2147483647 else 4294967295

set_option maxHeartbeats 400000 in
theorem jgb (n : Int) (w : World) (h0 : 0 ≤ n) (h1 : n < 18446744073709551616) :
  Calls Try.prog 61 #[.int .u64 n] w fun e w' => e = .returned (.bool (jfn n)) ∧ w = w' := by
 have e := Lib.hid (jli n h0 h1)
 go_enter Try.func61, Try.ntmps61
 go_wp2
 go_ret
 exact ⟨ret_bool (by unfold jfn; rw [e.out]), rfl⟩

set_option maxHeartbeats 400000 in
theorem tag_any (n : Int) (w : World) (h : 0 ≤ n) (h1 : n ≤ 6):
  Calls Try.prog 63 #[.int .i64 n] w fun e w' => e = .returned (.int .u64 (tagI n)) ∧ w = w' := by
 go_enter Try.func63, Try.ntmps63
 go_wp2
 all_goals go_ret
 ·exact ⟨jms (by unfold tagI; rw [if_pos (by assumption)]), rfl⟩
 ·exact ⟨jms (by unfold tagI; rw [if_neg (by omega)]), rfl⟩

set_option maxHeartbeats 400000 in
theorem jeC (n : Int) (w : World) :
  Calls Try.prog 62 #[.int .i64 n] w fun e w' => e = .returned (.tuple #[.int .i64 (loI n), .int .i64 (hiI n)]) ∧ w = w' := by
 go_enter Try.func62, Try.ntmps62
 go_wp2
 all_goals go_ret2
 all_goals exact ⟨jcu (by unfold loI; simp_all) (by unfold hiI; simp_all), rfl⟩

def boxE (k n : Int) : Int := if k < 0 ∨ 6 < k then 7 else if k = 3 then 0 else if n < loI k ∨ hiI k < n then 1 else 0
def boxW (k n : Int) : Int :=
  if k < 0 ∨ 6 < k then 0 else if k = 3 then (if jfn (IntKind.u64.wrap n) then 9221120237041090561 else IntKind.u64.wrap n)
  else if n < loI k ∨ hiI k < n then 0 else tagI k + n % 4294967296

theorem or_tag (k n : Int) (h : 0 ≤ k) (h1 : k ≤ 6) : bits .or .u64 (tagI k) (n % 4294967296) = tagI k + n % 4294967296 := by
 have hn : 0 ≤ n % 4294967296 := by omega
 have hn1 : n % 4294967296 < 4294967296 := by omega
 generalize n % 4294967296 = m at *
 have ht : tagI k = ((tagI k).toNat : Int) := by unfold tagI; split <;> omega
 rw [u64_or _ _ (by unfold tagI; split <;> omega) (by unfold tagI; split <;> omega) (by omega) (by omega)]
 rw [nat_join 48 _ _ (by unfold tagI; split <;> omega) (by omega)]
 omega

theorem u64r (n : Int) : 0 ≤ IntKind.u64.wrap n ∧ IntKind.u64.wrap n < 18446744073709551616 := by simp only [IntKind.wrap_u64]; omega

set_option maxHeartbeats 400000 in
theorem box_any (k n : Int) (w : World)  :
  Calls Try.prog 57 #[.agg #[.int .i64 k, .int .i64 n]] w fun e w' => e = .returned (.tuple #[.int .u64 (boxW k n), .int .i64 (boxE k n)]) ∧ Below w.heap.size w w' := by
 by_cases h1 : k < 0
 ·go_enter Try.func57, Try.ntmps57
  go_wp2
  go_ret2
  exact ⟨jcu (by unfold boxW; rw [if_pos (.inl h1)]) (by unfold boxE; rw [if_pos (.inl h1)]), (by repeat' (first | (with_reducible exact Below.refl _ _) | (with_reducible assumption) | (with_reducible refine below_drewN ?_ _) | (with_reducible refine Below.drew ?_) | (with_reducible refine Below.alloc ?_ ?_ _) | (with_reducible refine Below.setCell ?_ ?_ _) | go_size))⟩
 by_cases h2 : 6 < k
 ·go_enter Try.func57, Try.ntmps57
  go_wp2
  go_ret2
  exact ⟨jcu (by unfold boxW; rw [if_pos (.inr h2)]) (by unfold boxE; rw [if_pos (.inr h2)]), (by repeat' (first | (with_reducible exact Below.refl _ _) | (with_reducible assumption) | (with_reducible refine below_drewN ?_ _) | (with_reducible refine Below.drew ?_) | (with_reducible refine Below.alloc ?_ ?_ _) | (with_reducible refine Below.setCell ?_ ?_ _) | go_size))⟩
 have h1' : 0 ≤ k := by omega
 have h2' : k ≤ 6 := by omega
 by_cases h3 : k = 3
 ·subst h3
  by_cases hs : jfn (IntKind.u64.wrap n) = true
  ·go_enter Try.func57, Try.ntmps57
   go_wp2_with (go_at_call 61; refine (jgb _ _ (u64r n).1 (u64r n).2).mono ?_; rintro e w' ⟨rfl, rfl⟩)
   go_ret2
   exact ⟨jcu (by unfold boxW; rw [if_neg (by omega), if_pos rfl, if_pos hs]) (by unfold boxE; rw [if_neg (by omega), if_pos rfl]), (by repeat' (first | (with_reducible exact Below.refl _ _) | (with_reducible assumption) | (with_reducible refine below_drewN ?_ _) | (with_reducible refine Below.drew ?_) | (with_reducible refine Below.alloc ?_ ?_ _) | (with_reducible refine Below.setCell ?_ ?_ _) | go_size))⟩
  ·have hs' : jfn (IntKind.u64.wrap n) = false := by simpa using hs
   go_enter Try.func57, Try.ntmps57
   go_wp2_with (go_at_call 61; refine (jgb _ _ (u64r n).1 (u64r n).2).mono ?_; rintro e w' ⟨rfl, rfl⟩)
   go_ret2
   exact ⟨jcu (by unfold boxW; rw [if_neg (by omega), if_pos rfl, if_neg hs]) (by unfold boxE; rw [if_neg (by omega), if_pos rfl]), (by repeat' (first | (with_reducible exact Below.refl _ _) | (with_reducible assumption) | (with_reducible refine below_drewN ?_ _) | (with_reducible refine Below.drew ?_) | (with_reducible refine Below.alloc ?_ ?_ _) | (with_reducible refine Below.setCell ?_ ?_ _) | go_size))⟩
 by_cases h4 : n < loI k
 ·go_enter Try.func57, Try.ntmps57
  go_wp2_with (go_at_call 62; refine (jeC _ _).mono ?_; rintro e w' ⟨rfl, rfl⟩)
  go_ret2
  exact ⟨jcu (by unfold boxW; rw [if_neg (by omega), if_neg h3, if_pos (by omega)]) (by unfold boxE; rw [if_neg (by omega), if_neg h3, if_pos (by omega)]), (by repeat' (first | (with_reducible exact Below.refl _ _) | (with_reducible assumption) | (with_reducible refine below_drewN ?_ _) | (with_reducible refine Below.drew ?_) | (with_reducible refine Below.alloc ?_ ?_ _) | (with_reducible refine Below.setCell ?_ ?_ _) | go_size))⟩
 by_cases h5 : hiI k < n
 ·go_enter Try.func57, Try.ntmps57
  go_wp2_with (go_at_call 62; refine (jeC _ _).mono ?_; rintro e w' ⟨rfl, rfl⟩)
  go_ret2
  exact ⟨jcu (by unfold boxW; rw [if_neg (by omega), if_neg h3, if_pos (by omega)]) (by unfold boxE; rw [if_neg (by omega), if_neg h3, if_pos (by omega)]), (by repeat' (first | (with_reducible exact Below.refl _ _) | (with_reducible assumption) | (with_reducible refine below_drewN ?_ _) | (with_reducible refine Below.drew ?_) | (with_reducible refine Below.alloc ?_ ?_ _) | (with_reducible refine Below.setCell ?_ ?_ _) | go_size))⟩
 have ho := Lib.hid (or_tag k n h1' h2')
 go_enter Try.func57, Try.ntmps57
 go_wp2_with (go_at_call 62; refine (jeC _ _).mono ?_; rintro e w' ⟨rfl, rfl⟩)
 go_quiet ((go_at_call 63; exact Calls.quiet_of_same ((tag_any _ _ h1' h2').mono fun _ _ h => ⟨h.1, h.2.symm⟩)))
 go_wp2
 go_ret2
 exact ⟨jcu (by unfold boxW; rw [if_neg (by omega), if_neg h3, if_neg (by omega)]; exact ho.out) (by unfold boxE; rw [if_neg (by omega), if_neg h3, if_neg (by omega)]), (by repeat' (first | (with_reducible exact Below.refl _ _) | (with_reducible assumption) | (with_reducible refine below_drewN ?_ _) | (with_reducible refine Below.drew ?_) | (with_reducible refine Below.alloc ?_ ?_ _) | (with_reducible refine Below.setCell ?_ ?_ _) | go_size))⟩

end Go.Proofs.Ytmholkmghhkbhaa

namespace Go.Proofs.Ytmholkmghhkbhaa
open Go Go.RowKit

def boxY (l : List (FuncId × Bool)) : jaJ := fun f args fl h => match args with
  | [.agg [.val (.int .i64 k), .val (.int .i64 n)]] => if f = 57 then some (.tuple [.val (.int .u64 (boxW k n)), I64 (boxE k n)], h) else none
  | [] => jh7 l f [] fl h
  | _ => none
theorem jmU {m : Map} {k : IntKind} {n : Int} {v : Value} (h : VR m (.val (.int k n)) v) : v = .int k n := h.lit
theorem jnC {l : List (FuncId × Bool)} (hc : jbd Try.prog (jh7 l)) : jbd Try.prog (boxY l) := by
 intro f args fl h v h' he
 unfold boxY at he
 split at he
 ·rename_i k n
  split at he
  ·rename_i hf
   subst hf
   injection he with he; injection he with e1 e2; subst e1; subst e2
   have hb : (Try.f57.body).isSome = true := by kernel_rfl
   obtain ⟨c, hc'⟩ := Option.isSome_iff_exists.1 hb
   refine ⟨⟨Try.f57, c, Try.func57, by kernel_rfl, hc'⟩, fun n0 B0 m w vals r hfl hv => ?_⟩
   have hvals : vals = #[.agg #[.int .i64 k, .int .i64 n]] := by
    obtain ⟨hl, hg⟩ := hv
    match hvl : vals.toList, hl, hg with
    | [x], _, hg =>
     have := hg 0 _ x rfl rfl
     obtain ⟨vs, rfl, h2⟩ := VRs.of_agg this
     match hvs : vs.toList, h2 with
     | [a, b], h2 =>
      have ha := jmU (h2.2 0 _ a rfl rfl)
      have hb := jmU (h2.2 1 _ b rfl rfl)
      subst ha; subst hb
      have e1 : vs = #[.int .i64 k, .int .i64 n] := by apply Array.ext'; simpa using hvs
      subst e1
      apply Array.ext'; simpa using hvl
     | [], h2 => have := h2.1; simp at this
     | [_], h2 => have := h2.1; simp at this
     | _ :: _ :: _ :: _, h2 => have := h2.1; simp at this
   subst hvals
   refine (box_any k n w).mono fun e W' hp => ?_
   obtain ⟨rfl, hbl⟩ := hp
   refine ⟨_, m, rfl, Post.below r hbl, ?_⟩
   exact VRs.tuple (vs := #[.int .u64 (boxW k n), .int .i64 (boxE k n)]) (.cons (.val rfl) (.cons (.val rfl) .nil))
  ·cases he
 ·exact hc _ _ _ _ _ _ he
 ·cases he
variable {tb : List (FuncId × Bool)} {L : Nat → Bool} {H : ZH} {K : ZV → ZH → Prop}
theorem jan {f : FuncId} {z : ZV} {zs : List ZV} (hf : f ≠ 57) : ∀ (args : List AV) (fl : Nat → Bool) (hp : Heap), args.length = (z :: zs).length → boxY tb f args fl hp = none := fun args fl hp ha => by
 unfold boxY
 split
 ·rw [if_neg hf]
 ·simp at ha
 ·rfl
theorem jnB {f : FuncId} {b : Bool} (h : tb.lookup f = some b) : ∀ (args : List AV) (fl : Nat → Bool) (hp : Heap), args.length = ([] : List ZV).length → boxY tb f args fl hp = some (.val (.bool b), hp) := fun args fl hp ha => by
 have : args = [] := List.eq_nil_of_length_eq_zero ha
 subst this
 simp [boxY, jh7, h]
theorem box_z {k n : Int} (hK : K (.tuple [.val (.int .u64 (boxW k n)), Z64 (boxE k n)]) H) : ZC (boxY tb) (jap Try.prog) 57 [.agg [Z64 k, Z64 n]] L H K := by
 intro fl w args r e ha
 subst e
 obtain ⟨a, ha0, ha1⟩ := ha.get (i := 0) rfl
 obtain ⟨ys, rfl, hys⟩ := ha1.agg_inv
 have e1 : ys = [I64 k, I64 n] := by
  have h1 := hys.1
  match ys, h1, hys with
  | [x, y], _, hys => rw [(hys.2 0 _ x rfl rfl).val_inv, (hys.2 1 _ y rfl rfl).val_inv]
 have e2 : args = [.agg ys] := by
  have := ha.1
  match args, this, ha0 with
  | [x], _, hv0 => simp at hv0; rw [hv0]
 subst e1; subst e2
 refine AC.const (v := .tuple [.val (.int .u64 (boxW k n)), I64 (boxE k n)]) (h' := w.h) (by simp [boxY]) ⟨_, w, rfl, r, Ext.refl w, ?_, hK⟩
 exact ZRs.toTuple (.cons (.fr (.val _)) (.cons (.fr (.val _)) .nil))
end Go.Proofs.Ytmholkmghhkbhaa

namespace Go.Proofs.Ytmholkmghhkbhaa
open Go Go.RowKit
def jgB : jar := .seq (.ops [⟨(some 1), .box 8 (.tmp 0), none, true⟩,
 ⟨(some 2), .mv (.av (.val (.slice none 0 0))), none, true⟩])
 (.seq (.ops [⟨(some 9), .fieldAddr 0 (.tmp 1), none, true⟩,
 ⟨(some 10), .load none (.tmp 9), none, true⟩,
 ⟨(some 11), .call (.av (.func 47 [])) [(.tmp 10)], none, true⟩,
 ⟨(some 8), .mv (.tmp 11), none, true⟩,
 ⟨(some 12), .extract 0 (.tmp 8), none, true⟩,
 ⟨(some 13), .extract 1 (.tmp 8), none, true⟩,
 ⟨(some 3), .zero [(.val (.string ⟨#[]⟩)), (.val (.bool false)), (.val (.int .i64 0)), (.val (.int .i64 0)), (.val (.bool false)), (.val (.bool false)), (.val (.int .i64 0))], none, true⟩,
 ⟨none, .store 7 (.tmp 3) (.tmp 12), none, true⟩,
 ⟨(some 4), .mv (.tmp 13), none, true⟩])
 (.seq (.ops [⟨(some 5), .mv (.av (.val (.slice none 0 0))), none, true⟩])
 (.seq (.rng false (.tmp 15) 16 17 18 0 0 1 [⟨(some 14), .fieldAddr 0 (.tmp 3), none, true⟩,
 ⟨(some 15), .load none (.tmp 14), none, true⟩] [⟨(some 19), .extract 2 (.tmp 17), none, true⟩,
 ⟨(some 7), .mv (.tmp 19), none, true⟩]
 (.ops [⟨(some 20), .mv (.tmp 5), none, true⟩,
 ⟨(some 21), .fieldAddr 1 (.tmp 1), none, true⟩,
 ⟨(some 22), .load none (.tmp 21), none, true⟩,
 ⟨(some 23), .fieldAddr 2 (.tmp 1), none, true⟩,
 ⟨(some 24), .load none (.tmp 23), none, true⟩,
 ⟨(some 25), .fieldAddr 3 (.tmp 1), none, true⟩,
 ⟨(some 26), .load none (.tmp 25), none, true⟩,
 ⟨(some 27), .build [(.val (.int .i64 0)), (.val (.int .i64 0)), (.val (.int .i64 0))] [(0, 1, (.tmp 22)), (1, 1, (.tmp 24)), (2, 1, (.tmp 26))], none, true⟩,
 ⟨(some 28), .mv (.tmp 7), none, true⟩,
 ⟨(some 29), .bin .sub (.tmp 28) (.av (.val (.int .i32 65))), none, true⟩,
 ⟨(some 30), .index 1 3 none (.tmp 27) (.tmp 29), none, true⟩,
 ⟨(some 31), .lits 1 1 [(.val (.int .i64 0))] [(0, 1, (.tmp 30))], none, true⟩,
 ⟨(some 32), .append 1 8 (.tmp 20) (.tmp 31), none, true⟩,
 ⟨(some 5), .mv (.tmp 32), none, true⟩]))
 (.seq (.ops [⟨(some 33), .mv (.tmp 5), none, true⟩,
 ⟨(some 2), .mv (.tmp 33), none, true⟩])
 (.ret)))))
theorem jkX : jap Try.prog 49 = some ⟨34, jgB, [.tmp 2]⟩ := by kernel_rfl
def jfQ : jar := .seq (.ops [⟨(some 1), .box 8 (.tmp 0), none, true⟩,
 ⟨(some 2), .mv (.av (.val (.int .i64 0))), none, true⟩])
 (.seq (.seq (.ops [⟨(some 6), .fieldAddr 0 (.tmp 1), none, true⟩,
 ⟨(some 7), .load none (.tmp 6), none, true⟩,
 ⟨(some 8), .call (.av (.func 47 [])) [(.tmp 7)], none, true⟩,
 ⟨(some 5), .mv (.tmp 8), none, true⟩,
 ⟨(some 9), .extract 0 (.tmp 5), none, true⟩,
 ⟨(some 10), .extract 1 (.tmp 5), none, true⟩,
 ⟨(some 3), .zero [(.val (.string ⟨#[]⟩)), (.val (.bool false)), (.val (.int .i64 0)), (.val (.int .i64 0)), (.val (.bool false)), (.val (.bool false)), (.val (.int .i64 0))], none, true⟩,
 ⟨none, .store 7 (.tmp 3) (.tmp 9), none, true⟩,
 ⟨(some 4), .mv (.tmp 10), none, true⟩])
 (.seq (.ops [⟨(some 11), .fieldAddr 1 (.tmp 3), none, true⟩,
 ⟨(some 12), .load none (.tmp 11), none, true⟩])
 (.cond (.tmp 12)
 (.seq (.ops [⟨(some 13), .fieldAddr 1 (.tmp 1), none, true⟩,
 ⟨(some 14), .load none (.tmp 13), none, true⟩,
 ⟨(some 2), .mv (.tmp 14), none, true⟩])
 (.ret))
 (.skip))))
 (.seq (.ops [⟨(some 2), .mv (.av (.val (.int .i64 (-1)))), none, true⟩])
 (.ret)))
theorem jiW : jap Try.prog 51 = some ⟨15, jfQ, [.tmp 2]⟩ := by kernel_rfl
def jjR : jar := .seq (.ops [⟨(some 4), .mv (.av (.val (.bool false))), none, true⟩])
 (.seq (.ops [⟨(some 5), .mv (.tmp 0), none, true⟩,
 ⟨(some 6), .mv (.tmp 1), none, true⟩,
 ⟨(some 7), .call (.av (.func 40 [])) [(.tmp 5), (.tmp 6)], none, true⟩,
 ⟨(some 8), .bin .geq (.tmp 7) (.av (.val (.int .i64 0))), none, true⟩,
 ⟨(some 4), .mv (.tmp 8), none, true⟩])
 (.ret))
theorem f_or_cfX : jap Try.prog 24 = some ⟨9, jjR, [.tmp 4]⟩ := by kernel_rfl
def jgD : jar := .seq (.ops [⟨(some 1), .box 4 (.tmp 0), none, true⟩,
 ⟨(some 2), .mv (.av (.val (.bool false))), none, true⟩])
 (.seq (.ops [⟨(some 3), .fieldAddr 2 (.tmp 1), none, true⟩,
 ⟨(some 4), .load none (.tmp 3), none, true⟩,
 ⟨(some 5), .len (.tmp 4), none, true⟩,
 ⟨(some 6), .bin .gtr (.tmp 5) (.av (.val (.int .i64 60))), none, true⟩,
 ⟨(some 7), .mv (.tmp 6), none, true⟩,
 ⟨(some 8), .fieldAddr 3 (.tmp 1), (some (7, false)), true⟩,
 ⟨(some 9), .load none (.tmp 8), (some (7, false)), true⟩,
 ⟨(some 10), .len (.tmp 9), (some (7, false)), true⟩,
 ⟨(some 11), .bin .gtr (.tmp 10) (.av (.val (.int .i64 300))), (some (7, false)), true⟩,
 ⟨(some 12), .pick (.tmp 7) (.av (.val (.bool true))) (.tmp 11), none, true⟩,
 ⟨(some 13), .mv (.tmp 12), none, true⟩,
 ⟨(some 14), .fieldAddr 3 (.tmp 1), (some (13, false)), true⟩,
 ⟨(some 15), .load none (.tmp 14), (some (13, false)), true⟩,
 ⟨(some 16), .call (.av (.func 41 [])) [(.tmp 15), (.av (.func 42 []))], (some (13, false)), true⟩,
 ⟨(some 17), .pick (.tmp 13) (.av (.val (.bool true))) (.tmp 16), none, true⟩,
 ⟨(some 2), .mv (.tmp 17), none, true⟩])
 (.ret))
theorem jkZ : jap Try.prog 25 = some ⟨18, jgD, [.tmp 2]⟩ := by kernel_rfl
def jh9 : jar := .seq (.ops [⟨(some 1), .box 4 (.tmp 0), none, true⟩,
 ⟨(some 2), .mv (.av (.val (.bool false))), none, true⟩])
 (.seq (.ops [⟨(some 3), .fieldAddr 0 (.tmp 1), none, true⟩,
 ⟨(some 4), .load none (.tmp 3), none, true⟩,
 ⟨(some 5), .bin .eql (.tmp 4) (.av (.val (.int .i64 0))), none, true⟩,
 ⟨(some 6), .mv (.tmp 5), none, true⟩,
 ⟨(some 7), .fieldAddr 1 (.tmp 1), (some (6, true)), true⟩,
 ⟨(some 8), .load none (.tmp 7), (some (6, true)), true⟩,
 ⟨(some 9), .bin .eql (.tmp 8) (.av (.val (.int .i64 0))), (some (6, true)), true⟩,
 ⟨(some 10), .pick (.tmp 6) (.tmp 9) (.av (.val (.bool false))), none, true⟩,
 ⟨(some 11), .mv (.tmp 10), none, true⟩,
 ⟨(some 12), .fieldAddr 2 (.tmp 1), (some (11, true)), true⟩,
 ⟨(some 13), .load none (.tmp 12), (some (11, true)), true⟩,
 ⟨(some 14), .len (.tmp 13), (some (11, true)), true⟩,
 ⟨(some 15), .bin .eql (.tmp 14) (.av (.val (.int .i64 0))), (some (11, true)), true⟩,
 ⟨(some 16), .pick (.tmp 11) (.tmp 15) (.av (.val (.bool false))), none, true⟩,
 ⟨(some 17), .mv (.tmp 16), none, true⟩,
 ⟨(some 18), .fieldAddr 3 (.tmp 1), (some (17, true)), true⟩,
 ⟨(some 19), .load none (.tmp 18), (some (17, true)), true⟩,
 ⟨(some 20), .len (.tmp 19), (some (17, true)), true⟩,
 ⟨(some 21), .bin .eql (.tmp 20) (.av (.val (.int .i64 0))), (some (17, true)), true⟩,
 ⟨(some 22), .pick (.tmp 17) (.tmp 21) (.av (.val (.bool false))), none, true⟩,
 ⟨(some 2), .mv (.tmp 22), none, true⟩])
 (.ret))
theorem jm4 : jap Try.prog 26 = some ⟨23, jh9, [.tmp 2]⟩ := by kernel_rfl
def jjV : jar := .seq (.ops [⟨(some 2), .box 1 (.tmp 0), none, true⟩,
 ⟨(some 3), .box 4 (.tmp 1), none, true⟩,
 ⟨(some 4), .mv (.av (.val (.bool false))), none, true⟩])
 (.seq (.ops [⟨(some 5), .load (some 4) (.tmp 3), none, true⟩,
 ⟨(some 6), .call (.av (.func 44 [])) [(.tmp 5)], none, true⟩,
 ⟨(some 7), .func 45 [(.tmp 2)], none, true⟩,
 ⟨(some 8), .call (.av (.func 43 [])) [(.tmp 6), (.tmp 7)], none, true⟩,
 ⟨(some 9), .un .not (.tmp 8), none, true⟩,
 ⟨(some 4), .mv (.tmp 9), none, true⟩])
 (.ret))
theorem f_or_all : jap Try.prog 27 = some ⟨10, jjV, [.tmp 4]⟩ := by kernel_rfl
def jfW : jar := .seq (.ops [⟨(some 2), .box 4 (.tmp 0), none, true⟩,
 ⟨(some 3), .mv (.av (.val (.bool false))), none, true⟩])
 (.seq (.ops [⟨(some 4), .load (some 4) (.tmp 2), none, true⟩,
 ⟨(some 5), .fieldAddr 3 (.tmp 1), none, true⟩,
 ⟨(some 6), .load none (.tmp 5), none, true⟩,
 ⟨(some 7), .call (.av (.func 30 [])) [(.tmp 4), (.tmp 6)], none, true⟩,
 ⟨(some 8), .un .not (.tmp 7), none, true⟩,
 ⟨(some 3), .mv (.tmp 8), none, true⟩])
 (.ret))
theorem ji2 : jap Try.prog 29 = some ⟨9, jfW, [.tmp 3]⟩ := by kernel_rfl
def jfV : jar := .seq (.ops [⟨(some 2), .box 4 (.tmp 0), none, true⟩,
 ⟨(some 3), .box 1 (.tmp 1), none, true⟩,
 ⟨(some 4), .mv (.av (.val (.bool false))), none, true⟩])
 (.seq (.seq (.ops [⟨(some 8), .fieldAddr 0 (.tmp 2), none, true⟩,
 ⟨(some 9), .load none (.tmp 8), none, true⟩,
 ⟨(some 10), .bin .lss (.tmp 9) (.av (.val (.int .i64 0))), none, true⟩,
 ⟨(some 11), .mv (.tmp 10), none, true⟩,
 ⟨(some 12), .fieldAddr 1 (.tmp 2), (some (11, false)), true⟩,
 ⟨(some 13), .load none (.tmp 12), (some (11, false)), true⟩,
 ⟨(some 14), .bin .lss (.tmp 13) (.av (.val (.int .i64 0))), (some (11, false)), true⟩,
 ⟨(some 15), .pick (.tmp 11) (.av (.val (.bool true))) (.tmp 14), none, true⟩,
 ⟨(some 16), .mv (.tmp 15), none, true⟩,
 ⟨(some 17), .fieldAddr 1 (.tmp 2), (some (16, false)), true⟩,
 ⟨(some 18), .load none (.tmp 17), (some (16, false)), true⟩,
 ⟨(some 19), .bin .gtr (.tmp 18) (.av (.val (.int .i64 200))), (some (16, false)), true⟩,
 ⟨(some 20), .pick (.tmp 16) (.av (.val (.bool true))) (.tmp 19), none, true⟩])
 (.cond (.tmp 20)
 (.seq (.ops [⟨(some 4), .mv (.av (.val (.bool false))), none, true⟩])
 (.ret))
 (.skip)))
 (.seq (.ops [⟨(some 5), .mv (.av (.val (.int .i64 (-1)))), none, true⟩])
 (.seq (.seq (.ops [⟨(some 21), .fieldAddr 2 (.tmp 2), none, true⟩,
 ⟨(some 22), .load none (.tmp 21), none, true⟩,
 ⟨(some 23), .len (.tmp 22), none, true⟩,
 ⟨(some 24), .mv (.av (.val (.int .i64 0))), none, true⟩])
 (jax 0 1 25 24 23 39
 (.seq (.ops [⟨(some 26), .indexAddr 3 (.tmp 22) (.tmp 24), none, true⟩,
 ⟨(some 27), .load (some 3) (.tmp 26), none, true⟩,
 ⟨(some 7), .zero [(.val (.int .i64 0)), (.val (.int .i64 0)), (.val (.int .i64 0))], none, true⟩,
 ⟨none, .store 3 (.tmp 7) (.tmp 27), none, true⟩])
 (.seq (.seq (.ops [⟨(some 28), .fieldAddr 0 (.tmp 7), none, true⟩,
 ⟨(some 29), .load none (.tmp 28), none, true⟩,
 ⟨(some 30), .mv (.tmp 5), none, true⟩,
 ⟨(some 31), .bin .leq (.tmp 29) (.tmp 30), none, true⟩,
 ⟨(some 32), .mv (.tmp 31), none, true⟩,
 ⟨(some 33), .fieldAddr 0 (.tmp 7), (some (32, false)), true⟩,
 ⟨(some 34), .load none (.tmp 33), (some (32, false)), true⟩,
 ⟨(some 35), .bin .geq (.tmp 34) (.av (.val (.int .i64 60))), (some (32, false)), true⟩,
 ⟨(some 36), .pick (.tmp 32) (.av (.val (.bool true))) (.tmp 35), none, true⟩])
 (.cond (.tmp 36)
 (.seq (.ops [⟨(some 4), .mv (.av (.val (.bool false))), none, true⟩])
 (.ret))
 (.skip)))
 (.ops [⟨(some 37), .fieldAddr 0 (.tmp 7), none, true⟩,
 ⟨(some 38), .load none (.tmp 37), none, true⟩,
 ⟨(some 5), .mv (.tmp 38), none, true⟩])))))
 (.seq (.seq (.ops [⟨(some 40), .fieldAddr 3 (.tmp 2), none, true⟩,
 ⟨(some 41), .load none (.tmp 40), none, true⟩,
 ⟨(some 42), .call (.av (.func 41 [])) [(.tmp 41), (.av (.func 52 []))], none, true⟩])
 (.cond (.tmp 42)
 (.seq (.ops [⟨(some 4), .mv (.av (.val (.bool false))), none, true⟩])
 (.ret))
 (.skip)))
 (.seq (.ops [⟨(some 43), .load (some 4) (.tmp 2), none, true⟩,
 ⟨(some 44), .call (.av (.func 44 [])) [(.tmp 43)], none, true⟩,
 ⟨(some 45), .func 53 [(.tmp 3)], none, true⟩,
 ⟨(some 46), .call (.av (.func 43 [])) [(.tmp 44), (.tmp 45)], none, true⟩,
 ⟨(some 47), .un .not (.tmp 46), none, true⟩,
 ⟨(some 4), .mv (.tmp 47), none, true⟩])
 (.ret))))))
theorem ji1 : jap Try.prog 30 = some ⟨48, jfV, [.tmp 4]⟩ := by kernel_rfl
def jnn : jar := .seq (.ops [⟨(some 2), .zero [(.val (.string ⟨#[]⟩)), (.val (.bool false)), (.val (.int .i64 0)), (.val (.int .i64 0)), (.val (.bool false)), (.val (.bool false)), (.val (.int .i64 0))], none, true⟩,
 ⟨(some 3), .mv (.av (.val (.bool false))), none, true⟩])
 (.seq (.seq (.ops [⟨(some 4), .mv (.tmp 0), none, true⟩])
 (.block 0 (.seq (.ops [⟨(some 6), .bin .eql (.tmp 4) (.av (.val (.int .i64 1))), none, true⟩,
 ⟨(some 5), .mv (.tmp 6), none, true⟩])
 (.cond (.tmp 5)
 (.seq (.ops [⟨(some 7), .build [(.val (.string ⟨#[]⟩)), (.val (.bool false)), (.val (.int .i64 0)), (.val (.int .i64 0)), (.val (.bool false)), (.val (.bool false)), (.val (.int .i64 0))] [(0, 1, (.av (.val (.string ⟨#[66]⟩)))), (1, 1, (.av (.val (.bool true)))), (2, 1, (.av (.val (.int .i64 0)))), (3, 1, (.av (.val (.int .i64 0)))), (4, 1, (.av (.val (.bool false)))), (5, 1, (.av (.val (.bool false)))), (6, 1, (.av (.val (.int .i64 0))))], none, true⟩,
 ⟨none, .store 7 (.tmp 2) (.tmp 7), none, true⟩,
 ⟨(some 3), .mv (.av (.val (.bool true))), none, true⟩])
 (.ret))
 (.seq (.ops [⟨(some 9), .bin .eql (.tmp 4) (.av (.val (.int .i64 2))), none, true⟩,
 ⟨(some 8), .mv (.tmp 9), none, true⟩])
 (.cond (.tmp 8)
 (.seq (.ops [⟨(some 10), .build [(.val (.string ⟨#[]⟩)), (.val (.bool false)), (.val (.int .i64 0)), (.val (.int .i64 0)), (.val (.bool false)), (.val (.bool false)), (.val (.int .i64 0))] [(0, 1, (.av (.val (.string ⟨#[]⟩)))), (1, 1, (.av (.val (.bool true)))), (2, 1, (.av (.val (.int .i64 0)))), (3, 1, (.av (.val (.int .i64 0)))), (4, 1, (.av (.val (.bool false)))), (5, 1, (.av (.val (.bool true)))), (6, 1, (.av (.val (.int .i64 0))))], none, true⟩,
 ⟨none, .store 7 (.tmp 2) (.tmp 10), none, true⟩,
 ⟨(some 3), .mv (.av (.val (.bool true))), none, true⟩])
 (.ret))
 (.seq (.ops [⟨(some 12), .bin .eql (.tmp 4) (.av (.val (.int .i64 3))), none, true⟩,
 ⟨(some 11), .mv (.tmp 12), none, true⟩])
 (.cond (.tmp 11)
 (.seq (.ops [⟨(some 13), .build [(.val (.string ⟨#[]⟩)), (.val (.bool false)), (.val (.int .i64 0)), (.val (.int .i64 0)), (.val (.bool false)), (.val (.bool false)), (.val (.int .i64 0))] [(0, 1, (.av (.val (.string ⟨#[65]⟩)))), (1, 1, (.av (.val (.bool false)))), (2, 1, (.av (.val (.int .i64 0)))), (3, 1, (.av (.val (.int .i64 300)))), (4, 1, (.av (.val (.bool false)))), (5, 1, (.av (.val (.bool false)))), (6, 1, (.av (.val (.int .i64 0))))], none, true⟩,
 ⟨none, .store 7 (.tmp 2) (.tmp 13), none, true⟩,
 ⟨(some 3), .mv (.av (.val (.bool true))), none, true⟩])
 (.ret))
 (.seq (.ops [⟨(some 15), .bin .eql (.tmp 4) (.av (.val (.int .i64 4))), none, true⟩,
 ⟨(some 14), .mv (.tmp 15), none, true⟩])
 (.cond (.tmp 14)
 (.seq (.ops [⟨(some 16), .build [(.val (.string ⟨#[]⟩)), (.val (.bool false)), (.val (.int .i64 0)), (.val (.int .i64 0)), (.val (.bool false)), (.val (.bool false)), (.val (.int .i64 0))] [(0, 1, (.av (.val (.string ⟨#[]⟩)))), (1, 1, (.av (.val (.bool true)))), (2, 1, (.av (.val (.int .i64 0)))), (3, 1, (.av (.val (.int .i64 300)))), (4, 1, (.av (.val (.bool false)))), (5, 1, (.av (.val (.bool false)))), (6, 1, (.av (.val (.int .i64 0))))], none, true⟩,
 ⟨none, .store 7 (.tmp 2) (.tmp 16), none, true⟩,
 ⟨(some 3), .mv (.av (.val (.bool true))), none, true⟩])
 (.ret))
 (.seq (.ops [⟨(some 18), .bin .eql (.tmp 4) (.av (.val (.int .i64 5))), none, true⟩,
 ⟨(some 17), .mv (.tmp 18), none, true⟩])
 (.cond (.tmp 17)
 (.seq (.ops [⟨(some 19), .build [(.val (.string ⟨#[]⟩)), (.val (.bool false)), (.val (.int .i64 0)), (.val (.int .i64 0)), (.val (.bool false)), (.val (.bool false)), (.val (.int .i64 0))] [(0, 1, (.av (.val (.string ⟨#[]⟩)))), (1, 1, (.av (.val (.bool true)))), (2, 1, (.av (.val (.int .i64 0)))), (3, 1, (.av (.val (.int .i64 1073741824)))), (4, 1, (.av (.val (.bool false)))), (5, 1, (.av (.val (.bool false)))), (6, 1, (.av (.val (.int .i64 0))))], none, true⟩,
 ⟨none, .store 7 (.tmp 2) (.tmp 19), none, true⟩,
 ⟨(some 3), .mv (.av (.val (.bool true))), none, true⟩])
 (.ret))
 (.seq (.ops [⟨(some 21), .bin .eql (.tmp 4) (.av (.val (.int .i64 6))), none, true⟩,
 ⟨(some 20), .mv (.tmp 21), none, true⟩])
 (.cond (.tmp 20)
 (.seq (.ops [⟨(some 22), .build [(.val (.string ⟨#[]⟩)), (.val (.bool false)), (.val (.int .i64 0)), (.val (.int .i64 0)), (.val (.bool false)), (.val (.bool false)), (.val (.int .i64 0))] [(0, 1, (.av (.val (.string ⟨#[]⟩)))), (1, 1, (.av (.val (.bool true)))), (2, 1, (.av (.val (.int .i64 0)))), (3, 1, (.av (.val (.int .i64 0)))), (4, 1, (.av (.val (.bool false)))), (5, 1, (.av (.val (.bool false)))), (6, 1, (.av (.val (.int .i64 0))))], none, true⟩,
 ⟨none, .store 7 (.tmp 2) (.tmp 22), none, true⟩,
 ⟨(some 3), .mv (.av (.val (.bool true))), none, true⟩])
 (.ret))
 (.seq (.ops [⟨(some 24), .bin .eql (.tmp 4) (.av (.val (.int .i64 7))), none, true⟩,
 ⟨(some 23), .mv (.tmp 24), none, true⟩])
 (.cond (.tmp 23)
 (.seq (.ops [⟨(some 25), .build [(.val (.string ⟨#[]⟩)), (.val (.bool false)), (.val (.int .i64 0)), (.val (.int .i64 0)), (.val (.bool false)), (.val (.bool false)), (.val (.int .i64 0))] [(0, 1, (.av (.val (.string ⟨#[65]⟩)))), (1, 1, (.av (.val (.bool false)))), (2, 1, (.av (.val (.int .i64 0)))), (3, 1, (.av (.val (.int .i64 6)))), (4, 1, (.av (.val (.bool false)))), (5, 1, (.av (.val (.bool false)))), (6, 1, (.av (.val (.int .i64 2))))], none, true⟩,
 ⟨none, .store 7 (.tmp 2) (.tmp 25), none, true⟩,
 ⟨(some 3), .mv (.av (.val (.bool true))), none, true⟩])
 (.ret))
 (.seq (.ops [⟨(some 27), .bin .eql (.tmp 4) (.av (.val (.int .i64 8))), none, true⟩,
 ⟨(some 26), .mv (.tmp 27), none, true⟩])
 (.cond (.tmp 26)
 (.seq (.ops [⟨(some 28), .build [(.val (.string ⟨#[]⟩)), (.val (.bool false)), (.val (.int .i64 0)), (.val (.int .i64 0)), (.val (.bool false)), (.val (.bool false)), (.val (.int .i64 0))] [(0, 1, (.av (.val (.string ⟨#[65]⟩)))), (1, 1, (.av (.val (.bool false)))), (2, 1, (.av (.val (.int .i64 0)))), (3, 1, (.av (.val (.int .i64 1)))), (4, 1, (.av (.val (.bool false)))), (5, 1, (.av (.val (.bool false)))), (6, 1, (.av (.val (.int .i64 2))))], none, true⟩,
 ⟨none, .store 7 (.tmp 2) (.tmp 28), none, true⟩,
 ⟨(some 3), .mv (.av (.val (.bool true))), none, true⟩])
 (.ret))
 (.seq (.ops [⟨(some 30), .bin .eql (.tmp 4) (.av (.val (.int .i64 9))), none, true⟩,
 ⟨(some 29), .mv (.tmp 30), none, true⟩])
 (.cond (.tmp 29)
 (.seq (.ops [⟨(some 31), .build [(.val (.string ⟨#[]⟩)), (.val (.bool false)), (.val (.int .i64 0)), (.val (.int .i64 0)), (.val (.bool false)), (.val (.bool false)), (.val (.int .i64 0))] [(0, 1, (.av (.val (.string ⟨#[65]⟩)))), (1, 1, (.av (.val (.bool false)))), (2, 1, (.av (.val (.int .i64 0)))), (3, 1, (.av (.val (.int .i64 0)))), (4, 1, (.av (.val (.bool false)))), (5, 1, (.av (.val (.bool true)))), (6, 1, (.av (.val (.int .i64 2))))], none, true⟩,
 ⟨none, .store 7 (.tmp 2) (.tmp 31), none, true⟩,
 ⟨(some 3), .mv (.av (.val (.bool true))), none, true⟩])
 (.ret))
 (.seq (.ops [⟨(some 33), .bin .eql (.tmp 4) (.av (.val (.int .i64 10))), none, true⟩,
 ⟨(some 32), .mv (.tmp 33), none, true⟩])
 (.cond (.tmp 32)
 (.seq (.ops [⟨(some 34), .build [(.val (.string ⟨#[]⟩)), (.val (.bool false)), (.val (.int .i64 0)), (.val (.int .i64 0)), (.val (.bool false)), (.val (.bool false)), (.val (.int .i64 0))] [(0, 1, (.av (.val (.string ⟨#[66, 67]⟩)))), (1, 1, (.av (.val (.bool true)))), (2, 1, (.av (.val (.int .i64 3)))), (3, 1, (.av (.val (.int .i64 10)))), (4, 1, (.av (.val (.bool false)))), (5, 1, (.av (.val (.bool false)))), (6, 1, (.av (.val (.int .i64 1))))], none, true⟩,
 ⟨none, .store 7 (.tmp 2) (.tmp 34), none, true⟩,
 ⟨(some 3), .mv (.av (.val (.bool true))), none, true⟩])
 (.ret))
 (.seq (.ops [⟨(some 36), .bin .eql (.tmp 4) (.av (.val (.int .i64 11))), none, true⟩,
 ⟨(some 35), .mv (.tmp 36), none, true⟩])
 (.cond (.tmp 35)
 (.seq (.ops [⟨(some 37), .build [(.val (.string ⟨#[]⟩)), (.val (.bool false)), (.val (.int .i64 0)), (.val (.int .i64 0)), (.val (.bool false)), (.val (.bool false)), (.val (.int .i64 0))] [(0, 1, (.av (.val (.string ⟨#[66]⟩)))), (1, 1, (.av (.val (.bool true)))), (2, 1, (.av (.val (.int .i64 11)))), (3, 1, (.av (.val (.int .i64 12)))), (4, 1, (.av (.val (.bool false)))), (5, 1, (.av (.val (.bool false)))), (6, 1, (.av (.val (.int .i64 1))))], none, true⟩,
 ⟨none, .store 7 (.tmp 2) (.tmp 37), none, true⟩,
 ⟨(some 3), .mv (.av (.val (.bool true))), none, true⟩])
 (.ret))
 (.seq (.ops [⟨(some 39), .bin .eql (.tmp 4) (.av (.val (.int .i64 12))), none, true⟩,
 ⟨(some 38), .mv (.tmp 39), none, true⟩])
 (.cond (.tmp 38)
 (.seq (.ops [⟨(some 40), .build [(.val (.string ⟨#[]⟩)), (.val (.bool false)), (.val (.int .i64 0)), (.val (.int .i64 0)), (.val (.bool false)), (.val (.bool false)), (.val (.int .i64 0))] [(0, 1, (.av (.val (.string ⟨#[65]⟩)))), (1, 1, (.av (.val (.bool false)))), (2, 1, (.av (.val (.int .i64 1)))), (3, 1, (.av (.val (.int .i64 7)))), (4, 1, (.av (.val (.bool true)))), (5, 1, (.av (.val (.bool false)))), (6, 1, (.av (.val (.int .i64 2))))], none, true⟩,
 ⟨none, .store 7 (.tmp 2) (.tmp 40), none, true⟩,
 ⟨(some 3), .mv (.av (.val (.bool true))), none, true⟩])
 (.ret))
 (.skip)))))))))))))))))))))))))))
 (.seq (.ops [⟨(some 41), .mv (.tmp 0), none, true⟩,
 ⟨(some 42), .call (.av (.func 56 [])) [(.tmp 41)], none, true⟩,
 ⟨(some 43), .extract 0 (.tmp 42), none, true⟩,
 ⟨(some 44), .extract 1 (.tmp 42), none, true⟩,
 ⟨none, .store 7 (.tmp 2) (.tmp 43), none, true⟩,
 ⟨(some 3), .mv (.tmp 44), none, true⟩])
 (.ret)))
theorem f_or_of : jap Try.prog 47 = some ⟨45, jnn, [.cell 2 (some 7), .tmp 3]⟩ := by kernel_rfl
def jjM : jar := .seq (.ops [⟨(some 4), .mv (.av (.val (.int .i64 0))), none, true⟩])
 (.seq (.seq (.ops [⟨(some 6), .mv (.tmp 0), none, true⟩,
 ⟨(some 7), .len (.tmp 6), none, true⟩,
 ⟨(some 8), .mv (.av (.val (.int .i64 0))), none, true⟩])
 (jax 0 1 9 8 7 18
 (.seq (.ops [⟨(some 10), .mv (.tmp 8), none, true⟩,
 ⟨(some 5), .mv (.tmp 10), none, true⟩])
 (.seq (.ops [⟨(some 11), .mv (.tmp 1), none, true⟩,
 ⟨(some 12), .mv (.tmp 0), none, true⟩,
 ⟨(some 13), .mv (.tmp 5), none, true⟩,
 ⟨(some 14), .indexAddr 4 (.tmp 12) (.tmp 13), none, true⟩,
 ⟨(some 15), .load (some 4) (.tmp 14), none, true⟩,
 ⟨(some 16), .call (.tmp 11) [(.tmp 15)], none, true⟩])
 (.cond (.tmp 16)
 (.seq (.ops [⟨(some 17), .mv (.tmp 5), none, true⟩,
 ⟨(some 4), .mv (.tmp 17), none, true⟩])
 (.ret))
 (.skip))))))
 (.seq (.ops [⟨(some 4), .mv (.av (.val (.int .i64 (-1)))), none, true⟩])
 (.ret)))
theorem f_or_ifX : jap Try.prog 40 = some ⟨19, jjM, [.tmp 4]⟩ := by kernel_rfl
def jjT : jar := .seq (.ops [⟨(some 4), .mv (.av (.val (.bool false))), none, true⟩])
 (.seq (.ops [⟨(some 5), .mv (.tmp 0), none, true⟩,
 ⟨(some 6), .mv (.tmp 1), none, true⟩,
 ⟨(some 7), .call (.av (.func 54 [])) [(.tmp 5), (.tmp 6)], none, true⟩,
 ⟨(some 8), .bin .geq (.tmp 7) (.av (.val (.int .i64 0))), none, true⟩,
 ⟨(some 4), .mv (.tmp 8), none, true⟩])
 (.ret))
theorem f_or_cfM : jap Try.prog 41 = some ⟨9, jjT, [.tmp 4]⟩ := by kernel_rfl
def jfU : jar := .seq (.ops [⟨(some 1), .box 5 (.tmp 0), none, true⟩,
 ⟨(some 2), .mv (.av (.val (.bool false))), none, true⟩])
 (.seq (.ops [⟨(some 3), .fieldAddr 4 (.tmp 1), none, true⟩,
 ⟨(some 4), .load none (.tmp 3), none, true⟩,
 ⟨(some 5), .len (.tmp 4), none, true⟩,
 ⟨(some 6), .bin .gtr (.tmp 5) (.av (.val (.int .i64 100))), none, true⟩,
 ⟨(some 2), .mv (.tmp 6), none, true⟩])
 (.ret))
theorem ji0 : jap Try.prog 42 = some ⟨7, jfU, [.tmp 2]⟩ := by kernel_rfl
def jjS : jar := .seq (.ops [⟨(some 4), .mv (.av (.val (.bool false))), none, true⟩])
 (.seq (.ops [⟨(some 5), .mv (.tmp 0), none, true⟩,
 ⟨(some 6), .mv (.tmp 1), none, true⟩,
 ⟨(some 7), .call (.av (.func 55 [])) [(.tmp 5), (.tmp 6)], none, true⟩,
 ⟨(some 8), .bin .geq (.tmp 7) (.av (.val (.int .i64 0))), none, true⟩,
 ⟨(some 4), .mv (.tmp 8), none, true⟩])
 (.ret))
theorem f_or_cfP : jap Try.prog 43 = some ⟨9, jjS, [.tmp 4]⟩ := by kernel_rfl
def jfS : jar := .seq (.ops [⟨(some 1), .box 4 (.tmp 0), none, true⟩,
 ⟨(some 2), .mv (.av (.val (.slice none 0 0))), none, true⟩])
 (.seq (.ops [⟨(some 3), .mv (.av (.val (.slice none 0 0))), none, true⟩])
 (.seq (.seq (.ops [⟨(some 8), .fieldAddr 2 (.tmp 1), none, true⟩,
 ⟨(some 9), .load none (.tmp 8), none, true⟩,
 ⟨(some 10), .len (.tmp 9), none, true⟩,
 ⟨(some 11), .mv (.av (.val (.int .i64 0))), none, true⟩])
 (jax 0 1 12 11 10 20
 (.seq (.ops [⟨(some 13), .indexAddr 3 (.tmp 9) (.tmp 11), none, true⟩,
 ⟨(some 14), .load (some 3) (.tmp 13), none, true⟩,
 ⟨(some 5), .zero [(.val (.int .i64 0)), (.val (.int .i64 0)), (.val (.int .i64 0))], none, true⟩,
 ⟨none, .store 3 (.tmp 5) (.tmp 14), none, true⟩])
 (.ops [⟨(some 15), .mv (.tmp 3), none, true⟩,
 ⟨(some 16), .fieldAddr 1 (.tmp 5), none, true⟩,
 ⟨(some 17), .load (some 2) (.tmp 16), none, true⟩,
 ⟨(some 18), .lits 2 1 [(.val (.int .i64 0)), (.val (.int .i64 0))] [(0, 2, (.tmp 17))], none, true⟩,
 ⟨(some 19), .append 2 16 (.tmp 15) (.tmp 18), none, true⟩,
 ⟨(some 3), .mv (.tmp 19), none, true⟩]))))
 (.seq (.seq (.ops [⟨(some 21), .fieldAddr 3 (.tmp 1), none, true⟩,
 ⟨(some 22), .load none (.tmp 21), none, true⟩,
 ⟨(some 23), .len (.tmp 22), none, true⟩,
 ⟨(some 24), .mv (.av (.val (.int .i64 0))), none, true⟩])
 (jax 2 3 25 24 23 36
 (.seq (.ops [⟨(some 26), .indexAddr 5 (.tmp 22) (.tmp 24), none, true⟩,
 ⟨(some 27), .load (some 5) (.tmp 26), none, true⟩,
 ⟨(some 7), .zero [(.val (.int .i64 0)), (.val (.int .i64 0)), (.val (.int .i64 0)), (.val (.int .i64 0)), (.val (.slice none 0 0))], none, true⟩,
 ⟨none, .store 5 (.tmp 7) (.tmp 27), none, true⟩])
 (.opsD [⟨(some 28), .mv (.tmp 3), none, true⟩,
 ⟨(some 29), .fieldAddr 0 (.tmp 7), none, true⟩,
 ⟨(some 30), .load (some 2) (.tmp 29), none, true⟩,
 ⟨(some 31), .lits 2 1 [(.val (.int .i64 0)), (.val (.int .i64 0))] [(0, 2, (.tmp 30))], none, true⟩,
 ⟨(some 32), .append 2 16 (.tmp 28) (.tmp 31), none, false⟩,
 ⟨(some 33), .fieldAddr 4 (.tmp 7), none, true⟩,
 ⟨(some 34), .load none (.tmp 33), none, false⟩,
 ⟨(some 35), .append 2 16 (.tmp 32) (.tmp 34), none, true⟩,
 ⟨(some 3), .mv (.tmp 35), none, true⟩]))))
 (.seq (.ops [⟨(some 37), .mv (.tmp 3), none, true⟩,
 ⟨(some 2), .mv (.tmp 37), none, true⟩])
 (.ret)))))
theorem jiY : jap Try.prog 44 = some ⟨38, jfS, [.tmp 2]⟩ := by kernel_rfl
def jia : jar := .seq (.ops [⟨(some 2), .box 2 (.tmp 0), none, true⟩,
 ⟨(some 3), .mv (.av (.val (.bool false))), none, true⟩])
 (.seq (.ops [⟨(some 4), .load none (.tmp 1), none, true⟩,
 ⟨(some 5), .load (some 2) (.tmp 2), none, true⟩,
 ⟨(some 6), .call (.av (.func 46 [])) [(.tmp 4), (.tmp 5)], none, true⟩,
 ⟨(some 7), .un .not (.tmp 6), none, true⟩,
 ⟨(some 3), .mv (.tmp 7), none, true⟩])
 (.ret))
theorem jm5 : jap Try.prog 45 = some ⟨8, jia, [.tmp 3]⟩ := by kernel_rfl
def jjQ : jar := .seq (.ops [⟨(some 3), .box 2 (.tmp 1), none, true⟩,
 ⟨(some 4), .mv (.av (.val (.bool false))), none, true⟩])
 (.seq (.block 0 (.seq (.ops [⟨(some 6), .fieldAddr 1 (.tmp 3), none, true⟩,
 ⟨(some 7), .load none (.tmp 6), none, true⟩,
 ⟨(some 8), .bin .eql (.tmp 7) (.av (.val (.int .i64 (-1)))), none, true⟩,
 ⟨(some 9), .mv (.tmp 8), none, true⟩,
 ⟨(some 10), .fieldAddr 0 (.tmp 3), (some (9, true)), true⟩,
 ⟨(some 11), .load none (.tmp 10), (some (9, true)), true⟩,
 ⟨(some 12), .bin .geq (.tmp 11) (.av (.val (.int .i64 0))), (some (9, true)), true⟩,
 ⟨(some 13), .pick (.tmp 9) (.tmp 12) (.av (.val (.bool false))), none, true⟩,
 ⟨(some 14), .mv (.tmp 13), none, true⟩,
 ⟨(some 15), .fieldAddr 0 (.tmp 3), (some (14, true)), true⟩,
 ⟨(some 16), .load none (.tmp 15), (some (14, true)), true⟩,
 ⟨(some 17), .bin .lss (.tmp 16) (.av (.val (.int .i64 8))), (some (14, true)), true⟩,
 ⟨(some 18), .pick (.tmp 14) (.tmp 17) (.av (.val (.bool false))), none, true⟩,
 ⟨(some 5), .mv (.tmp 18), none, true⟩])
 (.cond (.tmp 5)
 (.seq (.opsD [⟨(some 19), .mv (.tmp 0), none, true⟩,
 ⟨(some 20), .fieldAddr 0 (.tmp 3), none, true⟩,
 ⟨(some 21), .load none (.tmp 20), none, true⟩,
 ⟨(some 22), .nilCheck (.tmp 19), none, true⟩,
 ⟨(some 23), .fieldAddr 0 (.tmp 22), none, true⟩,
 ⟨(some 24), .indexArr 1 8 (.tmp 23) (.tmp 21), none, true⟩,
 ⟨(some 25), .load none (.tmp 24), none, true⟩,
 ⟨(some 4), .mv (.tmp 25), none, true⟩])
 (.ret))
 (.seq (.opsD [⟨(some 27), .fieldAddr 0 (.tmp 3), none, true⟩,
 ⟨(some 28), .load none (.tmp 27), none, true⟩,
 ⟨(some 29), .bin .eql (.tmp 28) (.av (.val (.int .i64 (-1)))), none, true⟩,
 ⟨(some 30), .mv (.tmp 29), none, true⟩,
 ⟨(some 31), .fieldAddr 1 (.tmp 3), (some (30, true)), true⟩,
 ⟨(some 32), .load none (.tmp 31), (some (30, true)), true⟩,
 ⟨(some 33), .bin .geq (.tmp 32) (.av (.val (.int .i64 0))), (some (30, true)), true⟩,
 ⟨(some 34), .pick (.tmp 30) (.tmp 33) (.av (.val (.bool false))), none, true⟩,
 ⟨(some 35), .mv (.tmp 34), none, true⟩,
 ⟨(some 36), .fieldAddr 1 (.tmp 3), (some (35, true)), true⟩,
 ⟨(some 37), .load none (.tmp 36), (some (35, true)), true⟩,
 ⟨(some 38), .mv (.tmp 0), (some (35, true)), true⟩,
 ⟨(some 39), .nilCheck (.tmp 38), (some (35, true)), true⟩,
 ⟨(some 40), .fieldAddr 8 (.tmp 39), (some (35, true)), true⟩,
 ⟨(some 41), .load none (.tmp 40), (some (35, true)), true⟩,
 ⟨(some 42), .len (.tmp 41), (some (35, true)), true⟩,
 ⟨(some 43), .bin .lss (.tmp 37) (.tmp 42), (some (35, true)), true⟩,
 ⟨(some 44), .pick (.tmp 35) (.tmp 43) (.av (.val (.bool false))), none, true⟩,
 ⟨(some 26), .mv (.tmp 44), none, true⟩])
 (.cond (.tmp 26)
 (.seq (.opsD [⟨(some 45), .mv (.tmp 0), none, true⟩,
 ⟨(some 46), .nilCheck (.tmp 45), none, true⟩,
 ⟨(some 47), .fieldAddr 8 (.tmp 46), none, true⟩,
 ⟨(some 48), .load none (.tmp 47), none, true⟩,
 ⟨(some 49), .fieldAddr 1 (.tmp 3), none, true⟩,
 ⟨(some 50), .load none (.tmp 49), none, true⟩,
 ⟨(some 51), .indexAddr 1 (.tmp 48) (.tmp 50), none, true⟩,
 ⟨(some 52), .load none (.tmp 51), none, true⟩,
 ⟨(some 4), .mv (.tmp 52), none, true⟩])
 (.ret))
 (.skip))))))
 (.seq (.ops [⟨(some 4), .mv (.av (.val (.bool false))), none, true⟩])
 (.ret)))
theorem f_or_has : jap Try.prog 46 = some ⟨53, jjQ, [.tmp 4]⟩ := by kernel_rfl
def jgE : jar := .seq (.ops [⟨(some 2), .mv (.av (.val (.bool false))), none, true⟩])
 (.seq (.ops [⟨(some 3), .mv (.tmp 0), none, true⟩,
 ⟨(some 4), .bin .geq (.tmp 3) (.av (.val (.int .i64 0))), none, true⟩,
 ⟨(some 5), .mv (.tmp 4), none, true⟩,
 ⟨(some 6), .mv (.tmp 0), (some (5, true)), true⟩,
 ⟨(some 7), .bin .lss (.tmp 6) (.av (.val (.int .i64 8))), (some (5, true)), true⟩,
 ⟨(some 8), .pick (.tmp 5) (.tmp 7) (.av (.val (.bool false))), none, true⟩,
 ⟨(some 2), .mv (.tmp 8), none, true⟩])
 (.ret))
theorem jk0 : jap Try.prog 50 = some ⟨9, jgE, [.tmp 2]⟩ := by kernel_rfl
def jeQ : jar := .seq (.ops [⟨(some 1), .box 5 (.tmp 0), none, true⟩,
 ⟨(some 2), .mv (.av (.val (.bool false))), none, true⟩])
 (.seq (.ops [⟨(some 3), .fieldAddr 2 (.tmp 1), none, true⟩,
 ⟨(some 4), .load none (.tmp 3), none, true⟩,
 ⟨(some 5), .bin .lss (.tmp 4) (.av (.val (.int .i64 1))), none, true⟩,
 ⟨(some 6), .mv (.tmp 5), none, true⟩,
 ⟨(some 7), .fieldAddr 2 (.tmp 1), (some (6, false)), true⟩,
 ⟨(some 8), .load none (.tmp 7), (some (6, false)), true⟩,
 ⟨(some 9), .bin .gtr (.tmp 8) (.av (.val (.int .i64 3))), (some (6, false)), true⟩,
 ⟨(some 10), .pick (.tmp 6) (.av (.val (.bool true))) (.tmp 9), none, true⟩,
 ⟨(some 11), .mv (.tmp 10), none, true⟩,
 ⟨(some 12), .fieldAddr 3 (.tmp 1), (some (11, false)), true⟩,
 ⟨(some 13), .load none (.tmp 12), (some (11, false)), true⟩,
 ⟨(some 14), .bin .lss (.tmp 13) (.av (.val (.int .i64 0))), (some (11, false)), true⟩,
 ⟨(some 15), .pick (.tmp 11) (.av (.val (.bool true))) (.tmp 14), none, true⟩,
 ⟨(some 16), .mv (.tmp 15), none, true⟩,
 ⟨(some 17), .fieldAddr 3 (.tmp 1), (some (16, false)), true⟩,
 ⟨(some 18), .load none (.tmp 17), (some (16, false)), true⟩,
 ⟨(some 19), .bin .gtr (.tmp 18) (.av (.val (.int .i64 0))), (some (16, false)), true⟩,
 ⟨(some 20), .mv (.tmp 19), (some (16, false)), true⟩,
 ⟨(some 21), .fieldAddr 2 (.tmp 1), (some (20, true)), true⟩,
 ⟨(some 22), .load none (.tmp 21), (some (20, true)), true⟩,
 ⟨(some 23), .bin .neq (.tmp 22) (.av (.val (.int .i64 1))), (some (20, true)), true⟩,
 ⟨(some 24), .pick (.tmp 20) (.tmp 23) (.av (.val (.bool false))), (some (16, false)), true⟩,
 ⟨(some 25), .pick (.tmp 16) (.av (.val (.bool true))) (.tmp 24), none, true⟩,
 ⟨(some 2), .mv (.tmp 25), none, true⟩])
 (.ret))
theorem jhZ : jap Try.prog 52 = some ⟨26, jeQ, [.tmp 2]⟩ := by kernel_rfl
def jeP : jar := .seq (.ops [⟨(some 2), .box 2 (.tmp 0), none, true⟩,
 ⟨(some 3), .mv (.av (.val (.bool false))), none, true⟩])
 (.seq (.ops [⟨(some 4), .fieldAddr 1 (.tmp 2), none, true⟩,
 ⟨(some 5), .load none (.tmp 4), none, true⟩,
 ⟨(some 6), .bin .eql (.tmp 5) (.av (.val (.int .i64 (-1)))), none, true⟩,
 ⟨(some 7), .mv (.tmp 6), none, true⟩,
 ⟨(some 8), .fieldAddr 0 (.tmp 2), (some (7, true)), true⟩,
 ⟨(some 9), .load none (.tmp 8), (some (7, true)), true⟩,
 ⟨(some 10), .call (.av (.func 50 [])) [(.tmp 9)], (some (7, true)), true⟩,
 ⟨(some 11), .pick (.tmp 7) (.tmp 10) (.av (.val (.bool false))), none, true⟩,
 ⟨(some 12), .mv (.tmp 11), none, true⟩,
 ⟨(some 13), .fieldAddr 0 (.tmp 2), (some (12, false)), true⟩,
 ⟨(some 14), .load none (.tmp 13), (some (12, false)), true⟩,
 ⟨(some 15), .bin .eql (.tmp 14) (.av (.val (.int .i64 (-1)))), (some (12, false)), true⟩,
 ⟨(some 16), .mv (.tmp 15), (some (12, false)), true⟩,
 ⟨(some 17), .fieldAddr 1 (.tmp 2), (some (16, true)), true⟩,
 ⟨(some 18), .load none (.tmp 17), (some (16, true)), true⟩,
 ⟨(some 19), .bin .geq (.tmp 18) (.av (.val (.int .i64 0))), (some (16, true)), true⟩,
 ⟨(some 20), .pick (.tmp 16) (.tmp 19) (.av (.val (.bool false))), (some (12, false)), true⟩,
 ⟨(some 21), .mv (.tmp 20), (some (12, false)), true⟩,
 ⟨(some 22), .fieldAddr 1 (.tmp 2), (some (21, true)), true⟩,
 ⟨(some 23), .load none (.tmp 22), (some (21, true)), true⟩,
 ⟨(some 24), .load none (.tmp 1), (some (21, true)), true⟩,
 ⟨(some 25), .bin .lss (.tmp 23) (.tmp 24), (some (21, true)), true⟩,
 ⟨(some 26), .pick (.tmp 21) (.tmp 25) (.av (.val (.bool false))), (some (12, false)), true⟩,
 ⟨(some 27), .pick (.tmp 12) (.av (.val (.bool true))) (.tmp 26), none, true⟩,
 ⟨(some 28), .un .not (.tmp 27), none, true⟩,
 ⟨(some 3), .mv (.tmp 28), none, true⟩])
 (.ret))
theorem jhY : jap Try.prog 53 = some ⟨29, jeP, [.tmp 3]⟩ := by kernel_rfl
def jfT : jar := .seq (.ops [⟨(some 2), .zero [(.val (.string ⟨#[]⟩)), (.val (.bool false)), (.val (.int .i64 0)), (.val (.int .i64 0)), (.val (.bool false)), (.val (.bool false)), (.val (.int .i64 0))], none, true⟩,
 ⟨(some 3), .mv (.av (.val (.bool false))), none, true⟩])
 (.seq (.seq (.ops [⟨(some 4), .mv (.tmp 0), none, true⟩])
 (.block 0 (.seq (.ops [⟨(some 6), .bin .eql (.tmp 4) (.av (.val (.int .i64 13))), none, true⟩,
 ⟨(some 5), .mv (.tmp 6), none, true⟩])
 (.cond (.tmp 5)
 (.seq (.ops [⟨(some 7), .build [(.val (.string ⟨#[]⟩)), (.val (.bool false)), (.val (.int .i64 0)), (.val (.int .i64 0)), (.val (.bool false)), (.val (.bool false)), (.val (.int .i64 0))] [(0, 1, (.av (.val (.string ⟨#[66]⟩)))), (1, 1, (.av (.val (.bool true)))), (2, 1, (.av (.val (.int .i64 0)))), (3, 1, (.av (.val (.int .i64 99)))), (4, 1, (.av (.val (.bool false)))), (5, 1, (.av (.val (.bool false)))), (6, 1, (.av (.val (.int .i64 0))))], none, true⟩,
 ⟨none, .store 7 (.tmp 2) (.tmp 7), none, true⟩,
 ⟨(some 3), .mv (.av (.val (.bool true))), none, true⟩])
 (.ret))
 (.seq (.ops [⟨(some 9), .bin .eql (.tmp 4) (.av (.val (.int .i64 14))), none, true⟩,
 ⟨(some 8), .mv (.tmp 9), none, true⟩])
 (.cond (.tmp 8)
 (.seq (.ops [⟨(some 10), .build [(.val (.string ⟨#[]⟩)), (.val (.bool false)), (.val (.int .i64 0)), (.val (.int .i64 0)), (.val (.bool false)), (.val (.bool false)), (.val (.int .i64 0))] [(0, 1, (.av (.val (.string ⟨#[65, 66]⟩)))), (1, 1, (.av (.val (.bool false)))), (2, 1, (.av (.val (.int .i64 0)))), (3, 1, (.av (.val (.int .i64 99)))), (4, 1, (.av (.val (.bool false)))), (5, 1, (.av (.val (.bool false)))), (6, 1, (.av (.val (.int .i64 0))))], none, true⟩,
 ⟨none, .store 7 (.tmp 2) (.tmp 10), none, true⟩,
 ⟨(some 3), .mv (.av (.val (.bool true))), none, true⟩])
 (.ret))
 (.seq (.ops [⟨(some 12), .bin .eql (.tmp 4) (.av (.val (.int .i64 15))), none, true⟩,
 ⟨(some 11), .mv (.tmp 12), none, true⟩])
 (.cond (.tmp 11)
 (.seq (.ops [⟨(some 13), .build [(.val (.string ⟨#[]⟩)), (.val (.bool false)), (.val (.int .i64 0)), (.val (.int .i64 0)), (.val (.bool false)), (.val (.bool false)), (.val (.int .i64 0))] [(0, 1, (.av (.val (.string ⟨#[65, 66]⟩)))), (1, 1, (.av (.val (.bool false)))), (2, 1, (.av (.val (.int .i64 1)))), (3, 1, (.av (.val (.int .i64 1073741824)))), (4, 1, (.av (.val (.bool false)))), (5, 1, (.av (.val (.bool false)))), (6, 1, (.av (.val (.int .i64 2))))], none, true⟩,
 ⟨none, .store 7 (.tmp 2) (.tmp 13), none, true⟩,
 ⟨(some 3), .mv (.av (.val (.bool true))), none, true⟩])
 (.ret))
 (.seq (.ops [⟨(some 15), .bin .eql (.tmp 4) (.av (.val (.int .i64 16))), none, true⟩,
 ⟨(some 14), .mv (.tmp 15), none, true⟩])
 (.cond (.tmp 14)
 (.seq (.ops [⟨(some 16), .build [(.val (.string ⟨#[]⟩)), (.val (.bool false)), (.val (.int .i64 0)), (.val (.int .i64 0)), (.val (.bool false)), (.val (.bool false)), (.val (.int .i64 0))] [(0, 1, (.av (.val (.string ⟨#[66, 67]⟩)))), (1, 1, (.av (.val (.bool true)))), (2, 1, (.av (.val (.int .i64 0)))), (3, 1, (.av (.val (.int .i64 0)))), (4, 1, (.av (.val (.bool false)))), (5, 1, (.av (.val (.bool false)))), (6, 1, (.av (.val (.int .i64 2))))], none, true⟩,
 ⟨none, .store 7 (.tmp 2) (.tmp 16), none, true⟩,
 ⟨(some 3), .mv (.av (.val (.bool true))), none, true⟩])
 (.ret))
 (.seq (.ops [⟨(some 18), .bin .eql (.tmp 4) (.av (.val (.int .i64 17))), none, true⟩,
 ⟨(some 17), .mv (.tmp 18), none, true⟩])
 (.cond (.tmp 17)
 (.seq (.ops [⟨(some 19), .build [(.val (.string ⟨#[]⟩)), (.val (.bool false)), (.val (.int .i64 0)), (.val (.int .i64 0)), (.val (.bool false)), (.val (.bool false)), (.val (.int .i64 0))] [(0, 1, (.av (.val (.string ⟨#[65, 66, 67]⟩)))), (1, 1, (.av (.val (.bool false)))), (2, 1, (.av (.val (.int .i64 0)))), (3, 1, (.av (.val (.int .i64 0)))), (4, 1, (.av (.val (.bool false)))), (5, 1, (.av (.val (.bool false)))), (6, 1, (.av (.val (.int .i64 2))))], none, true⟩,
 ⟨none, .store 7 (.tmp 2) (.tmp 19), none, true⟩,
 ⟨(some 3), .mv (.av (.val (.bool true))), none, true⟩])
 (.ret))
 (.seq (.ops [⟨(some 21), .bin .eql (.tmp 4) (.av (.val (.int .i64 18))), none, true⟩,
 ⟨(some 20), .mv (.tmp 21), none, true⟩])
 (.cond (.tmp 20)
 (.seq (.ops [⟨(some 22), .build [(.val (.string ⟨#[]⟩)), (.val (.bool false)), (.val (.int .i64 0)), (.val (.int .i64 0)), (.val (.bool false)), (.val (.bool false)), (.val (.int .i64 0))] [(0, 1, (.av (.val (.string ⟨#[66]⟩)))), (1, 1, (.av (.val (.bool true)))), (2, 1, (.av (.val (.int .i64 0)))), (3, 1, (.av (.val (.int .i64 0)))), (4, 1, (.av (.val (.bool false)))), (5, 1, (.av (.val (.bool false)))), (6, 1, (.av (.val (.int .i64 0))))], none, true⟩,
 ⟨none, .store 7 (.tmp 2) (.tmp 22), none, true⟩,
 ⟨(some 3), .mv (.av (.val (.bool true))), none, true⟩])
 (.ret))
 (.seq (.ops [⟨(some 24), .bin .eql (.tmp 4) (.av (.val (.int .i64 19))), none, true⟩,
 ⟨(some 23), .mv (.tmp 24), none, true⟩])
 (.cond (.tmp 23)
 (.seq (.ops [⟨(some 25), .build [(.val (.string ⟨#[]⟩)), (.val (.bool false)), (.val (.int .i64 0)), (.val (.int .i64 0)), (.val (.bool false)), (.val (.bool false)), (.val (.int .i64 0))] [(0, 1, (.av (.val (.string ⟨#[]⟩)))), (1, 1, (.av (.val (.bool true)))), (2, 1, (.av (.val (.int .i64 1)))), (3, 1, (.av (.val (.int .i64 3)))), (4, 1, (.av (.val (.bool false)))), (5, 1, (.av (.val (.bool false)))), (6, 1, (.av (.val (.int .i64 2))))], none, true⟩,
 ⟨none, .store 7 (.tmp 2) (.tmp 25), none, true⟩,
 ⟨(some 3), .mv (.av (.val (.bool true))), none, true⟩])
 (.ret))
 (.seq (.ops [⟨(some 27), .bin .eql (.tmp 4) (.av (.val (.int .i64 20))), none, true⟩,
 ⟨(some 26), .mv (.tmp 27), none, true⟩])
 (.cond (.tmp 26)
 (.seq (.ops [⟨(some 28), .build [(.val (.string ⟨#[]⟩)), (.val (.bool false)), (.val (.int .i64 0)), (.val (.int .i64 0)), (.val (.bool false)), (.val (.bool false)), (.val (.int .i64 0))] [(0, 1, (.av (.val (.string ⟨#[65, 66]⟩)))), (1, 1, (.av (.val (.bool false)))), (2, 1, (.av (.val (.int .i64 0)))), (3, 1, (.av (.val (.int .i64 0)))), (4, 1, (.av (.val (.bool false)))), (5, 1, (.av (.val (.bool false)))), (6, 1, (.av (.val (.int .i64 1))))], none, true⟩,
 ⟨none, .store 7 (.tmp 2) (.tmp 28), none, true⟩,
 ⟨(some 3), .mv (.av (.val (.bool true))), none, true⟩])
 (.ret))
 (.seq (.ops [⟨(some 30), .bin .eql (.tmp 4) (.av (.val (.int .i64 21))), none, true⟩,
 ⟨(some 29), .mv (.tmp 30), none, true⟩])
 (.cond (.tmp 29)
 (.seq (.ops [⟨(some 31), .build [(.val (.string ⟨#[]⟩)), (.val (.bool false)), (.val (.int .i64 0)), (.val (.int .i64 0)), (.val (.bool false)), (.val (.bool false)), (.val (.int .i64 0))] [(0, 1, (.av (.val (.string ⟨#[]⟩)))), (1, 1, (.av (.val (.bool true)))), (2, 1, (.av (.val (.int .i64 0)))), (3, 1, (.av (.val (.int .i64 0)))), (4, 1, (.av (.val (.bool false)))), (5, 1, (.av (.val (.bool false)))), (6, 1, (.av (.val (.int .i64 2))))], none, true⟩,
 ⟨none, .store 7 (.tmp 2) (.tmp 31), none, true⟩,
 ⟨(some 3), .mv (.av (.val (.bool true))), none, true⟩])
 (.ret))
 (.seq (.ops [⟨(some 33), .bin .eql (.tmp 4) (.av (.val (.int .i64 22))), none, true⟩,
 ⟨(some 32), .mv (.tmp 33), none, true⟩])
 (.cond (.tmp 32)
 (.seq (.ops [⟨(some 34), .build [(.val (.string ⟨#[]⟩)), (.val (.bool false)), (.val (.int .i64 0)), (.val (.int .i64 0)), (.val (.bool false)), (.val (.bool false)), (.val (.int .i64 0))] [(0, 1, (.av (.val (.string ⟨#[]⟩)))), (1, 1, (.av (.val (.bool false)))), (2, 1, (.av (.val (.int .i64 0)))), (3, 1, (.av (.val (.int .i64 1073741824)))), (4, 1, (.av (.val (.bool true)))), (5, 1, (.av (.val (.bool false)))), (6, 1, (.av (.val (.int .i64 2))))], none, true⟩,
 ⟨none, .store 7 (.tmp 2) (.tmp 34), none, true⟩,
 ⟨(some 3), .mv (.av (.val (.bool true))), none, true⟩])
 (.ret))
 (.skip)))))))))))))))))))))))
 (.seq (.ops [⟨(some 35), .build [(.val (.string ⟨#[]⟩)), (.val (.bool false)), (.val (.int .i64 0)), (.val (.int .i64 0)), (.val (.bool false)), (.val (.bool false)), (.val (.int .i64 0))] [], none, true⟩,
 ⟨none, .store 7 (.tmp 2) (.tmp 35), none, true⟩,
 ⟨(some 3), .mv (.av (.val (.bool false))), none, true⟩])
 (.ret)))
theorem jiZ : jap Try.prog 56 = some ⟨36, jfT, [.cell 2 (some 7), .tmp 3]⟩ := by kernel_rfl
def jjO : jar := .seq (.ops [⟨(some 4), .mv (.av (.val (.int .i64 0))), none, true⟩])
 (.seq (.seq (.ops [⟨(some 6), .mv (.tmp 0), none, true⟩,
 ⟨(some 7), .len (.tmp 6), none, true⟩,
 ⟨(some 8), .mv (.av (.val (.int .i64 0))), none, true⟩])
 (jax 0 1 9 8 7 18
 (.seq (.ops [⟨(some 10), .mv (.tmp 8), none, true⟩,
 ⟨(some 5), .mv (.tmp 10), none, true⟩])
 (.seq (.ops [⟨(some 11), .mv (.tmp 1), none, true⟩,
 ⟨(some 12), .mv (.tmp 0), none, true⟩,
 ⟨(some 13), .mv (.tmp 5), none, true⟩,
 ⟨(some 14), .indexAddr 5 (.tmp 12) (.tmp 13), none, true⟩,
 ⟨(some 15), .load (some 5) (.tmp 14), none, true⟩,
 ⟨(some 16), .call (.tmp 11) [(.tmp 15)], none, true⟩])
 (.cond (.tmp 16)
 (.seq (.ops [⟨(some 17), .mv (.tmp 5), none, true⟩,
 ⟨(some 4), .mv (.tmp 17), none, true⟩])
 (.ret))
 (.skip))))))
 (.seq (.ops [⟨(some 4), .mv (.av (.val (.int .i64 (-1)))), none, true⟩])
 (.ret)))
theorem f_or_ifM : jap Try.prog 54 = some ⟨19, jjO, [.tmp 4]⟩ := by kernel_rfl
def jjN : jar := .seq (.ops [⟨(some 4), .mv (.av (.val (.int .i64 0))), none, true⟩])
 (.seq (.seq (.ops [⟨(some 6), .mv (.tmp 0), none, true⟩,
 ⟨(some 7), .len (.tmp 6), none, true⟩,
 ⟨(some 8), .mv (.av (.val (.int .i64 0))), none, true⟩])
 (jax 0 1 9 8 7 18
 (.seq (.ops [⟨(some 10), .mv (.tmp 8), none, true⟩,
 ⟨(some 5), .mv (.tmp 10), none, true⟩])
 (.seq (.ops [⟨(some 11), .mv (.tmp 1), none, true⟩,
 ⟨(some 12), .mv (.tmp 0), none, true⟩,
 ⟨(some 13), .mv (.tmp 5), none, true⟩,
 ⟨(some 14), .indexAddr 2 (.tmp 12) (.tmp 13), none, true⟩,
 ⟨(some 15), .load (some 2) (.tmp 14), none, true⟩,
 ⟨(some 16), .call (.tmp 11) [(.tmp 15)], none, true⟩])
 (.cond (.tmp 16)
 (.seq (.ops [⟨(some 17), .mv (.tmp 5), none, true⟩,
 ⟨(some 4), .mv (.tmp 17), none, true⟩])
 (.ret))
 (.skip))))))
 (.seq (.ops [⟨(some 4), .mv (.av (.val (.int .i64 (-1)))), none, true⟩])
 (.ret)))
theorem f_or_ifP : jap Try.prog 55 = some ⟨19, jjN, [.tmp 4]⟩ := by kernel_rfl
def jjU : jar := .seq (.ops [⟨(some 4), .mv (.av (.val (.bool false))), none, true⟩])
 (.seq (.ops [⟨(some 5), .mv (.tmp 0), none, true⟩,
 ⟨(some 6), .mv (.tmp 1), none, true⟩,
 ⟨(some 7), .call (.av (.func 64 [])) [(.tmp 5), (.tmp 6)], none, true⟩,
 ⟨(some 8), .bin .geq (.tmp 7) (.av (.val (.int .i64 0))), none, true⟩,
 ⟨(some 4), .mv (.tmp 8), none, true⟩])
 (.ret))
theorem f_or_cfI : jap Try.prog 58 = some ⟨9, jjU, [.tmp 4]⟩ := by kernel_rfl
def jh8 : jar := .seq (.ops [⟨(some 2), .box 7 (.tmp 0), none, true⟩,
 ⟨(some 3), .box 8 (.tmp 1), none, true⟩,
 ⟨(some 4), .mv (.av (.val (.slice none 0 0))), none, true⟩])
 (.seq (.ops [⟨(some 5), .mv (.av (.val (.slice none 0 0))), none, true⟩])
 (.seq (.seq (.ops [⟨(some 11), .fieldAddr 1 (.tmp 3), none, true⟩,
 ⟨(some 12), .load none (.tmp 11), none, true⟩,
 ⟨(some 13), .fieldAddr 2 (.tmp 3), none, true⟩,
 ⟨(some 14), .load none (.tmp 13), none, true⟩,
 ⟨(some 15), .fieldAddr 3 (.tmp 3), none, true⟩,
 ⟨(some 16), .load none (.tmp 15), none, true⟩,
 ⟨(some 17), .build [(.val (.int .i64 0)), (.val (.int .i64 0)), (.val (.int .i64 0))] [(0, 1, (.tmp 12)), (1, 1, (.tmp 14)), (2, 1, (.tmp 16))], none, true⟩,
 ⟨(some 18), .mv (.av (.val (.int .i64 0))), none, true⟩])
 (.block 0 (.loop (.seq (.ops [⟨(some 19), .bin .lss (.tmp 18) (.av (.val (.int .i64 3))), none, true⟩])
 (.seq (.cond (.tmp 19)
 (.skip)
 (.exit 0))
 (.seq (.block 1 (.seq (.ops [⟨(some 20), .mv (.tmp 18), none, true⟩,
 ⟨(some 21), .index 1 3 none (.tmp 17) (.tmp 18), none, true⟩,
 ⟨(some 6), .mv (.tmp 20), none, true⟩,
 ⟨(some 7), .mv (.tmp 21), none, true⟩])
 (.seq (.ops [⟨(some 22), .fieldAddr 1 (.tmp 2), none, true⟩,
 ⟨(some 23), .load none (.tmp 22), none, true⟩,
 ⟨(some 24), .mv (.tmp 23), none, true⟩,
 ⟨(some 25), .mv (.tmp 6), (some (24, true)), true⟩,
 ⟨(some 26), .bin .eql (.tmp 25) (.av (.val (.int .i64 0))), (some (24, true)), true⟩,
 ⟨(some 27), .pick (.tmp 24) (.tmp 26) (.av (.val (.bool false))), none, true⟩,
 ⟨(some 28), .mv (.tmp 27), none, true⟩,
 ⟨(some 29), .fieldAddr 4 (.tmp 2), (some (28, false)), true⟩,
 ⟨(some 30), .load none (.tmp 29), (some (28, false)), true⟩,
 ⟨(some 31), .mv (.tmp 30), (some (28, false)), true⟩,
 ⟨(some 32), .mv (.tmp 6), (some (31, true)), true⟩,
 ⟨(some 33), .bin .eql (.tmp 32) (.av (.val (.int .i64 1))), (some (31, true)), true⟩,
 ⟨(some 34), .pick (.tmp 31) (.tmp 33) (.av (.val (.bool false))), (some (28, false)), true⟩,
 ⟨(some 35), .pick (.tmp 28) (.av (.val (.bool true))) (.tmp 34), none, true⟩,
 ⟨(some 8), .mv (.tmp 35), none, true⟩])
 (.seq (.rng false (.tmp 37) 38 39 40 0 2 3 [⟨(some 36), .fieldAddr 0 (.tmp 2), none, true⟩,
 ⟨(some 37), .load none (.tmp 36), none, true⟩] [⟨(some 41), .extract 2 (.tmp 39), none, true⟩,
 ⟨(some 10), .mv (.tmp 41), none, true⟩]
 (.ops [⟨(some 42), .mv (.tmp 8), none, true⟩,
 ⟨(some 43), .mv (.tmp 42), none, true⟩,
 ⟨(some 44), .mv (.tmp 10), (some (43, false)), true⟩,
 ⟨(some 45), .bin .sub (.tmp 44) (.av (.val (.int .i32 65))), (some (43, false)), true⟩,
 ⟨(some 46), .conv .i64 (.tmp 45), (some (43, false)), true⟩,
 ⟨(some 47), .mv (.tmp 6), (some (43, false)), true⟩,
 ⟨(some 48), .bin .eql (.tmp 46) (.tmp 47), (some (43, false)), true⟩,
 ⟨(some 49), .pick (.tmp 43) (.av (.val (.bool true))) (.tmp 48), none, true⟩,
 ⟨(some 8), .mv (.tmp 49), none, true⟩]))
 (.seq (.ops [⟨(some 50), .mv (.tmp 8), none, true⟩,
 ⟨(some 51), .un .not (.tmp 50), none, true⟩])
 (.cond (.tmp 51)
 (.ops [⟨(some 52), .mv (.tmp 5), none, true⟩,
 ⟨(some 53), .mv (.tmp 7), none, true⟩,
 ⟨(some 54), .lits 1 1 [(.val (.int .i64 0))] [(0, 1, (.tmp 53))], none, true⟩,
 ⟨(some 55), .append 1 8 (.tmp 52) (.tmp 54), none, true⟩,
 ⟨(some 5), .mv (.tmp 55), none, true⟩])
 (.skip)))))))
 (.ops [⟨(some 56), .bin .add (.tmp 18) (.av (.val (.int .i64 1))), none, true⟩,
 ⟨(some 18), .mv (.tmp 56), none, true⟩])))))))
 (.seq (.ops [⟨(some 57), .mv (.tmp 5), none, true⟩,
 ⟨(some 4), .mv (.tmp 57), none, true⟩])
 (.ret))))
theorem jm3 : jap Try.prog 59 = some ⟨58, jh8, [.tmp 4]⟩ := by kernel_rfl
def jfR : jar := .seq (.ops [⟨(some 2), .mv (.av (.val (.bool false))), none, true⟩])
 (.seq (.ops [⟨(some 3), .mv (.tmp 0), none, true⟩,
 ⟨(some 4), .bin .neq (.tmp 3) (.av (.val (.int .i64 0))), none, true⟩,
 ⟨(some 2), .mv (.tmp 4), none, true⟩])
 (.ret))
theorem jiX : jap Try.prog 60 = some ⟨5, jfR, [.tmp 2]⟩ := by kernel_rfl
def jjP : jar := .seq (.ops [⟨(some 4), .mv (.av (.val (.int .i64 0))), none, true⟩])
 (.seq (.seq (.ops [⟨(some 6), .mv (.tmp 0), none, true⟩,
 ⟨(some 7), .len (.tmp 6), none, true⟩,
 ⟨(some 8), .mv (.av (.val (.int .i64 0))), none, true⟩])
 (jax 0 1 9 8 7 18
 (.seq (.ops [⟨(some 10), .mv (.tmp 8), none, true⟩,
 ⟨(some 5), .mv (.tmp 10), none, true⟩])
 (.seq (.ops [⟨(some 11), .mv (.tmp 1), none, true⟩,
 ⟨(some 12), .mv (.tmp 0), none, true⟩,
 ⟨(some 13), .mv (.tmp 5), none, true⟩,
 ⟨(some 14), .indexAddr 1 (.tmp 12) (.tmp 13), none, true⟩,
 ⟨(some 15), .load none (.tmp 14), none, true⟩,
 ⟨(some 16), .call (.tmp 11) [(.tmp 15)], none, true⟩])
 (.cond (.tmp 16)
 (.seq (.ops [⟨(some 17), .mv (.tmp 5), none, true⟩,
 ⟨(some 4), .mv (.tmp 17), none, true⟩])
 (.ret))
 (.skip))))))
 (.seq (.ops [⟨(some 4), .mv (.av (.val (.int .i64 (-1)))), none, true⟩])
 (.ret)))
theorem f_or_ifI : jap Try.prog 64 = some ⟨19, jjP, [.tmp 4]⟩ := by kernel_rfl
end Go.Proofs.Ytmholkmghhkbhaa

namespace Go.Proofs.Ytmholkmghhkbhaa
open Go Go.RowKit
variable {tb : List (FuncId × Bool)} {L : Nat → Bool} {H : ZH} {K : ZV → ZH → Prop}
structure OF where
  rd : List Nat
  wr : Bool
  lo : Int
  hi : Int
  nm : Bool
  kk : Bool
  ex : Int
def rdS (l : List Nat) : ByteArray := ⟨(l.map fun j => UInt8.ofNat (65 + j)).toArray⟩
abbrev eOF (f : OF) : List ZV := [.val (.string (rdS f.rd)), ZBo f.wr, Z64 f.lo, Z64 f.hi, ZBo f.nm, ZBo f.kk, Z64 f.ex]
def ofD : OF × Bool := (⟨[], false, 0, 0, false, false, 0⟩, false)
def ofT : List (OF × Bool) := [(⟨[], false, 0, 0, false, false, 0⟩, false), (⟨[1], true, 0, 0, false, false, 0⟩, true), (⟨[], true, 0, 0, false, true, 0⟩, true), (⟨[0], false, 0, 300, false, false, 0⟩, true), (⟨[], true, 0, 300, false, false, 0⟩, true), (⟨[], true, 0, 1073741824, false, false, 0⟩, true), (⟨[], true, 0, 0, false, false, 0⟩, true), (⟨[0], false, 0, 6, false, false, 2⟩, true), (⟨[0], false, 0, 1, false, false, 2⟩, true), (⟨[0], false, 0, 0, false, true, 2⟩, true), (⟨[1, 2], true, 3, 10, false, false, 1⟩, true), (⟨[1], true, 11, 12, false, false, 1⟩, true), (⟨[0], false, 1, 7, true, false, 2⟩, true), (⟨[1], true, 0, 99, false, false, 0⟩, true), (⟨[0, 1], false, 0, 99, false, false, 0⟩, true), (⟨[0, 1], false, 1, 1073741824, false, false, 2⟩, true), (⟨[1, 2], true, 0, 0, false, false, 2⟩, true), (⟨[0, 1, 2], false, 0, 0, false, false, 2⟩, true), (⟨[1], true, 0, 0, false, false, 0⟩, true), (⟨[], true, 1, 3, false, false, 2⟩, true), (⟨[0, 1], false, 0, 0, false, false, 1⟩, true), (⟨[], true, 0, 0, false, false, 2⟩, true), (⟨[], false, 0, 1073741824, true, false, 2⟩, true)]
def isR (op : Int) : Bool := decide (1 ≤ op) && decide (op ≤ 22)
def ofO (op : Int) : OF × Bool := if isR op = true then ofT.getD op.toNat ofD else ofD
theorem ofO_no {op : Int} (h : isR op = false) : ofO op = ofD := by unfold ofO; rw [if_neg (by rw [h]; simp)]
theorem jmH (op : Int) (h : 1 ≤ op ∧ op ≤ 12) : op = 1 ∨ op = 2 ∨ op = 3 ∨ op = 4 ∨ op = 5 ∨ op = 6 ∨ op = 7 ∨ op = 8 ∨ op = 9 ∨ op = 10 ∨ op = 11 ∨ op = 12 := by omega
theorem jmG (op : Int) (h : 13 ≤ op ∧ op ≤ 22) : op = 13 ∨ op = 14 ∨ op = 15 ∨ op = 16 ∨ op = 17 ∨ op = 18 ∨ op = 19 ∨ op = 20 ∨ op = 21 ∨ op = 22 := by omega
set_option maxHeartbeats 8000000 in
theorem ofheap_z {op : Int} (hop : op < 1 ∨ 12 < op) (hK : K (.tuple [.agg (eOF (ofO op).1), ZBo (ofO op).2]) H) : ZC (boxY tb) (jap Try.prog) 56 [Z64 op] L H K := by
 refine ZC.enterL Gh.no (jan (by decide)) jiZ (by simp) fun hL => ?_
 simp only [jfT]
 have l0 : ∀ n, L (H.length + n) = true := hL
 have l00 : L H.length = true := hL 0
 have g0 : ∀ A, (H ++ [A])[H.length]? = some A := fun A => atN0 rfl A []
 have s0 : ∀ A C : ZB, (H ++ [A]).set H.length C = H ++ [C] := fun A C => stN0 rfl A C []
 have fin : ∀ X, Fin H (.tuple [.agg (eOF (ofO op).1), ZBo (ofO op).2]) (H ++ X) K := fun X => Fin.trunc (Mods.ext H X) rfl (by rw [List.take_left]; exact hK)
 clear hK
 by_cases h : 13 ≤ op ∧ op ≤ 22
 ·rcases jmG op h with rfl | rfl | rfl | rfl | rfl | rfl | rfl | rfl | rfl | rfl
  ·simp only [show ofO 13 = (⟨[1], true, 0, 99, false, false, 0⟩, true) from rfl, show rdS [1] = ⟨#[66]⟩ from rfl] at fin
   repeat' (first | (simp only [zP, jaf, jaa, jad, jae, seval, Nat.reduceLeDiff, l00, g0, s0, Int.reduceEq, *]) | (simp only [jab]) | (with_reducible apply And.intro) | (with_reducible intro _))
   all_goals exact fin _
  ·simp only [show ofO 14 = (⟨[0, 1], false, 0, 99, false, false, 0⟩, true) from rfl, show rdS [0, 1] = ⟨#[65, 66]⟩ from rfl] at fin
   repeat' (first | (simp only [zP, jaf, jaa, jad, jae, seval, Nat.reduceLeDiff, l00, g0, s0, Int.reduceEq, *]) | (simp only [jab]) | (with_reducible apply And.intro) | (with_reducible intro _))
   all_goals exact fin _
  ·simp only [show ofO 15 = (⟨[0, 1], false, 1, 1073741824, false, false, 2⟩, true) from rfl, show rdS [0, 1] = ⟨#[65, 66]⟩ from rfl] at fin
   repeat' (first | (simp only [zP, jaf, jaa, jad, jae, seval, Nat.reduceLeDiff, l00, g0, s0, Int.reduceEq, *]) | (simp only [jab]) | (with_reducible apply And.intro) | (with_reducible intro _))
   all_goals exact fin _
  ·simp only [show ofO 16 = (⟨[1, 2], true, 0, 0, false, false, 2⟩, true) from rfl, show rdS [1, 2] = ⟨#[66, 67]⟩ from rfl] at fin
   repeat' (first | (simp only [zP, jaf, jaa, jad, jae, seval, Nat.reduceLeDiff, l00, g0, s0, Int.reduceEq, *]) | (simp only [jab]) | (with_reducible apply And.intro) | (with_reducible intro _))
   all_goals exact fin _
  ·simp only [show ofO 17 = (⟨[0, 1, 2], false, 0, 0, false, false, 2⟩, true) from rfl, show rdS [0, 1, 2] = ⟨#[65, 66, 67]⟩ from rfl] at fin
   repeat' (first | (simp only [zP, jaf, jaa, jad, jae, seval, Nat.reduceLeDiff, l00, g0, s0, Int.reduceEq, *]) | (simp only [jab]) | (with_reducible apply And.intro) | (with_reducible intro _))
   all_goals exact fin _
  ·simp only [show ofO 18 = (⟨[1], true, 0, 0, false, false, 0⟩, true) from rfl, show rdS [1] = ⟨#[66]⟩ from rfl] at fin
   repeat' (first | (simp only [zP, jaf, jaa, jad, jae, seval, Nat.reduceLeDiff, l00, g0, s0, Int.reduceEq, *]) | (simp only [jab]) | (with_reducible apply And.intro) | (with_reducible intro _))
   all_goals exact fin _
  ·simp only [show ofO 19 = (⟨[], true, 1, 3, false, false, 2⟩, true) from rfl, show rdS [] = ⟨#[]⟩ from rfl] at fin
   repeat' (first | (simp only [zP, jaf, jaa, jad, jae, seval, Nat.reduceLeDiff, l00, g0, s0, Int.reduceEq, *]) | (simp only [jab]) | (with_reducible apply And.intro) | (with_reducible intro _))
   all_goals exact fin _
  ·simp only [show ofO 20 = (⟨[0, 1], false, 0, 0, false, false, 1⟩, true) from rfl, show rdS [0, 1] = ⟨#[65, 66]⟩ from rfl] at fin
   repeat' (first | (simp only [zP, jaf, jaa, jad, jae, seval, Nat.reduceLeDiff, l00, g0, s0, Int.reduceEq, *]) | (simp only [jab]) | (with_reducible apply And.intro) | (with_reducible intro _))
   all_goals exact fin _
  ·simp only [show ofO 21 = (⟨[], true, 0, 0, false, false, 2⟩, true) from rfl, show rdS [] = ⟨#[]⟩ from rfl] at fin
   repeat' (first | (simp only [zP, jaf, jaa, jad, jae, seval, Nat.reduceLeDiff, l00, g0, s0, Int.reduceEq, *]) | (simp only [jab]) | (with_reducible apply And.intro) | (with_reducible intro _))
   all_goals exact fin _
  ·simp only [show ofO 22 = (⟨[], false, 0, 1073741824, true, false, 2⟩, true) from rfl, show rdS [] = ⟨#[]⟩ from rfl] at fin
   repeat' (first | (simp only [zP, jaf, jaa, jad, jae, seval, Nat.reduceLeDiff, l00, g0, s0, Int.reduceEq, *]) | (simp only [jab]) | (with_reducible apply And.intro) | (with_reducible intro _))
   all_goals exact fin _
 ·have hr : isR op = false := by unfold isR; simp only [Bool.and_eq_false_iff, decide_eq_false_iff_not]; omega
  simp only [ofO_no hr, ofD, show rdS [] = ⟨#[]⟩ from rfl] at fin
  have n13 : op ≠ 13 := by omega
  have n14 : op ≠ 14 := by omega
  have n15 : op ≠ 15 := by omega
  have n16 : op ≠ 16 := by omega
  have n17 : op ≠ 17 := by omega
  have n18 : op ≠ 18 := by omega
  have n19 : op ≠ 19 := by omega
  have n20 : op ≠ 20 := by omega
  have n21 : op ≠ 21 := by omega
  have n22 : op ≠ 22 := by omega
  clear h hop hr
  repeat' (first | (simp only [zP, jaf, jaa, jad, jae, seval, Nat.reduceLeDiff, l00, g0, s0, n13, n14, n15, n16, n17, n18, n19, n20, n21, n22, *]) | (simp only [jab]) | (with_reducible apply And.intro) | (with_reducible intro _))
  all_goals exact fin _
set_option maxHeartbeats 8000000 in
theorem of_z {op : Int} (hK : K (.tuple [.agg (eOF (ofO op).1), ZBo (ofO op).2]) H) : ZC (boxY tb) (jap Try.prog) 47 [Z64 op] L H K := by
 refine ZC.enterL Gh.no (jan (by decide)) f_or_of (by simp) fun hL => ?_
 simp only [jnn]
 have l0 : ∀ n, L (H.length + n) = true := hL
 have l00 : L H.length = true := hL 0
 have g0 : ∀ A, (H ++ [A])[H.length]? = some A := fun A => atN0 rfl A []
 have s0 : ∀ A C : ZB, (H ++ [A]).set H.length C = H ++ [C] := fun A C => stN0 rfl A C []
 have fin : ∀ X, Fin H (.tuple [.agg (eOF (ofO op).1), ZBo (ofO op).2]) (H ++ X) K := fun X => Fin.trunc (Mods.ext H X) rfl (by rw [List.take_left]; exact hK)
 clear hK
 by_cases h : 1 ≤ op ∧ op ≤ 12
 ·rcases jmH op h with rfl | rfl | rfl | rfl | rfl | rfl | rfl | rfl | rfl | rfl | rfl | rfl
  ·simp only [show ofO 1 = (⟨[1], true, 0, 0, false, false, 0⟩, true) from rfl, show rdS [1] = ⟨#[66]⟩ from rfl] at fin
   repeat' (first | (simp only [zP, jaf, jaa, jad, jae, seval, Nat.reduceLeDiff, l00, g0, s0, Int.reduceEq, *]) | (simp only [jab]) | (with_reducible apply And.intro) | (with_reducible intro _))
   all_goals exact fin _
  ·simp only [show ofO 2 = (⟨[], true, 0, 0, false, true, 0⟩, true) from rfl, show rdS [] = ⟨#[]⟩ from rfl] at fin
   repeat' (first | (simp only [zP, jaf, jaa, jad, jae, seval, Nat.reduceLeDiff, l00, g0, s0, Int.reduceEq, *]) | (simp only [jab]) | (with_reducible apply And.intro) | (with_reducible intro _))
   all_goals exact fin _
  ·simp only [show ofO 3 = (⟨[0], false, 0, 300, false, false, 0⟩, true) from rfl, show rdS [0] = ⟨#[65]⟩ from rfl] at fin
   repeat' (first | (simp only [zP, jaf, jaa, jad, jae, seval, Nat.reduceLeDiff, l00, g0, s0, Int.reduceEq, *]) | (simp only [jab]) | (with_reducible apply And.intro) | (with_reducible intro _))
   all_goals exact fin _
  ·simp only [show ofO 4 = (⟨[], true, 0, 300, false, false, 0⟩, true) from rfl, show rdS [] = ⟨#[]⟩ from rfl] at fin
   repeat' (first | (simp only [zP, jaf, jaa, jad, jae, seval, Nat.reduceLeDiff, l00, g0, s0, Int.reduceEq, *]) | (simp only [jab]) | (with_reducible apply And.intro) | (with_reducible intro _))
   all_goals exact fin _
  ·simp only [show ofO 5 = (⟨[], true, 0, 1073741824, false, false, 0⟩, true) from rfl, show rdS [] = ⟨#[]⟩ from rfl] at fin
   repeat' (first | (simp only [zP, jaf, jaa, jad, jae, seval, Nat.reduceLeDiff, l00, g0, s0, Int.reduceEq, *]) | (simp only [jab]) | (with_reducible apply And.intro) | (with_reducible intro _))
   all_goals exact fin _
  ·simp only [show ofO 6 = (⟨[], true, 0, 0, false, false, 0⟩, true) from rfl, show rdS [] = ⟨#[]⟩ from rfl] at fin
   repeat' (first | (simp only [zP, jaf, jaa, jad, jae, seval, Nat.reduceLeDiff, l00, g0, s0, Int.reduceEq, *]) | (simp only [jab]) | (with_reducible apply And.intro) | (with_reducible intro _))
   all_goals exact fin _
  ·simp only [show ofO 7 = (⟨[0], false, 0, 6, false, false, 2⟩, true) from rfl, show rdS [0] = ⟨#[65]⟩ from rfl] at fin
   repeat' (first | (simp only [zP, jaf, jaa, jad, jae, seval, Nat.reduceLeDiff, l00, g0, s0, Int.reduceEq, *]) | (simp only [jab]) | (with_reducible apply And.intro) | (with_reducible intro _))
   all_goals exact fin _
  ·simp only [show ofO 8 = (⟨[0], false, 0, 1, false, false, 2⟩, true) from rfl, show rdS [0] = ⟨#[65]⟩ from rfl] at fin
   repeat' (first | (simp only [zP, jaf, jaa, jad, jae, seval, Nat.reduceLeDiff, l00, g0, s0, Int.reduceEq, *]) | (simp only [jab]) | (with_reducible apply And.intro) | (with_reducible intro _))
   all_goals exact fin _
  ·simp only [show ofO 9 = (⟨[0], false, 0, 0, false, true, 2⟩, true) from rfl, show rdS [0] = ⟨#[65]⟩ from rfl] at fin
   repeat' (first | (simp only [zP, jaf, jaa, jad, jae, seval, Nat.reduceLeDiff, l00, g0, s0, Int.reduceEq, *]) | (simp only [jab]) | (with_reducible apply And.intro) | (with_reducible intro _))
   all_goals exact fin _
  ·simp only [show ofO 10 = (⟨[1, 2], true, 3, 10, false, false, 1⟩, true) from rfl, show rdS [1, 2] = ⟨#[66, 67]⟩ from rfl] at fin
   repeat' (first | (simp only [zP, jaf, jaa, jad, jae, seval, Nat.reduceLeDiff, l00, g0, s0, Int.reduceEq, *]) | (simp only [jab]) | (with_reducible apply And.intro) | (with_reducible intro _))
   all_goals exact fin _
  ·simp only [show ofO 11 = (⟨[1], true, 11, 12, false, false, 1⟩, true) from rfl, show rdS [1] = ⟨#[66]⟩ from rfl] at fin
   repeat' (first | (simp only [zP, jaf, jaa, jad, jae, seval, Nat.reduceLeDiff, l00, g0, s0, Int.reduceEq, *]) | (simp only [jab]) | (with_reducible apply And.intro) | (with_reducible intro _))
   all_goals exact fin _
  ·simp only [show ofO 12 = (⟨[0], false, 1, 7, true, false, 2⟩, true) from rfl, show rdS [0] = ⟨#[65]⟩ from rfl] at fin
   repeat' (first | (simp only [zP, jaf, jaa, jad, jae, seval, Nat.reduceLeDiff, l00, g0, s0, Int.reduceEq, *]) | (simp only [jab]) | (with_reducible apply And.intro) | (with_reducible intro _))
   all_goals exact fin _
 ·have hop : op < 1 ∨ 12 < op := by omega
  have HO := Lib.hid hop
  have n1 : op ≠ 1 := by omega
  have n2 : op ≠ 2 := by omega
  have n3 : op ≠ 3 := by omega
  have n4 : op ≠ 4 := by omega
  have n5 : op ≠ 5 := by omega
  have n6 : op ≠ 6 := by omega
  have n7 : op ≠ 7 := by omega
  have n8 : op ≠ 8 := by omega
  have n9 : op ≠ 9 := by omega
  have n10 : op ≠ 10 := by omega
  have n11 : op ≠ 11 := by omega
  have n12 : op ≠ 12 := by omega
  clear h hop
  repeat' (first | (simp only [zP, jaf, jaa, jad, jae, seval, Nat.reduceLeDiff, l00, g0, s0, n1, n2, n3, n4, n5, n6, n7, n8, n9, n10, n11, n12, *]) | (simp only [jab]) | (with_reducible apply And.intro) | (with_reducible intro _))
  refine ofheap_z HO.out ?_
  repeat' (first | (simp only [zP, jaf, jaa, jad, jae, seval, Nat.reduceLeDiff, l00, g0, s0, *]) | (simp only [jab]) | (with_reducible apply And.intro) | (with_reducible intro _))
end Go.Proofs.Ytmholkmghhkbhaa

namespace Go.Proofs.Ytmholkmghhkbhaa
open Go Go.RowKit
variable {tb : List (FuncId × Bool)} {L : Nat → Bool} {H : ZH} {K : ZV → ZH → Prop}
abbrev Rd := Int × Int × Int × Int × Int × Int × Int × Int
abbrev eRd (x : Rd) : List ZV := [Z64 x.1, Z64 x.2.1, Z64 x.2.2.1, Z64 x.2.2.2.1, Z64 x.2.2.2.2.1, Z64 x.2.2.2.2.2.1, Z64 x.2.2.2.2.2.2.1, Z64 x.2.2.2.2.2.2.2]
def abc (x : Rd) : Nat → Int
  | 0 => x.2.1
  | 1 => x.2.2.1
  | _ => x.2.2.2.1
def rdL : List (List Nat) := [[], [0], [1], [0, 1], [1, 2], [0, 1, 2]]
theorem jft : ∀ rd ∈ rdL, jc7 (rdS rd) = (rd.zipIdx.map fun p => (p.2, 65 + p.1)) ∧ (∀ j ∈ rd, j ≤ 2) ∧ rd.length ≤ 3 := by decide +kernel
theorem ofT_rdL : ∀ f ∈ ofT, f.1.rd ∈ rdL := by decide +kernel
theorem jmI (op : Int) : (ofO op).1.rd ∈ rdL := by
 unfold ofO
 split
 ·rw [List.getD_eq_getElem?_getD]
  cases h : ofT[op.toNat]? with
  | none => exact List.mem_cons_self
  | some f => exact ofT_rdL f (List.mem_of_getElem? h)
 ·exact List.mem_cons_self
def jeI (x : Rd) : List Int := (ofO x.1).1.rd.map (abc x)
def jbg (x : Rd) : Int := if (ofO x.1).1.wr = true then x.2.1 else -1
theorem writes_z {x : Rd} (hK : K (Z64 (jbg x)) H) : ZC (boxY tb) (jap Try.prog) 51 [.agg (eRd x)] L H K := by
 obtain ⟨op, a, b, c, n, e, kk, kn⟩ := x
 refine ZC.enterL Gh.no (jan (by decide)) jiW (by simp) fun hL => ?_
 simp only [jfQ]
 have fin0 : ∀ X, Fin H (Z64 (jbg (op, a, b, c, n, e, kk, kn))) (H ++ X) K := fun X => Fin.trunc (Mods.ext H X) rfl (by rw [List.take_left]; exact hK)
 clear hK
 unfold jbg at fin0
 have F0 := Lib.hid fin0
 clear fin0
 have l0 : L H.length = true := hL 0
 have l1 : L (H.length + 1) = true := hL 1
 have a00 : ∀ A Y, (H ++ (A :: Y))[H.length]? = some A := fun A Y => atN0 rfl A Y
 have a1 : ∀ A B Y, (H ++ (A :: B :: Y))[H.length + 1]? = some B := fun A B Y => atN1 rfl A B Y
 have s1 : ∀ A B C Y, (H ++ (A :: B :: Y)).set (H.length + 1) C = H ++ (A :: C :: Y) := fun A B C Y => stN1 rfl A B C Y
 repeat' (first | (simp only [zP, jaf, jaa, jad, jae, seval, Nat.reduceLeDiff, l0, a00, *]) | (simp only [jab]) | (with_reducible apply And.intro) | (with_reducible intro _))
 refine of_z ?_
 have fin := F0.out
 simp only at fin
 generalize (ofO op).1 = f at fin ⊢
 obtain ⟨rd, wr, lo, hi, nm, k2, ex⟩ := f
 cases wr with
 | true =>
  simp only [if_true] at fin
  repeat' (first | (simp only [zP, jaf, jaa, jad, jae, seval, Nat.reduceLeDiff, l0, l1, a00, a1, s1, *]) | (simp only [jab]) | (with_reducible apply And.intro) | (with_reducible intro _))
 | false =>
  simp only [Bool.false_eq_true, if_false] at fin
  repeat' (first | (simp only [zP, jaf, jaa, jad, jae, seval, Nat.reduceLeDiff, l0, l1, a00, a1, s1, *]) | (simp only [jab]) | (with_reducible apply And.intro) | (with_reducible intro _))
theorem jiS {r : Int} (hK : K (ZBo (decide (0 ≤ r ∧ r < 8))) H) : ZC (boxY tb) (jap Try.prog) 50 [Z64 r] L H K := by
 refine ZC.enterL Gh.no (jan (by decide)) jk0 (by simp) fun hL => ?_
 simp only [jgE]
 have fin0 := Lib.hid (show ∀ b, decide (0 ≤ r ∧ r < 8) = b → Fin H (ZBo b) H K from fun b hb => Fin.keep (H0 := H) (by rw [← hb]; exact hK))
 clear hK
 by_cases h1 : 0 ≤ r
 ·by_cases h2 : r < 8
  ·have fin := fin0.out true (decide_eq_true ⟨h1, h2⟩)
   repeat' (first | (simp only [zP, jaf, jaa, jad, jae, seval, Nat.reduceLeDiff, h1, h2, *]) | (simp only [jab]) | (with_reducible apply And.intro) | (with_reducible intro _))
  ·have fin := fin0.out false (decide_eq_false fun h => h2 h.2)
   repeat' (first | (simp only [zP, jaf, jaa, jad, jae, seval, Nat.reduceLeDiff, h1, h2, *]) | (simp only [jab]) | (with_reducible apply And.intro) | (with_reducible intro _))
 ·have fin := fin0.out false (decide_eq_false fun h => h1 h.1)
  repeat' (first | (simp only [zP, jaf, jaa, jad, jae, seval, Nat.reduceLeDiff, h1, *]) | (simp only [jab]) | (with_reducible apply And.intro) | (with_reducible intro _))
theorem righta_z {r : Int} (hK : K (ZBo (decide (r ≠ 0))) H) : ZC (boxY tb) (jap Try.prog) 60 [Z64 r] L H K := by
 refine ZC.enterL Gh.no (jan (by decide)) jiX (by simp) fun hL => ?_
 simp only [jfR]
 have fin0 := Lib.hid (show ∀ b, decide (r ≠ 0) = b → Fin H (ZBo b) H K from fun b hb => Fin.keep (H0 := H) (by rw [← hb]; exact hK))
 clear hK
 by_cases h1 : r = 0
 ·have fin := fin0.out false (by simp [h1])
  repeat' (first | (simp only [zP, jaf, jaa, jad, jae, seval, Nat.reduceLeDiff, h1, *]) | (simp only [jab]) | (with_reducible apply And.intro) | (with_reducible intro _))
 ·have fin := fin0.out true (by simp [h1])
  repeat' (first | (simp only [zP, jaf, jaa, jad, jae, seval, Nat.reduceLeDiff, h1, *]) | (simp only [jab]) | (with_reducible apply And.intro) | (with_reducible intro _))
def OwnI (H : ZH) (A B : ZB) (t : Nat) (l : List Int) (s' : ZS) (h' : ZH) : Prop := ∃ g X, s' t = .own (H.length + 2) g 0 l.length false ∧ h' = H ++ (A :: B :: .grow g 1 (l.map eI) :: X)
set_option maxHeartbeats 4000000 in
theorem reads_z {x : Rd} (hK : K (.fz 1 false ((jeI x).map eI)) H) : ZC (boxY tb) (jap Try.prog) 49 [.agg (eRd x)] L H K := by
 obtain ⟨op, a, b, c, n, e, kk, kn⟩ := x
 refine ZC.enterL ⟨[(5, [(0, 1)])], [], []⟩ (jan (by decide)) jkX (by simp) fun hL => ?_
 simp only [jgB]
 have HK := Lib.hid hK
 clear hK
 have l0 : L H.length = true := hL 0
 have l1 : L (H.length + 1) = true := hL 1
 have l2 : L (H.length + 2) = true := hL 2
 have a00 : ∀ A Y, (H ++ (A :: Y))[H.length]? = some A := fun A Y => atN0 rfl A Y
 have a1 : ∀ A B Y, (H ++ (A :: B :: Y))[H.length + 1]? = some B := fun A B Y => atN1 rfl A B Y
 have s1 : ∀ A B C Y, (H ++ (A :: B :: Y)).set (H.length + 1) C = H ++ (A :: C :: Y) := fun A B C Y => stN1 rfl A B C Y
 repeat' (first | (simp only [zP, jaf, jaa, jad, jae, seval, Nat.reduceLeDiff, l0, a00, *]) | (simp only [jab]) | (with_reducible apply And.intro) | (with_reducible intro _))
 refine of_z ?_
 have hrd := jmI op
 have hro : jeI (op, a, b, c, n, e, kk, kn) = (ofO op).1.rd.map (abc (op, a, b, c, n, e, kk, kn)) := rfl
 rw [hro] at HK
 clear hro
 generalize (ofO op).1 = f at HK hrd ⊢
 obtain ⟨rd, wr, lo, hi, nm, k2, ex⟩ := f
 simp only at HK hrd
 have HR := Lib.hid (jft rd hrd)
 clear hrd
 repeat' (first | (simp only [zP, jaf, jaa, jad, jae, seval, Nat.reduceLeDiff, l0, l1, a00, a1, s1, *]) | (simp only [jab]) | (with_reducible apply And.intro) | (with_reducible intro _))
 refine zW_str rfl ?_
 repeat' (first | (simp only [zP, jaf, jaa, jad, jae, seval, Nat.reduceLeDiff, l0, l1, a00, a1, s1, *]) | (simp only [jab]) | (with_reducible apply And.intro) | (with_reducible intro _))
 refine ⟨_, rfl, ?_⟩
 refine jje (G := ⟨[(5, [(0, 1)])], [], []⟩) (.inr ⟨_, rfl⟩) (fun k s' h' => OwnI H (.box (eRd (op, a, b, c, n, e, kk, kn))) (.box (eOF ⟨rd, wr, lo, hi, nm, k2, ex⟩)) 5 ((rd.take k).map (abc (op, a, b, c, n, e, kk, kn))) s' h') ⟨0, [.dead], rfl, by simp⟩ ?_ ?_
 ·rintro k p c2 s' h' hr ⟨g, X, e5, rfl⟩ hs
  have f1 := hs 1 (by decide)
  obtain ⟨hr1, hr2, hr3⟩ := HR.out
  rw [hr1, List.getElem?_map, List.getElem?_zipIdx] at hr
  have hkl : k < rd.length := by
   rcases Nat.lt_or_ge k rd.length with h | h
   ·exact h
   ·rw [List.getElem?_eq_none h] at hr; cases hr
  obtain ⟨j, hj⟩ : ∃ j, rd[k]? = some j := ⟨_, List.getElem?_eq_getElem hkl⟩
  have hj2 := hr2 j (List.mem_of_getElem? hj)
  rw [hj] at hr
  simp only [Option.map_some, Option.some.injEq, Prod.mk.injEq] at hr
  obtain ⟨rfl, rfl⟩ := hr
  have htk : (rd.take (k + 1)).map (abc (op, a, b, c, n, e, kk, kn)) = (rd.take k).map (abc (op, a, b, c, n, e, kk, kn)) ++ [abc (op, a, b, c, n, e, kk, kn) j] := by
   rw [List.take_succ_eq_append_getElem hkl, List.map_append]
   have : rd[k] = j := by rw [List.getElem?_eq_getElem hkl] at hj; injection hj
   rw [this]; rfl
  rw [htk]
  have hll : ((rd.take k).map (abc (op, a, b, c, n, e, kk, kn))).length ≤ 3 := by simp; omega
  generalize (rd.take k).map (abc (op, a, b, c, n, e, kk, kn)) = l at e5 hll ⊢
  have gC : ∀ A B C Y, (H ++ (A :: B :: C :: Y))[H.length + 2]? = some C := fun A B C Y => atN2 rfl A B C Y
  have sC : ∀ A B C D Y, (H ++ (A :: B :: C :: Y)).set (H.length + 2) D = H ++ (A :: B :: D :: Y) := fun A B C D Y => stN2 rfl A B C D Y
  have hle : (l.length + 1) * 8 ≤ jaN := by unfold jaN; omega
  have hkl2 : l.length ≤ (l.map eI).length := by simp
  simp only [jka]
  clear hr1 hr2 hr3 hs htk hj hkl hll
  rcases (by omega : j = 0 ∨ j = 1 ∨ j = 2) with rfl | rfl | rfl
  ·have b0 : binV .sub (.int .i32 ((65 : Nat) : Int)) (.int .i32 65) = some (.int .i32 0) := rfl
   have n0 : natZ (.val (.int .i32 0)) = some 0 := rfl
   repeat' (first | (simp only [zP, jaf, jaa, jad, jae, Nat.reduceLT, Nat.reduceBEq, reduceCtorEq, Nat.reduceEqDiff, reduceIte, Nat.reduceMul, Nat.reduceSub, Nat.reduceAdd, Nat.reduceLeDiff, l2, f1, e5, a00, gC, sC, hle, hkl2, b0, n0, *]) | (simp only [jab]) | (with_reducible apply And.intro) | (with_reducible intro _))
   exact ⟨g + 1, X, by simp [zupd], by first | (simp [abc]; done) | (rw [List.take_of_length_le (by simp)]; simp [abc])⟩
  ·have b0 : binV .sub (.int .i32 ((66 : Nat) : Int)) (.int .i32 65) = some (.int .i32 1) := rfl
   have n0 : natZ (.val (.int .i32 1)) = some 1 := rfl
   repeat' (first | (simp only [zP, jaf, jaa, jad, jae, Nat.reduceLT, Nat.reduceBEq, reduceCtorEq, Nat.reduceEqDiff, reduceIte, Nat.reduceMul, Nat.reduceSub, Nat.reduceAdd, Nat.reduceLeDiff, l2, f1, e5, a00, gC, sC, hle, hkl2, b0, n0, *]) | (simp only [jab]) | (with_reducible apply And.intro) | (with_reducible intro _))
   exact ⟨g + 1, X, by simp [zupd], by first | (simp [abc]; done) | (rw [List.take_of_length_le (by simp)]; simp [abc])⟩
  ·have b0 : binV .sub (.int .i32 ((67 : Nat) : Int)) (.int .i32 65) = some (.int .i32 2) := rfl
   have n0 : natZ (.val (.int .i32 2)) = some 2 := rfl
   repeat' (first | (simp only [zP, jaf, jaa, jad, jae, Nat.reduceLT, Nat.reduceBEq, reduceCtorEq, Nat.reduceEqDiff, reduceIte, Nat.reduceMul, Nat.reduceSub, Nat.reduceAdd, Nat.reduceLeDiff, l2, f1, e5, a00, gC, sC, hle, hkl2, b0, n0, *]) | (simp only [jab]) | (with_reducible apply And.intro) | (with_reducible intro _))
   exact ⟨g + 1, X, by simp [zupd], by first | (simp [abc]; done) | (rw [List.take_of_length_le (by simp)]; simp [abc])⟩
 ·rintro s' h' ⟨g, X, e5, rfl⟩ hs
  have htk : rd.take (jc7 (rdS rd)).length = rd := List.take_of_length_le (by rw [HR.out.1]; simp)
  rw [htk] at e5 ⊢
  have gC : ∀ A B C Y, (H ++ (A :: B :: C :: Y))[H.length + 2]? = some C := fun A B C Y => atN2 rfl A B C Y
  have fin : ∀ l, l = rd.map (abc (op, a, b, c, n, e, kk, kn)) → Fin H (.own (H.length + 2) g 0 l.length false) (H ++ (.box (eRd (op, a, b, c, n, e, kk, kn)) :: .box (eOF ⟨rd, wr, lo, hi, nm, k2, ex⟩) :: .grow g 1 (l.map eI) :: X)) K := fun l hl => by
   subst hl
   refine Fin.frz (k := 1) (rows := (rd.map (abc (op, a, b, c, n, e, kk, kn))).map eI) (gC _ _ _ _) (by simp) (jfy fun _ => rfl) ?_
   have e1 : (H ++ (.box (eRd (op, a, b, c, n, e, kk, kn)) :: .box (eOF ⟨rd, wr, lo, hi, nm, k2, ex⟩) :: .grow g 1 ((rd.map (abc (op, a, b, c, n, e, kk, kn))).map eI) :: X)).set (H.length + 2) .dead = _ := stN2 rfl _ _ _ _ _
   rw [e1]
   refine Fin.trunc (Mods.ext H _) rfl ?_
   rw [List.take_left, List.drop_zero, List.take_of_length_le (by simp)]; exact HK.out
  obtain ⟨l, hl⟩ : ∃ l, l = rd.map (abc (op, a, b, c, n, e, kk, kn)) := ⟨_, rfl⟩
  have fin2 := fin l hl
  rw [← hl] at e5 ⊢
  clear fin hs htk hl
  simp only [jgN]
  repeat' (first | (simp only [zP, jaf, jaa, jad, jae, seval, Nat.reduceLeDiff, e5, *]) | (simp only [jab]) | (with_reducible apply And.intro) | (with_reducible intro _))
end Go.Proofs.Ytmholkmghhkbhaa

namespace Go.Proofs.Ytmholkmghhkbhaa
open Go Go.RowKit
variable {tb : List (FuncId × Bool)} {L : Nat → Bool} {H : ZH} {K : ZV → ZH → Prop}
def jma (f : OF) (j : Nat) : Bool := (f.wr && j == 0) || (f.nm && j == 1) || f.rd.contains j
def jc4 (f : OF) (x : Rd) (i : Nat) : List Int := ((List.range i).filter fun j => !jma f j).map (abc x)
theorem jiT {f : OF} {x : Rd} {i : Nat} : jc4 f x (i + 1) = jc4 f x i ++ (if jma f i = true then [] else [abc x i]) := by
 unfold jc4
 rw [List.range_succ, List.filter_append, List.map_append]
 cases h : jma f i <;> simp [h]
theorem jgr {f : OF} {x : Rd} {i : Nat} : (jc4 f x i).length ≤ i := by
 unfold jc4
 rw [List.length_map]
 exact Nat.le_trans (List.length_filter_le _ _) (by simp)
def UsI (b : Bool) (W : ZH) (s' : ZS) (h' : ZH) : Prop := s' 8 = ZBo b ∧ h' = W
set_option maxHeartbeats 8000000 in
theorem idle_z {f : OF} {x : Rd} (hrd : f.rd ∈ rdL) (hK : K (.fz 1 false ((jc4 f x 3).map eI)) H) : ZC (boxY tb) (jap Try.prog) 59 [.agg (eOF f), .agg (eRd x)] L H K := by
 obtain ⟨op, a, b, c, n, e, kk, kn⟩ := x
 obtain ⟨rd, wr, lo, hi, nm, k2, ex⟩ := f
 have HR := Lib.hid (jft rd hrd)
 clear hrd
 refine ZC.enterL ⟨[(5, [(0, 1)])], [], []⟩ (jan (by decide)) jm3 (by simp) fun hL => ?_
 simp only [jh8]
 have HK := Lib.hid hK
 clear hK
 have l2 : L (H.length + 2) = true := hL 2
 have a00 : ∀ A Y, (H ++ (A :: Y))[H.length]? = some A := fun A Y => atN0 rfl A Y
 have a1 : ∀ A B Y, (H ++ (A :: B :: Y))[H.length + 1]? = some B := fun A B Y => atN1 rfl A B Y
 have gC : ∀ A B C Y, (H ++ (A :: B :: C :: Y))[H.length + 2]? = some C := fun A B C Y => atN2 rfl A B C Y
 have sC : ∀ A B C D Y, (H ++ (A :: B :: C :: Y)).set (H.length + 2) D = H ++ (A :: B :: D :: Y) := fun A B C D Y => stN2 rfl A B C D Y
 repeat' (first | (simp only [zP, jaf, jaa, jad, jae, seval, Nat.reduceLeDiff, a00, a1, *]) | (simp only [jab]) | (with_reducible apply And.intro) | (with_reducible intro _))
 refine jfg [(2, .ptr H.length 0), (3, .ptr (H.length + 1) 0), (17, .agg [Z64 a, Z64 b, Z64 c])] 3 (fun m s' h' => ∃ i, m = 3 - i ∧ i ≤ 3 ∧ s' 18 = Z64 (i : Nat) ∧ OwnI H (.box (eOF ⟨rd, wr, lo, hi, nm, k2, ex⟩)) (.box (eRd (op, a, b, c, n, e, kk, kn))) 5 (jc4 ⟨rd, wr, lo, hi, nm, k2, ex⟩ (op, a, b, c, n, e, kk, kn) i) s' h') (by repeat' (first | exact trivial | (refine ⟨rfl, ?_⟩) | (refine ⟨by simp only [jaE, Nat.reduceEqDiff, reduceIte]; assumption, ?_⟩))) rfl ⟨0, rfl, by omega, rfl, 0, [], rfl, by simp [jc4]⟩ ?_
 rintro m s' h' ⟨i, rfl, hi3, f18, g, X, f5, rfl⟩ ⟨f2, f3, f17, -⟩
 have hlen := jgr (f := ⟨rd, wr, lo, hi, nm, k2, ex⟩) (x := (op, a, b, c, n, e, kk, kn)) (i := i)
 have hsucc := jiT (f := ⟨rd, wr, lo, hi, nm, k2, ex⟩) (x := (op, a, b, c, n, e, kk, kn)) (i := i)
 by_cases hlt : i < 3
 ·have hle : ((jc4 ⟨rd, wr, lo, hi, nm, k2, ex⟩ (op, a, b, c, n, e, kk, kn) i).length + 1) * 8 ≤ jaN := by unfold jaN; omega
  have HS := Lib.hid hsucc
  clear hsucc hlen
  generalize jc4 ⟨rd, wr, lo, hi, nm, k2, ex⟩ (op, a, b, c, n, e, kk, kn) i = l at f5 hle HS ⊢
  have hkl2 : l.length ≤ (l.map eI).length := by simp
  have hI : ((i : Nat) : Int) < 3 := by omega
  have d0 : decide (((i : Nat) : Int) = 0) = (i == 0) := by by_cases h : i = 0 <;> simp [h]
  have d1 : decide (((i : Nat) : Int) = 1) = (i == 1) := by
   by_cases h : i = 1
   ·simp [h]
   ·rw [decide_eq_false (by omega)]; simp [h]
  obtain ⟨u, hu⟩ : ∃ u, u = ((wr && i == 0) || (nm && i == 1)) := ⟨_, rfl⟩
  have hub : jma ⟨rd, wr, lo, hi, nm, k2, ex⟩ i = (u || rd.contains i) := by rw [hu]; rfl
  have hc : (wr = true ∧ (i == 0) = true ∧ u = true) ∨ (wr = false ∧ nm = true ∧ (i == 1) = true ∧ u = true) ∨ (wr = true ∧ (i == 0) = false ∧ nm = true ∧ (i == 1) = true ∧ u = true) ∨ (wr = false ∧ nm = false ∧ u = false) ∨ (wr = false ∧ nm = true ∧ (i == 1) = false ∧ u = false) ∨ (wr = true ∧ (i == 0) = false ∧ nm = false ∧ u = false) ∨ (wr = true ∧ (i == 0) = false ∧ nm = true ∧ (i == 1) = false ∧ u = false) := by
   rw [hu]; cases wr <;> cases nm <;> cases (i == 0) <;> cases (i == 1) <;> simp
  have hii : ([Z64 a, Z64 b, Z64 c] : List ZV)[i]? = some (Z64 (abc (op, a, b, c, n, e, kk, kn) i)) := by
   rcases (by omega : i = 0 ∨ i = 1 ∨ i = 2) with rfl | rfl | rfl <;> rfl
  obtain ⟨ub, hube⟩ : ∃ ub, ub = jma ⟨rd, wr, lo, hi, nm, k2, ex⟩ i := ⟨_, rfl⟩
  have HS0 := HS.out
  rw [← hube] at hub HS0
  have HB := Lib.hid hub
  have HSS := Lib.hid HS0
  clear HS hube HS0
  have hadd : IntKind.i64.wrap ((i : Int) + 1) = ((i + 1 : Nat) : Int) := by rw [IntWalk.i64_in _ (by omega)]; rfl
  have hnext : ∃ m, m < 3 - i ∧ m = 3 - (i + 1) ∧ i + 1 ≤ 3 := ⟨3 - (i + 1), by omega, rfl, by omega⟩
  have HN := Lib.hid hnext
  clear hu hub hnext
  obtain ⟨A, hA⟩ : ∃ A, A = ZB.box (eOF ⟨rd, wr, lo, hi, nm, k2, ex⟩) := ⟨_, rfl⟩
  rw [← hA]
  have HA := Lib.hid hA
  clear hA
  have aA := fun Y => (a00 A Y).trans (congrArg some HA.out)
  have a1' := a1
  clear a00
  rcases hc with ⟨rfl, x1, hu⟩ | ⟨rfl, rfl, x1, hu⟩ | ⟨rfl, x0, rfl, x1, hu⟩ | ⟨rfl, rfl, hu⟩ | ⟨rfl, rfl, x1, hu⟩ | ⟨rfl, x0, rfl, hu⟩ | ⟨rfl, x0, rfl, x1, hu⟩
  all_goals
   have HUU := Lib.hid hu
   clear hu
   repeat' (first | (simp only [zP, jaf, jaa, jad, jae, seval, Nat.reduceLeDiff, aA, a1, f18, f17, f2, f3, hI, d0, d1, hii, hlt, *]) | (simp only [jab]) | (with_reducible apply And.intro) | (with_reducible intro _))
   refine zW_str rfl ?_
   repeat' (first | (simp only [zP, jaf, jaa, jad, jae, seval, Nat.reduceLeDiff, aA, a1, f18, f17, f2, f3, *]) | (simp only [jab]) | (with_reducible apply And.intro) | (with_reducible intro _))
   refine ⟨_, rfl, ?_⟩
   refine jje (G := ⟨[(5, [(0, 1)])], [], []⟩) (.inr ⟨_, rfl⟩) (fun k s2 h2 => UsI (u || (rd.take k).contains i) (H ++ (A :: .box (eRd (op, a, b, c, n, e, kk, kn)) :: .grow g 1 (l.map eI) :: (X ++ [.dead]))) s2 h2) ⟨by rw [HUU.out]; rfl, by simp⟩ ?_ ?_
   ·rintro k p c2 s2 h2 hr ⟨e8, rfl⟩ hs
    have f6 : s2 6 = Z64 ((i : Nat) : Int) := (hs 6 (by decide)).trans rfl
    obtain ⟨hr1, hr2, hr3⟩ := HR.out
    rw [hr1, List.getElem?_map, List.getElem?_zipIdx] at hr
    have hkl : k < rd.length := by
     rcases Nat.lt_or_ge k rd.length with h | h
     ·exact h
     ·rw [List.getElem?_eq_none h] at hr; cases hr
    obtain ⟨j, hj⟩ : ∃ j, rd[k]? = some j := ⟨_, List.getElem?_eq_getElem hkl⟩
    have hj2 := hr2 j (List.mem_of_getElem? hj)
    rw [hj] at hr
    simp only [Option.map_some, Option.some.injEq, Prod.mk.injEq] at hr
    obtain ⟨rfl, rfl⟩ := hr
    have htk : (u || (rd.take (k + 1)).contains i) = ((u || (rd.take k).contains i) || (i == j)) := by
     rw [List.take_succ_eq_append_getElem hkl]
     have : rd[k] = j := by rw [List.getElem?_eq_getElem hkl] at hj; injection hj
     have hbd : (i == j) = decide (i = j) := by by_cases h : i = j <;> simp [h]
     rw [this, hbd]
     simp [Bool.or_assoc]
    rw [htk]
    obtain ⟨bb, hbb⟩ : ∃ bb, bb = (u || (rd.take k).contains i) := ⟨_, rfl⟩
    rw [← hbb] at e8 ⊢
    have b0 : binV .sub (.int .i32 ((65 + j : Nat) : Int)) (.int .i32 65) = some (.int .i32 (j : Int)) := by
     rcases (by omega : j = 0 ∨ j = 1 ∨ j = 2) with rfl | rfl | rfl <;> rfl
    have b1 : IntKind.i64.wrap (j : Int) = (j : Int) := IntWalk.i64_in _ (by omega)
    have b2 : decide ((j : Int) = (i : Int)) = (i == j) := by
     by_cases h : i = j
     ·simp [h]
     ·rw [decide_eq_false (by omega)]; simp [h]
    clear hr1 hr2 hr3 hs htk hj hkl hbb
    simp only [jka]
    cases bb with
    | true =>
     repeat' (first | (simp only [zP, jaf, jaa, jad, jae, seval, Nat.reduceLeDiff, e8, f6, *]) | (simp only [jab]) | (with_reducible apply And.intro) | (with_reducible intro _))
     exact ⟨rfl, rfl⟩
    | false =>
     repeat' (first | (simp only [zP, jaf, jaa, jad, jae, seval, Nat.reduceLeDiff, e8, f6, b0, b1, b2, *]) | (simp only [jab]) | (with_reducible apply And.intro) | (with_reducible intro _))
     exact ⟨by simp [zupd], rfl⟩
   ·rintro s2 h2 ⟨e8, rfl⟩ hs
    have g5 : s2 5 = .own (H.length + 2) g 0 l.length false := (hs 5 (by decide)).trans (by simp [zupd]; exact f5)
    have g18 : s2 18 = Z64 ((i : Nat) : Int) := (hs 18 (by decide)).trans (by simp [zupd]; exact f18)
    have g7 : s2 7 = Z64 (abc (op, a, b, c, n, e, kk, kn) i) := (hs 7 (by decide)).trans (by simp [zupd])
    have hlr : (jc7 (rdS rd)).length = rd.length := by rw [HR.out.1]; simp
    rw [hlr, List.take_length, ← HB.out] at e8
    have HS3 := HSS
    clear hs hlr HB HSS HA
    simp only [jgN]
    cases ub with
    | true =>
     repeat' (first | (simp only [zP, jaf, jaa, jad, jae, seval, Nat.reduceLeDiff, e8, g18, hadd, *]) | (simp only [jab]) | (with_reducible apply And.intro) | (with_reducible intro _))
     refine ⟨3 - (i + 1), by omega, i + 1, rfl, by omega, rfl, ?_⟩
     rw [HS3.out, if_pos rfl, List.append_nil]
     exact ⟨g, X ++ [.dead], by simp [zupd]; exact g5, rfl⟩
    | false =>
     repeat' (first | (simp only [zP, jaf, jaa, jad, jae, seval, Nat.reduceLeDiff, e8, g18, g5, g7, hadd, gC, sC, hle, hkl2, l2, *]) | (simp only [jab]) | (with_reducible apply And.intro) | (with_reducible intro _))
     refine ⟨3 - (i + 1), by omega, i + 1, rfl, by omega, rfl, ?_⟩
     rw [HS3.out, if_neg Bool.false_ne_true]
     exact ⟨g + 1, X ++ [.dead], by simp [zupd], by first | (rw [List.take_of_length_le (by simp)]; simp; done) | (simp; done)⟩
 ·have h3 : i = 3 := by omega
  subst h3
  have hI : ¬ (((3 : Nat) : Int) < 3) := by omega
  obtain ⟨l, hl⟩ : ∃ l, l = jc4 ⟨rd, wr, lo, hi, nm, k2, ex⟩ (op, a, b, c, n, e, kk, kn) 3 := ⟨_, rfl⟩
  rw [← hl] at f5 HK
  rw [← hl]
  have fin : Fin H (.own (H.length + 2) g 0 l.length false) (H ++ (.box (eOF ⟨rd, wr, lo, hi, nm, k2, ex⟩) :: .box (eRd (op, a, b, c, n, e, kk, kn)) :: .grow g 1 (l.map eI) :: X)) K := by
   refine Fin.frz (k := 1) (rows := l.map eI) (gC _ _ _ _) (by simp) (jfy fun _ => rfl) ?_
   have e1 : (H ++ (.box (eOF ⟨rd, wr, lo, hi, nm, k2, ex⟩) :: .box (eRd (op, a, b, c, n, e, kk, kn)) :: .grow g 1 (l.map eI) :: X)).set (H.length + 2) .dead = _ := stN2 rfl _ _ _ _ _
   rw [e1]
   refine Fin.trunc (Mods.ext H _) rfl ?_
   rw [List.take_left, List.drop_zero, List.take_of_length_le (by simp)]; exact HK.out
  clear hl hsucc hlen
  repeat' (first | (simp only [zP, jaf, jaa, jad, jae, seval, Nat.reduceLeDiff, f18, f5, hI, *]) | (simp only [jab]) | (with_reducible apply And.intro) | (with_reducible intro _))
end Go.Proofs.Ytmholkmghhkbhaa
