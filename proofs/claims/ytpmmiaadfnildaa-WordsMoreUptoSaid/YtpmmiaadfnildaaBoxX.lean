/-
  nanbox's Box and Unbox, walked before, as known calls.
-/
import Derived.Test.YtpmmiaadfnildaaZmQ
import Derived.Test.YtpmmiaadfnildaaNan
namespace Go.Proofs.Ytpmmiaadfnildaa
open Go Go.RowKit
set_option linter.unusedVariables false
set_option linter.unusedSimpArgs false

def boxX (l : List (FuncId × Bool)) : CallT := fun f args fl h => match args with
  | [.agg [.val (.int .i64 k), .val (.int .i64 n)]] => if f = 31 then some (.tuple [.val (.int .u64 (boxW k n)), I64 (boxE k n)], h) else none
  | [.val (.int .u64 u)] => if f = 62 ∧ 0 ≤ u ∧ u < 18446744073709551616 then some (.tuple [.agg [I64 (unKind u), I64 (unNum u)], I64 (unE u)], h) else none
  | [] => constX l f [] fl h
  | _ => none
theorem ints_vr {m : Map} {k : IntKind} {n : Int} {v : Value} (h : VR m (.val (.int k n)) v) : v = .int k n := h.lit
theorem boxX_ok {l : List (FuncId × Bool)} (hc : CallOk Try.prog (constX l)) : CallOk Try.prog (boxX l) := by
  intro f args fl h v h' he
  unfold boxX at he
  split at he
  · rename_i k n
    split at he
    · rename_i hf
      subst hf
      injection he with he; injection he with e1 e2; subst e1; subst e2
      have hb : (Try.f31.body).isSome = true := by kernel_rfl
      obtain ⟨c, hc'⟩ := Option.isSome_iff_exists.1 hb
      refine ⟨⟨Try.f31, c, Try.func31, by kernel_rfl, hc'⟩, fun n0 B0 m w vals r hfl hv => ?_⟩
      have hvals : vals = #[.agg #[.int .i64 k, .int .i64 n]] := by
        obtain ⟨hl, hg⟩ := hv
        match hvl : vals.toList, hl, hg with
        | [x], _, hg =>
          have := hg 0 _ x rfl rfl
          obtain ⟨vs, rfl, h2⟩ := VRs.of_agg this
          match hvs : vs.toList, h2 with
          | [a, b], h2 =>
            have ha := ints_vr (h2.2 0 _ a rfl rfl)
            have hb := ints_vr (h2.2 1 _ b rfl rfl)
            subst ha; subst hb
            have e1 : vs = #[.int .i64 k, .int .i64 n] := by apply Array.ext'; simpa using hvs
            subst e1
            apply Array.ext'; simpa using hvl
          | [], h2 => have := h2.1; simp at this
          | [_], h2 => have := h2.1; simp at this
          | _ :: _ :: _ :: _, h2 => have := h2.1; simp at this
      subst hvals
      refine (box_any k n w).mono fun e W' hp => ?_
      obtain ⟨rfl, hbl⟩ := hp
      refine ⟨_, m, rfl, Post.below r hbl, ?_⟩
      exact VRs.tuple (vs := #[.int .u64 (boxW k n), .int .i64 (boxE k n)]) (.cons (.val rfl) (.cons (.val rfl) .nil))
    · cases he
  · rename_i u
    split at he
    · rename_i hf
      obtain ⟨hf, h0, h1⟩ := hf
      subst hf
      injection he with he; injection he with e1 e2; subst e1; subst e2
      have hb : (Try.f62.body).isSome = true := by kernel_rfl
      obtain ⟨c, hc'⟩ := Option.isSome_iff_exists.1 hb
      refine ⟨⟨Try.f62, c, Try.func62, by kernel_rfl, hc'⟩, fun n0 B0 m w vals r hfl hv => ?_⟩
      have hvals : vals = #[.int .u64 u] := by
        obtain ⟨hl, hg⟩ := hv
        match hvl : vals.toList, hl, hg with
        | [x], _, hg =>
          have hx := ints_vr (hg 0 _ x rfl rfl)
          subst hx
          apply Array.ext'; simpa using hvl
      subst hvals
      refine (unbox_any u w h0 h1).mono fun e W' hp => ?_
      obtain ⟨rfl, hbl⟩ := hp
      refine ⟨_, m, rfl, Post.below r hbl, ?_⟩
      refine VRs.tuple (vs := #[.agg #[.int .i64 (unKind u), .int .i64 (unNum u)], .int .i64 (unE u)]) (.cons ?_ (.cons (.val rfl) .nil))
      exact VRs.agg (vs := #[.int .i64 (unKind u), .int .i64 (unNum u)]) (.cons (.val rfl) (.cons (.val rfl) .nil))
    · cases he
  · exact hc _ _ _ _ _ _ he
  · cases he
variable {tb : List (FuncId × Bool)} {L : Nat → Bool} {H : ZH} {K : ZV → ZH → Prop}
theorem boxX_none {f : FuncId} {z : ZV} {zs : List ZV} (hf : f ≠ 31 ∧ f ≠ 62) : ∀ (args : List AV) (fl : Nat → Bool) (hp : Heap), args.length = (z :: zs).length → boxX tb f args fl hp = none := fun args fl hp ha => by
  unfold boxX
  split
  · rw [if_neg hf.1]
  · rw [if_neg (fun h => hf.2 h.1)]
  · simp at ha
  · rfl
theorem boxX_some {f : FuncId} {b : Bool} (h : tb.lookup f = some b) : ∀ (args : List AV) (fl : Nat → Bool) (hp : Heap), args.length = ([] : List ZV).length → boxX tb f args fl hp = some (.val (.bool b), hp) := fun args fl hp ha => by
  have : args = [] := List.eq_nil_of_length_eq_zero ha
  subst this
  simp [boxX, constX, h]
theorem box_z {k n : Int} (hK : K (.tuple [.val (.int .u64 (boxW k n)), Z64 (boxE k n)]) H) : ZC (boxX tb) (cFunc Try.prog) 31 [.agg [Z64 k, Z64 n]] L H K := by
  intro fl w args r e ha
  subst e
  obtain ⟨a, ha0, ha1⟩ := ha.get (i := 0) rfl
  obtain ⟨ys, rfl, hys⟩ := ha1.agg_inv
  have e1 : ys = [I64 k, I64 n] := by
    have h1 := hys.1
    match ys, h1, hys with
    | [x, y], _, hys => rw [(hys.2 0 _ x rfl rfl).val_inv, (hys.2 1 _ y rfl rfl).val_inv]
  have e2 : args = [.agg ys] := by
    have := ha.1
    match args, this, ha0 with
    | [x], _, hv0 => simp at hv0; rw [hv0]
  subst e1; subst e2
  refine AC.const (v := .tuple [.val (.int .u64 (boxW k n)), I64 (boxE k n)]) (h' := w.h) (by simp [boxX]) ⟨_, w, rfl, r, Ext.refl w, ?_, hK⟩
  exact ZRs.toTuple (.cons (.fr (.val _)) (.cons (.fr (.val _)) .nil))
theorem unbox_z {u : Int} (h0 : 0 ≤ u ∧ u < 18446744073709551616) (hK : K (.tuple [.agg [Z64 (unKind u), Z64 (unNum u)], Z64 (unE u)]) H) : ZC (boxX tb) (cFunc Try.prog) 62 [.val (.int .u64 u)] L H K := by
  intro fl w args r e ha
  subst e
  obtain ⟨a, ha0, ha1⟩ := ha.get (i := 0) rfl
  have ea := ha1.val_inv
  subst ea
  have e2 : args = [.val (.int .u64 u)] := by
    have := ha.1
    match args, this, ha0 with
    | [x], _, hv0 => simp at hv0; rw [hv0]
  subst e2
  refine AC.const (v := .tuple [.agg [I64 (unKind u), I64 (unNum u)], I64 (unE u)]) (h' := w.h) (by simp [boxX, h0]) ⟨_, w, rfl, r, Ext.refl w, ?_, hK⟩
  exact ZRs.toTuple (.cons (ZRs.toAgg (.cons (.fr (.val _)) (.cons (.fr (.val _)) .nil))) (.cons (.fr (.val _)) .nil))
end Go.Proofs.Ytpmmiaadfnildaa
