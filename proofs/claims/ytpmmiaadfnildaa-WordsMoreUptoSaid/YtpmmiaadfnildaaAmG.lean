/-
  AM and the program's machine: slices, append, copy.
-/
import Derived.Test.YtpmmiaadfnildaaAmF
import Derived.IntWalk
namespace Go.Proofs.Ytpmmiaadfnildaa
open Go
set_option linter.unusedVariables false
set_option linter.unusedSimpArgs false
section
variable {n0 B0 : Nat} {P : Program} {m : Map} {h : Heap} {w : World} {fl : Nat → Bool}
variable {ρ : Operand → Value} {s : Slots} {x y z : Operand} {x' y' z' : Opd} {d : Option Tmp} {ty : TypeId} {pos : String} {af : Array Edge} {gd : Option (Nat × Bool)}

theorem run_sliceBound {v : Value} {k : IntKind} {n b : Nat} {c : BoundsCode} (hv : v = .int k n) (hn : n ≤ b) : (Instr.sliceBound v b c).run P w = .ok n w := by
  subst hv
  have : (n : Int) ≤ (b : Int) := by omega
  simp [Instr.sliceBound, asIntOf, this, hn]

theorem run_sliceBounds {len cap l u mm : Nat} {lo hi mx : Option Value} (hlo : (lo = none ∧ l = 0) ∨ ∃ k v, lo = some v ∧ v = .int k l) (hhi : (hi = none ∧ mx = none ∧ u = len) ∨ ∃ k v, hi = some v ∧ v = .int k u) (hmx : (mx = none ∧ mm = cap) ∨ ∃ k v, mx = some v ∧ v = .int k mm)
    (h1 : l ≤ u) (h2 : u ≤ mm) (h3 : mm ≤ cap) : (Instr.sliceBounds true len cap lo hi mx).run P w = .ok (l, u, mm) w := by
  rcases hmx with ⟨rfl, rfl⟩ | ⟨k, v, rfl, hv⟩
  · rcases hhi with ⟨rfl, _, rfl⟩ | ⟨k, v, rfl, hv⟩
    · rcases hlo with ⟨rfl, rfl⟩ | ⟨k, v, rfl, hv⟩
      · simp [Instr.sliceBounds]
      · simp [Instr.sliceBounds, run_sliceBound hv h1]
    · rcases hlo with ⟨rfl, rfl⟩ | ⟨k, v', rfl, hv'⟩
      · simp [Instr.sliceBounds, run_sliceBound hv h2]
      · simp [Instr.sliceBounds, run_sliceBound hv h2, run_sliceBound hv' h1]
  · rcases hhi with ⟨rfl, h4, rfl⟩ | ⟨k, v', rfl, hv'⟩
    · cases h4
    · rcases hlo with ⟨rfl, rfl⟩ | ⟨k, v'', rfl, hv''⟩
      · simp [Instr.sliceBounds, run_sliceBound hv h3, run_sliceBound hv' h2]
      · simp [Instr.sliceBounds, run_sliceBound hv h3, run_sliceBound hv' h2, run_sliceBound hv'' h1]

/-- An operand that may be missing. -/
def OptR (m : Map) (s : Slots) (ρ : Operand → Value) (x : Option Operand) (x' : Option Opd) : Prop := (x = none ∧ x' = none) ∨ ∃ a a', x = some a ∧ x' = some a' ∧ VR m (a'.ev s) (ρ a)

theorem num_opt {lo : Option Operand} {lo' : Option Opd} (hr : OptR m s ρ lo lo') {dflt l : Nat} (hl : (match lo'.map (·.ev s) with | none => some dflt | some v => natOfA v) = some l) :
    (lo = none ∧ lo' = none ∧ l = dflt) ∨ ∃ k v, lo.map ρ = some v ∧ v = .int k l := by
  rcases hr with ⟨rfl, rfl⟩ | ⟨a, a', rfl, rfl, hv⟩
  · simp at hl; exact .inl ⟨rfl, rfl, hl.symm⟩
  · simp only [Option.map_some] at hl
    obtain ⟨k, hk⟩ := natOf_int hl hv
    exact .inr ⟨k, _, rfl, hk⟩

theorem sim_slice (r : Rels n0 B0 m h w) {t : TypeId} {k bytes : Nat} {zs : List AV} (ht : elemT P t = some (k, bytes, zs)) {lo hi mx : Option Operand} {lo' hi' mx' : Option Opd} (hmh : mx = none ∨ hi ≠ none)
    (hx : VR m (x'.ev s) (ρ x)) (hlo : OptR m s ρ lo lo') (hhi : OptR m s ρ hi hi') (hmx : OptR m s ρ mx mx') {v : AV} {h' : Heap} {top} (he : opEval top fl s h (.slice k x' lo' hi' mx') = some (v, h')) :
    Sim P n0 B0 fl m h w ρ ⟨d, .slice t x lo hi mx, ty, pos, af, gd⟩ v h' := by
  obtain ⟨e, i, hu, hi0, hk, _, hk0, _, _, _⟩ := elemT_spec ht
  have hsz : sizeT P e = some k := by simp [sizeT, hi0, hk]
  simp only [opEval] at he
  split at he
  · rename_i v0 hv
    injection he with he; injection he with he1 he2; subst he1; subst he2
    unfold sliceA at hv
    simp only at hv
    split at hv
    · rename_i hp
      rw [hp] at hx
      split at hv
      · rename_i h1 h2 h3
        injection hv with hv; subst hv
        have e1 := num_opt hlo h1
        have e2 := num_opt hhi h2
        have e3 := num_opt hmx h3
        refine sim_pure r (v' := .slice none 0 0) ?_ (by rw [hp]; exact .val rfl)
        have hb := run_sliceBounds (P := P) (w := w) (len := 0) (cap := 0) (l := 0) (u := 0) (mm := 0) (lo := lo.map ρ) (hi := hi.map ρ) (mx := mx.map ρ)
          (by rcases e1 with ⟨rfl, _, _⟩ | h; exact .inl ⟨rfl, rfl⟩; exact .inr h) (by
            rcases e2 with ⟨rfl, _, _⟩ | h
            · rcases hmh with rfl | h0
              · exact .inl ⟨rfl, rfl, rfl⟩
              · exact absurd rfl h0
            · exact .inr h)
          (by rcases e3 with ⟨rfl, _, _⟩ | h; exact .inl ⟨rfl, rfl⟩; exact .inr h) (by omega) (by omega) (by omega)
        simp [execOp, hx.lit, Instr.sliceAt, run_under hu, Instr.slice, hb, run_sizeOf_of hsz]
      · cases hv
    · rename_i hp
      rw [hp] at hx
      split at hv
      · rename_i h1 h2 h3
        injection hv with hv; subst hv
        have e1 := num_opt hlo h1
        have e2 := num_opt hhi h2
        have e3 := num_opt hmx h3
        generalize hq : ρ x = xv at hx
        cases hx with
        | hole =>
          rename_i ad c
          obtain ⟨M, hM, hM2⟩ : ∃ M, ((mx.map ρ = none ∧ M = c) ∨ ∃ k v, mx.map ρ = some v ∧ v = .int k M) ∧ M ≤ c := by
            rcases e3 with ⟨rfl, _, _⟩ | ⟨k, v, h0, h4⟩
            · exact ⟨c, .inl ⟨rfl, rfl⟩, Nat.le_refl _⟩
            · exact ⟨0, .inr ⟨k, v, h0, h4⟩, Nat.zero_le _⟩
          have hbd := run_sliceBounds (P := P) (w := w) (len := 0) (cap := c) (l := 0) (u := 0) (mm := M) (lo := lo.map ρ) (hi := hi.map ρ) (mx := mx.map ρ)
            (by rcases e1 with ⟨rfl, _, _⟩ | h; exact .inl ⟨rfl, rfl⟩; exact .inr h) (by
              rcases e2 with ⟨rfl, _, _⟩ | h
              · rcases hmh with rfl | h0
                · exact .inl ⟨rfl, rfl, rfl⟩
                · exact absurd rfl h0
              · exact .inr h) hM (by omega) (by omega) hM2
          refine sim_pure r (v' := .slice (some ad) 0 M) ?_ (by rw [hp]; exact .hole)
          simp [execOp, hq, Instr.sliceAt, run_under hu, Instr.slice, hbd, run_sizeOf_of hsz]
          intro _
          unfold Addr.add
          simp
      · cases hv
    · rename_i id off len lb ex k' hp
      rw [hp] at hx
      split at hv
      · rename_i l u mm h1 h2 h3
        split at hv
        · rename_i hc
          obtain ⟨hkk, hlu, hum, hml⟩ := hc
          have hkk := hkk.symm
          subst hkk
          injection hv with hv; subst hv
          generalize hq : ρ x = xv at hx
          cases hx with
          | slice hb ho hh1 hh2 hh3 hh4 =>
            rename_i b o c
            have e1 := num_opt hlo h1
            have e2 := num_opt hhi h2
            have e3 := num_opt hmx h3
            obtain ⟨M, hM, hM1, hM2, hM3⟩ : ∃ M, ((mx.map ρ = none ∧ M = c) ∨ ∃ k v, mx.map ρ = some v ∧ v = .int k M) ∧ mm ≤ M ∧ M ≤ c ∧ ((ex || mx'.isSome) = true → M = mm) := by
              rcases hmx with ⟨rfl, rfl⟩ | ⟨a, a', rfl, rfl, hva⟩
              · rcases e3 with ⟨_, _, rfl⟩ | ⟨k, v, h0, _⟩
                · exact ⟨c, .inl ⟨rfl, rfl⟩, hh2, Nat.le_refl _, fun h0 => hh3 (by simpa using h0)⟩
                · cases h0
              · rcases e3 with ⟨h0, _, _⟩ | ⟨k, v, h0, h4⟩
                · cases h0
                · exact ⟨mm, .inr ⟨k, v, h0, h4⟩, Nat.le_refl _, by omega, fun _ => rfl⟩
            have hbd := run_sliceBounds (P := P) (w := w) (len := len) (cap := c) (l := l) (u := u) (mm := M) (lo := lo.map ρ) (hi := hi.map ρ) (mx := mx.map ρ)
              (by rcases e1 with ⟨rfl, _, rfl⟩ | h; exact .inl ⟨rfl, rfl⟩; exact .inr h) (by
                rcases e2 with ⟨rfl, _, rfl⟩ | h
                · rcases hmh with rfl | h0
                  · exact .inl ⟨rfl, rfl, rfl⟩
                  · exact absurd rfl h0
                · exact .inr h) hM hlu (by omega) hM2
            have hmul : o + c * k ≤ b.room := hh4
            have hMc : M * k ≤ c * k := Nat.mul_le_mul_right _ hM2
            refine sim_pure r (v' := .slice (some ⟨b.b, b.off + (if M = l then o else o + l * k), none⟩) (u - l) (M - l)) ?_
              (.slice hb ?_ (by omega) (by omega) (fun h0 => by rw [hM3 (by simpa using h0)]) ?_)
            · simp [execOp, hq, Instr.sliceAt, run_under hu, Instr.slice, hbd, run_sizeOf_of hsz]
              split <;> simp [add_spot, Nat.add_assoc]
            · intro h0
              rw [if_neg (by omega), ho (by omega)]
            · split
              · rename_i h0; subst h0; simp; omega
              · have : l * k + (M - l) * k = M * k := by rw [← Nat.add_mul]; congr 1; omega
                omega
        · cases hv
      · cases hv
    · cases hv
  · cases he

theorem flat_get (z : List AV) (k : Nat) (hk : z.length = k) (hk0 : 0 < k) : ∀ (l i : Nat), i < l * k → (List.replicate l z).flatten[i]? = z[i % k]?
  | 0, i, hi => by simp at hi
  | l + 1, i, hi => by
    rw [List.replicate_succ, List.flatten_cons]
    by_cases h1 : i < k
    · rw [List.getElem?_append_left (by omega), Nat.mod_eq_of_lt h1]
    · rw [List.getElem?_append_right (by omega), hk, flat_get z k hk hk0 l (i - k) (by rw [Nat.add_mul] at hi; omega), ← Nat.mod_eq_sub_mod (show i ≥ k by omega)]
theorem flat_len (z : List AV) (l : Nat) : (List.replicate l z).flatten.length = l * z.length := by simp

theorem sim_mkSlice (r : Rels n0 B0 m h w) {t : TypeId} {k bytes : Nat} {zs : List AV} (ht : elemT P t = some (k, bytes, zs)) (hx : VR m (x'.ev s) (ρ x)) (hy : VR m (y'.ev s) (ρ y)) {v : AV} {h' : Heap} {top} (he : opEval top fl s h (.mkSlice k bytes zs x' y') = some (v, h')) :
    Sim P n0 B0 fl m h w ρ ⟨d, .makeSlice t x y, ty, pos, af, gd⟩ v h' := by
  obtain ⟨e, i, hu, hi, hk, hby, hk0, hb0, hz, hzl⟩ := elemT_spec ht
  have hsz : sizeT P e = some k := by simp [sizeT, hi, hk]
  obtain ⟨zv, h1, h2, hz3⟩ := run_zeroValue_of (P := P) (w := w) hz
  simp only [opEval] at he
  split at he
  · rename_i l c hl hc
    obtain ⟨k1, hl⟩ := natOf_int hl hx
    obtain ⟨k2, hc⟩ := natOf_int hc hy
    split at he
    · rename_i hcond
      obtain ⟨hlc, hreach⟩ := hcond
      injection he with he; injection he with he1 he2; subst he1; subst he2
      unfold reach at hreach
      have hcb : c ≤ c * bytes := Nat.le_mul_of_pos_right _ hb0
      have w0 : IntKind.i64.wrap 0 = 0 := IntWalk.i64_in _ (by omega)
      have w1 : IntKind.i64.wrap (l : Int) = l := IntWalk.i64_in _ (by omega)
      have w2 : IntKind.i64.wrap (c : Int) = c := IntWalk.i64_in _ (by omega)
      have hprod : (bytes : Int) * (c : Int) = ((c * bytes : Nat) : Int) := by rw [Nat.mul_comm]; simp
      have t1 : ¬ ((281474976710656 : Int) < (bytes : Int) * (c : Int)) := by rw [hprod]; omega
      have t2 : ¬ ((c : Int) < (l : Int)) := by omega
      have t3 : ¬ (roomBytes < c * bytes) := by unfold roomBytes; omega
      have hz0 := getElem!_mod zv.cells zs (h2 m) k hk0 hzl (c * k)
      have hlk : l * k ≤ c * k := Nat.mul_le_mul_right _ hlc
      have harr : ((Array.range (c * k)).map (fun i => zv.cells[i % zv.cells.size]!)).size = c * k := by simp
      refine ⟨.slice (some ⟨w.heap.size, 0, none⟩) l c, w.alloc (.cells ((Array.range (c * k)).map (fun i => zv.cells[i % zv.cells.size]!)) e), mset m h.length ⟨w.heap.size, 0, c * k⟩, .inl ?_,
        post_alloc r _ _ e (c * k) (fun x hx => by
          obtain ⟨l0, hl0, hx⟩ := List.mem_flatten.1 hx
          rw [List.eq_of_mem_replicate hl0] at hx
          exact hz3 x hx) (by rw [flat_len, hzl]; exact hlk) (by rw [harr]; exact Nat.le_refl _) (fun j a ha => ?_),
        VR.slice (b := ⟨w.heap.size, 0, c * k⟩) (o := 0) (by simp [mset]) (fun _ => rfl) (Nat.le_refl _) hlc (fun h0 => by simp at h0; exact h0.symm) (by simp)⟩
      · by_cases h0 : c = 0
        · subst h0
          obtain rfl : l = 0 := by omega
          have e1 : ∀ f : Nat → Value, Array.map f (Array.range 0) = #[] := fun f => by simp
          simp [execOp, hl, hc, Instr.makeSlice, run_under hu, asInt, asIntOf, run_typeInfo_of hi, w0, askRoom, roomBytes, run_sizeOf_of hsz, e1, newRow]
        · have h0' : ¬ (c * k = 0) := by
            intro h3
            rcases Nat.mul_eq_zero.1 h3 with h3 | h3 <;> omega
          simp [execOp, hl, hc, Instr.makeSlice, run_under hu, asInt, asIntOf, run_typeInfo_of hi, hby, w1, w2, t1, t2, askRoom, t3, run_sizeOf_of hsz, h0', h0, h1, newRow, show ¬ k = 0 by omega]
          intro hneg
          exfalso
          omega
      · have hj : j < l * k := by
          have := (List.getElem?_eq_some_iff.1 ha).1
          rw [flat_len, hzl] at this; exact this
        rw [flat_get zs k hzl hk0 l j hj] at ha
        have hg : ((List.range (c * k)).map fun i => zs.getD (i % k) .no)[j]? = some a := by
          rw [List.getElem?_map, List.getElem?_range (by omega)]
          simp [List.getD, ha]
        obtain ⟨y, hy, hr⟩ := hz0.get hg
        exact ⟨y, by rw [← Array.getElem?_toList]; exact hy, hr⟩
    · cases he
  · cases he

theorem opds_spec {l : List Operand} {l' : List Opd} (hl : opds l = some l') (hs : ∀ a ∈ l, ∀ z, cOpd a = some z → VR m (z.ev s) (ρ a)) : VRs m (l'.map (·.ev s)) (l.map ρ) := by
  induction l generalizing l' with
  | nil => simp [opds] at hl; subst hl; exact .nil
  | cons a l ih =>
    simp only [opds, List.mapM_cons, Option.pure_def, Option.bind_eq_bind, Option.bind_eq_some_iff, Option.some.injEq] at hl
    obtain ⟨z, hz, l'', hl', rfl⟩ := hl
    exact .cons (hs a (by simp) z hz) (ih hl' (fun b hb => hs b (by simp [hb])))

theorem sim_func (r : Rels n0 B0 m h w) {f : FuncId} {caps : Array Operand} {caps' : List Opd} (hl : opds caps.toList = some caps') (hs : ∀ a ∈ caps.toList, ∀ z, cOpd a = some z → VR m (z.ev s) (ρ a)) {v : AV} {h' : Heap} {top} (he : opEval top fl s h (.func f caps') = some (v, h')) :
    Sim P n0 B0 fl m h w ρ ⟨d, .makeFunc (.func f) #[] caps, ty, pos, af, gd⟩ v h' := by
  simp only [opEval] at he
  injection he with he; injection he with he1 he2; subst he1; subst he2
  refine sim_pure r (v' := .func (.func f) #[] (caps.map ρ)) ?_ (VRs.func (by simpa using opds_spec hl hs))
  simp [execOp, Instr.makeFunc]

/-- A builtin's call. -/
theorem exec_builtin {b : Builtin} {args : Array Operand} {at_ : Array TypeId} {f : Sem Value} (hb : ∀ consts, builtin b at_ ty consts (args.map ρ) = (do pure (.value (← f)))) :
    (execOp ρ ⟨d, .call { callee := .builtin b, args := args, argTypes := at_ }, ty, pos, af, gd⟩).run P w = (f.run P w).andThen fun v w' => .ok (.value v) w' := by
  simp only [execOp, resolve, Sem.run_bind, Sem.run_pure, Result.andThen_ok, invoke, hb]

theorem sim_len (r : Rels n0 B0 m h w) {t e : TypeId} (hu : P.underlying t = some (.slice e)) (hx : VR m (x'.ev s) (ρ x)) {v : AV} {h' : Heap} {top} (he : opEval top fl s h (.len x') = some (v, h')) :
    Sim P n0 B0 fl m h w ρ ⟨d, .call { callee := .builtin .len, args := #[x], argTypes := #[t] }, ty, pos, af, gd⟩ v h' := by
  simp only [opEval] at he
  split at he
  · rename_i hp
    rw [hp] at hx
    injection he with he; injection he with he1 he2; subst he1; subst he2
    refine sim_pure r (v' := .int .i64 0) ?_ (.val rfl)
    rw [exec_builtin (f := Builtin.len_ #[t] ty #[ρ x]) (by simp [builtin])]
    simp [Builtin.len_, run_under hu, hx.lit, goInt]
  · rename_i hp
    rw [hp] at hx
    injection he with he; injection he with he1 he2; subst he1; subst he2
    refine sim_pure r (v' := .int .i64 0) ?_ (.val rfl)
    rw [exec_builtin (f := Builtin.len_ #[t] ty #[ρ x]) (by simp [builtin])]
    generalize ρ x = xv at hx
    cases hx with
    | hole => simp [Builtin.len_, run_under hu, goInt]
  · rename_i id off len lb ex k hp
    rw [hp] at hx
    injection he with he; injection he with he1 he2; subst he1; subst he2
    refine sim_pure r (v' := .int .i64 len) ?_ (.val rfl)
    rw [exec_builtin (f := Builtin.len_ #[t] ty #[ρ x]) (by simp [builtin])]
    generalize ρ x = xv at hx
    cases hx with
    | slice => simp [Builtin.len_, run_under hu, goInt]
  · cases he

theorem sim_lenStr (r : Rels n0 B0 m h w) {t : TypeId} (hu : P.underlying t = some .string) (hx : VR m (x'.ev s) (ρ x)) {v : AV} {h' : Heap} {top} (he : opEval top fl s h (.lenStr x') = some (v, h')) :
    Sim P n0 B0 fl m h w ρ ⟨d, .call { callee := .builtin .len, args := #[x], argTypes := #[t] }, ty, pos, af, gd⟩ v h' := by
  simp only [opEval] at he
  split at he
  · rename_i q hp
    rw [hp] at hx
    injection he with he; injection he with he1 he2; subst he1; subst he2
    refine sim_pure r (v' := .int .i64 q.size) ?_ (.val rfl)
    rw [exec_builtin (f := Builtin.len_ #[t] ty #[ρ x]) (by simp [builtin])]
    simp [Builtin.len_, run_under hu, hx.lit, goInt]
  · cases he

theorem bestA_spec (max : Bool) : ∀ (xs : List AV) (us : List Value) (a : AV) (u : Value) (v : AV), VRs m xs us → VR m a u → bestA max a xs = some v → ∃ v', (us.foldlM (if max then Builtin.max2 else Builtin.min2) u).run P w = .ok v' w ∧ VR m v v'
  | [], us, a, u, v, h1, h2, h3 => by
    have : us = [] := List.eq_nil_of_length_eq_zero (by have := h1.1; simpa using this.symm)
    subst this
    simp [bestA] at h3; subst h3
    exact ⟨u, by simp, h2⟩
  | b :: xs, us, a, u, v, h1, h2, h3 => by
    unfold bestA at h3
    split at h3
    · rename_i heq; cases heq
    · rename_i k n k' p r heq
      injection heq with e1 e2
      subst e1; subst e2
      cases us with
      | nil => have := h1.1; simp at this
      | cons u' us =>
        have hb := (h1.2 0 _ _ rfl rfl).int
        subst hb
        have hu := h2.int
        subst hu
        have htl : VRs m xs us := by simpa using h1.drop 1
        obtain ⟨v', h4, h5⟩ := bestA_spec max xs us _ (.int k (if max then (if p > n then p else n) else (if p < n then p else n))) v htl (.val rfl) h3
        refine ⟨v', ?_, h5⟩
        rw [List.foldlM_cons, Sem.run_bind]
        cases max
        · simpa [Builtin.min2] using h4
        · simpa [Builtin.max2] using h4
    · cases h3

theorem sim_minmax (r : Rels n0 B0 m h w) {mx : Bool} {xs : List Operand} {xs' : List Opd} {at_ : Array TypeId} (hl : opds xs = some xs') (hs : ∀ a ∈ xs, ∀ z, cOpd a = some z → VR m (z.ev s) (ρ a)) (hx : VR m (x'.ev s) (ρ x)) {v : AV} {h' : Heap} {top} (he : opEval top fl s h (.minmax mx x' xs') = some (v, h')) :
    Sim P n0 B0 fl m h w ρ ⟨d, .call { callee := .builtin (if mx then .max else .min), args := (x :: xs).toArray, argTypes := at_ }, ty, pos, af, gd⟩ v h' := by
  simp only [opEval] at he
  split at he
  · rename_i v0 hv
    injection he with he; injection he with he1 he2; subst he1; subst he2
    obtain ⟨v', h1, h2⟩ := bestA_spec (P := P) (w := w) mx _ _ _ _ _ (opds_spec hl hs) hx hv
    refine sim_pure r (v' := v') ?_ h2
    cases mx
    · rw [exec_builtin (f := Builtin.min_ at_ ty ((x :: xs).toArray.map ρ)) (by simp [builtin])]
      simp only [Bool.false_eq_true, if_false] at h1
      simp [Builtin.min_, h1]
    · rw [exec_builtin (f := Builtin.max_ at_ ty ((x :: xs).toArray.map ρ)) (by simp [builtin])]
      simp only [if_true] at h1
      simp [Builtin.max_, h1]
  · cases he

/-! ### Rows of cells -/
theorem rowOf_spec (r : Rel n0 B0 m (blk h) w) {k n : Nat} {cs : List AV} {a : AV} {u : Value} (hr : rowOf h k a = some (n, cs)) (ha : VR m a u) :
    (n = 0 ∧ cs = [] ∧ (u = .slice none 0 0 ∨ ∃ ad c, u = .slice (some ad) 0 c)) ∨ ∃ ad c vs, u = .slice (some ad) n c ∧ vs.length = n * k ∧ (∀ (j : Nat) v, vs[j]? = some v → w.cell? (ad.add j) = some v) ∧ VRs m cs vs ∧ ∀ x ∈ cs, x.isCell = true := by
  unfold rowOf at hr
  split at hr
  · injection hr with hr; injection hr with h1 h2
    exact .inl ⟨h1.symm, h2.symm, .inl ha.lit⟩
  · injection hr with hr; injection hr with h1 h2
    cases ha with
    | hole => exact .inl ⟨h1.symm, h2.symm, .inr ⟨_, _, rfl⟩⟩
  · rename_i id off len lb ex k'
    split at hr
    · rename_i cs' hcs
      injection hr with hr; injection hr with h1 h2; subst h1; subst h2
      unfold rd at hcs
      split at hcs
      · rename_i l hl
        split at hcs
        · rename_i hn
          injection hcs with hcs; subst hcs
          cases ha with
          | slice hb ho h1 h2 h3 h4 =>
            rename_i b o c
            by_cases h0 : lb = 0
            · obtain rfl : len = 0 := by omega
              refine .inr ⟨_, c, [], rfl, by simp, fun j v hj => by simp at hj, by simpa using VRs.nil, fun x hx => by simp at hx⟩
            · have := ho h0
              subst this
              obtain ⟨vs, h5, h6, h7⟩ := rel_cells r hl hb hn
              exact .inr ⟨_, c, vs, rfl, h5, h6, h7, fun x hx => r.one id l b hl hb x (List.mem_of_mem_drop (List.mem_of_mem_take hx))⟩
        · cases hcs
      · cases hcs
    · cases hr
  · cases hr

theorem run_firstCells_row {k n : Nat} {ad : Addr} {c : Nat} {vs : List Value} (hl : vs.length = n * k) (hc : ∀ (j : Nat) v, vs[j]? = some v → w.cell? (ad.add j) = some v) : (Builtin.firstCells k n (.slice (some ad) n c)).run P w = .ok vs.toArray w :=
  run_firstCells_some w k n ad n c vs hl hc

theorem sim_copy (r : Rels n0 B0 m h w) (hfl : ∀ id, fl id = true → n0 ≤ id) {t u : TypeId} {k bytes : Nat} {zs : List AV} (ht : elemT P t = some (k, bytes, zs)) (hx : VR m (x'.ev s) (ρ x)) (hy : VR m (y'.ev s) (ρ y)) {v : AV} {h' : Heap} {top} (he : opEval top fl s h (.copy k x' y') = some (v, h')) :
    Sim P n0 B0 fl m h w ρ ⟨d, .call { callee := .builtin .copy, args := #[x, y], argTypes := #[t, u] }, ty, pos, af, gd⟩ v h' := by
  obtain ⟨e, i, hu, hi, hk, hby, hk0, hb0, hz, hzl⟩ := elemT_spec ht
  have hsz : sizeT P e = some k := by simp [sizeT, hi, hk]
  have hrun : ∀ (f : Result Value) , (Builtin.copy_ #[t, u] ty #[ρ x, ρ y]).run P w = f → (execOp ρ ⟨d, .call { callee := .builtin .copy, args := #[x, y], argTypes := #[t, u] }, ty, pos, af, gd⟩).run P w = f.andThen fun v w' => .ok (.value v) w' := by
    intro f hf
    rw [exec_builtin (f := Builtin.copy_ #[t, u] ty #[ρ x, ρ y]) (by simp [builtin]), hf]
  simp only [opEval] at he
  split at he
  · rename_i q hp hq
    rw [hp] at hx
    injection he with he; injection he with he1 he2; subst he1; subst he2
    refine sim_pure r (v' := .int .i64 0) ?_ (.val rfl)
    rw [hrun (.ok (.int .i64 0) w) ?_]
    · rfl
    · obtain ⟨n, cs⟩ := q
      rcases rowOf_spec r.rel hq hy with ⟨_, _, hy | ⟨ad, c, hy⟩⟩ | ⟨ad, c, vs, hy, _⟩
      · simp [Builtin.copy_, run_under hu, hx.lit, hy, Builtin.lenOf, run_sizeOf_of hsz, Builtin.firstCells, goInt]
      · have := run_loadCells_list (P := P) w ad [] (fun j v hj => by simp at hj)
        simp at this
        simp [Builtin.copy_, run_under hu, hx.lit, hy, Builtin.lenOf, run_sizeOf_of hsz, Builtin.firstCells, goInt, this]
      · have := run_loadCells_list (P := P) w ad [] (fun j v hj => by simp at hj)
        simp at this
        simp [Builtin.copy_, run_under hu, hx.lit, hy, Builtin.lenOf, run_sizeOf_of hsz, Builtin.firstCells, goInt, this]
  · rename_i q hp hq
    rw [hp] at hx
    injection he with he; injection he with he1 he2; subst he1; subst he2
    refine sim_pure r (v' := .int .i64 0) ?_ (.val rfl)
    rw [hrun (.ok (.int .i64 0) w) ?_]
    · rfl
    · obtain ⟨n, cs⟩ := q
      generalize hqx : ρ x = xv at hx
      cases hx with
      | hole =>
        rcases rowOf_spec r.rel hq hy with ⟨_, _, hy | ⟨ad, c, hy⟩⟩ | ⟨ad, c, vs, hy, _⟩
        · simp [Builtin.copy_, run_under hu, hqx, hy, Builtin.lenOf, run_sizeOf_of hsz, Builtin.firstCells, goInt, storeCells]
        · have := run_loadCells_list (P := P) w ad [] (fun j v hj => by simp at hj)
          simp at this
          simp [Builtin.copy_, run_under hu, hqx, hy, Builtin.lenOf, run_sizeOf_of hsz, Builtin.firstCells, goInt, this, storeCells]
        · have := run_loadCells_list (P := P) w ad [] (fun j v hj => by simp at hj)
          simp at this
          simp [Builtin.copy_, run_under hu, hqx, hy, Builtin.lenOf, run_sizeOf_of hsz, Builtin.firstCells, goInt, this, storeCells]
  · rename_i id off len lb ex k' n cs hp hq
    rw [hp] at hx
    split at he
    · rename_i h1 hw
      injection he with he; injection he with he1 he2; subst he1; subst he2
      generalize hqx : ρ x = xv at hx hrun
      cases hx with
      | slice hb ho hh1 hh2 hh3 hh4 =>
        rename_i b o c
        rcases rowOf_spec r.rel hq hy with ⟨rfl, rfl, hy⟩ | ⟨ad, cc, vs, hy, hvl, hvc, hvr, hvo⟩
        · have hld0 : ∀ ad : Addr, (loadCells ad 0).run P w = .ok #[] w := fun ad => by
            simpa using run_loadCells_list (P := P) w ad [] (fun j v hj => by simp at hj)
          obtain ⟨w', h2, h3⟩ := sim_wr (P := P) r hfl hb VRs.nil (fun v hv => by simp at hv) (by simpa using hw)
          simp only [storeCells, Sem.run_pure, Result.ok.injEq, true_and] at h2
          subst h2
          refine ⟨.int .i64 0, w, m, .inl ?_, h3, by simpa using VR.val rfl⟩
          rw [hrun (.ok (.int .i64 0) w) ?_]
          · rfl
          · rcases hy with hy | ⟨ad, c, hy⟩
            · simp [Builtin.copy_, run_under hu, hy, Builtin.lenOf, run_sizeOf_of hsz, Builtin.firstCells, goInt, storeCells]
            · simp [Builtin.copy_, run_under hu, hy, Builtin.lenOf, run_sizeOf_of hsz, Builtin.firstCells, goInt, storeCells, hld0]
        · have hmin : Nat.min n len * k ≤ vs.length := by rw [hvl]; exact Nat.mul_le_mul_right _ (Nat.min_le_left _ _)
          have hld := run_loadCells_list (P := P) w ad (vs.take (Nat.min n len * k)) (fun j v hj => by
            rw [List.getElem?_take] at hj
            split at hj
            · exact hvc j v hj
            · cases hj)
          rw [List.length_take, Nat.min_eq_left hmin] at hld
          have hvr' := hvr.take (Nat.min n len * k)
          by_cases hlb : lb = 0
          · obtain rfl : len = 0 := by omega
            have hz0 : Nat.min n 0 = 0 := Nat.min_zero n
            have hw0 : wr fl h id off [] = some h1 := by simpa using hw
            obtain ⟨w', h2, h3⟩ := sim_wr (P := P) r hfl hb VRs.nil (fun v hv => by simp at hv) hw0
            simp only [storeCells, Sem.run_pure, Result.ok.injEq, true_and] at h2
            subst h2
            refine ⟨.int .i64 0, w, m, .inl ?_, h3, by simpa using VR.val rfl⟩
            rw [hrun (.ok (.int .i64 0) w) ?_]
            · rfl
            · rw [hz0] at hld
              simp at hld
              simp [Builtin.copy_, run_under hu, hy, Builtin.lenOf, run_sizeOf_of hsz, Builtin.firstCells, goInt, hld, storeCells]
          · have := ho hlb
            subst this
            obtain ⟨w', h2, h3⟩ := sim_wr (P := P) r hfl hb hvr' (fun v hv => hvo v (List.mem_of_mem_take hv)) hw
            refine ⟨.int .i64 (min n len : Nat), w', m, .inl ?_, h3, VR.val rfl⟩
            rw [hrun (.ok (.int .i64 (min n len : Nat)) w') ?_]
            · rfl
            · simp only [Builtin.copy_, Sem.run_bind, run_under hu, hy, Builtin.lenOf, Sem.run_pure, Result.andThen_ok, run_sizeOf_of hsz, Builtin.firstCells, hld, h2, goInt, List.getElem?_toArray, List.getElem?_cons_zero, List.getElem?_cons_succ, Array.toList]
    · cases he
  · cases he

theorem sim_clear (r : Rels n0 B0 m h w) (hfl : ∀ id, fl id = true → n0 ≤ id) {t : TypeId} {k bytes : Nat} {zs : List AV} (ht : elemT P t = some (k, bytes, zs)) (hx : VR m (x'.ev s) (ρ x)) {v : AV} {h' : Heap} {top} (he : opEval top fl s h (.clear k zs x') = some (v, h')) :
    Sim P n0 B0 fl m h w ρ ⟨d, .call { callee := .builtin .clear, args := #[x], argTypes := #[t] }, ty, pos, af, gd⟩ v h' := by
  obtain ⟨e, i, hu, hi, hk, hby, hk0, hb0, hz, hzl⟩ := elemT_spec ht
  obtain ⟨zv, hz1, hz2, hz3⟩ := run_zeroValue_of (P := P) (w := w) hz
  have hrun : ∀ (f : Result Value) , (Builtin.clear_ #[t] ty #[ρ x]).run P w = f → (execOp ρ ⟨d, .call { callee := .builtin .clear, args := #[x], argTypes := #[t] }, ty, pos, af, gd⟩).run P w = f.andThen fun v w' => .ok (.value v) w' := by
    intro f hf
    rw [exec_builtin (f := Builtin.clear_ #[t] ty #[ρ x]) (by simp [builtin]), hf]
  simp only [opEval] at he
  split at he
  · rename_i hp
    rw [hp] at hx
    injection he with he; injection he with he1 he2; subst he1; subst he2
    refine sim_pure r (v' := .tuple #[]) ?_ VRs.no
    rw [hrun (.ok (.tuple #[]) w) (by simp [Builtin.clear_, run_under hu, hx.lit])]
    rfl
  · rename_i hp
    rw [hp] at hx
    injection he with he; injection he with he1 he2; subst he1; subst he2
    refine sim_pure r (v' := .tuple #[]) ?_ VRs.no
    rw [hrun (.ok (.tuple #[]) w) ?_]
    · rfl
    · generalize ρ x = xv at hx
      cases hx with
      | hole => simp [Builtin.clear_, run_under hu]
  · rename_i id off len lb ex k' hp
    rw [hp] at hx
    split at he
    · rename_i h1 hw
      injection he with he; injection he with he1 he2; subst he1; subst he2
      generalize hqx : ρ x = xv at hx hrun
      cases hx with
      | slice hb ho hh1 hh2 hh3 hh4 =>
        rename_i b o c
        by_cases h0 : len = 0
        · subst h0
          obtain ⟨w', h2, h3⟩ := sim_wr (P := P) r hfl hb VRs.nil (fun v hv => by simp at hv) (by simpa using hw)
          simp only [storeCells, Sem.run_pure, Result.ok.injEq, true_and] at h2
          subst h2
          refine ⟨.tuple #[], w, m, .inl ?_, h3, VRs.no⟩
          rw [hrun (.ok (.tuple #[]) w) (by simp [Builtin.clear_, run_under hu])]
          rfl
        · have := ho (by omega)
          subst this
          have hzz : VRs m (List.replicate len zs).flatten (Builtin.zeroCells zv.cells len).toList := by
            have hzs : zv.cells.size = k := by have := (hz2 m).1; simp at this; omega
            refine ⟨by simp [Builtin.zeroCells, hzl, hzs], fun j a b ha hb => ?_⟩
            have hj : j < len * k := by
              have := (List.getElem?_eq_some_iff.1 ha).1
              rw [flat_len, hzl] at this; exact this
            have hzz := getElem!_mod zv.cells zs (hz2 m) k hk0 hzl (len * k)
            rw [flat_get zs k hzl hk0 len j hj] at ha
            refine hzz.2 j a b ?_ ?_
            · rw [List.getElem?_map, List.getElem?_range hj]
              simp [List.getD, ha]
            · simpa [Builtin.zeroCells, hzs] using hb
          obtain ⟨w', h2, h3⟩ := sim_wr (P := P) r hfl hb hzz (fun x hx => by
            obtain ⟨l0, hl0, hx⟩ := List.mem_flatten.1 hx
            rw [List.eq_of_mem_replicate hl0] at hx
            exact hz3 x hx) hw
          refine ⟨.tuple #[], w', m, .inl ?_, h3, VRs.no⟩
          rw [hrun (.ok (.tuple #[]) w') ?_]
          · rfl
          · obtain ⟨n, rfl⟩ : ∃ n, len = n + 1 := ⟨len - 1, by omega⟩
            simp [Builtin.clear_, run_under hu, hz1, h2]
    · cases he
  · cases he
end
end Go.Proofs.Ytpmmiaadfnildaa
