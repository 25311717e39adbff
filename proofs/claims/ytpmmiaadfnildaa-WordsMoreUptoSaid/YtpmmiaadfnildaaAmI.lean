/-
  AM and the program's machine: any operation that is no call.
-/
import Derived.Test.YtpmmiaadfnildaaAmH
namespace Go.Proofs.Ytpmmiaadfnildaa
open Go
set_option linter.unusedVariables false
set_option linter.unusedSimpArgs false
section
variable {n0 B0 : Nat} {P : Program} {m : Map} {h : Heap} {w : World} {fl : Nat → Bool}

theorem optOpd_spec {m : Map} {s : Slots} {ρ : Operand → Value} {x : Option Operand} {x' : Option Opd} (hx : optOpd x = some x') (hs : ∀ y ∈ x.toList, ∀ z, cOpd y = some z → VR m (z.ev s) (ρ y)) : OptR m s ρ x x' := by
  cases x with
  | none => simp [optOpd] at hx; exact .inl ⟨rfl, hx.symm⟩
  | some a =>
    simp only [optOpd, Option.map_eq_some_iff] at hx
    obtain ⟨z, hz, rfl⟩ := hx
    exact .inr ⟨a, z, rfl, rfl, hs a (by simp) z hz⟩

theorem partsAt_sizes {t : TypeId} {fs : Array Field} (hz : ∀ f ∈ fs, ∃ n, sizeT P f.type = some n) : True := trivial

theorem sim_op (r : Rels n0 B0 m h w) (hfl : ∀ id, fl id = true → n0 ≤ id) {ρ : Operand → Value} {s : Slots} (hρ : ∀ v, ρ (.const v) = v) {o : Oper} {x : AOp} (hc : cOp P o = some x)
    (hs : ∀ y ∈ o.op.operands.toList, ∀ z, cOpd y = some z → VR m (z.ev s) (ρ y)) {v : AV} {h' : Heap} {top} (he : opEval top fl s h x = some (v, h')) : Sim P n0 B0 fl m h w ρ o v h' := by
  obtain ⟨dst, op, ty, pos, af, gd⟩ := o
  cases op with
  | move a =>
    simp only [cOp, Option.map_eq_some_iff] at hc
    obtain ⟨a', ha, rfl⟩ := hc
    simp only [opEval] at he
    injection he with he; injection he with he1 he2; subst he1; subst he2
    exact sim_pure r (v' := ρ a) rfl (hs a (by simp [Op.operands]) a' ha)
  | assign a =>
    simp only [cOp, Option.map_eq_some_iff] at hc
    obtain ⟨a', ha, rfl⟩ := hc
    simp only [opEval] at he
    injection he with he; injection he with he1 he2; subst he1; subst he2
    exact sim_pure r (v' := ρ a) rfl (hs a (by simp [Op.operands]) a' ha)
  | pick c a b =>
    simp only [cOp, Option.bind_eq_bind, Option.bind_eq_some_iff, Option.pure_def, Option.some.injEq] at hc
    obtain ⟨c', h1, a', h2, b', h3, rfl⟩ := hc
    exact sim_pick r (hs c (by simp [Op.operands]) c' h1) (hs a (by simp [Op.operands]) a' h2) (hs b (by simp [Op.operands]) b' h3) he
  | alloc t =>
    simp only [cOp, Option.map_eq_some_iff] at hc
    obtain ⟨z, h1, rfl⟩ := hc
    exact sim_zero r h1 he
  | box t a =>
    simp only [cOp, Option.bind_eq_bind, Option.bind_eq_some_iff, Option.pure_def, Option.some.injEq] at hc
    obtain ⟨n, h1, a', h2, rfl⟩ := hc
    exact sim_box r (hs a (by simp [Op.operands]) a' h2) he
  | build t ps =>
    have hs' : ∀ p ∈ ps.toList, ∀ z, cOpd p.2 = some z → VR m (z.ev s) (ρ p.2) := fun p hp z hz => hs p.2 (by simp only [Op.operands]; exact List.mem_map.2 ⟨p, hp, rfl⟩) z hz
    simp only [cOp] at hc
    split at hc
    · rename_i fs hu
      split at hc
      · rename_i hall
        simp only [Option.bind_eq_bind, Option.bind_eq_some_iff, Option.pure_def, Option.some.injEq] at hc
        obtain ⟨z, h1, qs, h2, rfl⟩ := hc
        exact sim_buildStruct r hu (fun f hf => by
          have := Array.all_eq_true_iff_forall_mem.1 hall f hf
          exact Option.isSome_iff_exists.1 this) h1 h2 hs' he
      · cases hc
    · rename_i n e hu
      simp only [Option.bind_eq_bind, Option.bind_eq_some_iff, Option.pure_def, Option.some.injEq] at hc
      obtain ⟨n, h0, z, h1, qs, h2, rfl⟩ := hc
      exact sim_buildArr r hu h0 h1 h2 hs' he
    · cases hc
  | buildSlice t len ps =>
    have hs' : ∀ p ∈ ps.toList, ∀ z, cOpd p.2 = some z → VR m (z.ev s) (ρ p.2) := fun p hp z hz => hs p.2 (by simp only [Op.operands]; exact List.mem_map.2 ⟨p, hp, rfl⟩) z hz
    simp only [cOp, Option.bind_eq_bind, Option.bind_eq_some_iff] at hc
    obtain ⟨⟨k, b, z⟩, h1, h2⟩ := hc
    simp only at h2
    split at h2
    · rename_i hlen
      simp only [Option.bind_eq_some_iff, Option.pure_def, Option.some.injEq] at h2
      obtain ⟨qs, h3, rfl⟩ := h2
      exact sim_lits r h1 hlen h3 hs' he
    · cases h2
  | load t a =>
    simp only [cOp, Option.bind_eq_bind, Option.bind_eq_some_iff, Option.pure_def, Option.some.injEq] at hc
    obtain ⟨n, h1, a', h2, rfl⟩ := hc
    exact sim_load r h1 (hs a (by simp [Op.operands]) a' h2) he
  | store t a b =>
    simp only [cOp, Option.bind_eq_bind, Option.bind_eq_some_iff, Option.pure_def, Option.some.injEq] at hc
    obtain ⟨n, h1, a', h2, b', h3, rfl⟩ := hc
    exact sim_store r hfl h1 (hs a (by simp [Op.operands]) a' h2) (hs b (by simp [Op.operands]) b' h3) he
  | nilCheck a =>
    simp only [cOp, Option.map_eq_some_iff] at hc
    obtain ⟨a', h1, rfl⟩ := hc
    exact sim_nilCheck r (hs a (by simp [Op.operands]) a' h1) he
  | binOp op t a b u =>
    simp only [cOp, cBin] at hc
    split at hc
    · rename_i a' b' h1 h2
      have ha := hs a (by simp [Op.operands]) a' h1
      have hb := hs b (by simp [Op.operands]) b' h2
      have hconst : ∀ v, b = .const v → ρ b = v := fun v hv => by rw [hv]; exact hρ v
      split at hc
      · injection hc with hc; subst hc; exact sim_bin r ha hb he
      · injection hc with hc; subst hc; exact sim_bin r ha hb he
      · rename_i hu
        split at hc
        · injection hc with hc; subst hc; exact sim_eqBool (neg := false) r hu ha hb he
        · injection hc with hc; subst hc; exact sim_eqBool (neg := true) r hu ha hb he
        · cases hc
      · rename_i e hu
        split at hc
        · split at hc
          · rename_i hk; injection hc with hc; subst hc; exact sim_eqNil (neg := false) r hk (.inl ⟨rfl, _, hu⟩) hconst ha he
          · cases hc
        · split at hc
          · rename_i hk; injection hc with hc; subst hc; exact sim_eqNil (neg := true) r hk (.inl ⟨rfl, _, hu⟩) hconst ha he
          · cases hc
        · cases hc
      · rename_i e hu
        split at hc
        · split at hc
          · rename_i hk; injection hc with hc; subst hc; exact sim_eqNil (neg := false) r hk (.inr (.inl ⟨rfl, _, hu⟩)) hconst ha he
          · cases hc
        · split at hc
          · rename_i hk; injection hc with hc; subst hc; exact sim_eqNil (neg := true) r hk (.inr (.inl ⟨rfl, _, hu⟩)) hconst ha he
          · cases hc
        · cases hc
      · rename_i e1 e2 e3 hu
        split at hc
        · split at hc
          · rename_i hk; injection hc with hc; subst hc; exact sim_eqNil (neg := false) r hk (.inr (.inr ⟨rfl, _, _, _, hu⟩)) hconst ha he
          · cases hc
        · split at hc
          · rename_i hk; injection hc with hc; subst hc; exact sim_eqNil (neg := true) r hk (.inr (.inr ⟨rfl, _, _, _, hu⟩)) hconst ha he
          · cases hc
        · cases hc
      · rename_i fs hu
        split at hc
        · rename_i ks hk
          split at hc
          · injection hc with hc; subst hc; exact sim_eqAgg (neg := false) r hk ha hb he
          · injection hc with hc; subst hc; exact sim_eqAgg (neg := true) r hk ha hb he
          · cases hc
        · cases hc
      · cases hc
    · cases hc
  | unOp op t a =>
    simp only [cOp, Option.map_eq_some_iff] at hc
    obtain ⟨a', h1, rfl⟩ := hc
    exact sim_un r (hs a (by simp [Op.operands]) a' h1) he
  | convert t u a =>
    simp only [cOp] at hc
    split at hc
    · rename_i k k' ht hu
      obtain ⟨a', h1, rfl⟩ := Option.map_eq_some_iff.1 hc
      exact sim_conv r ht hu (hs a (by simp [Op.operands]) a' h1) he
    · cases hc
  | field t a f =>
    simp only [cOp, Option.bind_eq_bind, Option.bind_eq_some_iff, Option.pure_def, Option.some.injEq] at hc
    obtain ⟨fd, h1, n, h2, a', h3, rfl⟩ := hc
    exact sim_field r h1 h2 (hs a (by simp [Op.operands]) a' h3) he
  | fieldAddr t a f =>
    simp only [cOp, Option.bind_eq_bind, Option.bind_eq_some_iff] at hc
    obtain ⟨fd, h1, n, h2, h3⟩ := hc
    split at h3
    · cases h3
    · rename_i hn
      simp only [Option.bind_eq_some_iff, Option.pure_def, Option.some.injEq] at h3
      obtain ⟨a', h4, rfl⟩ := h3
      exact sim_fieldAddr r h1 h2 hn (hs a (by simp [Op.operands]) a' h4) he
  | indexAddr t a b =>
    simp only [cOp] at hc
    split at hc
    · simp only [Option.bind_eq_bind, Option.bind_eq_some_iff, Option.pure_def, Option.some.injEq] at hc
      obtain ⟨⟨k, by_, z⟩, h1, a', h2, b', h3, rfl⟩ := hc
      exact sim_indexAddr r h1 (hs a (by simp [Op.operands]) a' h2) (hs b (by simp [Op.operands]) b' h3) he
    · rename_i n e hu
      simp only [Option.bind_eq_bind, Option.bind_eq_some_iff, Option.pure_def, Option.some.injEq] at hc
      obtain ⟨k, h1, a', h2, b', h3, rfl⟩ := hc
      exact sim_indexArr r hu h1 (hs a (by simp [Op.operands]) a' h2) (hs b (by simp [Op.operands]) b' h3) he
    · cases hc
  | index t a b =>
    simp only [cOp] at hc
    split at hc
    · rename_i n e hu
      simp only [Option.bind_eq_bind, Option.bind_eq_some_iff, Option.pure_def, Option.some.injEq] at hc
      obtain ⟨k, h1, n', h1', a', h2, b', h3, rfl⟩ := hc
      exact sim_index r hu h1 h1' (hs a (by simp [Op.operands]) a' h2) (hs b (by simp [Op.operands]) b' h3) he
    · rename_i hu
      simp only [Option.bind_eq_bind, Option.bind_eq_some_iff, Option.pure_def, Option.some.injEq] at hc
      obtain ⟨a', h2, b', h3, rfl⟩ := hc
      exact sim_indexStr r hu (hs a (by simp [Op.operands]) a' h2) (hs b (by simp [Op.operands]) b' h3) he
    · cases hc
  | slice t a lo hi mx =>
    simp only [cOp] at hc
    split at hc
    · split at hc
      · cases hc
      · rename_i hmh
        simp only [Option.bind_eq_bind, Option.bind_eq_some_iff, Option.pure_def, Option.some.injEq] at hc
        obtain ⟨⟨k, by_, z⟩, h1, a', h2, lo', h3, hi', h4, mx', h5, rfl⟩ := hc
        refine sim_slice r h1 ?_ (hs a (by simp [Op.operands]) a' h2) (optOpd_spec h3 fun y hy => hs y ?_) (optOpd_spec h4 fun y hy => hs y ?_) (optOpd_spec h5 fun y hy => hs y ?_) he
        · cases mx <;> cases hi <;> simp_all
        · simp [Op.operands] at *; simp [hy]
        · simp [Op.operands] at *; simp [hy]
        · simp [Op.operands] at *; simp [hy]
    · cases hc
  | makeSlice t a b =>
    simp only [cOp, Option.bind_eq_bind, Option.bind_eq_some_iff, Option.pure_def, Option.some.injEq] at hc
    obtain ⟨⟨k, by_, z⟩, h1, a', h2, b', h3, rfl⟩ := hc
    exact sim_mkSlice r h1 (hs a (by simp [Op.operands]) a' h2) (hs b (by simp [Op.operands]) b' h3) he
  | extract a i =>
    simp only [cOp, Option.map_eq_some_iff] at hc
    obtain ⟨a', h1, rfl⟩ := hc
    exact sim_extract r (hs a (by simp [Op.operands]) a' h1) he
  | makeFunc fn first captured =>
    cases fn with
    | func f =>
      simp only [cOp] at hc
      split at hc
      · rename_i h0
        obtain ⟨caps', h1, rfl⟩ := Option.map_eq_some_iff.1 hc
        obtain rfl : first = #[] := Array.eq_empty_of_size_eq_zero h0
        exact sim_func r h1 (fun a ha => hs a (by simp [Op.operands] at *; exact ha)) he
      · cases hc
    | _ => simp [cOp] at hc
  | call c =>
    obtain ⟨callee, args, at_⟩ := c
    cases callee with
    | value f =>
      simp only [cOp, Option.bind_eq_bind, Option.bind_eq_some_iff, Option.pure_def, Option.some.injEq] at hc
      obtain ⟨f', h1, a', h2, rfl⟩ := hc
      simp [opEval] at he
    | invoke rv mt => simp [cOp] at hc
    | builtin b =>
      obtain ⟨args⟩ := args
      obtain ⟨at_⟩ := at_
      simp only [cOp] at hc
      split at hc
      · rename_i x y t u
        split at hc
        · rename_i htu; subst htu
          simp only [Option.bind_eq_bind, Option.bind_eq_some_iff, Option.pure_def, Option.some.injEq] at hc
          obtain ⟨⟨k, by_, z⟩, h1, a', h2, b', h3, rfl⟩ := hc
          exact sim_append r hfl h1 (hs x (by simp [Op.operands, Call.operands]) a' h2) (hs y (by simp [Op.operands, Call.operands]) b' h3) he
        · cases hc
      · rename_i x t
        split at hc
        · rename_i e hu
          obtain ⟨a', h1, rfl⟩ := Option.map_eq_some_iff.1 hc
          exact sim_len r hu (hs x (by simp [Op.operands, Call.operands]) a' h1) he
        · rename_i hu
          obtain ⟨a', h1, rfl⟩ := Option.map_eq_some_iff.1 hc
          exact sim_lenStr r hu (hs x (by simp [Op.operands, Call.operands]) a' h1) he
        · cases hc
      · rename_i x y t u
        simp only [Option.bind_eq_bind, Option.bind_eq_some_iff, Option.pure_def, Option.some.injEq] at hc
        obtain ⟨⟨k, by_, z⟩, h1, a', h2, b', h3, rfl⟩ := hc
        exact sim_copy r hfl h1 (hs x (by simp [Op.operands, Call.operands]) a' h2) (hs y (by simp [Op.operands, Call.operands]) b' h3) he
      · rename_i x t
        simp only [Option.bind_eq_bind, Option.bind_eq_some_iff, Option.pure_def, Option.some.injEq] at hc
        obtain ⟨⟨k, by_, z⟩, h1, a', h2, rfl⟩ := hc
        exact sim_clear r hfl h1 (hs x (by simp [Op.operands, Call.operands]) a' h2) he
      · rename_i x xs
        split at hc
        · simp only [Option.bind_eq_bind, Option.bind_eq_some_iff, Option.pure_def, Option.some.injEq] at hc
          obtain ⟨a', h1, xs', h2, rfl⟩ := hc
          exact sim_minmax (mx := true) r h2 (fun a ha => hs a (by simp [Op.operands, Call.operands, ha])) (hs x (by simp [Op.operands, Call.operands]) a' h1) he
        · cases hc
      · rename_i x xs
        split at hc
        · simp only [Option.bind_eq_bind, Option.bind_eq_some_iff, Option.pure_def, Option.some.injEq] at hc
          obtain ⟨a', h1, xs', h2, rfl⟩ := hc
          exact sim_minmax (mx := false) r h2 (fun a ha => hs a (by simp [Op.operands, Call.operands, ha])) (hs x (by simp [Op.operands, Call.operands]) a' h1) he
        · cases hc
      · cases hc
  | _ => simp [cOp] at hc
end
end Go.Proofs.Ytpmmiaadfnildaa
