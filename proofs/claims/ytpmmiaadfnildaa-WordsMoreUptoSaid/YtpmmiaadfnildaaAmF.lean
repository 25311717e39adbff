/-
  AM and the program's machine: building values, slices, append.
-/
import Derived.Test.YtpmmiaadfnildaaAmE
namespace Go.Proofs.Ytpmmiaadfnildaa
open Go
set_option linter.unusedVariables false
set_option linter.unusedSimpArgs false
section
variable {n0 B0 : Nat} {P : Program} {m : Map} {h : Heap} {w : World} {fl : Nat → Bool}
variable {ρ : Operand → Value} {s : Slots} {x y z : Operand} {x' y' z' : Opd} {d : Option Tmp} {ty : TypeId} {pos : String} {af : Array Edge} {gd : Option (Nat × Bool)}

theorem splice_get {α : Type} (A B D : List α) (i : Nat) : (A ++ B ++ D)[i]? = if i < A.length then A[i]? else if i < A.length + B.length then B[i - A.length]? else D[i - A.length - B.length]? := by
  rw [List.append_assoc]
  split
  · rename_i h; rw [List.getElem?_append_left h]
  · rename_i h
    rw [List.getElem?_append_right (by omega)]
    split
    · rw [List.getElem?_append_left (by omega)]
    · rw [List.getElem?_append_right (by omega)]

theorem foldl_set (o : Nat) : ∀ (vs : List Value) (j : Nat) (cs : Array Value), o + j + vs.length ≤ cs.size →
    ((vs.zipIdx j).foldl (fun cs (p : Value × Nat) => cs.setIfInBounds (o + p.2) p.1) cs).toList = cs.toList.take (o + j) ++ vs ++ cs.toList.drop (o + j + vs.length)
  | [], j, cs, _ => by simp
  | v :: r, j, cs, hl => by
    simp only [List.zipIdx_cons, List.foldl_cons]
    rw [foldl_set o r (j + 1) _ (by simp at hl ⊢; omega), Array.toList_setIfInBounds]
    simp only [List.length_cons] at hl ⊢
    apply List.ext_getElem?
    intro i
    have e1 : (List.take (o + (j + 1)) (cs.toList.set (o + j) v)).length = o + j + 1 := by simp; omega
    have e2 : (List.take (o + j) cs.toList).length = o + j := by simp; omega
    rw [splice_get, splice_get, e1, e2]
    by_cases h1 : i < o + j
    · rw [if_pos (by omega), if_pos h1, List.getElem?_take, List.getElem?_take, if_pos (by omega), if_pos h1, List.getElem?_set, if_neg (by omega)]
    · by_cases h2 : i = o + j
      · subst h2
        rw [if_pos (by omega), if_neg (by omega), if_pos (by simp), List.getElem?_take, if_pos (by omega), List.getElem?_set, if_pos rfl, if_pos (by simp; omega)]
        simp
      · obtain ⟨k, rfl⟩ : ∃ k, i = o + j + 1 + k := ⟨i - (o + j + 1), by omega⟩
        by_cases h3 : k < r.length
        · rw [if_neg (by omega), if_pos (by omega), if_neg (by omega), if_pos (by simp; omega), show o + j + 1 + k - (o + j) = k + 1 by omega, List.getElem?_cons_succ]
          congr 1; omega
        · rw [if_neg (by omega), if_neg (by omega), if_neg (by omega), if_neg (by simp; omega), List.getElem?_drop, List.getElem?_drop, List.getElem?_set, if_neg (by omega)]
          congr 1
          simp only [List.length_cons]
          omega

theorem fill_spec (place : Nat → Option (Nat × Nat)) : ∀ (ps : List (Nat × Operand)) (qs : List (Nat × Nat × Opd)) (cs : List AV) (arr : Array Value) (out : List AV), partsAt place ps = some qs → (∀ p ∈ ps, ∀ z, cOpd p.2 = some z → VR m (z.ev s) (ρ p.2)) →
    VRs m cs arr.toList → fillA cs (qs.map fun p => (p.1, p.2.1, p.2.2.ev s)) = some out → ∃ arr', Instr.fill place arr (ps.map fun p => (p.1, ρ p.2)) = some arr' ∧ VRs m out arr'.toList
  | [], qs, cs, arr, out, h1, _, h3, h4 => by
    simp only [partsAt, List.mapM_nil, Option.pure_def, Option.some.injEq] at h1
    subst h1
    simp only [List.map_nil, fillA, Option.some.injEq] at h4
    subst h4
    exact ⟨arr, rfl, h3⟩
  | (i, x) :: ps, qs, cs, arr, out, h1, h2, h3, h4 => by
    simp only [partsAt, List.mapM_cons] at h1
    split at h1
    · rename_i o n y hp hy
      simp only [Option.pure_def, Option.bind_eq_bind, Option.bind_some, Option.bind_eq_some_iff, Option.some.injEq] at h1
      obtain ⟨qs', hq, rfl⟩ := h1
      have hv := h2 (i, x) (by simp) y hy
      simp only [List.map_cons, fillA] at h4
      split at h4
      · rename_i hc
        have hcs := hv.cells
        have e1 := hcs.1
        have e2 := h3.1
        simp only [Array.length_toList] at e1 e2
        have hsz : (ρ x).cells.size = n := by rw [← hc.1, e1]
        have hf := foldl_set o (ρ x).cells.toList 0 arr (by simp; omega)
        simp only [Nat.add_zero, Array.length_toList] at hf
        have ih := fill_spec place ps qs' _ ((((ρ x).cells.toList.zipIdx).foldl (fun cs (p : Value × Nat) => cs.setIfInBounds (o + p.2) p.1) arr)) out hq (fun p hp => h2 p (by simp [hp]))
          (by rw [hf, hsz]; exact ((h3.take o).append hcs).append (h3.drop (o + n))) h4
        obtain ⟨arr', h5, h6⟩ := ih
        refine ⟨arr', ?_, h6⟩
        simp only [List.map_cons, Instr.fill, hp]
        rw [if_neg (by rw [hsz]; simp; omega)]
        rw [← h5]
        congr 1
        rw [← Array.foldl_toList, Array.toList_zipIdx]
      · cases h4
    · simp at h1

theorem partsAt_congr {pl pl' : Nat → Option (Nat × Nat)} {ps : List (Nat × Operand)} {qs : List (Nat × Nat × Opd)} (h1 : partsAt pl ps = some qs) (hpl : ∀ i a, pl i = some a → pl' i = some a) : partsAt pl' ps = some qs := by
  induction ps generalizing qs with
  | nil => exact h1
  | cons p ps ih =>
    obtain ⟨i, x⟩ := p
    simp only [partsAt, List.mapM_cons] at h1 ⊢
    split at h1
    · rename_i o n y hp hy
      simp only [Option.pure_def, Option.bind_eq_bind, Option.bind_some, Option.bind_eq_some_iff, Option.some.injEq] at h1
      obtain ⟨qs', hq, rfl⟩ := h1
      have := ih hq
      simp only [partsAt] at this
      simp [hpl i _ hp, hy, this]
    · simp at h1

theorem mapM_places (fs : Array Field) (hn : ∀ f ∈ fs, ∃ n, sizeT P f.type = some n) : ∃ ps : Array (Nat × Nat), (fs.mapM fun (f : Field) => do pure (f.offset, ← sizeOf f.type) : Sem _).run P w = .ok ps w ∧ ∀ i : Nat, ps[i]? = (fs[i]?).bind fun (f : Field) => (sizeT P f.type).map fun n => (f.offset, n) := by
  rw [Array.mapM_eq_mapM_toList]
  have key : ∀ l : List Field, (∀ f ∈ l, ∃ n, sizeT P f.type = some n) → ∃ ps : List (Nat × Nat), (l.mapM fun (f : Field) => do pure (f.offset, ← sizeOf f.type) : Sem _).run P w = .ok ps w ∧ ∀ i : Nat, ps[i]? = (l[i]?).bind fun (f : Field) => (sizeT P f.type).map fun n => (f.offset, n) := by
    intro l
    induction l with
    | nil => intro _; exact ⟨[], rfl, fun i => by simp⟩
    | cons f l ih =>
      intro hl
      obtain ⟨n, hn⟩ := hl f (by simp)
      obtain ⟨ps, h1, h2⟩ := ih (fun g hg => hl g (by simp [hg]))
      refine ⟨(f.offset, n) :: ps, ?_, fun i => ?_⟩
      · simp at h1
        simp [List.mapM_cons, run_sizeOf_of hn, h1]
      · cases i with
        | zero => simp [hn]
        | succ i => simpa using h2 i
  obtain ⟨ps, h1, h2⟩ := key fs.toList (fun f hf => hn f (by simpa using hf))
  exact ⟨ps.toArray, by simp at h1; simp [h1], fun i => by simpa using h2 i⟩

theorem sim_buildStruct (r : Rels n0 B0 m h w) {t : TypeId} {fs : Array Field} (hu : P.underlying t = some (.struct fs)) (hall : ∀ f ∈ fs, ∃ n, sizeT P f.type = some n) {zs : List AV} (hz : zeroT P t = some zs) {ps : Array (Nat × Operand)} {qs : List (Nat × Nat × Opd)}
    (hq : partsAt (fun i => (fs[i]?).bind fun f => (sizeT P f.type).map fun n => (f.offset, n)) ps.toList = some qs) (hs : ∀ p ∈ ps.toList, ∀ z, cOpd p.2 = some z → VR m (z.ev s) (ρ p.2)) {v : AV} {h' : Heap} {top} (he : opEval top fl s h (.build zs qs) = some (v, h')) :
    Sim P n0 B0 fl m h w ρ ⟨d, .build t ps, ty, pos, af, gd⟩ v h' := by
  simp only [opEval] at he
  split at he
  · rename_i cs hcs
    injection he with he; injection he with he1 he2; subst he1; subst he2
    obtain ⟨zv, h1, h2, _⟩ := run_zeroValue_of (P := P) (w := w) hz
    obtain ⟨pl, h3, h4⟩ := mapM_places (P := P) (w := w) fs hall
    obtain ⟨arr', h5, h6⟩ := fill_spec (ρ := ρ) (s := s) (fun i => pl[i]?) ps.toList qs zs zv.cells cs (partsAt_congr hq (fun i a ha => by rw [h4]; exact ha)) hs (h2 m) hcs
    refine sim_pure r (v' := .agg arr') ?_ (VRs.agg h6)
    simp at h3
    simp [execOp, Instr.build, h1, run_under hu, h3, h5]
  · cases he

theorem sim_buildArr (r : Rels n0 B0 m h w) {t e : TypeId} {len n : Nat} (hu : P.underlying t = some (.array len e)) (hn : sizeT P e = some n) {zs : List AV} (hz : zeroT P t = some zs) {ps : Array (Nat × Operand)} {qs : List (Nat × Nat × Opd)}
    (hq : partsAt (fun i => some (i * n, n)) ps.toList = some qs) (hs : ∀ p ∈ ps.toList, ∀ z, cOpd p.2 = some z → VR m (z.ev s) (ρ p.2)) {v : AV} {h' : Heap} {top} (he : opEval top fl s h (.build zs qs) = some (v, h')) :
    Sim P n0 B0 fl m h w ρ ⟨d, .build t ps, ty, pos, af, gd⟩ v h' := by
  simp only [opEval] at he
  split at he
  · rename_i cs hcs
    injection he with he; injection he with he1 he2; subst he1; subst he2
    obtain ⟨zv, h1, h2, _⟩ := run_zeroValue_of (P := P) (w := w) hz
    obtain ⟨arr', h5, h6⟩ := fill_spec (ρ := ρ) (s := s) (fun i => some (i * n, n)) ps.toList qs zs zv.cells cs hq hs (h2 m) hcs
    refine sim_pure r (v' := .agg arr') ?_ (VRs.agg h6)
    simp [execOp, Instr.build, h1, run_under hu, run_sizeOf_of hn, h5]
  · cases he

theorem getElem!_mod (z : Array Value) (zs : List AV) (hz : VRs m zs z.toList) (k : Nat) (hk : 0 < k) (hl : zs.length = k) (n : Nat) :
    VRs m ((List.range n).map fun i => zs.getD (i % k) .no) ((Array.range n).map (fun i => z[i % z.size]!)).toList := by
  have e : z.size = k := by have := hz.1; simp at this; omega
  refine ⟨by simp, fun i a b ha hb => ?_⟩
  simp only [List.getElem?_map, Option.map_eq_some_iff, Array.toList_map, Array.toList_range] at ha hb
  obtain ⟨j, hj, rfl⟩ := ha
  obtain ⟨j', hj', rfl⟩ := hb
  rw [hj] at hj'; injection hj' with hj'; subst hj'
  have hlt : j % k < k := Nat.mod_lt _ hk
  rw [e]
  obtain ⟨y, hy, hr⟩ := hz.get (i := j % k) (x := zs.getD (j % k) .no) (by simp [List.getD, List.getElem?_eq_getElem (show j % k < zs.length by omega)])
  have : z[j % k]! = y := by
    simp only [Array.getElem?_toList] at hy
    rw [getElem!_def, hy]
  rw [this]; exact hr

theorem sim_lits (r : Rels n0 B0 m h w) {t : TypeId} {k bytes len : Nat} {zs : List AV} (ht : elemT P t = some (k, bytes, zs)) (hlen : len * k ≤ 2 ^ 24) {ps : Array (Nat × Operand)} {qs : List (Nat × Nat × Opd)}
    (hq : partsAt (fun i => some (i * k, k)) ps.toList = some qs) (hs : ∀ p ∈ ps.toList, ∀ z, cOpd p.2 = some z → VR m (z.ev s) (ρ p.2)) {v : AV} {h' : Heap} {top} (he : opEval top fl s h (.lits k len ((List.range (len * k)).map fun i => zs.getD (i % k) .no) qs) = some (v, h')) :
    Sim P n0 B0 fl m h w ρ ⟨d, .buildSlice t len ps, ty, pos, af, gd⟩ v h' := by
  obtain ⟨e, i, hu, hi, hk, _, hk0, _, hz, hzl⟩ := elemT_spec ht
  simp only [opEval] at he
  split at he
  · rename_i cs hcs
    split at he
    case isFalse => cases he
    rename_i hall
    injection he with he; injection he with he1 he2; subst he1; subst he2
    obtain ⟨zv, h1, h2, _⟩ := run_zeroValue_of (P := P) (w := w) hz
    have hsz : sizeT P e = some k := by simp [sizeT, hi, hk]
    have hz0 : VRs m ((List.range (len * k)).map fun i => zs.getD (i % k) .no) ((Array.range (len * k)).map (fun i => zv.cells[i % zv.cells.size]!)).toList := getElem!_mod zv.cells zs (h2 m) k hk0 hzl _
    obtain ⟨arr', h5, h6⟩ := fill_spec (ρ := ρ) (s := s) (fun i => some (i * k, k)) ps.toList qs _ _ cs hq hs hz0 hcs
    have hcl : cs.length = len * k := by
      have : ∀ (qs : List (Nat × Nat × AV)) (c out : List AV), fillA c qs = some out → out.length = c.length := by
        intro qs
        induction qs with
        | nil => intro c out h; simp [fillA] at h; rw [h]
        | cons q qs ih =>
          intro c out h
          obtain ⟨o, n, v⟩ := q
          simp only [fillA] at h
          split at h
          · rename_i hc
            rw [ih _ _ h]
            simp; omega
          · cases h
      rw [this _ _ _ hcs]; simp
    have e6 := h6.1
    simp only [Array.length_toList] at e6
    refine ⟨.slice (some ⟨w.heap.size, 0, none⟩) len len, w.alloc (.cells arr' e), mset m h.length ⟨w.heap.size, 0, len * k⟩, .inl ?_, post_alloc r cs arr' e _ (fun x hx => List.all_eq_true.1 hall x hx) (by omega) (by omega) (fun j a ha => by
      obtain ⟨y, hy, hr⟩ := h6.get ha
      exact ⟨y, by simpa using hy, hr⟩), VR.slice (b := ⟨w.heap.size, 0, len * k⟩) (o := 0) (by simp [mset]) (fun _ => rfl) (Nat.le_refl _) (Nat.le_refl _) (fun _ => rfl) (by simp)⟩
    by_cases h0 : len * k = 0
    · have e0 : (Array.map (fun i => zv.cells[i % zv.cells.size]!) (Array.range (len * k))) = #[] := by simp [h0]
      rw [e0] at h5
      have e1 : ∀ f : Nat → Value, Array.map f (Array.range 0) = #[] := fun f => by simp
      simp [execOp, Instr.buildSlice, run_under hu, run_sizeOf_of hsz, h0, e1, h5, newRow]
    · simp [execOp, Instr.buildSlice, run_under hu, run_sizeOf_of hsz, h0, h1, h5, newRow, show ¬ (16777216 < len * k) by omega]
  · cases he
end
end Go.Proofs.Ytpmmiaadfnildaa
