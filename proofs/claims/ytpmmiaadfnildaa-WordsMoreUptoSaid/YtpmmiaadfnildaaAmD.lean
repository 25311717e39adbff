/-
  AM and the program's machine: operation by operation.
-/
import Derived.Test.YtpmmiaadfnildaaAmC
import Derived.Laws.Entries
namespace Go.Proofs.Ytpmmiaadfnildaa
open Go
set_option linter.unusedVariables false
set_option linter.unusedSimpArgs false
section
variable {n0 B0 : Nat} {P : Program} {m : Map} {h : Heap} {w : World} {fl : Nat → Bool}

theorem run_typeInfo_of {t : TypeId} {i : TypeInfo} (hi : P.info? t = some i) : (typeInfo t).run P w = .ok i w := by simp [typeInfo, hi]
theorem run_under {t : TypeId} {d : TypeDesc} (hi : P.underlying t = some d) : (underlying t).run P w = .ok d w := by simp [underlying, hi]
theorem run_sizeOf_of {t : TypeId} {n : Nat} (hi : sizeT P t = some n) : (sizeOf t).run P w = .ok n w := by
  obtain ⟨i, h1, rfl⟩ := Option.map_eq_some_iff.1 hi
  simp [sizeOf, run_typeInfo_of h1]
theorem run_zeroValue_of {t : TypeId} {z : List AV} (hz : zeroT P t = some z) : ∃ v, (zeroValue t).run P w = .ok v w ∧ (∀ m : Map, VRs m z v.cells.toList) ∧ ∀ x ∈ z, x.isCell = true := by
  unfold zeroT at hz
  split at hz
  · rename_i i hi
    split at hz
    · rename_i v hv
      unfold plains at hz
      split at hz
      · rename_i hp
        injection hz with hz; subst hz
        refine ⟨v, by simp [zeroValue, run_typeInfo_of hi, hv], fun m => VRs.plains _ hp, fun x hx => ?_⟩
        obtain ⟨y, _, rfl⟩ := List.mem_map.1 hx
        rfl
      · cases hz
    · cases hz
  · cases hz
theorem aggT_agg {t : TypeId} {n : Nat} (ht : aggT P t = some (some n)) : (isAgg t).run P w = .ok true w ∧ (sizeOf t).run P w = .ok n w := by
  unfold aggT at ht
  split at ht
  · rename_i i fs hi hu
    injection ht with ht; injection ht with ht; subst ht
    exact ⟨by simp [isAgg, run_under hu], run_sizeOf_of (by simp [sizeT, hi])⟩
  · rename_i i a b hi hu
    injection ht with ht; injection ht with ht; subst ht
    exact ⟨by simp [isAgg, run_under hu], run_sizeOf_of (by simp [sizeT, hi])⟩
  · cases ht
  · cases ht
theorem aggT_one {t : TypeId} (ht : aggT P t = some none) : (isAgg t).run P w = .ok false w := by
  unfold aggT at ht
  split at ht
  · cases ht
  · cases ht
  · rename_i i d hs ha hi hu
    simp only [isAgg, Sem.run_bind, run_under hu, Result.andThen_ok, Sem.run_pure]
  · cases ht
theorem aggT_size {t : TypeId} {n : Nat} (ht : aggT P t = some (some n)) : sizeT P t = some n := by
  unfold aggT at ht
  split at ht
  · rename_i i fs hi hu
    injection ht with ht; injection ht with ht; subst ht
    simp [sizeT, hi]
  · rename_i i a b hi hu
    injection ht with ht; injection ht with ht; subst ht
    simp [sizeT, hi]
  · cases ht
  · cases ht

/-- What an operation does: a value, or nothing. -/
def Yield (r : Result Next) (v : Value) (w : World) : Prop := r = .ok (.value v) w ∨ (r = .ok .skip w ∧ v = undef)

/-- The claim of each operation. -/
def Sim (P : Program) (n0 B0 : Nat) (fl : Nat → Bool) (m : Map) (h : Heap) (w : World) (ρ : Operand → Value) (o : Oper) (v : AV) (h' : Heap) : Prop :=
  ∃ v' w' m', Yield ((execOp ρ o).run P w) v' w' ∧ Post n0 B0 fl m h w m' h' w' ∧ VR m' v v'

theorem sim_pure {o : Oper} {ρ : Operand → Value} {v : AV} {v' : Value} (r : Rels n0 B0 m h w) (hr : (execOp ρ o).run P w = .ok (.value v') w) (hv : VR m v v') : Sim P n0 B0 fl m h w ρ o v h :=
  ⟨v', w, m, .inl hr, .refl r, hv⟩

theorem VR.bool {m : Map} {b : Bool} {v : Value} (h : VR m (.val (.bool b)) v) : v = .bool b := by cases h; rfl
theorem VR.int {m : Map} {k : IntKind} {n : Int} {v : Value} (h : VR m (.val (.int k n)) v) : v = .int k n := by cases h; rfl
theorem VR.lit {m : Map} {x v : Value} (h : VR m (.val x) v) : v = x := by cases h; rfl
theorem VR.ptr_inv {m : Map} {id off : Nat} {v : Value} (h : VR m (.ptr id off) v) : ∃ b, m id = some b ∧ v = .pointer (some ⟨b.b, b.off + off, none⟩) := by cases h with | ptr h => exact ⟨_, h, rfl⟩

variable {ρ : Operand → Value} {s : Slots} {x y z : Operand} {x' y' z' : Opd} {d : Option Tmp} {ty : TypeId} {pos : String} {af : Array Edge} {gd : Option (Nat × Bool)}

theorem sim_pick (r : Rels n0 B0 m h w) (hc : VR m (x'.ev s) (ρ x)) (ha : VR m (y'.ev s) (ρ y)) (hb : VR m (z'.ev s) (ρ z)) {v : AV} {h' : Heap} {top} (he : opEval top fl s h (.pick x' y' z') = some (v, h')) :
    Sim P n0 B0 fl m h w ρ ⟨d, .pick x y z, ty, pos, af, gd⟩ v h' := by
  simp only [opEval] at he
  split at he
  · rename_i t ht
    rw [ht] at hc
    injection he with he; injection he with he1 he2; subst he1; subst he2
    refine sim_pure r (v' := if t then ρ y else ρ z) ?_ ?_
    · simp [execOp, hc.bool, asBool]
    · cases t <;> simp [ha, hb]
  · cases he

theorem sim_box (r : Rels n0 B0 m h w) {t : TypeId} {n : Nat} (hx : VR m (x'.ev s) (ρ x)) {v : AV} {h' : Heap} {top} (he : opEval top fl s h (.box n x') = some (v, h')) :
    Sim P n0 B0 fl m h w ρ ⟨d, .box t x, ty, pos, af, gd⟩ v h' := by
  simp only [opEval] at he
  split at he
  · rename_i hcell
    injection he with he; injection he with he1 he2; subst he1; subst he2
    have hcs := hx.cells
    refine ⟨.pointer (some ⟨w.heap.size, 0, none⟩), w.alloc (.cells (ρ x).cells t), mset m h.length ⟨w.heap.size, 0, (x'.ev s).cells.length⟩, .inl ?_, post_alloc r _ _ _ _ (fun x hx => List.all_eq_true.1 hcell.2 x hx) (Nat.le_refl _) (by rw [hcs.1]; simp) (fun i a ha => by
      obtain ⟨y, hy, hr⟩ := hcs.get ha
      exact ⟨y, by simpa using hy, hr⟩), VR.ptr (b := ⟨w.heap.size, 0, _⟩) (by simp [mset]; rfl)⟩
    simp [execOp, Instr.box, newVar, newRow]
  · cases he

theorem sim_zero (r : Rels n0 B0 m h w) {t : TypeId} {cs : List AV} (hz : zeroT P t = some cs) {v : AV} {h' : Heap} {top} (he : opEval top fl s h (.zero cs) = some (v, h')) :
    Sim P n0 B0 fl m h w ρ ⟨d, .alloc t, ty, pos, af, gd⟩ v h' := by
  simp only [opEval] at he
  injection he with he; injection he with he1 he2; subst he1; subst he2
  obtain ⟨zv, h1, h2, h3⟩ := run_zeroValue_of (P := P) (w := w) hz
  have hcs := h2 m
  refine ⟨.pointer (some ⟨w.heap.size, 0, none⟩), w.alloc (.cells zv.cells t), mset m h.length ⟨w.heap.size, 0, cs.length⟩, .inl ?_, post_alloc r _ _ _ _ h3 (Nat.le_refl _) (by rw [hcs.1]; simp) (fun i a ha => by
    obtain ⟨y, hy, hr⟩ := hcs.get ha
    exact ⟨y, by simpa using hy, hr⟩), VR.ptr (b := ⟨w.heap.size, 0, _⟩) (by simp [mset]; rfl)⟩
  simp [execOp, Instr.alloc, h1, newVar, newRow]

theorem sim_load (r : Rels n0 B0 m h w) {t : TypeId} {n : Option Nat} (ht : aggT P t = some n) (hx : VR m (x'.ev s) (ρ x)) {v : AV} {h' : Heap} {top} (he : opEval top fl s h (.load n x') = some (v, h')) :
    Sim P n0 B0 fl m h w ρ ⟨d, .load t x, ty, pos, af, gd⟩ v h' := by
  simp only [opEval] at he
  split at he
  · rename_i id off hp
    rw [hp] at hx
    obtain ⟨b, hb, hp⟩ := hx.ptr_inv
    split at he
    · split at he
      · rename_i n
        obtain ⟨h1, h2⟩ := aggT_agg (w := w) ht
        split at he
        · rename_i cs hcs
          injection he with he; injection he with he1 he2; subst he1; subst he2
          unfold rd at hcs
          split at hcs
          · rename_i l hl
            split at hcs
            · rename_i hn
              injection hcs with hcs; subst hcs
              obtain ⟨vs, h3, h4, h5⟩ := rel_cells r.rel hl hb hn
              have := run_loadCells_list (P := P) w _ vs h4
              rw [h3] at this
              refine sim_pure r (v' := .agg vs.toArray) ?_ (VRs.agg (by simpa using h5))
              simp [execOp, hp, Instr.loadAt, Instr.sureAddr, loadVar, h1, h2, this]
            · cases hcs
          · cases hcs
        · cases he
      · have h1 := aggT_one (w := w) ht
        split at he
        · rename_i v0 hv
          injection he with he; injection he with he1 he2; subst he1; subst he2
          unfold rd1 at hv
          split at hv
          · rename_i l hl
            obtain ⟨v', h3, h4⟩ := r.rel.cell id l b hl hb off _ hv
            refine sim_pure r (v' := v') ?_ h4
            simp [execOp, hp, Instr.loadAt, Instr.sureAddr, loadVar, h1, h3]
          · cases hv
        · cases he
    · cases he
  · cases he

theorem sim_store (r : Rels n0 B0 m h w) (hfl : ∀ id, fl id = true → n0 ≤ id) {t : TypeId} {n : Nat} (ht : sizeT P t = some n) (hx : VR m (x'.ev s) (ρ x)) (hy : VR m (y'.ev s) (ρ y)) {v : AV} {h' : Heap} {top} (he : opEval top fl s h (.store n x' y') = some (v, h')) :
    Sim P n0 B0 fl m h w ρ ⟨d, .store t x y, ty, pos, af, gd⟩ v h' := by
  simp only [opEval] at he
  split at he
  · rename_i id off hp
    rw [hp] at hx
    obtain ⟨b, hb, hp⟩ := hx.ptr_inv
    split at he
    · rename_i hn
      split at he
      · rename_i h1 hw
        injection he with he; injection he with he1 he2; subst he1; subst he2
        have hcs := hy.cells
        obtain ⟨w', h2, h3⟩ := sim_wr (P := P) r hfl hb hcs (fun x hx => List.all_eq_true.1 hn.2 x hx) hw
        refine ⟨undef, w', m, .inr ⟨?_, rfl⟩, h3, VRs.no⟩
        have hsz : (ρ y).cells.size = n := by rw [← hn.1, hcs.1]; simp
        simp [execOp, hp, Instr.storeAt, Instr.sureAddr, storeVar, run_sizeOf_of ht, hsz, h2]
      · cases he
    · cases he
  · cases he

theorem sim_nilCheck (r : Rels n0 B0 m h w) (hx : VR m (x'.ev s) (ρ x)) {v : AV} {h' : Heap} {top} (he : opEval top fl s h (.nilCheck x') = some (v, h')) :
    Sim P n0 B0 fl m h w ρ ⟨d, .nilCheck x, ty, pos, af, gd⟩ v h' := by
  simp only [opEval] at he
  split at he
  · rename_i id off hp
    rw [hp] at hx
    injection he with he; injection he with he1 he2; subst he1; subst he2
    obtain ⟨b, hb, hp⟩ := hx.ptr_inv
    refine sim_pure r (v' := ρ x) ?_ (by rw [hp]; exact .ptr hb)
    simp [execOp, hp]
  · rename_i f cs hp
    rw [hp] at hx
    injection he with he; injection he with he1 he2; subst he1; subst he2
    refine sim_pure r (v' := ρ x) ?_ hx
    generalize hq : ρ x = u at hx
    cases hx with | func hl hh => simp [execOp, hq]
  · cases he

theorem sim_field (r : Rels n0 B0 m h w) {t : TypeId} {f : Nat} {fd : Field} (hf : fieldT P t f = some fd) {n : Option Nat} (ht : aggT P fd.type = some n) (hx : VR m (x'.ev s) (ρ x)) {v : AV} {h' : Heap} {top} (he : opEval top fl s h (.field fd.offset n x') = some (v, h')) :
    Sim P n0 B0 fl m h w ρ ⟨d, .field t x f, ty, pos, af, gd⟩ v h' := by
  simp only [opEval] at he
  split at he
  · rename_i cs hp
    rw [hp] at hx
    obtain ⟨vs, hp, hvs⟩ := VRs.of_agg hx
    split at he
    · rename_i v0 hv
      injection he with he; injection he with he1 he2; subst he1; subst he2
      unfold fieldT at hf
      split at hf
      · rename_i fs hu
        cases n with
        | none =>
          simp only [partA] at hv
          obtain ⟨u, h1, h2⟩ := hvs.get hv
          refine sim_pure r (v' := u) ?_ h2
          simp only [Array.getElem?_toList] at h1
          simp [execOp, hp, Instr.field, run_under hu, hf, asAgg, part, aggT_one ht, h1]
        | some n =>
          simp only [partA] at hv
          split at hv
          · rename_i hn
            injection hv with hv; subst hv
            refine sim_pure r (v' := .agg (vs.extract fd.offset (fd.offset + n))) ?_ (VRs.agg ?_)
            · simp [execOp, hp, Instr.field, run_under hu, hf, asAgg, part, (aggT_agg ht).1, (aggT_agg ht).2]
            · have := (hvs.drop fd.offset).take n
              rw [Array.toList_extract, List.extract_eq_take_drop]
              simpa using this
          · cases hv
      · cases hf
    · cases he
  · cases he

theorem add_spot (b o n : Nat) : (⟨b, o, none⟩ : Addr).add n = ⟨b, o + n, none⟩ := by
  unfold Addr.add; split <;> simp_all

theorem sim_fieldAddr (r : Rels n0 B0 m h w) {t : TypeId} {f : Nat} {fd : Field} (hf : fieldT P t f = some fd) {n : Nat} (hn : sizeT P fd.type = some n) (hn0 : n ≠ 0) (hx : VR m (x'.ev s) (ρ x)) {v : AV} {h' : Heap} {top} (he : opEval top fl s h (.fieldAddr fd.offset x') = some (v, h')) :
    Sim P n0 B0 fl m h w ρ ⟨d, .fieldAddr t x f, ty, pos, af, gd⟩ v h' := by
  simp only [opEval] at he
  split at he
  · rename_i id off hp
    rw [hp] at hx
    injection he with he; injection he with he1 he2; subst he1; subst he2
    obtain ⟨b, hb, hp⟩ := hx.ptr_inv
    unfold fieldT at hf
    split at hf
    · rename_i fs hu
      refine sim_pure r (v' := .pointer (some ⟨b.b, b.off + (off + fd.offset), none⟩)) ?_ (.ptr hb)
      simp [execOp, hp, Instr.fieldAt, run_under hu, hf, Instr.sureAddr, fieldPlace, run_sizeOf_of hn, hn0, add_spot, Nat.add_assoc]
    · cases hf
  · cases he

theorem natOf_int {v : AV} {n : Nat} {u : Value} (hn : natOfA v = some n) (hv : VR m v u) : ∃ k, u = .int k n := by
  unfold natOfA at hn
  split at hn
  · rename_i i hi
    unfold intOfA at hi
    split at hi
    · rename_i k i'
      injection hi with hi; subst hi
      split at hn
      · injection hn with hn; subst hn
        exact ⟨k, by rw [hv.int]; congr 1; omega⟩
      · cases hn
    · cases hi
  · cases hn

theorem elemT_spec {t : TypeId} {k bytes : Nat} {zs : List AV} (he : elemT P t = some (k, bytes, zs)) : ∃ e i, P.underlying t = some (.slice e) ∧ P.info? e = some i ∧ i.size = k ∧ i.bytes = bytes ∧ 0 < k ∧ 0 < bytes ∧ zeroT P e = some zs ∧ zs.length = k := by
  unfold elemT at he
  split at he
  · rename_i e hu
    split at he
    · rename_i i z' hi hz
      split at he
      · rename_i hc
        injection he with he; injection he with h1 h2; injection h2 with h2 h3
        subst h1; subst h2; subst h3
        exact ⟨e, i, hu, hi, rfl, rfl, hc.1, hc.2.1, hz, hc.2.2⟩
      · cases he
    · cases he
  · cases he

theorem sim_indexAddr (r : Rels n0 B0 m h w) {t : TypeId} {k bytes : Nat} {zs : List AV} (ht : elemT P t = some (k, bytes, zs)) (hx : VR m (x'.ev s) (ρ x)) (hy : VR m (y'.ev s) (ρ y)) {v : AV} {h' : Heap} {top} (he : opEval top fl s h (.indexAddr k x' y') = some (v, h')) :
    Sim P n0 B0 fl m h w ρ ⟨d, .indexAddr t x y, ty, pos, af, gd⟩ v h' := by
  obtain ⟨e, i, hu, hi, rfl, _, _, _, _, _⟩ := elemT_spec ht
  simp only [opEval] at he
  split at he
  · rename_i id off len lb ex k' j hp hj
    rw [hp] at hx
    obtain ⟨kd, hj⟩ := natOf_int hj hy
    split at he
    · rename_i hlt
      injection he with he; injection he with he1 he2; subst he1; subst he2
      generalize hq : ρ x = u at hx
      cases hx with
      | slice hb ho h1 h2 h3 h4 =>
        rename_i b o c
        have : o = off := ho (by omega)
        subst this
        refine sim_pure r (v' := .pointer (some ⟨b.b, b.off + (o + j * i.size), none⟩)) ?_ (.ptr hb)
        have hlt' : (j : Int) < (len : Int) := by omega
        simp [execOp, hq, hj, Instr.indexAt, asIntOf, run_under hu, hlt', hlt, run_sizeOf_of (show sizeT P e = some i.size from by simp [sizeT, hi]), add_spot, Nat.add_assoc]
    · cases he
  · cases he

theorem sim_indexArr (r : Rels n0 B0 m h w) {t e : TypeId} {k len : Nat} (hu : P.underlying t = some (.array len e)) (hk : sizeT P e = some k) (hx : VR m (x'.ev s) (ρ x)) (hy : VR m (y'.ev s) (ρ y)) {v : AV} {h' : Heap} {top} (he : opEval top fl s h (.indexArr k len x' y') = some (v, h')) :
    Sim P n0 B0 fl m h w ρ ⟨d, .indexAddr t x y, ty, pos, af, gd⟩ v h' := by
  simp only [opEval] at he
  split at he
  · rename_i id off j hp hj
    rw [hp] at hx
    obtain ⟨kd, hj⟩ := natOf_int hj hy
    obtain ⟨b, hb, hp⟩ := hx.ptr_inv
    split at he
    · rename_i hlt
      injection he with he; injection he with he1 he2; subst he1; subst he2
      refine sim_pure r (v' := .pointer (some ⟨b.b, b.off + (off + j * k), none⟩)) ?_ (.ptr hb)
      have hlt' : (j : Int) < (len : Int) := by omega
      simp [execOp, hp, hj, Instr.indexAt, asIntOf, run_under hu, Instr.sureAddr, hlt', hlt, run_sizeOf_of hk, add_spot, Nat.add_assoc]
    · cases he
  · cases he

theorem sim_index (r : Rels n0 B0 m h w) {t e : TypeId} {k len : Nat} (hu : P.underlying t = some (.array len e)) (hk : sizeT P e = some k) {n : Option Nat} (ht : aggT P e = some n) (hx : VR m (x'.ev s) (ρ x)) (hy : VR m (y'.ev s) (ρ y)) {v : AV} {h' : Heap} {top} (he : opEval top fl s h (.index k len n x' y') = some (v, h')) :
    Sim P n0 B0 fl m h w ρ ⟨d, .index t x y, ty, pos, af, gd⟩ v h' := by
  simp only [opEval] at he
  split at he
  · rename_i cs j hp hj
    rw [hp] at hx
    obtain ⟨kd, hj⟩ := natOf_int hj hy
    obtain ⟨vs, hp, hvs⟩ := VRs.of_agg hx
    split at he
    · rename_i hlt
      split at he
      · rename_i v0 hv
        injection he with he; injection he with he1 he2; subst he1; subst he2
        have hlt' : (j : Int) < (len : Int) := by omega
        cases n with
        | none =>
          simp only [partA] at hv
          obtain ⟨u, h1, h2⟩ := hvs.get hv
          refine sim_pure r (v' := u) ?_ h2
          simp only [Array.getElem?_toList] at h1
          simp [execOp, hp, hj, Instr.index, asIntOf, run_under hu, hlt', hlt, run_sizeOf_of hk, part, aggT_one ht, h1]
        | some n =>
          have hnk := aggT_size ht
          rw [hk] at hnk
          injection hnk with hnk
          subst hnk
          simp only [partA] at hv
          split at hv
          · rename_i hn
            injection hv with hv; subst hv
            refine sim_pure r (v' := .agg (vs.extract (j * k) (j * k + k))) ?_ (VRs.agg ?_)
            · simp [execOp, hp, hj, Instr.index, asIntOf, run_under hu, hlt', hlt, run_sizeOf_of hk, part, (aggT_agg ht).1, (aggT_agg ht).2]
            · have := (hvs.drop (j * k)).take k
              rw [Array.toList_extract, List.extract_eq_take_drop]
              simpa using this
          · cases hv
      · cases he
    · cases he
  · cases he

theorem sim_indexStr (r : Rels n0 B0 m h w) {t : TypeId} (hu : P.underlying t = some .string) (hx : VR m (x'.ev s) (ρ x)) (hy : VR m (y'.ev s) (ρ y)) {v : AV} {h' : Heap} {top} (he : opEval top fl s h (.indexStr x' y') = some (v, h')) :
    Sim P n0 B0 fl m h w ρ ⟨d, .index t x y, ty, pos, af, gd⟩ v h' := by
  simp only [opEval] at he
  split at he
  · rename_i str j hp hj
    rw [hp] at hx
    obtain ⟨kd, hj⟩ := natOf_int hj hy
    have hp := hx.lit
    split at he
    · rename_i b hb
      injection he with he; injection he with he1 he2; subst he1; subst he2
      refine sim_pure r (v' := .int .u8 b.toNat) ?_ (.val rfl)
      simp [execOp, hp, hj, Instr.index, asIntOf, run_under hu, hb]
    · cases he
  · cases he

theorem sim_extract (r : Rels n0 B0 m h w) {i : Nat} (hx : VR m (x'.ev s) (ρ x)) {v : AV} {h' : Heap} {top} (he : opEval top fl s h (.extract i x') = some (v, h')) :
    Sim P n0 B0 fl m h w ρ ⟨d, .extract x i, ty, pos, af, gd⟩ v h' := by
  simp only [opEval] at he
  split at he
  · rename_i vs hp
    rw [hp] at hx
    split at he
    · rename_i v0 hv
      injection he with he; injection he with he1 he2; subst he1; subst he2
      generalize hq : ρ x = u at hx
      cases hx with
      | tuple hl hh =>
        rename_i us
        obtain ⟨u, h1, h2⟩ := VRs.get (m := m) (vs := us.toList) ⟨by simpa using hl, by simpa using hh⟩ hv
        simp only [Array.getElem?_toList] at h1
        refine sim_pure r (v' := u) ?_ h2
        simp [execOp, hq, Instr.extract, h1]
    · cases he
  · cases he

theorem sim_conv (r : Rels n0 B0 m h w) {t u : TypeId} {k k' : IntKind} (ht : P.underlying t = some (.int k')) (hu : P.underlying u = some (.int k)) (hx : VR m (x'.ev s) (ρ x)) {v : AV} {h' : Heap} {top} (he : opEval top fl s h (.conv k x') = some (v, h')) :
    Sim P n0 B0 fl m h w ρ ⟨d, .convert t u x, ty, pos, af, gd⟩ v h' := by
  simp only [opEval] at he
  split at he
  · rename_i k0 n hp
    rw [hp] at hx
    injection he with he; injection he with he1 he2; subst he1; subst he2
    refine sim_pure r (v' := .int k (k.wrap n)) ?_ (.val rfl)
    simp [execOp, hx.int, convert, run_under ht, run_under hu, Conv.intToInt]
  · cases he

theorem sim_un (r : Rels n0 B0 m h w) {op : UnOp} {t : TypeId} (hx : VR m (x'.ev s) (ρ x)) {v : AV} {h' : Heap} {top} (he : opEval top fl s h (.un op x') = some (v, h')) :
    Sim P n0 B0 fl m h w ρ ⟨d, .unOp op t x, ty, pos, af, gd⟩ v h' := by
  simp only [opEval] at he
  split at he
  · rename_i a hp
    rw [hp] at hx
    split at he
    · rename_i v0 hv
      injection he with he; injection he with he1 he2; subst he1; subst he2
      unfold unV at hv
      split at hv
      · rename_i k n
        split at hv
        · injection hv with hv; subst hv
          refine sim_pure r (v' := .int k (k.wrap (0 - n))) ?_ (.val rfl)
          simp [execOp, hx.lit, Op.unary, Op.intArith]
        · injection hv with hv; subst hv
          refine sim_pure r (v' := .int k (k.wrap _)) ?_ (.val rfl)
          simp [execOp, hx.lit, Op.unary, Op.intBits]
        · cases hv
      · rename_i b
        split at hv
        · injection hv with hv; subst hv
          refine sim_pure r (v' := .bool !b) ?_ (.val rfl)
          simp [execOp, hx.lit, Op.unary]
        · cases hv
      · cases hv
    · cases he
  · cases he
end
end Go.Proofs.Ytpmmiaadfnildaa
