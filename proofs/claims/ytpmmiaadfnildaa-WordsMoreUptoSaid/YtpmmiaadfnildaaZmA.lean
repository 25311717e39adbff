/-
  ZM, a machine of pure values over AM: its values, how they stand for those of AM.
-/
import Derived.Test.YtpmmiaadfnildaaAmV
namespace Go.Proofs.Ytpmmiaadfnildaa
open Go Go.RowKit
set_option linter.unusedVariables false
set_option linter.unusedSimpArgs false

/-! ### Values -/
inductive ZV where
  | val (v : Value)
  | func (f : FuncId) (caps : List ZV)
  | fz (k : Nat) (ex : Bool) (rows : List (List ZV))   -- a slice that nobody writes to any more
  | own (i g off len : Nat) (ex : Bool)                -- a slice of block i, ys it was when that had grown g times
  | ptr (i o : Nat)                                    -- into a box
  | eptr (i g e o : Nat)                               -- into element e of block i
  | fptr (k : Nat) (rows : List (List ZV)) (j o : Nat) -- into an element of a slice that nobody writes to
  | agg (cs : List ZV)
  | tuple (vs : List ZV)
  deriving Inhabited
inductive ZB where
  | box (cs : List ZV)
  | grow (g k : Nat) (rows : List (List ZV))
  | dead
  deriving Inhabited
abbrev ZH := List ZB
abbrev ZS := Nat → ZV
abbrev ZV.nil : ZV := .val (.slice none 0 0)
abbrev ZV.no : ZV := .tuple []
def zupd (s : ZS) (d : Nat) (v : ZV) : ZS := fun t => if t = d then v else s t
def zput (s : ZS) (d : Option Nat) (v : ZV) : ZS := match d with
  | some d => zupd s d v
  | none => s
def ZV.cells : ZV → List ZV
  | .agg cs => cs
  | v => [v]
def ZV.isCell : ZV → Bool
  | .agg _ | .tuple _ => false
  | _ => true

/-! ### What stands for what -/
inductive FR (Fr : Nat → Prop) (h : Heap) : ZV → AV → Prop
  | val (v : Value) : FR Fr h (.val v) (.val v)
  | func (f : FuncId) : FR Fr h (.func f []) (.func f [])
  | fnil {k : Nat} {ex : Bool} {a : AV} : (a = .nil ∨ (a = .hole ∧ ex = false)) → FR Fr h (.fz k ex []) a
  | fz {k : Nat} {ex : Bool} {rows : List (List ZV)} {id off lb : Nat} {ex' : Bool} {row : List AV} (cell : Nat → AV) : Fr id → blk h id = some row → off + rows.length * k ≤ row.length → rows.length ≤ lb → (ex = true → ex' = true ∧ lb = rows.length) → (∀ r ∈ rows, r.length = k) →
      (∀ i z, rows.flatten[i]? = some z → row[off + i]? = some (cell i)) → (∀ i z, rows.flatten[i]? = some z → FR Fr h z (cell i)) → FR Fr h (.fz k ex rows) (.slice id off rows.length lb ex' k)

structure Wd where
  Fr : Nat → Prop
  mu : Nat → Option (Nat × Nat)
  H : ZH
  h : Heap

def idsOf : AV → List Nat
  | .ptr id _ => [id]
  | .slice id _ _ _ _ _ => [id]
  | _ => []
/-- A slice of a block, all of it ys it is now. -/
def Hdr (w : Wd) (i k : Nat) (rows : List (List ZV)) (off len : Nat) (ex : Bool) (a : AV) : Prop :=
  (w.mu i = none ∧ rows = [] ∧ off = 0 ∧ len = 0 ∧ (a = .nil ∨ ∃ id o row, a = .slice id o 0 0 true k ∧ w.Fr id ∧ blk w.h id = some row ∧ o ≤ row.length)) ∨
  ∃ id b lb ex' row, w.mu i = some (id, b) ∧ a = .slice id (b + off * k) len lb ex' k ∧ off + len ≤ rows.length ∧ len ≤ lb ∧ blk w.h id = some row ∧ b + off * k + lb * k ≤ row.length ∧ (ex = true → ex' = true ∧ lb = len)
def Jk (w : Wd) (i : Nat) (a : AV) : Prop := ∀ id ∈ idsOf a, id < w.h.length ∧ ∀ i' p, w.mu i' = some p → p.1 = id → i' = i
def isSl : AV → Bool
  | .val (.slice none 0 0) => true
  | .slice .. => true
  | _ => false
inductive ZR (w : Wd) : ZV → AV → Prop
  | fr {z : ZV} {a : AV} : FR w.Fr w.h z a → ZR w z a
  | ptr {i o id : Nat} {cs : List ZV} : w.H[i]? = some (.box cs) → w.mu i = some (id, 0) → ZR w (.ptr i o) (.ptr id o)
  | own {i g off len : Nat} {ex : Bool} {a : AV} : i < w.H.length → (∀ g' k rows, w.H[i]? = some (.grow g' k rows) → g ≤ g' ∧ (g = g' → Hdr w i k rows off len ex a)) → Jk w i a → isSl a = true → ZR w (.own i g off len ex) a
  | eptr {i g e o id x : Nat} : i < w.H.length → (∀ g' k rows, w.H[i]? = some (.grow g' k rows) → g ≤ g' ∧ (g = g' → ∃ b, w.mu i = some (id, b) ∧ x = b + e * k + o ∧ e < rows.length)) → Jk w i (.ptr id x) → ZR w (.eptr i g e o) (.ptr id x)
  | fptr {k : Nat} {ex : Bool} {rows : List (List ZV)} {id off lb j o : Nat} {ex' : Bool} : FR w.Fr w.h (.fz k ex rows) (.slice id off rows.length lb ex' k) → j < rows.length → ZR w (.fptr k rows j o) (.ptr id (off + j * k + o))
  | agg {zs : List ZV} {ys : List AV} : zs.length = ys.length → (∀ (i : Nat) z a, zs[i]? = some z → ys[i]? = some a → ZR w z a) → ZR w (.agg zs) (.agg ys)
  | tuple {zs : List ZV} {ys : List AV} : zs.length = ys.length → (∀ (i : Nat) z a, zs[i]? = some z → ys[i]? = some a → ZR w z a) → ZR w (.tuple zs) (.tuple ys)
  | func {f : FuncId} {zs : List ZV} {ys : List AV} : zs.length = ys.length → (∀ (i : Nat) z a, zs[i]? = some z → ys[i]? = some a → ZR w z a) → ZR w (.func f zs) (.func f ys)
def ZRs (w : Wd) (zs : List ZV) (ys : List AV) : Prop := zs.length = ys.length ∧ ∀ (i : Nat) z a, zs[i]? = some z → ys[i]? = some a → ZR w z a

/-- Later on. -/
structure Ext (w w' : Wd) : Prop where
  frm : ∀ id, w.Fr id → w'.Fr id
  frb : ∀ id row, w.Fr id → blk w.h id = some row → blk w'.h id = some row
  hl : w.h.length ≤ w'.h.length
  Hl : w.H.length ≤ w'.H.length
  mu : ∀ i p', w'.mu i = some p' → (∃ p, w.mu i = some p ∧ p.1 = p'.1) ∨ w.h.length ≤ p'.1
  box : ∀ (i : Nat) cs, w.H[i]? = some (.box cs) → (∃ cs', w'.H[i]? = some (.box cs')) ∧ w'.mu i = w.mu i
  boxr : ∀ (i : Nat) cs', i < w.H.length → w'.H[i]? = some (.box cs') → ∃ cs, w.H[i]? = some (.box cs)
  grow : ∀ (i g' k : Nat) rows', i < w.H.length → w'.H[i]? = some (.grow g' k rows') → ∃ g rows, w.H[i]? = some (.grow g k rows) ∧ g ≤ g' ∧ (g = g' → w'.mu i = w.mu i ∧ rows'.length = rows.length ∧ ∀ id b row, w.mu i = some (id, b) → blk w.h id = some row → ∃ row', blk w'.h id = some row' ∧ row'.length = row.length)
theorem Ext.refl (w : Wd) : Ext w w := ⟨fun _ h => h, fun _ _ _ h => h, Nat.le_refl _, Nat.le_refl _, fun i p h => .inl ⟨p, h, rfl⟩, fun i cs h => ⟨⟨cs, h⟩, rfl⟩, fun i cs _ h => ⟨cs, h⟩, fun i g k rows hi h => ⟨g, rows, h, Nat.le_refl _, fun _ => ⟨rfl, rfl, fun id b row _ hr => ⟨row, hr, rfl⟩⟩⟩⟩
theorem Ext.trans {a b c : Wd} (p : Ext a b) (q : Ext b c) : Ext a c := by
  refine ⟨fun id h => q.frm id (p.frm id h), fun id row h hr => q.frb id row (p.frm id h) (p.frb id row h hr), Nat.le_trans p.hl q.hl, Nat.le_trans p.Hl q.Hl, fun i x hx => ?_, fun i cs hb => ?_, fun i cs hi hb => (q.boxr i cs (Nat.lt_of_lt_of_le hi p.Hl) hb).elim fun cs1 h1 => p.boxr i cs1 hi h1, fun i g k rows hi hg => ?_⟩
  · rcases q.mu i x hx with ⟨y, hy, e⟩ | h
    · rcases p.mu i y hy with ⟨z, hz, e'⟩ | h
      · exact .inl ⟨z, hz, e'.trans e⟩
      · exact .inr (e ▸ h)
    · exact .inr (Nat.le_trans p.hl h)
  · obtain ⟨⟨cs1, h1⟩, e1⟩ := p.box i cs hb
    obtain ⟨h2, e2⟩ := q.box i cs1 h1
    exact ⟨h2, e2.trans e1⟩
  · obtain ⟨g1, r1, h1, l1, f1⟩ := q.grow i g k rows (Nat.lt_of_lt_of_le hi p.Hl) hg
    obtain ⟨g0, r0, h0, l0, f0⟩ := p.grow i g1 k r1 hi h1
    refine ⟨g0, r0, h0, Nat.le_trans l0 l1, fun e => ?_⟩
    have e1 : g0 = g1 := Nat.le_antisymm l0 (e ▸ l1)
    have e2 : g1 = g := e1 ▸ e
    obtain ⟨a1, a2, a3⟩ := f1 e2
    obtain ⟨b1, b2, b3⟩ := f0 e1
    refine ⟨a1.trans b1, a2.trans b2, fun id b row hm hr => ?_⟩
    obtain ⟨row1, hr1, hl1⟩ := b3 id b row hm hr
    obtain ⟨row2, hr2, hl2⟩ := a3 id b row1 (b1.trans hm) hr1
    exact ⟨row2, hr2, hl2.trans hl1⟩

theorem FR.mono {Fr Fr' : Nat → Prop} {h h' : Heap} (h1 : ∀ id, Fr id → Fr' id) (h2 : ∀ id row, Fr id → blk h id = some row → blk h' id = some row) {z : ZV} {a : AV} (hr : FR Fr h z a) : FR Fr' h' z a := by
  induction hr with
  | val v => exact .val v
  | func f => exact .func f
  | fnil e => exact .fnil e
  | fz cell q1 q2 q3 q4 q5 q6 q7 _ ih => exact .fz cell (h1 _ q1) (h2 _ _ q1 q2) q3 q4 q5 q6 q7 ih
theorem Hdr.ext {w w' : Wd} (e : Ext w w') {i g k : Nat} {rows rows' : List (List ZV)} (h0 : w.H[i]? = some (.grow g k rows)) (hm : w'.mu i = w.mu i) (hl : rows'.length = rows.length) (hb : ∀ id b row, w.mu i = some (id, b) → blk w.h id = some row → ∃ row', blk w'.h id = some row' ∧ row'.length = row.length)
    {off len : Nat} {ex : Bool} {a : AV} (hh : Hdr w i k rows off len ex a) : Hdr w' i k rows' off len ex a := by
  rcases hh with ⟨q1, q2, q3, q4, q5⟩ | ⟨id, b, lb, ex', row, q1, q2, q3, q4, q5, q6, q7⟩
  · refine .inl ⟨hm.trans q1, List.eq_nil_of_length_eq_zero (by rw [hl, q2]; rfl), q3, q4, ?_⟩
    rcases q5 with q5 | ⟨id, o, row, r1, r2, r3, r4⟩
    · exact .inl q5
    · exact .inr ⟨id, o, row, r1, e.frm id r2, e.frb id row r2 r3, r4⟩
  · obtain ⟨row', r1, r2⟩ := hb id b row q1 q5
    exact .inr ⟨id, b, lb, ex', row', hm.trans q1, q2, by omega, q4, r1, by omega, q7⟩
theorem Jk.ext {w w' : Wd} (e : Ext w w') {i : Nat} {a : AV} (hj : Jk w i a) : Jk w' i a := fun id hid => by
  obtain ⟨h1, h2⟩ := hj id hid
  refine ⟨Nat.lt_of_lt_of_le h1 e.hl, fun i' p hp he => ?_⟩
  rcases e.mu i' p hp with ⟨p0, hp0, e0⟩ | h
  · exact h2 i' p0 hp0 (e0.trans he)
  · omega
theorem ZR.ext {w w' : Wd} (e : Ext w w') {z : ZV} {a : AV} (hr : ZR w z a) : ZR w' z a := by
  induction hr with
  | fr hf => exact .fr (hf.mono e.frm e.frb)
  | ptr h1 h2 =>
    obtain ⟨⟨cs', h3⟩, h4⟩ := e.box _ _ h1
    exact .ptr h3 (h4.trans h2)
  | own h1 h2 h3 h4 =>
    refine .own (Nat.lt_of_lt_of_le h1 e.Hl) (fun g' k rows' hg => ?_) (h3.ext e) h4
    obtain ⟨g0, r0, q1, q2, q3⟩ := e.grow _ g' k rows' h1 hg
    obtain ⟨s1, s2⟩ := h2 g0 k r0 q1
    refine ⟨Nat.le_trans s1 q2, fun he => ?_⟩
    have e1 : g0 = g' := Nat.le_antisymm q2 (he ▸ s1)
    obtain ⟨t1, t2, t3⟩ := q3 e1
    exact (s2 (he.trans e1.symm)).ext e q1 t1 t2 t3
  | eptr h1 h2 h3 =>
    refine .eptr (Nat.lt_of_lt_of_le h1 e.Hl) (fun g' k rows' hg => ?_) (h3.ext e)
    obtain ⟨g0, r0, q1, q2, q3⟩ := e.grow _ g' k rows' h1 hg
    obtain ⟨s1, s2⟩ := h2 g0 k r0 q1
    refine ⟨Nat.le_trans s1 q2, fun he => ?_⟩
    have e1 : g0 = g' := Nat.le_antisymm q2 (he ▸ s1)
    obtain ⟨t1, t2, t3⟩ := q3 e1
    obtain ⟨b, u1, u2, u3⟩ := s2 (he.trans e1.symm)
    exact ⟨b, t1.trans u1, u2, by omega⟩
  | fptr h1 h2 => exact .fptr (h1.mono e.frm e.frb) h2
  | agg hl _ ih => exact .agg hl ih
  | tuple hl _ ih => exact .tuple hl ih
  | func hl _ ih => exact .func hl ih
theorem ZRs.ext {w w' : Wd} (e : Ext w w') {zs : List ZV} {ys : List AV} (hr : ZRs w zs ys) : ZRs w' zs ys := ⟨hr.1, fun i z a h1 h2 => (hr.2 i z a h1 h2).ext e⟩

/-! ### Shapes -/
theorem ZR.val_inv {w : Wd} {v : Value} {a : AV} (hr : ZR w (.val v) a) : a = .val v := by
  cases hr with
  | fr hf => cases hf; rfl
theorem ZR.agg_inv {w : Wd} {zs : List ZV} {a : AV} (hr : ZR w (.agg zs) a) : ∃ ys, a = .agg ys ∧ ZRs w zs ys := by
  cases hr with
  | fr hf => cases hf
  | agg h1 h2 => exact ⟨_, rfl, h1, h2⟩
theorem ZR.tuple_inv {w : Wd} {zs : List ZV} {a : AV} (hr : ZR w (.tuple zs) a) : ∃ ys, a = .tuple ys ∧ ZRs w zs ys := by
  cases hr with
  | fr hf => cases hf
  | tuple h1 h2 => exact ⟨_, rfl, h1, h2⟩
theorem ZR.func_inv {w : Wd} {f : FuncId} {zs : List ZV} {a : AV} (hr : ZR w (.func f zs) a) : ∃ ys, a = .func f ys ∧ ZRs w zs ys := by
  cases hr with
  | fr hf => cases hf; exact ⟨[], rfl, rfl, fun i z a h => by simp at h⟩
  | func h1 h2 => exact ⟨_, rfl, h1, h2⟩
theorem ZR.ptr_inv {w : Wd} {i o : Nat} {a : AV} (hr : ZR w (.ptr i o) a) : ∃ id cs, a = .ptr id o ∧ w.H[i]? = some (.box cs) ∧ w.mu i = some (id, 0) := by
  cases hr with
  | fr hf => cases hf
  | ptr h1 h2 => exact ⟨_, _, rfl, h1, h2⟩
theorem ZR.fz_inv {w : Wd} {k : Nat} {ex : Bool} {rows : List (List ZV)} {a : AV} (hr : ZR w (.fz k ex rows) a) : FR w.Fr w.h (.fz k ex rows) a := by
  cases hr with
  | fr hf => exact hf
theorem ZRs.nil {w : Wd} : ZRs w [] [] := ⟨rfl, fun i z a h => by simp at h⟩
theorem ZRs.cons {w : Wd} {z : ZV} {a : AV} {zs : List ZV} {ys : List AV} (h : ZR w z a) (hs : ZRs w zs ys) : ZRs w (z :: zs) (a :: ys) := by
  refine ⟨by simp [hs.1], fun i x y hx hy => ?_⟩
  cases i with
  | zero => simp at hx hy; subst hx; subst hy; exact h
  | succ i => simp at hx hy; exact hs.2 i x y hx hy
theorem ZRs.append {w : Wd} {zs zs' : List ZV} {ys ys' : List AV} (h : ZRs w zs ys) (h' : ZRs w zs' ys') : ZRs w (zs ++ zs') (ys ++ ys') := by
  refine ⟨by simp [h.1, h'.1], fun i x y hx hy => ?_⟩
  by_cases hi : i < zs.length
  · rw [List.getElem?_append_left hi] at hx
    rw [List.getElem?_append_left (by rw [← h.1]; exact hi)] at hy
    exact h.2 i x y hx hy
  · rw [List.getElem?_append_right (by omega)] at hx
    rw [List.getElem?_append_right (by rw [← h.1]; omega), ← h.1] at hy
    exact h'.2 _ x y hx hy
theorem ZRs.take {w : Wd} {zs : List ZV} {ys : List AV} (h : ZRs w zs ys) (n : Nat) : ZRs w (zs.take n) (ys.take n) := by
  refine ⟨by simp [h.1], fun i x y hx hy => ?_⟩
  rw [List.getElem?_take] at hx hy
  split at hx
  · rw [if_pos (by assumption)] at hy; exact h.2 i x y hx hy
  · cases hx
theorem ZRs.drop {w : Wd} {zs : List ZV} {ys : List AV} (h : ZRs w zs ys) (n : Nat) : ZRs w (zs.drop n) (ys.drop n) := by
  refine ⟨by simp [h.1], fun i x y hx hy => ?_⟩
  rw [List.getElem?_drop] at hx hy
  exact h.2 _ x y hx hy
theorem ZRs.get {w : Wd} {zs : List ZV} {ys : List AV} (h : ZRs w zs ys) {i : Nat} {z : ZV} (hz : zs[i]? = some z) : ∃ a, ys[i]? = some a ∧ ZR w z a := by
  have hi : i < ys.length := by rw [← h.1]; exact (List.getElem?_eq_some_iff.1 hz).1
  exact ⟨ys[i], List.getElem?_eq_getElem hi, h.2 i z _ hz (List.getElem?_eq_getElem hi)⟩
theorem ZRs.toAgg {w : Wd} {zs : List ZV} {ys : List AV} (h : ZRs w zs ys) : ZR w (.agg zs) (.agg ys) := .agg h.1 h.2
theorem ZRs.toTuple {w : Wd} {zs : List ZV} {ys : List AV} (h : ZRs w zs ys) : ZR w (.tuple zs) (.tuple ys) := .tuple h.1 h.2
theorem ZRs.toFunc {w : Wd} {f : FuncId} {zs : List ZV} {ys : List AV} (h : ZRs w zs ys) : ZR w (.func f zs) (.func f ys) := .func h.1 h.2
theorem ZR.isCell {w : Wd} {z : ZV} {a : AV} (hr : ZR w z a) : z.isCell = a.isCell := by
  cases hr with
  | fr hf => cases hf with
    | fnil e => rcases e with rfl | ⟨rfl, _⟩ <;> rfl
    | _ => rfl
  | own _ _ _ h4 => cases a with
    | val v => rfl
    | slice => rfl
    | _ => simp [isSl] at h4
  | _ => rfl
theorem ZR.cells {w : Wd} {z : ZV} {a : AV} (hr : ZR w z a) : ZRs w z.cells a.cells := by
  have key : ∀ {z : ZV} {a : AV}, z.cells = [z] → a.cells = [a] → ZR w z a → ZRs w z.cells a.cells := fun h1 h2 h => by rw [h1, h2]; exact .cons h .nil
  cases hr with
  | fr hf =>
    have h0 := ZR.fr hf
    cases hf with
    | fnil e => rcases e with rfl | ⟨rfl, _⟩ <;> exact key rfl rfl h0
    | _ => exact key rfl rfl h0
  | own h1 h2 h3 h4 => cases a with
    | val v => exact key rfl rfl (.own h1 h2 h3 h4)
    | slice => exact key rfl rfl (.own h1 h2 h3 h4)
    | _ => simp [isSl] at h4
  | ptr h1 h2 => exact key rfl rfl (.ptr h1 h2)
  | eptr h1 h2 h3 => exact key rfl rfl (.eptr h1 h2 h3)
  | fptr h1 h2 => exact key rfl rfl (.fptr h1 h2)
  | agg h1 h2 => exact ⟨h1, h2⟩
  | tuple h1 h2 => exact key rfl rfl (.tuple h1 h2)
  | func h1 h2 => exact key rfl rfl (.func h1 h2)
theorem ZRs.allCell {w : Wd} : ∀ {zs : List ZV} {ys : List AV}, ZRs w zs ys → zs.all ZV.isCell = ys.all AV.isCell
  | [], [], _ => rfl
  | [], _ :: _, h => by have := h.1; simp at this
  | _ :: _, [], h => by have := h.1; simp at this
  | z :: zs, a :: ys, h => by
    simp only [List.all_cons]
    rw [(h.2 0 z a rfl rfl).isCell, ZRs.allCell ⟨by simpa using h.1, fun i x y hx hy => h.2 (i + 1) x y (by simpa using hx) (by simpa using hy)⟩]

/-! ### The whole state -/
structure ZRel (fl L : Nat → Bool) (w : Wd) : Prop where
  fresh : ∀ id, w.h.length ≤ id → fl id = true
  lfresh : ∀ i, w.H.length ≤ i → L i = true
  frlt : ∀ id, w.Fr id → id < w.h.length
  dom : ∀ i p, w.mu i = some p → i < w.H.length
  inj : ∀ i j p q, w.mu i = some p → w.mu j = some q → p.1 = q.1 → i = j
  nfr : ∀ i p, w.mu i = some p → ¬ w.Fr p.1 ∧ p.1 < w.h.length
  wr : ∀ i p, w.mu i = some p → L i = true → fl p.1 = true
  box : ∀ (i : Nat) cs, w.H[i]? = some (.box cs) → ∃ id row, w.mu i = some (id, 0) ∧ blk w.h id = some row ∧ ZRs w cs row
  grow : ∀ (i g k : Nat) rows, w.H[i]? = some (.grow g k rows) → (∀ r ∈ rows, r.length = k) ∧ ((w.mu i = none ∧ rows = []) ∨ ∃ id b row, w.mu i = some (id, b) ∧ blk w.h id = some row ∧ b + rows.length * k ≤ row.length ∧ ZRs w rows.flatten ((row.drop b).take (rows.length * k)))
theorem FR.ids {Fr : Nat → Prop} {h : Heap} {z : ZV} {a : AV} (hr : FR Fr h z a) : ∀ id ∈ idsOf a, Fr id := by
  cases hr with
  | val v => intro id hi; simp [idsOf] at hi
  | func f => intro id hi; simp [idsOf] at hi
  | fnil e => rcases e with rfl | ⟨rfl, _⟩ <;> (intro id hi; simp [idsOf] at hi)
  | fz cell q1 => intro id hi; simp [idsOf] at hi; exact hi ▸ q1
/-- Whose block a value speaks of. -/
def owners : ZV → List Nat
  | .own i _ _ _ _ => [i]
  | .ptr i _ => [i]
  | .eptr i _ _ _ => [i]
  | _ => []
theorem ZR.owner {fl L : Nat → Bool} {w : Wd} (r : ZRel fl L w) {z : ZV} {a : AV} (hr : ZR w z a) : ∀ id ∈ idsOf a, id < w.h.length ∧ ∀ i p, w.mu i = some p → p.1 = id → i ∈ owners z := by
  cases hr with
  | fr hf => exact fun id hi => ⟨r.frlt _ (hf.ids id hi), fun i p hp e => absurd (e ▸ hf.ids id hi) (r.nfr i p hp).1⟩
  | ptr h1 h2 =>
    intro id hi
    simp [idsOf] at hi; subst hi
    exact ⟨(r.nfr _ _ h2).2, fun i p hp e => by rw [r.inj i _ p _ hp h2 e]; simp [owners]⟩
  | own _ _ h3 => exact fun id hi => ⟨(h3 id hi).1, fun i p hp e => by rw [(h3 id hi).2 i p hp e]; simp [owners]⟩
  | eptr _ _ h3 => exact fun id hi => ⟨(h3 id hi).1, fun i p hp e => by rw [(h3 id hi).2 i p hp e]; simp [owners]⟩
  | fptr h1 h2 =>
    intro id hi
    simp [idsOf] at hi
    have : w.Fr id := by
      cases h1 with
      | fnil e => rcases e with h | ⟨h, _⟩ <;> cases h
      | fz cell q1 => rw [hi]; exact q1
    exact ⟨r.frlt _ this, fun i p hp e => absurd (e ▸ this) (r.nfr i p hp).1⟩
  | agg _ _ => intro id hi; simp [idsOf] at hi
  | tuple _ _ => intro id hi; simp [idsOf] at hi
  | func _ _ => intro id hi; simp [idsOf] at hi
end Go.Proofs.Ytpmmiaadfnildaa
