/-
  AM and the program's machine: the relation of values and of memory.
-/
import Derived.Test.YtpmmiaadfnildaaAmA
import Derived.Laws.CopyRow
import Derived.Laws.Append
namespace Go.Proofs.Ytpmmiaadfnildaa
open Go
set_option linter.unusedVariables false
set_option linter.unusedSimpArgs false

structure Base where
  b : Nat
  off : Nat
  room : Nat
abbrev Map := Nat → Option Base

inductive VR (m : Map) : AV → Value → Prop where
  | val {v : Value} (h : plainV v = true) : VR m (.val v) v
  | ptr {id off : Nat} {b : Base} (h : m id = some b) : VR m (.ptr id off) (.pointer (some ⟨b.b, b.off + off, none⟩))
  | slice {id off len lb : Nat} {ex : Bool} {k : Nat} {b : Base} {o c : Nat} (h : m id = some b) (ho : lb ≠ 0 → o = off) (h1 : len ≤ lb) (h2 : lb ≤ c) (h3 : ex = true → c = lb) (h4 : o + c * k ≤ b.room) :
      VR m (.slice id off len lb ex k) (.slice (some ⟨b.b, b.off + o, none⟩) len c)
  | agg {cs : List AV} {vs : Array Value} (hl : cs.length = vs.size) (h : ∀ (i : Nat) (x : AV) (y : Value), cs[i]? = some x → vs[i]? = some y → VR m x y) : VR m (.agg cs) (.agg vs)
  | tuple {cs : List AV} {vs : Array Value} (hl : cs.length = vs.size) (h : ∀ (i : Nat) (x : AV) (y : Value), cs[i]? = some x → vs[i]? = some y → VR m x y) : VR m (.tuple cs) (.tuple vs)
  | func {f : FuncId} {cs : List AV} {vs : Array Value} (hl : cs.length = vs.size) (h : ∀ (i : Nat) (x : AV) (y : Value), cs[i]? = some x → vs[i]? = some y → VR m x y) : VR m (.func f cs) (.func (.func f) #[] vs)
  | hole {ad : Addr} {c : Nat} : VR m .hole (.slice (some ad) 0 c)

def VRs (m : Map) (xs : List AV) (ys : List Value) : Prop := xs.length = ys.length ∧ ∀ (i : Nat) (x : AV) (y : Value), xs[i]? = some x → ys[i]? = some y → VR m x y

theorem VR.mono {m m' : Map} (hm : ∀ id b, m id = some b → m' id = some b) {v : AV} {v' : Value} (h : VR m v v') : VR m' v v' := by
  induction h with
  | val h => exact .val h
  | ptr h => exact .ptr (hm _ _ h)
  | slice h ho h1 h2 h3 h4 => exact .slice (hm _ _ h) ho h1 h2 h3 h4
  | agg hl h ih => exact .agg hl ih
  | tuple hl h ih => exact .tuple hl ih
  | func hl h ih => exact .func hl ih
  | hole => exact .hole

theorem VRs.mono {m m' : Map} (hm : ∀ id b, m id = some b → m' id = some b) {v : List AV} {v' : List Value} (h : VRs m v v') : VRs m' v v' :=
  ⟨h.1, fun i x y hx hy => (h.2 i x y hx hy).mono hm⟩
theorem VRs.nil {m : Map} : VRs m [] [] := ⟨rfl, fun i x y hx => by simp at hx⟩
theorem VRs.cons {m : Map} {x : AV} {y : Value} {xs : List AV} {ys : List Value} (h : VR m x y) (hs : VRs m xs ys) : VRs m (x :: xs) (y :: ys) := by
  refine ⟨by simp [hs.1], fun i a b ha hb => ?_⟩
  cases i with
  | zero => simp at ha hb; subst ha; subst hb; exact h
  | succ i => simp at ha hb; exact hs.2 i a b ha hb
theorem VRs.append {m : Map} {xs xs' : List AV} {ys ys' : List Value} (h : VRs m xs ys) (h' : VRs m xs' ys') : VRs m (xs ++ xs') (ys ++ ys') := by
  refine ⟨by simp [h.1, h'.1], fun i a b ha hb => ?_⟩
  rw [List.getElem?_append] at ha hb
  rw [← h.1] at hb
  split at ha
  · rename_i hi; rw [if_pos hi] at hb; exact h.2 i a b ha hb
  · rename_i hi; rw [if_neg hi] at hb; exact h'.2 _ a b ha hb
theorem VRs.take {m : Map} {xs : List AV} {ys : List Value} (h : VRs m xs ys) (n : Nat) : VRs m (xs.take n) (ys.take n) := by
  refine ⟨by simp [h.1], fun i a b ha hb => ?_⟩
  rw [List.getElem?_take] at ha hb
  split at ha
  · rename_i hi; rw [if_pos hi] at hb; exact h.2 i a b ha hb
  · cases ha
theorem VRs.drop {m : Map} {xs : List AV} {ys : List Value} (h : VRs m xs ys) (n : Nat) : VRs m (xs.drop n) (ys.drop n) := by
  refine ⟨by simp [h.1], fun i a b ha hb => ?_⟩
  rw [List.getElem?_drop] at ha hb
  exact h.2 _ a b ha hb
theorem VRs.of_agg {m : Map} {cs : List AV} {v : Value} (h : VR m (.agg cs) v) : ∃ vs, v = .agg vs ∧ VRs m cs vs.toList := by
  cases h with
  | agg hl h => exact ⟨_, rfl, by simpa using hl, by simpa using h⟩
theorem VRs.agg {m : Map} {cs : List AV} {vs : Array Value} (h : VRs m cs vs.toList) : VR m (.agg cs) (.agg vs) := .agg (by simpa using h.1) (by simpa using h.2)
theorem VRs.tuple {m : Map} {cs : List AV} {vs : Array Value} (h : VRs m cs vs.toList) : VR m (.tuple cs) (.tuple vs) := .tuple (by simpa using h.1) (by simpa using h.2)
theorem VRs.func {m : Map} {f : FuncId} {cs : List AV} {vs : Array Value} (h : VRs m cs vs.toList) : VR m (.func f cs) (.func (.func f) #[] vs) := .func (by simpa using h.1) (by simpa using h.2)
theorem VRs.get {m : Map} {cs : List AV} {vs : List Value} (h : VRs m cs vs) {i : Nat} {x : AV} (hx : cs[i]? = some x) : ∃ y, vs[i]? = some y ∧ VR m x y := by
  have hi : i < cs.length := by
    rw [List.getElem?_eq_some_iff] at hx
    exact hx.1
  exact ⟨vs[i]'(by rw [← h.1]; exact hi), List.getElem?_eq_getElem _, h.2 i _ _ hx (List.getElem?_eq_getElem _)⟩
theorem VRs.plains {m : Map} : ∀ (vs : List Value), vs.all plainV = true → VRs m (vs.map .val) vs
  | [], _ => .nil
  | v :: r, h => by
    simp only [List.all_cons, Bool.and_eq_true] at h
    exact .cons (.val h.1) (VRs.plains r h.2)
theorem VRs.no {m : Map} : VR m .no (.tuple #[]) := .tuple rfl (fun i x y hx => by simp at hx)

theorem VR.oneCell {m : Map} {v : AV} {v' : Value} (h : VR m v v') (hc : v.isCell = true) : v'.oneCell' = true := by
  cases h with
  | val h => cases v' <;> simp_all [plainV, Value.oneCell']
  | ptr h => rfl
  | slice => rfl
  | agg => simp [AV.isCell] at hc
  | tuple => simp [AV.isCell] at hc
  | func => rfl
  | hole => rfl

/-- The cells of a value. -/
theorem VR.cells {m : Map} {v : AV} {v' : Value} (h : VR m v v') : VRs m v.cells v'.cells.toList := by
  cases h with
  | val h => cases v' <;> first | (simp [plainV] at h; done) | exact .cons (.val h) .nil
  | ptr h => exact .cons (.ptr h) .nil
  | slice h ho h1 h2 h3 h4 => exact .cons (.slice h ho h1 h2 h3 h4) .nil
  | agg hl h => exact ⟨by simpa [AV.cells, Value.cells] using hl, by simpa [AV.cells, Value.cells] using h⟩
  | tuple hl h => exact .cons (.tuple hl h) .nil
  | func hl h => exact .cons (.func hl h) .nil
  | hole => exact .cons .hole .nil

theorem ofConst_spec {m : Map} {v : Value} {a : AV} (h : ofConst v = some a) : VR m a v := by
  unfold ofConst at h
  split at h
  · rename_i cs
    split at h
    · rename_i hc
      injection h with h; subst h
      exact VRs.agg (VRs.plains _ hc)
    · cases h
  · rename_i vs
    split at h
    · rename_i hc
      injection h with h; subst h
      have : vs = #[] := Array.eq_empty_of_size_eq_zero hc
      subst this
      exact VRs.no
    · cases h
  · rename_i f a b
    split at h
    · rename_i hc
      injection h with h; subst h
      obtain rfl : a = #[] := Array.eq_empty_of_size_eq_zero hc.1
      obtain rfl : b = #[] := Array.eq_empty_of_size_eq_zero hc.2
      exact VRs.func .nil
    · cases h
  · split at h
    · rename_i hc
      injection h with h; subst h
      exact .val hc
    · cases h

theorem cOpd_spec {m : Map} {s : Slots} {a : Act} {x : Operand} {y : Opd} (h : cOpd x = some y) (hs : ∀ t, x = .tmp t → VR m (s t) (a.tmps.getD t undef)) : VR m (y.ev s) (a.eval x) := by
  cases x with
  | tmp t =>
    simp only [cOpd, Option.some.injEq] at h; subst h
    exact hs t rfl
  | const v =>
    simp only [cOpd, Option.map_eq_some_iff] at h
    obtain ⟨b, hb, rfl⟩ := h
    exact ofConst_spec hb
  | global g => simp [cOpd] at h
  | func f =>
    simp only [cOpd, Option.some.injEq] at h; subst h
    exact VRs.func (vs := #[]) .nil

/-! ### Memory -/
structure Rel (n0 B0 : Nat) (m : Map) (g : Nat → Option (List AV)) (w : World) : Prop where
  base : B0 ≤ w.heap.size
  lt : ∀ id b, m id = some b → b.b < w.heap.size
  cell : ∀ id l b, g id = some l → m id = some b → ∀ i v, l[i]? = some v → ∃ v', w.cell? ⟨b.b, b.off + i, none⟩ = some v' ∧ VR m v v'
  one : ∀ id l b, g id = some l → m id = some b → ∀ v ∈ l, v.isCell = true
  own : ∀ id l b, n0 ≤ id → g id = some l → m id = some b → B0 ≤ b.b ∧ l.length ≤ b.room ∧ ∃ c e, w.heap[b.b]? = some (.cells c e (0, 0)) ∧ b.off + b.room ≤ c.size
  ro : ∀ id b, id < n0 → m id = some b → b.b < B0
  inj : ∀ i j li lj bi bj, n0 ≤ i → n0 ≤ j → g i = some li → g j = some lj → m i = some bi → m j = some bj → bi.b = bj.b → i = j

structure Rels (n0 B0 : Nat) (m : Map) (h : Heap) (w : World) : Prop where
  rel : Rel n0 B0 m (blk h) w
  dom : ∀ id b, m id = some b → id < h.length
  n0 : n0 ≤ h.length

structure Post (n0 B0 : Nat) (fl : Nat → Bool) (m : Map) (h : Heap) (w : World) (m' : Map) (h' : Heap) (w' : World) : Prop where
  rels : Rels n0 B0 m' h' w'
  len : h.length ≤ h'.length
  keep : ∀ id, id < h.length → m' id = m id
  os : w'.os = w.os
  tape : w'.tape = w.tape
  output : w'.output = w.output
  size : w.heap.size ≤ w'.heap.size
  frame : ∀ x, x < w.heap.size → (∀ id l b, fl id = true → blk h id = some l → m id = some b → b.b ≠ x) → w'.heap[x]? = w.heap[x]?
  fresh : ∀ id b, h.length ≤ id → m' id = some b → w.heap.size ≤ b.b ∨ ∃ j l c, fl j = true ∧ blk h j = some l ∧ m j = some c ∧ c.b = b.b
  unt : ∀ id, id < h.length → (m id = none ∨ fl id = false) → h'[id]? = h[id]?
  dead : ∀ id, id < h.length → blk h id = none → blk h' id = none
  new : ∀ id, h.length ≤ id → id < h'.length → m' id ≠ none

theorem Post.ext {n0 B0 : Nat} {fl : Nat → Bool} {m m' : Map} {h h' : Heap} {w w' : World} (p : Post n0 B0 fl m h w m' h' w') (hd : ∀ id b, m id = some b → id < h.length) (id : Nat) (b : Base) (hb : m id = some b) : m' id = some b := by
  rw [p.keep id (hd id b hb)]; exact hb

theorem Post.refl {n0 B0 : Nat} {fl : Nat → Bool} {m : Map} {h : Heap} {w : World} (r : Rels n0 B0 m h w) : Post n0 B0 fl m h w m h w :=
  ⟨r, Nat.le_refl _, fun _ _ => rfl, rfl, rfl, rfl, Nat.le_refl _, fun _ _ _ => rfl, fun id b hid hb => absurd (r.dom id b hb) (by omega), fun _ _ _ => rfl, fun _ _ h => h, fun id h1 h2 => absurd h2 (by omega)⟩

theorem blk_get {h : Heap} {id : Nat} {l : List AV} : blk h id = some l ↔ h[id]? = some (some l) := by
  unfold blk
  split
  · rename_i l' hl; rw [hl]; simp
  · rename_i hn
    constructor
    · intro h; cases h
    · intro h'; exact absurd h' (by simpa using hn l)
theorem blk_congr {h h' : Heap} {i j : Nat} (e : h[i]? = h'[j]?) : blk h i = blk h' j := by unfold blk; rw [e]
theorem blk_lt {h : Heap} {id : Nat} {l : List AV} (hb : blk h id = some l) : id < h.length := by
  rw [blk_get] at hb
  rw [List.getElem?_eq_some_iff] at hb
  exact hb.1

theorem Post.trans {n0 B0 : Nat} {fl : Nat → Bool} {m m' m'' : Map} {h h' h'' : Heap} {w w' w'' : World} (hd : ∀ id b, m id = some b → id < h.length)
    (p : Post n0 B0 fl m h w m' h' w') (q : Post n0 B0 fl m' h' w' m'' h'' w'') : Post n0 B0 fl m h w m'' h'' w'' := by
  have lift : ∀ j l c, fl j = true → blk h' j = some l → m' j = some c → (∃ j l c', fl j = true ∧ blk h j = some l ∧ m j = some c' ∧ c'.b = c.b) ∨ w.heap.size ≤ c.b := by
    intro j l c hj hl hc
    by_cases hlt : j < h.length
    · left
      cases hb : blk h j with
      | none => rw [p.dead j hlt hb] at hl; cases hl
      | some l0 => exact ⟨j, l0, c, hj, hb, by rw [← p.keep j hlt]; exact hc, rfl⟩
    · rcases p.fresh j c (by omega) hc with h1 | ⟨j', l', c', h1, h2, h3, h4⟩
      · exact .inr h1
      · exact .inl ⟨j', l', c', h1, h2, h3, h4⟩
  refine ⟨q.rels, Nat.le_trans p.len q.len, fun id hid => (q.keep id (Nat.lt_of_lt_of_le hid p.len)).trans (p.keep id hid), q.os.trans p.os, q.tape.trans p.tape, q.output.trans p.output, Nat.le_trans p.size q.size, ?_, ?_, ?_, ?_, ?_⟩
  · intro x hx hn
    rw [q.frame x (Nat.lt_of_lt_of_le hx p.size) ?_, p.frame x hx hn]
    intro id l b hid hl hb he
    rcases lift id l b hid hl hb with ⟨j, l0, c, h1, h2, h3, h4⟩ | h1
    · exact hn j l0 c h1 h2 h3 (h4.trans he)
    · omega
  · intro id b hid hb
    by_cases hlt : id < h'.length
    · rw [q.keep id hlt] at hb
      exact p.fresh id b hid hb
    · rcases q.fresh id b (by omega) hb with h1 | ⟨j, l, c, h1, h2, h3, h4⟩
      · exact .inl (Nat.le_trans p.size h1)
      · rcases lift j l c h1 h2 h3 with ⟨j, l0, c', h5, h6, h7, h8⟩ | h5
        · exact .inr ⟨j, l0, c', h5, h6, h7, h8.trans h4⟩
        · exact .inl (by omega)
  · intro id hid hh
    rw [q.unt id (Nat.lt_of_lt_of_le hid p.len) (by rw [p.keep id hid]; exact hh), p.unt id hid hh]
  · intro id hid hb
    exact q.dead id (Nat.lt_of_lt_of_le hid p.len) (p.dead id hid hb)
  · intro id h1 h2
    by_cases hlt : id < h'.length
    · rw [q.keep id hlt]; exact p.new id h1 hlt
    · exact q.new id (by omega) h2

/-- A smaller permission. -/
theorem Post.mono {n0 B0 : Nat} {fl fl' : Nat → Bool} (hf : ∀ i, fl i = true → fl' i = true) {m m' : Map} {h h' : Heap} {w w' : World} (p : Post n0 B0 fl m h w m' h' w') : Post n0 B0 fl' m h w m' h' w' :=
  ⟨p.rels, p.len, p.keep, p.os, p.tape, p.output, p.size, fun x hx hn => p.frame x hx fun id l b h1 => hn id l b (hf id h1),
    fun id b hid hb => (p.fresh id b hid hb).imp (fun h => h) fun ⟨j, l, c, h1, h2⟩ => ⟨j, l, c, hf j h1, h2⟩,
    fun id hid hh => p.unt id hid (hh.imp (fun h => h) fun h => by
      cases h1 : fl id with
      | false => rfl
      | true => rw [hf id h1] at h; cases h), p.dead, p.new⟩

/-! ### Reading -/
theorem rel_cells {n0 B0 : Nat} {m : Map} {g : Nat → Option (List AV)} {w : World} (r : Rel n0 B0 m g w) {id : Nat} {l : List AV} {b : Base} (hl : g id = some l) (hb : m id = some b) {off n : Nat} (hn : off + n ≤ l.length) :
    ∃ vs : List Value, vs.length = n ∧ (∀ j v, vs[j]? = some v → w.cell? ((⟨b.b, b.off + off, none⟩ : Addr).add j) = some v) ∧ VRs m ((l.drop off).take n) vs := by
  induction n with
  | zero => exact ⟨[], rfl, fun j v h => by simp at h, by simpa using VRs.nil⟩
  | succ n ih =>
    obtain ⟨vs, h1, h2, h3⟩ := ih (by omega)
    obtain ⟨v', hv, hr⟩ := r.cell id l b hl hb (off + n) l[off + n] (List.getElem?_eq_getElem (by omega))
    refine ⟨vs ++ [v'], by simp [h1], fun j v hj => ?_, ?_⟩
    · rw [List.getElem?_append] at hj
      split at hj
      · exact h2 j v hj
      · have hj0 : j = vs.length := by
          rw [List.getElem?_eq_some_iff] at hj
          obtain ⟨hj, _⟩ := hj
          simp at hj; omega
        subst hj0
        simp at hj; subst hj
        have e : ((⟨b.b, b.off + off, none⟩ : Addr).add vs.length) = ⟨b.b, b.off + (off + n), none⟩ := by
          unfold Addr.add
          split
          · rename_i h0; rw [h1] at h0; simp [h0]
          · rw [h1]; simp [Nat.add_assoc]
        rw [e]; exact hv
    · rw [List.take_add_one]
      refine h3.append ?_
      rw [List.getElem?_drop, List.getElem?_eq_getElem (by omega)]
      exact .cons hr .nil
end Go.Proofs.Ytpmmiaadfnildaa
