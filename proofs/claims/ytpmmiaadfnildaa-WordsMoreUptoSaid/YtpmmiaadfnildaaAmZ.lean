/-
  Slices as lists, in AM.
-/
import Derived.Test.YtpmmiaadfnildaaAmY
namespace Go.Proofs.Ytpmmiaadfnildaa
open Go Go.RowKit
set_option linter.unusedVariables false
set_option linter.unusedSimpArgs false

/-- The slice v has n elements of k cells; cs: all their cells. -/
def Sl (h : Heap) (k : Nat) (v : AV) (cs : List AV) (n : Nat) : Prop := cs.length = n * k ∧
  ((n = 0 ∧ (v = .nil ∨ v = .hole)) ∨ ∃ id off lb ex row, v = .slice id off n lb ex k ∧ n ≤ lb ∧ blk h id = some row ∧ off + n * k ≤ row.length ∧ (row.drop off).take (n * k) = cs)

theorem Sl.len {h : Heap} {k n : Nat} {v : AV} {cs : List AV} (hs : Sl h k v cs n) : lenA v = some n := by
  obtain ⟨_, ⟨rfl, rfl | rfl⟩ | ⟨id, off, lb, ex, row, rfl, _⟩⟩ := hs <;> rfl
theorem Sl.ext {h : Heap} {k n : Nat} {v : AV} {cs : List AV} (e : Heap) (hs : Sl h k v cs n) : Sl (h ++ e) k v cs n := by
  obtain ⟨h0, h1 | ⟨id, off, lb, ex, row, h1, h2, h3, h4⟩⟩ := hs
  · exact ⟨h0, .inl h1⟩
  · exact ⟨h0, .inr ⟨id, off, lb, ex, row, h1, h2, blk_ext e h3, h4⟩⟩
theorem Sl.row {h : Heap} {k n : Nat} {v : AV} {cs : List AV} (hs : Sl h k v cs n) : rowOf h k v = some (n, cs) := by
  obtain ⟨h0, ⟨rfl, hv⟩ | ⟨id, off, lb, ex, row, rfl, h2, h3, h4, h5⟩⟩ := hs
  · have : cs = [] := List.eq_nil_of_length_eq_zero (by simpa using h0)
    subst this
    rcases hv with rfl | rfl <;> rfl
  · simp only [rowOf, rd, h3, h4, if_true, h5]
theorem Sl.cong {h h' : Heap} {k n : Nat} {v : AV} {cs : List AV} (hs : Sl h k v cs n) (hb : ∀ id off lb ex row, v = .slice id off n lb ex k → blk h id = some row → blk h' id = some row) : Sl h' k v cs n := by
  obtain ⟨h0, h1 | ⟨id, off, lb, ex, row, h1, h2, h3, h4⟩⟩ := hs
  · exact ⟨h0, .inl h1⟩
  · exact ⟨h0, .inr ⟨id, off, lb, ex, row, h1, h2, hb id off lb ex row h1 h3, h4⟩⟩
/-- An element's cells, one by one. -/
theorem Sl.at {h : Heap} {k n : Nat} {v : AV} {cs : List AV} (hs : Sl h k v cs n) {j : Nat} (hj : j < n) : ∃ id off lb ex, v = .slice id off n lb ex k ∧ n ≤ lb ∧ ∀ i (hi : i < k) (hc : j * k + i < cs.length), rd1 h id (off + j * k + i) = some cs[j * k + i] := by
  obtain ⟨h0, ⟨rfl, hv⟩ | ⟨id, off, lb, ex, row, rfl, h2, h3, h4, h5⟩⟩ := hs
  · omega
  · refine ⟨id, off, lb, ex, rfl, h2, fun i hi hc => ?_⟩
    simp only [rd1, h3]
    have hlt : j * k + i < n * k := by rw [← h0]; exact hc
    have e : cs[j * k + i]? = some cs[j * k + i] := List.getElem?_eq_getElem hc
    rw [← e, ← h5, List.getElem?_take, if_pos hlt, List.getElem?_drop, Nat.add_assoc]
/-- The one cell of an element. -/
theorem Sl.at1 {h : Heap} {n : Nat} {v : AV} {cs : List AV} (hs : Sl h 1 v cs n) {j : Nat} (hj : j < cs.length) : ∃ id off lb ex, v = .slice id off n lb ex 1 ∧ n ≤ lb ∧ rd1 h id (off + j) = some cs[j] := by
  have h0 := hs.1
  obtain ⟨id, off, lb, ex, h1, h2, h3⟩ := hs.at (j := j) (by omega)
  refine ⟨id, off, lb, ex, h1, h2, ?_⟩
  have := h3 0 (by omega) (by omega)
  simpa using this
/-- An element read. -/
theorem Sl.atK {h : Heap} {k n : Nat} {v : AV} {cs : List AV} (hs : Sl h k v cs n) {j : Nat} (hj : j < n) : ∃ id off lb ex, v = .slice id off n lb ex k ∧ n ≤ lb ∧ rd h id (off + j * k) k = some ((cs.drop (j * k)).take k) := by
  obtain ⟨h0, ⟨rfl, hv⟩ | ⟨id, off, lb, ex, row, rfl, h2, h3, h4, h5⟩⟩ := hs
  · omega
  · refine ⟨id, off, lb, ex, rfl, h2, ?_⟩
    have : (j + 1) * k ≤ n * k := Nat.mul_le_mul_right _ (by omega)
    rw [Nat.add_mul] at this
    simp only [rd, h3]
    rw [if_pos (by omega), ← h5, List.drop_take, List.drop_drop, List.take_take, Nat.min_eq_left (by omega)]

theorem Sl.cell {h : Heap} {k n : Nat} {v : AV} {cs : List AV} (hs : Sl h k v cs n) : v.isCell = true := by
  obtain ⟨_, ⟨rfl, rfl | rfl⟩ | ⟨id, off, lb, ex, row, rfl, _⟩⟩ := hs <;> rfl
theorem rd1_ext {h : Heap} {id off : Nat} {v : AV} (e : Heap) (hr : rd1 h id off = some v) : rd1 (h ++ e) id off = some v := by
  unfold rd1 at hr ⊢
  split at hr
  · rename_i l hl; rw [blk_ext e hl]; exact hr
  · cases hr
/-- A list of whole numbers. -/
def IL (h : Heap) (v : AV) (l : List Int) : Prop := Sl h 1 v (l.map I64) l.length
def BL (h : Heap) (v : AV) (l : List Bool) : Prop := Sl h 1 v (l.map BV) l.length
/-- A list of lists. -/
def LL (h : Heap) (v : AV) (ls : List (List Int)) : Prop := ∃ vs : List AV, vs.length = ls.length ∧ Sl h 1 v vs ls.length ∧ ∀ i (hi : i < ls.length) (hv : i < vs.length), IL h vs[i] ls[i]
theorem IL.ext {h : Heap} {v : AV} {l : List Int} (e : Heap) (hs : IL h v l) : IL (h ++ e) v l := Sl.ext e hs
theorem BL.ext {h : Heap} {v : AV} {l : List Bool} (e : Heap) (hs : BL h v l) : BL (h ++ e) v l := Sl.ext e hs
theorem LL.ext {h : Heap} {v : AV} {l : List (List Int)} (e : Heap) (hs : LL h v l) : LL (h ++ e) v l :=
  let ⟨vs, h1, h2, h3⟩ := hs; ⟨vs, h1, h2.ext e, fun i hi hv => (h3 i hi hv).ext e⟩
theorem IL.at {h : Heap} {v : AV} {l : List Int} (hs : IL h v l) {j : Nat} (hj : j < l.length) : ∃ id off lb ex, v = .slice id off l.length lb ex 1 ∧ l.length ≤ lb ∧ rd1 h id (off + j) = some (I64 l[j]) := by
  obtain ⟨id, off, lb, ex, h1, h2, h3⟩ := Sl.at1 hs (j := j) (by simpa using hj)
  exact ⟨id, off, lb, ex, h1, h2, by simpa using h3⟩
theorem BL.at {h : Heap} {v : AV} {l : List Bool} (hs : BL h v l) {j : Nat} (hj : j < l.length) : ∃ id off lb ex, v = .slice id off l.length lb ex 1 ∧ l.length ≤ lb ∧ rd1 h id (off + j) = some (BV l[j]) := by
  obtain ⟨id, off, lb, ex, h1, h2, h3⟩ := Sl.at1 hs (j := j) (by simpa using hj)
  exact ⟨id, off, lb, ex, h1, h2, by simpa using h3⟩
theorem LL.at {h : Heap} {v : AV} {l : List (List Int)} (hs : LL h v l) {j : Nat} (hj : j < l.length) : ∃ id off lb ex u, v = .slice id off l.length lb ex 1 ∧ l.length ≤ lb ∧ rd1 h id (off + j) = some u ∧ IL h u l[j] := by
  obtain ⟨vs, h1, h2, h3⟩ := hs
  obtain ⟨id, off, lb, ex, h4, h5, h6⟩ := Sl.at1 h2 (j := j) (by omega)
  exact ⟨id, off, lb, ex, _, h4, h5, h6, h3 j hj (by omega)⟩

theorem LL.len {h : Heap} {v : AV} {l : List (List Int)} (hs : LL h v l) : lenA v = some l.length := by obtain ⟨vs, _, h2, _⟩ := hs; exact h2.len
theorem LL.cell {h : Heap} {v : AV} {l : List (List Int)} (hs : LL h v l) : v.isCell = true := by obtain ⟨vs, _, h2, _⟩ := hs; exact h2.cell
theorem IL.len {h : Heap} {v : AV} {l : List Int} (hs : IL h v l) : lenA v = some l.length := Sl.len hs
theorem IL.cell {h : Heap} {v : AV} {l : List Int} (hs : IL h v l) : v.isCell = true := Sl.cell hs
theorem BL.len {h : Heap} {v : AV} {l : List Bool} (hs : BL h v l) : lenA v = some l.length := Sl.len hs
theorem BL.cell {h : Heap} {v : AV} {l : List Bool} (hs : BL h v l) : v.isCell = true := Sl.cell hs
theorem IL.atE {h : Heap} {v : AV} {l : List Int} (hs : IL h v l) {j : Nat} (hj : j < l.length) : ∃ id off lb ex, v = .slice id off l.length lb ex 1 ∧ ∀ e, rd1 (h ++ e) id (off + j) = some (I64 l[j]) := by
  obtain ⟨id, off, lb, ex, h1, h2, h3⟩ := hs.at hj
  exact ⟨id, off, lb, ex, h1, fun e => rd1_ext e h3⟩
theorem BL.atE {h : Heap} {v : AV} {l : List Bool} (hs : BL h v l) {j : Nat} (hj : j < l.length) : ∃ id off lb ex, v = .slice id off l.length lb ex 1 ∧ ∀ e, rd1 (h ++ e) id (off + j) = some (BV l[j]) := by
  obtain ⟨id, off, lb, ex, h1, h2, h3⟩ := hs.at hj
  exact ⟨id, off, lb, ex, h1, fun e => rd1_ext e h3⟩
theorem LL.atE {h : Heap} {v : AV} {l : List (List Int)} (hs : LL h v l) {j : Nat} (hj : j < l.length) : ∃ id off lb ex u, v = .slice id off l.length lb ex 1 ∧ (∀ e, rd1 (h ++ e) id (off + j) = some u) ∧ IL h u l[j] := by
  obtain ⟨id, off, lb, ex, u, h1, h2, h3, h4⟩ := hs.at hj
  exact ⟨id, off, lb, ex, u, h1, fun e => rd1_ext e h3, h4⟩
/-! ### From a law's arguments -/
theorem AHas.sl {h : Heap} {by_ : Nat} {e : Ty} {v : AV} {l : List e.val} (hh : AHas h (.slice by_ e) [v] l) : ∃ cs, Sl h e.size v cs l.length ∧ ∀ i (hi : i < l.length), AHas h e ((cs.drop (i * e.size)).take e.size) l[i] := by
  rcases hh with ⟨hv, rfl⟩ | ⟨id, row, hv, h1, h2, h3, h4⟩
  · refine ⟨[], ⟨by simp, .inl ⟨rfl, ?_⟩⟩, fun i hi => absurd hi (by simp)⟩
    rcases hv with hv | hv <;> (injection hv with hv _; subst hv)
    · exact .inl rfl
    · exact .inr rfl
  · injection hv with hv _
    subst hv
    exact ⟨row, ⟨h2, .inr ⟨id, 0, l.length, false, row, rfl, Nat.le_refl _, h1, by omega, by rw [List.drop_zero, List.take_of_length_le (by omega)]⟩⟩, h4⟩
theorem AHas.slice_one {h : Heap} {by_ : Nat} {e : Ty} {cs : List AV} {l : List e.val} (hh : AHas h (.slice by_ e) cs l) : ∃ v, cs = [v] := by
  rcases hh with ⟨rfl | rfl, _⟩ | ⟨id, row, rfl, _⟩ <;> exact ⟨_, rfl⟩
theorem AHas.il {h : Heap} {by_ : Nat} {v : AV} {l : List Int} (hh : AHas h (.slice by_ (.int .i64)) [v] l) : IL h v l := by
  obtain ⟨cs, h1, h2⟩ := hh.sl
  have e : cs = l.map I64 := by
    have hl := h1.1
    simp at hl
    apply List.ext_getElem (by simp [hl])
    intro i hi hi'
    have := (h2 i (by omega)).1
    simp only [Ty.size, Nat.mul_one] at this
    rw [List.drop_eq_getElem_cons hi] at this
    simp only [List.take_succ_cons, List.take_zero, List.cons.injEq, and_true] at this
    simpa using this
  subst e
  exact h1
theorem AHas.ll {h : Heap} {b1 b2 : Nat} {v : AV} {l : List (List Int)} (hh : AHas h (.slice b1 (.slice b2 (.int .i64))) [v] l) : LL h v l := by
  obtain ⟨cs, h1, h2⟩ := hh.sl
  have hl := h1.1
  simp at hl
  refine ⟨cs, hl, by simpa using h1, fun i hi hv => ?_⟩
  have := h2 i hi
  simp only [Ty.size, Nat.mul_one] at this
  rw [List.drop_eq_getElem_cons hv] at this
  simp only [List.take_succ_cons, List.take_zero] at this
  exact this.il

/-! ### Memory, block by block -/
theorem blk_at0 {h e : Heap} : blk (h ++ e) h.length = blk e 0 := blk_congr (by rw [List.getElem?_append_right (Nat.le_refl _), Nat.sub_self])
theorem blk_atK {h e : Heap} {k : Nat} : blk (h ++ e) (h.length + k) = blk e k := blk_congr (by rw [List.getElem?_append_right (by omega)]; congr 1; omega)
theorem blk_cons0 {l : List AV} {e : Heap} : blk (some l :: e) 0 = some l := rfl
theorem blk_consS {b : Option (List AV)} {e : Heap} {k : Nat} : blk (b :: e) (k + 1) = blk e k := rfl
theorem wr_of' {fl : Nat → Bool} {h : Heap} {id off : Nat} {l vs : List AV} (hb : blk h id = some l) (hf : fl id = true) (hn : off + vs.length ≤ l.length) : wr fl h id off vs = some (h.set id (some (l.take off ++ vs ++ l.drop (off + vs.length)))) := by simp [wr, hb, hf, hn]
theorem rd1_n0 {h e : Heap} {off : Nat} : rd1 (h ++ e) h.length off = rd1 e 0 off := by unfold rd1; rw [blk_at0]
theorem rd1_nK {h e : Heap} {k off : Nat} : rd1 (h ++ e) (h.length + k) off = rd1 e k off := by unfold rd1; rw [blk_atK]
theorem rd1_c0 {l : List AV} {e : Heap} {off : Nat} : rd1 (some l :: e) 0 off = l[off]? := rfl
theorem rd1_cS {b : Option (List AV)} {e : Heap} {k off : Nat} : rd1 (b :: e) (k + 1) off = rd1 e k off := rfl
theorem rd_n0 {h e : Heap} {off n : Nat} : rd (h ++ e) h.length off n = rd e 0 off n := by unfold rd; rw [blk_at0]
theorem rd_nK {h e : Heap} {k off n : Nat} : rd (h ++ e) (h.length + k) off n = rd e k off n := by unfold rd; rw [blk_atK]
theorem rd_c0 {l : List AV} {e : Heap} {off n : Nat} : rd (some l :: e) 0 off n = if off + n ≤ l.length then some ((l.drop off).take n) else none := rfl
theorem rd_cS {b : Option (List AV)} {e : Heap} {k off n : Nat} : rd (b :: e) (k + 1) off n = rd e k off n := rfl
theorem set_n0 {h e : Heap} {b : Option (List AV)} : (h ++ e).set h.length b = h ++ e.set 0 b := by rw [List.set_append_right _ _ (Nat.le_refl _), Nat.sub_self]
theorem set_nK {h e : Heap} {k : Nat} {b : Option (List AV)} : (h ++ e).set (h.length + k) b = h ++ e.set k b := by rw [List.set_append_right _ _ (by omega), Nat.add_sub_cancel_left]
theorem wr_n0 {fl : Nat → Bool} {h e : Heap} {off : Nat} {vs l : List AV} (hb : blk e 0 = some l) (hf : fl h.length = true) (hn : off + vs.length ≤ l.length) : wr fl (h ++ e) h.length off vs = some (h ++ e.set 0 (some (l.take off ++ vs ++ l.drop (off + vs.length)))) := by
  rw [wr_of' (blk_at0.trans hb) hf hn, set_n0]
theorem wr_nK {fl : Nat → Bool} {h e : Heap} {k off : Nat} {vs l : List AV} (hb : blk e k = some l) (hf : fl (h.length + k) = true) (hn : off + vs.length ≤ l.length) : wr fl (h ++ e) (h.length + k) off vs = some (h ++ e.set k (some (l.take off ++ vs ++ l.drop (off + vs.length)))) := by
  rw [wr_of' (blk_atK.trans hb) hf hn, set_nK]
theorem rd1_of {h : Heap} {id off : Nat} {l : List AV} (hb : blk h id = some l) : rd1 h id off = l[off]? := by simp [rd1, hb]
theorem rd_of {h : Heap} {id off n : Nat} {l : List AV} (hb : blk h id = some l) (hn : off + n ≤ l.length) : rd h id off n = some ((l.drop off).take n) := by simp [rd, hb, hn]
theorem wr_of {fl : Nat → Bool} {h : Heap} {id off : Nat} {l vs : List AV} (hb : blk h id = some l) (hf : fl id = true) (hn : off + vs.length ≤ l.length) : wr fl h id off vs = some (h.set id (some (l.take off ++ vs ++ l.drop (off + vs.length)))) := by simp [wr, hb, hf, hn]
/-- Append to a slice that is full, or nil. -/
theorem append_full {fl : Nat → Bool} {h : Heap} {k bytes n0 n : Nat} {x : AV} {old cs : List AV} (hx : Sl h k x old n0) (hex : x = .nil ∨ ∃ id off, x = .slice id off n0 n0 true k) (hn : cs.length = n * k) (hb : (n0 + n) * bytes ≤ reach) :
    ∃ v e, appendA fl h k bytes x n cs = some (v, h ++ e) ∧ Sl (h ++ e) k v (old ++ cs) (n0 + n) ∧ (v = .nil ∨ ∃ id off ex, v = .slice id off (n0 + n) (n0 + n) ex k ∧ (ex = true ∨ h.length ≤ id)) := by
  by_cases h0 : n = 0
  · subst h0
    have : cs = [] := List.eq_nil_of_length_eq_zero (by simpa using hn)
    subst this
    rcases hex with rfl | ⟨id, off, rfl⟩
    · exact ⟨.nil, [], by rw [List.append_nil]; rfl, by simpa using hx, .inl rfl⟩
    · exact ⟨_, [], by rw [List.append_nil]; rfl, by simpa using hx, .inr ⟨id, off, true, rfl, .inl rfl⟩⟩
  · rcases hex with rfl | ⟨id, off, rfl⟩
    · obtain ⟨h1, ⟨rfl, _⟩ | ⟨id, off, lb, ex, row, h2, _⟩⟩ := hx
      · have : old = [] := List.eq_nil_of_length_eq_zero (by simpa using h1)
        subst this
        refine ⟨.slice h.length 0 n n false k, [some cs], ?_, ⟨by simpa using hn, .inr ⟨h.length, 0, n, false, cs, by simp, by omega, blk_app_new, by simp; omega, by rw [List.drop_zero, List.take_of_length_le (by simp; omega)]; rfl⟩⟩, .inr ⟨h.length, 0, false, by simp, .inr (Nat.le_refl _)⟩⟩
        simp only [Nat.zero_add] at hb
        unfold appendA
        rw [if_neg h0]
        simp only
        rw [if_pos hb]
      · cases h2
    · obtain ⟨h1, ⟨rfl, h2⟩ | ⟨id', off', lb, ex, row, h2, h3, h4, h5, h6⟩⟩ := hx
      · rcases h2 with h2 | h2 <;> cases h2
      · injection h2 with e1 e2 e3 e4 e5 e6
        subst e1; subst e2; subst e4; subst e5
        have hlen : (old ++ cs).length = (n0 + n) * k := by rw [List.length_append, h1, hn, Nat.add_mul]
        refine ⟨.slice h.length 0 (n0 + n) (n0 + n) false k, [some (old ++ cs)], ?_, ⟨hlen, .inr ⟨h.length, 0, n0 + n, false, old ++ cs, rfl, Nat.le_refl _, blk_app_new, by rw [hlen]; omega, by rw [List.drop_zero, List.take_of_length_le (by rw [hlen]; omega)]⟩⟩, .inr ⟨h.length, 0, false, rfl, .inr (Nat.le_refl _)⟩⟩
        have hr : rd h id off (n0 * k) = some old := by rw [rd_of h4 h5, h6]
        unfold appendA
        rw [if_neg h0]
        simp only
        rw [if_pos ⟨trivial, hb⟩, if_neg (by omega), hr]
        rfl
end Go.Proofs.Ytpmmiaadfnildaa
