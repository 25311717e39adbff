/-
  Stores and growing slices, in AM.
-/
import Derived.Test.YtpmmiaadfnildaaAmZ
namespace Go.Proofs.Ytpmmiaadfnildaa
open Go Go.RowKit
set_option linter.unusedVariables false
set_option linter.unusedSimpArgs false

theorem blk_set_same {h : Heap} {id : Nat} {l : List AV} (hi : id < h.length) : blk (h.set id (some l)) id = some l := by rw [blk_get, List.getElem?_set]; simp [hi]
theorem blk_set_ne {h : Heap} {id i : Nat} {b : Option (List AV)} (hi : i ≠ id) : blk (h.set id b) i = blk h i := blk_congr (by rw [List.getElem?_set, if_neg (Ne.symm hi)])

/-- A store, its memory not spelled out. -/
theorem wr_ex {fl : Nat → Bool} {h : Heap} {id off : Nat} {l vs : List AV} (hb : blk h id = some l) (hf : fl id = true) (hn : off + vs.length ≤ l.length) :
    ∃ h1, wr fl h id off vs = some h1 ∧ blk h1 id = some (l.take off ++ vs ++ l.drop (off + vs.length)) ∧ (∀ i, i ≠ id → blk h1 i = blk h i) ∧ h1.length = h.length :=
  ⟨_, wr_of hb hf hn, blk_set_same (blk_lt hb), fun i hi => blk_set_ne hi, by simp⟩
theorem wr1_ex {fl : Nat → Bool} {h : Heap} {id off : Nat} {l : List AV} {v : AV} (hb : blk h id = some l) (hf : fl id = true) (hn : off < l.length) :
    ∃ h1, wr fl h id off [v] = some h1 ∧ blk h1 id = some (l.set off v) ∧ (∀ i, i ≠ id → blk h1 i = blk h i) ∧ h1.length = h.length := by
  obtain ⟨h1, e1, e2, e3, e4⟩ := wr_ex (fl := fl) (off := off) (vs := [v]) hb hf (by simp; omega)
  refine ⟨h1, e1, ?_, e3, e4⟩
  rw [e2, List.set_eq_take_append_cons_drop, if_pos hn]
  simp

/-- A slice of the call's own that may grow. -/
def OL (h : Heap) (k : Nat) (v : AV) (cs : List AV) (n : Nat) : Prop := cs.length = n * k ∧
  ((v = .nil ∧ n = 0) ∨ ∃ id lb row, v = .slice id 0 n lb false k ∧ n ≤ lb ∧ lb * k ≤ row.length ∧ blk h id = some row ∧ row.take (n * k) = cs)
theorem OL.nil {h : Heap} {k : Nat} : OL h k .nil [] 0 := ⟨by simp, .inl ⟨rfl, rfl⟩⟩
theorem OL.sl {h : Heap} {k n : Nat} {v : AV} {cs : List AV} (ho : OL h k v cs n) : Sl h k v cs n := by
  obtain ⟨h1, ⟨rfl, h2⟩ | ⟨id, lb, row, rfl, h2, h3, h4, h5⟩⟩ := ho
  · exact ⟨h1, .inl ⟨h2, .inl rfl⟩⟩
  · have : n * k ≤ lb * k := Nat.mul_le_mul_right _ h2
    exact ⟨h1, .inr ⟨id, 0, lb, false, row, rfl, h2, h4, by omega, by rw [List.drop_zero]; exact h5⟩⟩
theorem OL.len {h : Heap} {k n : Nat} {v : AV} {cs : List AV} (ho : OL h k v cs n) : lenA v = some n := ho.sl.len
theorem OL.keep {h h' : Heap} {k n : Nat} {v : AV} {cs : List AV} (ho : OL h k v cs n) (hk : ∀ i row, i ∈ idOf v → blk h i = some row → blk h' i = some row) : OL h' k v cs n := by
  obtain ⟨h1, h2 | ⟨id, lb, row, rfl, h2, h3, h4, h5⟩⟩ := ho
  · exact ⟨h1, .inl h2⟩
  · exact ⟨h1, .inr ⟨id, lb, row, rfl, h2, h3, hk id row (by simp [idOf]) h4, h5⟩⟩
theorem OL.lt {h : Heap} {k n : Nat} {v : AV} {cs : List AV} (ho : OL h k v cs n) : ∀ i ∈ idOf v, i < h.length := by
  obtain ⟨h1, ⟨rfl, _⟩ | ⟨id, lb, row, rfl, h2, h3, h4, h5⟩⟩ := ho
  · intro i hi; simp [idOf] at hi
  · intro i hi; simp [idOf] at hi; subst hi; exact blk_lt h4

theorem append_ol {fl : Nat → Bool} {h : Heap} {k bytes n m : Nat} {v : AV} {cs new : List AV} (ho : OL h k v cs n) (hfl : ∀ i ∈ idOf v, fl i = true) (hm : 0 < m) (hn : new.length = m * k) (hb : (n + m) * bytes ≤ reach) :
    ∃ v' h1, appendA fl h k bytes v m new = some (v', h1) ∧ OL h1 k v' (cs ++ new) (n + m) ∧ (∀ i row, i ∉ idOf v → blk h i = some row → blk h1 i = some row) ∧ (∀ i ∈ idOf v', i ∈ idOf v ∨ h.length ≤ i) ∧ h.length ≤ h1.length := by
  have hm0 : ¬ m = 0 := by omega
  obtain ⟨h1, ⟨rfl, rfl⟩ | ⟨id, lb, row, rfl, h2, h3, h4, h5⟩⟩ := ho
  · have : cs = [] := List.eq_nil_of_length_eq_zero (by simpa using h1)
    subst this
    refine ⟨.slice h.length 0 m m false k, h ++ [some new], ?_, ⟨by simpa using hn, .inr ⟨h.length, m, new, by simp, by omega, by omega, blk_app_new, by rw [Nat.zero_add, List.take_of_length_le (by omega)]; rfl⟩⟩, fun i row _ hr => blk_ext _ hr, fun i hi => ?_, by simp⟩
    · unfold appendA
      rw [if_neg hm0]
      simp only
      rw [if_pos (by simpa using hb)]
    · simp [idOf] at hi; exact .inr (by omega)
  · have hid := hfl id (by simp [idOf])
    have hlen : (cs ++ new).length = (n + m) * k := by rw [List.length_append, h1, hn, Nat.add_mul]
    by_cases hroom : n + m ≤ lb
    · have hmul : (n + m) * k ≤ lb * k := Nat.mul_le_mul_right _ hroom
      rw [Nat.add_mul] at hmul
      obtain ⟨g, e1, e2, e3, e4⟩ := wr_ex (fl := fl) (off := 0 + n * k) (vs := new) h4 hid (by omega)
      refine ⟨.slice id 0 (n + m) lb false k, g, ?_, ⟨hlen, .inr ⟨id, lb, _, rfl, hroom, ?_, e2, ?_⟩⟩, fun i row' hi hr => by rw [e3 i (by simpa [idOf] using hi)]; exact hr, fun i hi => .inl (by simpa [idOf] using hi), by omega⟩
      · unfold appendA
        rw [if_neg hm0]
        simp only
        rw [if_pos ⟨trivial, hb⟩, if_pos hroom, e1]
      · simp; omega
      · rw [Nat.zero_add, h5, List.take_append_of_le_length (by rw [hlen, Nat.add_mul]; omega), List.take_of_length_le (by rw [hlen]; omega)]
    · refine ⟨.slice h.length 0 (n + m) (n + m) false k, kill h id ++ [some (cs ++ new)], ?_, ⟨hlen, .inr ⟨h.length, n + m, cs ++ new, rfl, Nat.le_refl _, by rw [hlen]; omega, ?_, by rw [List.take_of_length_le (by rw [hlen]; omega)]⟩⟩, fun i row' hi hr => ?_, fun i hi => ?_, by simp [kill]⟩
      · have hnk : n * k ≤ lb * k := Nat.mul_le_mul_right _ h2
        have hr : rd h id 0 (n * k) = some cs := by rw [rd_of h4 (by omega), List.drop_zero, h5]
        unfold appendA
        rw [if_neg hm0]
        simp only
        rw [if_pos ⟨trivial, hb⟩, if_neg hroom, hr]
        simp only [Bool.false_eq_true, if_false]
        rw [if_pos hid]
      · have : (kill h id).length = h.length := by simp [kill]
        rw [← this]; exact blk_app_new
      · have hi' : i ≠ id := by simpa [idOf] using hi
        refine blk_ext _ ?_
        unfold kill
        rw [blk_set_ne hi']; exact hr
      · simp [idOf] at hi; exact .inr (by omega)
/-- What was there is still there, but for some blocks. -/
def Keep (h h' : Heap) (S : List Nat) : Prop := h.length ≤ h'.length ∧ ∀ i row, i ∉ S → blk h i = some row → blk h' i = some row
theorem Keep.refl {h : Heap} (S : List Nat) : Keep h h S := ⟨Nat.le_refl _, fun i row _ h => h⟩
theorem Keep.trans {h h1 h2 : Heap} {S S' : List Nat} (a : Keep h h1 S) (b : Keep h1 h2 S') (hs : ∀ i ∈ S', i ∈ S ∨ h.length ≤ i) : Keep h h2 S :=
  ⟨Nat.le_trans a.1 b.1, fun i row hi hr => b.2 i row (fun hm => (hs i hm).elim hi fun hl => by have := blk_lt hr; omega) (a.2 i row hi hr)⟩
theorem Keep.mono {h h1 : Heap} {S S' : List Nat} (a : Keep h h1 S) (hs : ∀ i ∈ S, i ∈ S' ∨ h.length ≤ i) : Keep h h1 S' :=
  ⟨a.1, fun i row hi hr => a.2 i row (fun hm => (hs i hm).elim hi fun hl => by have := blk_lt hr; omega) hr⟩
theorem Keep.then {h h1 h2 : Heap} {S S' T : List Nat} (a : Keep h h1 S) (b : Keep h1 h2 S') (q1 : ∀ i ∈ S, i ∈ T ∨ h.length ≤ i) (q2 : ∀ i ∈ S', i ∈ T ∨ h.length ≤ i) : Keep h h2 T := (a.mono q1).trans b q2
theorem Keep.ext {h : Heap} (S : List Nat) (e : Heap) : Keep h (h ++ e) S := ⟨by simp, fun i row _ hr => blk_ext e hr⟩
theorem Keep.get {h h' : Heap} {S : List Nat} (a : Keep h h' S) {i : Nat} {row : List AV} (hi : i ∉ S) (hr : blk h i = some row) : blk h' i = some row := a.2 i row hi hr
theorem Keep.rd1 {h h' : Heap} {S : List Nat} (a : Keep h h' S) {id off : Nat} {v : AV} (hi : id ∉ S) (hr : rd1 h id off = some v) : rd1 h' id off = some v := by
  unfold Go.Proofs.Ytpmmiaadfnildaa.rd1 at hr ⊢
  split at hr
  · rename_i l hl; rw [a.2 id l hi hl]; exact hr
  · cases hr
theorem Keep.rd {h h' : Heap} {S : List Nat} (a : Keep h h' S) {id off n : Nat} {v : List AV} (hi : id ∉ S) (hr : rd h id off n = some v) : rd h' id off n = some v := by
  unfold Go.Proofs.Ytpmmiaadfnildaa.rd at hr ⊢
  split at hr
  · rename_i l hl; rw [a.2 id l hi hl]; exact hr
  · cases hr
theorem Sl.keep {h h' : Heap} {S : List Nat} {k n : Nat} {v : AV} {cs : List AV} (hs : Sl h k v cs n) (a : Keep h h' S) (hi : ∀ i ∈ idOf v, i ∉ S) : Sl h' k v cs n :=
  hs.cong fun id off lb ex row e hr => a.2 id row (hi id (by rw [e]; simp [idOf])) hr
theorem IL.keep {h h' : Heap} {S : List Nat} {v : AV} {l : List Int} (hs : IL h v l) (a : Keep h h' S) (hi : ∀ i ∈ idOf v, i ∉ S) : IL h' v l := Sl.keep hs a hi
theorem BL.keep {h h' : Heap} {S : List Nat} {v : AV} {l : List Bool} (hs : BL h v l) (a : Keep h h' S) (hi : ∀ i ∈ idOf v, i ∉ S) : BL h' v l := Sl.keep hs a hi
theorem LL.keep {h h' : Heap} {S : List Nat} {v : AV} {ls : List (List Int)} (hs : LL h v ls) (a : Keep h h' S) (hi : ∀ i, i < h.length → i ∉ S) : LL h' v ls :=
  have lt : ∀ {k n : Nat} {v : AV} {cs : List AV}, Sl h k v cs n → ∀ i ∈ idOf v, i < h.length := fun hs i hi => by
    obtain ⟨h1, ⟨_, rfl | rfl⟩ | ⟨id, off, lb, ex, row, rfl, h2, h3, h4⟩⟩ := hs
    · simp [idOf] at hi
    · simp [idOf] at hi
    · simp [idOf] at hi; subst hi; exact blk_lt h3
  let ⟨vs, h1, h2, h3⟩ := hs; ⟨vs, h1, h2.keep a fun i hm => hi i (lt h2 i hm), fun i p q => (h3 i p q).keep a fun j hm => hi j (lt (h3 i p q) j hm)⟩
theorem OL.keepK {h h' : Heap} {S : List Nat} {k n : Nat} {v : AV} {cs : List AV} (ho : OL h k v cs n) (a : Keep h h' S) (hi : ∀ i ∈ idOf v, i ∉ S) : OL h' k v cs n := ho.keep fun i row hm hr => a.2 i row (hi i hm) hr
theorem Sl.lt {h : Heap} {k n : Nat} {v : AV} {cs : List AV} (hs : Sl h k v cs n) : ∀ i ∈ idOf v, i < h.length := by
  obtain ⟨h1, ⟨_, rfl | rfl⟩ | ⟨id, off, lb, ex, row, rfl, h2, h3, h4⟩⟩ := hs
  · intro i hi; simp [idOf] at hi
  · intro i hi; simp [idOf] at hi
  · intro i hi; simp [idOf] at hi; subst hi; exact blk_lt h3

/-- An element of a slice of one cell each is set. -/
theorem Sl.set1 {fl : Nat → Bool} {h : Heap} {n j : Nat} {v x : AV} {cs : List AV} (hs : Sl h 1 v cs n) (hj : j < n) (hf : ∀ i ∈ idOf v, fl i = true) :
    ∃ id off lb ex h1, v = .slice id off n lb ex 1 ∧ wr fl h id (off + j) [x] = some h1 ∧ Sl h1 1 v (cs.set j x) n ∧ Keep h h1 (idOf v) ∧ h1.length = h.length := by
  obtain ⟨h1, ⟨h2, _⟩ | ⟨id, off, lb, ex, row, rfl, h2, h3, h4, h5⟩⟩ := hs
  · omega
  · obtain ⟨g, e1, e2, e3, e4⟩ := wr1_ex (off := off + j) (v := x) h3 (hf id (by simp [idOf])) (by omega)
    refine ⟨id, off, lb, ex, g, rfl, e1, ⟨by simpa using h1, .inr ⟨id, off, lb, ex, _, rfl, h2, e2, by simpa using h4, ?_⟩⟩, ⟨by omega, fun i row' hi hr => by rw [e3 i (by simpa [idOf] using hi)]; exact hr⟩, e4⟩
    rw [← h5, List.drop_set]
    rw [if_neg (by omega), List.take_set, Nat.add_sub_cancel_left]
/-- The last element of one's own slice is cut off. -/
theorem OL.pop {h : Heap} {k n : Nat} {v : AV} {cs last : List AV} (ho : OL h k v (cs ++ last) (n + 1)) (hl : last.length = k) :
    ∃ v', sliceA k v none (some (I64 (n : Nat))) none = some v' ∧ OL h k v' cs n ∧ idOf v' = idOf v := by
  obtain ⟨h1, ⟨_, h2⟩ | ⟨id, lb, row, rfl, h2, h3, h4, h5⟩⟩ := ho
  · omega
  · have hc : cs.length = n * k := by rw [List.length_append, hl, Nat.add_mul] at h1; omega
    refine ⟨.slice id 0 n lb false k, ?_, ⟨hc, .inr ⟨id, lb, row, rfl, by omega, h3, h4, ?_⟩⟩, rfl⟩
    · simp [sliceA, natOfA, intOfA]; omega
    · have hm : n * k ≤ (n + 1) * k := Nat.mul_le_mul_right _ (by omega)
      have e : List.take (n * k) (List.take ((n + 1) * k) row) = List.take (n * k) (cs ++ last) := by rw [h5]
      rw [List.take_take, Nat.min_eq_left hm] at e
      rw [e, List.take_append_of_le_length (by omega), List.take_of_length_le (by omega)]
theorem BL.allE {h : Heap} {v : AV} {l : List Bool} (hs : BL h v l) (h0 : 0 < l.length) : ∃ id off lb ex, v = .slice id off l.length lb ex 1 ∧ ∀ j (hj : j < l.length) e, rd1 (h ++ e) id (off + j) = some (BV l[j]) := by
  obtain ⟨id, off, lb, ex, rfl, _⟩ := hs.at h0
  refine ⟨id, off, lb, ex, rfl, fun j hj e => ?_⟩
  obtain ⟨id', off', lb', ex', q, hr⟩ := hs.atE hj
  injection q with q1 q2 _ q4 q5 _
  subst q1; subst q2
  exact hr e
theorem IL.allE {h : Heap} {v : AV} {l : List Int} (hs : IL h v l) (h0 : 0 < l.length) : ∃ id off lb ex, v = .slice id off l.length lb ex 1 ∧ ∀ j (hj : j < l.length) e, rd1 (h ++ e) id (off + j) = some (I64 l[j]) := by
  obtain ⟨id, off, lb, ex, rfl, _⟩ := hs.at h0
  refine ⟨id, off, lb, ex, rfl, fun j hj e => ?_⟩
  obtain ⟨id', off', lb', ex', q, hr⟩ := hs.atE hj
  injection q with q1 q2 _ q4 q5 _
  subst q1; subst q2
  exact hr e
/-- A list of the call's own; what was there is still there. -/
def New (h h' : Heap) (k : Nat) (v : AV) (cs : List AV) (n : Nat) : Prop := OL h' k v cs n ∧ (∀ i ∈ idOf v, h.length ≤ i) ∧ Keep h h' []
theorem New.nil (h : Heap) {h' : Heap} {k : Nat} (a : Keep h h' []) : New h h' k .nil [] 0 := ⟨OL.nil, by simp [idOf], a⟩
theorem New.push {fl : Nat → Bool} {h h' : Heap} {k bytes n : Nat} {v : AV} {cs : List AV} (hn : New h h' k v cs n) (hf : ∀ i, h.length ≤ i → fl i = true) (hb : (n + 1) * bytes ≤ reach) (x : List AV) (hx : x.length = k) :
    ∃ v2 h2, rowOf (h' ++ [some x]) k (.slice h'.length 0 1 1 true k) = some (1, x) ∧ appendA fl (h' ++ [some x]) k bytes v 1 x = some (v2, h2) ∧ New h h2 k v2 (cs ++ x) (n + 1) := by
  obtain ⟨ho, hv, hkp⟩ := hn
  obtain ⟨v2, h2, hap, ho2, hk2, hti2, hl2⟩ := append_ol (fl := fl) (bytes := bytes) (m := 1) (new := x) (OL.keepK (h' := h' ++ [some x]) ho (Keep.ext [] _) (by simp)) (fun i hi => hf i (hv i hi)) (by omega) (by omega) hb
  have hkl := hkp.1
  simp only [List.length_append, List.length_cons, List.length_nil] at hl2 hti2
  refine ⟨v2, h2, ?_, hap, ho2, fun i hi => (hti2 i hi).elim (hv i) (fun q => by omega), by omega, fun i row _ hr => hk2 i row (fun q => by have := hv i q; have := blk_lt hr; omega) (blk_ext _ (hkp.2 i row (by simp) hr))⟩
  subst hx; simp [rowOf, rd_n0, rd_c0]
theorem New.sl {h h' : Heap} {k n : Nat} {v : AV} {cs : List AV} (hn : New h h' k v cs n) : Sl h' k v cs n := hn.1.sl
theorem New.kp {h h' : Heap} {k n : Nat} {v : AV} {cs : List AV} (hn : New h h' k v cs n) : Keep h h' [] := hn.2.2
/-- The same later on. -/
theorem New.next {h h' h2 : Heap} {k n : Nat} {v : AV} {cs : List AV} {S : List Nat} (hn : New h h' k v cs n) (a : Keep h' h2 S) (hi : ∀ i ∈ S, i ∉ idOf v ∧ h.length ≤ i) : New h h2 k v cs n :=
  ⟨hn.1.keepK a (fun i hv hs => (hi i hs).1 hv), hn.2.1, hn.2.2.then a (fun i hi => .inl hi) fun i q => .inr (hi i q).2⟩
/-- A new list of whole numbers. -/
def NewI (h h' : Heap) (v : AV) (l : List Int) : Prop := New h h' 1 v (l.map I64) l.length
theorem NewI.il {h h' : Heap} {v : AV} {l : List Int} (hn : NewI h h' v l) : IL h' v l := hn.sl
end Go.Proofs.Ytpmmiaadfnildaa
