/-
  LeaveSets holds: of an exit whose registers are each set once, sets from the last one on leave the same frame. No condition.
-/
import Derived.Test.YtbomhdgodiojhaaLvSame
namespace Go.Proofs.Ytbomhdgodiojhaa
open Go.RowKit Go.Sort
set_option linter.unusedVariables false
set_option linter.unusedSimpArgs false

def wfAll (l : List (Int × Int)) : Prop := ∀ x ∈ l, (Lit.int .i64 x.1).wf = true ∧ (Lit.int .i64 x.2).wf = true
theorem has_vals {w : World} {B cap b_ : Nat} {A : Option Addr} {l : List (Int × Int)} (hr : Raw w B 2 A l.length (valCells l)) (hw : wfAll l) (h1 : l.length ≤ cap) (h2 : cap ≤ maxLen) (h3 : A = none → cap = 0) :
    Has w B (.slice b_ VAL) [.slice A l.length cap] l := by
  refine Raw.has (e := VAL) hr h1 h2 h3 fun i hi => ?_
  have := hw l[i] (List.getElem_mem hi)
  show Has w B VAL (chunk 2 (valCells l) i) l[i]
  rw [valCells_chunk l i hi]
  exact ⟨[.int .i64 l[i].1], [.int .i64 l[i].2], rfl, ⟨rfl, this.1⟩, ⟨rfl, this.2⟩⟩
theorem raw_of_blk {w : World} {B g n : Nat} {t : TypeId} {l : List (Int × Int)} (h : Blk w g t (valCells l).toArray) (hB : g < B) (hn : n = l.length) : Raw w B 2 (some ⟨g, 0, none⟩) n (valCells l) := by
  subst hn
  refine ⟨valCells_length l, valCells_one l, fun _ => ⟨g, 0, rfl, hB, fun j hj => ?_⟩⟩
  rw [Nat.zero_add, h.cell j]
  simp
theorem wf_of_has {w : World} {B cap b_ n : Nat} {A : Option Addr} {l : List (Int × Int)} (h : Has w B (.slice b_ VAL) [.slice A n cap] l) : wfAll l := by
  intro x hx
  obtain ⟨i, hi, rfl⟩ := List.getElem_of_mem hx
  exact h.two_wf i hi
theorem setAll_wf {vals : List (Int × Int)} (hv : wfAll vals) : ∀ (sets regs r : List (Int × Int)), wfAll regs → setAll vals sets regs = some r → wfAll r
  | [], regs, r, h, e => by simp only [setAll, Option.some.injEq] at e; subst e; exact h
  | s :: sets, regs, r, h, e => by
    simp only [setAll] at e
    split at e
    · rename_i hok
      refine setAll_wf hv sets _ r ?_ e
      intro x hx
      rcases List.mem_or_eq_of_mem_set hx with hx | rfl
      · exact h x hx
      · obtain ⟨⟨h0, h1⟩, _⟩ := hok
        rw [List.getD_eq_getElem?_getD, List.getElem?_eq_getElem (by omega)]
        exact hv _ (List.getElem_mem _)
    · cases e
theorem setAll_length {vals : List (Int × Int)} : ∀ (sets regs r : List (Int × Int)), setAll vals sets regs = some r → r.length = regs.length
  | [], regs, r, e => by simp only [setAll, Option.some.injEq] at e; subst e; rfl
  | s :: sets, regs, r, e => by
    simp only [setAll] at e
    split at e
    · have := setAll_length sets _ r e; simpa using this
    · cases e

/-! The plain law -/
def okSet (vals : List (Int × Int)) (n : Nat) (s : Int × Int) : Prop := okAt vals s.2 ∧ 0 ≤ s.1 ∧ s.1 < n
def put (vals : List (Int × Int)) (regs : List (Int × Int)) (s : Int × Int) : List (Int × Int) := regs.set s.1.toNat (vals.getD s.2.toNat (0, 0))
theorem setAll_eq (vals : List (Int × Int)) : ∀ (sets regs : List (Int × Int)), (∀ s ∈ sets, okSet vals regs.length s) → setAll vals sets regs = some (sets.foldl (put vals) regs)
  | [], regs, _ => rfl
  | s :: sets, regs, h => by
    simp only [setAll, List.foldl_cons]
    rw [if_pos (show okAt vals s.2 ∧ 0 ≤ s.1 ∧ s.1 < regs.length from h s (by simp)), setAll_eq vals sets _ (fun t ht => by rw [List.length_set]; exact h t (by simp [ht]))]
    rfl
theorem setAll_none (vals : List (Int × Int)) : ∀ (sets regs : List (Int × Int)) (s : Int × Int), s ∈ sets → ¬ okSet vals regs.length s → setAll vals sets regs = none
  | [], regs, s, h, _ => by cases h
  | t :: sets, regs, s, h, hn => by
    simp only [setAll]
    split
    · rename_i hok
      rcases List.mem_cons.1 h with rfl | h
      · exact absurd hok hn
      · exact setAll_none vals sets _ s h (by rw [List.length_set]; exact hn)
    · rfl
theorem put_comm (vals regs : List (Int × Int)) (s t : Int × Int) (h : s.1 ≠ t.1) (hs : 0 ≤ s.1) (ht : 0 ≤ t.1) : put vals (put vals regs s) t = put vals (put vals regs t) s := by
  unfold put
  exact List.set_comm _ _ (by omega)
theorem foldl_put_last (vals : List (Int × Int)) : ∀ (sets regs : List (Int × Int)) (s : Int × Int), (∀ t ∈ sets, t.1 ≠ s.1 ∧ 0 ≤ t.1) → 0 ≤ s.1 → (sets.foldl (put vals) (put vals regs s)) = put vals (sets.foldl (put vals) regs) s
  | [], regs, s, _, _ => rfl
  | t :: sets, regs, s, h, hs => by
    simp only [List.foldl_cons]
    have h0 := h t (by simp)
    rw [put_comm vals regs s t (fun e => h0.1 e.symm) hs h0.2]
    exact foldl_put_last vals sets _ s (fun u hu => h u (by simp [hu])) hs
def apartSets (sets : List (Int × Int)) : Prop := ∀ i j (hi : i < sets.length) (hj : j < i), (sets[j]'(by omega)).1 ≠ sets[i].1
theorem foldl_put_reverse (vals : List (Int × Int)) : ∀ (sets regs : List (Int × Int)), (∀ s ∈ sets, 0 ≤ s.1) → sets.Pairwise (fun a b => a.1 ≠ b.1) → sets.reverse.foldl (put vals) regs = sets.foldl (put vals) regs
  | [], regs, _, _ => rfl
  | s :: sets, regs, h, hp => by
    rw [List.pairwise_cons] at hp
    rw [List.reverse_cons, List.foldl_append, List.foldl_cons, List.foldl_nil, List.foldl_cons]
    rw [foldl_put_reverse vals sets regs (fun t ht => h t (by simp [ht])) hp.2]
    exact (foldl_put_last vals sets regs s (fun t ht => ⟨fun e => hp.1 t ht e.symm, h t (by simp [ht])⟩) (h s (by simp))).symm
theorem setAll_reverse (vals sets regs : List (Int × Int)) (h : apartSets sets) : setAll vals sets.reverse regs = setAll vals sets regs := by
  have hp : sets.Pairwise (fun a b => a.1 ≠ b.1) := by
    rw [List.pairwise_iff_getElem]
    intro i j hi hj hij
    exact h j i hj hij
  by_cases hall : ∀ s ∈ sets, okSet vals regs.length s
  · rw [setAll_eq vals sets regs hall, setAll_eq vals sets.reverse regs (fun s hs => hall s (List.mem_reverse.1 hs)), foldl_put_reverse vals sets regs (fun s hs => (hall s hs).2.1) hp]
  · obtain ⟨s, hs⟩ := Classical.not_forall.1 hall
    obtain ⟨hs, hn⟩ := Classical.not_imp.1 hs
    rw [setAll_none vals sets regs s hs hn, setAll_none vals sets.reverse regs s (List.mem_reverse.2 hs) hn]

/-! Frame, by what comes of it -/
section
variable (fn at_ tw gen sk sn xat xst : Int) (A1 A2 A3 A4 A5 : Option Addr) (n1 c1 n2 c2 n3 c3 n4 c4 n5 c5 B b1 b2 b3 b5 : Nat) (regs tries sets vals : List (Int × Int)) (w : World) (hB : B ≤ w.heap.size)
    (h1 : Has w B (.slice b1 VAL) [.slice A1 n1 c1] regs) (h2 : Has w B (.slice b2 VAL) [.slice A2 n2 c2] tries) (h3 : Has w B (.slice b3 VAL) [.slice A3 n3 c3] sets) (h5 : Has w B (.slice b5 VAL) [.slice A5 n5 c5] vals)
    (r1 : n1 * 16 ≤ 140737488351232) (r2 : n2 * 16 ≤ 140737488351232)
include hB h1 h2 h3 h5 r1 r2
theorem frame_some (r : List (Int × Int)) (hs : setAll vals sets regs = some r) :
    Calls Try.prog 8 #[.agg #[.int .i64 fn, .int .i64 at_, .int .i64 tw, .int .i64 gen, .int .i64 sk, .int .i64 sn, .slice A1 n1 c1, .slice A2 n2 c2],
      .agg #[.int .i64 xat, .int .i64 xst, .slice A3 n3 c3, .slice A4 n4 c4], .slice A5 n5 c5] w (fun e w' => ∃ X1 d1 X2 d2, e = .returned (.tuple #[.agg #[.int .i64 fn, .int .i64 xat, .int .i64 tw, .int .i64 gen, .int .i64 sk, .int .i64 sn, .slice X1 r.length d1, .slice X2 tries.length d2], .int .i64 0]) ∧
        Has w' w'.heap.size (.slice 16 VAL) [.slice X1 r.length d1] r ∧ Has w' w'.heap.size (.slice 16 VAL) [.slice X2 tries.length d2] tries ∧ Below w.heap.size w w') :=
  (frame_any fn at_ tw gen sk sn xat xst A1 A2 A3 A4 A5 n1 c1 n2 c2 n3 c3 n4 c4 n5 c5 B b1 b2 b3 b5 regs tries sets vals w hB h1 h2 h3 h5 r1 r2).mono fun e w' h => by
    obtain ⟨hb, h⟩ := h
    rw [hs] at h
    obtain ⟨X1, d1, X2, d2, rfl, o1, o2⟩ := h
    have hl := setAll_length _ _ _ hs
    obtain ⟨_, _, hv1, q1, q2, q3⟩ := own_shape o1
    obtain ⟨_, _, hv2, p1, p2, p3⟩ := own_shape o2
    simp only [Value.slice.injEq, true_and] at hv1 hv2
    obtain ⟨rfl, rfl⟩ := hv1
    obtain ⟨rfl, rfl⟩ := hv2
    have t1 := has_vals (b_ := 16) (l := r) (A := X1) (cap := d1) (w := w') (B := w'.heap.size) (by rw [hl]; exact Raw.of_own o1 (valCells_one _)) (setAll_wf (wf_of_has h5) _ _ _ (wf_of_has h1) hs) (by omega) q2 q3
    have t2 := has_vals (b_ := 16) (l := tries) (A := X2) (cap := d2) (w := w') (B := w'.heap.size) (Raw.of_own o2 (valCells_one _)) (wf_of_has h2) p1 p2 p3
    exact ⟨X1, d1, X2, d2, by rw [hl], t1, t2, hb⟩
theorem frame_none (hs : setAll vals sets regs = none) :
    Calls Try.prog 8 #[.agg #[.int .i64 fn, .int .i64 at_, .int .i64 tw, .int .i64 gen, .int .i64 sk, .int .i64 sn, .slice A1 n1 c1, .slice A2 n2 c2],
      .agg #[.int .i64 xat, .int .i64 xst, .slice A3 n3 c3, .slice A4 n4 c4], .slice A5 n5 c5] w (fun e w' => e = .returned (.tuple #[.agg #[.int .i64 0, .int .i64 0, .int .i64 0, .int .i64 0, .int .i64 0, .int .i64 0, .slice none 0 0, .slice none 0 0], .int .i64 3]) ∧ Below w.heap.size w w') :=
  (frame_any fn at_ tw gen sk sn xat xst A1 A2 A3 A4 A5 n1 c1 n2 c2 n3 c3 n4 c4 n5 c5 B b1 b2 b3 b5 regs tries sets vals w hB h1 h2 h3 h5 r1 r2).mono fun e w' h => by
    obtain ⟨hb, h⟩ := h
    rw [hs] at h
    exact ⟨h, hb⟩
end

set_option maxHeartbeats 1000000 in
theorem leftBy_any (w : World) : Calls Try.prog 7 #[] w fun e w' => e = .returned (.bool true) ∧ Below w.heap.size w w' := by
  go_enter Try.func7, Try.ntmps7
  go_wp2_with fail
  refine (fun (hh : ∀ W0, W0 = _ → Calls _ _ _ W0 _) => hh _ rfl) ?_
  intro W0 hW0
  have hz : W0.heap.size = w.heap.size + 1 + 1 + 1 := by rw [hW0]; simp
  have k0 : Blk W0 w.heap.size 23 (valCells [(0, 0), (0, 0)]).toArray := by rw [hW0]; exact ((Blk.new _ _ _).alloc _).alloc _
  have k1 : Blk W0 (w.heap.size + 1) 34 (valCells [(1, 0)]).toArray := by
    have := (Blk.new (w.alloc (.cells #[.int .i64 0, .int .i64 0, .int .i64 0, .int .i64 0] 23)) 34 #[.int .i64 1, .int .i64 0]).alloc (.cells #[.int .i64 2, .int .i64 9] 23)
    rw [World.size_alloc] at this
    rw [hW0]; exact this
  have k2 : Blk W0 (w.heap.size + 1 + 1) 23 (valCells [(2, 9)]).toArray := by
    have := Blk.new ((w.alloc (.cells #[.int .i64 0, .int .i64 0, .int .i64 0, .int .i64 0] 23)).alloc (.cells #[.int .i64 1, .int .i64 0] 34)) 23 #[.int .i64 2, .int .i64 9]
    rw [World.size_alloc, World.size_alloc] at this
    rw [hW0]; exact this
  have hB0 : Below w.heap.size w W0 := by rw [hW0]; exact (by repeat' (first | (with_reducible exact Below.refl _ _) | (with_reducible assumption) | (with_reducible refine below_drewN ?_ _) | (with_reducible refine Below.drew ?_) | (with_reducible refine Below.alloc ?_ ?_ _) | (with_reducible refine Below.setCell ?_ ?_ _) | go_size))
  have wfc : ∀ l : List (Int × Int), (l = [(0, 0), (0, 0)] ∨ l = [(1, 0)] ∨ l = [(2, 9)]) → wfAll l := by
    intro l hl x hx
    rcases hl with rfl | rfl | rfl <;> simp at hx <;> subst hx <;> decide
  clear hW0
  have HZ := Lib.hid hz
  have hzl : w.heap.size + 2 < W0.heap.size := by omega
  clear hz
  have g0 := has_vals (b_ := 16) (w := W0) (B := W0.heap.size) (cap := 2) (A := some ⟨w.heap.size, 0, none⟩) (l := [(0, 0), (0, 0)]) (raw_of_blk k0 (by omega) rfl) (wfc _ (.inl rfl)) (by simp) (by decide) (by simp)
  have g1 := has_vals (b_ := 16) (w := W0) (B := W0.heap.size) (cap := 1) (A := some ⟨w.heap.size + 1, 0, none⟩) (l := [(1, 0)]) (raw_of_blk k1 (by omega) rfl) (wfc _ (.inr (.inl rfl))) (by simp) (by decide) (by simp)
  have g2 := has_vals (b_ := 16) (w := W0) (B := W0.heap.size) (cap := 1) (A := some ⟨w.heap.size + 1 + 1, 0, none⟩) (l := [(2, 9)]) (raw_of_blk k2 (by omega) rfl) (wfc _ (.inr (.inr rfl))) (by simp) (by decide) (by simp)
  have gn : Has W0 W0.heap.size (.slice 16 VAL) [.slice none 0 0] [] := ⟨none, 0, rfl, by simp, by decide, fun _ => rfl, fun h => absurd rfl h⟩
  refine (frame_some 0 0 0 0 0 0 5 0 _ none _ none _ 2 2 0 0 1 1 0 0 1 1 W0.heap.size 16 16 16 16 [(0, 0), (0, 0)] [] [(1, 0)] [(2, 9)] W0 (Nat.le_refl _) g0 gn g1 g2 (by omega) (by omega) [(0, 0), (2, 9)] rfl).mono ?_
  rintro e w1 ⟨X1, d1, X2, d2, rfl, q1, q2, hbw⟩
  obtain ⟨_, _, _, hq⟩ := q1.two
  obtain ⟨b, off, rfl, hb1, hu, hv⟩ := hq 1 (by simp)
  simp at hu hv
  have hB1 := below_call (B := w.heap.size) (w := w) hbw hB0 (by omega)
  have hsz := hB1.size
  clear g0 g1 g2 gn k0 k1 k2 q1 q2 hq
  have hne : b ≠ w1.heap.size := by omega
  have hn2 := eqlVal (2, 9) (2, 9)
  have hn3 : eqB ((2, 9) : Int × Int) (2, 9) = true := by decide
  go_wp2
  go_ret
  exact ⟨rfl, (by repeat' (first | (with_reducible exact Below.refl _ _) | (with_reducible assumption) | (with_reducible refine below_drewN ?_ _) | (with_reducible refine Below.drew ?_) | (with_reducible refine Below.alloc ?_ ?_ _) | (with_reducible refine Below.setCell ?_ ?_ _) | go_size))⟩
end Go.Proofs.Ytbomhdgodiojhaa
