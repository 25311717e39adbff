/-
  leave.Frame: a frame behind an exit.
-/
import Derived.Test.YtbomhdgodiojhaaLvTold
import Derived.Deep.RegionLaw
import Derived.Deep.RegionWith
import Derived.Deep.CutRange
import Derived.Deep.DrawnRows
namespace Go.Proofs.Ytbomhdgodiojhaa
open Go.RowKit Go.Sort
set_option linter.unusedVariables false
set_option linter.unusedSimpArgs false
attribute [local go_sem ↓] Go.wp_at_zero Go.wp_at_succ


def setAll (vals : List (Int × Int)) : List (Int × Int) → List (Int × Int) → Option (List (Int × Int))
  | [], regs => some regs
  | s :: r, regs => if okAt vals s.2 ∧ 0 ≤ s.1 ∧ s.1 < regs.length then setAll vals r (regs.set s.1.toNat (vals.getD s.2.toNat (0, 0))) else none

def FramePost (w : World) (fn xat tw gen sk sn : Int) (regs tries sets vals : List (Int × Int)) (e : Ending) (w' : World) : Prop :=
  Below w.heap.size w w' ∧ match setAll vals sets regs with
  | none => e = .returned (.tuple #[.agg #[.int .i64 0, .int .i64 0, .int .i64 0, .int .i64 0, .int .i64 0, .int .i64 0, .slice none 0 0, .slice none 0 0], .int .i64 3])
  | some regs' => ∃ X1 d1 X2 d2, e = .returned (.tuple #[.agg #[.int .i64 fn, .int .i64 xat, .int .i64 tw, .int .i64 gen, .int .i64 sk, .int .i64 sn, .slice X1 regs.length d1, .slice X2 tries.length d2], .int .i64 0]) ∧
      w'.ownsRow w.heap.size 23 2 (.slice X1 regs.length d1) regs.length (valCells regs') ∧ w'.ownsRow w.heap.size 76 2 (.slice X2 tries.length d2) tries.length (valCells tries)

def FrameMid (w : World) (fn at_ tw gen sk sn : Int) (regs tries : List (Int × Int)) (x : Obj) (wx : World) : Prop :=
  Below w.heap.size w wx ∧ ∃ X1 d1 X2 d2, wx.ownsRow (w.heap.size + 3) 23 2 (.slice X1 regs.length d1) regs.length (valCells regs) ∧ wx.ownsRow (w.heap.size + 3) 76 2 (.slice X2 tries.length d2) tries.length (valCells tries) ∧
    Blk wx w.heap.size 27 #[.int .i64 fn, .int .i64 at_, .int .i64 tw, .int .i64 gen, .int .i64 sk, .int .i64 sn, .slice X1 regs.length d1, .slice X2 tries.length d2] ∧
    wx.heap[w.heap.size + 1]? = some x ∧ Blk wx (w.heap.size + 2) 27 #[.int .i64 0, .int .i64 0, .int .i64 0, .int .i64 0, .int .i64 0, .int .i64 0, .slice none 0 0, .slice none 0 0]

theorem frame_mid {w W0 w1 w2 : World} {fn at_ tw gen sk sn : Int} {regs tries : List (Int × Int)} {x : Obj} {v6 v7 : Value} {X1 X2 : Option Addr} {d1 d2 : Nat} (hz : W0.heap.size = w.heap.size + 1 + 1 + 1) (hB0 : Below w.heap.size w W0)
    (h0 : Blk W0 w.heap.size 27 #[.int .i64 fn, .int .i64 at_, .int .i64 tw, .int .i64 gen, .int .i64 sk, .int .i64 sn, v6, v7]) (h1 : W0.heap[w.heap.size + 1]? = some x)
    (h2 : Blk W0 (w.heap.size + 2) 27 #[.int .i64 0, .int .i64 0, .int .i64 0, .int .i64 0, .int .i64 0, .int .i64 0, .slice none 0 0, .slice none 0 0])
    (hS1 : Below W0.heap.size W0 w1) (o1 : w1.ownsRow W0.heap.size 23 2 (.slice X1 regs.length d1) regs.length (valCells regs)) (hb2 : Below w1.heap.size w1 w2) (o2 : w2.ownsRow w1.heap.size 76 2 (.slice X2 tries.length d2) tries.length (valCells tries)) :
    FrameMid w fn at_ tw gen sk sn regs tries x ((w2.setCell ⟨w.heap.size, 6, none⟩ (.slice X1 regs.length d1)).setCell ⟨w.heap.size, 7, none⟩ (.slice X2 tries.length d2)) := by
  have hs1 := hS1.size
  have hs2 := hb2.size
  have hS2 : Below W0.heap.size W0 w2 := hS1.trans (hb2.mono hs1)
  refine ⟨((hB0.trans (hS2.mono (by omega))).setCell (Nat.le_refl _) _).setCell (Nat.le_refl _) _, X1, d1, X2, d2, ?_, ?_, ?_, ?_, ?_⟩
  · exact ownsRow_setCell_below (ownsRow_setCell_below (own_base (own_below o1 hb2) (by omega)) (by show w.heap.size < _; omega) _) (by show w.heap.size < _; omega) _
  · exact ownsRow_setCell_below (ownsRow_setCell_below (own_base o2 (by omega)) (by show w.heap.size < _; omega) _) (by show w.heap.size < _; omega) _
  · exact ((h0.below hS2 (by omega)).set_ 6 _).set_ 7 _
  · rw [Below.heap_setCell _ _ _ _ (by show w.heap.size + 1 ≠ w.heap.size; omega), Below.heap_setCell _ _ _ _ (by show w.heap.size + 1 ≠ w.heap.size; omega), hS2.block _ (by omega)]
    exact h1
  · exact ((h2.below hS2 (by omega)).far (by show w.heap.size + 2 ≠ w.heap.size; omega) _).far (by show w.heap.size + 2 ≠ w.heap.size; omega) _

theorem raw_cells {w : World} {B : Nat} {A : Option Addr} {regs : List (Int × Int)} {xs : List Value} (hr : Raw w B VAL.size A regs.length xs) (hx : ∀ i (hi : i < regs.length), Has w B VAL (chunk VAL.size xs i) regs[i]) : xs = valCells regs := by
  apply List.ext_getElem?
  intro j
  have hl : xs.length = regs.length * 2 := hr.1
  by_cases hj : j < regs.length * 2
  · obtain ⟨c, d, hc, ⟨rfl, _⟩, rfl, _⟩ := hx (j / 2) (by omega)
    have h1 := chunk_get (size := 2) (xs := xs) (i := j / 2) (j := j % 2) (by omega)
    have h2 := chunk_get (size := 2) (xs := valCells regs) (i := j / 2) (j := j % 2) (by omega)
    rw [show j / 2 * 2 + j % 2 = j from by omega] at h1 h2
    rw [← h1, ← h2, valCells_chunk _ _ (by omega)]
    have : chunk VAL.size xs (j / 2) = chunk 2 xs (j / 2) := rfl
    rw [← this, hc]
    rfl
  · rw [List.getElem?_eq_none (by omega), List.getElem?_eq_none (by rw [valCells_length]; omega)]

def FrameInv (w : World) (fa xa : Array Value) (X1 : Option Addr) (d1 : Nat) (X2 : Option Addr) (d2 : Nat) (regs tries cur : List (Int × Int)) (wr : World) : Prop :=
  Below w.heap.size w wr ∧ cur.length = regs.length ∧ wr.ownsRow (w.heap.size + 3) 23 2 (.slice X1 regs.length d1) regs.length (valCells cur) ∧
    wr.ownsRow (w.heap.size + 3) 76 2 (.slice X2 tries.length d2) tries.length (valCells tries) ∧ Blk wr w.heap.size 27 fa ∧ Blk wr (w.heap.size + 1) 31 xa ∧
    Blk wr (w.heap.size + 2) 27 #[.int .i64 0, .int .i64 0, .int .i64 0, .int .i64 0, .int .i64 0, .int .i64 0, .slice none 0 0, .slice none 0 0]
theorem FrameInv.below {w wr w' : World} {fa xa : Array Value} {X1 X2 : Option Addr} {d1 d2 : Nat} {regs tries cur : List (Int × Int)} (h : FrameInv w fa xa X1 d1 X2 d2 regs tries cur wr) (hb : Below wr.heap.size wr w') : FrameInv w fa xa X1 d1 X2 d2 regs tries cur w' := by
  obtain ⟨h1, h2, h3, h4, h5, h6, h7⟩ := h
  exact ⟨h1.trans (hb.mono h1.size), h2, own_below h3 hb, own_below h4 hb, h5.below hb h5.lt, h6.below hb h6.lt, h7.below hb h7.lt⟩

theorem FrameInv.drew {w wr : World} {fa xa : Array Value} {X1 X2 : Option Addr} {d1 d2 : Nat} {regs tries cur : List (Int × Int)} (h : FrameInv w fa xa X1 d1 X2 d2 regs tries cur wr) : FrameInv w fa xa X1 d1 X2 d2 regs tries cur wr.drew :=
  ⟨h.1.drew, h.2.1, h.2.2.1.drew, h.2.2.2.1.drew, h.2.2.2.2⟩
theorem valCells_set (l : List (Int × Int)) (i : Nat) (y : Int × Int) : ((valCells l).set (i * 2) (.int .i64 y.1)).set (i * 2 + 1) (.int .i64 y.2) = valCells (l.set i y) := by
  induction l generalizing i with
  | nil => simp [valCells]
  | cons x l ih =>
    cases i with
    | zero => simp [valCells]
    | succ i =>
      have := ih i
      simp only [valCells, List.flatMap_cons, List.set_cons_succ, List.cons_append, List.nil_append] at this ⊢
      rw [show (i + 1) * 2 = i * 2 + 1 + 1 from by omega]
      simp only [List.set_cons_succ]
      rw [this]
theorem own_apart {w : World} {b1 b2 s1 s2 n1 n2 : Nat} {e1 e2 : TypeId} {v1 v2 : Value} {x1 x2 : List Value} (h1 : w.ownsRow b1 e1 s1 v1 n1 x1) (h2 : w.ownsRow b2 e2 s2 v2 n2 x2) (hne : e1 ≠ e2) : v2.ownBlock = none ∨ v2.ownBlock ≠ v1.ownBlock := by
  rcases h2.2 with ⟨rfl, _⟩ | ⟨g, cap, cur, rfl, _, hh, _⟩
  · exact .inl rfl
  · right
    rcases h1.2 with ⟨rfl, _⟩ | ⟨g', cap', cur', rfl, _, hh', _⟩
    · simp [Value.ownBlock]
    · intro e
      have : g = g' := by simpa [Value.ownBlock] using e
      subst this
      rw [hh] at hh'
      injection hh' with hh'
      injection hh' with _ ht
      exact hne ht.symm
theorem FrameInv.stored {w wr : World} {fa xa : Array Value} {X2 : Option Addr} {g1 d1 d2 : Nat} {regs tries cur : List (Int × Int)} (h : FrameInv w fa xa (some ⟨g1, 0, none⟩) d1 X2 d2 regs tries cur wr) (i : Nat) (hi : i < cur.length) (y : Int × Int) :
    FrameInv w fa xa (some ⟨g1, 0, none⟩) d1 X2 d2 regs tries (cur.set i y) ((wr.setCell ⟨g1, i * 2, none⟩ (.int .i64 y.1)).setCell ⟨g1, i * 2 + 1, none⟩ (.int .i64 y.2)) := by
  obtain ⟨h1, h2, h3, h4, h5, h6, h7⟩ := h
  obtain ⟨g, cap, hv, hgb, _⟩ := h3.form (by omega)
  simp only [Value.slice.injEq, Option.some.injEq, Addr.mk.injEq, and_true, true_and] at hv
  obtain ⟨rfl, rfl⟩ := hv
  have s1 := h3.stored (i * 2) (.int .i64 y.1)
  have s2 := s1.1.stored (i * 2 + 1) (.int .i64 y.2)
  have n4 := own_apart h3 h4 (by decide)
  refine ⟨(h1.setCell (by show _ ≤ g1; omega) _).setCell (by show _ ≤ g1; omega) _, by simp [h2], ?_, ?_, ?_, ?_, ?_⟩
  · rw [← valCells_set]; exact s2.1
  · exact (h4.kept s1.2 n4).kept s2.2 n4
  · exact (h5.far (by show w.heap.size ≠ g1; omega) _).far (by show w.heap.size ≠ g1; omega) _
  · exact (h6.far (by show w.heap.size + 1 ≠ g1; omega) _).far (by show w.heap.size + 1 ≠ g1; omega) _
  · exact (h7.far (by show w.heap.size + 2 ≠ g1; omega) _).far (by show w.heap.size + 2 ≠ g1; omega) _

/-- told of one number. -/
def ToldOne (w : World) (vals : List (Int × Int)) (n : Int) (e : Ending) (w' : World) : Prop :=
  if okAt vals n then ∃ g c', e = .returned (.tuple #[.slice (some ⟨g, 0, none⟩) 1 c', .bool true]) ∧ w.heap.size ≤ g ∧ g < w'.heap.size ∧ w'.cell? ⟨g, 0, none⟩ = some (.int .i64 (vals.getD n.toNat (0, 0)).1) ∧
      w'.cell? ⟨g, 1, none⟩ = some (.int .i64 (vals.getD n.toNat (0, 0)).2) ∧ Below w.heap.size w w'
  else e = .returned (.tuple #[.slice none 0 0, .bool false]) ∧ Below w.heap.size w w'
theorem told_one (g c : Nat) (n : Int) (A5 : Option Addr) (n5 c5 b5 B : Nat) (vals : List (Int × Int)) (w : World) (hB : B ≤ w.heap.size) (h5 : Has w B (.slice b5 VAL) [.slice A5 n5 c5] vals)
    (hc : 1 ≤ c ∧ c ≤ maxLen) (hg : w.cell? ⟨g, 0, none⟩ = some (.int .i64 n)) (hgl : g < w.heap.size) (hw : (Lit.int .i64 n).wf = true) :
    Calls Try.prog 20 #[.slice (some ⟨g, 0, none⟩) 1 c, .slice A5 n5 c5] w (ToldOne w vals n) := by
  have h1 : Has w w.heap.size (.slice 8 (.int .i64)) [.slice (some ⟨g, 0, none⟩) 1 c] [n] :=
    ⟨some ⟨g, 0, none⟩, c, rfl, hc.1, hc.2, fun h => by (cases h), fun _ => ⟨g, 0, rfl, hgl, fun i hi => ⟨[.int .i64 n], rfl, fun j hj => (by
      have h0 : i = 0 := by simp at hi; omega
      have h1 : j = 0 := by simp at hj; omega
      subst h0 h1
      simpa using hg), (by
      have h0 : i = 0 := by simp at hi; omega
      subst h0
      exact ⟨rfl, hw⟩)⟩⟩⟩
  refine (told_any _ _ _ _ _ _ _ _ w.heap.size [n] vals w (Nat.le_refl _) h1 (h5.more hB) (by simp)).mono fun e w' h => ?_
  unfold ToldPost toldL at h
  unfold ToldOne
  split at h
  · rename_i hn
    split at hn
    · simp [toldL] at hn
    · rename_i hok; rw [if_neg hok]; exact h
  · rename_i r hn
    split at hn
    · rename_i hok
      rw [if_pos hok]
      simp [toldL] at hn
      subst hn
      obtain ⟨A', c', rfl, ho, hb⟩ := h
      obtain ⟨g', cap, hv, hg1, hg2⟩ := ho.form (by simp)
      simp only [Value.slice.injEq] at hv
      obtain ⟨rfl, _, rfl⟩ := hv
      refine ⟨g', c', rfl, hg1, hg2, ?_, ?_, hb⟩
      · have := ho.cellAt 0 (by simp); simpa [valCells] using this
      · have := ho.cellAt 1 (by simp); simpa [valCells] using this
    · cases hn

theorem told_ok (g c : Nat) (n : Int) (A5 : Option Addr) (n5 c5 b5 B : Nat) (vals : List (Int × Int)) (y : Int × Int) (hy : y = vals.getD n.toNat (0, 0)) (hok : okAt vals n) (w : World) (hB : B ≤ w.heap.size) (h5 : Has w B (.slice b5 VAL) [.slice A5 n5 c5] vals)
    (hc : 1 ≤ c ∧ c ≤ maxLen) (hg : w.cell? ⟨g, 0, none⟩ = some (.int .i64 n)) (hgl : g < w.heap.size) (hw : (Lit.int .i64 n).wf = true) :
    Calls Try.prog 20 #[.slice (some ⟨g, 0, none⟩) 1 c, .slice A5 n5 c5] w (fun e w' => ∃ g c', e = .returned (.tuple #[.slice (some ⟨g, 0, none⟩) 1 c', .bool true]) ∧ w.heap.size ≤ g ∧ g < w'.heap.size ∧ w'.cell? ⟨g, 0, none⟩ = some (.int .i64 y.1) ∧
      w'.cell? ⟨g, 1, none⟩ = some (.int .i64 y.2) ∧ Below w.heap.size w w') :=
  (told_one g c n A5 n5 c5 b5 B vals w hB h5 hc hg hgl hw).mono fun e w' h => by
    unfold ToldOne at h; rw [if_pos hok, ← hy] at h; exact h
theorem told_bad (g c : Nat) (n : Int) (A5 : Option Addr) (n5 c5 b5 B : Nat) (vals : List (Int × Int)) (hok : ¬ okAt vals n) (w : World) (hB : B ≤ w.heap.size) (h5 : Has w B (.slice b5 VAL) [.slice A5 n5 c5] vals)
    (hc : 1 ≤ c ∧ c ≤ maxLen) (hg : w.cell? ⟨g, 0, none⟩ = some (.int .i64 n)) (hgl : g < w.heap.size) (hw : (Lit.int .i64 n).wf = true) :
    Calls Try.prog 20 #[.slice (some ⟨g, 0, none⟩) 1 c, .slice A5 n5 c5] w (fun e w' => e = .returned (.tuple #[.slice none 0 0, .bool false]) ∧ Below w.heap.size w w') :=
  (told_one g c n A5 n5 c5 b5 B vals w hB h5 hc hg hgl hw).mono fun e w' h => by
    unfold ToldOne at h; rw [if_neg hok] at h; exact h

set_option maxHeartbeats 2000000 in
theorem frame_any (fn at_ tw gen sk sn xat xst : Int) (A1 A2 A3 A4 A5 : Option Addr) (n1 c1 n2 c2 n3 c3 n4 c4 n5 c5 B b1 b2 b3 b5 : Nat) (regs tries sets vals : List (Int × Int)) (w : World) (hB : B ≤ w.heap.size)
    (h1 : Has w B (.slice b1 VAL) [.slice A1 n1 c1] regs) (h2 : Has w B (.slice b2 VAL) [.slice A2 n2 c2] tries) (h3 : Has w B (.slice b3 VAL) [.slice A3 n3 c3] sets) (h5 : Has w B (.slice b5 VAL) [.slice A5 n5 c5] vals)
    (r1 : n1 * 16 ≤ 140737488351232) (r2 : n2 * 16 ≤ 140737488351232) :
    Calls Try.prog 8 #[.agg #[.int .i64 fn, .int .i64 at_, .int .i64 tw, .int .i64 gen, .int .i64 sk, .int .i64 sn, .slice A1 n1 c1, .slice A2 n2 c2],
      .agg #[.int .i64 xat, .int .i64 xst, .slice A3 n3 c3, .slice A4 n4 c4], .slice A5 n5 c5] w (FramePost w fn xat tw gen sk sn regs tries sets vals) := by
  obtain ⟨rfl, hl1, hm1, hn1, xs1, hr1, hx1⟩ := h1.raw
  obtain ⟨rfl, hl2, hm2, hn2, xs2, hr2, hx2⟩ := h2.raw
  have E1 := raw_cells hr1 hx1
  have E2 := raw_cells hr2 hx2
  subst E1 E2
  have H1 := Lib.hid hr1
  have H2 := Lib.hid hr2
  have N1 := Lib.hid hn1
  have N2 := Lib.hid hn2
  clear hr1 hr2 hn1 hn2
  go_enter Try.func8, Try.ntmps8
  go_wp2
  go_cut [] from 12 to 19 (fun wx => FrameMid w fn at_ tw gen sk sn regs tries (.cells #[.int .i64 xat, .int .i64 xst, .slice A3 n3 c3, .slice A4 n4 c4] 31) wx)
  case first =>
    refine (fun (hh : ∀ W0, W0 = _ → Code.wp _ _ _ _ W0) => hh _ rfl) ?_
    intro W0 hW0
    have HW := Lib.hid hW0
    have c6 : W0.cell? ⟨w.heap.size, 6, none⟩ = some (.slice A1 regs.length c1) := by rw [hW0]; simp [go_sem]
    have c7 : W0.cell? ⟨w.heap.size, 7, none⟩ = some (.slice A2 tries.length c2) := by rw [hW0]; simp [go_sem]
    have z6 : W0.frozen? ⟨w.heap.size, 6, none⟩ = false := by rw [hW0]; simp [go_sem]
    have z7 : W0.frozen? ⟨w.heap.size, 7, none⟩ = false := by rw [hW0]; simp [go_sem]
    have hz : W0.heap.size = w.heap.size + 1 + 1 + 1 := by rw [hW0]; simp
    have hz3 : w.heap.size + 3 ≤ W0.heap.size := by omega
    have hB0 : Below w.heap.size w W0 := by rw [hW0]; exact (by repeat' (first | (with_reducible exact Below.refl _ _) | (with_reducible assumption) | (with_reducible refine below_drewN ?_ _) | (with_reducible refine Below.drew ?_) | (with_reducible refine Below.alloc ?_ ?_ _) | (with_reducible refine Below.setCell ?_ ?_ _) | go_size))
    have HZ := Lib.hid hz
    have k0 : Blk W0 w.heap.size 27 #[.int .i64 fn, .int .i64 at_, .int .i64 tw, .int .i64 gen, .int .i64 sk, .int .i64 sn, .slice A1 regs.length c1, .slice A2 tries.length c2] := by
      rw [hW0]; exact ((Blk.new _ _ _).alloc _).alloc _
    have k1 : Hid (W0.heap[w.heap.size + 1]? = some (.cells #[.int .i64 xat, .int .i64 xst, .slice A3 n3 c3, .slice A4 n4 c4] 31)) := by
      have := (Blk.new (w.alloc (.cells #[.int .i64 fn, .int .i64 at_, .int .i64 tw, .int .i64 gen, .int .i64 sk, .int .i64 sn, .slice A1 regs.length c1, .slice A2 tries.length c2] 27)) 31 #[.int .i64 xat, .int .i64 xst, .slice A3 n3 c3, .slice A4 n4 c4]).alloc (.cells #[.int .i64 0, .int .i64 0, .int .i64 0, .int .i64 0, .int .i64 0, .int .i64 0, .slice none 0 0, .slice none 0 0] 27)
      rw [World.size_alloc] at this
      rw [hW0]; exact this
    have k2 : Blk W0 (w.heap.size + 2) 27 #[.int .i64 0, .int .i64 0, .int .i64 0, .int .i64 0, .int .i64 0, .int .i64 0, .slice none 0 0, .slice none 0 0] := by
      have := Blk.new ((w.alloc (.cells #[.int .i64 fn, .int .i64 at_, .int .i64 tw, .int .i64 gen, .int .i64 sk, .int .i64 sn, .slice A1 regs.length c1, .slice A2 tries.length c2] 27)).alloc (.cells #[.int .i64 xat, .int .i64 xst, .slice A3 n3 c3, .slice A4 n4 c4] 31)) 27 #[.int .i64 0, .int .i64 0, .int .i64 0, .int .i64 0, .int .i64 0, .int .i64 0, .slice none 0 0, .slice none 0 0]
      rw [World.size_alloc, World.size_alloc] at this
      rw [hW0]; exact this
    clear hW0 hz
    go_region_law (first | (go_simp; go_at_call 18; refine (cVal_clone A1 _ c1 B _ _ (by show B ≤ W0.heap.size; omega) (H1.out.below (hB0.mono hB).drew (Nat.le_refl _)) N1.out hl1 r1).mono ?_; rintro e w1 ⟨X1, d1, rfl, hown1, hb1⟩; have hS1 : Below W0.heap.size W0 w1 := (Below.refl W0.heap.size W0).drew.trans hb1; have g6 := (hS1.cell (by show w.heap.size < _; omega)).trans c6; have g7 := (hS1.cell (by show w.heap.size < _; omega)).trans c7; clear hb1) | (go_simp; go_at_call 19; refine (cTry_clone A2 _ c2 B _ _ (by have := hS1.size; omega) (H2.out.below ((hB0.trans (hS1.mono (by omega))).mono hB) (Nat.le_refl _)) N2.out hl2 r2).mono ?_; rintro e w2 ⟨X2, d2, rfl, hown2, hb2⟩; have e6 := (hb2.cell (by have := hS1.size; show w.heap.size < _; omega)).trans g6; have e7 := (hb2.cell (by have := hS1.size; show w.heap.size < _; omega)).trans g7; have f6 : w2.frozen? ⟨w.heap.size, 6, none⟩ = false := (hb2.frozen (by have := hS1.size; show w.heap.size < _; omega)).trans ((hS1.frozen (by show w.heap.size < _; omega)).trans z6); have f7 : w2.frozen? ⟨w.heap.size, 7, none⟩ = false := (hb2.frozen (by have := hS1.size; show w.heap.size < _; omega)).trans ((hS1.frozen (by show w.heap.size < _; omega)).trans z7)))
    all_goals (go_wp2_with fail; go_meet)
    all_goals exact frame_mid HZ.out hB0 k0 k1.out k2 hS1 hown1 hb2 hown2
  case rest =>
    obtain ⟨hb, X1, d1, X2, d2, o1, o2, k0, k1, k2⟩ := hcut
    have hI : FrameInv w #[.int .i64 fn, .int .i64 at_, .int .i64 tw, .int .i64 gen, .int .i64 sk, .int .i64 sn, .slice X1 regs.length d1, .slice X2 tries.length d2] #[.int .i64 xat, .int .i64 xst, .slice A3 n3 c3, .slice A4 n4 c4] X1 d1 X2 d2 regs tries regs wc := ⟨hb, rfl, o1, o2, k0, k1, k2⟩
    have x2 : wc.cell? ⟨w.heap.size + 1, 2, none⟩ = some (.slice A3 n3 c3) := (Blk.cell k1 2)
    clear hb o1 o2 k0 k1 k2
    obtain ⟨rfl, hl3, hm3, hs3⟩ := h3.two
    have hm3' : sets.length ≤ 9223372036854775807 := by unfold maxLen at hm3; omega
    go_wp2
    go_loopw [23] (fun i wr => ∃ (k : Nat) (cu : List (Int × Int)), k ≤ sets.length ∧ i = .int .i64 k ∧ setAll vals sets regs = setAll vals (sets.drop k) cu ∧
        FrameInv w #[.int .i64 fn, .int .i64 at_, .int .i64 tw, .int .i64 gen, .int .i64 sk, .int .i64 sn, .slice X1 regs.length d1, .slice X2 tries.length d2] #[.int .i64 xat, .int .i64 xst, .slice A3 sets.length c3, .slice A4 n4 c4] X1 d1 X2 d2 regs tries cu wr) (fun i _ => sets.length - (intOf i).toNat)
    case atStart => exact ⟨0, regs, Nat.zero_le _, rfl, rfl, hI⟩
    case round =>
      obtain ⟨k, cu, hk, rfl, hset, hJ⟩ := hrel
      have HS := Lib.hid hset
      clear hset hI
      have hsz := hJ.1.size
      by_cases hlt : k < sets.length
      · obtain ⟨b, off, rfl, hbB, hx, hy⟩ := hs3 k hlt
        have hx := (hJ.1.cell (p := ⟨b, off + k * 2, none⟩) (Nat.lt_of_lt_of_le hbB hB)).trans hx
        have hy := (hJ.1.cell (p := ⟨b, off + k * 2 + 1, none⟩) (Nat.lt_of_lt_of_le hbB hB)).trans hy
        obtain ⟨x, ex⟩ : ∃ x, x = sets[k] := ⟨_, rfl⟩
        rw [← ex] at hx hy
        have HX := Lib.hid ex
        have hzb : b < wr.heap.size := by omega
        have hz0 : w.heap.size + 2 < wr.heap.size := hJ.2.2.2.2.2.2.lt
        clear ex hs3
        have hstep : Hid (setAll vals (sets.drop k) cu = if okAt vals x.2 ∧ 0 ≤ x.1 ∧ x.1 < cu.length then setAll vals (sets.drop (k + 1)) (cu.set x.1.toNat (vals.getD x.2.toNat (0, 0))) else none) := by
          show _ = _
          rw [List.drop_eq_getElem_cons hlt, ← HX.out]
          rfl
        have hwf := Lib.hid (h3.two_wf k hlt).2
        have hb5 : Below B w wr := hJ.1.mono hB
        have hcl := hJ.2.1
        by_cases hok : okAt vals x.2
        · by_cases hr : 0 ≤ x.1 ∧ x.1 < regs.length
          · obtain ⟨hr0, hr1⟩ := hr
            obtain ⟨y, ey⟩ : ∃ y, y = vals.getD x.2.toNat (0, 0) := ⟨_, rfl⟩
            have HY := Lib.hid ey
            have HO := Lib.hid hok
            have HK := Lib.hid (show okAt vals x.2 ∧ 0 ≤ x.1 ∧ x.1 < cu.length from ⟨hok, hr0, by rw [hcl]; exact hr1⟩)
            obtain ⟨g1, cap1, hv1, hgb, hgl⟩ := hJ.2.2.1.form (by omega)
            simp only [Value.slice.injEq, true_and] at hv1
            obtain ⟨rfl, rfl⟩ := hv1
            have hvl : (valCells cu).length = regs.length * 2 := by rw [valCells_length, hcl]
            obtain ⟨u0, hu0⟩ : ∃ u, (valCells cu)[x.1.toNat * 2]? = some u := ⟨_, List.getElem?_eq_getElem (by omega)⟩
            obtain ⟨u1, hu1⟩ : ∃ u, (valCells cu)[x.1.toNat * 2 + 1]? = some u := ⟨_, List.getElem?_eq_getElem (by omega)⟩
            have HC := Lib.hid hcl
            clear hok ey hvl hcl
            go_wp2_with (go_at_call 20; refine (told_ok _ _ _ A5 n5 c5 b5 B vals y HY.out HO.out _ (by go_size) (h5.below ((hb5.alloc (by omega) _).alloc (by go_size) _) (Nat.le_refl _)) (by decide) (by simp [go_sem]) (by go_size) (by rw [HX.out]; exact hwf.out)).mono ?_; rintro e w1 ⟨g, c', rfl, hg1, hg2, hu, hv, hbw⟩; have hJ1 := hJ.below (below_call (w := wr) hbw (by repeat' (first | (with_reducible exact Below.refl _ _) | (with_reducible assumption) | (with_reducible refine below_drewN ?_ _) | (with_reducible refine Below.drew ?_) | (with_reducible refine Below.alloc ?_ ?_ _) | (with_reducible refine Below.setCell ?_ ?_ _) | go_size)) (by go_size)); have s0 := (hbw.cell (p := ⟨wr.heap.size, 0, none⟩) (by go_size)).trans (show _ = some (Value.int .i64 x.1) from by simp [go_sem]); have fc := Blk.cell hJ1.2.2.2.2.1; have ff := Blk.frozen hJ1.2.2.2.2.1; have rc : ∀ i, w1.cell? ⟨w.heap.size + 1 + 1, i, none⟩ = _ := Blk.cell hJ1.2.2.2.2.2.2; have rf : ∀ i, w1.frozen? ⟨w.heap.size + 1 + 1, i, none⟩ = false := Blk.frozen hJ1.2.2.2.2.2.2; have t0 := (hJ1.2.2.1.cellAt (x.1.toNat * 2) (by omega)).trans hu0; have t1 := (hJ1.2.2.1.cellAt (x.1.toNat * 2 + 1) (by omega)).trans hu1; have tf := hJ1.2.2.1.frozenAt)
            clear hu0 hu1 rc rf ff
            go_region
            go_wp2
            go_roundw
            case rel => exact ⟨k + 1, cu.set x.1.toNat y, by omega, by go_num, by rw [HS.out, hstep.out, if_pos HK.out, HY.out], (FrameInv.drew hJ1).stored _ (by rw [HC.out]; omega) y⟩
            case measure => simp [intOf]; omega
          · have HO := Lib.hid hok
            have hE : Hid (setAll vals sets regs = none) := by
              show _ = _
              rw [HS.out, hstep.out, if_neg (by rw [hcl]; rintro ⟨_, h1, h2⟩; exact hr ⟨h1, h2⟩)]
            obtain ⟨y, ey⟩ : ∃ y, y = vals.getD x.2.toNat (0, 0) := ⟨_, rfl⟩
            have HY := Lib.hid ey
            have HC := Lib.hid hcl
            clear hok ey hcl
            rcases (show x.1 < 0 ∨ (0 ≤ x.1 ∧ (regs.length : Int) ≤ x.1) from by omega) with hr1 | ⟨hr0, hr1⟩
            · clear hr
              go_wp2_with (go_at_call 20; refine (told_ok _ _ _ A5 n5 c5 b5 B vals y HY.out HO.out _ (by go_size) (h5.below ((hb5.alloc (by omega) _).alloc (by go_size) _) (Nat.le_refl _)) (by decide) (by simp [go_sem]) (by go_size) (by rw [HX.out]; exact hwf.out)).mono ?_; rintro e w1 ⟨g, c', rfl, hg1, hg2, hu, hv, hbw⟩; have hJ1 := hJ.below (below_call (w := wr) hbw (by repeat' (first | (with_reducible exact Below.refl _ _) | (with_reducible assumption) | (with_reducible refine below_drewN ?_ _) | (with_reducible refine Below.drew ?_) | (with_reducible refine Below.alloc ?_ ?_ _) | (with_reducible refine Below.setCell ?_ ?_ _) | go_size)) (by go_size)); have s0 := (hbw.cell (p := ⟨wr.heap.size, 0, none⟩) (by go_size)).trans (show _ = some (Value.int .i64 x.1) from by simp [go_sem]); have fc := Blk.cell hJ1.2.2.2.2.1; have ff := Blk.frozen hJ1.2.2.2.2.1; have rc : ∀ i, w1.cell? ⟨w.heap.size + 1 + 1, i, none⟩ = _ := Blk.cell hJ1.2.2.2.2.2.2; have rf : ∀ i, w1.frozen? ⟨w.heap.size + 1 + 1, i, none⟩ = false := Blk.frozen hJ1.2.2.2.2.2.2)
              refine bodyPost_ret (v := .tuple #[.agg #[.int .i64 0, .int .i64 0, .int .i64 0, .int .i64 0, .int .i64 0, .int .i64 0, .slice none 0 0, .slice none 0 0], .int .i64 3]) (by simp [results, Try.results8, go_sem, *]) rfl ?_
              unfold FramePost
              rw [hE.out]
              have hb1 := hJ1.1
              exact ⟨(by repeat' (first | (with_reducible exact Below.refl _ _) | (with_reducible assumption) | (with_reducible refine below_drewN ?_ _) | (with_reducible refine Below.drew ?_) | (with_reducible refine Below.alloc ?_ ?_ _) | (with_reducible refine Below.setCell ?_ ?_ _) | go_size)), rfl⟩

            · clear hr
              go_wp2_with (go_at_call 20; refine (told_ok _ _ _ A5 n5 c5 b5 B vals y HY.out HO.out _ (by go_size) (h5.below ((hb5.alloc (by omega) _).alloc (by go_size) _) (Nat.le_refl _)) (by decide) (by simp [go_sem]) (by go_size) (by rw [HX.out]; exact hwf.out)).mono ?_; rintro e w1 ⟨g, c', rfl, hg1, hg2, hu, hv, hbw⟩; have hJ1 := hJ.below (below_call (w := wr) hbw (by repeat' (first | (with_reducible exact Below.refl _ _) | (with_reducible assumption) | (with_reducible refine below_drewN ?_ _) | (with_reducible refine Below.drew ?_) | (with_reducible refine Below.alloc ?_ ?_ _) | (with_reducible refine Below.setCell ?_ ?_ _) | go_size)) (by go_size)); have s0 := (hbw.cell (p := ⟨wr.heap.size, 0, none⟩) (by go_size)).trans (show _ = some (Value.int .i64 x.1) from by simp [go_sem]); have fc := Blk.cell hJ1.2.2.2.2.1; have ff := Blk.frozen hJ1.2.2.2.2.1; have rc : ∀ i, w1.cell? ⟨w.heap.size + 1 + 1, i, none⟩ = _ := Blk.cell hJ1.2.2.2.2.2.2; have rf : ∀ i, w1.frozen? ⟨w.heap.size + 1 + 1, i, none⟩ = false := Blk.frozen hJ1.2.2.2.2.2.2)
              refine bodyPost_ret (v := .tuple #[.agg #[.int .i64 0, .int .i64 0, .int .i64 0, .int .i64 0, .int .i64 0, .int .i64 0, .slice none 0 0, .slice none 0 0], .int .i64 3]) (by simp [results, Try.results8, go_sem, *]) rfl ?_
              unfold FramePost
              rw [hE.out]
              have hb1 := hJ1.1
              exact ⟨(by repeat' (first | (with_reducible exact Below.refl _ _) | (with_reducible assumption) | (with_reducible refine below_drewN ?_ _) | (with_reducible refine Below.drew ?_) | (with_reducible refine Below.alloc ?_ ?_ _) | (with_reducible refine Below.setCell ?_ ?_ _) | go_size)), rfl⟩

        · have HO := Lib.hid hok
          have hE : Hid (setAll vals sets regs = none) := by
            show _ = _
            rw [HS.out, hstep.out, if_neg (fun h => hok h.1)]
          have HC := Lib.hid hcl
          clear hok hcl
          go_wp2_with (go_at_call 20; refine (told_bad _ _ _ A5 n5 c5 b5 B vals HO.out _ (by go_size) (h5.below ((hb5.alloc (by omega) _).alloc (by go_size) _) (Nat.le_refl _)) (by decide) (by simp [go_sem]) (by go_size) (by rw [HX.out]; exact hwf.out)).mono ?_; rintro e w1 ⟨rfl, hbw⟩; have hJ1 := hJ.below (below_call (w := wr) hbw (by repeat' (first | (with_reducible exact Below.refl _ _) | (with_reducible assumption) | (with_reducible refine below_drewN ?_ _) | (with_reducible refine Below.drew ?_) | (with_reducible refine Below.alloc ?_ ?_ _) | (with_reducible refine Below.setCell ?_ ?_ _) | go_size)) (by go_size)); have s0 := (hbw.cell (p := ⟨wr.heap.size, 0, none⟩) (by go_size)).trans (show _ = some (Value.int .i64 x.1) from by simp [go_sem]); have fc := Blk.cell hJ1.2.2.2.2.1; have ff := Blk.frozen hJ1.2.2.2.2.1; have rc : ∀ i, w1.cell? ⟨w.heap.size + 1 + 1, i, none⟩ = _ := Blk.cell hJ1.2.2.2.2.2.2; have rf : ∀ i, w1.frozen? ⟨w.heap.size + 1 + 1, i, none⟩ = false := Blk.frozen hJ1.2.2.2.2.2.2)
          refine bodyPost_ret (v := .tuple #[.agg #[.int .i64 0, .int .i64 0, .int .i64 0, .int .i64 0, .int .i64 0, .int .i64 0, .slice none 0 0, .slice none 0 0], .int .i64 3]) (by simp [results, Try.results8, go_sem, *]) rfl ?_
          unfold FramePost
          rw [hE.out]
          have hb1 := hJ1.1
          exact ⟨(by repeat' (first | (with_reducible exact Below.refl _ _) | (with_reducible assumption) | (with_reducible refine below_drewN ?_ _) | (with_reducible refine Below.drew ?_) | (with_reducible refine Below.alloc ?_ ?_ _) | (with_reducible refine Below.setCell ?_ ?_ _) | go_size)), rfl⟩
      · obtain rfl : k = sets.length := by omega
        have hE : Hid (setAll vals sets regs = some cu) := by
          show _ = _
          rw [HS.out, List.drop_length]
          rfl
        have fc := Blk.cell hJ.2.2.2.2.1
        have ff := Blk.frozen hJ.2.2.2.2.1
        have xc := Blk.cell hJ.2.2.2.2.2.1
        have rc : ∀ i, wr.cell? ⟨w.heap.size + 1 + 1, i, none⟩ = _ := Blk.cell hJ.2.2.2.2.2.2
        have rf : ∀ i, wr.frozen? ⟨w.heap.size + 1 + 1, i, none⟩ = false := Blk.frozen hJ.2.2.2.2.2.2
        clear hs3
        go_wp2
        refine bodyPost_ret (v := .tuple #[.agg #[.int .i64 fn, .int .i64 xat, .int .i64 tw, .int .i64 gen, .int .i64 sk, .int .i64 sn, .slice X1 regs.length d1, .slice X2 tries.length d2], .int .i64 0]) (by simp [results, Try.results8, go_sem, *]) rfl ?_
        unfold FramePost
        rw [hE.out]
        have hb1 := hJ.1
        have o1 := hJ.2.2.1
        have o2 := hJ.2.2.2.1
        exact ⟨(by repeat' (first | (with_reducible exact Below.refl _ _) | (with_reducible assumption) | (with_reducible refine below_drewN ?_ _) | (with_reducible refine Below.drew ?_) | (with_reducible refine Below.alloc ?_ ?_ _) | (with_reducible refine Below.setCell ?_ ?_ _) | go_size)), X1, d1, X2, d2, rfl, own_base (base := w.heap.size + 3) (by repeat' (first | (with_reducible assumption) | (with_reducible refine World.ownsRow.drew ?_) | (with_reducible refine ownsRow_setCell_below ?_ ?_ _) | (with_reducible refine World.ownsRow.alloc ?_ _) | (show _ < _; go_size))) (by omega), own_base (base := w.heap.size + 3) (by repeat' (first | (with_reducible assumption) | (with_reducible refine World.ownsRow.drew ?_) | (with_reducible refine ownsRow_setCell_below ?_ ?_ _) | (with_reducible refine World.ownsRow.alloc ?_ _) | (show _ < _; go_size))) (by omega)⟩
end Go.Proofs.Ytbomhdgodiojhaa
