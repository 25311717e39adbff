/-
  leave.told: values by their numbers.
-/
import Derived.Test.YtbomhdgodiojhaaLvClone
import Derived.Test.YtbomhdgodiojhaaEqVal
namespace Go.Proofs.Ytbomhdgodiojhaa
open Go.RowKit Go.Sort
set_option linter.unusedVariables false
set_option linter.unusedSimpArgs false

abbrev VAL : Ty := .prod (.int .i64) (.int .i64)
def valCells (r : List (Int × Int)) : List Value := r.flatMap fun x => [.int .i64 x.1, .int .i64 x.2]
theorem valCells_snoc (r : List (Int × Int)) (x : Int × Int) : valCells (r ++ [x]) = valCells r ++ [.int .i64 x.1, .int .i64 x.2] := by simp [valCells]
theorem valCells_length (r : List (Int × Int)) : (valCells r).length = r.length * 2 := by
  induction r with
  | nil => rfl
  | cons x r ih => simp [valCells] at *; omega
theorem valCells_one (r : List (Int × Int)) : ∀ u ∈ valCells r, u.oneCell' = true := by
  intro u hu
  simp only [valCells, List.mem_flatMap, List.mem_cons, List.not_mem_nil, or_false] at hu
  obtain ⟨x, _, rfl | rfl⟩ := hu <;> rfl
theorem valCells_chunk (r : List (Int × Int)) (i : Nat) (h : i < r.length) : chunk 2 (valCells r) i = [.int .i64 r[i].1, .int .i64 r[i].2] := by
  induction r generalizing i with
  | nil => simp at h
  | cons x r ih =>
    cases i with
    | zero => simp [chunk, valCells]
    | succ i =>
      have := ih i (by simpa using h)
      simp only [List.getElem_cons_succ]
      rw [← this]
      simp [chunk, valCells, Nat.add_mul]

/-- One slice of ints, index by index. -/
theorem Has.one {w : World} {B by_ : Nat} {k : IntKind} {A : Option Addr} {n cap : Nat} {l : List Int} (h : Has w B (.slice by_ (.int k)) [.slice A n cap] l) :
    n = l.length ∧ n ≤ cap ∧ cap ≤ maxLen ∧ ∀ i (hi : i < l.length), ∃ b off, A = some ⟨b, off, none⟩ ∧ b < B ∧ w.cell? ⟨b, off + i, none⟩ = some (.int k l[i]) := by
  obtain ⟨A', cap', he, h1, h2, h3, h4⟩ := h
  simp only [List.cons.injEq, Value.slice.injEq, and_true] at he
  obtain ⟨rfl, rfl, rfl⟩ := he
  refine ⟨rfl, h1, h2, fun i hi => ?_⟩
  obtain ⟨b, off, rfl, hb, hc⟩ := h4 (by intro e; simp [e] at hi)
  obtain ⟨ecs, hl, hcell, rfl, _⟩ := hc i hi
  exact ⟨b, off, rfl, hb, by simpa using hcell 0 (by simp)⟩

def okAt (vals : List (Int × Int)) (n : Int) : Prop := 0 ≤ n ∧ n < vals.length
instance (vals : List (Int × Int)) (n : Int) : Decidable (okAt vals n) := inferInstanceAs (Decidable (_ ∧ _))
def toldL (vals : List (Int × Int)) : List Int → Option (List (Int × Int))
  | [] => some []
  | n :: r => if okAt vals n then (toldL vals r).map (vals.getD n.toNat (0, 0) :: ·) else none
theorem toldL_snoc (vals : List (Int × Int)) : ∀ (l : List Int) (n : Int) (r : List (Int × Int)), toldL vals l = some r →
    toldL vals (l ++ [n]) = if okAt vals n then some (r ++ [vals.getD n.toNat (0, 0)]) else none := by
  intro l
  induction l with
  | nil => intro n r h; simp [toldL] at h; subst h; simp [toldL]
  | cons m l ih =>
    intro n r h
    simp only [toldL] at h
    split at h
    · rename_i hm
      obtain ⟨r', hr', rfl⟩ := Option.map_eq_some_iff.1 h
      simp only [List.cons_append, toldL, if_pos hm, ih n r' hr']
      split <;> simp
    · cases h
theorem toldL_bad (vals : List (Int × Int)) : ∀ (l : List Int) (k : Nat) (h : k < l.length), ¬ okAt vals l[k] → toldL vals l = none := by
  intro l
  induction l with
  | nil => intro k h; simp at h
  | cons m l ih =>
    intro k h hn
    simp only [toldL]
    split
    · rename_i hm
      cases k with
      | zero => exact absurd hm hn
      | succ k => rw [ih k (by simpa using h) (by simpa using hn)]; rfl
    · rfl
theorem toldL_length (vals : List (Int × Int)) : ∀ (l : List Int) (r : List (Int × Int)), toldL vals l = some r → r.length = l.length := by
  intro l
  induction l with
  | nil => intro r h; simp [toldL] at h; subst h; rfl
  | cons m l ih =>
    intro r h
    simp only [toldL] at h
    split at h
    · obtain ⟨r', hr', rfl⟩ := Option.map_eq_some_iff.1 h
      simp [ih r' hr']
    · cases h

def ToldPost (w : World) (vals : List (Int × Int)) (l : List Int) (e : Ending) (w' : World) : Prop :=
  match toldL vals l with
  | none => e = .returned (.tuple #[.slice none 0 0, .bool false]) ∧ Below w.heap.size w w'
  | some r => ∃ A' c', e = .returned (.tuple #[.slice A' r.length c', .bool true]) ∧ w'.ownsRow w.heap.size 23 2 (.slice A' r.length c') r.length (valCells r) ∧ Below w.heap.size w w'

set_option maxHeartbeats 1000000 in
theorem told_any (A A' : Option Addr) (n c n' c' b1 b2 B : Nat) (l : List Int) (vals : List (Int × Int)) (w : World) (hB : B ≤ w.heap.size)
    (h : Has w B (.slice b1 (.int .i64)) [.slice A n c] l) (h' : Has w B (.slice b2 VAL) [.slice A' n' c'] vals) (hreach : l.length * 16 ≤ 140737488351232) :
    Calls Try.prog 20 #[.slice A n c, .slice A' n' c'] w (ToldPost w vals l) := by
  obtain ⟨rfl, hlc, hm, hc⟩ := h.one
  obtain ⟨rfl, hlc', hm', hc'⟩ := h'.two
  unfold maxLen at hm hm'
  obtain ⟨i0, hi, hz0, hz1, hz2⟩ := info_parts cVal_info
  go_enter Try.func20, Try.ntmps20
  go_wp2
  go_loopw [6, 11] (fun v i wr => ∃ (k : Nat) (r : List (Int × Int)), k ≤ l.length ∧ i = .int .i64 k ∧ toldL vals (l.take k) = some r ∧ wr.ownsRow w.heap.size 23 2 v r.length (valCells r) ∧ Below w.heap.size w wr) (fun _ i _ => l.length - (intOf i).toNat)
  case atStart => exact ⟨0, [], Nat.zero_le _, rfl, rfl, World.ownsRow_nil _ _ _ _, Below.refl _ _⟩
  case round =>
    obtain ⟨k, r, hk, rfl, hr, hown, hb⟩ := hrel
    have HR := Lib.hid hr
    have hrl : r.length = k := by have := toldL_length _ _ _ hr; rw [this, List.length_take]; omega
    have HL := Lib.hid hrl
    have hrk : r.length ≤ k := by omega
    clear hr hrl
    have hsz := hb.size
    by_cases hlt : k < l.length
    · obtain ⟨b, off, rfl, hbB, hx⟩ := hc k hlt
      have hx := (hb.cell (p := ⟨b, off + k, none⟩) (Nat.lt_of_lt_of_le hbB hB)).trans hx
      obtain ⟨x, ex⟩ : ∃ x, x = l[k] := ⟨_, rfl⟩
      rw [← ex] at hx
      have HX := Lib.hid ex
      clear ex hc
      by_cases hok : 0 ≤ x ∧ x < vals.length
      · obtain ⟨hx0, hx1⟩ := hok
        obtain ⟨b', off', rfl, hbB', hu, hv⟩ := hc' x.toNat (by omega)
        have hu := (hb.cell (p := ⟨b', off' + x.toNat * 2, none⟩) (Nat.lt_of_lt_of_le hbB' hB)).trans hu
        have hv := (hb.cell (p := ⟨b', off' + x.toNat * 2 + 1, none⟩) (Nat.lt_of_lt_of_le hbB' hB)).trans hv
        obtain ⟨y, ey⟩ : ∃ y, y = vals[x.toNat]'(by omega) := ⟨_, rfl⟩
        rw [← ey] at hu hv
        have HY := Lib.hid ey
        clear ey hc'
        go_wp2_with (at_builtin; (refine wpList_append_raw _ rfl (.tmp 23) (.tmp 28) _ rfl w.heap.size 23 i0 _ 2 16 Try.underlying24 hi hz0 hz1 hz2 rfl (by omega) _ r.length (valCells r) rfl (hown.alloc _) (wr.heap.size + 1) (some ⟨wr.heap.size, 0, none⟩) 1 1 [.int .i64 y.1, .int .i64 y.2] rfl ⟨rfl, (by intro u hu; simp at hu; rcases hu with rfl | rfl <;> rfl), fun _ => ⟨_, _, rfl, (by omega), fun j hj => (by
            have : j = 0 ∨ j = 1 := by simp at hj; omega
            rcases this with rfl | rfl <;> simp [go_sem])⟩⟩ (by simp only [maxLen]; omega) (by omega) (by simp; omega) ?_); intro v1 w1 hown1 hg1 hat1)
        go_roundw
        case rel =>
          refine ⟨k + 1, r ++ [y], by omega, by go_num, ?_, by rw [valCells_snoc]; simpa using hown1, (hb.alloc hsz _).grown hg1 (by simp; omega) (fun k hk => (hown.lt k hk).1)⟩
          rw [List.take_succ_eq_append_getElem hlt, toldL_snoc _ _ _ _ HR.out, ← HX.out, if_pos ⟨hx0, hx1⟩]
          rw [List.getD_eq_getElem?_getD, List.getElem?_eq_getElem (by omega), ← HY.out]
          rfl
        case measure => simp [intOf]; omega
      · have hbad : Hid (toldL vals l = none) := toldL_bad vals l k hlt (by rw [← HX.out]; exact hok)
        clear hc'
        by_cases hx0 : x < 0
        · clear hok
          go_wp2
          go_ret2
          unfold ToldPost
          rw [hbad.out]
          exact ⟨rfl, (by repeat' (first | (with_reducible exact Below.refl _ _) | (with_reducible assumption) | (with_reducible refine below_drewN ?_ _) | (with_reducible refine Below.drew ?_) | (with_reducible refine Below.alloc ?_ ?_ _) | (with_reducible refine Below.setCell ?_ ?_ _) | go_size))⟩
        · have hx1 : (vals.length : Int) ≤ x := by omega
          clear hok
          go_wp2
          go_ret2
          unfold ToldPost
          rw [hbad.out]
          exact ⟨rfl, (by repeat' (first | (with_reducible exact Below.refl _ _) | (with_reducible assumption) | (with_reducible refine below_drewN ?_ _) | (with_reducible refine Below.drew ?_) | (with_reducible refine Below.alloc ?_ ?_ _) | (with_reducible refine Below.setCell ?_ ?_ _) | go_size))⟩
    · obtain rfl : k = l.length := by omega
      clear hc hc'
      go_wp2
      go_ret2
      unfold ToldPost
      have := HR.out
      rw [List.take_length] at this
      rw [this]
      obtain ⟨A', c', rfl, _⟩ := own_shape hown
      exact ⟨_, _, rfl, hown, (by repeat' (first | (with_reducible exact Below.refl _ _) | (with_reducible assumption) | (with_reducible refine below_drewN ?_ _) | (with_reducible refine Below.drew ?_) | (with_reducible refine Below.alloc ?_ ?_ _) | (with_reducible refine Below.setCell ?_ ?_ _) | go_size))⟩
end Go.Proofs.Ytbomhdgodiojhaa
