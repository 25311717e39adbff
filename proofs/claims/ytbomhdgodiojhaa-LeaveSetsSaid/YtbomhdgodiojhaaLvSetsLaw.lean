/-
  LeaveSets holds: of an exit whose registers are each set once, sets from the last one on leave the same frame. No condition.
-/
import Derived.Test.YtbomhdgodiojhaaLvSets
import Derived.Laws.OwnMore
namespace Go.Proofs.Ytbomhdgodiojhaa
open Go.RowKit Go.Sort
set_option linter.unusedVariables false
set_option linter.unusedSimpArgs false

def apartFrom (sets : List (Int × Int)) (m : Nat) : Prop := ∀ i j (hm : m ≤ i) (hi : i < sets.length) (hj : j < i), (sets[j]'(by omega)).1 ≠ sets[i].1

/-- What holds at the head of the outer loop. -/
def SetsInv (w : World) (fa xa : Array Value) (sets : List (Int × Int)) (m : Nat) (v : Value) (wr : World) : Prop :=
  Below w.heap.size w wr ∧ Blk wr w.heap.size 27 fa ∧ Blk wr (w.heap.size + 1) 31 xa ∧ apartFrom sets m ∧
    wr.ownsRow (w.heap.size + 2) 34 2 v (sets.length - m) (valCells (sets.drop m).reverse)
theorem SetsInv.drewN {w wr : World} {fa xa : Array Value} {sets : List (Int × Int)} {m : Nat} {v : Value} (h : SetsInv w fa xa sets m v wr) (q : Nat) : SetsInv w fa xa sets m v (wr.drewN q) :=
  ⟨below_drewN h.1 q, h.2.1, h.2.2.1, h.2.2.2.1, by
    have := h.2.2.2.2
    exact this⟩

theorem tset_info : (Try.prog.info? 34).map (fun i => (i.zero, i.size, i.bytes)) = some (some (.agg #[.int .i64 0, .int .i64 0]), 2, 16) := by kernel_rfl

set_option maxHeartbeats 4000000 in
theorem sets_any (fn at_ tw gen sk sn xat xst : Int) (A1 A2 A3 A4 A5 : Option Addr) (n1 c1 n2 c2 n3 c3 n4 c4 n5 c5 b1 b2 b3 b5 : Nat) (regs tries sets vals : List (Int × Int)) (w : World)
    (h1 : Has w w.heap.size (.slice b1 VAL) [.slice A1 n1 c1] regs) (h2 : Has w w.heap.size (.slice b2 VAL) [.slice A2 n2 c2] tries) (h3 : Has w w.heap.size (.slice b3 VAL) [.slice A3 n3 c3] sets) (h5 : Has w w.heap.size (.slice b5 VAL) [.slice A5 n5 c5] vals)
    (r1 : n1 * 16 ≤ 140737488351232) (r2 : n2 * 16 ≤ 140737488351232) (r3 : n3 * 16 ≤ 140737488351232) :
    Calls Try.prog 3 #[.agg #[.int .i64 fn, .int .i64 at_, .int .i64 tw, .int .i64 gen, .int .i64 sk, .int .i64 sn, .slice A1 n1 c1, .slice A2 n2 c2],
      .agg #[.int .i64 xat, .int .i64 xst, .slice A3 n3 c3, .slice A4 n4 c4], .slice A5 n5 c5] w fun e w' => e = .returned (.bool true) ∧ Below w.heap.size w w' := by
  obtain ⟨rfl, hl3, hm3, hs3⟩ := h3.two
  have hcap : sets.length ≤ 9223372036854775807 := by omega
  obtain ⟨i0, hi, hz0, hz1, hz2⟩ := info_parts tset_info
  go_enter Try.func3, Try.ntmps3
  go_wp2_with (go_at_call 7; refine (leftBy_any _).mono ?_; rintro e w1 ⟨rfl, hbw⟩; have hB1 := below_call (B := w.heap.size) (w := w) hbw (by repeat' (first | (with_reducible exact Below.refl _ _) | (with_reducible assumption) | (with_reducible refine below_drewN ?_ _) | (with_reducible refine Below.drew ?_) | (with_reducible refine Below.alloc ?_ ?_ _) | (with_reducible refine Below.setCell ?_ ?_ _) | go_size)) (by go_size); have k0 := (((Blk.new w 27 #[.int .i64 fn, .int .i64 at_, .int .i64 tw, .int .i64 gen, .int .i64 sk, .int .i64 sn, .slice A1 n1 c1, .slice A2 n2 c2]).alloc (.cells #[.int .i64 xat, .int .i64 xst, .slice A3 sets.length c3, .slice A4 n4 c4] 31)).below hbw (by simp; omega)); have k1 := ((Blk.new (w.alloc (.cells #[.int .i64 fn, .int .i64 at_, .int .i64 tw, .int .i64 gen, .int .i64 sk, .int .i64 sn, .slice A1 n1 c1, .slice A2 n2 c2] 27)) 31 #[.int .i64 xat, .int .i64 xst, .slice A3 sets.length c3, .slice A4 n4 c4]).below hbw (by simp)); rw [World.size_alloc] at k1; have xc := Blk.cell k1; clear hbw)
  clear xc
  go_loopw [7, 8] (fun v i wr => ∃ (m : Nat) (z : Int), m ≤ sets.length ∧ i = .int .i64 z ∧ Hid (z = (m : Int) - 1) ∧
      SetsInv w #[.int .i64 fn, .int .i64 at_, .int .i64 tw, .int .i64 gen, .int .i64 sk, .int .i64 sn, .slice A1 n1 c1, .slice A2 n2 c2] #[.int .i64 xat, .int .i64 xst, .slice A3 sets.length c3, .slice A4 n4 c4] sets m v wr) (fun _ i _ => (intOf i + 1).toNat)
  case atStart => exact ⟨sets.length, _, Nat.le_refl _, rfl, Lib.hid rfl, hB1, k0, k1, fun i j hm hi => absurd hi (by omega), by simpa [valCells] using World.ownsRow_nil _ _ _ _⟩
  case round =>
    obtain ⟨m, z, hm, rfl, hz, hI⟩ := hrel
    clear hB1 k0 k1
    have xc := Blk.cell hI.2.2.1
    have hsz := hI.1.size
    by_cases hz0' : 0 ≤ z
    · obtain ⟨p, rfl⟩ := Int.eq_ofNat_of_zero_le hz0'
      have hp : Hid (m = p + 1) := by have := hz.out; show m = p + 1; omega
      have hpl : p < sets.length := by have := hp.out; omega
      obtain ⟨b, off, rfl, hbB, hx, hy⟩ := hs3 p hpl
      have hbz : b < wr.heap.size := by omega
      have hx := (hI.1.cell (p := ⟨b, off + p * 2, none⟩) hbB).trans hx
      have hy := (hI.1.cell (p := ⟨b, off + p * 2 + 1, none⟩) hbB).trans hy
      obtain ⟨x, ex⟩ : ∃ x, x = sets[p] := ⟨_, rfl⟩
      rw [← ex] at hx hy
      have HX := Lib.hid ex
      clear ex hz hm hz0'
      obtain ⟨wo, rfl⟩ : ∃ wo : World, wo = wr := ⟨_, rfl⟩
      go_wp2_with fail
      go_loopw [25] (fun c wi => ∃ (k q : Nat), k ≤ p ∧ c = .int .i64 k ∧ wi = wo.drewN q ∧ Hid (∀ j (hj : j < sets.length), j < k → sets[j].1 ≠ x.1)) (fun c _ => p - (intOf c).toNat)
      case atStart => exact ⟨0, 0, Nat.zero_le _, rfl, rfl, fun j _ h => absurd h (by omega)⟩
      case round =>
        obtain ⟨k, q, hk, rfl, rfl, hap⟩ := hrel
        by_cases hlt : k < p
        · obtain ⟨b', off', hbe, hbB', hu, hv⟩ := hs3 k (by omega)
          simp only [Option.some.injEq, Addr.mk.injEq, and_true] at hbe
          obtain ⟨rfl, rfl⟩ := hbe
          have hu := (hI.1.cell (p := ⟨b, off + k * 2, none⟩) hbB).trans hu
          obtain ⟨y, ey⟩ : ∃ y, y = sets[k] := ⟨_, rfl⟩
          rw [← ey] at hu
          have HY := Lib.hid ey
          have e0 : (0 : Int) ≤ (k : Int) := by omega
          have e1 : (k : Int) < (sets.length : Int) := by omega
          have e2 : (0 : Int) ≤ (p : Int) := by omega
          have e3 : (p : Int) < (sets.length : Int) := by omega
          clear ey hs3 hv hy
          by_cases hxy : (y.1 == x.1) = true
          · go_wp2_with fail
            go_quiet (fail)
            have hb2 := hI.1
            go_wp2_with (go_at_call 7; refine (leftBy_any _).mono ?_; rintro e w1 ⟨rfl, hbw⟩; have hB1 := below_call (B := w.heap.size) (w := w) hbw (by repeat' (first | (with_reducible exact Below.refl _ _) | (with_reducible assumption) | (with_reducible refine below_drewN ?_ _) | (with_reducible refine Below.drew ?_) | (with_reducible refine Below.alloc ?_ ?_ _) | (with_reducible refine Below.setCell ?_ ?_ _) | go_size)) (by go_size); clear hbw)
            go_ret
            exact ⟨rfl, hB1⟩
          · have hxy' : (y.1 == x.1) = false := by simpa using hxy
            clear hxy
            go_wp2_with fail
            go_quiet (fail)
            go_wp2_with fail
            go_roundw
            case rel => exact ⟨k + 1, _, by omega, by go_num, rfl, fun j hj hjk => (by
              rcases Nat.lt_succ_iff_lt_or_eq.1 hjk with h | rfl
              · exact hap.out j hj h
              · rw [← HY.out]; simpa using hxy')⟩
            case measure => simp [intOf]; omega
        · obtain rfl : k = p := by omega
          have hI2 := hI.drewN q
          have hown := hI2.2.2.2.2
          have hsz2 : w.heap.size ≤ (wo.drewN q).heap.size := hsz
          have hmm : sets.length - m + 1 ≤ sets.length := by have := hp.out; omega
          have hzz := hI.2.2.1.lt
          clear hlt hs3
          go_wp2_with (at_builtin; (refine wpList_append_raw _ rfl (.tmp 43) (.tmp 49) _ rfl (w.heap.size + 2) 34 i0 _ 2 16 Try.underlying28 hi hz0 hz1 hz2 rfl (by omega) _ (sets.length - m) (valCells (sets.drop m).reverse) rfl (own_drewN (hI.2.2.2.2.alloc _) q) (wo.heap.size + 1) (some ⟨wo.heap.size, 0, none⟩) 1 1 (valCells [x]) rfl ((raw_of_blk (l := [x]) (Blk.new _ _ _) (by simp) rfl).drewN q) (by simp only [maxLen]; omega) (by omega) (by simp; omega) ?_); intro v1 w1 hown1 hg1 hat1)
          have hown2 : w1.ownsRow (w.heap.size + 2) 34 2 v1 (sets.length - k) (valCells (sets.drop k).reverse) := by
            have e1 : sets.length - m + 1 = sets.length - k := by have := hp.out; omega
            have e2 : valCells (sets.drop m).reverse ++ valCells [x] = valCells (sets.drop k).reverse := by
              rw [hp.out, List.drop_eq_getElem_cons hpl, List.reverse_cons, HX.out]
              simp [valCells]
            rw [← e1, ← e2]; exact hown1
          have hrow := hI.2.2.2.2.lt
          have HG := Lib.hid hg1
          have hnx : SetsInv w #[.int .i64 fn, .int .i64 at_, .int .i64 tw, .int .i64 gen, .int .i64 sk, .int .i64 sn, .slice A1 n1 c1, .slice A2 n2 c2] #[.int .i64 xat, .int .i64 xst, .slice (some ⟨b, off, none⟩) sets.length c3, .slice A4 n4 c4] sets k v1 w1 := by
            refine ⟨(below_drewN (hI.1.alloc hsz _) q).grown HG.out (by show w.heap.size ≤ (wo.alloc _).heap.size; simp; omega) (fun g hg => Nat.le_trans (by omega) (hrow g hg).1),
              Blk.grown (((hI.2.1).alloc _).drewN q) HG.out (fun e => by have := (hrow _ e.symm).1; omega), Blk.grown (((hI.2.2.1).alloc _).drewN q) HG.out (fun e => by have := (hrow _ e.symm).1; omega), ?_, hown2⟩
            intro i j hm2 hi hj
            rcases Nat.eq_or_lt_of_le hm2 with rfl | h
            · rw [← HX.out]; exact hap.out j (by omega) hj
            · exact hI.2.2.2.1 i j (by have := hp.out; omega) hi hj
          clear hg1 hown1 hown2 hrow hown hI2
          go_wp2
          go_roundw
          case rel => exact ⟨k, _, by omega, rfl, Lib.hid rfl, hnx⟩
          case measure => simp [intOf]
    · have hm0 : m = 0 := by have := hz.out; omega
      subst hm0
      have hown := hI.2.2.2.2
      rw [List.drop_zero, Nat.sub_zero] at hown
      obtain ⟨Y, d, rfl, hy1, hy2, hy3⟩ := own_shape hown
      have hap : apartSets sets := fun i j hi hj => hI.2.2.2.1 i j (Nat.zero_le _) hi hj
      have hrev := Lib.hid (setAll_reverse vals sets regs hap)
      have hback : Has wr wr.heap.size (.slice 16 VAL) [.slice Y sets.length d] sets.reverse := by
        have := has_vals (b_ := 16) (l := sets.reverse) (A := Y) (cap := d) (w := wr) (B := wr.heap.size) (by rw [List.length_reverse]; exact Raw.of_own hown (valCells_one _)) (fun x hx => wf_of_has h3 x (List.mem_reverse.1 hx)) (by rw [List.length_reverse]; exact hy1) hy2 hy3
        rwa [List.length_reverse] at this
      have hbb := hI.1
      have g1 := h1.below hbb hsz
      have g2 := h2.below hbb hsz
      have g3 := h3.below hbb hsz
      have g5 := h5.below hbb hsz
      have fc := Blk.cell hI.2.1
      clear hown hap hs3 hz
      cases hset : setAll vals sets regs with
      | none =>
        have hrev2 : setAll vals sets.reverse regs = none := hrev.out.trans hset
        go_wp2_with fail
        refine (frame_none fn at_ tw gen sk sn xat xst A1 A2 A3 A4 A5 _ _ _ _ _ _ _ _ _ _ wr.heap.size _ _ _ _ regs tries sets vals wr (Nat.le_refl _) g1 g2 g3 g5 r1 r2 hset).mono ?_
        rintro e w1 ⟨rfl, hbw⟩
        have hB1 := hbb.trans (hbw.mono hsz)
        have hs1 := hB1.size
        have kf1 := hI.2.1.below hbw hI.2.1.lt
        have kx1 := hI.2.2.1.below hbw hI.2.2.1.lt
        have fc1 := Blk.cell kf1
        have xc1 := Blk.cell kx1
        have hz0 : w.heap.size < w1.heap.size := kf1.lt
        have hz1' : w.heap.size + 1 < w1.heap.size := kx1.lt
        clear fc xc
        go_wp2_with fail
        refine (fun (hh : ∀ W0, W0 = _ → Calls _ _ _ W0 _) => hh _ rfl) ?_
        intro W2 hW2
        have hB2 : Below w1.heap.size w1 W2 := by rw [hW2]; exact (by repeat' (first | (with_reducible exact Below.refl _ _) | (with_reducible assumption) | (with_reducible refine below_drewN ?_ _) | (with_reducible refine Below.drew ?_) | (with_reducible refine Below.alloc ?_ ?_ _) | (with_reducible refine Below.setCell ?_ ?_ _) | go_size))
        have kf2 := kf1.below hB2 kf1.lt
        have kx2 := kx1.below hB2 kx1.lt
        have ka2 : Blk W2 w1.heap.size 27 #[.int .i64 0, .int .i64 0, .int .i64 0, .int .i64 0, .int .i64 0, .int .i64 0, .slice none 0 0, .slice none 0 0] := by rw [hW2]; exact Blk.new _ _ _
        have hs2 := hB2.size
        clear hW2 fc1 xc1 kf1 kx1
        have hBw2 : Below w.heap.size w W2 := hB1.trans (hB2.mono hs1)
        have hsw2 := hBw2.size
        have hbr2 : Below wr.heap.size wr W2 := hbw.trans (hB2.mono hbw.size)
        have hsr2 := hbr2.size
        refine (frame_none fn at_ tw gen sk sn xat 0 A1 A2 Y none A5 _ _ _ _ _ _ _ _ _ _ wr.heap.size _ _ _ _ regs tries sets.reverse vals W2 hsr2 (g1.below hbr2 (Nat.le_refl _)) (g2.below hbr2 (Nat.le_refl _)) (hback.below hbr2 (Nat.le_refl _)) (g5.below hbr2 (Nat.le_refl _)) r1 r2 hrev2).mono ?_
        rintro e w3 ⟨rfl, hbw3⟩
        have kf3 := kf2.below hbw3 kf2.lt
        have ka3 := ka2.below hbw3 ka2.lt
        have hB3 := hBw2.trans (hbw3.mono hsw2)
        have hs3' := hB3.size
        have hz3 : w1.heap.size < w3.heap.size := ka3.lt
        have ac3 := Blk.cell ka3
        clear kf2 kx2 ka2 kf3
        go_wp2_with fail
        refine (fun (hh : ∀ W0, W0 = _ → Calls _ _ _ W0 _) => hh _ rfl) ?_
        intro W4 hW4
        have hB4 : Below w3.heap.size w3 W4 := by rw [hW4]; exact (by repeat' (first | (with_reducible exact Below.refl _ _) | (with_reducible assumption) | (with_reducible refine below_drewN ?_ _) | (with_reducible refine Below.drew ?_) | (with_reducible refine Below.alloc ?_ ?_ _) | (with_reducible refine Below.setCell ?_ ?_ _) | go_size))
        have ka4 := ka3.below hB4 ka3.lt
        have kb4 : Blk W4 w3.heap.size 27 #[.int .i64 0, .int .i64 0, .int .i64 0, .int .i64 0, .int .i64 0, .int .i64 0, .slice none 0 0, .slice none 0 0] := by rw [hW4]; exact Blk.new _ _ _
        have hBw4 : Below w.heap.size w W4 := hB3.trans (hB4.mono hs3')
        have hs4 := hBw4.size
        clear hW4 ac3 ka3
        refine (leftBy_any _).mono ?_
        rintro e w5 ⟨rfl, hbw5⟩
        have ka5 := ka4.below hbw5 ka4.lt
        have kb5 := kb4.below hbw5 kb4.lt
        have ac5 := Blk.cell ka5
        have bc5 := Blk.cell kb5
        have hB5 := hBw4.trans (hbw5.mono hs4)
        have hs5 := hB5.size
        have hB35 : Below w3.heap.size w3 w5 := hB4.trans (hbw5.mono hB4.size)
        have hs35 := hB35.size
        clear ka4 kb4
        go_wp2_with fail
        have hnil : Has w5 w3.heap.size (.slice 16 VAL) [.slice none 0 0] [] := ⟨none, 0, rfl, by simp, by decide, fun _ => rfl, fun h => absurd rfl h⟩
        refine (sameFrame_true 0 0 0 0 0 0 none none none none _ _ _ _ _ _ _ _ 16 16 16 16 w3.heap.size [] [] _ ?_ hnil hnil hnil hnil).mono ?_
        · exact hs35
        rintro e w6 ⟨rfl, hbw6⟩
        have hB6 := hB5.trans (hbw6.mono hs5)
        clear ac5 bc5
        go_wp2
        go_ret
        exact ⟨rfl, hB6⟩
      | some r =>
        have hrev2 : setAll vals sets.reverse regs = some r := hrev.out.trans hset
        go_wp2_with fail
        refine (frame_some fn at_ tw gen sk sn xat xst A1 A2 A3 A4 A5 _ _ _ _ _ _ _ _ _ _ wr.heap.size _ _ _ _ regs tries sets vals wr (Nat.le_refl _) g1 g2 g3 g5 r1 r2 r hset).mono ?_
        rintro e w1 ⟨X1, d1, X2, d2, rfl, p1, p2, hbw⟩
        have hB1 := hbb.trans (hbw.mono hsz)
        have hs1 := hB1.size
        have kf1 := hI.2.1.below hbw hI.2.1.lt
        have kx1 := hI.2.2.1.below hbw hI.2.2.1.lt
        have fc1 := Blk.cell kf1
        have xc1 := Blk.cell kx1
        have hz0 : w.heap.size < w1.heap.size := kf1.lt
        have hz1' : w.heap.size + 1 < w1.heap.size := kx1.lt
        clear fc xc
        go_wp2_with fail
        refine (fun (hh : ∀ W0, W0 = _ → Calls _ _ _ W0 _) => hh _ rfl) ?_
        intro W2 hW2
        have hB2 : Below w1.heap.size w1 W2 := by rw [hW2]; exact (by repeat' (first | (with_reducible exact Below.refl _ _) | (with_reducible assumption) | (with_reducible refine below_drewN ?_ _) | (with_reducible refine Below.drew ?_) | (with_reducible refine Below.alloc ?_ ?_ _) | (with_reducible refine Below.setCell ?_ ?_ _) | go_size))
        have kf2 := kf1.below hB2 kf1.lt
        have kx2 := kx1.below hB2 kx1.lt
        have ka2 : Blk W2 w1.heap.size 27 #[.int .i64 fn, .int .i64 xat, .int .i64 tw, .int .i64 gen, .int .i64 sk, .int .i64 sn, .slice X1 r.length d1, .slice X2 tries.length d2] := by rw [hW2]; exact Blk.new _ _ _
        have hs2 := hB2.size
        clear hW2 fc1 xc1 kf1 kx1
        have hBw2 : Below w.heap.size w W2 := hB1.trans (hB2.mono hs1)
        have hsw2 := hBw2.size
        have hbr2 : Below wr.heap.size wr W2 := hbw.trans (hB2.mono hbw.size)
        have hsr2 := hbr2.size
        refine (frame_some fn at_ tw gen sk sn xat 0 A1 A2 Y none A5 _ _ _ _ _ _ _ _ _ _ wr.heap.size _ _ _ _ regs tries sets.reverse vals W2 hsr2 (g1.below hbr2 (Nat.le_refl _)) (g2.below hbr2 (Nat.le_refl _)) (hback.below hbr2 (Nat.le_refl _)) (g5.below hbr2 (Nat.le_refl _)) r1 r2 r hrev2).mono ?_
        rintro e w3 ⟨Z1, e1, Z2, e2, rfl, q1, q2, hbw3⟩
        have kf3 := kf2.below hbw3 kf2.lt
        have ka3 := ka2.below hbw3 ka2.lt
        have hB3 := hBw2.trans (hbw3.mono hsw2)
        have hs3' := hB3.size
        have hz3 : w1.heap.size < w3.heap.size := ka3.lt
        have ac3 := Blk.cell ka3
        clear kf2 kx2 ka2 kf3
        go_wp2_with fail
        refine (fun (hh : ∀ W0, W0 = _ → Calls _ _ _ W0 _) => hh _ rfl) ?_
        intro W4 hW4
        have hB4 : Below w3.heap.size w3 W4 := by rw [hW4]; exact (by repeat' (first | (with_reducible exact Below.refl _ _) | (with_reducible assumption) | (with_reducible refine below_drewN ?_ _) | (with_reducible refine Below.drew ?_) | (with_reducible refine Below.alloc ?_ ?_ _) | (with_reducible refine Below.setCell ?_ ?_ _) | go_size))
        have ka4 := ka3.below hB4 ka3.lt
        have kb4 : Blk W4 w3.heap.size 27 #[.int .i64 fn, .int .i64 xat, .int .i64 tw, .int .i64 gen, .int .i64 sk, .int .i64 sn, .slice Z1 r.length e1, .slice Z2 tries.length e2] := by rw [hW4]; exact Blk.new _ _ _
        have hBw4 : Below w.heap.size w W4 := hB3.trans (hB4.mono hs3')
        have hs4 := hBw4.size
        clear hW4 ac3 ka3
        refine (leftBy_any _).mono ?_
        rintro e w5 ⟨rfl, hbw5⟩
        have ka5 := ka4.below hbw5 ka4.lt
        have kb5 := kb4.below hbw5 kb4.lt
        have ac5 := Blk.cell ka5
        have bc5 := Blk.cell kb5
        have hB5 := hBw4.trans (hbw5.mono hs4)
        have hs5 := hB5.size
        have hB35 : Below w3.heap.size w3 w5 := hB4.trans (hbw5.mono hB4.size)
        have hs35 := hB35.size
        clear ka4 kb4
        go_wp2_with fail
        have hq1 : Below w1.heap.size w1 w5 := (hB2.trans (hbw3.mono hs2)).trans (hB35.mono (by have := hbw3.size; omega))
        have hq3 : Below w3.heap.size w3 w5 := hB35
        refine (sameFrame_true fn xat tw gen sk sn X1 X2 Z1 Z2 _ _ _ _ _ _ _ _ _ _ _ _ w3.heap.size r tries _ ?_ (p1.below hq1 (by have := hbw3.size; omega)) (p2.below hq1 (by have := hbw3.size; omega)) (q1.below hq3 (Nat.le_refl _)) (q2.below hq3 (Nat.le_refl _))).mono ?_
        · exact hs35
        rintro e w6 ⟨rfl, hbw6⟩
        have hB6 := hB5.trans (hbw6.mono hs5)
        clear ac5 bc5
        go_wp2
        go_ret
        exact ⟨rfl, hB6⟩

abbrev FRAMET : Ty := .prod (.int .i64) (.prod (.int .i64) (.prod (.int .i64) (.prod (.int .i64) (.prod VAL (.prod (.slice 16 VAL) (.slice 16 VAL))))))
abbrev EXITT : Ty := .prod (.int .i64) (.prod (.int .i64) (.prod (.slice 16 VAL) (.slice 48 (.prod (.int .i64) (.prod (.int .i64) (.prod (.int .i64) (.slice 8 (.int .i64))))))))
theorem Has.shape {w : World} {B by_ : Nat} {e : Ty} {cs : List Value} {l : List e.val} (h : Has w B (.slice by_ e) cs l) : ∃ A cap, cs = [.slice A l.length cap] ∧ Has w B (.slice by_ e) [.slice A l.length cap] l := by
  obtain ⟨A, cap, rfl, h1⟩ := h
  exact ⟨A, cap, rfl, A, cap, rfl, h1⟩

set_option maxRecDepth 100000 in
theorem sets_lifted (os : Os) (started : os.Started) (H : Type) (enc : TypeId × Value → H) :
    ReturnsInHanded {} Try.checked os 3 .any (Rows.leaveSetsSpec.pre6 enc Try.prog Try.f3 Rows.leaveSetsRow.domain false) (Rows.leaveSetsSpec.post enc Try.prog Try.f3 false true false false) := by
  refine law_lifted (C := Try.checked) 12 [(true, FRAMET), (true, EXITT), (false, .slice 16 VAL)] 4 Try.own Try.laidOut started (by kernel_rfl) Try.func3
    (ChangeSpec.witness6 (enc := enc) (C := Try.checked) false ⟨#[], #[.agg #[.int .i64 0, .int .i64 0, .int .i64 0, .int .i64 0, .int .i64 0, .int .i64 0, .slice none 0 0, .slice none 0 0], .agg #[.int .i64 0, .int .i64 0, .slice none 0 0, .slice none 0 0], .slice none 0 0], []⟩ 8 (by kernel_rfl) (by kernel_rfl) (by kernel_rfl) (by kernel_rfl))
    rfl (by kernel_rfl) Try.underlying4 (fun ds h => ?_) (by kernel_rfl) (by kernel_rfl) (fun W args h => ?_)
  · match ds, h with
    | [d0, d1, d2], _ => rfl
  · obtain ⟨cs0, f, vs0, h0, hf, sf, cs1, x, vs1, rfl, hx, sx, cs2, vals, vs2, rfl, hv, sv, rfl⟩ := h
    obtain ⟨_, _, rfl, ⟨rfl, _⟩, _, _, rfl, ⟨rfl, _⟩, _, _, rfl, ⟨rfl, _⟩, _, _, rfl, ⟨rfl, _⟩, _, _, rfl, ⟨_, _, rfl, ⟨rfl, _⟩, rfl, _⟩, _, _, rfl, q1, q2⟩ := hf
    obtain ⟨_, _, rfl, ⟨rfl, _⟩, _, _, rfl, ⟨rfl, _⟩, _, _, rfl, q3, q4⟩ := hx
    obtain ⟨A1, c1, rfl, q1⟩ := q1.shape
    obtain ⟨A2, c2, rfl, q2⟩ := q2.shape
    obtain ⟨A3, c3, rfl, q3⟩ := q3.shape
    obtain ⟨A4, c4, rfl, q4⟩ := q4.shape
    obtain ⟨A5, c5, rfl, hv⟩ := hv.shape
    obtain rfl : args = #[.agg #[.int .i64 f.1, .int .i64 f.2.1, .int .i64 f.2.2.1, .int .i64 f.2.2.2.1, .int .i64 f.2.2.2.2.1.1, .int .i64 f.2.2.2.2.1.2, .slice A1 f.2.2.2.2.2.1.length c1, .slice A2 f.2.2.2.2.2.2.length c2],
        .agg #[.int .i64 x.1, .int .i64 x.2.1, .slice A3 x.2.2.1.length c3, .slice A4 x.2.2.2.length c4], .slice A5 vals.length c5] := by cases args; simpa [argVal] using h0
    exact sets_any _ _ _ _ _ _ _ _ A1 A2 A3 A4 A5 _ _ _ _ _ _ _ _ _ _ _ _ _ _ _ _ _ _ W q1 q2 q3 hv sf.2.2.2.2.2.1.1 sf.2.2.2.2.2.2.1 sx.2.2.1.1
theorem sets_holds : Rows.LeaveSetsSaid :=
  OpenClaim.holds_of_wide 3 Try.f3 rfl rfl rfl rfl rfl rfl rfl ⟨rfl, rfl, rfl, rfl, rfl⟩ rfl rfl rfl rfl rfl (by kernel_rfl) Try.func3 (by kernel_rfl) (of_decide_eq_true (by kernel_rfl)) (by unfold Func.isWrapper; first | (rw [if_pos (by decide +kernel)]; kernel_rfl) | (rw [if_neg (by decide +kernel)]; exact ⟨rfl, rfl⟩))
    (fun os started H enc _ => sets_lifted os started H enc)
end Go.Proofs.Ytbomhdgodiojhaa
