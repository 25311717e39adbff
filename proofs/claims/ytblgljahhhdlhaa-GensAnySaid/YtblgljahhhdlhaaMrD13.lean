/-
  Proved: the law GensAny answers true, whatever the input: with collections of young ones left out, or done between all, the same things are needed, and have the same; each call that names things tells the same.
-/
import Derived.Test.YtblgljahhhdlhaaMrD12
namespace Go.Proofs.Ytblgljahhhdlhaa
open Go Go.RowKit
set_option linter.unusedVariables false
set_option linter.unusedSimpArgs false
variable {H : ZH} {p t g m : Nat} {nu : Int} {T T2 : List TB} {R : List Int}
theorem needL_eq : liveL (hasOf T) [] (rising (heldB T)) = rising (needT T) := rfl
theorem Alk.held (s : Alk T T2) : heldB T2 = heldB T := by
  apply List.ext_getElem (by simp [heldB, s.len])
  intro n h1 h2
  have := s.root (n := n)
  rw [rF_held, rF_held] at this
  unfold Sn at this
  simp only [List.getD, List.getElem?_eq_getElem h1, List.getElem?_eq_getElem h2, Option.getD_some] at this
  exact Bool.eq_iff_iff.2 this
theorem Alk.need (s : Alk T T2) (h1 : Rng T) (h2 : Rng T2) : needT T2 = needT T := by
  apply List.ext_getElem (by unfold needT; rw [liveSb_length, liveSb_length, hasOf_len, hasOf_len, s.len])
  intro n q1 q2
  have : Sn (needT T2) n ↔ Sn (needT T) n := by rw [need_nd h1, need_nd h2]; exact s.nd
  unfold Sn at this
  simp only [List.getD, List.getElem?_eq_getElem q1, List.getElem?_eq_getElem q2, Option.getD_some] at this
  exact Bool.eq_iff_iff.2 this
structure KpQ (T T2 : List TB) (nl : List Int) (d : Int) : Prop where
  n1 : nl = rising (needT T2)
  n2 : nl = rising (needT T)
  len : nl.length ≤ 100
  at_ : ∀ x ∈ nl, ∃ k : Nat, x = (k : Int) ∧ k < T.length ∧ k < T2.length ∧ ∃ o, o.length ≤ 10 ∧ (hasOf T)[k]? = some o ∧ (hasOf T2)[k]? = some o
  all : d = 7 → ∀ (k : Nat) o, (hasOf T2)[k]? = some o → o ≠ [] → (k : Int) ∈ nl
theorem KpQ.sim {d : Int} (s : Alk T T2) (h1 : Rng T) (h2 : Rng T2) (ha : d = 7 → ∀ n k, eF T2 n k → NdT T2 n) : KpQ T T2 (rising (needT T2)) d := by
  have hnl : (needT T2).length = T2.length := by unfold needT; rw [liveSb_length, hasOf_len]
  refine ⟨rfl, by rw [s.need h1 h2], ?_, fun x hx => ?_, fun hd k o ho hne => ?_⟩
  · have := riseTo_length (needT T2) (needT T2).length
    have := h2.len
    show (riseTo (needT T2) (needT T2).length).length ≤ 100
    omega
  · obtain ⟨q0, q1⟩ := mem_rising.1 hx
    obtain ⟨k, rfl⟩ := Int.eq_ofNat_of_zero_le q0
    rw [Int.toNat_natCast] at q1
    have hn2 := (need_nd h2).1 q1
    have hn := s.nd.1 hn2
    have l1 := nd_lt h1 hn
    have l2 := nd_lt h2 hn2
    have e1 : T[k]? = some T[k] := List.getElem?_eq_getElem l1
    have e2 : T2[k]? = some T2[k] := List.getElem?_eq_getElem l2
    refine ⟨k, rfl, l1, l2, keepN T[k].2.1, ?_, ?_, ?_⟩
    · exact Nat.le_trans (List.length_filter_le _ _) (h1.sm _ (List.getElem_mem l1))
    · unfold hasOf; rw [List.getElem?_map, e1]; rfl
    · unfold hasOf; rw [List.getElem?_map, e2, Option.map_some, (s.pl k hn _ _ e1 e2).1]
  · obtain ⟨y, hy⟩ := List.exists_mem_of_ne_nil o hne
    have hy2 : y ∈ (hasOf T2).getD k [] := by rw [List.getD_eq_getElem?_getD, ho]; exact hy
    have := ha hd k _ (has_mem.1 hy2).2
    exact mem_rising.2 ⟨by omega, by rw [Int.toNat_natCast]; exact (need_nd h2).2 this⟩
theorem KpQ.of {d r e : Int} {R2 : List Int} (c : Clt d r e T T2 R2) (h1 : Rng T) (h2 : Rng T2) : KpQ T T2 (rising (needT T2)) d := .sim c.sim h1 h2 c.all
abbrev gZ (T : List TB) : List ZV := [.fz 1 false ((hasOf T).map eL), .fz 1 false ((rising (heldB T)).map eI)]
theorem fr_box {U : Nat → Prop} {h H2 : ZH} {i : Nat} {a : List ZV} (hf : FrG U p m h H2) (hi : ∀ Y, (h ++ Y)[i]? = some (.box a)) (h1 : i ≠ p) (h2 : i ≠ m) : ∀ Y, (H2 ++ Y)[i]? = some (.box a) := by
  have h0 := hi []
  rw [List.append_nil] at h0
  have h3 := hf.bx i a h1 h2 h0
  exact fun Y => by rw [List.getElem?_append_left (lt_of_get h3)]; exact h3
end Go.Proofs.Ytblgljahhhdlhaa

namespace Go.Proofs.Ytblgljahhhdlhaa
open Go Go.RowKit
set_option linter.unusedVariables false
set_option linter.unusedSimpArgs false
def c_aT3 : ACode := .seq (.seq (.ops [⟨(some 108), .load (some 2) (.tmp 17), none, true⟩,
 ⟨(some 109), .call (.av (.func 14 [])) [(.tmp 108)], none, true⟩,
 ⟨(some 110), .len (.tmp 109), none, true⟩,
 ⟨(some 111), .mv (.av (.val (.int .i64 0))), none, true⟩])
 (rangeCode 2 3 112 111 110 134
 (.seq (.ops [⟨(some 113), .indexAddr 1 (.tmp 109) (.tmp 111), none, true⟩,
 ⟨(some 114), .load none (.tmp 113), none, true⟩,
 ⟨(some 20), .mv (.tmp 114), none, true⟩])
 (.seq (.opsD [⟨(some 115), .mv (.tmp 20), none, true⟩,
 ⟨(some 116), .fieldAddr 0 (.tmp 18), none, true⟩,
 ⟨(some 117), .load none (.tmp 116), none, true⟩,
 ⟨(some 118), .len (.tmp 117), none, true⟩,
 ⟨(some 119), .bin .geq (.tmp 115) (.tmp 118), none, true⟩,
 ⟨(some 120), .mv (.tmp 119), none, true⟩,
 ⟨(some 121), .fieldAddr 0 (.tmp 17), (some (120, false)), true⟩,
 ⟨(some 122), .load none (.tmp 121), (some (120, false)), true⟩,
 ⟨(some 123), .mv (.tmp 20), (some (120, false)), true⟩,
 ⟨(some 124), .indexAddr 1 (.tmp 122) (.tmp 123), (some (120, false)), true⟩,
 ⟨(some 125), .load none (.tmp 124), (some (120, false)), true⟩,
 ⟨(some 126), .fieldAddr 0 (.tmp 18), (some (120, false)), true⟩,
 ⟨(some 127), .load none (.tmp 126), (some (120, false)), true⟩,
 ⟨(some 128), .mv (.tmp 20), (some (120, false)), true⟩,
 ⟨(some 129), .indexAddr 1 (.tmp 127) (.tmp 128), (some (120, false)), true⟩,
 ⟨(some 130), .load none (.tmp 129), (some (120, false)), true⟩,
 ⟨(some 131), .call (.av (.func 15 [])) [(.tmp 125), (.tmp 130)], (some (120, false)), true⟩,
 ⟨(some 132), .un .not (.tmp 131), (some (120, false)), true⟩,
 ⟨(some 133), .pick (.tmp 120) (.av (.val (.bool true))) (.tmp 132), none, true⟩])
 (.cond (.tmp 133)
 (.seq (.ops [⟨(some 6), .mv (.av (.val (.bool false))), none, true⟩])
 (.ret))
 (.skip))))))
 (.seq (.opsD [⟨(some 135), .load (some 2) (.tmp 17), none, true⟩,
 ⟨(some 136), .call (.av (.func 14 [])) [(.tmp 135)], none, false⟩,
 ⟨(some 137), .load (some 2) (.tmp 18), none, false⟩,
 ⟨(some 138), .call (.av (.func 14 [])) [(.tmp 137)], none, true⟩,
 ⟨(some 139), .call (.av (.func 15 [])) [(.tmp 136), (.tmp 138)], none, true⟩,
 ⟨(some 6), .mv (.tmp 139), none, true⟩])
 (.ret))
def c_aT2 : ACode := .seq (.ops [⟨(some 104), .mv (.tmp 7), none, true⟩,
 ⟨(some 105), .call (.av (.func 13 [])) [(.tmp 104)], none, true⟩,
 ⟨(some 106), .mv (.tmp 9), none, true⟩,
 ⟨(some 107), .call (.av (.func 13 [])) [(.tmp 106)], none, true⟩,
 ⟨(some 17), .zero [(.val (.slice none 0 0)), (.val (.slice none 0 0))], none, true⟩,
 ⟨(some 18), .zero [(.val (.slice none 0 0)), (.val (.slice none 0 0))], none, true⟩,
 ⟨none, .store 2 (.tmp 17) (.tmp 105), none, true⟩,
 ⟨none, .store 2 (.tmp 18) (.tmp 107), none, true⟩])
 c_aT3
def c_aT1 : ACode := .seq (.seq (.ops [⟨(some 89), .mv (.tmp 13), none, true⟩,
 ⟨(some 90), .mv (.tmp 15), none, true⟩,
 ⟨(some 91), .bin .neq (.tmp 89) (.tmp 90), none, true⟩,
 ⟨(some 92), .mv (.tmp 91), none, true⟩,
 ⟨(some 93), .mv (.tmp 14), (some (92, false)), true⟩,
 ⟨(some 94), .mv (.tmp 16), (some (92, false)), true⟩,
 ⟨(some 95), .bin .neq (.tmp 93) (.tmp 94), (some (92, false)), true⟩,
 ⟨(some 96), .pick (.tmp 92) (.av (.val (.bool true))) (.tmp 95), none, true⟩])
 (.cond (.tmp 96)
 (.seq (.ops [⟨(some 6), .mv (.av (.val (.bool false))), none, true⟩])
 (.ret))
 (.skip)))
 (.seq (.ops [⟨(some 97), .mv (.tmp 11), none, true⟩,
 ⟨(some 98), .bin .rem (.tmp 97) (.av (.val (.int .i64 3))), none, true⟩,
 ⟨(some 99), .bin .eql (.tmp 98) (.av (.val (.int .i64 0))), none, true⟩])
 (.cond (.tmp 99)
 (.ops [⟨(some 100), .mv (.tmp 9), none, true⟩,
 ⟨(some 101), .build [(.val (.int .i64 0)), (.val (.int .i64 0)), (.val (.int .i64 0)), (.val (.int .i64 0))] [(0, 1, (.av (.val (.int .i64 6))))], none, true⟩,
 ⟨(some 102), .call (.av (.func 11 [])) [(.tmp 100), (.tmp 101)], none, true⟩])
 (.skip)))
theorem c_ge_any_cut : c_ge_any = .seq (.ops [⟨(some 6), .mv (.av (.val (.bool false))), none, true⟩])
 (.seq (.seq (.ops [⟨(some 21), .call (.av (.func 7 [])) [], none, true⟩,
 ⟨(some 22), .un .not (.tmp 21), none, true⟩])
 (.cond (.tmp 22)
 (.seq (.ops [⟨(some 6), .mv (.av (.val (.bool false))), none, true⟩])
 (.ret))
 (.skip)))
 (.seq (.ops [⟨(some 24), .mv (.tmp 0), none, true⟩,
 ⟨(some 25), .call (.av (.func 9 [])) [(.tmp 24), (.av (.val (.int .i64 10)))], none, true⟩,
 ⟨(some 26), .bin .add (.av (.val (.int .i64 1))) (.tmp 25), none, true⟩,
 ⟨(some 27), .call (.av (.func 8 [])) [(.tmp 26)], none, true⟩,
 ⟨(some 23), .mv (.tmp 27), none, true⟩,
 ⟨(some 28), .extract 0 (.tmp 23), none, true⟩,
 ⟨(some 29), .extract 1 (.tmp 23), none, true⟩,
 ⟨(some 7), .mv (.tmp 28), none, true⟩,
 ⟨(some 8), .mv (.tmp 29), none, true⟩])
 (.seq (.ops [⟨(some 31), .mv (.tmp 1), none, true⟩,
 ⟨(some 32), .call (.av (.func 9 [])) [(.tmp 31), (.av (.val (.int .i64 10)))], none, true⟩,
 ⟨(some 33), .bin .add (.av (.val (.int .i64 1))) (.tmp 32), none, true⟩,
 ⟨(some 34), .call (.av (.func 8 [])) [(.tmp 33)], none, true⟩,
 ⟨(some 30), .mv (.tmp 34), none, true⟩,
 ⟨(some 35), .extract 0 (.tmp 30), none, true⟩,
 ⟨(some 36), .extract 1 (.tmp 30), none, true⟩,
 ⟨(some 9), .mv (.tmp 35), none, true⟩,
 ⟨(some 10), .mv (.tmp 36), none, true⟩])
 (.seq (.seq (.ops [⟨(some 37), .mv (.tmp 8), none, true⟩,
 ⟨(some 38), .bin .neq (.tmp 37) (.av (.val (.int .i64 0))), none, true⟩,
 ⟨(some 39), .mv (.tmp 38), none, true⟩,
 ⟨(some 40), .mv (.tmp 10), (some (39, false)), true⟩,
 ⟨(some 41), .bin .neq (.tmp 40) (.av (.val (.int .i64 0))), (some (39, false)), true⟩,
 ⟨(some 42), .pick (.tmp 39) (.av (.val (.bool true))) (.tmp 41), none, true⟩,
 ⟨(some 43), .mv (.tmp 42), none, true⟩,
 ⟨(some 44), .mv (.tmp 7), (some (43, false)), true⟩,
 ⟨(some 45), .eqNil false 1 (.tmp 44), (some (43, false)), true⟩,
 ⟨(some 46), .pick (.tmp 43) (.av (.val (.bool true))) (.tmp 45), none, true⟩,
 ⟨(some 47), .mv (.tmp 46), none, true⟩,
 ⟨(some 48), .mv (.tmp 9), (some (47, false)), true⟩,
 ⟨(some 49), .eqNil false 1 (.tmp 48), (some (47, false)), true⟩,
 ⟨(some 50), .pick (.tmp 47) (.av (.val (.bool true))) (.tmp 49), none, true⟩,
 ⟨(some 51), .mv (.tmp 50), none, true⟩,
 ⟨(some 52), .call (.av (.func 7 [])) [], (some (51, false)), true⟩,
 ⟨(some 53), .un .not (.tmp 52), (some (51, false)), true⟩,
 ⟨(some 54), .pick (.tmp 51) (.av (.val (.bool true))) (.tmp 53), none, true⟩])
 (.cond (.tmp 54)
 (.seq (.ops [⟨(some 6), .mv (.av (.val (.bool false))), none, true⟩])
 (.ret))
 (.skip)))
 (.seq (.seq (.ops [⟨(some 55), .mv (.tmp 2), none, true⟩,
 ⟨(some 56), .mv (.tmp 2), none, true⟩,
 ⟨(some 57), .len (.tmp 56), none, true⟩,
 ⟨(some 58), .minmax false (.tmp 57) [(.av (.val (.int .i64 80)))], none, true⟩,
 ⟨(some 59), .slice 4 (.tmp 55) none (some (.tmp 58)) none, none, true⟩,
 ⟨(some 60), .len (.tmp 59), none, true⟩,
 ⟨(some 61), .mv (.av (.val (.int .i64 0))), none, true⟩])
 (rangeCode 0 1 62 61 60 103
 (.seq (.ops [⟨(some 63), .mv (.tmp 61), none, true⟩,
 ⟨(some 64), .indexAddr 4 (.tmp 59) (.tmp 61), none, true⟩,
 ⟨(some 65), .load (some 4) (.tmp 64), none, true⟩,
 ⟨(some 12), .zero [(.val (.int .i64 0)), (.val (.int .i64 0)), (.val (.int .i64 0)), (.val (.int .i64 0))], none, true⟩,
 ⟨(some 11), .mv (.tmp 63), none, true⟩,
 ⟨none, .store 4 (.tmp 12) (.tmp 65), none, true⟩])
 (.seq (.seq (.ops [⟨(some 66), .fieldAddr 0 (.tmp 12), none, true⟩,
 ⟨(some 67), .load none (.tmp 66), none, true⟩,
 ⟨(some 68), .bin .eql (.tmp 67) (.av (.val (.int .i64 6))), none, true⟩,
 ⟨(some 69), .mv (.tmp 68), none, true⟩,
 ⟨(some 70), .fieldAddr 0 (.tmp 12), (some (69, false)), true⟩,
 ⟨(some 71), .load none (.tmp 70), (some (69, false)), true⟩,
 ⟨(some 72), .bin .eql (.tmp 71) (.av (.val (.int .i64 7))), (some (69, false)), true⟩,
 ⟨(some 73), .pick (.tmp 69) (.av (.val (.bool true))) (.tmp 72), none, true⟩])
 (.cond (.tmp 73)
 (.seq (.ops [⟨(some 74), .mv (.tmp 7), none, true⟩,
 ⟨(some 75), .load (some 4) (.tmp 12), none, true⟩,
 ⟨(some 76), .call (.av (.func 11 [])) [(.tmp 74), (.tmp 75)], none, true⟩])
 (.exit 1))
 (.skip)))
 (.seq (.ops [⟨(some 78), .mv (.tmp 7), none, true⟩,
 ⟨(some 79), .load (some 4) (.tmp 12), none, true⟩,
 ⟨(some 80), .call (.av (.func 11 [])) [(.tmp 78), (.tmp 79)], none, true⟩,
 ⟨(some 77), .mv (.tmp 80), none, true⟩,
 ⟨(some 81), .extract 0 (.tmp 77), none, true⟩,
 ⟨(some 82), .extract 1 (.tmp 77), none, true⟩,
 ⟨(some 13), .mv (.tmp 81), none, true⟩,
 ⟨(some 14), .mv (.tmp 82), none, true⟩])
 (.seq (.ops [⟨(some 84), .mv (.tmp 9), none, true⟩,
 ⟨(some 85), .load (some 4) (.tmp 12), none, true⟩,
 ⟨(some 86), .call (.av (.func 11 [])) [(.tmp 84), (.tmp 85)], none, true⟩,
 ⟨(some 83), .mv (.tmp 86), none, true⟩,
 ⟨(some 87), .extract 0 (.tmp 83), none, true⟩,
 ⟨(some 88), .extract 1 (.tmp 83), none, true⟩,
 ⟨(some 15), .mv (.tmp 87), none, true⟩,
 ⟨(some 16), .mv (.tmp 88), none, true⟩])
 c_aT1))))))
 c_aT2))))) := rfl

variable {U V : Nat → Prop} {H H' : ZH} {p t g m p2 t2 g2 m2 : Nat} {nu nu2 : Int} {T T2 T' : List TB} {R R2 R' : List Int}
def Bl (p m t : Nat) (T : List TB) (i : Nat) : Prop := i = p ∨ i = m ∨ i = t ∨ ∃ x ∈ T, x.1 = some i
theorem GeAt.blt (h : GeAt U H p t g m nu T R) {i : Nat} (hi : Bl p m t T i) : i < H.length := by
  rcases hi with rfl | rfl | rfl | ⟨x, hx, e⟩
  · exact lt_of_get h.box
  · exact lt_of_get h.rem
  · exact lt_of_get h.arr
  · have := h.pl x hx
    rw [e] at this
    exact lt_of_get this.2
theorem GeAt.away (h : GeAt U H p t g m nu T R) {i : Nat} (hi : Bl p m t T i) : ¬ U i := by
  rcases hi with rfl | rfl | rfl | ⟨x, hx, e⟩
  · exact h.un.1
  · exact h.un.2.1
  · exact h.un.2.2.1
  · exact h.un.2.2.2 x hx i e
theorem GeAt.tag (h : GeAt U H p t g m nu T R) (hu : ∀ i, V i → i < H.length ∧ ¬ Bl p m t T i) : GeAt V H p t g m nu T R :=
  ⟨h.box, h.arr, h.rem, h.pm, h.pl, h.nod, h.len, h.sm, ⟨fun q => (hu _ q).2 (.inl rfl), fun q => (hu _ q).2 (.inr (.inl rfl)), fun q => (hu _ q).2 (.inr (.inr (.inl rfl))), fun x hx j e q => (hu _ q).2 (.inr (.inr (.inr ⟨x, hx, e⟩)))⟩, fun i q => (hu i q).1⟩
theorem GeAt.carry (h : GeAt V H p t g m nu T R) (hf : ∀ i B, Bl p m t T i → H[i]? = some B → H'[i]? = some B) : GeAt U0 H' p t g m nu T R := by
  refine ⟨hf _ _ (.inl rfl) h.box, hf _ _ (.inr (.inr (.inl rfl))) h.arr, hf _ _ (.inr (.inl rfl)) h.rem, h.pm, fun x hx => ?_, h.nod, h.len, h.sm, ⟨fun q => q, fun q => q, fun q => q, fun _ _ _ _ q => q⟩, fun i q => q.elim⟩
  have h1 := h.pl x hx
  have h2 : ∀ j, x.1 = some j → Bl p m t T j := fun j e => .inr (.inr (.inr ⟨x, hx, e⟩))
  revert h1 h2
  cases x.1 with
  | none => exact fun h1 _ => h1
  | some j => exact fun h1 h2 => ⟨h1.1, hf _ _ (h2 j rfl) h1.2⟩
structure Two (H : ZH) (p t g m : Nat) (nu : Int) (T : List TB) (R : List Int) (p2 t2 g2 m2 : Nat) (nu2 : Int) (T2 : List TB) (R2 : List Int) : Prop where
  x : GeAt (Bl p2 m2 t2 T2) H p t g m nu T R
  y : GeAt (Bl p m t T) H p2 t2 g2 m2 nu2 T2 R2
theorem Two.swap (h : Two H p t g m nu T R p2 t2 g2 m2 nu2 T2 R2) : Two H p2 t2 g2 m2 nu2 T2 R2 p t g m nu T R := ⟨h.y, h.x⟩
theorem Two.ext (h : Two H p t g m nu T R p2 t2 g2 m2 nu2 T2 R2) (X : ZH) : Two (H ++ X) p t g m nu T R p2 t2 g2 m2 nu2 T2 R2 := ⟨h.x.ext X, h.y.ext X⟩
theorem Two.of (h : GeAt (Bl p2 m2 t2 T2) H p t g m nu T R) (hy : GeAt V H p2 t2 g2 m2 nu2 T2 R2) : Two H p t g m nu T R p2 t2 g2 m2 nu2 T2 R2 :=
  ⟨h, hy.tag fun i q => ⟨h.blt q, fun q2 => h.away q q2⟩⟩
theorem Two.step {g' : Nat} (h : Two H p t g m nu T R p2 t2 g2 m2 nu2 T2 R2) (h' : GeAt (Bl p2 m2 t2 T2) H' p t g' m nu T' R') (hf : FrG (Bl p2 m2 t2 T2) p m H H') : Two H' p t g' m nu T' R' p2 t2 g2 m2 nu2 T2 R2 :=
  .of h' (h.y.carry fun i B q hb => hf.uu i B q hb)
def AUI (p t m p2 t2 m2 : Nat) (nu nu2 : Int) (h' : ZH) : Prop := ∃ g T R g2 T2 R2, Two h' p t g m nu T R p2 t2 g2 m2 nu2 T2 R2 ∧ GI nu T R ∧ GI nu2 T2 R2 ∧ Alk T T2
set_option maxHeartbeats 4000000 in
theorem a1_z {S : ZS} {KK : AExit → ZS → ZH → Prop} {k : Nat} {r e : Int} (h : Two H p t g m nu T R p2 t2 g2 m2 nu2 T2 R2) (h1 : GI nu T R) (h2 : GI nu2 T2 R2) (hs : Alk T T2) (hn2 : 1 ≤ nu2) (hk : k ≤ 1000)
    (s9 : S 9 = .ptr p2 0) (s11 : S 11 = Z64 (k : Nat)) (s13 : S 13 = Z64 r) (s14 : S 14 = Z64 e) (s15 : S 15 = Z64 r) (s16 : S 16 = Z64 e) (hn : ∀ S' H', AUI p t m p2 t2 m2 nu nu2 H' → KK .normal S' H') :
    zW (XG tbGe true) (cFunc Try.prog) Gh.no (fun _ => true) c_aT1 S H KK := by
  simp only [c_aT1]
  have HN := Lib.hid hn
  have HT := Lib.hid h
  have H1 := Lib.hid h1
  have H2 := Lib.hid h2
  have HS := Lib.hid hs
  have HN2 := Lib.hid hn2
  have hr : binV .rem (.int .i64 (k : Nat)) (.int .i64 3) = some (.int .i64 ((k : Int).tmod 3)) := by simp [binV]
  obtain ⟨c, hc⟩ : ∃ c, c = (k : Int).tmod 3 := ⟨_, rfl⟩
  rw [← hc] at hr
  clear hn h h1 h2 hs hn2 hk hc
  have b0 : ∀ b : Bool, (b || b) = b := fun b => by cases b <;> rfl
  by_cases h0 : c = 0
  · subst h0
    repeat' (first | (simp only [zmPack, zxPack, ne_eq, zfree, owners, Nat.reduceLT, List.contains_cons, List.contains_nil, Nat.reduceBEq, BEq.rfl, chunk, setAt, List.lookup_cons, List.lookup_nil, reduceCtorEq, Nat.reduceEqDiff, reduceIte, implies_true, forall_const, Nat.reduceMul, Nat.reduceSub, Nat.reduceAdd, Nat.reduceLeDiff, hr, *]) | (simp only [zgoO, zgoG, zO_nil, zthen_normal, zgoC]) | (with_reducible apply And.intro) | (with_reducible intro _))
    refine do_z (tb := tbGe) HT.out.y H2.out.rng H2.out.rr (fun _ => rfl) fun W g3 r3 e3 T3 R3 hdo hM3 hfr => ?_
    have hc := do_col hdo H2.out HN2.out (.inl rfl)
    have hg3 := (do_gi hdo H2.out HN2.out).1
    have fin : AUI p t m p2 t2 m2 nu nu2 W := ⟨g, T, R, g3, T3, R3, (HT.out.swap.step hM3 hfr).swap, H1.out, hg3, HS.out.trans hc.sim⟩
    have FN := Lib.hid fin
    clear fin hc hg3 hdo hM3 hfr
    repeat' (first | (simp only [zmPack, zxPack, ne_eq, zfree, owners, Nat.reduceLT, List.contains_cons, List.contains_nil, Nat.reduceBEq, BEq.rfl, chunk, setAt, List.lookup_cons, List.lookup_nil, reduceCtorEq, Nat.reduceEqDiff, reduceIte, implies_true, forall_const, Nat.reduceMul, Nat.reduceSub, Nat.reduceAdd, Nat.reduceLeDiff, *]) | (simp only [zgoO, zgoG, zO_nil, zthen_normal, zgoC]) | (with_reducible apply And.intro) | (with_reducible intro _))
    all_goals exact HN.out _ _ FN.out
  · have fin : AUI p t m p2 t2 m2 nu nu2 H := ⟨g, T, R, g2, T2, R2, HT.out, H1.out, H2.out, HS.out⟩
    have FN := Lib.hid fin
    clear fin
    repeat' (first | (simp only [zmPack, zxPack, ne_eq, zfree, owners, Nat.reduceLT, List.contains_cons, List.contains_nil, Nat.reduceBEq, BEq.rfl, chunk, setAt, List.lookup_cons, List.lookup_nil, reduceCtorEq, Nat.reduceEqDiff, reduceIte, implies_true, forall_const, Nat.reduceMul, Nat.reduceSub, Nat.reduceAdd, Nat.reduceLeDiff, hr, h0, *]) | (simp only [zgoO, zgoG, zO_nil, zthen_normal, zgoC]) | (with_reducible apply And.intro) | (with_reducible intro _))
    all_goals exact HN.out _ _ FN.out
set_option maxHeartbeats 4000000 in
theorem a3_z {S : ZS} {KK : AExit → ZS → ZH → Prop} {nl : List Int} {i17 i18 : Nat} (h1 : Rng T) (h2 : Rng T2) (q : KpQ T T2 nl 0)
    (r17 : H[i17]? = some (.box (gZ T))) (r18 : H[i18]? = some (.box (gZ T2))) (s17 : S 17 = .ptr i17 0) (s18 : S 18 = .ptr i18 0) (hn : ∀ S', S' 6 = ZBo true → KK .ret S' H) : zW (XG tbGe true) (cFunc Try.prog) Gh.no (fun _ => true) c_aT3 S H KK := by
  simp only [c_aT3]
  have HN := Lib.hid hn
  have HR1 := Lib.hid h1
  have HR := Lib.hid h2
  have HQ := Lib.hid q
  have l17 := lt_of_get r17
  have l18 := lt_of_get r18
  clear hn h1 h2 q
  repeat' (first | (simp only [zmPack, zxPack, ne_eq, zfree, owners, Nat.reduceLT, List.contains_cons, List.contains_nil, Nat.reduceBEq, BEq.rfl, chunk, setAt, List.lookup_cons, List.lookup_nil, reduceCtorEq, Nat.reduceEqDiff, reduceIte, implies_true, forall_const, Nat.reduceMul, Nat.reduceSub, Nat.reduceAdd, Nat.reduceLeDiff, *]) | (simp only [zgoO, zgoG, zO_nil, zthen_normal, zgoC]) | (with_reducible apply And.intro) | (with_reducible intro _))
  refine ZC.up (neededin_z (by rw [hasOf_len]; have := HR1.out.len; omega) (rootsLen HR1.out) HR1.out.own HR1.out.ok HR1.out.root ?_)
  rw [needL_eq, ← HQ.out.n2]
  repeat' (first | (simp only [zmPack, zxPack, ne_eq, zfree, owners, Nat.reduceLT, List.contains_cons, List.contains_nil, Nat.reduceBEq, BEq.rfl, chunk, setAt, List.lookup_cons, List.lookup_nil, reduceCtorEq, Nat.reduceEqDiff, reduceIte, implies_true, forall_const, Nat.reduceMul, Nat.reduceSub, Nat.reduceAdd, Nat.reduceLeDiff, *]) | (simp only [zgoO, zgoG, zO_nil, zthen_normal, zgoC]) | (with_reducible apply And.intro) | (with_reducible intro _))
  refine zW_forK [(109, .fz 1 false (nl.map eI)), (17, .ptr i17 0), (18, .ptr i18 0)] nl.length (fun _ _ W => W = H) (by have := HQ.out.len; omega) ⟨rfl, rfl, rfl, rfl, rfl, rfl⟩ rfl rfl (by repeat' (first | exact trivial | (refine ⟨rfl, ?_⟩) | (refine ⟨by simp only [zupd_at, Nat.reduceEqDiff, reduceIte]; assumption, ?_⟩))) rfl rfl (by decide) rfl ?_ ?_
  · rintro k s' h' hk rfl hi hl ⟨f109, f17, f18, -⟩
    have hx : nl[k]? = some nl[k] := List.getElem?_eq_getElem hk
    obtain ⟨j, hj, l1, l2, o, ol, o1, o2⟩ := HQ.out.at_ _ (List.getElem_mem hk)
    rw [hj] at hx
    have l3 : j < (hasOf T).length := by rw [hasOf_len]; exact l1
    have l4 : j < (hasOf T2).length := by rw [hasOf_len]; exact l2
    have l5 : ¬ (((hasOf T2).length : Nat) : Int) ≤ ((j : Nat) : Int) := by omega
    have oll : o.length ≤ 1000000 := by omega
    have HOL := Lib.hid oll
    clear hj l1 l2 ol oll
    repeat' (first | (simp only [zmPack, zxPack, ne_eq, zfree, owners, Nat.reduceLT, List.contains_cons, List.contains_nil, Nat.reduceBEq, BEq.rfl, chunk, setAt, List.lookup_cons, List.lookup_nil, reduceCtorEq, Nat.reduceEqDiff, reduceIte, implies_true, forall_const, Nat.reduceMul, Nat.reduceSub, Nat.reduceAdd, Nat.reduceLeDiff, hx, o1, o2, l3, l4, l5, *]) | (simp only [zgoO, zgoG, zO_nil, zthen_normal, zgoC]) | (with_reducible apply And.intro) | (with_reducible intro _))
    refine eqint_z rows_fz rows_fz HOL.out HOL.out ?_
    rw [decide_eq_true rfl]
    repeat' (first | (simp only [zmPack, zxPack, ne_eq, zfree, owners, Nat.reduceLT, List.contains_cons, List.contains_nil, Nat.reduceBEq, BEq.rfl, chunk, setAt, List.lookup_cons, List.lookup_nil, reduceCtorEq, Nat.reduceEqDiff, reduceIte, implies_true, forall_const, Nat.reduceMul, Nat.reduceSub, Nat.reduceAdd, Nat.reduceLeDiff, *]) | (simp only [zgoO, zgoG, zO_nil, zthen_normal, zgoC]) | (with_reducible apply And.intro) | (with_reducible intro _))
  · rintro s' h' rfl ⟨f109, f17, f18, -⟩
    repeat' (first | (simp only [zmPack, zxPack, ne_eq, zfree, owners, Nat.reduceLT, List.contains_cons, List.contains_nil, Nat.reduceBEq, BEq.rfl, chunk, setAt, List.lookup_cons, List.lookup_nil, reduceCtorEq, Nat.reduceEqDiff, reduceIte, implies_true, forall_const, Nat.reduceMul, Nat.reduceSub, Nat.reduceAdd, Nat.reduceLeDiff, l17, l18, *]) | (simp only [zgoO, zgoG, zO_nil, zthen_normal, zgoC]) | (with_reducible apply And.intro) | (with_reducible intro _))
    refine neededin_z (by rw [hasOf_len]; have := HR1.out.len; omega) (rootsLen HR1.out) HR1.out.own HR1.out.ok HR1.out.root ?_
    rw [needL_eq, ← HQ.out.n2]
    repeat' (first | (simp only [zmPack, zxPack, ne_eq, zfree, owners, Nat.reduceLT, List.contains_cons, List.contains_nil, Nat.reduceBEq, BEq.rfl, chunk, setAt, List.lookup_cons, List.lookup_nil, reduceCtorEq, Nat.reduceEqDiff, reduceIte, implies_true, forall_const, Nat.reduceMul, Nat.reduceSub, Nat.reduceAdd, Nat.reduceLeDiff, *]) | (simp only [zgoO, zgoG, zO_nil, zthen_normal, zgoC]) | (with_reducible apply And.intro) | (with_reducible intro _))
    refine neededin_z (by rw [hasOf_len]; have := HR.out.len; omega) (rootsLen HR.out) HR.out.own HR.out.ok HR.out.root ?_
    rw [needL_eq, ← HQ.out.n1]
    repeat' (first | (simp only [zmPack, zxPack, ne_eq, zfree, owners, Nat.reduceLT, List.contains_cons, List.contains_nil, Nat.reduceBEq, BEq.rfl, chunk, setAt, List.lookup_cons, List.lookup_nil, reduceCtorEq, Nat.reduceEqDiff, reduceIte, implies_true, forall_const, Nat.reduceMul, Nat.reduceSub, Nat.reduceAdd, Nat.reduceLeDiff, *]) | (simp only [zgoO, zgoG, zO_nil, zthen_normal, zgoC]) | (with_reducible apply And.intro) | (with_reducible intro _))
    refine eqint_z rows_fz rows_fz (by have := HQ.out.len; omega) (by have := HQ.out.len; omega) ?_
    rw [decide_eq_true rfl]
    repeat' (first | (simp only [zmPack, zxPack, ne_eq, zfree, owners, Nat.reduceLT, List.contains_cons, List.contains_nil, Nat.reduceBEq, BEq.rfl, chunk, setAt, List.lookup_cons, List.lookup_nil, reduceCtorEq, Nat.reduceEqDiff, reduceIte, implies_true, forall_const, Nat.reduceMul, Nat.reduceSub, Nat.reduceAdd, Nat.reduceLeDiff, *]) | (simp only [zgoO, zgoG, zO_nil, zthen_normal, zgoC]) | (with_reducible apply And.intro) | (with_reducible intro _))
    exact HN.out _ (by simp [zupd])
set_option maxHeartbeats 4000000 in
theorem a2_z {S : ZS} {KK : AExit → ZS → ZH → Prop} (h : Two H p t g m nu T R p2 t2 g2 m2 nu2 T2 R2) (h1 : GI nu T R) (h2 : GI nu2 T2 R2) (hs : Alk T T2) (s7 : S 7 = .ptr p 0) (s9 : S 9 = .ptr p2 0) (hn : ∀ S' W, S' 6 = ZBo true → KK .ret S' W) :
    zW (XG tbGe true) (cFunc Try.prog) Gh.no (fun _ => true) c_aT2 S H KK := by
  simp only [c_aT2]
  have HN := Lib.hid hn
  have HT := Lib.hid h
  have H1 := Lib.hid h1
  have H2 := Lib.hid h2
  have HS := Lib.hid hs
  clear hn h h1 h2 hs
  repeat' (first | (simp only [zmPack, zxPack, ne_eq, zfree, owners, Nat.reduceLT, List.contains_cons, List.contains_nil, Nat.reduceBEq, BEq.rfl, chunk, setAt, List.lookup_cons, List.lookup_nil, reduceCtorEq, Nat.reduceEqDiff, reduceIte, implies_true, forall_const, Nat.reduceMul, Nat.reduceSub, Nat.reduceAdd, Nat.reduceLeDiff, *]) | (simp only [zgoO, zgoG, zO_nil, zthen_normal, zgoC]) | (with_reducible apply And.intro) | (with_reducible intro _))
  refine graph_z HT.out.x ?_
  repeat' (first | (simp only [zmPack, zxPack, ne_eq, zfree, owners, Nat.reduceLT, List.contains_cons, List.contains_nil, Nat.reduceBEq, BEq.rfl, chunk, setAt, List.lookup_cons, List.lookup_nil, reduceCtorEq, Nat.reduceEqDiff, reduceIte, implies_true, forall_const, Nat.reduceMul, Nat.reduceSub, Nat.reduceAdd, Nat.reduceLeDiff, *]) | (simp only [zgoO, zgoG, zO_nil, zthen_normal, zgoC]) | (with_reducible apply And.intro) | (with_reducible intro _))
  refine graph_z HT.out.y ?_
  repeat' (first | (simp only [zmPack, zxPack, ne_eq, zfree, owners, Nat.reduceLT, List.contains_cons, List.contains_nil, Nat.reduceBEq, BEq.rfl, chunk, setAt, List.lookup_cons, List.lookup_nil, reduceCtorEq, Nat.reduceEqDiff, reduceIte, implies_true, forall_const, Nat.reduceMul, Nat.reduceSub, Nat.reduceAdd, Nat.reduceLeDiff, *]) | (simp only [zgoO, zgoG, zO_nil, zthen_normal, zgoC]) | (with_reducible apply And.intro) | (with_reducible intro _))
  exact a3_z H1.out.rng H2.out.rng (KpQ.sim HS.out H1.out.rng H2.out.rng (fun q => by omega)) (mv_at0 _ _) (mv_at1 _ _ _) (by simp [zupd]) (by simp [zupd]) fun S' e => HN.out S' _ e
set_option maxHeartbeats 8000000 in
theorem gensany_z {a b : Int} {l : List Dd} :
    ZC (XG tbGe true) (cFunc Try.prog) 4 [Z64 a, Z64 b, .fz 4 false (l.map eD)] (fun _ => true) [] fun z _ => z = ZBo true := by
  refine ZC.enter Gh.no (fun args fl hp ha => constX_none (l := tbGe) (f := 4) (by decide) args fl hp ha) f_ge_any (by simp) ?_
  simp only [c_ge_any_cut]
  have fin : ∀ X, Fin [] (ZBo true) X (fun z _ => z = ZBo true) := fun X => Fin.trunc (Mods.ext [] X) rfl rfl
  have FI := Lib.hid fin
  clear fin
  repeat' (first | (simp only [zmPack, zxPack, ne_eq, zfree, owners, Nat.reduceLT, List.contains_cons, List.contains_nil, Nat.reduceBEq, BEq.rfl, chunk, setAt, List.lookup_cons, List.lookup_nil, reduceCtorEq, Nat.reduceEqDiff, reduceIte, implies_true, forall_const, Nat.reduceMul, Nat.reduceSub, Nat.reduceAdd, Nat.reduceLeDiff, *]) | (simp only [zgoO, zgoG, zO_nil, zthen_normal, zgoC]) | (with_reducible apply And.intro) | (with_reducible intro _))
  refine yes_z ?_
  repeat' (first | (simp only [zmPack, zxPack, ne_eq, zfree, owners, Nat.reduceLT, List.contains_cons, List.contains_nil, Nat.reduceBEq, BEq.rfl, chunk, setAt, List.lookup_cons, List.lookup_nil, reduceCtorEq, Nat.reduceEqDiff, reduceIte, implies_true, forall_const, Nat.reduceMul, Nat.reduceSub, Nat.reduceAdd, Nat.reduceLeDiff, *]) | (simp only [zgoO, zgoG, zO_nil, zthen_normal, zgoC]) | (with_reducible apply And.intro) | (with_reducible intro _))
  refine ZC.up (rest_z (by omega) ?_)
  obtain ⟨nu, hnu⟩ : ∃ nu, nu = 1 + a % 10 := ⟨_, rfl⟩
  have hn1 : 1 ≤ nu ∧ nu ≤ 100 := by omega
  have w1 : IntKind.i64.wrap (1 + a % 10) = nu := by rw [IntWalk.i64_in _ (by omega), hnu]
  obtain ⟨kr, hkr⟩ : ∃ kr, kr = a % 10 := ⟨_, rfl⟩
  rw [← hkr] at w1 ⊢
  have HNU := Lib.hid hn1
  clear hnu hn1 hkr
  repeat' (first | (simp only [zmPack, zxPack, ne_eq, zfree, owners, Nat.reduceLT, List.contains_cons, List.contains_nil, Nat.reduceBEq, BEq.rfl, chunk, setAt, List.lookup_cons, List.lookup_nil, reduceCtorEq, Nat.reduceEqDiff, reduceIte, implies_true, forall_const, Nat.reduceMul, Nat.reduceSub, Nat.reduceAdd, Nat.reduceLeDiff, w1, *]) | (simp only [zgoO, zgoG, zO_nil, zthen_normal, zgoC]) | (with_reducible apply And.intro) | (with_reducible intro _))
  refine new_z (U := U0) (fun i hi => hi.elim) HNU.out.1 HNU.out.2 fun H0 p t m hM0 => ?_
  have HM0 := Lib.hid hM0
  clear w1 hM0
  repeat' (first | (simp only [zmPack, zxPack, ne_eq, zfree, owners, Nat.reduceLT, List.contains_cons, List.contains_nil, Nat.reduceBEq, BEq.rfl, chunk, setAt, List.lookup_cons, List.lookup_nil, reduceCtorEq, Nat.reduceEqDiff, reduceIte, implies_true, forall_const, Nat.reduceMul, Nat.reduceSub, Nat.reduceAdd, Nat.reduceLeDiff, *]) | (simp only [zgoO, zgoG, zO_nil, zthen_normal, zgoC]) | (with_reducible apply And.intro) | (with_reducible intro _))
  refine ZC.up (rest_z (by omega) ?_)
  obtain ⟨nu2, hnu⟩ : ∃ nu2, nu2 = 1 + b % 10 := ⟨_, rfl⟩
  have hn1 : 1 ≤ nu2 ∧ nu2 ≤ 100 := by omega
  have w1 : IntKind.i64.wrap (1 + b % 10) = nu2 := by rw [IntWalk.i64_in _ (by omega), hnu]
  obtain ⟨kr2, hkr⟩ : ∃ kr2, kr2 = b % 10 := ⟨_, rfl⟩
  rw [← hkr] at w1 ⊢
  have HNU2 := Lib.hid hn1
  clear hnu hn1 hkr
  repeat' (first | (simp only [zmPack, zxPack, ne_eq, zfree, owners, Nat.reduceLT, List.contains_cons, List.contains_nil, Nat.reduceBEq, BEq.rfl, chunk, setAt, List.lookup_cons, List.lookup_nil, reduceCtorEq, Nat.reduceEqDiff, reduceIte, implies_true, forall_const, Nat.reduceMul, Nat.reduceSub, Nat.reduceAdd, Nat.reduceLeDiff, w1, *]) | (simp only [zgoO, zgoG, zO_nil, zthen_normal, zgoC]) | (with_reducible apply And.intro) | (with_reducible intro _))
  refine new_z2 (U := Bl p m t []) (fun i hi => HM0.out.blt hi) HNU2.out.1 HNU2.out.2 fun X p2 t2 m2 hM2 => ?_
  have hTwo : Two (H0 ++ X) p t 0 m nu [] [] p2 t2 0 m2 nu2 [] [] := (Two.of hM2 (HM0.out.ext X)).swap
  have HTW := Lib.hid hTwo
  obtain ⟨W0, hW0⟩ : ∃ W0, W0 = H0 ++ X := ⟨_, rfl⟩
  rw [← hW0] at HTW ⊢
  obtain ⟨ex2, hct⟩ := dd_cut (e := eD) (k := 4) (ex := false) (l := l) (n := min l.length 80) (Nat.min_le_left _ _)
  obtain ⟨ds, hds⟩ : ∃ ds, ds = l.take (min l.length 80) := ⟨_, rfl⟩
  have hlen : ds.length ≤ 80 := by rw [hds, List.length_take]; omega
  rw [← hds] at hct
  have hbm : bestZ false (Z64 (l.length : Nat)) [Z64 (80 : Int)] = some (Z64 ((min l.length 80 : Nat) : Int)) := best_min (m := 80)
  have HLEN := Lib.hid hlen
  clear hds hlen w1 hM2 hTwo hW0
  have hnil : ∀ (H : ZH) i o, nilZ H 1 (.ptr i o) = some false := fun _ _ _ => rfl
  repeat' (first | (simp only [zmPack, zxPack, ne_eq, zfree, owners, Nat.reduceLT, List.contains_cons, List.contains_nil, Nat.reduceBEq, BEq.rfl, chunk, setAt, List.lookup_cons, List.lookup_nil, reduceCtorEq, Nat.reduceEqDiff, reduceIte, implies_true, forall_const, Nat.reduceMul, Nat.reduceSub, Nat.reduceAdd, Nat.reduceLeDiff, hnil, *]) | (simp only [zgoO, zgoG, zO_nil, zthen_normal, zgoC]) | (with_reducible apply And.intro) | (with_reducible intro _))
  refine yes_z ?_
  repeat' (first | (simp only [zmPack, zxPack, ne_eq, zfree, owners, Nat.reduceLT, List.contains_cons, List.contains_nil, Nat.reduceBEq, BEq.rfl, chunk, setAt, List.lookup_cons, List.lookup_nil, reduceCtorEq, Nat.reduceEqDiff, reduceIte, implies_true, forall_const, Nat.reduceMul, Nat.reduceSub, Nat.reduceAdd, Nat.reduceLeDiff, hbm, hct, mv_num0, mv_num1, natZ_nat, Option.bind_some, Option.isSome_none, *]) | (simp only [zgoO, zgoG, zO_nil, zthen_normal, zgoC]) | (with_reducible apply And.intro) | (with_reducible intro _))
  clear hct hbm hnil
  refine zW_forK [(7, .ptr p 0), (9, .ptr p2 0), (59, .fz 4 ex2 (ds.map eD))] ds.length (fun k s' h' => AUI p t m p2 t2 m2 nu nu2 h') (by have := HLEN.out; omega) ⟨rfl, rfl, rfl, rfl, rfl, rfl⟩ rfl rfl (by repeat' (first | exact trivial | (refine ⟨rfl, ?_⟩) | (refine ⟨by simp only [zupd_at, Nat.reduceEqDiff, reduceIte]; assumption, ?_⟩))) rfl rfl (by decide) ⟨0, [], [], 0, [], [], HTW.out, GI.start HNU.out.1, GI.start HNU2.out.1, Alk.refl⟩ ?_ ?_
  · rintro k s' h' hk ⟨g, T, R, g2, T2, R2, hM, hG, hG2, hA⟩ hi hl ⟨f7, f9, f59, -⟩
    have hx : ds[k]? = some ds[k] := List.getElem?_eq_getElem hk
    obtain ⟨d, hd⟩ : ∃ d, d = ds[k] := ⟨_, rfl⟩
    rw [← hd] at hx
    obtain ⟨d1, d2, d3, d4⟩ := d
    have hp := lt_of_get hM.x.box
    have hm := lt_of_get hM.x.rem
    have hk8 : k ≤ 1000 := by have := HLEN.out; omega
    have HM := Lib.hid hM
    have HG := Lib.hid hG
    have HG2 := Lib.hid hG2
    have HA := Lib.hid hA
    have HP := Lib.hid (And.intro hp hm)
    have HK8 := Lib.hid hk8
    clear hd hM hG hG2 hA hp hm hk8
    by_cases hd : d1 = 6 ∨ d1 = 7
    · have done : ∀ W g3 r e T3 R3, DoG nu T R d2 d3 d4 d1 r e T3 R3 → GeAt (Bl p2 m2 t2 T2) W p t g3 m nu T3 R3 → FrG (Bl p2 m2 t2 T2) p m (h' ++ [.box [Z64 d1, Z64 d2, Z64 d3, Z64 d4]]) W → AUI p t m p2 t2 m2 nu nu2 W := fun W g3 r e T3 R3 hdo hM3 hfr =>
        ⟨g3, T3, R3, g2, T2, R2, (HM.out.ext _).step hM3 hfr, (do_gi hdo HG.out HNU.out.1).1, HG2.out, (do_col hdo HG.out HNU.out.1 hd).sim.symm.trans HA.out⟩
      have DN := Lib.hid done
      clear done
      rcases hd with rfl | rfl
      · have n1 : ¬ (6 : Int) = 7 := by omega
        repeat' (first | (simp only [zmPack, zxPack, ne_eq, zfree, owners, Nat.reduceLT, List.contains_cons, List.contains_nil, Nat.reduceBEq, BEq.rfl, chunk, setAt, List.lookup_cons, List.lookup_nil, reduceCtorEq, Nat.reduceEqDiff, reduceIte, implies_true, forall_const, Nat.reduceMul, Nat.reduceSub, Nat.reduceAdd, Nat.reduceLeDiff, hx, n1, *]) | (simp only [zgoO, zgoG, zO_nil, zthen_normal, zgoC]) | (with_reducible apply And.intro) | (with_reducible intro _))
        refine do_z (HM.out.ext _).x HG.out.rng HG.out.rr (fun _ => rfl) fun W g3 r e T3 R3 hdo hM3 hfr => ?_
        have FN := Lib.hid (DN.out _ _ _ _ _ _ hdo hM3 hfr)
        clear hdo hM3 hfr
        repeat' (first | (simp only [zmPack, zxPack, ne_eq, zfree, owners, Nat.reduceLT, List.contains_cons, List.contains_nil, Nat.reduceBEq, BEq.rfl, chunk, setAt, List.lookup_cons, List.lookup_nil, reduceCtorEq, Nat.reduceEqDiff, reduceIte, implies_true, forall_const, Nat.reduceMul, Nat.reduceSub, Nat.reduceAdd, Nat.reduceLeDiff, *]) | (simp only [zgoO, zgoG, zO_nil, zthen_normal, zgoC]) | (with_reducible apply And.intro) | (with_reducible intro _))
        all_goals exact FN.out
      · have n1 : ¬ (7 : Int) = 6 := by omega
        repeat' (first | (simp only [zmPack, zxPack, ne_eq, zfree, owners, Nat.reduceLT, List.contains_cons, List.contains_nil, Nat.reduceBEq, BEq.rfl, chunk, setAt, List.lookup_cons, List.lookup_nil, reduceCtorEq, Nat.reduceEqDiff, reduceIte, implies_true, forall_const, Nat.reduceMul, Nat.reduceSub, Nat.reduceAdd, Nat.reduceLeDiff, hx, n1, *]) | (simp only [zgoO, zgoG, zO_nil, zthen_normal, zgoC]) | (with_reducible apply And.intro) | (with_reducible intro _))
        refine do_z (HM.out.ext _).x HG.out.rng HG.out.rr (fun _ => rfl) fun W g3 r e T3 R3 hdo hM3 hfr => ?_
        have FN := Lib.hid (DN.out _ _ _ _ _ _ hdo hM3 hfr)
        clear hdo hM3 hfr
        repeat' (first | (simp only [zmPack, zxPack, ne_eq, zfree, owners, Nat.reduceLT, List.contains_cons, List.contains_nil, Nat.reduceBEq, BEq.rfl, chunk, setAt, List.lookup_cons, List.lookup_nil, reduceCtorEq, Nat.reduceEqDiff, reduceIte, implies_true, forall_const, Nat.reduceMul, Nat.reduceSub, Nat.reduceAdd, Nat.reduceLeDiff, *]) | (simp only [zgoO, zgoG, zO_nil, zthen_normal, zgoC]) | (with_reducible apply And.intro) | (with_reducible intro _))
        all_goals exact FN.out
    · have h6 : ¬ d1 = 6 := fun e => hd (.inl e)
      have h7 : ¬ d1 = 7 := fun e => hd (.inr e)
      clear hd
      repeat' (first | (simp only [zmPack, zxPack, ne_eq, zfree, owners, Nat.reduceLT, List.contains_cons, List.contains_nil, Nat.reduceBEq, BEq.rfl, chunk, setAt, List.lookup_cons, List.lookup_nil, reduceCtorEq, Nat.reduceEqDiff, reduceIte, implies_true, forall_const, Nat.reduceMul, Nat.reduceSub, Nat.reduceAdd, Nat.reduceLeDiff, hx, h6, h7, *]) | (simp only [zgoO, zgoG, zO_nil, zthen_normal, zgoC]) | (with_reducible apply And.intro) | (with_reducible intro _))
      refine do_z (HM.out.ext _).x HG.out.rng HG.out.rr (fun _ => rfl) fun W g3 r e T3 R3 hdo hM3 hfr => ?_
      have b12 := fr_box hfr (i := h'.length) (fun Y => by rw [List.append_assoc]; exact mv_at0 _ _) (by have := HP.out.1; omega) (by have := HP.out.2; omega)
      have b12e := b12 []
      rw [List.append_nil] at b12e
      have hT3 := (HM.out.ext _).step hM3 hfr
      have HT3 := Lib.hid hT3
      have HDO := Lib.hid hdo
      clear hdo hM3 hfr hT3 b12
      repeat' (first | (simp only [zmPack, zxPack, ne_eq, zfree, owners, Nat.reduceLT, List.contains_cons, List.contains_nil, Nat.reduceBEq, BEq.rfl, chunk, setAt, List.lookup_cons, List.lookup_nil, reduceCtorEq, Nat.reduceEqDiff, reduceIte, implies_true, forall_const, Nat.reduceMul, Nat.reduceSub, Nat.reduceAdd, Nat.reduceLeDiff, b12e, *]) | (simp only [zgoO, zgoG, zO_nil, zthen_normal, zgoC]) | (with_reducible apply And.intro) | (with_reducible intro _))
      refine do_z HT3.out.y HG2.out.rng HG2.out.rr (fun _ => rfl) fun W4 g4 r4 e4 T4 R4 hdo4 hM4 hfr4 => ?_
      obtain ⟨q1, q2, q3⟩ := do_sim HDO.out hdo4 HG.out HG2.out HNU.out.1 HNU2.out.1 HA.out h6 h7
      subst q1
      subst q2
      have hT4 := (HT3.out.swap.step hM4 hfr4).swap
      have hg4 := (do_gi hdo4 HG2.out HNU2.out.1).1
      have hg3 := (do_gi HDO.out HG.out HNU.out.1).1
      have GO : ∀ (S : ZS) (KK : AExit → ZS → ZH → Prop), S 9 = .ptr p2 0 → S 11 = Z64 (k : Nat) → S 13 = Z64 r4 → S 14 = Z64 e4 → S 15 = Z64 r4 → S 16 = Z64 e4 → (∀ S' H', AUI p t m p2 t2 m2 nu nu2 H' → KK .normal S' H') → zW (XG tbGe true) (cFunc Try.prog) Gh.no (fun _ => true) c_aT1 S W4 KK := fun S KK a1 a2 a3 a4 a5 a6 a7 => a1_z hT4 hg3 hg4 q3 HNU2.out.1 HK8.out a1 a2 a3 a4 a5 a6 a7
      have GOO := Lib.hid GO
      clear GO hT4 hg4 hg3 q3 hdo4 hM4 hfr4
      repeat' (first | (simp only [zmPack, zxPack, ne_eq, zfree, owners, Nat.reduceLT, List.contains_cons, List.contains_nil, Nat.reduceBEq, BEq.rfl, chunk, setAt, List.lookup_cons, List.lookup_nil, reduceCtorEq, Nat.reduceEqDiff, reduceIte, implies_true, forall_const, Nat.reduceMul, Nat.reduceSub, Nat.reduceAdd, Nat.reduceLeDiff, *]) | (simp only [zgoO, zgoG, zO_nil, zthen_normal, zgoC]) | (with_reducible apply And.intro) | (with_reducible intro _))
      refine GOO.out _ _ (by simp [zupd, f9]) (by simp [zupd]) (by simp [zupd]) (by simp [zupd]) (by simp [zupd]) (by simp [zupd]) fun S' H' fin => ?_
      repeat' (first | (simp only [zmPack, zxPack, ne_eq, zfree, owners, Nat.reduceLT, List.contains_cons, List.contains_nil, Nat.reduceBEq, BEq.rfl, chunk, setAt, List.lookup_cons, List.lookup_nil, reduceCtorEq, Nat.reduceEqDiff, reduceIte, implies_true, forall_const, Nat.reduceMul, Nat.reduceSub, Nat.reduceAdd, Nat.reduceLeDiff, *]) | (simp only [zgoO, zgoG, zO_nil, zthen_normal, zgoC]) | (with_reducible apply And.intro) | (with_reducible intro _))
  · rintro s' h' ⟨g, T, R, g2, T2, R2, hM, hG, hG2, hA⟩ ⟨f7, f9, f59, -⟩
    refine a2_z hM hG hG2 hA f7 f9 fun S' W e6 => ?_
    have fin := FI.out W
    repeat' (first | (simp only [zmPack, zxPack, ne_eq, zfree, owners, Nat.reduceLT, List.contains_cons, List.contains_nil, Nat.reduceBEq, BEq.rfl, chunk, setAt, List.lookup_cons, List.lookup_nil, reduceCtorEq, Nat.reduceEqDiff, reduceIte, implies_true, forall_const, Nat.reduceMul, Nat.reduceSub, Nat.reduceAdd, Nat.reduceLeDiff, e6, *]) | (simp only [zgoO, zgoG, zO_nil, zthen_normal, zgoC]) | (with_reducible apply And.intro) | (with_reducible intro _))
end Go.Proofs.Ytblgljahhhdlhaa

namespace Go.Proofs.Ytblgljahhhdlhaa
open Go Go.RowKit Go.ChangeShapes Go.WideShapes Go.ChangeAt
set_option linter.unusedVariables false
set_option linter.unusedSimpArgs false
set_option maxRecDepth 100000 in
theorem gensany_lifted (os : Os) (started : os.Started) (H : Type) (enc : TypeId × Value → H) :
    ReturnsInHanded {} Try.checked os 4 .any (Rows.gensAnySpec.pre6 enc Try.prog Try.f4 Rows.gensAnyRow.domain false) (Rows.gensAnySpec.post enc Try.prog Try.f4 false true false false) := by
  refine law_lifted (C := Try.checked) 12 [(false, .int .i64), (false, .int .i64), (false, .slice 32 (.prod (.int .i64) (.prod (.int .i64) (.prod (.int .i64) (.int .i64)))))] 4 Try.own Try.laidOut started (by kernel_rfl) Try.func4
    (ChangeSpec.witness6 (enc := enc) (C := Try.checked) false ⟨#[], #[.int .i64 0, .int .i64 0, .slice none 0 0], []⟩ 8 (by kernel_rfl) (by kernel_rfl) (by kernel_rfl) (by kernel_rfl))
    rfl (by kernel_rfl) Try.underlying4 (fun ds h => ?_) (by kernel_rfl) (by kernel_rfl) (fun W args h => ?_)
  · match ds, h with
    | [d0, d1, d2], _ => rfl
  · refine zm_walk_nd (by kernel_rfl) (constX_ok (n := 200) (F := cFunc Try.prog) (by kernel_rfl) (fun f af h => h) tbGe (by intro p hp; rw [List.mem_singleton.1 hp]; kernel_rfl)) (fun f af h => h) rfl (fun zl hz => ?_) W args h
    obtain ⟨a, _, rfl, _, _, b, _, rfl, _, _, l, _, rfl, hl, sl, rfl⟩ := hz
    exact gensany_z (a := a) (b := b) (l := l)
theorem gensany_holds : Rows.GensAnySaid :=
  OpenClaim.holds_of_wide 4 Try.f4 rfl rfl rfl rfl rfl rfl rfl ⟨rfl, rfl, rfl, rfl, rfl⟩ rfl rfl rfl rfl rfl (by kernel_rfl) Try.func4 (by kernel_rfl) (of_decide_eq_true (by kernel_rfl)) (by unfold Func.isWrapper; first | (rw [if_pos (by decide +kernel)]; kernel_rfl) | (rw [if_neg (by decide +kernel)]; exact ⟨rfl, rfl⟩))
    (fun os started H enc _ => gensany_lifted os started H enc)
end Go.Proofs.Ytblgljahhhdlhaa
