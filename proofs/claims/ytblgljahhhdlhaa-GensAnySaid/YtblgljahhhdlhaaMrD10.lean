/-
  Generations in ZM: collect.
-/
import Derived.Lib.Hide
import Derived.Test.YtblgljahhhdlhaaMrD6
import Derived.Test.YtblgljahhhdlhaaMrD9
namespace Go.Proofs.Ytblgljahhhdlhaa
open Go Go.RowKit
set_option linter.unusedVariables false
set_option linter.unusedSimpArgs false
variable {U : Nat → Prop}
variable {tb : List (FuncId × Bool)} {nd : Bool} {L : Nat → Bool} {H : ZH} {K : ZV → ZH → Prop} {p t g m : Nat} {nu : Int} {T : List TB} {R : List Int} {ages : List Int} {sb : List Bool}
def c_cT2 : ACode := .seq (.ops [⟨(some 100), .mv (.tmp 0), none, true⟩,
 ⟨(some 101), .nilCheck (.tmp 100), none, true⟩,
 ⟨(some 102), .fieldAddr 2 (.tmp 101), none, true⟩,
 ⟨(some 103), .load none (.tmp 102), none, true⟩,
 ⟨none, .mapClear (.tmp 103), none, true⟩])
 (.seq (.ops [⟨(some 104), .mv (.tmp 7), none, true⟩,
 ⟨(some 6), .mv (.tmp 104), none, true⟩])
 (.ret))
def c_cT1 : ACode := .seq (.seq (.ops [⟨(some 53), .mv (.tmp 0), none, true⟩,
 ⟨(some 54), .nilCheck (.tmp 53), none, true⟩,
 ⟨(some 55), .fieldAddr 1 (.tmp 54), none, true⟩,
 ⟨(some 56), .load none (.tmp 55), none, true⟩,
 ⟨(some 57), .len (.tmp 56), none, true⟩,
 ⟨(some 58), .mv (.av (.val (.int .i64 0))), none, true⟩])
 (rangeCode 2 3 59 58 57 99
 (.seq (.ops [⟨(some 60), .mv (.tmp 58), none, true⟩,
 ⟨(some 10), .mv (.tmp 60), none, true⟩])
 (.seq (.ops [⟨(some 61), .mv (.tmp 0), none, true⟩,
 ⟨(some 62), .nilCheck (.tmp 61), none, true⟩,
 ⟨(some 63), .fieldAddr 1 (.tmp 62), none, true⟩,
 ⟨(some 64), .load none (.tmp 63), none, true⟩,
 ⟨(some 65), .mv (.tmp 10), none, true⟩,
 ⟨(some 66), .indexAddr 3 (.tmp 64) (.tmp 65), none, true⟩,
 ⟨(some 67), .fieldAddr 0 (.tmp 66), none, true⟩,
 ⟨(some 68), .load none (.tmp 67), none, true⟩,
 ⟨(some 69), .len (.tmp 68), none, true⟩,
 ⟨(some 70), .mv (.av (.val (.int .i64 0))), none, true⟩])
 (rangeCode 4 5 71 70 69 98
 (.seq (.ops [⟨(some 72), .mv (.tmp 70), none, true⟩,
 ⟨(some 73), .indexAddr 1 (.tmp 68) (.tmp 70), none, true⟩,
 ⟨(some 74), .load none (.tmp 73), none, true⟩,
 ⟨(some 11), .mv (.tmp 72), none, true⟩,
 ⟨(some 12), .mv (.tmp 74), none, true⟩])
 (.seq (.ops [⟨(some 75), .mv (.tmp 12), none, true⟩,
 ⟨(some 76), .bin .geq (.tmp 75) (.av (.val (.int .i64 0))), none, true⟩,
 ⟨(some 77), .mv (.tmp 76), none, true⟩,
 ⟨(some 78), .mv (.tmp 0), (some (77, true)), true⟩,
 ⟨(some 79), .nilCheck (.tmp 78), (some (77, true)), true⟩,
 ⟨(some 80), .fieldAddr 1 (.tmp 79), (some (77, true)), true⟩,
 ⟨(some 81), .load none (.tmp 80), (some (77, true)), true⟩,
 ⟨(some 82), .mv (.tmp 12), (some (77, true)), true⟩,
 ⟨(some 83), .indexAddr 3 (.tmp 81) (.tmp 82), (some (77, true)), true⟩,
 ⟨(some 84), .fieldAddr 1 (.tmp 83), (some (77, true)), true⟩,
 ⟨(some 85), .load none (.tmp 84), (some (77, true)), true⟩,
 ⟨(some 86), .bin .eql (.tmp 85) (.av (.val (.int .i64 2))), (some (77, true)), true⟩,
 ⟨(some 87), .pick (.tmp 77) (.tmp 86) (.av (.val (.bool false))), none, true⟩])
 (.cond (.tmp 87)
 (.ops [⟨(some 88), .mv (.tmp 0), none, true⟩,
 ⟨(some 89), .nilCheck (.tmp 88), none, true⟩,
 ⟨(some 90), .fieldAddr 1 (.tmp 89), none, true⟩,
 ⟨(some 91), .load none (.tmp 90), none, true⟩,
 ⟨(some 92), .mv (.tmp 10), none, true⟩,
 ⟨(some 93), .indexAddr 3 (.tmp 91) (.tmp 92), none, true⟩,
 ⟨(some 94), .fieldAddr 0 (.tmp 93), none, true⟩,
 ⟨(some 95), .load none (.tmp 94), none, true⟩,
 ⟨(some 96), .mv (.tmp 11), none, true⟩,
 ⟨(some 97), .indexAddr 1 (.tmp 95) (.tmp 96), none, true⟩,
 ⟨none, .store 1 (.tmp 97) (.av (.val (.int .i64 (-1)))), none, true⟩])
 (.skip)))))))))
 c_cT2
theorem c_ge_collect_cut : c_ge_collect = .seq (.ops [⟨(some 6), .mv (.av (.val (.int .i64 0))), none, true⟩])
 (.seq (.ops [⟨(some 7), .mv (.av (.val (.int .i64 0))), none, true⟩])
 (.seq (.seq (.ops [⟨(some 13), .mv (.tmp 0), none, true⟩,
 ⟨(some 14), .nilCheck (.tmp 13), none, true⟩,
 ⟨(some 15), .fieldAddr 1 (.tmp 14), none, true⟩,
 ⟨(some 16), .load none (.tmp 15), none, true⟩,
 ⟨(some 17), .len (.tmp 16), none, true⟩,
 ⟨(some 18), .mv (.av (.val (.int .i64 0))), none, true⟩])
 (rangeCode 0 1 19 18 17 52
 (.seq (.ops [⟨(some 20), .mv (.tmp 18), none, true⟩,
 ⟨(some 8), .mv (.tmp 20), none, true⟩])
 (.seq (.ops [⟨(some 21), .mv (.tmp 0), none, true⟩,
 ⟨(some 22), .nilCheck (.tmp 21), none, true⟩,
 ⟨(some 23), .fieldAddr 1 (.tmp 22), none, true⟩,
 ⟨(some 24), .load none (.tmp 23), none, true⟩,
 ⟨(some 25), .mv (.tmp 8), none, true⟩,
 ⟨(some 26), .indexAddr 3 (.tmp 24) (.tmp 25), none, true⟩,
 ⟨(some 9), .mv (.tmp 26), none, true⟩])
 (.seq (.seq (.ops [⟨(some 27), .mv (.tmp 2), none, true⟩,
 ⟨(some 28), .mv (.tmp 9), none, true⟩,
 ⟨(some 29), .nilCheck (.tmp 28), none, true⟩,
 ⟨(some 30), .fieldAddr 1 (.tmp 29), none, true⟩,
 ⟨(some 31), .load none (.tmp 30), none, true⟩,
 ⟨(some 32), .call (.av (.func 38 [])) [(.tmp 27), (.tmp 31)], none, true⟩,
 ⟨(some 33), .un .not (.tmp 32), none, true⟩])
 (.cond (.tmp 33)
 (.exit 1)
 (.skip)))
 (.seq (.ops [⟨(some 34), .mv (.tmp 9), none, true⟩,
 ⟨(some 35), .nilCheck (.tmp 34), none, true⟩,
 ⟨(some 36), .fieldAddr 1 (.tmp 35), none, true⟩,
 ⟨none, .store 1 (.tmp 36) (.av (.val (.int .i64 1))), none, true⟩])
 (.seq (.ops [⟨(some 37), .mv (.tmp 1), none, true⟩,
 ⟨(some 38), .mv (.tmp 8), none, true⟩,
 ⟨(some 39), .indexAddr 1 (.tmp 37) (.tmp 38), none, true⟩,
 ⟨(some 40), .load none (.tmp 39), none, true⟩,
 ⟨(some 41), .un .not (.tmp 40), none, true⟩])
 (.cond (.tmp 41)
 (.seq (.ops [⟨(some 42), .mv (.tmp 9), none, true⟩,
 ⟨(some 43), .build [(.val (.slice none 0 0)), (.val (.int .i64 0)), (.val (.bool false))] [(1, 1, (.av (.val (.int .i64 2))))], none, true⟩,
 ⟨(some 44), .nilCheck (.tmp 42), none, true⟩,
 ⟨none, .store 3 (.tmp 44) (.tmp 43), none, true⟩])
 (.seq (.ops [⟨(some 45), .mv (.tmp 0), none, true⟩,
 ⟨(some 46), .nilCheck (.tmp 45), none, true⟩,
 ⟨(some 47), .fieldAddr 2 (.tmp 46), none, true⟩,
 ⟨(some 48), .load none (.tmp 47), none, true⟩,
 ⟨(some 49), .mv (.tmp 8), none, true⟩,
 ⟨none, .mapDel (.tmp 48) (.tmp 49), none, true⟩])
 (.ops [⟨(some 50), .mv (.tmp 7), none, true⟩,
 ⟨(some 51), .bin .add (.tmp 50) (.av (.val (.int .i64 1))), none, true⟩,
 ⟨(some 7), .mv (.tmp 51), none, true⟩])))
 (.skip)))))))))
 c_cT1)) := rfl
theorem t_stA (h : GeAt U H p t g m nu T R) (hL : L t = true) {n : Nat} {x : TB} (hx : T[n]? = some x) : stZ L H [.fz 1 false [], Z64 2, ZBo false] (.eptr t g n 0) = some (thH H t g (T.set n goneX)) := by
  rw [st_eptr]
  refine ⟨3, _, eT x, h.arr, by rw [List.getElem?_map, hx]; rfl, hL, by simp [eT], ?_⟩
  unfold thH; rw [List.map_set]; rfl
/-! ### The second loop: places of those that are gone -/
def cutY (T : List TB) (y : Int) : Int := if 0 ≤ y ∧ ((T[y.toNat]?).map (·.2.2.1)).getD 0 = 2 then -1 else y
def cutX (T : List TB) (x : TB) : TB := (x.1, x.2.1.map (cutY T), x.2.2)
def colT (ages : List Int) (sb : List Bool) (T : List TB) : List TB := (colTo ages sb T T.length).map (cutX (colTo ages sb T T.length))
def cutTo (T1 : List TB) (k : Nat) : List TB := (T1.take k).map (cutX T1) ++ T1.drop k
theorem cutTo_len {T1 : List TB} {k : Nat} : (cutTo T1 k).length = T1.length := by unfold cutTo; simp; omega
theorem cutTo_at {T1 : List TB} {k : Nat} (hk : k < T1.length) : (cutTo T1 k)[k]? = T1[k]? := by
  unfold cutTo
  rw [List.getElem?_append_right (by simp; omega)]
  simp [Nat.min_eq_left (Nat.le_of_lt hk)]
theorem cutTo_next {T1 : List TB} {k : Nat} {x : TB} (hx : T1[k]? = some x) : cutTo T1 (k + 1) = (cutTo T1 k).set k (cutX T1 x) := by
  have hk := (List.getElem?_eq_some_iff.1 hx).1
  have hxe := (List.getElem?_eq_some_iff.1 hx).2
  unfold cutTo
  rw [List.take_succ_eq_append_getElem hk, List.map_append, List.set_append_right _ _ (by simp; omega), List.append_assoc, List.drop_eq_getElem_cons hk]
  simp only [List.length_map, List.length_take, Nat.min_eq_left (Nat.le_of_lt hk), Nat.sub_self, List.set_cons_zero, List.map_cons, List.map_nil, List.cons_append, List.nil_append]
  rw [hxe]
theorem cut_age {T1 : List TB} {k q : Nat} {x z : TB} {pl : List Int} (hx : T1[k]? = some x) (hz : ((cutTo T1 k).set k (x.1, pl, x.2.2))[q]? = some z) : ∃ z0, T1[q]? = some z0 ∧ z0.2.2.1 = z.2.2.1 := by
  have hk := (List.getElem?_eq_some_iff.1 hx).1
  by_cases e : k = q
  · subst e
    rw [List.getElem?_set_self (by rw [cutTo_len]; exact hk)] at hz
    injection hz with hz
    exact ⟨x, hx, by rw [← hz]⟩
  · rw [List.getElem?_set_ne e] at hz
    unfold cutTo at hz
    by_cases hq : q < k
    · rw [List.getElem?_append_left (by simp; omega), List.getElem?_map, List.getElem?_take_of_lt hq] at hz
      obtain ⟨z0, h1, h2⟩ := Option.map_eq_some_iff.1 hz
      exact ⟨z0, h1, by rw [← h2]; rfl⟩
    · rw [List.getElem?_append_right (by simp; omega), List.getElem?_drop] at hz
      have : k + (q - ((T1.take k).map (cutX T1)).length) = q := by simp; omega
      rw [this] at hz
      exact ⟨z, hz, rfl⟩
def CutI (U : Nat → Prop) (H : ZH) (p t g m : Nat) (nu : Int) (T1 : List TB) (k : Nat) (h' : ZH) : Prop := ∃ R1, GeAt U h' p t g m nu (cutTo T1 k) R1 ∧ FrG U p m H h'
def CutJ (U : Nat → Prop) (H : ZH) (p t g m : Nat) (nu : Int) (T1 : List TB) (k : Nat) (x : TB) (i : Nat) (h' : ZH) : Prop := ∃ R1, GeAt U h' p t g m nu ((cutTo T1 k).set k (x.1, (x.2.1.take i).map (cutY T1) ++ x.2.1.drop i, x.2.2)) R1 ∧ FrG U p m H h'
set_option maxHeartbeats 8000000 in
theorem cT1_z {S : ZS} {KK : AExit → ZS → ZH → Prop} {T1 : List TB} {c : Int} (h : GeAt U H p t g m nu T1 R) (hr : ∀ x ∈ T1, ∀ y ∈ x.2.1, y < (T1.length : Int)) (h0 : S 0 = .ptr p 0) (h7 : S 7 = Z64 c) (hL : ∀ i, L i = true)
    (hk : ∀ S' H', S' 6 = Z64 c → GeAt U H' p t g m nu (T1.map (cutX T1)) [] → FrG U p m H H' → KK .ret S' H') : zW (XG tb nd) (cFunc Try.prog) ⟨[(43, [(0, 1001)])], [], []⟩ L c_cT1 S H KK := by
  have hb := h.box
  have hlen := h.len
  have hTl : T1.length < 9223372036854775807 := by omega
  have hl3 := rows_len (rows_whole (ex := false) (n := T1.length) h.arr (by simp))
  rw [List.length_map] at hl3
  have HM := Lib.hid h
  have HR := Lib.hid hr
  have HK := Lib.hid hk
  have HL := Lib.hid hL
  clear h hr hk hL
  simp only [c_cT1]
  repeat' (first | (simp only [zmPack, zxPack, ne_eq, zfree, owners, Nat.reduceLT, List.contains_cons, List.contains_nil, Nat.reduceBEq, BEq.rfl, chunk, setAt, List.lookup_cons, List.lookup_nil, reduceCtorEq, Nat.reduceEqDiff, reduceIte, implies_true, forall_const, Nat.reduceMul, Nat.reduceSub, Nat.reduceAdd, Nat.reduceLeDiff, h0, hb, hl3, *]) | (simp only [zgoO, zgoG, zO_nil, zthen_normal, zgoC]) | (with_reducible apply And.intro) | (with_reducible intro _))
  clear hb hl3
  refine zW_forK [(0, .ptr p 0), (7, Z64 c)] T1.length (fun k s' h' => CutI U H p t g m nu T1 k h') (by omega) ⟨rfl, rfl, rfl, rfl, rfl, rfl⟩ rfl rfl (by repeat' (first | exact trivial | (refine ⟨rfl, ?_⟩) | (refine ⟨by simp only [zupd_at, Nat.reduceEqDiff, reduceIte]; assumption, ?_⟩))) rfl rfl (by decide) ⟨R, by unfold cutTo; simpa using HM.out, FrG.refl⟩ ?_ ?_
  · rintro k s' h' hk ⟨R1, hG, hF⟩ hi hll ⟨f0, f7, -⟩
    have hx0 : T1[k]? = some T1[k] := List.getElem?_eq_getElem hk
    obtain ⟨x, hxe⟩ : ∃ x, x = T1[k] := ⟨_, rfl⟩
    rw [← hxe] at hx0
    have hcl : (cutTo T1 k).length = T1.length := cutTo_len
    have hx := cutTo_at hk
    rw [hx0] at hx
    have hb := hG.box
    rw [hcl] at hb
    have hel := t_el hG (n := k) (by rw [hcl]; exact hk)
    rw [hcl] at hel
    have hld : ldZ h' none (.eptr t g k 0) = some (plZ x) := (t_ld hG (o := 0) hx).trans rfl
    have hmem := List.mem_of_getElem? hx
    have hmem0 := List.mem_of_getElem? hx0
    have hsm := hG.sm x hmem
    have hlz : lenZ h' (plZ x) = some x.2.1.length := by have := rows_len (hG.rows hmem); rwa [List.length_map] at this
    have hpl : x.2.1.length < 9223372036854775807 := by omega
    have hrx := HR.out x hmem0
    have HG := Lib.hid hG
    have HF := Lib.hid hF
    have HX0 := Lib.hid hx0
    have HX := Lib.hid hx
    have HRX := Lib.hid hrx
    clear hG hF hx hx0 hxe hmem hmem0 hrx
    repeat' (first | (simp only [zmPack, zxPack, ne_eq, zfree, owners, Nat.reduceLT, List.contains_cons, List.contains_nil, Nat.reduceBEq, BEq.rfl, chunk, setAt, List.lookup_cons, List.lookup_nil, reduceCtorEq, Nat.reduceEqDiff, reduceIte, implies_true, forall_const, Nat.reduceMul, Nat.reduceSub, Nat.reduceAdd, Nat.reduceLeDiff, f0, hb, hel, hld, hlz, *]) | (simp only [zgoO, zgoG, zO_nil, zthen_normal, zgoC]) | (with_reducible apply And.intro) | (with_reducible intro _))
    refine zW_forK [(0, .ptr p 0), (10, Z64 (k : Nat)), (68, plZ x)] x.2.1.length (fun i s2 h2 => CutJ U H p t g m nu T1 k x i h2) (by omega) ⟨rfl, rfl, rfl, rfl, rfl, rfl⟩ rfl rfl (by repeat' (first | exact trivial | (refine ⟨rfl, ?_⟩) | (refine ⟨by simp only [zupd_at, Nat.reduceEqDiff, reduceIte]; assumption, ?_⟩))) rfl rfl (by decide) ⟨R1, by simp only [List.take_zero, List.map_nil, List.nil_append, List.drop_zero]; rw [set_same' HX.out]; exact HG.out, HF.out⟩ ?_ ?_
    · clear hb hel hld hlz
      rintro i s2 h2 hil ⟨R2, hG2, hF2⟩ hi2 hll2 ⟨g0, g10, g68, -⟩
      obtain ⟨j, hj⟩ : ∃ j, x.1 = some j := by
        have := HG.out.pl x (List.mem_of_getElem? HX.out)
        cases hj : x.1 with
        | none => rw [hj] at this; simp only at this; rw [this] at hil; simp at hil
        | some j => exact ⟨j, rfl⟩
      have hpz : plZ x = .own j 0 0 x.2.1.length false := by obtain ⟨o, y⟩ := x; simp only at hj; subst hj; rfl
      have hck : k < (cutTo T1 k).length := by rw [cutTo_len]; exact hk
      obtain ⟨pl, hpl2⟩ : ∃ pl, pl = (x.2.1.take i).map (cutY T1) ++ x.2.1.drop i := ⟨_, rfl⟩
      have hpll : pl.length = x.2.1.length := by rw [hpl2]; simp; omega
      rw [← hpl2] at hG2
      obtain ⟨TT, hTT⟩ : ∃ TT, TT = (cutTo T1 k).set k (x.1, pl, x.2.2) := ⟨_, rfl⟩
      rw [← hTT] at hG2
      have hTl2 : TT.length = T1.length := by rw [hTT, List.length_set, cutTo_len]
      have hTk : TT[k]? = some (x.1, pl, x.2.2) := by rw [hTT, List.getElem?_set_self hck]
      have hpb := hG2.pl _ (List.mem_of_getElem? hTk)
      simp only [hj] at hpb
      have hb := hG2.box
      rw [hTl2] at hb
      have hy : pl[i]? = some x.2.1[i] := by
        rw [hpl2, List.getElem?_append_right (by simp; omega), List.getElem?_drop]
        simp [Nat.min_eq_left (Nat.le_of_lt hil)]
      obtain ⟨y, hye⟩ : ∃ y, y = x.2.1[i] := ⟨_, rfl⟩
      rw [← hye] at hy
      have hyr := HRX.out y (by rw [hye]; exact List.getElem_mem hil)
      have e1 : elemZ h2 1 i (plZ x) = some (.eptr j 0 i 0) := by rw [hpz, ← hpll]; exact p_el hpb.2 (by rw [hpll]; exact hil)
      have e2 := p_ld hpb.2 hy
      have e3 := p_st (b := -1) hpb.2 (by rw [hpll]; exact hil) (HL.out j)
      have hnext : ∀ v, v = cutY T1 y → pl.set i v = (x.2.1.take (i + 1)).map (cutY T1) ++ x.2.1.drop (i + 1) := fun v hv => by
        rw [hpl2, List.set_append_right _ _ (by simp; omega), List.take_succ_eq_append_getElem hil, List.map_append, List.append_assoc, List.drop_eq_getElem_cons hil]
        simp only [List.length_map, List.length_take, Nat.min_eq_left (Nat.le_of_lt hil), Nat.sub_self, List.set_cons_zero, List.map_cons, List.map_nil, List.cons_append, List.nil_append]
        rw [hv, hye]
      have hplc := hG2.place hTk hj (pl' := pl.set i (-1)) (by simp)
      have fin1 : cutY T1 y = -1 → CutJ U H p t g m nu T1 k x (i + 1) (h2.set j (.grow 0 1 ((pl.set i (-1)).map eI))) := fun hc => by
        refine ⟨R2, ?_, hF2.trans (FrG.grow hpb.2 (.inr ⟨rfl, fun e => by
          have e2 := congrArg List.length e
          rw [List.length_map] at e2
          simp only [List.length_nil] at e2; omega⟩) (hG2.un.2.2.2 _ (List.mem_of_getElem? hTk) j hj))⟩
        rw [← hnext (-1) hc.symm]
        rw [hTT, List.set_set] at hplc
        exact hplc
      have fin2 : cutY T1 y = y → CutJ U H p t g m nu T1 k x (i + 1) h2 := fun hc => by
        refine ⟨R2, ?_, hF2⟩
        rw [← hnext y hc.symm, set_same' hy, ← hTT]; exact hG2
      have F1 := Lib.hid fin1
      have F2 := Lib.hid fin2
      have ha2 : ∀ (q : Nat) (z : TB), TT[q]? = some z → ∃ z0, T1[q]? = some z0 ∧ z0.2.2.1 = z.2.2.1 := fun q z hz => by
        rw [hTT] at hz
        exact cut_age HX0.out hz
      by_cases h00 : 0 ≤ y
      · obtain ⟨q, rfl⟩ := Int.eq_ofNat_of_zero_le h00
        have hq : q < TT.length := by rw [hTl2]; omega
        have hz : TT[q]? = some TT[q] := List.getElem?_eq_getElem hq
        obtain ⟨z0, hz0, hza⟩ := ha2 q _ hz
        have eq1 := t_el hG2 hq
        rw [hTl2] at eq1
        have eq2 : ldZ h2 none (.eptr t g q 1) = some (Z64 z0.2.2.1) := (t_ld hG2 (o := 1) hz).trans (by rw [hza]; rfl)
        have eq3 := t_el hG2 (n := k) (by rw [hTl2]; exact hk)
        rw [hTl2] at eq3
        have eq4 : ldZ h2 none (.eptr t g k 0) = some (plZ x) := (t_ld hG2 (o := 0) hTk).trans (by simp only [eT, plZ]; obtain ⟨o, y⟩ := x; simp only at hj hpll ⊢; subst hj; simp only [hpll]; rfl)
        have hcy : cutY T1 (q : Int) = if z0.2.2.1 = 2 then -1 else (q : Int) := by unfold cutY; rw [Int.toNat_natCast, hz0]; simp
        obtain ⟨ag, hag⟩ : ∃ ag, ag = z0.2.2.1 := ⟨_, rfl⟩
        rw [← hag] at eq2 hcy
        clear hpb hG2 hF2 hj hpz hck hpl2 hpll hTT hTl2 hTk hye hyr hnext hplc fin1 fin2 ha2 hz hz0 hza hag hq
        by_cases hc2 : ag = 2
        · have fin := F1.out (by rw [hcy, if_pos hc2])
          repeat' (first | (simp only [zmPack, zxPack, ne_eq, zfree, owners, Nat.reduceLT, List.contains_cons, List.contains_nil, Nat.reduceBEq, BEq.rfl, chunk, setAt, List.lookup_cons, List.lookup_nil, reduceCtorEq, Nat.reduceEqDiff, reduceIte, implies_true, forall_const, Nat.reduceMul, Nat.reduceSub, Nat.reduceAdd, Nat.reduceLeDiff, g0, g10, g68, hb, e1, e2, e3, eq1, eq2, eq3, eq4, h00, hc2, *]) | (simp only [zgoO, zgoG, zO_nil, zthen_normal, zgoC]) | (with_reducible apply And.intro) | (with_reducible intro _))
        · have fin := F2.out (by rw [hcy, if_neg hc2])
          repeat' (first | (simp only [zmPack, zxPack, ne_eq, zfree, owners, Nat.reduceLT, List.contains_cons, List.contains_nil, Nat.reduceBEq, BEq.rfl, chunk, setAt, List.lookup_cons, List.lookup_nil, reduceCtorEq, Nat.reduceEqDiff, reduceIte, implies_true, forall_const, Nat.reduceMul, Nat.reduceSub, Nat.reduceAdd, Nat.reduceLeDiff, g0, g10, g68, hb, e1, e2, eq1, eq2, h00, hc2, *]) | (simp only [zgoO, zgoG, zO_nil, zthen_normal, zgoC]) | (with_reducible apply And.intro) | (with_reducible intro _))
      · have fin := F2.out (by unfold cutY; rw [if_neg (fun q => h00 q.1)])
        clear hpb hG2 hF2 hj hpz hck hpl2 hpll hTT hTl2 hTk hye hyr hnext hplc fin1 fin2 ha2
        repeat' (first | (simp only [zmPack, zxPack, ne_eq, zfree, owners, Nat.reduceLT, List.contains_cons, List.contains_nil, Nat.reduceBEq, BEq.rfl, chunk, setAt, List.lookup_cons, List.lookup_nil, reduceCtorEq, Nat.reduceEqDiff, reduceIte, implies_true, forall_const, Nat.reduceMul, Nat.reduceSub, Nat.reduceAdd, Nat.reduceLeDiff, g0, g10, g68, hb, e1, e2, h00, *]) | (simp only [zgoO, zgoG, zO_nil, zthen_normal, zgoC]) | (with_reducible apply And.intro) | (with_reducible intro _))
    · rintro s2 h2 ⟨R2, hG2, hF2⟩ ⟨g0, g10, g68, -⟩
      rw [List.take_of_length_le (Nat.le_refl _), List.drop_of_length_le (Nat.le_refl _), List.append_nil] at hG2
      refine ⟨R2, ?_, hF2⟩
      rw [cutTo_next HX0.out]; exact hG2
  · rintro s' h' ⟨R1, hG, hF⟩ ⟨f0, f7, -⟩
    have hT : cutTo T1 T1.length = T1.map (cutX T1) := by unfold cutTo; rw [List.take_of_length_le (Nat.le_refl _), List.drop_of_length_le (Nat.le_refl _), List.append_nil]
    have hb := hG.box
    rw [cutTo_len] at hb
    have hm := hG.rem
    have hlm : L m = true := HL.out m
    rw [hT] at hG
    have hput := hG.put (R' := [])
    have fin := HK.out
    have F := Lib.hid fin
    have hfr := hF.trans (FrG.map (p := p) (m := m) (B := .box ((rE []).map ent)) hm hG.un.2.1)
    have HP := Lib.hid hput
    have HFR := Lib.hid hfr
    clear hG hF hT hput hfr fin
    simp only [c_cT2]
    repeat' (first | (simp only [zmPack, zxPack, ne_eq, zfree, owners, Nat.reduceLT, List.contains_cons, List.contains_nil, Nat.reduceBEq, BEq.rfl, chunk, setAt, List.lookup_cons, List.lookup_nil, reduceCtorEq, Nat.reduceEqDiff, reduceIte, implies_true, forall_const, Nat.reduceMul, Nat.reduceSub, Nat.reduceAdd, Nat.reduceLeDiff, f0, f7, hb, hm, hlm, z_mapClear, ZV.mp.injEq, *]) | (simp only [zgoO, zgoG, zO_nil, zthen_normal, zgoC]) | (with_reducible apply And.intro) | (with_reducible intro _))
    · exact ⟨_, rfl⟩
    · exact F.out _ _ (by simp [zupd]) HP.out HFR.out
theorem mem_zip {α β γ : Type} {f : α → β → γ} {c : γ} : ∀ {l : List α} {l2 : List β}, c ∈ l.zipWith f l2 → ∃ a b, a ∈ l ∧ c = f a b
  | [], _, h => by simp at h
  | _ :: _, [], h => by simp at h
  | x :: l, y :: l2, h => by
    rw [List.zipWith_cons_cons] at h
    rcases List.mem_cons.1 h with h | h
    · exact ⟨x, y, by simp, h⟩
    · obtain ⟨a, b, h1, h2⟩ := mem_zip h
      exact ⟨a, b, by simp [h1], h2⟩
def ColI (U : Nat → Prop) (H : ZH) (p t g m : Nat) (nu : Int) (T : List TB) (ages : List Int) (sb : List Bool) (k : Nat) (s' : ZS) (h' : ZH) : Prop := s' 7 = Z64 (cntTo ages sb T k) ∧ ∃ R1, GeAt U h' p t g m nu (colTo ages sb T k) R1 ∧ FrG U p m H h'
set_option maxHeartbeats 8000000 in
theorem collect_z {ex ex2 : Bool} (h : GeAt U H p t g m nu T R) (hr : Rng T) (hs : sb.length = T.length) (ha : ages.length ≤ 1000) (hL : ∀ i, L i = true) (hK : ∀ H', GeAt U H' p t g m nu (colT ages sb T) [] → FrG U p m H H' → K (Z64 (cntTo ages sb T T.length)) H') :
    ZC (XG tb nd) (cFunc Try.prog) 31 [.ptr p 0, .fz 1 ex (sb.map eB), .fz 1 ex2 (ages.map eI)] L H K := by
  refine ZC.enter ⟨[(43, [(0, 1001)])], [], []⟩ constX_none f_ge_collect (by simp) ?_
  simp only [c_ge_collect_cut]
  have hb := h.box
  have hlen := h.len
  have hTl : T.length < 9223372036854775807 := by omega
  have hl3 := rows_len (rows_whole (ex := false) (n := T.length) h.arr (by simp))
  rw [List.length_map] at hl3
  have HM := Lib.hid h
  have HR := Lib.hid hr
  have HS := Lib.hid hs
  have HK := Lib.hid hK
  have HL := Lib.hid hL
  clear h hr hs hK hL
  repeat' (first | (simp only [zmPack, zxPack, ne_eq, zfree, owners, Nat.reduceLT, List.contains_cons, List.contains_nil, Nat.reduceBEq, BEq.rfl, chunk, setAt, List.lookup_cons, List.lookup_nil, reduceCtorEq, Nat.reduceEqDiff, reduceIte, implies_true, forall_const, Nat.reduceMul, Nat.reduceSub, Nat.reduceAdd, Nat.reduceLeDiff, hb, hl3, *]) | (simp only [zgoO, zgoG, zO_nil, zthen_normal, zgoC]) | (with_reducible apply And.intro) | (with_reducible intro _))
  clear hb hl3
  refine zW_forK [(0, .ptr p 0), (1, .fz 1 ex (sb.map eB)), (2, .fz 1 ex2 (ages.map eI))] T.length (fun k s' h' => ColI U H p t g m nu T ages sb k s' h') (by omega) ⟨rfl, rfl, rfl, rfl, rfl, rfl⟩ rfl rfl (by repeat' (first | exact trivial | (refine ⟨rfl, ?_⟩) | (refine ⟨by simp only [zupd_at, Nat.reduceEqDiff, reduceIte]; assumption, ?_⟩))) rfl rfl (by decide) ⟨by simp [zupd, cntTo], R, by unfold colTo; simpa using HM.out, FrG.refl⟩ ?_ ?_
  · rintro k s' h' hk ⟨f7, R1, hG, hF⟩ hi hll ⟨f0, f1, f2, -⟩
    have hcl := colTo_len (ages := ages) HS.out (k := k)
    have hx0 : T[k]? = some T[k] := List.getElem?_eq_getElem hk
    have hx := colTo_at (ages := ages) HS.out hk
    rw [hx0] at hx
    have hks : k < sb.length := by rw [HS.out]; exact hk
    have hc : sb[k]? = some sb[k] := List.getElem?_eq_getElem hks
    obtain ⟨x, hxe⟩ : ∃ x, x = T[k] := ⟨_, rfl⟩
    obtain ⟨b, hbe⟩ : ∃ b, b = sb[k] := ⟨_, rfl⟩
    rw [← hxe] at hx hx0
    rw [← hbe] at hc
    have hnx := colTo_next (ages := ages) HS.out hx0 hc
    have hcn := cntTo_next (ages := ages) hx0 hc
    have hcle := cntTo_le (ages := ages) (sb := sb) (T := T) (k := k)
    have hb := hG.box
    rw [hcl] at hb
    have hel := t_el hG (n := k) (by rw [hcl]; exact hk)
    rw [hcl] at hel
    have hld : ldZ h' none (.eptr t g k 1) = some (Z64 x.2.2.1) := (t_ld hG (o := 1) hx).trans rfl
    have hst := t_sta hG (HL.out t) hx 1
    have hA := hG.setT (y := ageX x) hx (.inr rfl)
    have hAx : ((colTo ages sb T k).set k (ageX x))[k]? = some (ageX x) := List.getElem?_set_self (by rw [hcl]; exact hk)
    obtain ⟨TA, hTA⟩ : ∃ TA, TA = (colTo ages sb T k).set k (ageX x) := ⟨_, rfl⟩
    have hst : stZ L h' [Z64 1] (.eptr t g k 1) = some (thH h' t g TA) := by rw [hTA]; exact hst
    rw [← hTA] at hA hAx
    obtain ⟨HA, hHA⟩ : ∃ HA, HA = thH h' t g TA := ⟨_, rfl⟩
    rw [← hHA] at hA hst
    have frA : FrG U p m H HA := by rw [hHA]; exact hF.trans hG.frT
    have hbA := hA.box
    rw [show TA.length = T.length by rw [hTA, List.length_set, hcl]] at hbA
    have hstG := t_stA hA (HL.out t) hAx
    have hGn := hA.setT (y := goneX) hAx (.inl ⟨rfl, rfl⟩)
    obtain ⟨TG, hTG⟩ : ∃ TG, TG = TA.set k goneX := ⟨_, rfl⟩
    rw [← hTG] at hstG hGn
    obtain ⟨HG, hHG⟩ : ∃ HG, HG = thH HA t g TG := ⟨_, rfl⟩
    rw [← hHG] at hstG hGn
    have frG : FrG U p m H HG := by rw [hHG]; exact frA.trans hA.frT
    have hbG := hGn.box
    rw [show TG.length = T.length by rw [hTG, hTA, List.length_set, List.length_set, hcl]] at hbG
    have hmG := hGn.rem
    obtain ⟨R2, hR2⟩ := zmdel_rE (n := (k : Int)) (R := R1)
    have hlm : L m = true := HL.out m
    have hTG2 : TG = (colTo ages sb T k).set k goneX := by rw [hTG, hTA, List.set_set]
    have fin1 : ¬ (x.2.2.1 ∈ ages) → cntTo ages sb T (k + 1) = cntTo ages sb T k ∧ ∃ R1, GeAt U h' p t g m nu (colTo ages sb T (k + 1)) R1 ∧ FrG U p m H h' := fun hc => by
      refine ⟨by rw [hcn, if_neg (fun q => hc q.1), Nat.add_zero], R1, ?_, hF⟩
      rw [hnx]; unfold colX; rw [if_neg hc, set_same' hx]; exact hG
    have fin2 : x.2.2.1 ∈ ages → b = true → cntTo ages sb T (k + 1) = cntTo ages sb T k ∧ ∃ R1, GeAt U HA p t g m nu (colTo ages sb T (k + 1)) R1 ∧ FrG U p m H HA := fun hc hb => by
      refine ⟨by rw [hcn, if_neg (fun q => by rw [hb] at q; cases q.2), Nat.add_zero], R1, ?_, frA⟩
      rw [hnx]; unfold colX; rw [if_pos hc, if_pos hb, ← hTA]; exact hA
    have fin3 : x.2.2.1 ∈ ages → b = false → cntTo ages sb T (k + 1) = cntTo ages sb T k + 1 ∧ ∃ R1, GeAt U (HG.set m (.box ((rE R2).map ent))) p t g m nu (colTo ages sb T (k + 1)) R1 ∧ FrG U p m H (HG.set m (.box ((rE R2).map ent))) := fun hc hb => by
      refine ⟨by rw [hcn, if_pos ⟨hc, hb⟩], R2, ?_, frG.trans (FrG.map hGn.rem hGn.un.2.1)⟩
      rw [hnx]; unfold colX; rw [if_pos hc, if_neg (by rw [hb]; simp), ← hTG2]; exact hGn.put
    have H1 := Lib.hid fin1
    have H2 := Lib.hid fin2
    have H3 := Lib.hid fin3
    obtain ⟨ag, hag⟩ : ∃ ag, ag = x.2.2.1 := ⟨_, rfl⟩
    rw [← hag] at hld H1 H2 H3
    obtain ⟨cn, hcne⟩ : ∃ cn, cn = cntTo ages sb T k := ⟨_, rfl⟩
    rw [← hcne] at f7 hcle H1 H2 H3
    have hoc : ∀ W : ZH, ownCells [(0, 1001)] [.val (.slice none 0 0), Z64 2, ZBo false] W = some ([.fz 1 false [], Z64 2, ZBo false], W) := fun W => by simp [ownCells]
    have hadd : IntKind.i64.wrap ((cn : Int) + 1) = ((cn + 1 : Nat) : Int) := by rw [IntWalk.i64_in _ (by omega)]; omega
    clear hG hF hx0 hx hcl hxe hbe hnx hcn hA hAx hTA hHA frA hGn hTG hHG frG hTG2 fin1 fin2 fin3 hag hcne hcle
    repeat' (first | (simp only [zmPack, zxPack, ne_eq, zfree, owners, Nat.reduceLT, List.contains_cons, List.contains_nil, Nat.reduceBEq, BEq.rfl, chunk, setAt, List.lookup_cons, List.lookup_nil, reduceCtorEq, Nat.reduceEqDiff, reduceIte, implies_true, forall_const, Nat.reduceMul, Nat.reduceSub, Nat.reduceAdd, Nat.reduceLeDiff, f0, f2, hb, hel, hld, *]) | (simp only [zgoO, zgoG, zO_nil, zthen_normal, zgoC]) | (with_reducible apply And.intro) | (with_reducible intro _))
    refine contains_z ha ?_
    by_cases hca : ag ∈ ages
    · rw [decide_eq_true hca]
      cases b with
      | true =>
        repeat' (first | (simp only [zmPack, zxPack, ne_eq, zfree, owners, Nat.reduceLT, List.contains_cons, List.contains_nil, Nat.reduceBEq, BEq.rfl, chunk, setAt, List.lookup_cons, List.lookup_nil, reduceCtorEq, Nat.reduceEqDiff, reduceIte, implies_true, forall_const, Nat.reduceMul, Nat.reduceSub, Nat.reduceAdd, Nat.reduceLeDiff, f1, hst, hc, hks, *]) | (simp only [zgoO, zgoG, zO_nil, zthen_normal, zgoC]) | (with_reducible apply And.intro) | (with_reducible intro _))
        obtain ⟨e1, e2⟩ := H2.out hca rfl
        exact ⟨by rw [e1]; simp [zupd, f7], e2⟩
      | false =>
        repeat' (first | (simp only [zmPack, zxPack, ne_eq, zfree, owners, Nat.reduceLT, List.contains_cons, List.contains_nil, Nat.reduceBEq, BEq.rfl, chunk, setAt, List.lookup_cons, List.lookup_nil, reduceCtorEq, Nat.reduceEqDiff, reduceIte, implies_true, forall_const, Nat.reduceMul, Nat.reduceSub, Nat.reduceAdd, Nat.reduceLeDiff, f0, f1, f7, hst, hc, hks, hstG, hbG, hmG, hR2, hlm, hadd, hoc, z_mapDel, ZV.mp.injEq, ent_eq, *]) | (simp only [zgoO, zgoG, zO_nil, zthen_normal, zgoC]) | (with_reducible apply And.intro) | (with_reducible intro _))
        obtain ⟨e1, e2⟩ := H3.out hca rfl
        exact ⟨by rw [e1]; simp [zupd], e2⟩
    · rw [decide_eq_false hca]
      repeat' (first | (simp only [zmPack, zxPack, ne_eq, zfree, owners, Nat.reduceLT, List.contains_cons, List.contains_nil, Nat.reduceBEq, BEq.rfl, chunk, setAt, List.lookup_cons, List.lookup_nil, reduceCtorEq, Nat.reduceEqDiff, reduceIte, implies_true, forall_const, Nat.reduceMul, Nat.reduceSub, Nat.reduceAdd, Nat.reduceLeDiff, *]) | (simp only [zgoO, zgoG, zO_nil, zthen_normal, zgoC]) | (with_reducible apply And.intro) | (with_reducible intro _))
      obtain ⟨e1, e2⟩ := H1.out hca
      exact ⟨by rw [e1]; simp [zupd, f7], e2⟩
  · rintro s' h' ⟨f7, R1, hG, hF⟩ ⟨f0, f1, f2, -⟩
    refine cT1_z hG (fun x hx y hy => ?_) f0 f7 HL.out fun S' H' h6 hG' hF' => ?_
    · rw [colTo_len HS.out]
      unfold colTo at hx
      rw [List.drop_of_length_le (Nat.le_refl _), List.append_nil, List.take_of_length_le (Nat.le_refl _)] at hx
      obtain ⟨a, b, hab, rfl⟩ := mem_zip hx
      unfold colX at hy
      split at hy
      · split at hy
        · exact HR.out.rng a hab y hy
        · simp at hy
      · exact HR.out.rng a hab y hy
    · show _ ∧ Fin H (S' 6) H' K
      rw [h6]
      exact ⟨.inr rfl, Fin.keep (HK.out H' hG' (hF.trans hF'))⟩
end Go.Proofs.Ytblgljahhhdlhaa

namespace Go.Proofs.Ytblgljahhhdlhaa
open Go Go.RowKit
set_option linter.unusedVariables false
set_option linter.unusedSimpArgs false
variable {U : Nat → Prop}
variable {tb : List (FuncId × Bool)} {nd : Bool} {L : Nat → Bool} {H : ZH} {K : ZV → ZH → Prop} {p t g m : Nat} {nu : Int} {T : List TB} {R : List Int}
def seeG (T : List TB) (st : List Bool × List Int) (x : Int) : List Bool × List Int := if yngB T x = true ∧ st.1.getD x.toNat false = false then (st.1.set x.toNat true, st.2 ++ [x]) else st
def reachG (T : List TB) (st : List Bool × List Int) (l : List Int) : List Bool × List Int := l.foldl (seeG T) st
theorem reachG_next {st : List Bool × List Int} {l : List Int} {k : Nat} (hk : k < l.length) : reachG T st (l.take (k + 1)) = seeG T (reachG T st (l.take k)) l[k] := by
  unfold reachG; rw [List.take_succ_eq_append_getElem hk, List.foldl_append]; rfl
theorem yng_nat {x : Int} (h : yngB T x = true) : ∃ q : Nat, x = q ∧ q < T.length ∧ (ageB T 0).getD q false = true := by
  unfold yngB at h
  simp only [Bool.and_eq_true, decide_eq_true_eq] at h
  obtain ⟨q, rfl⟩ := Int.eq_ofNat_of_zero_le h.1
  rw [Int.toNat_natCast] at h
  refine ⟨q, rfl, ?_, h.2⟩
  have := h.2
  rw [List.getD_eq_getElem?_getD] at this
  rcases Nat.lt_or_ge q (ageB T 0).length with h3 | h3
  · simpa [ageB] using h3
  · rw [List.getElem?_eq_none h3] at this; cases this
def MiS (H : ZH) (p n : Nat) (W : ZH) (st : List Bool × List Int) : Prop := ∃ g off rows X, W = H ++ (.box [.ptr p 0] :: .grow 0 1 (st.1.map eB) :: .box [.own (H.length + 1) 0 0 n true] :: .box [.own (H.length + 4) g off st.2.length false] :: .grow g 1 rows :: X) ∧ st.1.length = n ∧ off + st.2.length ≤ rows.length ∧ (rows.drop off).take st.2.length = st.2.map eI ∧ st.2.length ≤ 10000
theorem reachG_len {st : List Bool × List Int} : ∀ {l : List Int}, (reachG T st l).1.length = st.1.length
  | [] => rfl
  | x :: l => by
    show (reachG T (seeG T st x) l).1.length = _
    rw [reachG_len]
    unfold seeG
    split <;> simp
def falseN (l : List Bool) : Nat := l.countP fun b => !b
theorem false_set {l : List Bool} {q : Nat} (hq : q < l.length) (h : l.getD q false = false) : falseN (l.set q true) + 1 = falseN l := by
  induction l generalizing q with
  | nil => simp at hq
  | cons a l ih =>
    cases q with
    | zero =>
      simp at h; subst h
      simp [falseN]
    | succ q =>
      simp only [List.length_cons] at hq
      have := ih (q := q) (by omega) (by simpa using h)
      simp only [falseN, List.set_cons_succ, List.countP_cons] at this ⊢
      omega
theorem seeG_sum {st : List Bool × List Int} {x : Int} (hs : st.1.length = T.length) : falseN (seeG T st x).1 + (seeG T st x).2.length = falseN st.1 + st.2.length := by
  unfold seeG
  split
  · rename_i hc
    obtain ⟨q, rfl, hq, _⟩ := yng_nat hc.1
    have := false_set (l := st.1) (q := q) (by omega) (by simpa using hc.2)
    simp only [Int.toNat_natCast, List.length_append, List.length_cons, List.length_nil]
    omega
  · rfl
theorem reachG_sum {st : List Bool × List Int} (hs : st.1.length = T.length) : ∀ {l : List Int}, falseN (reachG T st l).1 + (reachG T st l).2.length = falseN st.1 + st.2.length := fun {l} => by
  induction l generalizing st with
  | nil => rfl
  | cons x l ih =>
    show falseN (reachG T (seeG T st x) l).1 + (reachG T (seeG T st x) l).2.length = _
    rw [ih (by rw [show (seeG T st x) = reachG T st [x] from rfl, reachG_len]; exact hs), seeG_sum hs]
set_option maxHeartbeats 8000000 in
theorem minora_z {z : ZV} {l : List Int} {W : ZH} {st : List Bool × List Int} (h : GeAt U H p t g m nu T R) (hW : MiS H p T.length W st) (hst : falseN st.1 + st.2.length ≤ 9000) (hz : ∀ Y, rowsZ (H ++ Y) 1 z = some (l.map eI)) (hl : ∀ y ∈ l, y < (T.length : Int)) (hll : l.length ≤ 1000)
    (l1 : L (H.length + 1) = true) (l3 : L (H.length + 3) = true) (l4 : L (H.length + 4) = true) (hK : ∀ W', MiS H p T.length W' (reachG T st l) → K .no W') :
    ZC (XG tb nd) (cFunc Try.prog) 30 [z, .ptr H.length 0, .ptr (H.length + 2) 0, .ptr (H.length + 3) 0] L W K := by
  refine ZC.enter Gh.no constX_none f_ge_minora (by simp) ?_
  simp only [c_ge_minora]
  have HG := Lib.hid h
  have HW := Lib.hid hW
  have HZ := Lib.hid hz
  have HLL := Lib.hid hl
  have HK := Lib.hid hK
  have HST := Lib.hid hst
  have hzl : lenZ W z = some l.length := by
    obtain ⟨g', off, rows, X, rfl, -⟩ := hW
    have := rows_len (hz (.box [.ptr p 0] :: .grow 0 1 (st.1.map eB) :: .box [.own (H.length + 1) 0 0 T.length true] :: .box [.own (H.length + 4) g' off st.2.length false] :: .grow g' 1 rows :: X)); rwa [List.length_map] at this
  have hsl : st.1.length = T.length := by obtain ⟨g', off, rows, X, -, h2, -⟩ := hW; exact h2
  have HSL := Lib.hid hsl
  have hll2 : l.length < 9223372036854775807 := by omega
  clear h hW hz hl hK hst hsl
  have a0 : ∀ A Y, (H ++ (A :: Y))[H.length]? = some A := fun A Y => atN0 rfl A Y
  have a1 : ∀ A B Y, (H ++ (A :: B :: Y))[H.length + 1]? = some B := fun A B Y => atN1 rfl A B Y
  have a2 : ∀ A B C Y, (H ++ (A :: B :: C :: Y))[H.length + 2]? = some C := fun A B C Y => atN2 rfl A B C Y
  have a3 : ∀ A B C D Y, (H ++ (A :: B :: C :: D :: Y))[H.length + 3]? = some D := fun A B C D Y => by rw [List.getElem?_append_right (by omega), Nat.add_sub_cancel_left]; rfl
  have a4 : ∀ A B C D E Y, (H ++ (A :: B :: C :: D :: E :: Y))[H.length + 4]? = some E := fun A B C D E Y => by rw [List.getElem?_append_right (by omega), Nat.add_sub_cancel_left]; rfl
  have s1 : ∀ A B Z Y, (H ++ (A :: B :: Y)).set (H.length + 1) Z = H ++ (A :: Z :: Y) := fun A B Z Y => by rw [List.set_append_right _ _ (by omega), Nat.add_sub_cancel_left]; rfl
  have s3 : ∀ A B C D Z Y, (H ++ (A :: B :: C :: D :: Y)).set (H.length + 3) Z = H ++ (A :: B :: C :: Z :: Y) := fun A B C D Z Y => by rw [List.set_append_right _ _ (by omega), Nat.add_sub_cancel_left]; rfl
  have s4 : ∀ A B C D E Z Y, (H ++ (A :: B :: C :: D :: E :: Y)).set (H.length + 4) Z = H ++ (A :: B :: C :: D :: Z :: Y) := fun A B C D E Z Y => by rw [List.set_append_right _ _ (by omega), Nat.add_sub_cancel_left]; rfl
  repeat' (first | (simp only [zmPack, zxPack, ne_eq, zfree, owners, Nat.reduceLT, List.contains_cons, List.contains_nil, Nat.reduceBEq, BEq.rfl, chunk, setAt, List.lookup_cons, List.lookup_nil, reduceCtorEq, Nat.reduceEqDiff, reduceIte, implies_true, forall_const, Nat.reduceMul, Nat.reduceSub, Nat.reduceAdd, Nat.reduceLeDiff, hzl, *]) | (simp only [zgoO, zgoG, zO_nil, zthen_normal, zgoC]) | (with_reducible apply And.intro) | (with_reducible intro _))
  refine zW_forK [(7, z), (1, .ptr H.length 0), (2, .ptr (H.length + 2) 0), (3, .ptr (H.length + 3) 0)] l.length (fun k s' h' => MiS H p T.length h' (reachG T st (l.take k))) (by omega) ⟨rfl, rfl, rfl, rfl, rfl, rfl⟩ rfl rfl (by repeat' (first | exact trivial | (refine ⟨rfl, ?_⟩) | (refine ⟨by simp only [zupd_at, Nat.reduceEqDiff, reduceIte]; assumption, ?_⟩))) rfl rfl (by decide) (by simpa [reachG] using HW.out) ?_ ?_
  · rintro k s' h' hk ⟨g', off, rows, X, rfl, hs, ho, hr, hd⟩ hi hl3 ⟨f7, f1, f2, f3, -⟩
    have hnx := reachG_next (T := T) (st := st) hk
    obtain ⟨pp, hp, hld⟩ := rows_at (HZ.out (.box [.ptr p 0] :: .grow 0 1 ((reachG T st (l.take k)).1.map eB) :: .box [.own (H.length + 1) 0 0 T.length true] :: .box [.own (H.length + 4) g' off (reachG T st (l.take k)).2.length false] :: .grow g' 1 rows :: X)) hk
    have hsum := reachG_sum (T := T) (st := st) HSL.out (l := l.take k)
    have hxr := HLL.out l[k] (List.getElem_mem hk)
    obtain ⟨x, hx⟩ : ∃ x, x = l[k] := ⟨_, rfl⟩
    rw [← hx] at hld hnx hxr
    clear hx
    obtain ⟨⟨sb, td⟩, hsd⟩ : ∃ s, s = reachG T st (l.take k) := ⟨_, rfl⟩
    rw [← hsd] at hnx hp hld hs ho hr hsum
    rw [← hsd]
    simp only at hnx hp hld hs ho hr hsum ⊢
    have htd : td.length ≤ 9000 := by have := HST.out; omega
    have HN := Lib.hid hnx
    have HS := Lib.hid hs
    have HO := Lib.hid ho
    have HRR := Lib.hid hr
    clear hnx hs hr hsd hsum hd
    repeat' (first | (simp only [zmPack, zxPack, ne_eq, zfree, owners, Nat.reduceLT, List.contains_cons, List.contains_nil, Nat.reduceBEq, BEq.rfl, chunk, setAt, List.lookup_cons, List.lookup_nil, reduceCtorEq, Nat.reduceEqDiff, reduceIte, implies_true, forall_const, Nat.reduceMul, Nat.reduceSub, Nat.reduceAdd, Nat.reduceLeDiff, hp, hld, f1, a0, *]) | (simp only [zgoO, zgoG, zO_nil, zthen_normal, zgoC]) | (with_reducible apply And.intro) | (with_reducible intro _))
    refine isyoung_z (HG.out.ext _) hxr ?_
    by_cases hy : yngB T x = true
    · obtain ⟨q, hqx, hq, -⟩ := yng_nat hy
      have hn : natZ (Z64 x) = some q := by rw [hqx]; exact natZ_nat
      have hqs : q < sb.length := by rw [HS.out]; exact hq
      have he : ∀ Y, elemZ (H ++ (.box [.ptr p 0] :: .grow 0 1 (sb.map eB) :: Y)) 1 q (.own (H.length + 1) 0 0 T.length true) = some (.eptr (H.length + 1) 0 q 0) := fun Y => by
        rw [elem_own]; exact ⟨_, a1 _ _ _, by simp [HS.out], hq, by simp⟩
      obtain ⟨c, hc⟩ : ∃ c, sb[q]? = some c := ⟨_, List.getElem?_eq_getElem hqs⟩
      have hld2 : ∀ Y, ldZ (H ++ (.box [.ptr p 0] :: .grow 0 1 (sb.map eB) :: Y)) none (.eptr (H.length + 1) 0 q 0) = some (ZBo c) := fun Y => by
        rw [ld_eptr]; exact ⟨_, _, _, a1 _ _ _, by rw [List.getElem?_map, hc]; rfl, rfl⟩
      have hst2 : ∀ Y, stZ L (H ++ (.box [.ptr p 0] :: .grow 0 1 (sb.map eB) :: Y)) [ZBo true] (.eptr (H.length + 1) 0 q 0) = some (H ++ (.box [.ptr p 0] :: .grow 0 1 ((sb.set q true).map eB) :: Y)) := fun Y => by
        rw [st_eptr]
        refine ⟨1, _, eB c, a1 _ _ _, by rw [List.getElem?_map, hc]; rfl, l1, by simp, ?_⟩
        rw [s1, List.map_set]; rfl
      have hgd : sb.getD q false = c := by rw [List.getD_eq_getElem?_getD, hc]; rfl
      have hle : (td.length + 1) * 8 ≤ reach := by unfold reach; omega
      rw [hy]
      have hsee : seeG T (sb, td) x = if c = false then (sb.set q true, td ++ [x]) else (sb, td) := by
        unfold seeG
        simp only [hqx, Int.toNat_natCast, hgd]
        rw [← hqx]
        by_cases hcf : c = false
        · rw [if_pos ⟨hy, hcf⟩, if_pos hcf]
        · rw [if_neg (fun q => hcf q.2), if_neg hcf]
      have HSE := Lib.hid hsee
      clear hsee hgd hc hqx hy hp hld
      cases c with
      | true =>
        have fin : MiS H p T.length (H ++ (.box [.ptr p 0] :: .grow 0 1 (sb.map eB) :: .box [.own (H.length + 1) 0 0 T.length true] :: .box [.own (H.length + 4) g' off td.length false] :: .grow g' 1 rows :: X)) (reachG T st (l.take (k + 1))) := by
          rw [HN.out, HSE.out, if_neg (by simp)]
          exact ⟨g', off, rows, X, rfl, HS.out, HO.out, HRR.out, by simp only; omega⟩
        repeat' (first | (simp only [zmPack, zxPack, ne_eq, zfree, owners, Nat.reduceLT, List.contains_cons, List.contains_nil, Nat.reduceBEq, BEq.rfl, chunk, setAt, List.lookup_cons, List.lookup_nil, reduceCtorEq, Nat.reduceEqDiff, reduceIte, implies_true, forall_const, Nat.reduceMul, Nat.reduceSub, Nat.reduceAdd, Nat.reduceLeDiff, f2, hn, he, hld2, a2, *]) | (simp only [zgoO, zgoG, zO_nil, zthen_normal, zgoC]) | (with_reducible apply And.intro) | (with_reducible intro _))
      | false =>
        have fin : MiS H p T.length (H ++ (.box [.ptr p 0] :: .grow 0 1 ((sb.set q true).map eB) :: .box [.own (H.length + 1) 0 0 T.length true] :: .box [.own (H.length + 4) (g' + 1) 0 (td.length + 1) false] :: .grow (g' + 1) 1 ((rows.drop off).take td.length ++ [[Z64 x]]) :: X)) (reachG T st (l.take (k + 1))) := by
          rw [HN.out, HSE.out, if_pos rfl]
          refine ⟨g' + 1, 0, (rows.drop off).take td.length ++ [[Z64 x]], X, by simp, by simp [HS.out], by rw [HRR.out]; simp, ?_, by simp; omega⟩
          rw [HRR.out, List.drop_zero, List.take_of_length_le (by simp), List.map_append]; rfl
        have F := Lib.hid fin
        clear fin
        repeat' (first | (simp only [zmPack, zxPack, ne_eq, zfree, owners, Nat.reduceLT, List.contains_cons, List.contains_nil, Nat.reduceBEq, BEq.rfl, chunk, setAt, List.lookup_cons, List.lookup_nil, reduceCtorEq, Nat.reduceEqDiff, reduceIte, implies_true, forall_const, Nat.reduceMul, Nat.reduceSub, Nat.reduceAdd, Nat.reduceLeDiff, f2, f3, hn, he, hld2, hst2, a2, a3, a4, s3, s4, l3, l4, hle, ho, *]) | (simp only [zgoO, zgoG, zO_nil, zthen_normal, zgoC]) | (with_reducible apply And.intro) | (with_reducible intro _))
        exact F.out
    · have hy2 : yngB T x = false := by simpa using hy
      rw [hy2]
      have fin : MiS H p T.length (H ++ (.box [.ptr p 0] :: .grow 0 1 (sb.map eB) :: .box [.own (H.length + 1) 0 0 T.length true] :: .box [.own (H.length + 4) g' off td.length false] :: .grow g' 1 rows :: X)) (reachG T st (l.take (k + 1))) := by
        rw [HN.out]; unfold seeG; rw [if_neg (fun q => hy q.1)]
        exact ⟨g', off, rows, X, rfl, HS.out, HO.out, HRR.out, by simp only; omega⟩
      clear hy hy2 hp hld
      repeat' (first | (simp only [zmPack, zxPack, ne_eq, zfree, owners, Nat.reduceLT, List.contains_cons, List.contains_nil, Nat.reduceBEq, BEq.rfl, chunk, setAt, List.lookup_cons, List.lookup_nil, reduceCtorEq, Nat.reduceEqDiff, reduceIte, implies_true, forall_const, Nat.reduceMul, Nat.reduceSub, Nat.reduceAdd, Nat.reduceLeDiff, *]) | (simp only [zgoO, zgoG, zO_nil, zthen_normal, zgoC]) | (with_reducible apply And.intro) | (with_reducible intro _))
  · rintro s' h' hm2 ⟨f7, f1, f2, f3, -⟩
    rw [List.take_of_length_le (Nat.le_refl _)] at hm2
    exact ⟨.inl rfl, _, rfl, Fin.keep (HK.out _ hm2)⟩
end Go.Proofs.Ytblgljahhhdlhaa

namespace Go.Proofs.Ytblgljahhhdlhaa
open Go Go.RowKit
set_option linter.unusedVariables false
set_option linter.unusedSimpArgs false
variable {T : List TB}
structure MIv (T : List TB) (E : Nat → Prop) (st : List Bool × List Int) : Prop where
  len : st.1.length = T.length
  td : ∀ x ∈ st.2, 0 ≤ x ∧ Sn st.1 x.toNat
  yng : ∀ n, Sn st.1 n → (ageB T 0).getD n false = true
  cl : ∀ n, Sn st.1 n → (n : Int) ∉ st.2 → ¬ E n → ∀ x, T[n]? = some x → ∀ y ∈ x.2.1, yngB T y = true → Sn st.1 y.toNat
theorem snSet {sb : List Bool} {q n : Nat} (hq : q < sb.length) : Sn (sb.set q true) n ↔ Sn sb n ∨ n = q := by
  unfold Sn
  rw [List.getD_eq_getElem?_getD, List.getElem?_set, List.getD_eq_getElem?_getD]
  by_cases h : q = n
  · subst h; rw [if_pos rfl, if_pos hq]; simp
  · rw [if_neg h]; simp [Ne.symm h]
structure Grew (T : List TB) (a b : List Bool × List Int) (l : List Int) : Prop where
  sn : ∀ n, Sn a.1 n → Sn b.1 n
  td : ∀ x ∈ a.2, x ∈ b.2
  see : ∀ y ∈ l, yngB T y = true → Sn b.1 y.toNat
theorem see_inv {E : Nat → Prop} {st : List Bool × List Int} {x : Int} (h : MIv T E st) : MIv T E (seeG T st x) ∧ Grew T st (seeG T st x) [x] := by
  obtain ⟨sb, td⟩ := st
  unfold seeG
  simp only
  split
  · rename_i hc
    obtain ⟨q, rfl, hq, hy⟩ := yng_nat hc.1
    have hql : q < sb.length := by rw [show sb.length = T.length from h.len]; exact hq
    simp only [Int.toNat_natCast]
    refine ⟨⟨by simp only [List.length_set]; exact h.len, fun x hx => ?_, fun n hn => ?_, fun n hn htd hE x hx y hyx hyy => ?_⟩, ⟨fun n hn => (snSet hql).2 (.inl hn), fun x hx => List.mem_append.2 (.inl hx), fun y hy1 hyy => ?_⟩⟩
    · rcases List.mem_append.1 hx with hx | hx
      · exact ⟨(h.td x hx).1, (snSet hql).2 (.inl (h.td x hx).2)⟩
      · rw [List.mem_singleton.1 hx, Int.toNat_natCast]
        exact ⟨by omega, (snSet hql).2 (.inr rfl)⟩
    · rcases (snSet hql).1 hn with hn | rfl
      · exact h.yng n hn
      · exact hy
    · have h1 : (n : Int) ∉ td ∧ n ≠ q := ⟨fun hm => htd (List.mem_append.2 (.inl hm)), fun e => htd (by rw [e]; simp)⟩
      rcases (snSet hql).1 hn with hn | hn
      · exact (snSet hql).2 (.inl (h.cl n hn h1.1 hE x hx y hyx hyy))
      · exact absurd hn h1.2
    · rw [List.mem_singleton.1 hy1, Int.toNat_natCast]
      exact (snSet hql).2 (.inr rfl)
  · rename_i hc
    refine ⟨h, ⟨fun n hn => hn, fun x hx => hx, fun y hy1 hyy => ?_⟩⟩
    rw [List.mem_singleton.1 hy1] at hyy ⊢
    unfold Sn
    cases hs : sb.getD x.toNat false with
    | true => rfl
    | false => exact absurd ⟨hyy, hs⟩ hc
theorem reach_inv {E : Nat → Prop} : ∀ {l : List Int} {st : List Bool × List Int}, MIv T E st → MIv T E (reachG T st l) ∧ Grew T st (reachG T st l) l
  | [], st, h => ⟨h, ⟨fun _ h => h, fun _ h => h, fun y hy => by simp at hy⟩⟩
  | x :: l, st, h => by
    obtain ⟨h1, h2⟩ := see_inv (x := x) h
    obtain ⟨h3, h4⟩ := reach_inv (l := l) h1
    refine ⟨h3, ⟨fun n hn => h4.sn n (h2.sn n hn), fun y hy => h4.td y (h2.td y hy), fun y hy hyy => ?_⟩⟩
    rcases List.mem_cons.1 hy with rfl | hy
    · exact h4.sn _ (h2.see y (by simp) hyy)
    · exact h4.see y hy hyy
theorem pop_inv {sb : List Bool} {td : List Int} {x : Int} {w : TB} (h : MIv T (fun _ => False) (sb, x :: td)) (hw : T[x.toNat]? = some w) : MIv T (fun _ => False) (reachG T (sb, td) w.2.1) ∧ Grew T (sb, td) (reachG T (sb, td) w.2.1) w.2.1 := by
  have hx := h.td x (by simp)
  have h1 : MIv T (fun n => n = x.toNat) (sb, td) := ⟨h.len, fun y hy => h.td y (by simp only at hy; simp [hy]), h.yng, fun n hn htd hE z hz y hy hyy => h.cl n hn (fun hm => by
    rcases List.mem_cons.1 hm with hm | hm
    · exact hE (by omega)
    · exact htd hm) (fun q => q) z hz y hy hyy⟩
  obtain ⟨h2, h3⟩ := reach_inv (l := w.2.1) h1
  refine ⟨⟨h2.len, h2.td, h2.yng, fun n hn htd _ z hz y hy hyy => ?_⟩, h3⟩
  by_cases e : n = x.toNat
  · subst e
    rw [hw] at hz; injection hz with hz
    subst hz
    exact h3.see y hy hyy
  · exact h2.cl n hn htd e z hz y hy hyy
structure Stays (T : List TB) (R : List Int) (sb : List Bool) : Prop where
  len : sb.length = T.length
  yng : ∀ n, Sn sb n → (ageB T 0).getD n false = true
  held : ∀ (n : Nat) x, T[n]? = some x → x.2.2.2 = true → x.2.2.1 = 0 → Sn sb n
  rem : ∀ r ∈ R, ∀ x, T[r.toNat]? = some x → ∀ y ∈ x.2.1, yngB T y = true → Sn sb y.toNat
  cl : ∀ n, Sn sb n → ∀ x, T[n]? = some x → ∀ y ∈ x.2.1, yngB T y = true → Sn sb y.toNat
def st0 (T : List TB) : List Bool × List Int := (List.replicate T.length false, [])
theorem st0_inv : MIv T (fun _ => False) (st0 T) := by
  have hn : ∀ n, ¬ Sn (List.replicate T.length false) n := fun n h => by
    unfold Sn at h
    rw [List.getD_eq_getElem?_getD, List.getElem?_replicate] at h
    split at h <;> cases h
  exact ⟨by simp [st0], fun x hx => by simp [st0] at hx, fun n h => absurd h (hn n), fun n h => absurd h (hn n)⟩
theorem st0_sum : falseN (st0 T).1 + (st0 T).2.length = T.length := by simp [st0, falseN, List.countP_replicate]
structure MIa (T : List TB) (st : List Bool × List Int) : Prop where
  inv : MIv T (fun _ => False) st
  held : ∀ (n : Nat) x, T[n]? = some x → x.2.2.2 = true → x.2.2.1 = 0 → Sn st.1 n
  sum : falseN st.1 + st.2.length = T.length
theorem held_inv : ∀ (k : Nat), MIv T (fun _ => False) (reachG T (st0 T) (riseTo (heldB T) k)) ∧ falseN (reachG T (st0 T) (riseTo (heldB T) k)).1 + (reachG T (st0 T) (riseTo (heldB T) k)).2.length = T.length := fun k =>
  ⟨(reach_inv st0_inv).1, by rw [reachG_sum (by simp [st0]), st0_sum]⟩
theorem held_all : MIa T (reachG T (st0 T) (rising (heldB T))) := by
  obtain ⟨h1, h2⟩ := reach_inv (l := rising (heldB T)) (st0_inv (T := T))
  refine ⟨h1, fun n x hx hh ha => ?_, by rw [reachG_sum (by simp [st0]), st0_sum]⟩
  have hn := (List.getElem?_eq_some_iff.1 hx).1
  have hxe := (List.getElem?_eq_some_iff.1 hx).2
  have := h2.see (n : Int) (mem_rising.2 ⟨by omega, by
    rw [Int.toNat_natCast]; unfold Sn; rw [List.getD_eq_getElem?_getD]; simp [heldB, hx, hh]⟩) (by
      unfold yngB; simp [ageB, List.getD, hx, ha])
  rwa [Int.toNat_natCast] at this
end Go.Proofs.Ytblgljahhhdlhaa

namespace Go.Proofs.Ytblgljahhhdlhaa
open Go Go.RowKit
set_option linter.unusedVariables false
set_option linter.unusedSimpArgs false
variable {U : Nat → Prop}
variable {tb : List (FuncId × Bool)} {nd : Bool} {L : Nat → Bool} {H : ZH} {K : ZV → ZH → Prop} {p t g m : Nat} {nu : Int} {T : List TB} {R : List Int}
def c_mT3 : ACode := .seq (.ops [⟨(some 71), .load none (.tmp 1), none, true⟩,
 ⟨(some 72), .load none (.tmp 3), none, true⟩,
 ⟨(some 73), .lits 1 1 [(.val (.int .i64 0))] [(0, 1, (.av (.val (.int .i64 0))))], none, true⟩,
 ⟨(some 74), .call (.av (.func 31 [])) [(.tmp 71), (.tmp 72), (.tmp 73)], none, true⟩,
 ⟨(some 2), .mv (.tmp 74), none, true⟩])
 (.ret)
def c_mT4 : ACode := .seq (.block 4 (.loop (.seq (.seq (.ops [⟨(some 53), .load none (.tmp 4), none, true⟩,
 ⟨(some 54), .len (.tmp 53), none, true⟩,
 ⟨(some 55), .bin .gtr (.tmp 54) (.av (.val (.int .i64 0))), none, true⟩])
 (.cond (.tmp 55)
 (.skip)
 (.exit 4)))
 (.block 5 (.seq (.ops [⟨(some 56), .load none (.tmp 4), none, true⟩,
 ⟨(some 57), .indexAddr 1 (.tmp 56) (.av (.val (.int .i64 0))), none, true⟩,
 ⟨(some 58), .load none (.tmp 57), none, true⟩,
 ⟨(some 9), .mv (.tmp 58), none, true⟩])
 (.seq (.ops [⟨(some 59), .load none (.tmp 4), none, true⟩,
 ⟨(some 60), .slice 1 (.tmp 59) (some (.av (.val (.int .i64 1)))) none none, none, true⟩,
 ⟨none, .store 1 (.tmp 4) (.tmp 60), none, true⟩])
 (.ops [⟨(some 61), .mv (.tmp 5), none, true⟩,
 ⟨(some 62), .load none (.tmp 1), none, true⟩,
 ⟨(some 63), .nilCheck (.tmp 62), none, true⟩,
 ⟨(some 64), .fieldAddr 1 (.tmp 63), none, true⟩,
 ⟨(some 65), .load none (.tmp 64), none, true⟩,
 ⟨(some 66), .mv (.tmp 9), none, true⟩,
 ⟨(some 67), .indexAddr 3 (.tmp 65) (.tmp 66), none, true⟩,
 ⟨(some 68), .fieldAddr 0 (.tmp 67), none, true⟩,
 ⟨(some 69), .load none (.tmp 68), none, true⟩,
 ⟨(some 70), .call (.tmp 61) [(.tmp 69)], none, true⟩])))))))
 c_mT3
def c_mT2 : ACode := .seq (.rng true (.tmp 37) 38 39 40 41 2 3 [⟨(some 34), .load none (.tmp 1), none, true⟩,
 ⟨(some 35), .nilCheck (.tmp 34), none, true⟩,
 ⟨(some 36), .fieldAddr 2 (.tmp 35), none, true⟩,
 ⟨(some 37), .load none (.tmp 36), none, true⟩] [⟨(some 42), .extract 0 (.tmp 41), none, true⟩,
 ⟨(some 8), .mv (.tmp 42), none, true⟩]
 (.ops [⟨(some 43), .mv (.tmp 5), none, true⟩,
 ⟨(some 44), .load none (.tmp 1), none, true⟩,
 ⟨(some 45), .nilCheck (.tmp 44), none, true⟩,
 ⟨(some 46), .fieldAddr 1 (.tmp 45), none, true⟩,
 ⟨(some 47), .load none (.tmp 46), none, true⟩,
 ⟨(some 48), .mv (.tmp 8), none, true⟩,
 ⟨(some 49), .indexAddr 3 (.tmp 47) (.tmp 48), none, true⟩,
 ⟨(some 50), .fieldAddr 0 (.tmp 49), none, true⟩,
 ⟨(some 51), .load none (.tmp 50), none, true⟩,
 ⟨(some 52), .call (.tmp 43) [(.tmp 51)], none, true⟩]))
 c_mT4
theorem c_ge_minor_cut : c_ge_minor = .seq (.ops [⟨(some 1), .box 1 (.tmp 0), none, true⟩,
 ⟨(some 2), .mv (.av (.val (.int .i64 0))), none, true⟩])
 (.seq (.ops [⟨(some 10), .load none (.tmp 1), none, true⟩,
 ⟨(some 11), .nilCheck (.tmp 10), none, true⟩,
 ⟨(some 12), .fieldAddr 1 (.tmp 11), none, true⟩,
 ⟨(some 13), .load none (.tmp 12), none, true⟩,
 ⟨(some 14), .len (.tmp 13), none, true⟩,
 ⟨(some 15), .mkSlice 1 1 [(.val (.bool false))] (.tmp 14) (.tmp 14), none, true⟩,
 ⟨(some 3), .zero [(.val (.slice none 0 0))], none, true⟩,
 ⟨none, .store 1 (.tmp 3) (.tmp 15), none, true⟩])
 (.seq (.ops [⟨(some 4), .zero [(.val (.slice none 0 0))], none, true⟩])
 (.seq (.ops [⟨(some 16), .func 30 [(.tmp 1), (.tmp 3), (.tmp 4)], none, true⟩,
 ⟨(some 5), .mv (.tmp 16), none, true⟩])
 (.seq (.seq (.ops [⟨(some 17), .load none (.tmp 1), none, true⟩,
 ⟨(some 18), .nilCheck (.tmp 17), none, true⟩,
 ⟨(some 19), .fieldAddr 1 (.tmp 18), none, true⟩,
 ⟨(some 20), .load none (.tmp 19), none, true⟩,
 ⟨(some 21), .len (.tmp 20), none, true⟩,
 ⟨(some 22), .mv (.av (.val (.int .i64 0))), none, true⟩])
 (rangeCode 0 1 23 22 21 33
 (.seq (.ops [⟨(some 24), .mv (.tmp 22), none, true⟩,
 ⟨(some 25), .indexAddr 3 (.tmp 20) (.tmp 22), none, true⟩,
 ⟨(some 26), .load (some 3) (.tmp 25), none, true⟩,
 ⟨(some 7), .zero [(.val (.slice none 0 0)), (.val (.int .i64 0)), (.val (.bool false))], none, true⟩,
 ⟨(some 6), .mv (.tmp 24), none, true⟩,
 ⟨none, .store 3 (.tmp 7) (.tmp 26), none, true⟩])
 (.seq (.ops [⟨(some 27), .fieldAddr 2 (.tmp 7), none, true⟩,
 ⟨(some 28), .load none (.tmp 27), none, true⟩])
 (.cond (.tmp 28)
 (.ops [⟨(some 29), .mv (.tmp 5), none, true⟩,
 ⟨(some 30), .mv (.tmp 6), none, true⟩,
 ⟨(some 31), .lits 1 1 [(.val (.int .i64 0))] [(0, 1, (.tmp 30))], none, true⟩,
 ⟨(some 32), .call (.tmp 29) [(.tmp 31)], none, true⟩])
 (.skip))))))
 c_mT2)))) := rfl
theorem numZ_none {S : ZS} {d : Nat} : numZ S d none = some d := rfl
theorem numZ_some {S : ZS} {d : Nat} {x : Opd} : numZ S d (some x) = (zev S x).bind natZ := by
  simp only [numZ]; cases zev S x <;> rfl
abbrev GM : Gh := ⟨[(4, [(0, 1)])], [], [72]⟩
abbrev miF (H : ZH) : ZV := .func 30 [.ptr H.length 0, .ptr (H.length + 2) 0, .ptr (H.length + 3) 0]
abbrev MiSlots (H : ZH) (S : ZS) : Prop := S 1 = .ptr H.length 0 ∧ S 3 = .ptr (H.length + 2) 0 ∧ S 4 = .ptr (H.length + 3) 0 ∧ S 5 = miF H
theorem MiS.ext {n : Nat} {W : ZH} {st : List Bool × List Int} (h : MiS H p n W st) (Y : ZH) : MiS H p n (W ++ Y) st := by
  obtain ⟨g', off, rows, X, rfl, h1, h2, h3, h4⟩ := h
  exact ⟨g', off, rows, X ++ Y, by simp, h1, h2, h3, h4⟩
set_option maxHeartbeats 4000000 in
theorem mT3_z {S : ZS} {KK : AExit → ZS → ZH → Prop} {W : ZH} {sb : List Bool} {td : List Int} (h : GeAt U H p t g m nu T R) (hr : Rng T) (hL : ∀ i, L i = true) (hS : MiSlots H S) (hW : MiS H p T.length W (sb, td))
    (hk : ∀ S' H', S' 2 = Z64 (cntTo [0] sb T T.length) → GeAt U H' p t g m nu (colT [0] sb T) [] → FrG U p m H H' → KK .ret S' H') : zW (XG tb nd) (cFunc Try.prog) GM L c_mT3 S W KK := by
  obtain ⟨h1, h3, h4, h5⟩ := hS
  obtain ⟨g', off, rows, X, rfl, hs, -⟩ := hW
  simp only at hs
  simp only [c_mT3]
  have HG := Lib.hid h
  have HR := Lib.hid hr
  have HK := Lib.hid hk
  have HL := Lib.hid hL
  clear h hr hk hL
  have a0 : ∀ A Y, (H ++ (A :: Y))[H.length]? = some A := fun A Y => atN0 rfl A Y
  have a1 : ∀ A B Y, (H ++ (A :: B :: Y))[H.length + 1]? = some B := fun A B Y => atN1 rfl A B Y
  have a2 : ∀ A B C Y, (H ++ (A :: B :: C :: Y))[H.length + 2]? = some C := fun A B C Y => atN2 rfl A B C Y
  have s1 : ∀ A B Z Y, (H ++ (A :: B :: Y)).set (H.length + 1) Z = H ++ (A :: Z :: Y) := fun A B Z Y => stN1 rfl A B Z Y
  have hpp : (sb.map eB).flatten.all pureZ = true := mv_pure (fun r hr => by obtain ⟨x, _, rfl⟩ := List.mem_map.1 hr; rfl)
  have htk : List.take T.length (sb.map eB) = sb.map eB := List.take_of_length_le (by simp [hs])
  have hll : T.length ≤ (sb.map eB).length := by simp [hs]
  have hs9 : T.length ≤ sb.length := by omega
  have HS := Lib.hid hs
  clear hs
  repeat' (first | (simp only [zmPack, zxPack, ne_eq, zfree, owners, Nat.reduceLT, List.contains_cons, List.contains_nil, Nat.reduceBEq, BEq.rfl, chunk, setAt, List.lookup_cons, List.lookup_nil, reduceCtorEq, Nat.reduceEqDiff, reduceIte, implies_true, forall_const, Nat.reduceMul, Nat.reduceSub, Nat.reduceAdd, Nat.reduceLeDiff, h1, h3, a0, a1, a2, s1, hpp, htk, hll, hs9, *]) | (simp only [zgoO, zgoG, zO_nil, zthen_normal, zgoC]) | (with_reducible apply And.intro) | (with_reducible intro _))
  refine collect_z (ages := [0]) (HG.out.ext _) HR.out HS.out (by simp) HL.out fun H' hG hF => ?_
  have F := Lib.hid (HK.out (zupd (zupd S 74 (Z64 (cntTo [0] sb T T.length))) 2 (Z64 (cntTo [0] sb T T.length))))
  repeat' (first | (simp only [zmPack, zxPack, ne_eq, zfree, owners, Nat.reduceLT, List.contains_cons, List.contains_nil, Nat.reduceBEq, BEq.rfl, chunk, setAt, List.lookup_cons, List.lookup_nil, reduceCtorEq, Nat.reduceEqDiff, reduceIte, implies_true, forall_const, Nat.reduceMul, Nat.reduceSub, Nat.reduceAdd, Nat.reduceLeDiff, *]) | (simp only [zgoO, zgoG, zO_nil, zthen_normal, zgoC]) | (with_reducible apply And.intro) | (with_reducible intro _))
  exact HK.out _ _ (by simp [zupd]) hG (FrG.ext.trans hF)
theorem drop_cons {rows : List (List ZV)} {off : Nat} {x : Int} {td : List Int} (h : (rows.drop off).take (x :: td).length = (x :: td).map eI) (hl : off + (x :: td).length ≤ rows.length) : rows[off]? = some (eI x) ∧ (rows.drop (off + 1)).take td.length = td.map eI := by
  have hlt : off < rows.length := by simp only [List.length_cons] at hl; omega
  rw [List.drop_eq_getElem_cons hlt] at h
  simp only [List.length_cons, List.take_succ_cons, List.map_cons, List.cons.injEq] at h
  exact ⟨by rw [List.getElem?_eq_getElem hlt, h.1], h.2⟩
def MiW (H : ZH) (p : Nat) (T : List TB) (st0 : List Bool × List Int) (d : Nat) (h' : ZH) : Prop := ∃ st, MiS H p T.length h' st ∧ MIv T (fun _ => False) st ∧ (∀ n, Sn st0.1 n → Sn st.1 n) ∧ falseN st.1 + st.2.length = d
set_option maxHeartbeats 8000000 in
theorem mT4_z {S : ZS} {KK : AExit → ZS → ZH → Prop} {W : ZH} {st : List Bool × List Int} (h : GeAt U H p t g m nu T R) (hr : Rng T) (hL : ∀ i, L i = true) (hS : MiSlots H S) (hW : MiS H p T.length W st) (hv : MIv T (fun _ => False) st) (hsum : falseN st.1 + st.2.length ≤ 1000)
    (hk : ∀ S' H' sb, MIv T (fun _ => False) (sb, []) → (∀ n, Sn st.1 n → Sn sb n) → S' 2 = Z64 (cntTo [0] sb T T.length) → GeAt U H' p t g m nu (colT [0] sb T) [] → FrG U p m H H' → KK .ret S' H') : zW (XG tb nd) (cFunc Try.prog) GM L c_mT4 S W KK := by
  simp only [c_mT4]
  obtain ⟨h1, h3, h4, h5⟩ := hS
  have HG := Lib.hid h
  have HR := Lib.hid hr
  have HK := Lib.hid hk
  have HL := Lib.hid hL
  have HS := Lib.hid hsum
  have hmi : MiW H p T st (falseN st.1 + st.2.length) W := ⟨st, hW, hv, fun _ h => h, rfl⟩
  clear h hr hk hL hW hv hsum
  have a0 : ∀ A Y, (H ++ (A :: Y))[H.length]? = some A := fun A Y => atN0 rfl A Y
  have a3 : ∀ A B C D Y, (H ++ (A :: B :: C :: D :: Y))[H.length + 3]? = some D := fun A B C D Y => by rw [List.getElem?_append_right (by omega), Nat.add_sub_cancel_left]; rfl
  have a4 : ∀ A B C D E Y, (H ++ (A :: B :: C :: D :: E :: Y))[H.length + 4]? = some E := fun A B C D E Y => by rw [List.getElem?_append_right (by omega), Nat.add_sub_cancel_left]; rfl
  have s3 : ∀ A B C D Z Y, (H ++ (A :: B :: C :: D :: Y)).set (H.length + 3) Z = H ++ (A :: B :: C :: Z :: Y) := fun A B C D Z Y => by rw [List.set_append_right _ _ (by omega), Nat.add_sub_cancel_left]; rfl
  have l3 : L (H.length + 3) = true := HL.out _
  repeat' (first | (simp only [zmPack, zxPack, ne_eq, zfree, owners, Nat.reduceLT, List.contains_cons, List.contains_nil, Nat.reduceBEq, BEq.rfl, chunk, setAt, List.lookup_cons, List.lookup_nil, reduceCtorEq, Nat.reduceEqDiff, reduceIte, implies_true, forall_const, Nat.reduceMul, Nat.reduceSub, Nat.reduceAdd, Nat.reduceLeDiff, *]) | (simp only [zgoO, zgoG, zO_nil, zthen_normal, zgoC]) | (with_reducible apply And.intro) | (with_reducible intro _))
  refine zW_whileK [(1, .ptr H.length 0), (3, .ptr (H.length + 2) 0), (4, .ptr (H.length + 3) 0), (5, miF H)] (falseN st.1 + st.2.length) (fun d s' h' => MiW H p T st d h' ∧ d ≤ 1000) (by repeat' (first | exact trivial | (refine ⟨rfl, ?_⟩) | (refine ⟨by simp only [zupd_at, Nat.reduceEqDiff, reduceIte]; assumption, ?_⟩))) rfl ⟨hmi, HS.out⟩ ?_
  clear hmi
  rintro d s' h' ⟨⟨⟨sb, td⟩, hM, hv, hgr, rfl⟩, hd⟩ ⟨f1, f3, f4, f5, -⟩
  simp only at hd hgr
  cases td with
  | nil =>
    have HM := Lib.hid hM
    have HV := Lib.hid hv
    have HGR := Lib.hid hgr
    obtain ⟨g', off, rows, X, rfl, hs, ho, hrw, -⟩ := hM
    have hll : off ≤ rows.length := by simp at ho; omega
    simp only [List.length_nil]
    have hz0 : ¬ ((0 : Int) < ((0 : Nat) : Int)) := by decide
    clear hv hgr hs ho hrw hd
    repeat' (first | (simp only [zmPack, zxPack, ne_eq, zfree, owners, Nat.reduceLT, List.contains_cons, List.contains_nil, Nat.reduceBEq, BEq.rfl, chunk, setAt, List.lookup_cons, List.lookup_nil, reduceCtorEq, Nat.reduceEqDiff, reduceIte, implies_true, forall_const, Nat.reduceMul, Nat.reduceSub, Nat.reduceAdd, Nat.reduceLeDiff, f4, a3, a4, hll, hz0, *]) | (simp only [zgoO, zgoG, zO_nil, zthen_normal, zgoC]) | (with_reducible apply And.intro) | (with_reducible intro _))
    refine mT3_z HG.out HR.out HL.out (by simp [MiSlots, zupd, f1, f3, f4, f5]) HM.out fun S' H' h2 hG hF => ?_
    exact HK.out S' H' sb HV.out HGR.out h2 hG hF
  | cons x td =>
    have hx := hv.td x (by simp)
    have hxl : x.toNat < T.length := by have := Sn_lt hx.2; rw [hv.len] at this; exact this
    obtain ⟨q, rfl⟩ := Int.eq_ofNat_of_zero_le hx.1
    rw [Int.toNat_natCast] at hxl
    have hw : T[q]? = some T[q] := List.getElem?_eq_getElem hxl
    obtain ⟨w, hwe⟩ : ∃ w, w = T[q] := ⟨_, rfl⟩
    rw [← hwe] at hw
    have hwm := List.mem_of_getElem? hw
    obtain ⟨g', off, rows, X, rfl, hs, ho, hrw, hl9⟩ := hM
    obtain ⟨e1, e2⟩ := drop_cons hrw ho
    simp only [List.length_cons] at ho hl9 hd
    have hel : ∀ Y, elemZ (H ++ Y) 3 q (.own t g 0 T.length false) = some (.eptr t g q 0) := fun Y => t_el (HG.out.ext Y) hxl
    have hld : ∀ Y, ldZ (H ++ Y) none (.eptr t g q 0) = some (plZ w) := fun Y => (t_ld (HG.out.ext Y) (o := 0) hw).trans rfl
    have hb : ∀ Y, (H ++ Y)[p]? = some (.box [Z64 nu, .own t g 0 T.length false, .mp m]) := fun Y => (HG.out.ext Y).box
    have hzr : ∀ Y, rowsZ (H ++ Y) 1 (plZ w) = some (w.2.1.map eI) := fun Y => (HG.out.ext Y).rows hwm
    have hcut : ∀ Y, cutZ (H ++ (.box [.ptr p 0] :: .grow 0 1 (sb.map eB) :: .box [.own (H.length + 1) 0 0 T.length true] :: .box [.own (H.length + 4) g' off (td.length + 1) false] :: .grow g' 1 rows :: Y)) 1 1 (td.length + 1) (td.length + 1) false (.own (H.length + 4) g' off (td.length + 1) false) = some (.own (H.length + 4) g' (off + 1) td.length false) := fun Y => by
      simp only [cutZ, a4]
      rw [if_pos ⟨trivial, trivial, by omega, by omega, by omega, by omega⟩]
      simp
    have hcl : (plZ w).isCell = true := plz_cell
    have hp0 : 0 < td.length + 1 := by omega
    have hp1 : (0 : Int) < ((td.length + 1 : Nat) : Int) := by omega
    have hM2 : MiS H p T.length (H ++ (.box [.ptr p 0] :: .grow 0 1 (sb.map eB) :: .box [.own (H.length + 1) 0 0 T.length true] :: .box [.own (H.length + 4) g' (off + 1) td.length false] :: .grow g' 1 rows :: X)) (sb, td) := ⟨g', off + 1, rows, X, rfl, hs, by simp only; omega, e2, by simp only; omega⟩
    have hpop := pop_inv hv (by rw [Int.toNat_natCast]; exact hw)
    have hsm := HR.out.sm w hwm
    have hrg := HR.out.rng w hwm
    have hsum2 := reachG_sum (T := T) (st := (sb, td)) (l := w.2.1) hs
    have HM2 := Lib.hid hM2
    have HP := Lib.hid hpop
    have HGR := Lib.hid hgr
    have HZR := Lib.hid hzr
    have HRG := Lib.hid hrg
    have HSU := Lib.hid hsum2
    have HSM := Lib.hid hsm
    have hno : natZ (Z64 1) = some 1 := rfl
    have hn0 : natZ (Z64 0) = some 0 := rfl
    have ho2 : off + (td.length + 1) ≤ rows.length := ho
    clear hx hwe hw hwm hrw e2 hs hv hM2 hpop hgr hzr hrg hsum2 hl9 hsm ho
    repeat' (first | (simp only [zmPack, zxPack, ne_eq, zfree, owners, Nat.reduceLT, List.contains_cons, List.contains_nil, Nat.reduceBEq, BEq.rfl, chunk, setAt, List.lookup_cons, List.lookup_nil, reduceCtorEq, Nat.reduceEqDiff, reduceIte, implies_true, forall_const, Nat.reduceMul, Nat.reduceSub, Nat.reduceAdd, Nat.reduceLeDiff, f1, f4, f5, a0, a3, a4, s3, l3, e1, ho2, hp0, hp1, hel, hld, hb, hcut, hcl, hno, hn0, numZ_none, numZ_some, natZ_nat, Option.bind_some, Option.isSome_none, *]) | (simp only [zgoO, zgoG, zO_nil, zthen_normal, zgoC]) | (with_reducible apply And.intro) | (with_reducible intro _))
    refine minora_z (st := (sb, td)) HG.out HM2.out (by simp only; omega) HZR.out HRG.out (by have := HSM.out; omega) (HL.out _) (HL.out _) (HL.out _) fun W' hW' => ?_
    repeat' (first | (simp only [zmPack, zxPack, ne_eq, zfree, owners, Nat.reduceLT, List.contains_cons, List.contains_nil, Nat.reduceBEq, BEq.rfl, chunk, setAt, List.lookup_cons, List.lookup_nil, reduceCtorEq, Nat.reduceEqDiff, reduceIte, implies_true, forall_const, Nat.reduceMul, Nat.reduceSub, Nat.reduceAdd, Nat.reduceLeDiff, *]) | (simp only [zgoO, zgoG, zO_nil, zthen_normal, zgoC]) | (with_reducible apply And.intro) | (with_reducible intro _))
    refine ⟨falseN sb + td.length, by omega, ⟨_, hW', HP.out.1, fun n hn => HP.out.2.sn n (HGR.out n hn), HSU.out⟩, by omega⟩
theorem mem_erase {α : Type} {x : α} : ∀ {l : List α} {j : Nat}, x ∈ l → x ∈ l.eraseIdx j ∨ l[j]? = some x
  | [], j, h => by simp at h
  | y :: l, 0, h => by
    rcases List.mem_cons.1 h with rfl | h
    · exact .inr rfl
    · exact .inl h
  | y :: l, j + 1, h => by
    rcases List.mem_cons.1 h with rfl | h
    · exact .inl (by simp)
    · rcases mem_erase (j := j) h with h | h
      · exact .inl (by simp [h])
      · exact .inr (by simpa using h)
def RemOk (T : List TB) (sb : List Bool) (r : Int) : Prop := ∀ x, T[r.toNat]? = some x → ∀ y ∈ x.2.1, yngB T y = true → Sn sb y.toNat
def MiR (H : ZH) (p : Nat) (T : List TB) (R : List Int) (rem : List (Int × ZV)) (h' : ZH) : Prop := ∃ st, MiS H p T.length h' st ∧ MIa T st ∧ (∀ e ∈ rem, e.1 ∈ R) ∧ ∀ r ∈ R, (r, .agg []) ∈ rem ∨ RemOk T st.1 r
set_option maxHeartbeats 8000000 in
theorem mT2_z {S : ZS} {KK : AExit → ZS → ZH → Prop} {W : ZH} {st : List Bool × List Int} (h : GeAt U H p t g m nu T R) (hr : Rng T) (hR : ∀ r ∈ R, 0 ≤ r ∧ r < (T.length : Int)) (hL : ∀ i, L i = true) (hS : MiSlots H S) (hW : MiS H p T.length W st) (hv : MIa T st)
    (hk : ∀ S' H' sb, Stays T R sb → S' 2 = Z64 (cntTo [0] sb T T.length) → GeAt U H' p t g m nu (colT [0] sb T) [] → FrG U p m H H' → KK .ret S' H') : zW (XG tb true) (cFunc Try.prog) GM L c_mT2 S W KK := by
  simp only [c_mT2]
  obtain ⟨h1, h3, h4, h5⟩ := hS
  have HG := Lib.hid h
  have HR := Lib.hid hr
  have HRR := Lib.hid hR
  have HK := Lib.hid hk
  have HL := Lib.hid hL
  have a0 : ∀ A Y, (H ++ (A :: Y))[H.length]? = some A := fun A Y => atN0 rfl A Y
  have hb : ∀ Y, (H ++ Y)[p]? = some (.box [Z64 nu, .own t g 0 T.length false, .mp m]) := fun Y => (HG.out.ext Y).box
  have hm : ∀ Y, (H ++ Y)[m]? = some (.box ((rE R).map ent)) := fun Y => (HG.out.ext Y).rem
  have hmi : MiR H p T R (rE R) (W ++ [.dead]) := ⟨st, hW.ext _, hv, fun e he => by
    obtain ⟨k, hk, rfl⟩ := List.mem_map.1 he; exact hk, fun r hr => .inl (List.mem_map.2 ⟨r, hr, rfl⟩)⟩
  have hmlt := lt_of_get h.rem
  clear h hr hR hk hL
  obtain ⟨g', off, rows, X, rfl, -⟩ := hW
  repeat' (first | (simp only [zmPack, zxPack, ne_eq, zfree, owners, Nat.reduceLT, List.contains_cons, List.contains_nil, Nat.reduceBEq, BEq.rfl, chunk, setAt, List.lookup_cons, List.lookup_nil, reduceCtorEq, Nat.reduceEqDiff, reduceIte, implies_true, forall_const, Nat.reduceMul, Nat.reduceSub, Nat.reduceAdd, Nat.reduceLeDiff, *]) | (simp only [zgoO, zgoG, zO_nil, zthen_normal, zgoC]) | (with_reducible apply And.intro) | (with_reducible intro _))
  refine zW_map rfl ?_
  repeat' (first | (simp only [zmPack, zxPack, ne_eq, zfree, owners, Nat.reduceLT, List.contains_cons, List.contains_nil, Nat.reduceBEq, BEq.rfl, chunk, setAt, List.lookup_cons, List.lookup_nil, reduceCtorEq, Nat.reduceEqDiff, reduceIte, implies_true, forall_const, Nat.reduceMul, Nat.reduceSub, Nat.reduceAdd, Nat.reduceLeDiff, h1, a0, hb, *]) | (simp only [zgoO, zgoG, zO_nil, zthen_normal, zgoC]) | (with_reducible apply And.intro) | (with_reducible intro _))
  refine ⟨m, rfl, _, hm _, ?_⟩
  refine zmap_for (G := Gh.no) rfl (l := rE R) (I := fun rem s' h' => MiSlots H s' ∧ MiR H p T R rem h') ⟨by simp [MiSlots, zupd, h1, h3, h4, h5], by simpa using hmi⟩ ?_ ?_
  · rintro rem j n v S' H' hj ⟨⟨f1, f3, f4, f5⟩, st2, hM, hv2, hsub, hdone⟩ hs
    have hnR : n ∈ R := hsub (n, v) (List.mem_of_getElem? hj)
    obtain ⟨hn0, hn1⟩ := HRR.out n hnR
    obtain ⟨q, rfl⟩ := Int.eq_ofNat_of_zero_le hn0
    have hql : q < T.length := by omega
    have hw : T[q]? = some T[q] := List.getElem?_eq_getElem hql
    obtain ⟨w, hwe⟩ : ∃ w, w = T[q] := ⟨_, rfl⟩
    rw [← hwe] at hw
    have hwm := List.mem_of_getElem? hw
    have hel : ∀ Y, elemZ (H ++ Y) 3 q (.own t g 0 T.length false) = some (.eptr t g q 0) := fun Y => t_el (HG.out.ext Y) hql
    have hld : ∀ Y, ldZ (H ++ Y) none (.eptr t g q 0) = some (plZ w) := fun Y => (t_ld (HG.out.ext Y) (o := 0) hw).trans rfl
    have hzr : ∀ Y, rowsZ (H ++ Y) 1 (plZ w) = some (w.2.1.map eI) := fun Y => (HG.out.ext Y).rows hwm
    have hcl : (plZ w).isCell = true := plz_cell
    have hsm := HR.out.sm w hwm
    have hrg := HR.out.rng w hwm
    have hM0 := hM
    obtain ⟨g2, off2, rows2, X2, rfl, hs2, -⟩ := hM
    have hrv := reach_inv (l := w.2.1) hv2.inv
    have hsum2 := reachG_sum (T := T) (st := st2) (l := w.2.1) hs2
    have hfin : ∀ W', MiS H p T.length W' (reachG T st2 w.2.1) → MiR H p T R (rem.eraseIdx j) W' := fun W' hW' => by
      refine ⟨_, hW', ⟨hrv.1, fun n x hx hh ha => hrv.2.sn n (hv2.held n x hx hh ha), by rw [hsum2]; exact hv2.sum⟩, fun e he => hsub e (List.mem_of_mem_eraseIdx he), fun r hr => ?_⟩
      rcases hdone r hr with hd | hd
      · rcases mem_erase (j := j) hd with hd | hd
        · exact .inl hd
        · right
          rw [hj] at hd
          injection hd with hd
          injection hd with hd _
          subst hd
          intro x hx y hy hyy
          rw [Int.toNat_natCast, hw] at hx
          injection hx with hx
          subst hx
          exact hrv.2.see y hy hyy
      · exact .inr fun x hx y hy hyy => hrv.2.sn _ (hd x hx y hy hyy)
    have hsum3 : falseN st2.1 + st2.2.length ≤ 9000 := by have := hv2.sum; have := HR.out.len; omega
    have e1 : (H.length + 1 == m) = false := by simp; omega
    have e3 : (H.length + 3 == m) = false := by simp; omega
    have e4 : (H.length + 4 == m) = false := by simp; omega
    have HF := Lib.hid hfin
    have HM := Lib.hid hM0
    have HZR := Lib.hid hzr
    have HRG := Lib.hid hrg
    have HSM := Lib.hid hsm
    have HSU := Lib.hid hsum3
    have HE1 := Lib.hid e1
    have HE3 := Lib.hid e3
    have HE4 := Lib.hid e4
    clear hj hv2 hsub hdone hs hnR hn0 hn1 hwe hw hwm hzr hsm hrg hM0 hs2 hrv hsum2 hfin hsum3 e1 e3 e4 hmi hv
    simp only [zrngM]
    repeat' (first | (simp only [zmPack, zxPack, ne_eq, zfree, owners, Nat.reduceLT, List.contains_cons, List.contains_nil, Nat.reduceBEq, BEq.rfl, chunk, setAt, List.lookup_cons, List.lookup_nil, reduceCtorEq, Nat.reduceEqDiff, reduceIte, implies_true, forall_const, Nat.reduceMul, Nat.reduceSub, Nat.reduceAdd, Nat.reduceLeDiff, f1, f5, a0, hb, hel, hld, hcl, *]) | (simp only [zgoO, zgoG, zO_nil, zthen_normal, zgoC]) | (with_reducible apply And.intro) | (with_reducible intro _))
    refine minora_z HG.out HM.out HSU.out HZR.out HRG.out (by have := HSM.out; omega) (by simp [HL.out, HE1.out]) (by simp [HL.out, HE3.out]) (by simp [HL.out, HE4.out]) fun W' hW' => ?_
    have hR2 := HF.out _ hW'
    repeat' (first | (simp only [zmPack, zxPack, ne_eq, zfree, owners, Nat.reduceLT, List.contains_cons, List.contains_nil, Nat.reduceBEq, BEq.rfl, chunk, setAt, List.lookup_cons, List.lookup_nil, reduceCtorEq, Nat.reduceEqDiff, reduceIte, implies_true, forall_const, Nat.reduceMul, Nat.reduceSub, Nat.reduceAdd, Nat.reduceLeDiff, f1, f3, f4, f5, *]) | (simp only [zgoO, zgoG, zO_nil, zthen_normal, zgoC]) | (with_reducible apply And.intro) | (with_reducible intro _))
  · rintro S' H' ⟨⟨f1, f3, f4, f5⟩, st2, hM, hv2, hsub, hdone⟩ hs
    simp only [zrngEnd]
    repeat' (first | (simp only [zmPack, zxPack, ne_eq, zfree, owners, Nat.reduceLT, List.contains_cons, List.contains_nil, Nat.reduceBEq, BEq.rfl, chunk, setAt, List.lookup_cons, List.lookup_nil, reduceCtorEq, Nat.reduceEqDiff, reduceIte, implies_true, forall_const, Nat.reduceMul, Nat.reduceSub, Nat.reduceAdd, Nat.reduceLeDiff, *]) | (simp only [zgoO, zgoG, zO_nil, zthen_normal, zgoC]) | (with_reducible apply And.intro) | (with_reducible intro _))
    refine mT4_z HG.out HR.out HL.out (by simp [MiSlots, zupd, f1, f3, f4, f5]) hM hv2.inv (by have := hv2.sum; have := HR.out.len; omega) fun S2 H2 sb hi hgr h2 hG2 hF2 => ?_
    refine HK.out S2 H2 sb ⟨hi.len, hi.yng, fun n x hx hh ha => hgr n (hv2.held n x hx hh ha), fun r hr x hx y hy hyy => ?_, fun n hn x hx y hy hyy => hi.cl n hn (by simp) (fun q => q) x hx y hy hyy⟩ h2 hG2 hF2
    rcases hdone r hr with hd | hd
    · simp at hd
    · exact hgr _ (hd x hx y hy hyy)
set_option maxHeartbeats 8000000 in
theorem minor_z (h : GeAt U H p t g m nu T R) (hr : Rng T) (hR : ∀ r ∈ R, 0 ≤ r ∧ r < (T.length : Int)) (hL : ∀ i, L i = true)
    (hK : ∀ H' sb, Stays T R sb → GeAt U H' p t g m nu (colT [0] sb T) [] → FrG U p m H H' → K (Z64 (cntTo [0] sb T T.length)) H') :
    ZC (XG tb true) (cFunc Try.prog) 21 [.ptr p 0] L H K := by
  refine ZC.enter GM constX_none f_ge_minor (by simp) ?_
  simp only [c_ge_minor_cut]
  have hlen := h.len
  have HG := Lib.hid h
  have HR := Lib.hid hr
  have HRR := Lib.hid hR
  have HK := Lib.hid hK
  have HL := Lib.hid hL
  have hb : ∀ Y, (H ++ Y)[p]? = some (.box [Z64 nu, .own t g 0 T.length false, .mp m]) := fun Y => (h.ext Y).box
  have hl3 : ∀ X, lenZ (H ++ X) (.own t g 0 T.length false) = some T.length := fun X => by
    have h3 : rowsZ (H ++ X) 3 (.own t g 0 T.length false) = some (T.map eT) := rows_whole (h.ext X).arr (by simp)
    have := rows_len h3; rwa [List.length_map] at this
  have a0 : ∀ A Y, (H ++ (A :: Y))[H.length]? = some A := fun A Y => atN0 rfl A Y
  have a2 : ∀ A B C Y, (H ++ (A :: B :: C :: Y))[H.length + 2]? = some C := fun A B C Y => atN2 rfl A B C Y
  have s2 : ∀ A B C Z Y, (H ++ (A :: B :: C :: Y)).set (H.length + 2) Z = H ++ (A :: B :: Z :: Y) := fun A B C Z Y => by rw [List.set_append_right _ _ (by omega), Nat.add_sub_cancel_left]; rfl
  have l2 : L (H.length + 2) = true := hL _
  have hrr : T.length ≤ reach := by unfold reach; omega
  have hTl : T.length < 9223372036854775807 := by omega
  clear h hr hR hK hL
  repeat' (first | (simp only [zmPack, zxPack, ne_eq, zfree, owners, Nat.reduceLT, List.contains_cons, List.contains_nil, Nat.reduceBEq, BEq.rfl, chunk, setAt, List.lookup_cons, List.lookup_nil, reduceCtorEq, Nat.reduceEqDiff, reduceIte, implies_true, forall_const, Nat.reduceMul, Nat.reduceSub, Nat.reduceAdd, Nat.reduceLeDiff, hb, hl3, a0, a2, s2, l2, hrr, *]) | (simp only [zgoO, zgoG, zO_nil, zthen_normal, zgoC]) | (with_reducible apply And.intro) | (with_reducible intro _))
  refine zW_forK [(1, .ptr H.length 0), (3, .ptr (H.length + 2) 0), (4, .ptr (H.length + 3) 0), (5, miF H), (20, .own t g 0 T.length false)] T.length (fun k s' h' => MiS H p T.length h' (reachG T (st0 T) (riseTo (heldB T) k))) (by omega) ⟨rfl, rfl, rfl, rfl, rfl, rfl⟩ rfl rfl (by repeat' (first | exact trivial | (refine ⟨rfl, ?_⟩) | (refine ⟨by simp only [zupd_at, Nat.reduceEqDiff, reduceIte]; assumption, ?_⟩))) rfl rfl (by decide) ⟨0, 0, [], [], by simp [reachG, st0, riseTo], by simp [reachG, st0, riseTo], by simp [reachG, st0, riseTo], by simp [reachG, st0, riseTo], by simp [reachG, st0, riseTo]⟩ ?_ ?_
  · rintro k s' h' hk hM hi hl ⟨f1, f3, f4, f5, f20, -⟩
    have hx : T[k]? = some T[k] := List.getElem?_eq_getElem hk
    have hnx := held_next hk
    obtain ⟨y, hy⟩ : ∃ y, y = T[k] := ⟨_, rfl⟩
    rw [← hy] at hx hnx
    have he : ∀ Y, elemZ (H ++ Y) 3 k (.own t g 0 T.length false) = some (.eptr t g k 0) := fun Y => t_el (HG.out.ext Y) hk
    obtain ⟨o, pl, co, he2⟩ := y
    have hld : ∀ Y, ldZ (H ++ Y) (some 3) (.eptr t g k 0) = some (.agg (eT (o, pl, co, he2))) := fun Y => by
      rw [ld_eptr]; exact ⟨_, _, eT (o, pl, co, he2), (HG.out.ext Y).arr, by rw [List.getElem?_map, hx]; rfl, rfl⟩
    have het : eT (o, pl, co, he2) = [plZ (o, pl, co, he2), Z64 co, ZBo he2] := rfl
    have hcl : (plZ (o, pl, co, he2)).isCell = true := plz_cell
    obtain ⟨pz, hpz⟩ : ∃ pz, pz = plZ (o, pl, co, he2) := ⟨_, rfl⟩
    rw [← hpz] at het hcl
    rw [het] at hld
    simp only at hnx
    have hinv := held_inv (T := T) k
    obtain ⟨stk, hstk⟩ : ∃ stk, stk = reachG T (st0 T) (riseTo (heldB T) k) := ⟨_, rfl⟩
    rw [← hstk] at hM hinv
    have hnext : reachG T (st0 T) (riseTo (heldB T) (k + 1)) = if he2 = true then reachG T stk [(k : Int)] else stk := by
      rw [hnx]
      cases he2 with
      | true => simp only [if_true]; rw [hstk]; unfold reachG; rw [List.foldl_append]
      | false => simp only [Bool.false_eq_true, if_false, List.append_nil]; exact hstk.symm
    have hM2 := hM.ext [.box [pz, Z64 co, ZBo he2]]
    obtain ⟨g', off, rows, X, rfl, hs, -⟩ := hM
    have a9 : ∀ A B C D E F, (H ++ (A :: B :: C :: D :: E :: (X ++ [F])))[H.length + (X.length + 5)]? = some F := fun A B C D E F => by rw [List.getElem?_append_right (by omega), Nat.add_sub_cancel_left]; simp
    have s9 : ∀ A B C D E F Z, (H ++ (A :: B :: C :: D :: E :: (X ++ [F]))).set (H.length + (X.length + 5)) Z = H ++ (A :: B :: C :: D :: E :: (X ++ [Z])) := fun A B C D E F Z => by rw [List.set_append_right _ _ (by omega), Nat.add_sub_cancel_left]; simp
    have l9 : L (H.length + (X.length + 5)) = true := HL.out _
    have HN := Lib.hid hnext
    have HM2 := Lib.hid hM2
    have hsum : falseN stk.1 + stk.2.length ≤ 9000 := by have := hinv.2; omega
    have HSU := Lib.hid hsum
    clear hx hnx hy het hpz hinv hstk hnext hM2 hs hsum hb hl3 a2 s2
    cases he2 with
    | true =>
      repeat' (first | (simp only [zmPack, zxPack, ne_eq, zfree, owners, Nat.reduceLT, List.contains_cons, List.contains_nil, Nat.reduceBEq, BEq.rfl, chunk, setAt, List.lookup_cons, List.lookup_nil, reduceCtorEq, Nat.reduceEqDiff, reduceIte, implies_true, forall_const, Nat.reduceMul, Nat.reduceSub, Nat.reduceAdd, Nat.reduceLeDiff, f5, f20, he, hld, hcl, a9, s9, l9, *]) | (simp only [zgoO, zgoG, zO_nil, zthen_normal, zgoC]) | (with_reducible apply And.intro) | (with_reducible intro _))
      refine minora_z (l := [(k : Int)]) (st := stk) HG.out (by simpa using HM2.out) HSU.out (fun _ => rows_fz) (fun y hy => by rw [List.mem_singleton.1 hy]; omega) (by simp) (HL.out _) (HL.out _) (HL.out _) fun W' hW' => ?_
      have fin : MiS H p T.length W' (reachG T (st0 T) (riseTo (heldB T) (k + 1))) := by rw [HN.out, if_pos rfl]; exact hW'
      repeat' (first | (simp only [zmPack, zxPack, ne_eq, zfree, owners, Nat.reduceLT, List.contains_cons, List.contains_nil, Nat.reduceBEq, BEq.rfl, chunk, setAt, List.lookup_cons, List.lookup_nil, reduceCtorEq, Nat.reduceEqDiff, reduceIte, implies_true, forall_const, Nat.reduceMul, Nat.reduceSub, Nat.reduceAdd, Nat.reduceLeDiff, *]) | (simp only [zgoO, zgoG, zO_nil, zthen_normal, zgoC]) | (with_reducible apply And.intro) | (with_reducible intro _))
    | false =>
      have fin : MiS H p T.length (H ++ (.box [.ptr p 0] :: .grow 0 1 (stk.1.map eB) :: .box [.own (H.length + 1) 0 0 T.length true] :: .box [.own (H.length + 4) g' off stk.2.length false] :: .grow g' 1 rows :: (X ++ [.box [pz, Z64 co, ZBo false]]))) (reachG T (st0 T) (riseTo (heldB T) (k + 1))) := by rw [HN.out, if_neg (by simp)]; simpa using HM2.out
      repeat' (first | (simp only [zmPack, zxPack, ne_eq, zfree, owners, Nat.reduceLT, List.contains_cons, List.contains_nil, Nat.reduceBEq, BEq.rfl, chunk, setAt, List.lookup_cons, List.lookup_nil, reduceCtorEq, Nat.reduceEqDiff, reduceIte, implies_true, forall_const, Nat.reduceMul, Nat.reduceSub, Nat.reduceAdd, Nat.reduceLeDiff, f5, f20, he, hld, hcl, a9, s9, l9, *]) | (simp only [zgoO, zgoG, zO_nil, zthen_normal, zgoC]) | (with_reducible apply And.intro) | (with_reducible intro _))
  · rintro s' h' hM ⟨f1, f3, f4, f5, f20, -⟩
    have hre : riseTo (heldB T) T.length = rising (heldB T) := by unfold rising; rw [show (heldB T).length = T.length by simp [heldB]]
    rw [hre] at hM
    refine mT2_z HG.out HR.out HRR.out HL.out ⟨f1, f3, f4, f5⟩ hM held_all fun S' H' sb hS h2 hG hF => ?_
    show _ ∧ Fin H (S' 2) H' K
    rw [h2]
    exact ⟨.inr rfl, Fin.keep (HK.out H' sb hS hG hF)⟩
theorem major_z (h : GeAt U H p t g m nu T R) (hr : Rng T) (hL : ∀ i, L i = true)
    (hK : ∀ H', GeAt U H' p t g m nu (colT [0, 1] (needT T) T) [] → FrG U p m H H' → K (Z64 (cntTo [0, 1] (needT T) T T.length)) H') :
    ZC (XG tb nd) (cFunc Try.prog) 22 [.ptr p 0] L H K := by
  refine ZC.enter Gh.no constX_none f_ge_major (by simp) ?_
  simp only [c_ge_major]
  have HG := Lib.hid h
  have HR := Lib.hid hr
  have HK := Lib.hid hK
  have HL := Lib.hid hL
  have l0 : L H.length = true := hL _
  have a0 : ∀ A Y, (H ++ (A :: Y))[H.length]? = some A := fun A Y => atN0 rfl A Y
  have s0 : ∀ A B Y, (H ++ (A :: Y)).set H.length B = H ++ (B :: Y) := fun A B Y => stN0 rfl A B Y
  clear h hr hK hL
  repeat' (first | (simp only [zmPack, zxPack, ne_eq, zfree, owners, Nat.reduceLT, List.contains_cons, List.contains_nil, Nat.reduceBEq, BEq.rfl, chunk, setAt, List.lookup_cons, List.lookup_nil, reduceCtorEq, Nat.reduceEqDiff, reduceIte, implies_true, forall_const, Nat.reduceMul, Nat.reduceSub, Nat.reduceAdd, Nat.reduceLeDiff, *]) | (simp only [zgoO, zgoG, zO_nil, zthen_normal, zgoC]) | (with_reducible apply And.intro) | (with_reducible intro _))
  refine graph_z HG.out ?_
  repeat' (first | (simp only [zmPack, zxPack, ne_eq, zfree, owners, Nat.reduceLT, List.contains_cons, List.contains_nil, Nat.reduceBEq, BEq.rfl, chunk, setAt, List.lookup_cons, List.lookup_nil, reduceCtorEq, Nat.reduceEqDiff, reduceIte, implies_true, forall_const, Nat.reduceMul, Nat.reduceSub, Nat.reduceAdd, Nat.reduceLeDiff, l0, a0, s0, *]) | (simp only [zgoO, zgoG, zO_nil, zthen_normal, zgoC]) | (with_reducible apply And.intro) | (with_reducible intro _))
  refine ZC.up (wfrom_z (z2 := .fz 1 false ((rising (heldB T)).map eI)) rows_fz rfl rows_fz (by rw [hasOf_len]; exact HR.out.len) HR.out.own (rootsLen HR.out) HR.out.ok HR.out.root ?_)
  have e : liveSb (hasOf T) [] (rising (heldB T)) = needT T := rfl
  rw [e]
  have hbl : (needT T).length = T.length := by unfold needT; rw [liveSb_length, hasOf_len]
  have HB := Lib.hid hbl
  obtain ⟨nb, hnb⟩ : ∃ nb, nb = needT T := ⟨_, rfl⟩
  rw [← hnb] at HK HB ⊢
  clear e hbl hnb
  repeat' (first | (simp only [zmPack, zxPack, ne_eq, zfree, owners, Nat.reduceLT, List.contains_cons, List.contains_nil, Nat.reduceBEq, BEq.rfl, chunk, setAt, List.lookup_cons, List.lookup_nil, reduceCtorEq, Nat.reduceEqDiff, reduceIte, implies_true, forall_const, Nat.reduceMul, Nat.reduceSub, Nat.reduceAdd, Nat.reduceLeDiff, *]) | (simp only [zgoO, zgoG, zO_nil, zthen_normal, zgoC]) | (with_reducible apply And.intro) | (with_reducible intro _))
  refine collect_z (ages := [0, 1]) (HG.out.ext _) HR.out HB.out (by simp) HL.out fun H' hG hF => ?_
  have fin := Fin.keep (H0 := H) (HK.out H' hG (FrG.ext.trans hF))
  repeat' (first | (simp only [zmPack, zxPack, ne_eq, zfree, owners, Nat.reduceLT, List.contains_cons, List.contains_nil, Nat.reduceBEq, BEq.rfl, chunk, setAt, List.lookup_cons, List.lookup_nil, reduceCtorEq, Nat.reduceEqDiff, reduceIte, implies_true, forall_const, Nat.reduceMul, Nat.reduceSub, Nat.reduceAdd, Nat.reduceLeDiff, *]) | (simp only [zgoO, zgoG, zO_nil, zthen_normal, zgoC]) | (with_reducible apply And.intro) | (with_reducible intro _))
end Go.Proofs.Ytblgljahhhdlhaa

namespace Go.Proofs.Ytblgljahhhdlhaa
open Go Go.RowKit
set_option linter.unusedVariables false
set_option linter.unusedSimpArgs false
section
variable {tb : List (FuncId × Bool)} {fl : Nat → Bool} {h : Heap} {K : AV → Heap → Prop}
abbrev U64 (n : Int) : AV := .val (.int .u64 n)
theorem and_small (n : Nat) (hn : n ≤ 1000) : binV .and (.int .u64 (n : Nat)) (.int .u64 4294967295) = some (.int .u64 (n : Nat)) := by
  have h : ∀ n : _root_.Fin 1001, (match binV .and (.int .u64 ((n.val : Nat) : Int)) (.int .u64 4294967295) with | some (.int .u64 z) => z == ((n.val : Nat) : Int) | _ => false) = true := by decide +kernel
  have := h ⟨n, by omega⟩
  revert this
  simp only
  generalize binV .and (.int .u64 ((n : Nat) : Int)) (.int .u64 4294967295) = r
  intro this
  split at this
  · simp at this; rw [this]
  · cases this
theorem shr_small (n : Nat) (hn : n ≤ 1000) : binV .shr (.int .u64 (n : Nat)) (.int .u64 32) = some (.int .u64 0) := by
  have h : ∀ n : _root_.Fin 1001, (match binV .shr (.int .u64 ((n.val : Nat) : Int)) (.int .u64 32) with | some (.int .u64 z) => z == 0 | _ => false) = true := by decide +kernel
  have := h ⟨n, by omega⟩
  revert this
  generalize binV .shr (.int .u64 ((n : Nat) : Int)) (.int .u64 32) = r
  intro this
  split at this
  · simp at this; rw [this]
  · cases this
theorem mul_u {a b : Int} : binV .mul (.int .u64 a) (.int .u64 b) = some (.int .u64 (IntKind.u64.wrap (a * b))) := by simp [binV]
theorem add_u {a b : Int} : binV .add (.int .u64 a) (.int .u64 b) = some (.int .u64 (IntKind.u64.wrap (a + b))) := by simp [binV]
theorem gtr_u {a b : Int} : binV .gtr (.int .u64 a) (.int .u64 b) = some (.bool (decide (b < a))) := by simp [binV]
theorem mul64_am {n : Nat} (hn : n ≤ 1000) (hK : K (.tuple [U64 0, U64 (n : Nat)]) h) : AC (constX tb) (cFunc Try.prog) 53 [U64 1, U64 (n : Nat)] fl h K := by
  refine AC.enter rfl f_mk_mul64 (by simp) ?_
  simp only [c_mk_mul64]
  have a1 : binV .and (.int .u64 1) (.int .u64 4294967295) = some (.int .u64 1) := and_small 1 (by omega)
  have s1 : binV .shr (.int .u64 1) (.int .u64 32) = some (.int .u64 0) := shr_small 1 (by omega)
  have a0 : binV .and (.int .u64 0) (.int .u64 4294967295) = some (.int .u64 0) := and_small 0 (by omega)
  have s0 : binV .shr (.int .u64 0) (.int .u64 32) = some (.int .u64 0) := shr_small 0 (by omega)
  have an := and_small n hn
  have sn := shr_small n hn
  have w0 : IntKind.u64.wrap 0 = 0 := by rfl
  have wn : IntKind.u64.wrap (n : Int) = (n : Int) := IntWalk.u64_in _ (by omega)
  clear hn
  repeat' (first | (simp only [AW_next, AW_ops, AW_opsD, AW_cond, AW_block, AW_exit, AW_ret, AW_skip, AW_scope, AO_nil, AO_next, AO_nextW, wantB_bool, wantK_some, then_normal, then_exit, then_ret, inBlk_normal, inBlk_exit, inBlk_ret, A1_mv, A1_pick, A1_box, A1_zero, A1_build, A1_lits, A1_load, shallow_none, A1_store, A1_nilCheckI, nilOk_ptr, nilOk_func, A1_bin, A1_eqNil, A1_eqBool, A1_eqAgg, A1_un, A1_conv, A1_field, A1_fieldAddr, A1_indexAddr, A1_indexArr, A1_index, A1_slice, A1_mkSlice, A1_extract, A1_func, A1_call, callee_func, callee_bfunc, A1_append, A1_len, A1_minmax, put_some, put_none, upd_at, ev_tmp, ev_av, bin_lss, bin_leq, bin_gtr, bin_geq, bin_eql, bin_neq, bin_add, bin_sub, bin_mul, un_not, natOf_nat, Bool.not_eq_false', Prod.mk.injEq, and_assoc, decide_false, decide_true, Bool.not_false, Bool.not_true, Bool.true_eq_false, Bool.false_eq_true, exists_false, Bool.not_eq_false, Bool.not_not, AV.val.injEq, AV.ptr.injEq, AV.slice.injEq, AV.func.injEq, AV.tuple.injEq, AV.agg.injEq, Value.bool.injEq, Value.int.injEq, Option.some.injEq, exists_eq_left', exists_eq_left, exists_and_left, exists_and_right, and_true, true_and, decide_eq_true_eq, decide_eq_false_iff_not, if_true, if_false, Bool.not_eq_true', beq_true, beq_false, ne_eq, not_true_eq_false, not_false_eq_true, reduceCtorEq, List.getD_cons_zero, List.getD_cons_succ, List.map_cons, List.map_nil, List.append_nil, Nat.reduceEqDiff, reduceIte, ite_true, ite_false, or_true, true_or, or_false, false_or, resA, resultsA, true_imp_iff, false_imp_iff, implies_true, imp_false, and_self, imp_self, and_false, false_and, forall_const, cell_val, cell_ptr, cell_slice, cell_func, cell_hole, cells_agg, cells_val, cells_ptr, cells_slice, cells_func, cells_hole, cells_cell, List.length_cons, List.length_nil, List.all_cons, List.all_nil, Bool.and_self, ldA, List.mapM_cons, List.mapM_nil, Option.bind_eq_bind, Option.bind_some, Option.pure_def, Option.map_none, Option.map_some, List.set_cons_zero, List.set_cons_succ, Nat.lt_add_one, List.append_assoc, List.cons_append, List.nil_append, List.append_nil, List.length_append, rd1_n0, rd1_nK, rd1_c0, rd1_cS, rd_n0, rd_nK, rd_c0, rd_cS, fillA, List.take_zero, List.take_succ_cons, List.take_nil, List.drop_zero, List.drop_succ_cons, List.drop_nil, List.getElem?_cons_zero, List.getElem?_cons_succ, Nat.reduceAdd, Nat.reduceLeDiff, Nat.add_eq_zero_iff, and_self, Nat.zero_add, Nat.add_zero, Nat.mul_one, a1, s1, a0, s0, an, sn, mul_u, add_u, Int.one_mul, Int.zero_mul, Int.mul_zero, Int.add_zero, Int.zero_add, w0, wn, *]) | (simp only [goO, AO_nil, then_normal, goC]) | (with_reducible apply And.intro) | (with_reducible intro _))
theorem mul_am {n : Nat} (hn : n ≤ 1000) (hK : K (.tuple [U64 0, U64 (n : Nat)]) h) : AC (constX tb) (cFunc Try.prog) 37 [U64 1, U64 (n : Nat)] fl h K := by
  refine AC.enter rfl f_mk_mul (by simp) ?_
  simp only [c_mk_mul]
  have HN := Lib.hid hn
  clear hn
  repeat' (first | (simp only [AW_next, AW_ops, AW_opsD, AW_cond, AW_block, AW_exit, AW_ret, AW_skip, AW_scope, AO_nil, AO_next, AO_nextW, wantB_bool, wantK_some, then_normal, then_exit, then_ret, inBlk_normal, inBlk_exit, inBlk_ret, A1_mv, A1_pick, A1_box, A1_zero, A1_build, A1_lits, A1_load, shallow_none, A1_store, A1_nilCheckI, nilOk_ptr, nilOk_func, A1_bin, A1_eqNil, A1_eqBool, A1_eqAgg, A1_un, A1_conv, A1_field, A1_fieldAddr, A1_indexAddr, A1_indexArr, A1_index, A1_slice, A1_mkSlice, A1_extract, A1_func, A1_call, callee_func, callee_bfunc, A1_append, A1_len, A1_minmax, put_some, put_none, upd_at, ev_tmp, ev_av, bin_lss, bin_leq, bin_gtr, bin_geq, bin_eql, bin_neq, bin_add, bin_sub, bin_mul, un_not, natOf_nat, Bool.not_eq_false', Prod.mk.injEq, and_assoc, decide_false, decide_true, Bool.not_false, Bool.not_true, Bool.true_eq_false, Bool.false_eq_true, exists_false, Bool.not_eq_false, Bool.not_not, AV.val.injEq, AV.ptr.injEq, AV.slice.injEq, AV.func.injEq, AV.tuple.injEq, AV.agg.injEq, Value.bool.injEq, Value.int.injEq, Option.some.injEq, exists_eq_left', exists_eq_left, exists_and_left, exists_and_right, and_true, true_and, decide_eq_true_eq, decide_eq_false_iff_not, if_true, if_false, Bool.not_eq_true', beq_true, beq_false, ne_eq, not_true_eq_false, not_false_eq_true, reduceCtorEq, List.getD_cons_zero, List.getD_cons_succ, List.map_cons, List.map_nil, List.append_nil, Nat.reduceEqDiff, reduceIte, ite_true, ite_false, or_true, true_or, or_false, false_or, resA, resultsA, true_imp_iff, false_imp_iff, implies_true, imp_false, and_self, imp_self, and_false, false_and, forall_const, cell_val, cell_ptr, cell_slice, cell_func, cell_hole, cells_agg, cells_val, cells_ptr, cells_slice, cells_func, cells_hole, cells_cell, List.length_cons, List.length_nil, List.all_cons, List.all_nil, Bool.and_self, ldA, List.mapM_cons, List.mapM_nil, Option.bind_eq_bind, Option.bind_some, Option.pure_def, Option.map_none, Option.map_some, List.set_cons_zero, List.set_cons_succ, Nat.lt_add_one, List.append_assoc, List.cons_append, List.nil_append, List.append_nil, List.length_append, rd1_n0, rd1_nK, rd1_c0, rd1_cS, rd_n0, rd_nK, rd_c0, rd_cS, fillA, List.take_zero, List.take_succ_cons, List.take_nil, List.drop_zero, List.drop_succ_cons, List.drop_nil, List.getElem?_cons_zero, List.getElem?_cons_succ, Nat.reduceAdd, Nat.reduceLeDiff, Nat.add_eq_zero_iff, and_self, Nat.zero_add, Nat.add_zero, Nat.mul_one, *]) | (simp only [goO, AO_nil, then_normal, goC]) | (with_reducible apply And.intro) | (with_reducible intro _))
  refine mul64_am HN.out ?_
  repeat' (first | (simp only [AW_next, AW_ops, AW_opsD, AW_cond, AW_block, AW_exit, AW_ret, AW_skip, AW_scope, AO_nil, AO_next, AO_nextW, wantB_bool, wantK_some, then_normal, then_exit, then_ret, inBlk_normal, inBlk_exit, inBlk_ret, A1_mv, A1_pick, A1_box, A1_zero, A1_build, A1_lits, A1_load, shallow_none, A1_store, A1_nilCheckI, nilOk_ptr, nilOk_func, A1_bin, A1_eqNil, A1_eqBool, A1_eqAgg, A1_un, A1_conv, A1_field, A1_fieldAddr, A1_indexAddr, A1_indexArr, A1_index, A1_slice, A1_mkSlice, A1_extract, A1_func, A1_call, callee_func, callee_bfunc, A1_append, A1_len, A1_minmax, put_some, put_none, upd_at, ev_tmp, ev_av, bin_lss, bin_leq, bin_gtr, bin_geq, bin_eql, bin_neq, bin_add, bin_sub, bin_mul, un_not, natOf_nat, Bool.not_eq_false', Prod.mk.injEq, and_assoc, decide_false, decide_true, Bool.not_false, Bool.not_true, Bool.true_eq_false, Bool.false_eq_true, exists_false, Bool.not_eq_false, Bool.not_not, AV.val.injEq, AV.ptr.injEq, AV.slice.injEq, AV.func.injEq, AV.tuple.injEq, AV.agg.injEq, Value.bool.injEq, Value.int.injEq, Option.some.injEq, exists_eq_left', exists_eq_left, exists_and_left, exists_and_right, and_true, true_and, decide_eq_true_eq, decide_eq_false_iff_not, if_true, if_false, Bool.not_eq_true', beq_true, beq_false, ne_eq, not_true_eq_false, not_false_eq_true, reduceCtorEq, List.getD_cons_zero, List.getD_cons_succ, List.map_cons, List.map_nil, List.append_nil, Nat.reduceEqDiff, reduceIte, ite_true, ite_false, or_true, true_or, or_false, false_or, resA, resultsA, true_imp_iff, false_imp_iff, implies_true, imp_false, and_self, imp_self, and_false, false_and, forall_const, cell_val, cell_ptr, cell_slice, cell_func, cell_hole, cells_agg, cells_val, cells_ptr, cells_slice, cells_func, cells_hole, cells_cell, List.length_cons, List.length_nil, List.all_cons, List.all_nil, Bool.and_self, ldA, List.mapM_cons, List.mapM_nil, Option.bind_eq_bind, Option.bind_some, Option.pure_def, Option.map_none, Option.map_some, List.set_cons_zero, List.set_cons_succ, Nat.lt_add_one, List.append_assoc, List.cons_append, List.nil_append, List.append_nil, List.length_append, rd1_n0, rd1_nK, rd1_c0, rd1_cS, rd_n0, rd_nK, rd_c0, rd_cS, fillA, List.take_zero, List.take_succ_cons, List.take_nil, List.drop_zero, List.drop_succ_cons, List.drop_nil, List.getElem?_cons_zero, List.getElem?_cons_succ, Nat.reduceAdd, Nat.reduceLeDiff, Nat.add_eq_zero_iff, and_self, Nat.zero_add, Nat.add_zero, Nat.mul_one, *]) | (simp only [goO, AO_nil, then_normal, goC]) | (with_reducible apply And.intro) | (with_reducible intro _))
def copyA (fl : Nat → Bool) (h : Heap) (k : Nat) (x y : AV) : Option (AV × Heap) := match x, rowOf h k y with
    | .val (.slice none 0 0), some _ => some (.val (.int .i64 0), h)
    | .hole, some _ => some (.val (.int .i64 0), h)
    | .slice id off len _ _ _, some (n, cs) => match wr fl h id off (cs.take (min n len * k)) with
      | some h' => some (.val (.int .i64 (min n len : Nat)), h')
      | none => none
    | _, _ => none
theorem A1_copyG {X : XT} {F : FuncId → Option AFunc} {top : Option (Nat × Option (List Nat))} {s : Slots} {kk : Nat} {x y : Opd} : A1 X F top fl (.copy kk x y) s h K ↔ ∃ v h', copyA fl h kk (x.ev s) (y.ev s) = some (v, h') ∧ K v h' := Iff.rfl
theorem copy_last {c cs : List AV} {o ln lb ns : Nat} {ex : Bool} {src : AV} (hs : rowOf (h ++ [some c]) 1 src = some (ns, cs)) (hf : fl h.length = true) (hfit : o + (cs.take (min ns ln * 1)).length ≤ c.length) :
    copyA fl (h ++ [some c]) 1 (.slice h.length o ln lb ex 1) src = some (.val (.int .i64 (min ns ln : Nat)), h ++ [some (c.take o ++ cs.take (min ns ln) ++ c.drop (o + (cs.take (min ns ln)).length))]) := by
  have hb : blk (h ++ [some c]) h.length = some c := by rw [blk_at0]; rfl
  rw [Nat.mul_one] at hfit
  simp only [copyA, hs, Nat.mul_one, wr, hb]
  rw [if_pos ⟨hf, hfit⟩]
  simp only [List.set_append_right _ _ (Nat.le_refl _), Nat.sub_self, List.set_cons_zero]
theorem row_last {c : List AV} {o ln lb : Nat} {ex : Bool} (hl : o + ln ≤ c.length) : rowOf (h ++ [some c]) 1 (.slice h.length o ln lb ex 1) = some (ln, (c.drop o).take ln) := by
  have hb : blk (h ++ [some c]) h.length = some c := by rw [blk_at0]; rfl
  simp only [rowOf, rd, hb, Nat.mul_one]
  rw [if_pos hl]
theorem cut_lo {id o ln : Nat} {m : Nat} (hm : m ≤ ln) : sliceA 1 (.slice id o ln ln true 1) (some (I64 (m : Nat))) none none = some (.slice id (o + m) (ln - m) (ln - m) true 1) := by
  simp [sliceA, natOfA, intOfA, hm]
theorem cut_hi {id o ln : Nat} {m : Nat} (hm : m ≤ ln) : sliceA 1 (.slice id o ln ln true 1) none (some (I64 (m : Nat))) none = some (.slice id o m ln true 1) := by
  simp [sliceA, natOfA, intOfA, hm]
def repC (x : Int) (m n : Nat) : List AV := List.replicate m (I64 x) ++ List.replicate (n - m) (I64 0)
theorem repC_len {x : Int} {m n : Nat} (h : m ≤ n) : (repC x m n).length = n := by simp [repC]; omega
theorem repC_step {x : Int} {m n j : Nat} (h : m ≤ n) (hj : j ≤ m) (hmj : m + j ≤ n) : (repC x m n).take m ++ (((repC x m n).drop 0).take m).take j ++ (repC x m n).drop (m + j) = repC x (m + j) n := by
  have e : (repC x m n).take m = List.replicate m (I64 x) := by unfold repC; rw [List.take_left' (by simp)]
  rw [List.drop_zero, e, List.take_replicate, Nat.min_eq_left hj]
  unfold repC
  rw [List.drop_append, List.length_replicate, List.drop_eq_nil_of_le (by simp)]
  rw [Nat.add_sub_cancel_left, List.drop_replicate, List.nil_append, List.replicate_append_replicate, Nat.sub_sub]
set_option maxHeartbeats 2000000 in
theorem repeat_am {lv : AV} {x : Int} {n : Nat} (hn : n ≤ 1000) (hl : IL h lv [x]) (hf : ∀ i, h.length ≤ i → fl i = true) (hK : K (.slice h.length 0 n n true 1) (h ++ [some ((List.replicate n x).map I64)])) :
    AC (constX tb) (cFunc Try.prog) 28 [lv, I64 (n : Nat)] fl h K := by
  refine AC.enter rfl f_mk_repeat (by simp) ?_
  simp only [c_mk_repeat]
  have HN := Lib.hid hn
  have l1 := hl.len
  have w1 : IntKind.u64.wrap 1 = 1 := by rfl
  have wn : IntKind.u64.wrap (n : Int) = (n : Int) := IntWalk.u64_in _ (by omega)
  have wi : IntKind.i64.wrap (n : Int) = (n : Int) := IntWalk.i64_in _ (by omega)
  have g0 : ¬ ((n : Int) < 0) := by omega
  have g1 : ¬ ((0 : Int) < 0) := by omega
  have g2 : ¬ ((9223372036854775807 : Int) < (n : Int)) := by omega
  have hr : n * 8 ≤ reach := by unfold reach; omega
  have HL := Lib.hid hl
  have HF := Lib.hid hf
  have HK := Lib.hid hK
  clear hl hf hK hn
  simp only [List.length_singleton] at l1
  repeat' (first | (simp only [AW_next, AW_ops, AW_opsD, AW_cond, AW_block, AW_exit, AW_ret, AW_skip, AW_scope, AO_nil, AO_next, AO_nextW, wantB_bool, wantK_some, then_normal, then_exit, then_ret, inBlk_normal, inBlk_exit, inBlk_ret, A1_mv, A1_pick, A1_box, A1_zero, A1_build, A1_lits, A1_load, shallow_none, A1_store, A1_nilCheckI, nilOk_ptr, nilOk_func, A1_bin, A1_eqNil, A1_eqBool, A1_eqAgg, A1_un, A1_conv, A1_field, A1_fieldAddr, A1_indexAddr, A1_indexArr, A1_index, A1_slice, A1_mkSlice, A1_extract, A1_func, A1_call, callee_func, callee_bfunc, A1_append, A1_len, A1_minmax, put_some, put_none, upd_at, ev_tmp, ev_av, bin_lss, bin_leq, bin_gtr, bin_geq, bin_eql, bin_neq, bin_add, bin_sub, bin_mul, un_not, natOf_nat, Bool.not_eq_false', Prod.mk.injEq, and_assoc, decide_false, decide_true, Bool.not_false, Bool.not_true, Bool.true_eq_false, Bool.false_eq_true, exists_false, Bool.not_eq_false, Bool.not_not, AV.val.injEq, AV.ptr.injEq, AV.slice.injEq, AV.func.injEq, AV.tuple.injEq, AV.agg.injEq, Value.bool.injEq, Value.int.injEq, Option.some.injEq, exists_eq_left', exists_eq_left, exists_and_left, exists_and_right, and_true, true_and, decide_eq_true_eq, decide_eq_false_iff_not, if_true, if_false, Bool.not_eq_true', beq_true, beq_false, ne_eq, not_true_eq_false, not_false_eq_true, reduceCtorEq, List.getD_cons_zero, List.getD_cons_succ, List.map_cons, List.map_nil, List.append_nil, Nat.reduceEqDiff, reduceIte, ite_true, ite_false, or_true, true_or, or_false, false_or, resA, resultsA, true_imp_iff, false_imp_iff, implies_true, imp_false, and_self, imp_self, and_false, false_and, forall_const, cell_val, cell_ptr, cell_slice, cell_func, cell_hole, cells_agg, cells_val, cells_ptr, cells_slice, cells_func, cells_hole, cells_cell, List.length_cons, List.length_nil, List.all_cons, List.all_nil, Bool.and_self, ldA, List.mapM_cons, List.mapM_nil, Option.bind_eq_bind, Option.bind_some, Option.pure_def, Option.map_none, Option.map_some, List.set_cons_zero, List.set_cons_succ, Nat.lt_add_one, List.append_assoc, List.cons_append, List.nil_append, List.append_nil, List.length_append, rd1_n0, rd1_nK, rd1_c0, rd1_cS, rd_n0, rd_nK, rd_c0, rd_cS, fillA, List.take_zero, List.take_succ_cons, List.take_nil, List.drop_zero, List.drop_succ_cons, List.drop_nil, List.getElem?_cons_zero, List.getElem?_cons_succ, Nat.reduceAdd, Nat.reduceLeDiff, Nat.add_eq_zero_iff, and_self, Nat.zero_add, Nat.add_zero, Nat.mul_one, l1, w1, wn, Int.natCast_one, *]) | (simp only [goO, AO_nil, then_normal, goC]) | (with_reducible apply And.intro) | (with_reducible intro _))
  refine mul_am HN.out ?_
  have hflat : (List.replicate n [I64 0]).flatten = repC x 0 n := by
    unfold repC
    simp only [List.replicate_zero, List.nil_append, Nat.sub_zero]
    induction n with
    | zero => rfl
    | succ n ih => simp [List.replicate_succ]
  have hrow : rowOf (h ++ [some (repC x 0 n)]) 1 lv = some (1, [I64 x]) := (HL.out.ext _).row
  have hc := copy_last (fl := fl) (o := 0) (ln := n) (lb := n) (ex := true) hrow (HF.out _ (Nat.le_refl _)) (by rw [repC_len (by omega)]; simp; omega)
  have hc2 : (repC x 0 n).take 0 ++ [I64 x].take (min 1 n) ++ (repC x 0 n).drop (0 + ([I64 x].take (min 1 n)).length) = repC x (min 1 n) n := by
    rcases Nat.eq_zero_or_pos n with rfl | hp
    · rfl
    · rw [Nat.min_eq_left hp]
      unfold repC
      simp [List.drop_replicate]
  rw [hc2] at hc
  clear hc2 hrow
  have hln : ∀ lb, lenA (.slice h.length 0 n lb true 1) = some n := fun _ => rfl
  obtain ⟨m0, hm0⟩ : ∃ m0, m0 = min 1 n := ⟨_, rfl⟩
  rw [← hm0] at hc
  have HM := Lib.hid hm0
  clear hm0
  repeat' (first | (simp only [AW_next, AW_ops, AW_opsD, AW_cond, AW_block, AW_exit, AW_ret, AW_skip, AW_scope, AO_nil, AO_next, AO_nextW, wantB_bool, wantK_some, then_normal, then_exit, then_ret, inBlk_normal, inBlk_exit, inBlk_ret, A1_mv, A1_pick, A1_box, A1_zero, A1_build, A1_lits, A1_load, shallow_none, A1_store, A1_nilCheckI, nilOk_ptr, nilOk_func, A1_bin, A1_eqNil, A1_eqBool, A1_eqAgg, A1_un, A1_conv, A1_field, A1_fieldAddr, A1_indexAddr, A1_indexArr, A1_index, A1_slice, A1_mkSlice, A1_extract, A1_func, A1_call, callee_func, callee_bfunc, A1_append, A1_len, A1_minmax, put_some, put_none, upd_at, ev_tmp, ev_av, bin_lss, bin_leq, bin_gtr, bin_geq, bin_eql, bin_neq, bin_add, bin_sub, bin_mul, un_not, natOf_nat, Bool.not_eq_false', Prod.mk.injEq, and_assoc, decide_false, decide_true, Bool.not_false, Bool.not_true, Bool.true_eq_false, Bool.false_eq_true, exists_false, Bool.not_eq_false, Bool.not_not, AV.val.injEq, AV.ptr.injEq, AV.slice.injEq, AV.func.injEq, AV.tuple.injEq, AV.agg.injEq, Value.bool.injEq, Value.int.injEq, Option.some.injEq, exists_eq_left', exists_eq_left, exists_and_left, exists_and_right, and_true, true_and, decide_eq_true_eq, decide_eq_false_iff_not, if_true, if_false, Bool.not_eq_true', beq_true, beq_false, ne_eq, not_true_eq_false, not_false_eq_true, reduceCtorEq, List.getD_cons_zero, List.getD_cons_succ, List.map_cons, List.map_nil, List.append_nil, Nat.reduceEqDiff, reduceIte, ite_true, ite_false, or_true, true_or, or_false, false_or, resA, resultsA, true_imp_iff, false_imp_iff, implies_true, imp_false, and_self, imp_self, and_false, false_and, forall_const, cell_val, cell_ptr, cell_slice, cell_func, cell_hole, cells_agg, cells_val, cells_ptr, cells_slice, cells_func, cells_hole, cells_cell, List.length_cons, List.length_nil, List.all_cons, List.all_nil, Bool.and_self, ldA, List.mapM_cons, List.mapM_nil, Option.bind_eq_bind, Option.bind_some, Option.pure_def, Option.map_none, Option.map_some, List.set_cons_zero, List.set_cons_succ, Nat.lt_add_one, List.append_assoc, List.cons_append, List.nil_append, List.append_nil, List.length_append, rd1_n0, rd1_nK, rd1_c0, rd1_cS, rd_n0, rd_nK, rd_c0, rd_cS, fillA, List.take_zero, List.take_succ_cons, List.take_nil, List.drop_zero, List.drop_succ_cons, List.drop_nil, List.getElem?_cons_zero, List.getElem?_cons_succ, Nat.reduceAdd, Nat.reduceLeDiff, Nat.add_eq_zero_iff, and_self, Nat.zero_add, Nat.add_zero, Nat.mul_one, A1_copyG, gtr_u, g1, g2, wi, natOf_nat, hr, Nat.le_refl, beq_self_eq_true, hflat, hc, *]) | (simp only [goO, AO_nil, then_normal, goC]) | (with_reducible apply And.intro) | (with_reducible intro _))
  refine AW.named fun S hS => ?_
  have s7 : S 7 = .slice h.length 0 n n true 1 := by rw [hS]; rfl
  have s8 : S 8 = I64 (m0 : Nat) := by rw [hS]; rfl
  clear hS hc hflat
  refine AW_while (fun r s' h' => ∃ m : Nat, r = n - m ∧ m ≤ n ∧ (n = 0 ∨ 0 < m) ∧ s' 8 = I64 (m : Nat) ∧ h' = h ++ [some (repC x m n)]) (n - m0) ⟨m0, rfl, by have := HM.out; omega, by have := HM.out; omega, s8, rfl⟩ ?_
  clear s8
  rintro r s' h' ⟨m, rfl, hmn, hpos, s8, rfl⟩ hs
  have f7 := (hs 7 (by decide)).trans s7
  clear hs s7
  by_cases hlt : m < n
  · have g3 : (m : Int) < (n : Int) := by omega
    have c1 := cut_lo (id := h.length) (o := 0) hmn
    have c2 := cut_hi (id := h.length) (o := 0) hmn
    rw [Nat.zero_add] at c1
    have hrow := row_last (h := h) (c := repC x m n) (o := 0) (ln := m) (lb := n) (ex := true) (by rw [repC_len hmn]; omega)
    have htl : (((repC x m n).drop 0).take m).length = m := by rw [List.length_take, List.drop_zero, repC_len hmn]; omega
    have hc := copy_last (fl := fl) (o := m) (ln := n - m) (lb := n - m) (ex := true) hrow (HF.out _ (Nat.le_refl _)) (by rw [repC_len hmn, List.length_take, htl]; omega)
    rw [show (List.take (min m (n - m)) (((repC x m n).drop 0).take m)).length = min m (n - m) by rw [List.length_take, htl]; omega] at hc
    rw [repC_step hmn (Nat.min_le_left _ _) (by omega)] at hc
    have wa : IntKind.i64.wrap ((m : Int) + ((min m (n - m) : Nat) : Int)) = ((m + min m (n - m) : Nat) : Int) := by have := HN.out; rw [IntWalk.i64_in _ (by omega)]; omega
    obtain ⟨q, hq⟩ : ∃ q, q = min m (n - m) := ⟨_, rfl⟩
    rw [← hq] at hc wa
    have fin : ∃ r2, r2 < n - m ∧ ∃ m2 : Nat, r2 = n - m2 ∧ m2 ≤ n ∧ (n = 0 ∨ 0 < m2) ∧ ((m + q : Nat) : Int) = ((m2 : Nat) : Int) ∧ h ++ [some (repC x (m + q) n)] = h ++ [some (repC x m2 n)] :=
      ⟨n - (m + q), by omega, m + q, rfl, by omega, by omega, rfl, rfl⟩
    have FI := Lib.hid fin
    clear hrow htl hq fin g0 g1 g2 hpos hmn
    repeat' (first | (simp only [AW_next, AW_ops, AW_opsD, AW_cond, AW_block, AW_exit, AW_ret, AW_skip, AW_scope, AO_nil, AO_next, AO_nextW, wantB_bool, wantK_some, then_normal, then_exit, then_ret, inBlk_normal, inBlk_exit, inBlk_ret, A1_mv, A1_pick, A1_box, A1_zero, A1_build, A1_lits, A1_load, shallow_none, A1_store, A1_nilCheckI, nilOk_ptr, nilOk_func, A1_bin, A1_eqNil, A1_eqBool, A1_eqAgg, A1_un, A1_conv, A1_field, A1_fieldAddr, A1_indexAddr, A1_indexArr, A1_index, A1_slice, A1_mkSlice, A1_extract, A1_func, A1_call, callee_func, callee_bfunc, A1_append, A1_len, A1_minmax, put_some, put_none, upd_at, ev_tmp, ev_av, bin_lss, bin_leq, bin_gtr, bin_geq, bin_eql, bin_neq, bin_add, bin_sub, bin_mul, un_not, natOf_nat, Bool.not_eq_false', Prod.mk.injEq, and_assoc, decide_false, decide_true, Bool.not_false, Bool.not_true, Bool.true_eq_false, Bool.false_eq_true, exists_false, Bool.not_eq_false, Bool.not_not, AV.val.injEq, AV.ptr.injEq, AV.slice.injEq, AV.func.injEq, AV.tuple.injEq, AV.agg.injEq, Value.bool.injEq, Value.int.injEq, Option.some.injEq, exists_eq_left', exists_eq_left, exists_and_left, exists_and_right, and_true, true_and, decide_eq_true_eq, decide_eq_false_iff_not, if_true, if_false, Bool.not_eq_true', beq_true, beq_false, ne_eq, not_true_eq_false, not_false_eq_true, reduceCtorEq, List.getD_cons_zero, List.getD_cons_succ, List.map_cons, List.map_nil, List.append_nil, Nat.reduceEqDiff, reduceIte, ite_true, ite_false, or_true, true_or, or_false, false_or, resA, resultsA, true_imp_iff, false_imp_iff, implies_true, imp_false, and_self, imp_self, and_false, false_and, forall_const, cell_val, cell_ptr, cell_slice, cell_func, cell_hole, cells_agg, cells_val, cells_ptr, cells_slice, cells_func, cells_hole, cells_cell, List.length_cons, List.length_nil, List.all_cons, List.all_nil, Bool.and_self, ldA, List.mapM_cons, List.mapM_nil, Option.bind_eq_bind, Option.bind_some, Option.pure_def, Option.map_none, Option.map_some, List.set_cons_zero, List.set_cons_succ, Nat.lt_add_one, List.append_assoc, List.cons_append, List.nil_append, List.append_nil, List.length_append, rd1_n0, rd1_nK, rd1_c0, rd1_cS, rd_n0, rd_nK, rd_c0, rd_cS, fillA, List.take_zero, List.take_succ_cons, List.take_nil, List.drop_zero, List.drop_succ_cons, List.drop_nil, List.getElem?_cons_zero, List.getElem?_cons_succ, Nat.reduceAdd, Nat.reduceLeDiff, Nat.add_eq_zero_iff, and_self, Nat.zero_add, Nat.add_zero, Nat.mul_one, A1_copyG, c1, c2, hc, wa, hln, *]) | (simp only [goO, AO_nil, then_normal, goC]) | (with_reducible apply And.intro) | (with_reducible intro _))
    exact FI.out
  · have hm : m = n := by omega
    subst hm
    have g3 : ((m : Int) < (m : Int)) = False := by simp
    have hrp : repC x m m = (List.replicate m x).map I64 := by unfold repC; simp
    have fin : K (.slice h.length 0 m m true 1) (h ++ [some (repC x m m)]) := by rw [hrp]; exact HK.out
    clear hrp
    clear g0 g1 g2
    have g4 : ¬ ((m : Int) < (m : Int)) := by omega
    repeat' (first | (simp only [AW_next, AW_ops, AW_opsD, AW_cond, AW_block, AW_exit, AW_ret, AW_skip, AW_scope, AO_nil, AO_next, AO_nextW, wantB_bool, wantK_some, then_normal, then_exit, then_ret, inBlk_normal, inBlk_exit, inBlk_ret, A1_mv, A1_pick, A1_box, A1_zero, A1_build, A1_lits, A1_load, shallow_none, A1_store, A1_nilCheckI, nilOk_ptr, nilOk_func, A1_bin, A1_eqNil, A1_eqBool, A1_eqAgg, A1_un, A1_conv, A1_field, A1_fieldAddr, A1_indexAddr, A1_indexArr, A1_index, A1_slice, A1_mkSlice, A1_extract, A1_func, A1_call, callee_func, callee_bfunc, A1_append, A1_len, A1_minmax, put_some, put_none, upd_at, ev_tmp, ev_av, bin_lss, bin_leq, bin_gtr, bin_geq, bin_eql, bin_neq, bin_add, bin_sub, bin_mul, un_not, natOf_nat, Bool.not_eq_false', Prod.mk.injEq, and_assoc, decide_false, decide_true, Bool.not_false, Bool.not_true, Bool.true_eq_false, Bool.false_eq_true, exists_false, Bool.not_eq_false, Bool.not_not, AV.val.injEq, AV.ptr.injEq, AV.slice.injEq, AV.func.injEq, AV.tuple.injEq, AV.agg.injEq, Value.bool.injEq, Value.int.injEq, Option.some.injEq, exists_eq_left', exists_eq_left, exists_and_left, exists_and_right, and_true, true_and, decide_eq_true_eq, decide_eq_false_iff_not, if_true, if_false, Bool.not_eq_true', beq_true, beq_false, ne_eq, not_true_eq_false, not_false_eq_true, reduceCtorEq, List.getD_cons_zero, List.getD_cons_succ, List.map_cons, List.map_nil, List.append_nil, Nat.reduceEqDiff, reduceIte, ite_true, ite_false, or_true, true_or, or_false, false_or, resA, resultsA, true_imp_iff, false_imp_iff, implies_true, imp_false, and_self, imp_self, and_false, false_and, forall_const, cell_val, cell_ptr, cell_slice, cell_func, cell_hole, cells_agg, cells_val, cells_ptr, cells_slice, cells_func, cells_hole, cells_cell, List.length_cons, List.length_nil, List.all_cons, List.all_nil, Bool.and_self, ldA, List.mapM_cons, List.mapM_nil, Option.bind_eq_bind, Option.bind_some, Option.pure_def, Option.map_none, Option.map_some, List.set_cons_zero, List.set_cons_succ, Nat.lt_add_one, List.append_assoc, List.cons_append, List.nil_append, List.append_nil, List.length_append, rd1_n0, rd1_nK, rd1_c0, rd1_cS, rd_n0, rd_nK, rd_c0, rd_cS, fillA, List.take_zero, List.take_succ_cons, List.take_nil, List.drop_zero, List.drop_succ_cons, List.drop_nil, List.getElem?_cons_zero, List.getElem?_cons_succ, Nat.reduceAdd, Nat.reduceLeDiff, Nat.add_eq_zero_iff, and_self, Nat.zero_add, Nat.add_zero, Nat.mul_one, hln, *]) | (simp only [goO, AO_nil, then_normal, goC]) | (with_reducible apply And.intro) | (with_reducible intro _))
end
section
variable {tb : List (FuncId × Bool)} {L : Nat → Bool} {H : ZH} {K : ZV → ZH → Prop}
theorem repeat_z {z : ZV} {x : Int} {n : Nat} (hz : rowsZ H 1 z = some [[Z64 x]]) (hn : n ≤ 1000) (hK : K (.own H.length 0 0 n false) (H ++ [.grow 0 1 ((List.replicate n x).map eI)])) :
    ZC (constX tb) (cFunc Try.prog) 28 [z, Z64 (n : Nat)] L H K := by
  intro fl w args r e ha
  subst e
  obtain ⟨a, ha0, ha1⟩ := ha.get (i := 0) rfl
  obtain ⟨b, hb0, hb1⟩ := ha.get (i := 1) rfl
  have e2 : args = [a, b] := by
    have := ha.1
    match args, this, ha0, hb0 with
    | [x, y], _, hv0, hu0 => simp at hv0 hu0; rw [hv0, hu0]
  subst e2
  have e3 := hb1.val_inv
  subst e3
  refine repeat_am hn (il_of r ha1 (l := [x]) hz) r.fresh ?_
  have hnew : NewI w.h (w.h ++ [some ((List.replicate n x).map I64)]) (.slice w.h.length 0 n n false 1) (List.replicate n x) := by
    refine ⟨⟨by simp, .inr ⟨w.h.length, n, (List.replicate n x).map I64, by simp, by simp, by simp, by rw [blk_at0]; rfl, by simp⟩⟩, by simp [idOf], Keep.ext _ _⟩
  obtain ⟨w', q1, q2, q3, q4, q5⟩ := newI_w r hnew
  rw [List.length_replicate] at q5
  exact ⟨_, w', q1, q3, q4, q5.ownEx, by rw [q2]; exact hK⟩
end
end Go.Proofs.Ytblgljahhhdlhaa
