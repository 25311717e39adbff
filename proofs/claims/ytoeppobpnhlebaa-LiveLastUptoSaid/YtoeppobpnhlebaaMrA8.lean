/-
  live in ZM: the checks of a trace: all, large, one.
-/
import Derived.Test.YtoeppobpnhlebaaMrA7
namespace Go.Proofs.Ytoeppobpnhlebaa
open Go Go.RowKit
set_option linter.unusedVariables false
set_option linter.unusedSimpArgs false
variable {tb : List (FuncId × Bool)} {L : Nat → Bool} {H : ZH} {K : ZV → ZH → Prop}
/-- A trace. -/
structure Tr where
  fn : Int
  pl : Int
  lp : Int
  ins : List In
  exs : List Xt
  turn : Xt
  back : Xt
abbrev eTr (t : Tr) : List ZV := [Z64 t.fn, Z64 t.pl, Z64 t.lp, .fz 8 false (t.ins.map eIn), .fz 4 false (t.exs.map eXt), Z64 t.turn.1, Z64 t.turn.2.1, .fz 2 false (t.turn.2.2.1.map eP2), .fz 4 false (t.turn.2.2.2.map eMk), Z64 t.back.1, Z64 t.back.2.1, .fz 2 false (t.back.2.2.1.map eP2), .fz 4 false (t.back.2.2.2.map eMk)]
/-- No value of an instruction ahead of a place that tells one. -/
def badV (ins : List In) (p v : Int) : Bool := decide (v < 0) || decide (p ≤ v) || decide ((ins.length : Int) ≤ v) || !(match ins[v.toNat]? with
  | some x => (opE x.1).2
  | none => false)
theorem alla_z {i j : Nat} {t : Tr} {p v : Int} (hi : H[i]? = some (.box [Z64 p])) (hj : H[j]? = some (.box (eTr t))) (hn : t.ins.length ≤ 1000000) (hK : K (ZBo (badV t.ins p v)) H) :
    ZC (constX tb) (cFunc Try.prog) 51 [Z64 v, .ptr i 0, .ptr j 0] L H K := by
  obtain ⟨fn, pl, lp, ins, exs, turn, back⟩ := t
  refine ZC.enterL Gh.no constX_none f_li_alla (by simp) fun hL => ?_
  simp only [c_li_alla]
  simp only at hn hK hj
  have fin0 := Lib.hid (show ∀ b, badV ins p v = b → Fin H (ZBo b) H K from fun b hb => Fin.keep (H0 := H) (by rw [← hb]; exact hK))
  clear hK
  have hi2 : ∀ X, (H ++ X)[i]? = some (.box [Z64 p]) := fun X => by rw [List.getElem?_append_left (lt_of_get hi)]; exact hi
  have hj2 : ∀ X, (H ++ X)[j]? = some (.box _) := fun X => by rw [List.getElem?_append_left (lt_of_get hj)]; exact hj
  have hli := lt_of_get hi
  have hlj := lt_of_get hj
  by_cases h1 : v < 0
  · have fin := fin0.out true (by simp [badV, h1])
    repeat' (first | (simp only [zmPack, zxPack, ne_eq, zfree, owners, Nat.reduceLT, List.contains_cons, List.contains_nil, Nat.reduceBEq, BEq.rfl, chunk, setAt, List.lookup_cons, List.lookup_nil, reduceCtorEq, Nat.reduceEqDiff, reduceIte, implies_true, forall_const, Nat.reduceMul, Nat.reduceSub, Nat.reduceAdd, Nat.reduceLeDiff, hi, hj, hi2, hj2, h1, *]) | (simp only [zgoO, zgoG, zO_nil, zthen_normal, zgoC]) | (with_reducible apply And.intro) | (with_reducible intro _))
  · by_cases h2 : p ≤ v
    · have fin := fin0.out true (by simp [badV, h2])
      repeat' (first | (simp only [zmPack, zxPack, ne_eq, zfree, owners, Nat.reduceLT, List.contains_cons, List.contains_nil, Nat.reduceBEq, BEq.rfl, chunk, setAt, List.lookup_cons, List.lookup_nil, reduceCtorEq, Nat.reduceEqDiff, reduceIte, implies_true, forall_const, Nat.reduceMul, Nat.reduceSub, Nat.reduceAdd, Nat.reduceLeDiff, hi, hj, hi2, hj2, h1, h2, *]) | (simp only [zgoO, zgoG, zO_nil, zthen_normal, zgoC]) | (with_reducible apply And.intro) | (with_reducible intro _))
    · by_cases h3 : (ins.length : Int) ≤ v
      · have fin := fin0.out true (by simp [badV, h3])
        repeat' (first | (simp only [zmPack, zxPack, ne_eq, zfree, owners, Nat.reduceLT, List.contains_cons, List.contains_nil, Nat.reduceBEq, BEq.rfl, chunk, setAt, List.lookup_cons, List.lookup_nil, reduceCtorEq, Nat.reduceEqDiff, reduceIte, implies_true, forall_const, Nat.reduceMul, Nat.reduceSub, Nat.reduceAdd, Nat.reduceLeDiff, hi, hj, hi2, hj2, h1, h2, h3, *]) | (simp only [zgoO, zgoG, zO_nil, zthen_normal, zgoC]) | (with_reducible apply And.intro) | (with_reducible intro _))
      · obtain ⟨n, rfl⟩ : ∃ n : Nat, v = (n : Int) := ⟨v.toNat, by omega⟩
        have hnl : n < ins.length := by omega
        have hx : ins[n]? = some ins[n] := List.getElem?_eq_getElem hnl
        obtain ⟨q, hq⟩ : ∃ q, q = ins[n] := ⟨_, rfl⟩
        rw [← hq] at hx
        clear hq
        have fin := fin0.out (!(opE q.1).2) (by
          have h1' : decide ((n : Int) < 0) = false := decide_eq_false h1
          have h2' : decide (p ≤ (n : Int)) = false := decide_eq_false h2
          have h3' : decide ((ins.length : Int) ≤ (n : Int)) = false := decide_eq_false h3
          simp only [badV, Int.toNat_natCast, hx, h1', h2', h3', Bool.false_or])
        repeat' (first | (simp only [zmPack, zxPack, ne_eq, zfree, owners, Nat.reduceLT, List.contains_cons, List.contains_nil, Nat.reduceBEq, BEq.rfl, chunk, setAt, List.lookup_cons, List.lookup_nil, reduceCtorEq, Nat.reduceEqDiff, reduceIte, implies_true, forall_const, Nat.reduceMul, Nat.reduceSub, Nat.reduceAdd, Nat.reduceLeDiff, hi, hj, hi2, hj2, h1, h2, h3, hx, *]) | (simp only [zgoO, zgoG, zO_nil, zthen_normal, zgoC]) | (with_reducible apply And.intro) | (with_reducible intro _))
        refine tells_z ?_
        repeat' (first | (simp only [zmPack, zxPack, ne_eq, zfree, owners, Nat.reduceLT, List.contains_cons, List.contains_nil, Nat.reduceBEq, BEq.rfl, chunk, setAt, List.lookup_cons, List.lookup_nil, reduceCtorEq, Nat.reduceEqDiff, reduceIte, implies_true, forall_const, Nat.reduceMul, Nat.reduceSub, Nat.reduceAdd, Nat.reduceLeDiff, *]) | (simp only [zgoO, zgoG, zO_nil, zthen_normal, zgoC]) | (with_reducible apply And.intro) | (with_reducible intro _))
abbrev zX (x : Xt) : ZV := .agg (eXt x)
abbrev zMk (x : Mk) : ZV := .agg (eMk x)
/-- The first one of which it is true. -/
def idxP {α : Type} (p : α → Bool) (l : List α) : Int := match l.findIdx? p with
  | some i => (i : Int)
  | none => -1
theorem idx_ge {α : Type} {p : α → Bool} {l : List α} : decide ((0 : Int) ≤ idxP p l) = l.any p := by
  unfold idxP
  cases h : l.findIdx? p with
  | none =>
    have := List.findIdx?_eq_none_iff.1 h
    simp only [Int.reduceNeg, show ¬ ((0 : Int) ≤ -1) by omega, decide_false]
    symm
    rw [List.any_eq_false]
    intro x hx; rw [this x hx]; simp
  | some i =>
    obtain ⟨h1, h2, _⟩ := List.findIdx?_eq_some_iff_getElem.1 h
    have h3 : (0 : Int) ≤ (i : Int) := by omega
    simp only [h3, decide_true]
    symm
    exact List.any_eq_true.2 ⟨_, List.getElem_mem h1, h2⟩
def NoneY {α : Type} (p : α → Bool) (l : List α) : Prop := ∀ x ∈ l, p x = false
theorem idxI_z {z : ZV} {l : List Int} {p : Int → Bool} {f : FuncId} {caps : List ZV} (hz : rowsZ H 1 z = some (l.map eI)) (hb : l.length ≤ 100000000000000) (hf : ∀ m ∈ l, ∀ K, K (ZBo (p m)) H → ZC (constX tb) (cFunc Try.prog) f (Z64 m :: caps) L H K) (hK : K (Z64 (idxP p l)) H) :
    ZC (constX tb) (cFunc Try.prog) 60 [z, .func f caps] L H K := by
  refine ZC.enter Gh.no constX_none f_li_ifI (by simp) ?_
  simp only [c_li_ifI]
  have hlen := rows_len hz
  rw [List.length_map] at hlen
  have HF := Lib.hid hf
  have HK := Lib.hid hK
  clear hf hK
  repeat' (first | (simp only [zmPack, zxPack, ne_eq, zfree, owners, Nat.reduceLT, List.contains_cons, List.contains_nil, Nat.reduceBEq, BEq.rfl, chunk, setAt, List.lookup_cons, List.lookup_nil, reduceCtorEq, Nat.reduceEqDiff, reduceIte, implies_true, forall_const, Nat.reduceMul, Nat.reduceSub, Nat.reduceAdd, Nat.reduceLeDiff, hlen, *]) | (simp only [zgoO, zgoG, zO_nil, zthen_normal, zgoC]) | (with_reducible apply And.intro) | (with_reducible intro _))
  refine zW_forK [(0, z), (1, .func f caps)] l.length (fun k s' h' => h' = H ∧ NoneY p (l.take k)) (by omega) ⟨rfl, rfl, rfl, rfl, rfl, rfl⟩ rfl rfl (by repeat' (first | exact trivial | (refine ⟨rfl, ?_⟩) | (refine ⟨by simp only [zupd_at, Nat.reduceEqDiff, reduceIte]; assumption, ?_⟩))) rfl rfl (by decide) ⟨rfl, by simp [NoneY]⟩ ?_ ?_
  · rintro k s' h' hk ⟨rfl, hno⟩ hi hl ⟨f0, f1, -⟩
    obtain ⟨q, hq, hld⟩ := rows_at hz hk
    have HN := Lib.hid hno
    clear hno
    repeat' (first | (simp only [zmPack, zxPack, ne_eq, zfree, owners, Nat.reduceLT, List.contains_cons, List.contains_nil, Nat.reduceBEq, BEq.rfl, chunk, setAt, List.lookup_cons, List.lookup_nil, reduceCtorEq, Nat.reduceEqDiff, reduceIte, implies_true, forall_const, Nat.reduceMul, Nat.reduceSub, Nat.reduceAdd, Nat.reduceLeDiff, hq, hld, *]) | (simp only [zgoO, zgoG, zO_nil, zthen_normal, zgoC]) | (with_reducible apply And.intro) | (with_reducible intro _))
    refine HF.out _ (List.getElem_mem hk) _ ?_
    cases hp : p l[k] with
    | true =>
      have hi : idxP p l = (k : Int) := by
        have : l.findIdx? p = some k := by
          rw [List.findIdx?_eq_some_iff_getElem]
          exact ⟨hk, hp, fun j hj => by simp only [Bool.not_eq_true]; exact HN.out _ (by rw [List.mem_take_iff_getElem]; exact ⟨j, by omega, rfl⟩)⟩
        simp only [idxP, this]
      have hK := HK.out
      rw [hi] at hK
      have fin := Fin.keep (H0 := h') hK
      clear hp hi hK hld
      repeat' (first | (simp only [zmPack, zxPack, ne_eq, zfree, owners, Nat.reduceLT, List.contains_cons, List.contains_nil, Nat.reduceBEq, BEq.rfl, chunk, setAt, List.lookup_cons, List.lookup_nil, reduceCtorEq, Nat.reduceEqDiff, reduceIte, implies_true, forall_const, Nat.reduceMul, Nat.reduceSub, Nat.reduceAdd, Nat.reduceLeDiff, *]) | (simp only [zgoO, zgoG, zO_nil, zthen_normal, zgoC]) | (with_reducible apply And.intro) | (with_reducible intro _))
    | false =>
      have fin : NoneY p (l.take (k + 1)) := fun x hx => by
        rw [List.take_succ_eq_append_getElem hk] at hx
        rcases List.mem_append.1 hx with hx | hx
        · exact HN.out x hx
        · rw [List.mem_singleton.1 hx]; exact hp
      clear hp hld
      repeat' (first | (simp only [zmPack, zxPack, ne_eq, zfree, owners, Nat.reduceLT, List.contains_cons, List.contains_nil, Nat.reduceBEq, BEq.rfl, chunk, setAt, List.lookup_cons, List.lookup_nil, reduceCtorEq, Nat.reduceEqDiff, reduceIte, implies_true, forall_const, Nat.reduceMul, Nat.reduceSub, Nat.reduceAdd, Nat.reduceLeDiff, *]) | (simp only [zgoO, zgoG, zO_nil, zthen_normal, zgoC]) | (with_reducible apply And.intro) | (with_reducible intro _))
  · rintro s' h' ⟨rfl, hno⟩ ⟨f0, f1, -⟩
    rw [List.take_of_length_le (Nat.le_refl _)] at hno
    have hi : idxP p l = -1 := by
      have : l.findIdx? p = none := List.findIdx?_eq_none_iff.2 fun x hx => by rw [hno x hx]
      simp only [idxP, this]
    have hK := HK.out
    rw [hi] at hK
    have fin := Fin.keep (H0 := h') hK
    clear hno hi hK
    repeat' (first | (simp only [zmPack, zxPack, ne_eq, zfree, owners, Nat.reduceLT, List.contains_cons, List.contains_nil, Nat.reduceBEq, BEq.rfl, chunk, setAt, List.lookup_cons, List.lookup_nil, reduceCtorEq, Nat.reduceEqDiff, reduceIte, implies_true, forall_const, Nat.reduceMul, Nat.reduceSub, Nat.reduceAdd, Nat.reduceLeDiff, *]) | (simp only [zgoO, zgoG, zO_nil, zthen_normal, zgoC]) | (with_reducible apply And.intro) | (with_reducible intro _))
theorem cfI_z {z : ZV} {l : List Int} {p : Int → Bool} {f : FuncId} {caps : List ZV} (hz : rowsZ H 1 z = some (l.map eI)) (hb : l.length ≤ 100000000000000) (hf : ∀ m ∈ l, ∀ K, K (ZBo (p m)) H → ZC (constX tb) (cFunc Try.prog) f (Z64 m :: caps) L H K) (hK : K (ZBo (l.any p)) H) :
    ZC (constX tb) (cFunc Try.prog) 50 [z, .func f caps] L H K := by
  refine ZC.enter Gh.no constX_none f_li_cfI (by simp) ?_
  simp only [c_li_cfI]
  have HF := Lib.hid hf
  have fin := Fin.keep (H0 := H) hK
  clear hf hK
  have HZ := Lib.hid hz
  clear hz
  repeat' (first | (simp only [zmPack, zxPack, ne_eq, zfree, owners, Nat.reduceLT, List.contains_cons, List.contains_nil, Nat.reduceBEq, BEq.rfl, chunk, setAt, List.lookup_cons, List.lookup_nil, reduceCtorEq, Nat.reduceEqDiff, reduceIte, implies_true, forall_const, Nat.reduceMul, Nat.reduceSub, Nat.reduceAdd, Nat.reduceLeDiff, *]) | (simp only [zgoO, zgoG, zO_nil, zthen_normal, zgoC]) | (with_reducible apply And.intro) | (with_reducible intro _))
  refine idxI_z HZ.out hb HF.out ?_
  repeat' (first | (simp only [zmPack, zxPack, ne_eq, zfree, owners, Nat.reduceLT, List.contains_cons, List.contains_nil, Nat.reduceBEq, BEq.rfl, chunk, setAt, List.lookup_cons, List.lookup_nil, reduceCtorEq, Nat.reduceEqDiff, reduceIte, implies_true, forall_const, Nat.reduceMul, Nat.reduceSub, Nat.reduceAdd, Nat.reduceLeDiff, idx_ge, *]) | (simp only [zgoO, zgoG, zO_nil, zthen_normal, zgoC]) | (with_reducible apply And.intro) | (with_reducible intro _))
theorem idxX_z {z : ZV} {l : List Xt} {p : Xt → Bool} {f : FuncId} {caps : List ZV} (hz : rowsZ H 4 z = some (l.map eXt)) (hb : l.length ≤ 100000000000000) (hf : ∀ m ∈ l, ∀ K, K (ZBo (p m)) H → ZC (constX tb) (cFunc Try.prog) f (zX m :: caps) L H K) (hK : K (Z64 (idxP p l)) H) :
    ZC (constX tb) (cFunc Try.prog) 53 [z, .func f caps] L H K := by
  refine ZC.enter Gh.no constX_none f_li_ifX (by simp) ?_
  simp only [c_li_ifX]
  have hlen := rows_len hz
  rw [List.length_map] at hlen
  have HF := Lib.hid hf
  have HK := Lib.hid hK
  clear hf hK
  repeat' (first | (simp only [zmPack, zxPack, ne_eq, zfree, owners, Nat.reduceLT, List.contains_cons, List.contains_nil, Nat.reduceBEq, BEq.rfl, chunk, setAt, List.lookup_cons, List.lookup_nil, reduceCtorEq, Nat.reduceEqDiff, reduceIte, implies_true, forall_const, Nat.reduceMul, Nat.reduceSub, Nat.reduceAdd, Nat.reduceLeDiff, hlen, *]) | (simp only [zgoO, zgoG, zO_nil, zthen_normal, zgoC]) | (with_reducible apply And.intro) | (with_reducible intro _))
  refine zW_forK [(0, z), (1, .func f caps)] l.length (fun k s' h' => h' = H ∧ NoneY p (l.take k)) (by omega) ⟨rfl, rfl, rfl, rfl, rfl, rfl⟩ rfl rfl (by repeat' (first | exact trivial | (refine ⟨rfl, ?_⟩) | (refine ⟨by simp only [zupd_at, Nat.reduceEqDiff, reduceIte]; assumption, ?_⟩))) rfl rfl (by decide) ⟨rfl, by simp [NoneY]⟩ ?_ ?_
  · rintro k s' h' hk ⟨rfl, hno⟩ hi hl ⟨f0, f1, -⟩
    obtain ⟨q, hq, hld⟩ := rows_at hz hk
    have HN := Lib.hid hno
    clear hno
    repeat' (first | (simp only [zmPack, zxPack, ne_eq, zfree, owners, Nat.reduceLT, List.contains_cons, List.contains_nil, Nat.reduceBEq, BEq.rfl, chunk, setAt, List.lookup_cons, List.lookup_nil, reduceCtorEq, Nat.reduceEqDiff, reduceIte, implies_true, forall_const, Nat.reduceMul, Nat.reduceSub, Nat.reduceAdd, Nat.reduceLeDiff, hq, hld, *]) | (simp only [zgoO, zgoG, zO_nil, zthen_normal, zgoC]) | (with_reducible apply And.intro) | (with_reducible intro _))
    refine HF.out _ (List.getElem_mem hk) _ ?_
    cases hp : p l[k] with
    | true =>
      have hi : idxP p l = (k : Int) := by
        have : l.findIdx? p = some k := by
          rw [List.findIdx?_eq_some_iff_getElem]
          exact ⟨hk, hp, fun j hj => by simp only [Bool.not_eq_true]; exact HN.out _ (by rw [List.mem_take_iff_getElem]; exact ⟨j, by omega, rfl⟩)⟩
        simp only [idxP, this]
      have hK := HK.out
      rw [hi] at hK
      have fin := Fin.keep (H0 := h') hK
      clear hp hi hK hld
      repeat' (first | (simp only [zmPack, zxPack, ne_eq, zfree, owners, Nat.reduceLT, List.contains_cons, List.contains_nil, Nat.reduceBEq, BEq.rfl, chunk, setAt, List.lookup_cons, List.lookup_nil, reduceCtorEq, Nat.reduceEqDiff, reduceIte, implies_true, forall_const, Nat.reduceMul, Nat.reduceSub, Nat.reduceAdd, Nat.reduceLeDiff, *]) | (simp only [zgoO, zgoG, zO_nil, zthen_normal, zgoC]) | (with_reducible apply And.intro) | (with_reducible intro _))
    | false =>
      have fin : NoneY p (l.take (k + 1)) := fun x hx => by
        rw [List.take_succ_eq_append_getElem hk] at hx
        rcases List.mem_append.1 hx with hx | hx
        · exact HN.out x hx
        · rw [List.mem_singleton.1 hx]; exact hp
      clear hp hld
      repeat' (first | (simp only [zmPack, zxPack, ne_eq, zfree, owners, Nat.reduceLT, List.contains_cons, List.contains_nil, Nat.reduceBEq, BEq.rfl, chunk, setAt, List.lookup_cons, List.lookup_nil, reduceCtorEq, Nat.reduceEqDiff, reduceIte, implies_true, forall_const, Nat.reduceMul, Nat.reduceSub, Nat.reduceAdd, Nat.reduceLeDiff, *]) | (simp only [zgoO, zgoG, zO_nil, zthen_normal, zgoC]) | (with_reducible apply And.intro) | (with_reducible intro _))
  · rintro s' h' ⟨rfl, hno⟩ ⟨f0, f1, -⟩
    rw [List.take_of_length_le (Nat.le_refl _)] at hno
    have hi : idxP p l = -1 := by
      have : l.findIdx? p = none := List.findIdx?_eq_none_iff.2 fun x hx => by rw [hno x hx]
      simp only [idxP, this]
    have hK := HK.out
    rw [hi] at hK
    have fin := Fin.keep (H0 := h') hK
    clear hno hi hK
    repeat' (first | (simp only [zmPack, zxPack, ne_eq, zfree, owners, Nat.reduceLT, List.contains_cons, List.contains_nil, Nat.reduceBEq, BEq.rfl, chunk, setAt, List.lookup_cons, List.lookup_nil, reduceCtorEq, Nat.reduceEqDiff, reduceIte, implies_true, forall_const, Nat.reduceMul, Nat.reduceSub, Nat.reduceAdd, Nat.reduceLeDiff, *]) | (simp only [zgoO, zgoG, zO_nil, zthen_normal, zgoC]) | (with_reducible apply And.intro) | (with_reducible intro _))
theorem cfX_z {z : ZV} {l : List Xt} {p : Xt → Bool} {f : FuncId} {caps : List ZV} (hz : rowsZ H 4 z = some (l.map eXt)) (hb : l.length ≤ 100000000000000) (hf : ∀ m ∈ l, ∀ K, K (ZBo (p m)) H → ZC (constX tb) (cFunc Try.prog) f (zX m :: caps) L H K) (hK : K (ZBo (l.any p)) H) :
    ZC (constX tb) (cFunc Try.prog) 40 [z, .func f caps] L H K := by
  refine ZC.enter Gh.no constX_none f_li_cfX (by simp) ?_
  simp only [c_li_cfX]
  have HF := Lib.hid hf
  have fin := Fin.keep (H0 := H) hK
  clear hf hK
  have HZ := Lib.hid hz
  clear hz
  repeat' (first | (simp only [zmPack, zxPack, ne_eq, zfree, owners, Nat.reduceLT, List.contains_cons, List.contains_nil, Nat.reduceBEq, BEq.rfl, chunk, setAt, List.lookup_cons, List.lookup_nil, reduceCtorEq, Nat.reduceEqDiff, reduceIte, implies_true, forall_const, Nat.reduceMul, Nat.reduceSub, Nat.reduceAdd, Nat.reduceLeDiff, *]) | (simp only [zgoO, zgoG, zO_nil, zthen_normal, zgoC]) | (with_reducible apply And.intro) | (with_reducible intro _))
  refine idxX_z HZ.out hb HF.out ?_
  repeat' (first | (simp only [zmPack, zxPack, ne_eq, zfree, owners, Nat.reduceLT, List.contains_cons, List.contains_nil, Nat.reduceBEq, BEq.rfl, chunk, setAt, List.lookup_cons, List.lookup_nil, reduceCtorEq, Nat.reduceEqDiff, reduceIte, implies_true, forall_const, Nat.reduceMul, Nat.reduceSub, Nat.reduceAdd, Nat.reduceLeDiff, idx_ge, *]) | (simp only [zgoO, zgoG, zO_nil, zthen_normal, zgoC]) | (with_reducible apply And.intro) | (with_reducible intro _))
theorem idxM_z {z : ZV} {l : List Mk} {p : Mk → Bool} {f : FuncId} {caps : List ZV} (hz : rowsZ H 4 z = some (l.map eMk)) (hb : l.length ≤ 100000000000000) (hf : ∀ m ∈ l, ∀ K, K (ZBo (p m)) H → ZC (constX tb) (cFunc Try.prog) f (zMk m :: caps) L H K) (hK : K (Z64 (idxP p l)) H) :
    ZC (constX tb) (cFunc Try.prog) 61 [z, .func f caps] L H K := by
  refine ZC.enter Gh.no constX_none f_li_ifM (by simp) ?_
  simp only [c_li_ifM]
  have hlen := rows_len hz
  rw [List.length_map] at hlen
  have HF := Lib.hid hf
  have HK := Lib.hid hK
  clear hf hK
  repeat' (first | (simp only [zmPack, zxPack, ne_eq, zfree, owners, Nat.reduceLT, List.contains_cons, List.contains_nil, Nat.reduceBEq, BEq.rfl, chunk, setAt, List.lookup_cons, List.lookup_nil, reduceCtorEq, Nat.reduceEqDiff, reduceIte, implies_true, forall_const, Nat.reduceMul, Nat.reduceSub, Nat.reduceAdd, Nat.reduceLeDiff, hlen, *]) | (simp only [zgoO, zgoG, zO_nil, zthen_normal, zgoC]) | (with_reducible apply And.intro) | (with_reducible intro _))
  refine zW_forK [(0, z), (1, .func f caps)] l.length (fun k s' h' => h' = H ∧ NoneY p (l.take k)) (by omega) ⟨rfl, rfl, rfl, rfl, rfl, rfl⟩ rfl rfl (by repeat' (first | exact trivial | (refine ⟨rfl, ?_⟩) | (refine ⟨by simp only [zupd_at, Nat.reduceEqDiff, reduceIte]; assumption, ?_⟩))) rfl rfl (by decide) ⟨rfl, by simp [NoneY]⟩ ?_ ?_
  · rintro k s' h' hk ⟨rfl, hno⟩ hi hl ⟨f0, f1, -⟩
    obtain ⟨q, hq, hld⟩ := rows_at hz hk
    have HN := Lib.hid hno
    clear hno
    repeat' (first | (simp only [zmPack, zxPack, ne_eq, zfree, owners, Nat.reduceLT, List.contains_cons, List.contains_nil, Nat.reduceBEq, BEq.rfl, chunk, setAt, List.lookup_cons, List.lookup_nil, reduceCtorEq, Nat.reduceEqDiff, reduceIte, implies_true, forall_const, Nat.reduceMul, Nat.reduceSub, Nat.reduceAdd, Nat.reduceLeDiff, hq, hld, *]) | (simp only [zgoO, zgoG, zO_nil, zthen_normal, zgoC]) | (with_reducible apply And.intro) | (with_reducible intro _))
    refine HF.out _ (List.getElem_mem hk) _ ?_
    cases hp : p l[k] with
    | true =>
      have hi : idxP p l = (k : Int) := by
        have : l.findIdx? p = some k := by
          rw [List.findIdx?_eq_some_iff_getElem]
          exact ⟨hk, hp, fun j hj => by simp only [Bool.not_eq_true]; exact HN.out _ (by rw [List.mem_take_iff_getElem]; exact ⟨j, by omega, rfl⟩)⟩
        simp only [idxP, this]
      have hK := HK.out
      rw [hi] at hK
      have fin := Fin.keep (H0 := h') hK
      clear hp hi hK hld
      repeat' (first | (simp only [zmPack, zxPack, ne_eq, zfree, owners, Nat.reduceLT, List.contains_cons, List.contains_nil, Nat.reduceBEq, BEq.rfl, chunk, setAt, List.lookup_cons, List.lookup_nil, reduceCtorEq, Nat.reduceEqDiff, reduceIte, implies_true, forall_const, Nat.reduceMul, Nat.reduceSub, Nat.reduceAdd, Nat.reduceLeDiff, *]) | (simp only [zgoO, zgoG, zO_nil, zthen_normal, zgoC]) | (with_reducible apply And.intro) | (with_reducible intro _))
    | false =>
      have fin : NoneY p (l.take (k + 1)) := fun x hx => by
        rw [List.take_succ_eq_append_getElem hk] at hx
        rcases List.mem_append.1 hx with hx | hx
        · exact HN.out x hx
        · rw [List.mem_singleton.1 hx]; exact hp
      clear hp hld
      repeat' (first | (simp only [zmPack, zxPack, ne_eq, zfree, owners, Nat.reduceLT, List.contains_cons, List.contains_nil, Nat.reduceBEq, BEq.rfl, chunk, setAt, List.lookup_cons, List.lookup_nil, reduceCtorEq, Nat.reduceEqDiff, reduceIte, implies_true, forall_const, Nat.reduceMul, Nat.reduceSub, Nat.reduceAdd, Nat.reduceLeDiff, *]) | (simp only [zgoO, zgoG, zO_nil, zthen_normal, zgoC]) | (with_reducible apply And.intro) | (with_reducible intro _))
  · rintro s' h' ⟨rfl, hno⟩ ⟨f0, f1, -⟩
    rw [List.take_of_length_le (Nat.le_refl _)] at hno
    have hi : idxP p l = -1 := by
      have : l.findIdx? p = none := List.findIdx?_eq_none_iff.2 fun x hx => by rw [hno x hx]
      simp only [idxP, this]
    have hK := HK.out
    rw [hi] at hK
    have fin := Fin.keep (H0 := h') hK
    clear hno hi hK
    repeat' (first | (simp only [zmPack, zxPack, ne_eq, zfree, owners, Nat.reduceLT, List.contains_cons, List.contains_nil, Nat.reduceBEq, BEq.rfl, chunk, setAt, List.lookup_cons, List.lookup_nil, reduceCtorEq, Nat.reduceEqDiff, reduceIte, implies_true, forall_const, Nat.reduceMul, Nat.reduceSub, Nat.reduceAdd, Nat.reduceLeDiff, *]) | (simp only [zgoO, zgoG, zO_nil, zthen_normal, zgoC]) | (with_reducible apply And.intro) | (with_reducible intro _))
theorem cfM_z {z : ZV} {l : List Mk} {p : Mk → Bool} {f : FuncId} {caps : List ZV} (hz : rowsZ H 4 z = some (l.map eMk)) (hb : l.length ≤ 100000000000000) (hf : ∀ m ∈ l, ∀ K, K (ZBo (p m)) H → ZC (constX tb) (cFunc Try.prog) f (zMk m :: caps) L H K) (hK : K (ZBo (l.any p)) H) :
    ZC (constX tb) (cFunc Try.prog) 54 [z, .func f caps] L H K := by
  refine ZC.enter Gh.no constX_none f_li_cfM (by simp) ?_
  simp only [c_li_cfM]
  have HF := Lib.hid hf
  have fin := Fin.keep (H0 := H) hK
  clear hf hK
  have HZ := Lib.hid hz
  clear hz
  repeat' (first | (simp only [zmPack, zxPack, ne_eq, zfree, owners, Nat.reduceLT, List.contains_cons, List.contains_nil, Nat.reduceBEq, BEq.rfl, chunk, setAt, List.lookup_cons, List.lookup_nil, reduceCtorEq, Nat.reduceEqDiff, reduceIte, implies_true, forall_const, Nat.reduceMul, Nat.reduceSub, Nat.reduceAdd, Nat.reduceLeDiff, *]) | (simp only [zgoO, zgoG, zO_nil, zthen_normal, zgoC]) | (with_reducible apply And.intro) | (with_reducible intro _))
  refine idxM_z HZ.out hb HF.out ?_
  repeat' (first | (simp only [zmPack, zxPack, ne_eq, zfree, owners, Nat.reduceLT, List.contains_cons, List.contains_nil, Nat.reduceBEq, BEq.rfl, chunk, setAt, List.lookup_cons, List.lookup_nil, reduceCtorEq, Nat.reduceEqDiff, reduceIte, implies_true, forall_const, Nat.reduceMul, Nat.reduceSub, Nat.reduceAdd, Nat.reduceLeDiff, idx_ge, *]) | (simp only [zgoO, zgoG, zO_nil, zthen_normal, zgoC]) | (with_reducible apply And.intro) | (with_reducible intro _))
end Go.Proofs.Ytoeppobpnhlebaa

namespace Go.Proofs.Ytoeppobpnhlebaa
open Go Go.RowKit
set_option linter.unusedVariables false
set_option linter.unusedSimpArgs false
variable {tb : List (FuncId × Bool)} {L : Nat → Bool} {H : ZH} {K : ZV → ZH → Prop}
def allV (ins : List In) (p : Int) (l : List Int) : Bool := !(l.any (badV ins p))
theorem rows_fzI {l : List Int} : ∀ H, rowsZ H 1 (.fz 1 false (l.map eI)) = some (l.map eI) := fun H => by simp [rowsZ]
theorem all_z {t : Tr} {l : List Int} {p : Int} (hn : t.ins.length ≤ 1000000) (hl : l.length ≤ 100000000) (hK : K (ZBo (allV t.ins p l)) H) :
    ZC (constX tb) (cFunc Try.prog) 39 [.agg (eTr t), .fz 1 false (l.map eI), Z64 p] L H K := by
  obtain ⟨fn, pl, lp, ins, exs, turn, back⟩ := t
  refine ZC.enterL Gh.no constX_none f_li_all (by simp) fun hL => ?_
  simp only [c_li_all]
  simp only at hn hK
  have fin : ∀ X, Fin H (ZBo (allV ins p l)) (H ++ X) K := fun X => Fin.trunc (Mods.ext H X) rfl (by rw [List.take_left]; exact hK)
  clear hK
  unfold allV at fin
  repeat' (first | (simp only [zmPack, zxPack, ne_eq, zfree, owners, Nat.reduceLT, List.contains_cons, List.contains_nil, Nat.reduceBEq, BEq.rfl, chunk, setAt, List.lookup_cons, List.lookup_nil, reduceCtorEq, Nat.reduceEqDiff, reduceIte, implies_true, forall_const, Nat.reduceMul, Nat.reduceSub, Nat.reduceAdd, Nat.reduceLeDiff, *]) | (simp only [zgoO, zgoG, zO_nil, zthen_normal, zgoC]) | (with_reducible apply And.intro) | (with_reducible intro _))
  refine cfI_z (p := badV ins p) (rows_fzI _) (by omega) (fun v hv K hK => alla_z (t := ⟨fn, pl, lp, ins, exs, turn, back⟩) (atN1 rfl _ _ _) (atN0 rfl _ _) hn hK) ?_
  repeat' (first | (simp only [zmPack, zxPack, ne_eq, zfree, owners, Nat.reduceLT, List.contains_cons, List.contains_nil, Nat.reduceBEq, BEq.rfl, chunk, setAt, List.lookup_cons, List.lookup_nil, reduceCtorEq, Nat.reduceEqDiff, reduceIte, implies_true, forall_const, Nat.reduceMul, Nat.reduceSub, Nat.reduceAdd, Nat.reduceLeDiff, *]) | (simp only [zgoO, zgoG, zO_nil, zthen_normal, zgoC]) | (with_reducible apply And.intro) | (with_reducible intro _))
theorem known_z {op : Int} (hK : K (ZBo (isOp op)) H) : ZC (constX tb) (cFunc Try.prog) 49 [Z64 op] L H K := by
  refine ZC.enterL Gh.no constX_none f_li_known (by simp) fun hL => ?_
  simp only [c_li_known]
  have fin0 := Lib.hid (show ∀ b, isOp op = b → Fin H (ZBo b) H K from fun b hb => Fin.keep (H0 := H) (by rw [← hb]; exact hK))
  clear hK
  by_cases h1 : 1 ≤ op
  · by_cases h2 : op < 20
    · have fin := fin0.out true (by simp [isOp]; omega)
      repeat' (first | (simp only [zmPack, zxPack, ne_eq, zfree, owners, Nat.reduceLT, List.contains_cons, List.contains_nil, Nat.reduceBEq, BEq.rfl, chunk, setAt, List.lookup_cons, List.lookup_nil, reduceCtorEq, Nat.reduceEqDiff, reduceIte, implies_true, forall_const, Nat.reduceMul, Nat.reduceSub, Nat.reduceAdd, Nat.reduceLeDiff, h1, h2, *]) | (simp only [zgoO, zgoG, zO_nil, zthen_normal, zgoC]) | (with_reducible apply And.intro) | (with_reducible intro _))
    · have fin := fin0.out false (by simp [isOp]; omega)
      repeat' (first | (simp only [zmPack, zxPack, ne_eq, zfree, owners, Nat.reduceLT, List.contains_cons, List.contains_nil, Nat.reduceBEq, BEq.rfl, chunk, setAt, List.lookup_cons, List.lookup_nil, reduceCtorEq, Nat.reduceEqDiff, reduceIte, implies_true, forall_const, Nat.reduceMul, Nat.reduceSub, Nat.reduceAdd, Nat.reduceLeDiff, h1, h2, *]) | (simp only [zgoO, zgoG, zO_nil, zthen_normal, zgoC]) | (with_reducible apply And.intro) | (with_reducible intro _))
  · have fin := fin0.out false (by simp [isOp]; omega)
    repeat' (first | (simp only [zmPack, zxPack, ne_eq, zfree, owners, Nat.reduceLT, List.contains_cons, List.contains_nil, Nat.reduceBEq, BEq.rfl, chunk, setAt, List.lookup_cons, List.lookup_nil, reduceCtorEq, Nat.reduceEqDiff, reduceIte, implies_true, forall_const, Nat.reduceMul, Nat.reduceSub, Nat.reduceAdd, Nat.reduceLeDiff, h1, *]) | (simp only [zgoO, zgoG, zO_nil, zthen_normal, zgoC]) | (with_reducible apply And.intro) | (with_reducible intro _))
theorem largea_z {m : Mk} (hK : K (ZBo (decide (100 < (m.2.2.2.length : Int)))) H) : ZC (constX tb) (cFunc Try.prog) 55 [zMk m] L H K := by
  obtain ⟨a, b, c, l⟩ := m
  refine ZC.enterL Gh.no constX_none f_li_largea (by simp) fun hL => ?_
  simp only [c_li_largea]
  simp only at hK
  have fin : ∀ X, Fin H (ZBo (decide (100 < (l.length : Int)))) (H ++ X) K := fun X => Fin.trunc (Mods.ext H X) rfl (by rw [List.take_left]; exact hK)
  clear hK
  have l0 : L H.length = true := hL 0
  have a00 : ∀ A Y, (H ++ (A :: Y))[H.length]? = some A := fun A Y => atN0 rfl A Y
  repeat' (first | (simp only [zmPack, zxPack, ne_eq, zfree, owners, Nat.reduceLT, List.contains_cons, List.contains_nil, Nat.reduceBEq, BEq.rfl, chunk, setAt, List.lookup_cons, List.lookup_nil, reduceCtorEq, Nat.reduceEqDiff, reduceIte, implies_true, forall_const, Nat.reduceMul, Nat.reduceSub, Nat.reduceAdd, Nat.reduceLeDiff, l0, a00, *]) | (simp only [zgoO, zgoG, zO_nil, zthen_normal, zgoC]) | (with_reducible apply And.intro) | (with_reducible intro _))
def bigX (x : Xt) : Bool := decide (60 < (x.2.2.1.length : Int)) || decide (300 < (x.2.2.2.length : Int)) || x.2.2.2.any fun m => decide (100 < (m.2.2.2.length : Int))
theorem large_z {x : Xt} (hx : XtS x) (hK : K (ZBo (bigX x)) H) : ZC (constX tb) (cFunc Try.prog) 42 [zX x] L H K := by
  have hns := hx.sets
  have hnm := hx.makes
  clear hx
  obtain ⟨a, b, l, m⟩ := x
  refine ZC.enterL Gh.no constX_none f_li_large (by simp) fun hL => ?_
  simp only [c_li_large]
  simp only at hK hns hnm
  have fin0 := Lib.hid (show ∀ e X, bigX (a, b, l, m) = e → Fin H (ZBo e) (H ++ X) K from fun e X he => Fin.trunc (Mods.ext H X) rfl (by rw [List.take_left, ← he]; exact hK))
  clear hK
  have l0 : L H.length = true := hL 0
  have a00 : ∀ A Y, (H ++ (A :: Y))[H.length]? = some A := fun A Y => atN0 rfl A Y
  by_cases h1 : 60 < (l.length : Int)
  · have fin := fun X => fin0.out true X (by simp [bigX, h1])
    repeat' (first | (simp only [zmPack, zxPack, ne_eq, zfree, owners, Nat.reduceLT, List.contains_cons, List.contains_nil, Nat.reduceBEq, BEq.rfl, chunk, setAt, List.lookup_cons, List.lookup_nil, reduceCtorEq, Nat.reduceEqDiff, reduceIte, implies_true, forall_const, Nat.reduceMul, Nat.reduceSub, Nat.reduceAdd, Nat.reduceLeDiff, l0, a00, h1, *]) | (simp only [zgoO, zgoG, zO_nil, zthen_normal, zgoC]) | (with_reducible apply And.intro) | (with_reducible intro _))
  · by_cases h2 : 300 < (m.length : Int)
    · have fin := fun X => fin0.out true X (by simp [bigX, h2])
      repeat' (first | (simp only [zmPack, zxPack, ne_eq, zfree, owners, Nat.reduceLT, List.contains_cons, List.contains_nil, Nat.reduceBEq, BEq.rfl, chunk, setAt, List.lookup_cons, List.lookup_nil, reduceCtorEq, Nat.reduceEqDiff, reduceIte, implies_true, forall_const, Nat.reduceMul, Nat.reduceSub, Nat.reduceAdd, Nat.reduceLeDiff, l0, a00, h1, h2, *]) | (simp only [zgoO, zgoG, zO_nil, zthen_normal, zgoC]) | (with_reducible apply And.intro) | (with_reducible intro _))
    · have fin := fun X => fin0.out (m.any fun m => decide (100 < (m.2.2.2.length : Int))) X (by
        simp only [bigX, h1, h2, decide_false, Bool.false_or])
      have hz : ∀ H, rowsZ H 4 (.fz 4 false (m.map eMk)) = some (m.map eMk) := fun H => by simp [rowsZ]
      repeat' (first | (simp only [zmPack, zxPack, ne_eq, zfree, owners, Nat.reduceLT, List.contains_cons, List.contains_nil, Nat.reduceBEq, BEq.rfl, chunk, setAt, List.lookup_cons, List.lookup_nil, reduceCtorEq, Nat.reduceEqDiff, reduceIte, implies_true, forall_const, Nat.reduceMul, Nat.reduceSub, Nat.reduceAdd, Nat.reduceLeDiff, l0, a00, h1, h2, *]) | (simp only [zgoO, zgoG, zO_nil, zthen_normal, zgoC]) | (with_reducible apply And.intro) | (with_reducible intro _))
      refine cfM_z (hz _) (by omega) (fun m hm K hK => largea_z hK) ?_
      repeat' (first | (simp only [zmPack, zxPack, ne_eq, zfree, owners, Nat.reduceLT, List.contains_cons, List.contains_nil, Nat.reduceBEq, BEq.rfl, chunk, setAt, List.lookup_cons, List.lookup_nil, reduceCtorEq, Nat.reduceEqDiff, reduceIte, implies_true, forall_const, Nat.reduceMul, Nat.reduceSub, Nat.reduceAdd, Nat.reduceLeDiff, *]) | (simp only [zgoO, zgoG, zO_nil, zthen_normal, zgoC]) | (with_reducible apply And.intro) | (with_reducible intro _))
end Go.Proofs.Ytoeppobpnhlebaa

namespace Go.Proofs.Ytoeppobpnhlebaa
open Go Go.RowKit
set_option linter.unusedVariables false
set_option linter.unusedSimpArgs false
variable {tb : List (FuncId × Bool)} {L : Nat → Bool} {H : ZH} {K : ZV → ZH → Prop}
def exB (t : Tr) (p e : Int) : Bool := if 0 ≤ e then (match t.exs[e.toNat]? with
  | some X => allV t.ins p (valsX X)
  | none => false) else true
def oneB (t : Tr) (p : Int) (x : In) : Bool := isOp x.1 && (allV t.ins p (asksI x) && decide (-1 ≤ x.2.2.2.2.2.1) && decide (x.2.2.2.2.2.1 < (t.exs.length : Int)) && exB t p x.2.2.2.2.2.1)
/-- What is asked of the size. -/
structure TrS (t : Tr) : Prop where
  n : t.ins.length ≤ 1000000
  m : t.exs.length ≤ 1000000
  x : ∀ x ∈ t.exs, XtS x
  tu : XtS t.turn
  ba : XtS t.back
set_option maxHeartbeats 4000000 in
theorem one_z {t : Tr} {k : Nat} {x : In} (hS : TrS t) (hx : t.ins[k]? = some x) (hK : ∀ e, (e = 0 ↔ oneB t k x = true) → K (Z64 e) H) :
    ZC (constX tb) (cFunc Try.prog) 38 [.agg (eTr t), Z64 k] L H K := by
  obtain ⟨fn, pl, lp, ins, exs, turn, back⟩ := t
  have HS := Lib.hid hS
  have hn := hS.n
  have hm := hS.m
  clear hS
  simp only at hx hn hm
  have hkl : k < ins.length := (List.getElem?_eq_some_iff.1 hx).1
  refine ZC.enterL Gh.no constX_none f_li_one (by simp) fun hL => ?_
  simp only [c_li_one]
  have fin0 := Lib.hid (show ∀ e X, (e = 0 ↔ oneB ⟨fn, pl, lp, ins, exs, turn, back⟩ k x = true) → Fin H (Z64 e) (H ++ X) K from fun e X he => Fin.trunc (Mods.ext H X) rfl (by rw [List.take_left]; exact hK e he))
  clear hK
  have l0 : L H.length = true := hL 0
  have l1 : L (H.length + 1) = true := hL 1
  have a00 : ∀ A Y, (H ++ (A :: Y))[H.length]? = some A := fun A Y => atN0 rfl A Y
  have a1 : ∀ A B Y, (H ++ (A :: B :: Y))[H.length + 1]? = some B := fun A B Y => atN1 rfl A B Y
  have s1 : ∀ A B C Y, (H ++ (A :: B :: Y)).set (H.length + 1) C = H ++ (A :: C :: Y) := fun A B C Y => stN1 rfl A B C Y
  have HX := Lib.hid hx
  have q2 : H.length < H.length + 2 := by omega
  have q3 : H.length + 1 < H.length + 2 := by omega
  obtain ⟨op, a, b, c, n, e, kk, kn⟩ := x
  repeat' (first | (simp only [zmPack, zxPack, ne_eq, zfree, owners, Nat.reduceLT, List.contains_cons, List.contains_nil, Nat.reduceBEq, BEq.rfl, chunk, setAt, List.lookup_cons, List.lookup_nil, reduceCtorEq, Nat.reduceEqDiff, reduceIte, implies_true, forall_const, Nat.reduceMul, Nat.reduceSub, Nat.reduceAdd, Nat.reduceLeDiff, l0, l1, a00, a1, s1, q2, q3, hx, *]) | (simp only [zgoO, zgoG, zO_nil, zthen_normal, zgoC]) | (with_reducible apply And.intro) | (with_reducible intro _))
  refine known_z ?_
  cases ho : isOp op with
  | false =>
    have fin := fun X => fin0.out 7 X (by simp [oneB, ho])
    repeat' (first | (simp only [zmPack, zxPack, ne_eq, zfree, owners, Nat.reduceLT, List.contains_cons, List.contains_nil, Nat.reduceBEq, BEq.rfl, chunk, setAt, List.lookup_cons, List.lookup_nil, reduceCtorEq, Nat.reduceEqDiff, reduceIte, implies_true, forall_const, Nat.reduceMul, Nat.reduceSub, Nat.reduceAdd, Nat.reduceLeDiff, *]) | (simp only [zgoO, zgoG, zO_nil, zthen_normal, zgoC]) | (with_reducible apply And.intro) | (with_reducible intro _))
  | true =>
    repeat' (first | (simp only [zmPack, zxPack, ne_eq, zfree, owners, Nat.reduceLT, List.contains_cons, List.contains_nil, Nat.reduceBEq, BEq.rfl, chunk, setAt, List.lookup_cons, List.lookup_nil, reduceCtorEq, Nat.reduceEqDiff, reduceIte, implies_true, forall_const, Nat.reduceMul, Nat.reduceSub, Nat.reduceAdd, Nat.reduceLeDiff, l0, l1, a00, a1, s1, q2, q3, *]) | (simp only [zgoO, zgoG, zO_nil, zthen_normal, zgoC]) | (with_reducible apply And.intro) | (with_reducible intro _))
    refine asks_z (x := (op, a, b, c, n, e, kk, kn)) ?_
    repeat' (first | (simp only [zmPack, zxPack, ne_eq, zfree, owners, Nat.reduceLT, List.contains_cons, List.contains_nil, Nat.reduceBEq, BEq.rfl, chunk, setAt, List.lookup_cons, List.lookup_nil, reduceCtorEq, Nat.reduceEqDiff, reduceIte, implies_true, forall_const, Nat.reduceMul, Nat.reduceSub, Nat.reduceAdd, Nat.reduceLeDiff, l0, l1, a00, a1, s1, q2, q3, *]) | (simp only [zgoO, zgoG, zO_nil, zthen_normal, zgoC]) | (with_reducible apply And.intro) | (with_reducible intro _))
    refine all_z (t := ⟨fn, pl, lp, ins, exs, turn, back⟩) hn (by have := asks_len (op, a, b, c, n, e, kk, kn); omega) ?_
    simp only
    cases ha : allV ins k (asksI (op, a, b, c, n, e, kk, kn)) with
    | false =>
      have fin := fun X => fin0.out 3 X (by simp [oneB, ho, ha])
      repeat' (first | (simp only [zmPack, zxPack, ne_eq, zfree, owners, Nat.reduceLT, List.contains_cons, List.contains_nil, Nat.reduceBEq, BEq.rfl, chunk, setAt, List.lookup_cons, List.lookup_nil, reduceCtorEq, Nat.reduceEqDiff, reduceIte, implies_true, forall_const, Nat.reduceMul, Nat.reduceSub, Nat.reduceAdd, Nat.reduceLeDiff, l0, l1, a00, a1, s1, q2, q3, *]) | (simp only [zgoO, zgoG, zO_nil, zthen_normal, zgoC]) | (with_reducible apply And.intro) | (with_reducible intro _))
    | true =>
      by_cases e1 : e < -1
      · have fin := fun X => fin0.out 3 X (by simp [oneB, ho, ha]; omega)
        repeat' (first | (simp only [zmPack, zxPack, ne_eq, zfree, owners, Nat.reduceLT, List.contains_cons, List.contains_nil, Nat.reduceBEq, BEq.rfl, chunk, setAt, List.lookup_cons, List.lookup_nil, reduceCtorEq, Nat.reduceEqDiff, reduceIte, implies_true, forall_const, Nat.reduceMul, Nat.reduceSub, Nat.reduceAdd, Nat.reduceLeDiff, l0, l1, a00, a1, s1, q2, q3, e1, *]) | (simp only [zgoO, zgoG, zO_nil, zthen_normal, zgoC]) | (with_reducible apply And.intro) | (with_reducible intro _))
      · by_cases e2 : (exs.length : Int) ≤ e
        · have fin := fun X => fin0.out 3 X (by simp [oneB, ho, ha]; omega)
          repeat' (first | (simp only [zmPack, zxPack, ne_eq, zfree, owners, Nat.reduceLT, List.contains_cons, List.contains_nil, Nat.reduceBEq, BEq.rfl, chunk, setAt, List.lookup_cons, List.lookup_nil, reduceCtorEq, Nat.reduceEqDiff, reduceIte, implies_true, forall_const, Nat.reduceMul, Nat.reduceSub, Nat.reduceAdd, Nat.reduceLeDiff, l0, l1, a00, a1, s1, q2, q3, e1, e2, *]) | (simp only [zgoO, zgoG, zO_nil, zthen_normal, zgoC]) | (with_reducible apply And.intro) | (with_reducible intro _))
        · by_cases e3 : 0 ≤ e
          · obtain ⟨m, rfl⟩ : ∃ m : Nat, e = (m : Int) := ⟨e.toNat, by omega⟩
            have hml : m < exs.length := by omega
            have hX : exs[m]? = some exs[m] := List.getElem?_eq_getElem hml
            have hXS := HS.out.x _ (List.getElem_mem hml)
            obtain ⟨q, hq⟩ : ∃ q, q = exs[m] := ⟨_, rfl⟩
            rw [← hq] at hX hXS
            clear hq
            have hlv : (valsX q).length ≤ 100000000 := by unfold XtS at hXS; omega
            have hXS' := Lib.hid hXS
            clear hXS
            repeat' (first | (simp only [zmPack, zxPack, ne_eq, zfree, owners, Nat.reduceLT, List.contains_cons, List.contains_nil, Nat.reduceBEq, BEq.rfl, chunk, setAt, List.lookup_cons, List.lookup_nil, reduceCtorEq, Nat.reduceEqDiff, reduceIte, implies_true, forall_const, Nat.reduceMul, Nat.reduceSub, Nat.reduceAdd, Nat.reduceLeDiff, l0, l1, a00, a1, s1, q2, q3, e1, e2, e3, hX, *]) | (simp only [zgoO, zgoG, zO_nil, zthen_normal, zgoC]) | (with_reducible apply And.intro) | (with_reducible intro _))
            refine values_z (x := q) hXS'.out ?_
            repeat' (first | (simp only [zmPack, zxPack, ne_eq, zfree, owners, Nat.reduceLT, List.contains_cons, List.contains_nil, Nat.reduceBEq, BEq.rfl, chunk, setAt, List.lookup_cons, List.lookup_nil, reduceCtorEq, Nat.reduceEqDiff, reduceIte, implies_true, forall_const, Nat.reduceMul, Nat.reduceSub, Nat.reduceAdd, Nat.reduceLeDiff, l0, l1, a00, a1, s1, q2, q3, *]) | (simp only [zgoO, zgoG, zO_nil, zthen_normal, zgoC]) | (with_reducible apply And.intro) | (with_reducible intro _))
            refine all_z (t := ⟨fn, pl, lp, ins, exs, turn, back⟩) hn hlv ?_
            simp only
            cases hv : allV ins k (valsX q) with
            | false =>
              have fin := fun X => fin0.out 3 X (by simp [oneB, ho, ha, exB, hX, hv])
              repeat' (first | (simp only [zmPack, zxPack, ne_eq, zfree, owners, Nat.reduceLT, List.contains_cons, List.contains_nil, Nat.reduceBEq, BEq.rfl, chunk, setAt, List.lookup_cons, List.lookup_nil, reduceCtorEq, Nat.reduceEqDiff, reduceIte, implies_true, forall_const, Nat.reduceMul, Nat.reduceSub, Nat.reduceAdd, Nat.reduceLeDiff, l0, l1, a00, a1, s1, q2, q3, *]) | (simp only [zgoO, zgoG, zO_nil, zthen_normal, zgoC]) | (with_reducible apply And.intro) | (with_reducible intro _))
            | true =>
              have fin := fun X => fin0.out 0 X (by simp [oneB, ho, ha, exB, hX, hv]; omega)
              repeat' (first | (simp only [zmPack, zxPack, ne_eq, zfree, owners, Nat.reduceLT, List.contains_cons, List.contains_nil, Nat.reduceBEq, BEq.rfl, chunk, setAt, List.lookup_cons, List.lookup_nil, reduceCtorEq, Nat.reduceEqDiff, reduceIte, implies_true, forall_const, Nat.reduceMul, Nat.reduceSub, Nat.reduceAdd, Nat.reduceLeDiff, l0, l1, a00, a1, s1, q2, q3, *]) | (simp only [zgoO, zgoG, zO_nil, zthen_normal, zgoC]) | (with_reducible apply And.intro) | (with_reducible intro _))
          · have fin := fun X => fin0.out 0 X (by simp [oneB, ho, ha, exB, e3]; omega)
            repeat' (first | (simp only [zmPack, zxPack, ne_eq, zfree, owners, Nat.reduceLT, List.contains_cons, List.contains_nil, Nat.reduceBEq, BEq.rfl, chunk, setAt, List.lookup_cons, List.lookup_nil, reduceCtorEq, Nat.reduceEqDiff, reduceIte, implies_true, forall_const, Nat.reduceMul, Nat.reduceSub, Nat.reduceAdd, Nat.reduceLeDiff, l0, l1, a00, a1, s1, q2, q3, e1, e2, e3, *]) | (simp only [zgoO, zgoG, zO_nil, zthen_normal, zgoC]) | (with_reducible apply And.intro) | (with_reducible intro _))
end Go.Proofs.Ytoeppobpnhlebaa

namespace Go.Proofs.Ytoeppobpnhlebaa
open Go Go.RowKit
set_option linter.unusedVariables false
set_option linter.unusedSimpArgs false
variable {tb : List (FuncId × Bool)} {L : Nat → Bool} {H : ZH} {K : ZV → ZH → Prop}
theorem checka_z {i j : Nat} {t : Tr} {x : Xt} {p : Int} (hi : H[i]? = some (.box (eTr t))) (hj : H[j]? = some (.box [Z64 p])) (hn : t.ins.length ≤ 1000000) (hx : XtS x) (hK : K (ZBo (!(allV t.ins p (valsX x)))) H) :
    ZC (constX tb) (cFunc Try.prog) 41 [zX x, .ptr i 0, .ptr j 0] L H K := by
  obtain ⟨fn, pl, lp, ins, exs, turn, back⟩ := t
  have HX := Lib.hid hx
  have hlv : (valsX x).length ≤ 100000000 := by unfold XtS at hx; omega
  clear hx
  refine ZC.enterL Gh.no constX_none f_li_checka (by simp) fun hL => ?_
  simp only [c_li_checka]
  simp only at hn hK hi
  have fin : ∀ X, Fin H (ZBo (!(allV ins p (valsX x)))) (H ++ X) K := fun X => Fin.trunc (Mods.ext H X) rfl (by rw [List.take_left]; exact hK)
  clear hK
  have hi2 : ∀ X, (H ++ X)[i]? = some (.box _) := fun X => by rw [List.getElem?_append_left (lt_of_get hi)]; exact hi
  have hj2 : ∀ X, (H ++ X)[j]? = some (.box [Z64 p]) := fun X => by rw [List.getElem?_append_left (lt_of_get hj)]; exact hj
  have hli := lt_of_get hi
  have hlj := lt_of_get hj
  have hli1 : i < H.length + 1 := by omega
  have hlj1 : j < H.length + 1 := by omega
  have hne : (H.length == i) = false := by simp; omega
  have hne2 : (H.length == j) = false := by simp; omega
  have a00 : ∀ A Y, (H ++ (A :: Y))[H.length]? = some A := fun A Y => atN0 rfl A Y
  repeat' (first | (simp only [zmPack, zxPack, ne_eq, zfree, owners, Nat.reduceLT, List.contains_cons, List.contains_nil, Nat.reduceBEq, BEq.rfl, chunk, setAt, List.lookup_cons, List.lookup_nil, reduceCtorEq, Nat.reduceEqDiff, reduceIte, implies_true, forall_const, Nat.reduceMul, Nat.reduceSub, Nat.reduceAdd, Nat.reduceLeDiff, hi, hj, hi2, hj2, a00, *]) | (simp only [zgoO, zgoG, zO_nil, zthen_normal, zgoC]) | (with_reducible apply And.intro) | (with_reducible intro _))
  refine values_z (x := x) HX.out ?_
  repeat' (first | (simp only [zmPack, zxPack, ne_eq, zfree, owners, Nat.reduceLT, List.contains_cons, List.contains_nil, Nat.reduceBEq, BEq.rfl, chunk, setAt, List.lookup_cons, List.lookup_nil, reduceCtorEq, Nat.reduceEqDiff, reduceIte, implies_true, forall_const, Nat.reduceMul, Nat.reduceSub, Nat.reduceAdd, Nat.reduceLeDiff, hi, hj, hi2, hj2, a00, *]) | (simp only [zgoO, zgoG, zO_nil, zthen_normal, zgoC]) | (with_reducible apply And.intro) | (with_reducible intro _))
  refine all_z (t := ⟨fn, pl, lp, ins, exs, turn, back⟩) hn hlv ?_
  repeat' (first | (simp only [zmPack, zxPack, ne_eq, zfree, owners, Nat.reduceLT, List.contains_cons, List.contains_nil, Nat.reduceBEq, BEq.rfl, chunk, setAt, List.lookup_cons, List.lookup_nil, reduceCtorEq, Nat.reduceEqDiff, reduceIte, implies_true, forall_const, Nat.reduceMul, Nat.reduceSub, Nat.reduceAdd, Nat.reduceLeDiff, hi, hj, hi2, hj2, a00, *]) | (simp only [zgoO, zgoG, zO_nil, zthen_normal, zgoC]) | (with_reducible apply And.intro) | (with_reducible intro _))
/-- A trace that Check lets pass. -/
structure GoodT (t : Tr) : Prop where
  n : t.ins.length ≤ 300
  m : t.exs.length ≤ 200
  l0 : 0 ≤ t.lp
  l1 : t.lp ≤ (t.ins.length : Int)
  one : ∀ (k : Nat) (x : In), t.ins[k]? = some x → oneB t k x = true
  turn : 0 < t.lp → allV t.ins t.lp (valsX t.turn) = true
  ends : (t.back :: t.exs).any (fun x => !(allV t.ins t.ins.length (valsX x))) = false
  big : (t.back :: t.exs ++ [t.turn]).any bigX = false
def OnesTo (t : Tr) (k : Nat) : Prop := ∀ (j : Nat) (x : In), j < k → t.ins[j]? = some x → oneB t j x = true
theorem ends_app {A B : ZB} {exs : List Xt} {back turn : Xt} (hm : exs.length ≤ 1000000) (hL : ∀ n, L (H.length + n) = true) : ∃ z1 X1 z2 X2, appZ L (H ++ [A, B]) 4 64 (exs.map eXt) (.fz 4 true [eXt back]) = some (z1, H ++ (A :: B :: X1)) ∧ rowsZ (H ++ (A :: B :: X1)) 4 z1 = some ((back :: exs).map eXt) ∧ appZ L (H ++ (A :: B :: X1)) 4 64 [eXt turn] z1 = some (z2, H ++ (A :: B :: X2)) ∧ rowsZ (H ++ (A :: B :: X2)) 4 z2 = some ((back :: exs ++ [turn]).map eXt) := by
  cases exs with
  | nil =>
    refine ⟨.fz 4 true [eXt back], [], .own (H.length + 2) 0 0 2 false, [.grow 0 4 [eXt back, eXt turn]], ?_, ?_, ?_, ?_⟩
    · simp only [appZ, List.map_nil, List.length_cons, List.length_nil]
      rw [if_pos ⟨trivial, by unfold reach; omega⟩, if_pos trivial]
    · simp [rowsZ]
    · rw [app_fzX]
      refine ⟨by unfold reach; simp, by simp, by simp⟩
    · rw [show (.own (H.length + 2) 0 0 2 false : ZV) = .own (H.length + 2) 0 0 [eXt back, eXt turn].length false from rfl]
      simp only [rowsZ]
      rw [atN2 rfl]
      simp
  | cons x l =>
    refine ⟨.own (H.length + 2) 0 0 (1 + (x :: l).length) false, [.grow 0 4 (eXt back :: (x :: l).map eXt)], .own (H.length + 2) 1 0 (1 + (x :: l).length + 1) false, [.grow 1 4 ((eXt back :: (x :: l).map eXt) ++ [eXt turn])], ?_, ?_, ?_, ?_⟩
    · simp only [appZ]
      rw [if_pos ⟨trivial, by simp only [List.length_cons, List.length_nil, List.length_map] at hm ⊢; unfold reach; omega⟩, if_neg (by simp), if_pos trivial]
      simp
    · simp only [rowsZ]
      rw [atN2 rfl]
      simp only
      rw [if_pos ⟨trivial, trivial, by simp only [List.length_append, List.length_cons, List.length_map, List.length_nil]; omega⟩, List.drop_zero, List.take_of_length_le (by simp only [List.length_append, List.length_cons, List.length_map, List.length_nil]; omega)]
      simp
    · rw [app_own]
      refine ⟨_, atN2 rfl _ _ _ _, by simp; omega, by simp only [List.length_cons, List.length_nil, List.length_map] at hm ⊢; unfold reach; omega, hL 2, by simp, ?_⟩
      rw [stN2 rfl, List.drop_zero, List.take_of_length_le (by simp; omega)]
    · simp only [rowsZ]
      rw [atN2 rfl]
      simp only
      rw [if_pos ⟨trivial, trivial, by simp only [List.length_append, List.length_cons, List.length_map, List.length_nil]; omega⟩, List.drop_zero, List.take_of_length_le (by simp only [List.length_append, List.length_cons, List.length_map, List.length_nil]; omega)]
      simp
set_option maxHeartbeats 4000000 in
theorem check_z {t : Tr} (hS : TrS t) (hK : ∀ e, (e = 0 ↔ GoodT t) → K (Z64 e) H) :
    ZC (constX tb) (cFunc Try.prog) 22 [.agg (eTr t)] L H K := by
  have HS := Lib.hid hS
  have hn := hS.n
  have hm := hS.m
  clear hS
  refine ZC.enterL Gh.no constX_none f_li_check (by simp) fun hL => ?_
  simp only [c_li_check]
  have fin0 := Lib.hid (show ∀ e X, (e = 0 ↔ GoodT t) → Fin H (Z64 e) (H ++ X) K from fun e X he => Fin.trunc (Mods.ext H X) rfl (by rw [List.take_left]; exact hK e he))
  clear hK
  obtain ⟨fn, pl, lp, ins, exs, turn, back⟩ := t
  simp only at hn hm
  have l0 : L H.length = true := hL 0
  have l1 : L (H.length + 1) = true := hL 1
  have l2 : L (H.length + 2) = true := hL 2
  have a00 : ∀ A Y, (H ++ (A :: Y))[H.length]? = some A := fun A Y => atN0 rfl A Y
  have a1 : ∀ A B Y, (H ++ (A :: B :: Y))[H.length + 1]? = some B := fun A B Y => atN1 rfl A B Y
  have s1 : ∀ A B C Y, (H ++ (A :: B :: Y)).set (H.length + 1) C = H ++ (A :: C :: Y) := fun A B C Y => stN1 rfl A B C Y
  have a2 : ∀ A B C Y, (H ++ (A :: B :: C :: Y))[H.length + 2]? = some C := fun A B C Y => atN2 rfl A B C Y
  have s2 : ∀ A B C D Y, (H ++ (A :: B :: C :: Y)).set (H.length + 2) D = H ++ (A :: B :: D :: Y) := fun A B C D Y => stN2 rfl A B C D Y
  have q2 : H.length < H.length + 2 := by omega
  have q3 : H.length + 1 < H.length + 2 := by omega
  by_cases h1 : 300 < (ins.length : Int)
  · have fin := fun X => fin0.out 2 X ⟨fun h => by omega, fun h => by have := h.n; simp only at this; omega⟩
    repeat' (first | (simp only [zmPack, zxPack, ne_eq, zfree, owners, Nat.reduceLT, List.contains_cons, List.contains_nil, Nat.reduceBEq, BEq.rfl, chunk, setAt, List.lookup_cons, List.lookup_nil, reduceCtorEq, Nat.reduceEqDiff, reduceIte, implies_true, forall_const, Nat.reduceMul, Nat.reduceSub, Nat.reduceAdd, Nat.reduceLeDiff, l0, l1, a00, a1, s1, q2, q3, h1, *]) | (simp only [zgoO, zgoG, zO_nil, zthen_normal, zgoC]) | (with_reducible apply And.intro) | (with_reducible intro _))
  by_cases h2 : 200 < (exs.length : Int)
  · have fin := fun X => fin0.out 2 X ⟨fun h => by omega, fun h => by have := h.m; simp only at this; omega⟩
    repeat' (first | (simp only [zmPack, zxPack, ne_eq, zfree, owners, Nat.reduceLT, List.contains_cons, List.contains_nil, Nat.reduceBEq, BEq.rfl, chunk, setAt, List.lookup_cons, List.lookup_nil, reduceCtorEq, Nat.reduceEqDiff, reduceIte, implies_true, forall_const, Nat.reduceMul, Nat.reduceSub, Nat.reduceAdd, Nat.reduceLeDiff, l0, l1, a00, a1, s1, q2, q3, h1, h2, *]) | (simp only [zgoO, zgoG, zO_nil, zthen_normal, zgoC]) | (with_reducible apply And.intro) | (with_reducible intro _))
  by_cases h3 : lp < 0
  · have fin := fun X => fin0.out 3 X ⟨fun h => by omega, fun h => by have := h.l0; simp only at this; omega⟩
    repeat' (first | (simp only [zmPack, zxPack, ne_eq, zfree, owners, Nat.reduceLT, List.contains_cons, List.contains_nil, Nat.reduceBEq, BEq.rfl, chunk, setAt, List.lookup_cons, List.lookup_nil, reduceCtorEq, Nat.reduceEqDiff, reduceIte, implies_true, forall_const, Nat.reduceMul, Nat.reduceSub, Nat.reduceAdd, Nat.reduceLeDiff, l0, l1, a00, a1, s1, q2, q3, h1, h2, h3, *]) | (simp only [zgoO, zgoG, zO_nil, zthen_normal, zgoC]) | (with_reducible apply And.intro) | (with_reducible intro _))
  by_cases h4 : (ins.length : Int) < lp
  · have fin := fun X => fin0.out 3 X ⟨fun h => by omega, fun h => by have := h.l1; simp only at this; omega⟩
    repeat' (first | (simp only [zmPack, zxPack, ne_eq, zfree, owners, Nat.reduceLT, List.contains_cons, List.contains_nil, Nat.reduceBEq, BEq.rfl, chunk, setAt, List.lookup_cons, List.lookup_nil, reduceCtorEq, Nat.reduceEqDiff, reduceIte, implies_true, forall_const, Nat.reduceMul, Nat.reduceSub, Nat.reduceAdd, Nat.reduceLeDiff, l0, l1, a00, a1, s1, q2, q3, h1, h2, h3, h4, *]) | (simp only [zgoO, zgoG, zO_nil, zthen_normal, zgoC]) | (with_reducible apply And.intro) | (with_reducible intro _))
  have hlen : ins.length < 9223372036854775807 := by omega
  repeat' (first | (simp only [zmPack, zxPack, ne_eq, zfree, owners, Nat.reduceLT, List.contains_cons, List.contains_nil, Nat.reduceBEq, BEq.rfl, chunk, setAt, List.lookup_cons, List.lookup_nil, reduceCtorEq, Nat.reduceEqDiff, reduceIte, implies_true, forall_const, Nat.reduceMul, Nat.reduceSub, Nat.reduceAdd, Nat.reduceLeDiff, l0, l1, a00, a1, s1, q2, q3, h1, h2, h3, h4, *]) | (simp only [zgoO, zgoG, zO_nil, zthen_normal, zgoC]) | (with_reducible apply And.intro) | (with_reducible intro _))
  refine zW_forK [(1, .ptr H.length 0), (3, .ptr (H.length + 1) 0)] ins.length (fun k s' h' => h' = H ++ [.box (eTr ⟨fn, pl, lp, ins, exs, turn, back⟩), .box [Z64 ins.length]] ∧ OnesTo ⟨fn, pl, lp, ins, exs, turn, back⟩ k) (by omega) ⟨rfl, rfl, rfl, rfl, rfl, rfl⟩ rfl rfl (by repeat' (first | exact trivial | (refine ⟨rfl, ?_⟩) | (refine ⟨by simp only [zupd_at, Nat.reduceEqDiff, reduceIte]; assumption, ?_⟩))) rfl rfl (by decide) ⟨rfl, fun j x hj => by omega⟩ ?_ ?_
  · rintro k s' h' hk ⟨rfl, hno⟩ hi hl ⟨f1, f3, -⟩
    have hx : ins[k]? = some ins[k] := List.getElem?_eq_getElem hk
    obtain ⟨q, hq⟩ : ∃ q, q = ins[k] := ⟨_, rfl⟩
    rw [← hq] at hx
    clear hq
    have HN := Lib.hid hno
    have HX := Lib.hid hx
    clear hno hx
    repeat' (first | (simp only [zmPack, zxPack, ne_eq, zfree, owners, Nat.reduceLT, List.contains_cons, List.contains_nil, Nat.reduceBEq, BEq.rfl, chunk, setAt, List.lookup_cons, List.lookup_nil, reduceCtorEq, Nat.reduceEqDiff, reduceIte, implies_true, forall_const, Nat.reduceMul, Nat.reduceSub, Nat.reduceAdd, Nat.reduceLeDiff, a00, a1, *]) | (simp only [zgoO, zgoG, zO_nil, zthen_normal, zgoC]) | (with_reducible apply And.intro) | (with_reducible intro _))
    refine one_z (t := ⟨fn, pl, lp, ins, exs, turn, back⟩) HS.out HX.out fun e he => ?_
    by_cases e0 : e = 0
    · subst e0
      have fin : OnesTo ⟨fn, pl, lp, ins, exs, turn, back⟩ (k + 1) := fun j x hj hx => by
        rcases Nat.lt_succ_iff_lt_or_eq.1 hj with hj | rfl
        · exact HN.out j x hj hx
        · have := HX.out
          simp only at hx
          rw [this] at hx
          injection hx with hx
          rw [← hx]; exact he.1 rfl
      clear he
      repeat' (first | (simp only [zmPack, zxPack, ne_eq, zfree, owners, Nat.reduceLT, List.contains_cons, List.contains_nil, Nat.reduceBEq, BEq.rfl, chunk, setAt, List.lookup_cons, List.lookup_nil, reduceCtorEq, Nat.reduceEqDiff, reduceIte, implies_true, forall_const, Nat.reduceMul, Nat.reduceSub, Nat.reduceAdd, Nat.reduceLeDiff, a00, a1, *]) | (simp only [zgoO, zgoG, zO_nil, zthen_normal, zgoC]) | (with_reducible apply And.intro) | (with_reducible intro _))
    · have fin := fun X => fin0.out e X ⟨fun h => absurd h e0, fun h => absurd (he.2 (h.one k q HX.out)) e0⟩
      clear he
      repeat' (first | (simp only [zmPack, zxPack, ne_eq, zfree, owners, Nat.reduceLT, List.contains_cons, List.contains_nil, Nat.reduceBEq, BEq.rfl, chunk, setAt, List.lookup_cons, List.lookup_nil, reduceCtorEq, Nat.reduceEqDiff, reduceIte, implies_true, forall_const, Nat.reduceMul, Nat.reduceSub, Nat.reduceAdd, Nat.reduceLeDiff, a00, a1, e0, *]) | (simp only [zgoO, zgoG, zO_nil, zthen_normal, zgoC]) | (with_reducible apply And.intro) | (with_reducible intro _))
  · rintro s' h' ⟨rfl, hno⟩ ⟨f1, f3, -⟩
    have HN := Lib.hid (show ∀ (k : Nat) (x : In), ins[k]? = some x → oneB ⟨fn, pl, lp, ins, exs, turn, back⟩ k x = true from fun k x hx => hno k x (List.getElem?_eq_some_iff.1 hx).1 hx)
    clear hno
    have hlt : (valsX turn).length ≤ 100000000 := by have := HS.out.tu; unfold XtS at this; simp only at this; omega
    have HT := Lib.hid HS.out.tu
    simp only at HT
    obtain ⟨z1, X1, z2, X2, e1, e2, e3, e4⟩ := ends_app (A := .box (eTr ⟨fn, pl, lp, ins, exs, turn, back⟩)) (B := .box [Z64 ins.length]) (exs := exs) (back := back) (turn := turn) hm hL
    have e2' := Lib.hid e2
    have e4' := Lib.hid e4
    clear e2 e4
    have hw : ∀ x ∈ back :: exs ++ [turn], XtS x := fun x hx => by
      simp only [List.cons_append, List.mem_cons, List.mem_append, List.mem_singleton, List.not_mem_nil, or_false] at hx
      rcases hx with rfl | hx | rfl
      · exact HS.out.ba
      · exact HS.out.x _ hx
      · exact HS.out.tu
    have hw' := Lib.hid hw
    clear hw
    have hll : (back :: exs).length ≤ 100000000000000 ∧ (back :: exs ++ [turn]).length ≤ 100000000000000 := by simp; omega
    by_cases h5 : 0 < lp
    · repeat' (first | (simp only [zmPack, zxPack, ne_eq, zfree, owners, Nat.reduceLT, List.contains_cons, List.contains_nil, Nat.reduceBEq, BEq.rfl, chunk, setAt, List.lookup_cons, List.lookup_nil, reduceCtorEq, Nat.reduceEqDiff, reduceIte, implies_true, forall_const, Nat.reduceMul, Nat.reduceSub, Nat.reduceAdd, Nat.reduceLeDiff, l0, l1, a00, a1, s1, q2, q3, h5, *]) | (simp only [zgoO, zgoG, zO_nil, zthen_normal, zgoC]) | (with_reducible apply And.intro) | (with_reducible intro _))
      refine values_z (x := turn) HT.out ?_
      repeat' (first | (simp only [zmPack, zxPack, ne_eq, zfree, owners, Nat.reduceLT, List.contains_cons, List.contains_nil, Nat.reduceBEq, BEq.rfl, chunk, setAt, List.lookup_cons, List.lookup_nil, reduceCtorEq, Nat.reduceEqDiff, reduceIte, implies_true, forall_const, Nat.reduceMul, Nat.reduceSub, Nat.reduceAdd, Nat.reduceLeDiff, l0, l1, a00, a1, s1, q2, q3, h5, *]) | (simp only [zgoO, zgoG, zO_nil, zthen_normal, zgoC]) | (with_reducible apply And.intro) | (with_reducible intro _))
      refine all_z (t := ⟨fn, pl, lp, ins, exs, turn, back⟩) hn hlt ?_
      simp only
      cases hv : allV ins lp (valsX turn) with
      | false =>
        have fin := fun X => fin0.out 3 X ⟨fun h => by omega, fun h => by have := h.turn h5; simp only at this; rw [hv] at this; cases this⟩
        repeat' (first | (simp only [zmPack, zxPack, ne_eq, zfree, owners, Nat.reduceLT, List.contains_cons, List.contains_nil, Nat.reduceBEq, BEq.rfl, chunk, setAt, List.lookup_cons, List.lookup_nil, reduceCtorEq, Nat.reduceEqDiff, reduceIte, implies_true, forall_const, Nat.reduceMul, Nat.reduceSub, Nat.reduceAdd, Nat.reduceLeDiff, l0, l1, a00, a1, s1, q2, q3, *]) | (simp only [zgoO, zgoG, zO_nil, zthen_normal, zgoC]) | (with_reducible apply And.intro) | (with_reducible intro _))
      | true =>
        have htu := Lib.hid (show 0 < lp → allV ins lp (valsX turn) = true from fun _ => hv)
        clear hv
        repeat' (first | (simp only [zmPack, zxPack, ne_eq, zfree, owners, Nat.reduceLT, List.contains_cons, List.contains_nil, Nat.reduceBEq, BEq.rfl, chunk, setAt, List.lookup_cons, List.lookup_nil, reduceCtorEq, Nat.reduceEqDiff, reduceIte, implies_true, forall_const, Nat.reduceMul, Nat.reduceSub, Nat.reduceAdd, Nat.reduceLeDiff, l0, l1, a00, a1, s1, q2, q3, e1, *]) | (simp only [zgoO, zgoG, zO_nil, zthen_normal, zgoC]) | (with_reducible apply And.intro) | (with_reducible intro _))
        refine cfX_z (l := back :: exs) (p := fun x => !(allV ins ins.length (valsX x))) e2'.out hll.1 (fun x hx K hK => checka_z (t := ⟨fn, pl, lp, ins, exs, turn, back⟩) (atN0 rfl _ _) (atN1 rfl _ _ _) hn (hw'.out x (List.mem_append_left _ hx)) hK) ?_
        cases hc : (back :: exs).any (fun x => !(allV ins ins.length (valsX x))) with
        | true =>
          have fin := fun X => fin0.out 3 X ⟨fun h => by omega, fun h => by have := h.ends; simp only at this; rw [hc] at this; cases this⟩
          repeat' (first | (simp only [zmPack, zxPack, ne_eq, zfree, owners, Nat.reduceLT, List.contains_cons, List.contains_nil, Nat.reduceBEq, BEq.rfl, chunk, setAt, List.lookup_cons, List.lookup_nil, reduceCtorEq, Nat.reduceEqDiff, reduceIte, implies_true, forall_const, Nat.reduceMul, Nat.reduceSub, Nat.reduceAdd, Nat.reduceLeDiff, *]) | (simp only [zgoO, zgoG, zO_nil, zthen_normal, zgoC]) | (with_reducible apply And.intro) | (with_reducible intro _))
        | false =>
          have hc' := Lib.hid hc
          clear hc
          repeat' (first | (simp only [zmPack, zxPack, ne_eq, zfree, owners, Nat.reduceLT, List.contains_cons, List.contains_nil, Nat.reduceBEq, BEq.rfl, chunk, setAt, List.lookup_cons, List.lookup_nil, reduceCtorEq, Nat.reduceEqDiff, reduceIte, implies_true, forall_const, Nat.reduceMul, Nat.reduceSub, Nat.reduceAdd, Nat.reduceLeDiff, l0, l1, a00, a1, s1, q2, q3, e3, *]) | (simp only [zgoO, zgoG, zO_nil, zthen_normal, zgoC]) | (with_reducible apply And.intro) | (with_reducible intro _))
          refine cfX_z (l := back :: exs ++ [turn]) (p := bigX) e4'.out hll.2 (fun x hx K hK => large_z (hw'.out x hx) hK) ?_
          cases hd : (back :: exs ++ [turn]).any bigX with
          | true =>
            have fin := fun X => fin0.out 2 X ⟨fun h => by omega, fun h => by have := h.big; simp only at this; rw [hd] at this; cases this⟩
            repeat' (first | (simp only [zmPack, zxPack, ne_eq, zfree, owners, Nat.reduceLT, List.contains_cons, List.contains_nil, Nat.reduceBEq, BEq.rfl, chunk, setAt, List.lookup_cons, List.lookup_nil, reduceCtorEq, Nat.reduceEqDiff, reduceIte, implies_true, forall_const, Nat.reduceMul, Nat.reduceSub, Nat.reduceAdd, Nat.reduceLeDiff, *]) | (simp only [zgoO, zgoG, zO_nil, zthen_normal, zgoC]) | (with_reducible apply And.intro) | (with_reducible intro _))
          | false =>
            have fin := fun X => fin0.out 0 X ⟨fun _ => ⟨by simp only; omega, by simp only; omega, by simp only; omega, by simp only; omega, HN.out, htu.out, hc'.out, hd⟩, fun _ => rfl⟩
            clear hd
            repeat' (first | (simp only [zmPack, zxPack, ne_eq, zfree, owners, Nat.reduceLT, List.contains_cons, List.contains_nil, Nat.reduceBEq, BEq.rfl, chunk, setAt, List.lookup_cons, List.lookup_nil, reduceCtorEq, Nat.reduceEqDiff, reduceIte, implies_true, forall_const, Nat.reduceMul, Nat.reduceSub, Nat.reduceAdd, Nat.reduceLeDiff, *]) | (simp only [zgoO, zgoG, zO_nil, zthen_normal, zgoC]) | (with_reducible apply And.intro) | (with_reducible intro _))
    · have htu := Lib.hid (show 0 < lp → allV ins lp (valsX turn) = true from fun h => absurd h h5)
      repeat' (first | (simp only [zmPack, zxPack, ne_eq, zfree, owners, Nat.reduceLT, List.contains_cons, List.contains_nil, Nat.reduceBEq, BEq.rfl, chunk, setAt, List.lookup_cons, List.lookup_nil, reduceCtorEq, Nat.reduceEqDiff, reduceIte, implies_true, forall_const, Nat.reduceMul, Nat.reduceSub, Nat.reduceAdd, Nat.reduceLeDiff, l0, l1, a00, a1, s1, q2, q3, h5, e1, *]) | (simp only [zgoO, zgoG, zO_nil, zthen_normal, zgoC]) | (with_reducible apply And.intro) | (with_reducible intro _))
      refine cfX_z (l := back :: exs) (p := fun x => !(allV ins ins.length (valsX x))) e2'.out hll.1 (fun x hx K hK => checka_z (t := ⟨fn, pl, lp, ins, exs, turn, back⟩) (atN0 rfl _ _) (atN1 rfl _ _ _) hn (hw'.out x (List.mem_append_left _ hx)) hK) ?_
      cases hc : (back :: exs).any (fun x => !(allV ins ins.length (valsX x))) with
      | true =>
        have fin := fun X => fin0.out 3 X ⟨fun h => by omega, fun h => by have := h.ends; simp only at this; rw [hc] at this; cases this⟩
        repeat' (first | (simp only [zmPack, zxPack, ne_eq, zfree, owners, Nat.reduceLT, List.contains_cons, List.contains_nil, Nat.reduceBEq, BEq.rfl, chunk, setAt, List.lookup_cons, List.lookup_nil, reduceCtorEq, Nat.reduceEqDiff, reduceIte, implies_true, forall_const, Nat.reduceMul, Nat.reduceSub, Nat.reduceAdd, Nat.reduceLeDiff, *]) | (simp only [zgoO, zgoG, zO_nil, zthen_normal, zgoC]) | (with_reducible apply And.intro) | (with_reducible intro _))
      | false =>
        have hc' := Lib.hid hc
        clear hc
        repeat' (first | (simp only [zmPack, zxPack, ne_eq, zfree, owners, Nat.reduceLT, List.contains_cons, List.contains_nil, Nat.reduceBEq, BEq.rfl, chunk, setAt, List.lookup_cons, List.lookup_nil, reduceCtorEq, Nat.reduceEqDiff, reduceIte, implies_true, forall_const, Nat.reduceMul, Nat.reduceSub, Nat.reduceAdd, Nat.reduceLeDiff, l0, l1, a00, a1, s1, q2, q3, e3, *]) | (simp only [zgoO, zgoG, zO_nil, zthen_normal, zgoC]) | (with_reducible apply And.intro) | (with_reducible intro _))
        refine cfX_z (l := back :: exs ++ [turn]) (p := bigX) e4'.out hll.2 (fun x hx K hK => large_z (hw'.out x hx) hK) ?_
        cases hd : (back :: exs ++ [turn]).any bigX with
        | true =>
          have fin := fun X => fin0.out 2 X ⟨fun h => by omega, fun h => by have := h.big; simp only at this; rw [hd] at this; cases this⟩
          repeat' (first | (simp only [zmPack, zxPack, ne_eq, zfree, owners, Nat.reduceLT, List.contains_cons, List.contains_nil, Nat.reduceBEq, BEq.rfl, chunk, setAt, List.lookup_cons, List.lookup_nil, reduceCtorEq, Nat.reduceEqDiff, reduceIte, implies_true, forall_const, Nat.reduceMul, Nat.reduceSub, Nat.reduceAdd, Nat.reduceLeDiff, *]) | (simp only [zgoO, zgoG, zO_nil, zthen_normal, zgoC]) | (with_reducible apply And.intro) | (with_reducible intro _))
        | false =>
          have fin := fun X => fin0.out 0 X ⟨fun _ => ⟨by simp only; omega, by simp only; omega, by simp only; omega, by simp only; omega, HN.out, htu.out, hc'.out, hd⟩, fun _ => rfl⟩
          clear hd
          repeat' (first | (simp only [zmPack, zxPack, ne_eq, zfree, owners, Nat.reduceLT, List.contains_cons, List.contains_nil, Nat.reduceBEq, BEq.rfl, chunk, setAt, List.lookup_cons, List.lookup_nil, reduceCtorEq, Nat.reduceEqDiff, reduceIte, implies_true, forall_const, Nat.reduceMul, Nat.reduceSub, Nat.reduceAdd, Nat.reduceLeDiff, *]) | (simp only [zgoO, zgoG, zO_nil, zthen_normal, zgoC]) | (with_reducible apply And.intro) | (with_reducible intro _))
end Go.Proofs.Ytoeppobpnhlebaa
