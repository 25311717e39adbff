/-
  The marker in ZM: step.
-/
import Derived.Test.YtpeagenjmmkohaaMrA9
namespace Go.Proofs.Ytpeagenjmmkohaa
open Go Go.RowKit
set_option linter.unusedVariables false
set_option linter.unusedSimpArgs false
variable {tb : List (FuncId × Bool)} {L : Nat → Bool} {H : ZH} {K : ZV → ZH → Prop} {p t g : Nat} {kd : Int} {mk : Bool} {T : List TB}
theorem stepa_z {x : TB} (hK : K (ZBo (decide (x.2.2.1 = 1))) H) : ZC (constX tb) (cFunc Try.prog) 76 [.agg (eT x)] L H K := by
  refine ZC.enterL Gh.no constX_none f_mk_stepa (by simp) fun hL => ?_
  simp only [c_mk_stepa]
  have fin : ∀ X, Fin H (ZBo (decide (x.2.2.1 = 1))) (H ++ X) K := fun X => Fin.trunc (Mods.ext H X) rfl (by rw [List.take_left]; exact hK)
  have hcl : (plZ x).isCell = true := by obtain ⟨o, y⟩ := x; cases o <;> rfl
  unfold eT
  obtain ⟨c, hc⟩ : ∃ c, c = x.2.2.1 := ⟨_, rfl⟩
  obtain ⟨b, hb⟩ : ∃ b, b = x.2.2.2 := ⟨_, rfl⟩
  obtain ⟨z, hz⟩ : ∃ z, z = plZ x := ⟨_, rfl⟩
  rw [← hz] at hcl ⊢
  rw [← hc] at fin ⊢
  rw [← hb]
  clear hK hc hb hz
  repeat' (first | (simp only [zmPack, zxPack, ne_eq, zfree, owners, Nat.reduceLT, List.contains_cons, List.contains_nil, Nat.reduceBEq, BEq.rfl, chunk, setAt, List.lookup_cons, List.lookup_nil, reduceCtorEq, Nat.reduceEqDiff, reduceIte, implies_true, forall_const, Nat.reduceMul, Nat.reduceSub, Nat.reduceAdd, Nat.reduceLeDiff, hcl, *]) | (simp only [zgoO, zgoG, zO_nil, zthen_normal, zgoC]) | (with_reducible apply And.intro) | (with_reducible intro _))
theorem idxt_z {z : ZV} {l : List TB} {q : TB → Bool} {f : FuncId} {caps : List ZV} (hz : rowsZ H 3 z = some (l.map eT)) (hb : l.length ≤ 100000000000000) (hf : ∀ m ∈ l, ∀ K, K (ZBo (q m)) H → ZC (constX tb) (cFunc Try.prog) f (.agg (eT m) :: caps) L H K) (hK : K (Z64 (idxP q l)) H) :
    ZC (constX tb) (cFunc Try.prog) 75 [z, .func f caps] L H K := by
  refine ZC.enter Gh.no constX_none f_mk_idxt (by simp) ?_
  simp only [c_mk_idxt]
  have hlen := rows_len hz
  rw [List.length_map] at hlen
  have HF := Lib.hid hf
  have HK := Lib.hid hK
  clear hf hK
  repeat' (first | (simp only [zmPack, zxPack, ne_eq, zfree, owners, Nat.reduceLT, List.contains_cons, List.contains_nil, Nat.reduceBEq, BEq.rfl, chunk, setAt, List.lookup_cons, List.lookup_nil, reduceCtorEq, Nat.reduceEqDiff, reduceIte, implies_true, forall_const, Nat.reduceMul, Nat.reduceSub, Nat.reduceAdd, Nat.reduceLeDiff, hlen, *]) | (simp only [zgoO, zgoG, zO_nil, zthen_normal, zgoC]) | (with_reducible apply And.intro) | (with_reducible intro _))
  refine zW_forK [(0, z), (1, .func f caps)] l.length (fun k s' h' => h' = H ∧ NoneYet q (l.take k)) (by omega) ⟨rfl, rfl, rfl, rfl, rfl, rfl⟩ rfl rfl (by repeat' (first | exact trivial | (refine ⟨rfl, ?_⟩) | (refine ⟨by simp only [zupd_at, Nat.reduceEqDiff, reduceIte]; assumption, ?_⟩))) rfl rfl (by decide) ⟨rfl, by simp [NoneYet]⟩ ?_ ?_
  · rintro k s' h' hk ⟨rfl, hno⟩ hi hl ⟨f0, f1, -⟩
    obtain ⟨pp, hq, hld0⟩ := rows_at hz hk
    have hld : ldZ h' (some 3) pp = some (.agg (eT l[k])) := hld0 (some 3)
    clear hld0
    have HN := Lib.hid hno
    clear hno
    repeat' (first | (simp only [zmPack, zxPack, ne_eq, zfree, owners, Nat.reduceLT, List.contains_cons, List.contains_nil, Nat.reduceBEq, BEq.rfl, chunk, setAt, List.lookup_cons, List.lookup_nil, reduceCtorEq, Nat.reduceEqDiff, reduceIte, implies_true, forall_const, Nat.reduceMul, Nat.reduceSub, Nat.reduceAdd, Nat.reduceLeDiff, hq, hld, *]) | (simp only [zgoO, zgoG, zO_nil, zthen_normal, zgoC]) | (with_reducible apply And.intro) | (with_reducible intro _))
    refine HF.out _ (List.getElem_mem hk) _ ?_
    cases hp : q l[k] with
    | true =>
      have hi : idxP q l = (k : Int) := by
        have : l.findIdx? q = some k := by
          rw [List.findIdx?_eq_some_iff_getElem]
          exact ⟨hk, hp, fun j hj => by simp only [Bool.not_eq_true]; exact HN.out _ (by rw [List.mem_take_iff_getElem]; exact ⟨j, by omega, rfl⟩)⟩
        simp only [idxP, this]
      have hK := HK.out
      rw [hi] at hK
      have fin := Fin.keep (H0 := h') hK
      clear hp hi hK hld
      repeat' (first | (simp only [zmPack, zxPack, ne_eq, zfree, owners, Nat.reduceLT, List.contains_cons, List.contains_nil, Nat.reduceBEq, BEq.rfl, chunk, setAt, List.lookup_cons, List.lookup_nil, reduceCtorEq, Nat.reduceEqDiff, reduceIte, implies_true, forall_const, Nat.reduceMul, Nat.reduceSub, Nat.reduceAdd, Nat.reduceLeDiff, *]) | (simp only [zgoO, zgoG, zO_nil, zthen_normal, zgoC]) | (with_reducible apply And.intro) | (with_reducible intro _))
    | false =>
      have fin : NoneYet q (l.take (k + 1)) := fun x hx => by
        rw [List.take_succ_eq_append_getElem hk] at hx
        rcases List.mem_append.1 hx with hx | hx
        · exact HN.out x hx
        · rw [List.mem_singleton.1 hx]; exact hp
      clear hp hld
      repeat' (first | (simp only [zmPack, zxPack, ne_eq, zfree, owners, Nat.reduceLT, List.contains_cons, List.contains_nil, Nat.reduceBEq, BEq.rfl, chunk, setAt, List.lookup_cons, List.lookup_nil, reduceCtorEq, Nat.reduceEqDiff, reduceIte, implies_true, forall_const, Nat.reduceMul, Nat.reduceSub, Nat.reduceAdd, Nat.reduceLeDiff, *]) | (simp only [zgoO, zgoG, zO_nil, zthen_normal, zgoC]) | (with_reducible apply And.intro) | (with_reducible intro _))
  · rintro s' h' ⟨rfl, hno⟩ ⟨f0, f1, -⟩
    rw [List.take_of_length_le (Nat.le_refl _)] at hno
    have hi : idxP q l = -1 := by
      have : l.findIdx? q = none := List.findIdx?_eq_none_iff.2 fun x hx => by rw [hno x hx]
      simp only [idxP, this]
    have hK := HK.out
    rw [hi] at hK
    have fin := Fin.keep (H0 := h') hK
    clear hno hi hK
    repeat' (first | (simp only [zmPack, zxPack, ne_eq, zfree, owners, Nat.reduceLT, List.contains_cons, List.contains_nil, Nat.reduceBEq, BEq.rfl, chunk, setAt, List.lookup_cons, List.lookup_nil, reduceCtorEq, Nat.reduceEqDiff, reduceIte, implies_true, forall_const, Nat.reduceMul, Nat.reduceSub, Nat.reduceAdd, Nat.reduceLeDiff, *]) | (simp only [zgoO, zgoG, zO_nil, zthen_normal, zgoC]) | (with_reducible apply And.intro) | (with_reducible intro _))
def greyB (x : TB) : Bool := decide (x.2.2.1 = 1)
def shades (mk : Bool) (T : List TB) (l : List Int) : List TB := l.foldl (shadeT mk) T
def stepT (mk : Bool) (T : List TB) : Option (List TB) := match T.findIdx? greyB with
  | none => none
  | some i => match T[i]? with
    | some x => some (shades mk (T.set i (colX x 2)) x.2.1)
    | none => none
theorem shades_key {l : List Int} : ∀ {T : List TB}, (shades mk T l).map keyT = T.map keyT := by
  induction l with
  | nil => exact rfl
  | cons a l ih => intro T; exact (ih (T := shadeT mk T a)).trans shade_key
theorem shades_next {l : List Int} {k : Nat} (hk : k < l.length) : shades mk T (l.take (k + 1)) = shadeT mk (shades mk T (l.take k)) l[k] := by
  unfold shades; rw [List.take_succ_eq_append_getElem hk, List.foldl_append]; rfl
theorem key_mem {T' : List TB} (hk : T'.map keyT = T.map keyT) {x : TB} (hx : x ∈ T') : ∃ y ∈ T, y.1 = x.1 ∧ y.2.1 = x.2.1 := by
  have : keyT x ∈ T.map keyT := by rw [← hk]; exact List.mem_map_of_mem hx
  obtain ⟨y, hy, e⟩ := List.mem_map.1 this
  injection e with e1 e2
  exact ⟨y, hy, e1, e2⟩
theorem key_len {T' : List TB} (hk : T'.map keyT = T.map keyT) : T'.length = T.length := by have := congrArg List.length hk; simpa using this
theorem Rng.key {T' : List TB} (h : Rng T) (hk : T'.map keyT = T.map keyT) : Rng T' := by
  refine ⟨by rw [key_len hk]; exact h.len, fun x hx => ?_, fun x hx y hy => ?_⟩
  · obtain ⟨z, hz, _, e⟩ := key_mem hk hx; rw [← e]; exact h.sm z hz
  · obtain ⟨z, hz, _, e⟩ := key_mem hk hx; rw [key_len hk]; rw [← e] at hy; exact h.rng z hz y hy
set_option maxHeartbeats 1000000 in
theorem step_z (h : MkAt H p t g kd mk T) (hr : Rng T) (hL : L t = true) (hK1 : stepT mk T = none → K (ZBo false) H) (hK2 : ∀ T', stepT mk T = some T' → K (ZBo true) (thH H t g T')) :
    ZC (constX tb) (cFunc Try.prog) 59 [.ptr p 0] L H K := by
  refine ZC.enter Gh.no constX_none f_mk_step (by simp) ?_
  simp only [c_mk_step]
  have hb := h.box
  have h3 : rowsZ H 3 (.own t g 0 T.length false) = some (T.map eT) := rows_whole h.arr (by simp)
  have HM := Lib.hid h
  have HR := Lib.hid hr
  have HL := Lib.hid hL
  have K1 := Lib.hid hK1
  have K2 := Lib.hid hK2
  have H3 := Lib.hid h3
  clear hK1 hK2 hr h h3 hL
  repeat' (first | (simp only [zmPack, zxPack, ne_eq, zfree, owners, Nat.reduceLT, List.contains_cons, List.contains_nil, Nat.reduceBEq, BEq.rfl, chunk, setAt, List.lookup_cons, List.lookup_nil, reduceCtorEq, Nat.reduceEqDiff, reduceIte, implies_true, forall_const, Nat.reduceMul, Nat.reduceSub, Nat.reduceAdd, Nat.reduceLeDiff, hb, *]) | (simp only [zgoO, zgoG, zO_nil, zthen_normal, zgoC]) | (with_reducible apply And.intro) | (with_reducible intro _))
  refine idxt_z (q := greyB) H3.out (by have := HM.out.len; omega) (fun m _ K2 k2 => stepa_z k2) ?_
  cases hf : T.findIdx? greyB with
  | none =>
    have hi : idxP greyB T = -1 := by simp only [idxP, hf]
    have fin := Fin.keep (H0 := H) (K1.out (by unfold stepT; rw [hf]))
    rw [hi]
    have hneg : (-1 : Int) < 0 := by omega
    clear hi hf hb
    repeat' (first | (simp only [zmPack, zxPack, ne_eq, zfree, owners, Nat.reduceLT, List.contains_cons, List.contains_nil, Nat.reduceBEq, BEq.rfl, chunk, setAt, List.lookup_cons, List.lookup_nil, reduceCtorEq, Nat.reduceEqDiff, reduceIte, implies_true, forall_const, Nat.reduceMul, Nat.reduceSub, Nat.reduceAdd, Nat.reduceLeDiff, hneg, *]) | (simp only [zgoO, zgoG, zO_nil, zthen_normal, zgoC]) | (with_reducible apply And.intro) | (with_reducible intro _))
  | some i =>
    have hi : idxP greyB T = (i : Int) := by simp only [idxP, hf]
    obtain ⟨hil, _, _⟩ := List.findIdx?_eq_some_iff_getElem.1 hf
    have hx : T[i]? = some T[i] := List.getElem?_eq_getElem hil
    have hmem : T[i] ∈ T := List.getElem_mem hil
    have hs : ∀ T', shades mk (T.set i (colX T[i] 2)) T[i].2.1 = T' → stepT mk T = some T' := fun T' e => by
      unfold stepT; rw [hf]; simp only [hx]; rw [e]
    rw [hi]
    have hel := t_el HM.out hil
    obtain ⟨x, hxe⟩ : ∃ x, x = T[i] := ⟨_, rfl⟩
    rw [← hxe] at hx hs hmem
    have hst := t_st HM.out HL.out hx 2
    have hk1 : (T.set i (colX x 2)).map keyT = T.map keyT := key_set hx rfl
    have h1 := HM.out.upd hk1
    have hl1 := key_len hk1
    have hb1 := h1.box
    have hx1 : (T.set i (colX x 2))[i]? = some (colX x 2) := by rw [List.getElem?_set_self hil]
    have hel1 := t_el h1 (n := i) (by rw [hl1]; exact hil)
    have hld1 : ldZ (thH H t g (T.set i (colX x 2))) none (.eptr t g i 0) = some (plZ x) := (t_ld h1 (o := 0) hx1).trans rfl
    rw [hl1] at hb1 hel1
    have hpl : ∀ T', T'.map keyT = T.map keyT → rowsZ (thH H t g T') 1 (plZ x) = some (x.2.1.map eI) := fun T' hk => by
      have := (HM.out.upd hk).pl
      obtain ⟨y, hy, e1, e2⟩ := key_mem hk.symm hmem
      have h2 := (HM.out.upd hk).rows hy
      have e3 : plZ y = plZ x := by
        obtain ⟨o, y2⟩ := y; obtain ⟨o', x2⟩ := x
        simp only at e1 e2; subst e1
        cases o with
        | none => rfl
        | some j => simp only [plZ, e2]
      rw [e3, e2] at h2; exact h2
    have hpl0 := hpl _ hk1
    have hlen := rows_len hpl0
    rw [List.length_map] at hlen
    have hsm := HM.out.sm x hmem
    have hrg := HR.out.rng x hmem
    obtain ⟨T1, hT1⟩ : ∃ T1, T1 = T.set i (colX x 2) := ⟨_, rfl⟩
    rw [← hT1] at hst hk1 hb1 hel1 hld1 hpl0 hlen hs
    obtain ⟨pz, hpz⟩ : ∃ pz, pz = plZ x := ⟨_, rfl⟩
    rw [← hpz] at hpl hpl0 hld1 hlen
    have HSM := Lib.hid hsm
    have HRG := Lib.hid hrg
    have HS := Lib.hid hs
    have HPL := Lib.hid hpl
    have HK1 := Lib.hid hk1
    have hi0 : ¬ ((i : Int) < 0) := by omega
    clear hi hf hxe hx hmem h1 hl1 hx1 hsm hrg hs hT1 hpz hpl hk1 hpl0
    repeat' (first | (simp only [zmPack, zxPack, ne_eq, zfree, owners, Nat.reduceLT, List.contains_cons, List.contains_nil, Nat.reduceBEq, BEq.rfl, chunk, setAt, List.lookup_cons, List.lookup_nil, reduceCtorEq, Nat.reduceEqDiff, reduceIte, implies_true, forall_const, Nat.reduceMul, Nat.reduceSub, Nat.reduceAdd, Nat.reduceLeDiff, hb, hel, hst, hb1, hel1, hld1, hlen, *]) | (simp only [zgoO, zgoG, zO_nil, zthen_normal, zgoC]) | (with_reducible apply And.intro) | (with_reducible intro _))
    refine zW_forK [(27, pz), (0, .ptr p 0)] x.2.1.length (fun k s' h' => h' = thH H t g (shades mk T1 (x.2.1.take k))) (by have := HSM.out; omega) ⟨rfl, rfl, rfl, rfl, rfl, rfl⟩ rfl rfl (by repeat' (first | exact trivial | (refine ⟨rfl, ?_⟩) | (refine ⟨by simp only [zupd_at, Nat.reduceEqDiff, reduceIte]; assumption, ?_⟩))) rfl rfl (by decide) rfl ?_ ?_
    · rintro k s' h' hk rfl hi hll ⟨f27, f0, -⟩
      have hkk := (shades_key (mk := mk) (l := x.2.1.take k) (T := T1)).trans HK1.out
      obtain ⟨pp, hp, hld⟩ := rows_at (HPL.out _ hkk) hk
      have hn := shades_next (mk := mk) (T := T1) hk
      have hrg := HRG.out _ (List.getElem_mem hk)
      obtain ⟨y, hy⟩ : ∃ y, y = x.2.1[k] := ⟨_, rfl⟩
      rw [← hy] at hld hn hrg
      have HN := Lib.hid hn
      have HY := Lib.hid hrg
      have HKK := Lib.hid hkk
      clear hy hn hrg hkk hel hst hel1 hld1 hlen hb hb1
      repeat' (first | (simp only [zmPack, zxPack, ne_eq, zfree, owners, Nat.reduceLT, List.contains_cons, List.contains_nil, Nat.reduceBEq, BEq.rfl, chunk, setAt, List.lookup_cons, List.lookup_nil, reduceCtorEq, Nat.reduceEqDiff, reduceIte, implies_true, forall_const, Nat.reduceMul, Nat.reduceSub, Nat.reduceAdd, Nat.reduceLeDiff, hp, hld, *]) | (simp only [zgoO, zgoG, zO_nil, zthen_normal, zgoC]) | (with_reducible apply And.intro) | (with_reducible intro _))
      refine shade_z (HM.out.upd HKK.out) HL.out (fun _ _ => by rw [key_len HKK.out]; exact HY.out) ?_
      rw [thH_thH, ← HN.out]
      repeat' (first | (simp only [zmPack, zxPack, ne_eq, zfree, owners, Nat.reduceLT, List.contains_cons, List.contains_nil, Nat.reduceBEq, BEq.rfl, chunk, setAt, List.lookup_cons, List.lookup_nil, reduceCtorEq, Nat.reduceEqDiff, reduceIte, implies_true, forall_const, Nat.reduceMul, Nat.reduceSub, Nat.reduceAdd, Nat.reduceLeDiff, *]) | (simp only [zgoO, zgoG, zO_nil, zthen_normal, zgoC]) | (with_reducible apply And.intro) | (with_reducible intro _))
    · rintro s' h' rfl ⟨f27, f0, -⟩
      rw [List.take_of_length_le (Nat.le_refl _)]
      have fin := Fin.keep (H0 := H) (K2.out _ (HS.out _ rfl))
      clear hel hst hel1 hld1 hlen hb hb1
      repeat' (first | (simp only [zmPack, zxPack, ne_eq, zfree, owners, Nat.reduceLT, List.contains_cons, List.contains_nil, Nat.reduceBEq, BEq.rfl, chunk, setAt, List.lookup_cons, List.lookup_nil, reduceCtorEq, Nat.reduceEqDiff, reduceIte, implies_true, forall_const, Nat.reduceMul, Nat.reduceSub, Nat.reduceAdd, Nat.reduceLeDiff, *]) | (simp only [zgoO, zgoG, zO_nil, zthen_normal, zgoC]) | (with_reducible apply And.intro) | (with_reducible intro _))
end Go.Proofs.Ytpeagenjmmkohaa

namespace Go.Proofs.Ytpeagenjmmkohaa
open Go Go.RowKit
set_option linter.unusedVariables false
set_option linter.unusedSimpArgs false
variable {tb : List (FuncId × Bool)} {L : Nat → Bool} {H : ZH} {K : ZV → ZH → Prop} {p t g : Nat} {kd : Int} {mk : Bool} {T : List TB}
theorem Fin.truncT {H0 : ZH} {zs : List ZV} {H' : ZH} {K : ZV → ZH → Prop} (hm : Mods H0 H') (hz : zs.all (refs H0.length) = true) (k : K (.tuple zs) (H'.take H0.length)) : Fin H0 (.tuple zs) H' K := fun fl L w w' a r e r' e' he hzz => by
  subst e; subst he
  obtain ⟨r2, e2⟩ := trunc_w r r' e' hm
  obtain ⟨ys, rfl, hys⟩ := hzz.tuple_inv
  exact ⟨.tuple zs, truncW w' w.H.length, rfl, r2, e2, ZRs.toTuple ⟨hys.1, fun i z b h1 h2 => (hys.2 i z b h1 h2).ren (trunc_ren e'.Hl) (List.all_eq_true.1 hz z (List.mem_of_getElem? h1))⟩, k⟩
set_option maxHeartbeats 8000000 in
/-- So many steps. -/
inductive Stp (mk : Bool) : Nat → List TB → List TB → Prop
  | zero {T : List TB} : Stp mk 0 T T
  | next {n : Nat} {T T1 T2 : List TB} : Stp mk n T T1 → stepT mk T1 = some T2 → Stp mk (n + 1) T T2
/-- Those that are not black yet, nor gone. -/
def dimB (x : TB) : Bool := decide (x.2.2.1 = 0 ∨ x.2.2.1 = 1)
def dim (T : List TB) : Nat := T.countP dimB
theorem countP_put {α : Type} {q : α → Bool} : ∀ {l : List α} {n : Nat} {x y : α}, l[n]? = some x → (l.set n y).countP q + (if q x = true then 1 else 0) = l.countP q + (if q y = true then 1 else 0)
  | [], n, x, y, h => by simp at h
  | a :: l, 0, x, y, h => by
    simp at h; subst h
    simp only [List.set_cons_zero, List.countP_cons]; omega
  | a :: l, n + 1, x, y, h => by
    have := countP_put (q := q) (l := l) (n := n) (x := x) (y := y) (by simpa using h)
    simp only [List.set_cons_succ, List.countP_cons]; omega
theorem shade_dim {n : Int} : dim (shadeT mk T n) = dim T := by
  unfold shadeT
  split
  · split
    · rename_i x hx
      split
      · rename_i h0
        have := countP_put (q := dimB) (y := colX x 1) hx
        have e1 : dimB x = true := by simp [dimB, h0]
        have e2 : dimB (colX x 1) = true := by simp [dimB]
        rw [e1, e2] at this
        unfold dim; simpa using this
      · rfl
    · rfl
  · rfl
theorem shades_dim {l : List Int} : ∀ {T : List TB}, dim (shades mk T l) = dim T := by
  induction l with
  | nil => exact rfl
  | cons a l ih => intro T; exact (ih (T := shadeT mk T a)).trans shade_dim
theorem stepT_some {T' : List TB} (h : stepT mk T = some T') : ∃ i x, T[i]? = some x ∧ x.2.2.1 = 1 ∧ T' = shades mk (T.set i (colX x 2)) x.2.1 ∧ (∀ j y, j < i → T[j]? = some y → y.2.2.1 ≠ 1) := by
  unfold stepT at h
  cases hf : T.findIdx? greyB with
  | none => rw [hf] at h; cases h
  | some i =>
    obtain ⟨h1, h2, h3⟩ := List.findIdx?_eq_some_iff_getElem.1 hf
    rw [hf] at h
    have hx : T[i]? = some T[i] := List.getElem?_eq_getElem h1
    simp only [hx, Option.some.injEq] at h
    refine ⟨i, T[i], hx, by simpa [greyB] using h2, h.symm, fun j y hj hy => ?_⟩
    have := h3 j hj
    obtain ⟨hjl, e⟩ := List.getElem?_eq_some_iff.1 hy
    rw [e] at this
    simpa [greyB] using this
theorem stepT_dim {T' : List TB} (h : stepT mk T = some T') : dim T' < dim T := by
  obtain ⟨i, x, hx, h1, rfl, _⟩ := stepT_some h
  rw [shades_dim]
  have := countP_put (q := dimB) (y := colX x 2) hx
  have e1 : dimB x = true := by simp [dimB, h1]
  have e2 : dimB (colX x 2) = false := by simp [dimB]
  rw [e1, e2] at this
  unfold dim; simp at this; omega
theorem stepT_key {T' : List TB} (h : stepT mk T = some T') : T'.map keyT = T.map keyT := by
  obtain ⟨i, x, hx, h1, rfl, _⟩ := stepT_some h
  rw [shades_key, key_set (y := colX x 2) hx rfl]
theorem Stp.key {n : Nat} {T' : List TB} (h : Stp mk n T T') : T'.map keyT = T.map keyT := by
  induction h with
  | zero => rfl
  | next _ h2 ih => rw [stepT_key h2, ih]
theorem Stp.len {n : Nat} {T' : List TB} (h : Stp mk n T T') : n + dim T' ≤ dim T := by
  induction h with
  | zero => omega
  | next _ h2 ih => have := stepT_dim h2; omega
theorem dim_le : dim T ≤ T.length := List.countP_le_length
set_option maxHeartbeats 1000000 in
theorem steps_z {n : Int} (h : MkAt H p t g kd mk T) (hr : Rng T) (hL : L t = true) (hK1 : mk = false → K (.tuple [Z64 0, Z64 8]) H) (hK2 : mk = true → n < 0 → K (.tuple [Z64 0, Z64 1]) H)
    (hK3 : ∀ (m : Nat) T1, mk = true → 0 ≤ n → Stp mk m T T1 → (m : Int) ≤ n → ((m : Int) < n → stepT mk T1 = none) → K (.tuple [Z64 m, Z64 0]) (thH H t g T1)) :
    ZC (constX tb) (cFunc Try.prog) 43 [.ptr p 0, Z64 n] L H K := by
  refine ZC.enter Gh.no constX_none f_mk_stepsm (by simp) ?_
  simp only [c_mk_stepsm]
  have hb := h.box
  have HM := Lib.hid h
  have HR := Lib.hid hr
  have HL := Lib.hid hL
  have K3 := Lib.hid hK3
  cases mk with
  | false =>
    have fin := Fin.keep (H0 := H) (hK1 rfl)
    clear hK1 hK2 hK3 h hr hL
    repeat' (first | (simp only [zmPack, zxPack, ne_eq, zfree, owners, Nat.reduceLT, List.contains_cons, List.contains_nil, Nat.reduceBEq, BEq.rfl, chunk, setAt, List.lookup_cons, List.lookup_nil, reduceCtorEq, Nat.reduceEqDiff, reduceIte, implies_true, forall_const, Nat.reduceMul, Nat.reduceSub, Nat.reduceAdd, Nat.reduceLeDiff, hb, *]) | (simp only [zgoO, zgoG, zO_nil, zthen_normal, zgoC]) | (with_reducible apply And.intro) | (with_reducible intro _))
  | true =>
    by_cases h0 : n < 0
    · have fin := Fin.keep (H0 := H) (hK2 rfl h0)
      clear hK1 hK2 hK3 h hr hL
      repeat' (first | (simp only [zmPack, zxPack, ne_eq, zfree, owners, Nat.reduceLT, List.contains_cons, List.contains_nil, Nat.reduceBEq, BEq.rfl, chunk, setAt, List.lookup_cons, List.lookup_nil, reduceCtorEq, Nat.reduceEqDiff, reduceIte, implies_true, forall_const, Nat.reduceMul, Nat.reduceSub, Nat.reduceAdd, Nat.reduceLeDiff, hb, *]) | (simp only [zgoO, zgoG, zO_nil, zthen_normal, zgoC]) | (with_reducible apply And.intro) | (with_reducible intro _))
    · have H0 := Lib.hid h0
      have hs := h.same
      clear hK1 hK2 hK3 h hr hL
      repeat' (first | (simp only [zmPack, zxPack, ne_eq, zfree, owners, Nat.reduceLT, List.contains_cons, List.contains_nil, Nat.reduceBEq, BEq.rfl, chunk, setAt, List.lookup_cons, List.lookup_nil, reduceCtorEq, Nat.reduceEqDiff, reduceIte, implies_true, forall_const, Nat.reduceMul, Nat.reduceSub, Nat.reduceAdd, Nat.reduceLeDiff, hb, *]) | (simp only [zgoO, zgoG, zO_nil, zthen_normal, zgoC]) | (with_reducible apply And.intro) | (with_reducible intro _))
      refine zW_whileK [(0, .ptr p 0), (1, Z64 n)] (dim T) (fun d s' h' => ∃ (m : Nat) (T1 : List TB), s' 6 = Z64 (m : Nat) ∧ h' = thH H t g T1 ∧ Stp true m T T1 ∧ (m : Int) ≤ n ∧ d = dim T1) (by repeat' (first | exact trivial | (refine ⟨rfl, ?_⟩) | (refine ⟨by simp only [zupd_at, Nat.reduceEqDiff, reduceIte]; assumption, ?_⟩))) rfl ⟨0, T, rfl, hs.symm, .zero, by have := H0.out; omega, rfl⟩ ?_
      clear hs hb h0
      rintro d s' h' ⟨m, T1, f6, rfl, hS, hm, rfl⟩ ⟨f0, f1, -⟩
      have hmlt : m ≤ 100 := by have := hS.len; have := dim_le (T := T); have := HM.out.len; omega
      by_cases hlt : (m : Int) < n
      · have HS := Lib.hid hS
        have HMM := Lib.hid hm
        have HMX := Lib.hid hmlt
        clear hS hm hmlt
        repeat' (first | (simp only [zmPack, zxPack, ne_eq, zfree, owners, Nat.reduceLT, List.contains_cons, List.contains_nil, Nat.reduceBEq, BEq.rfl, chunk, setAt, List.lookup_cons, List.lookup_nil, reduceCtorEq, Nat.reduceEqDiff, reduceIte, implies_true, forall_const, Nat.reduceMul, Nat.reduceSub, Nat.reduceAdd, Nat.reduceLeDiff, *]) | (simp only [zgoO, zgoG, zO_nil, zthen_normal, zgoC]) | (with_reducible apply And.intro) | (with_reducible intro _))
        have hu := HM.out.upd HS.out.key
        refine step_z hu (HR.out.key HS.out.key) HL.out (fun hno => ?_) (fun T2 hT2 => ?_)
        · have fin := Fin.keep (H0 := H) (K3.out m T1 rfl (by omega) HS.out HMM.out fun _ => hno)
          clear hno hu
          repeat' (first | (simp only [zmPack, zxPack, ne_eq, zfree, owners, Nat.reduceLT, List.contains_cons, List.contains_nil, Nat.reduceBEq, BEq.rfl, chunk, setAt, List.lookup_cons, List.lookup_nil, reduceCtorEq, Nat.reduceEqDiff, reduceIte, implies_true, forall_const, Nat.reduceMul, Nat.reduceSub, Nat.reduceAdd, Nat.reduceLeDiff, *]) | (simp only [zgoO, zgoG, zO_nil, zthen_normal, zgoC]) | (with_reducible apply And.intro) | (with_reducible intro _))
        · have hS2 := HS.out.next hT2
          have hd := stepT_dim hT2
          have w1 : IntKind.i64.wrap ((m : Int) + 1) = ((m + 1 : Nat) : Int) := by have := HMX.out; rw [IntWalk.i64_in _ (by omega)]; omega
          rw [thH_thH]
          have FN : Hid (∃ d, d < dim T1 ∧ ∃ (m2 : Nat) (T3 : List TB), ((m + 1 : Nat) : Int) = (m2 : Nat) ∧ thH H t g T2 = thH H t g T3 ∧ Stp true m2 T T3 ∧ (m2 : Int) ≤ n ∧ d = dim T3) := Lib.hid ⟨_, hd, m + 1, T2, rfl, rfl, hS2, by omega, rfl⟩
          clear hS2 hd hT2 hu
          repeat' (first | (simp only [zmPack, zxPack, ne_eq, zfree, owners, Nat.reduceLT, List.contains_cons, List.contains_nil, Nat.reduceBEq, BEq.rfl, chunk, setAt, List.lookup_cons, List.lookup_nil, reduceCtorEq, Nat.reduceEqDiff, reduceIte, implies_true, forall_const, Nat.reduceMul, Nat.reduceSub, Nat.reduceAdd, Nat.reduceLeDiff, w1, *]) | (simp only [zgoO, zgoG, zO_nil, zthen_normal, zgoC]) | (with_reducible apply And.intro) | (with_reducible intro _))
          all_goals (obtain ⟨d, q1, m2, T3, q2, q3, q4⟩ := FN.out; exact ⟨d, q1, m2, q2, T3, q3, q4⟩)
      · have fin := Fin.keep (H0 := H) (K3.out m T1 rfl (by have := H0.out; omega) hS hm fun h => absurd h hlt)
        clear hS hm hmlt
        repeat' (first | (simp only [zmPack, zxPack, ne_eq, zfree, owners, Nat.reduceLT, List.contains_cons, List.contains_nil, Nat.reduceBEq, BEq.rfl, chunk, setAt, List.lookup_cons, List.lookup_nil, reduceCtorEq, Nat.reduceEqDiff, reduceIte, implies_true, forall_const, Nat.reduceMul, Nat.reduceSub, Nat.reduceAdd, Nat.reduceLeDiff, *]) | (simp only [zgoO, zgoG, zO_nil, zthen_normal, zgoC]) | (with_reducible apply And.intro) | (with_reducible intro _))
theorem pure_row {x : TB} {n : Nat} (hj : ∀ j, x.1 = some j → j < n) : (eT x).all (refs1 n) = true := by
  obtain ⟨o, pl, c, b⟩ := x
  cases o with
  | none => rfl
  | some j => have := hj j rfl; simp [eT, plZ, refs1, this]
theorem MkAt.refs (h : MkAt H p t g kd mk T) {T' : List TB} (hk : T'.map keyT = T.map keyT) {n : Nat} (hn : H.length ≤ n) : refsB n (.grow g 3 (T'.map eT)) = true := by
  simp only [refsB]
  rw [List.all_eq_true]
  intro z hz
  obtain ⟨r, hr, hz⟩ := List.mem_flatten.1 hz
  obtain ⟨x, hx, rfl⟩ := List.mem_map.1 hr
  refine List.all_eq_true.1 (pure_row fun j hj => ?_) z hz
  obtain ⟨y, hy, e1, e2⟩ := key_mem hk hx
  have := h.pl y hy
  rw [e1, hj] at this
  have := lt_of_get this.2
  omega
abbrev pH (H : ZH) (p t g : Nat) (kd : Int) (mk : Bool) (n : Nat) : ZH := H.set p (.box [Z64 kd, ZBo mk, .own t g 0 n false])
theorem MkAt.flag (h : MkAt H p t g kd mk T) (b : Bool) : MkAt (pH H p t g kd b T.length) p t g kd b T := by
  refine ⟨by rw [List.getElem?_set_self (lt_of_get h.box)], by rw [List.getElem?_set_ne h.pt]; exact h.arr, fun x hx => ?_, h.nod, h.len, h.sm⟩
  have h1 := h.pl x hx
  have h2 : ∀ j, x.1 = some j → j ≠ t ∧ j ≠ p := fun j hj => h.jt hx hj
  revert h1 h2
  cases x.1 with
  | none => exact fun h1 _ => h1
  | some j => exact fun h1 h2 => ⟨h1.1, by rw [List.getElem?_set_ne (Ne.symm (h2 j rfl).2)]; exact h1.2⟩
/-- Roots become grey. -/
def begT (T : List TB) : List TB := shades true T (rising (heldB T))
theorem heldB_at {k : Nat} {x : TB} (hx : T[k]? = some x) : (heldB T).getD k false = x.2.2.2 := by simp [heldB, List.getD, hx]
theorem shade_held {n : Int} : heldB (shadeT mk T n) = heldB T := by
  unfold shadeT
  split
  · split
    · rename_i x hx
      split
      · unfold heldB
        rw [List.map_set]
        apply List.ext_getElem?
        intro j
        rw [List.getElem?_set]
        split
        · rename_i e; subst e; rw [if_pos (by simpa using (List.getElem?_eq_some_iff.1 hx).1), List.getElem?_map, hx]; rfl
        · rfl
      · rfl
    · rfl
  · rfl
theorem shades_held {l : List Int} : ∀ {T : List TB}, heldB (shades mk T l) = heldB T := by
  induction l with
  | nil => exact rfl
  | cons a l ih => intro T; exact (ih (T := shadeT mk T a)).trans shade_held
set_option maxHeartbeats 2000000 in
theorem begin_z (h : MkAt H p t g kd mk T) (hr : Rng T) (hL : L t = true) (hLp : L p = true) (hK1 : mk = true → K (.tuple [Z64 0, Z64 8]) H)
    (hK2 : mk = false → K (.tuple [Z64 (rising (heldB T)).length, Z64 0]) (thH (pH H p t g kd true T.length) t g (begT T))) :
    ZC (constX tb) (cFunc Try.prog) 42 [.ptr p 0] L H K := by
  refine ZC.enterL Gh.no constX_none f_mk_begin (by simp) fun hLn => ?_
  simp only [c_mk_begin]
  have hb := h.box
  have HM := Lib.hid h
  have HR := Lib.hid hr
  have HL := Lib.hid hL
  have K2 := Lib.hid hK2
  cases mk with
  | true =>
    have fin := Fin.keep (H0 := H) (hK1 rfl)
    clear hK1 hK2 h hr hL
    repeat' (first | (simp only [zmPack, zxPack, ne_eq, zfree, owners, Nat.reduceLT, List.contains_cons, List.contains_nil, Nat.reduceBEq, BEq.rfl, chunk, setAt, List.lookup_cons, List.lookup_nil, reduceCtorEq, Nat.reduceEqDiff, reduceIte, implies_true, forall_const, Nat.reduceMul, Nat.reduceSub, Nat.reduceAdd, Nat.reduceLeDiff, hb, *]) | (simp only [zgoO, zgoG, zO_nil, zthen_normal, zgoC]) | (with_reducible apply And.intro) | (with_reducible intro _))
  | false =>
    obtain ⟨P, hP⟩ : ∃ P, P = pH H p t g kd true T.length := ⟨_, rfl⟩
    have hPl : P.length = H.length := by rw [hP]; simp
    have hM2 : MkAt P p t g kd true T := by rw [hP]; exact h.flag true
    have hs := hM2.same
    have hst : stZ L H [ZBo true] (.ptr p 1) = some P := by
      rw [st_ptr]; exact ⟨_, hb, hLp, by simp, by rw [hP]; rfl⟩
    have hb2 := hM2.box
    have hl3 := rows_len (rows_whole (ex := false) hM2.arr rfl)
    rw [List.length_map] at hl3
    have HM2 := Lib.hid hM2
    have HP := Lib.hid hP
    have HPl := Lib.hid hPl
    have F : Hid (∀ X, Fin H (.tuple [Z64 (rising (heldB T)).length, Z64 0]) (thH P t g (begT T) ++ X) K) := Lib.hid fun X => by
      have hl : (thH P t g (begT T)).length = H.length := by simp [hPl]
      refine Fin.truncT (fun i B hi hB => ?_) rfl (by rw [← hl, List.take_left]; rw [hP]; exact K2.out rfl)
      rw [List.getElem?_append_left (by rw [hl]; exact hi), hP] at hB
      rw [List.getElem?_set] at hB
      split at hB
      · split at hB
        · injection hB with hB; subst hB
          exact .inr (HM.out.refs (shades_key) (Nat.le_refl _))
        · cases hB
      · rw [List.getElem?_set] at hB
        split at hB
        · split at hB
          · injection hB with hB; subst hB
            exact .inr (by simp [refsB, refs1, lt_of_get HM.out.arr])
          · cases hB
        · exact .inl hB
    clear hK1 hK2 h hr hL hP hPl hM2 hLp
    repeat' (first | (simp only [zmPack, zxPack, ne_eq, zfree, owners, Nat.reduceLT, List.contains_cons, List.contains_nil, Nat.reduceBEq, BEq.rfl, chunk, setAt, List.lookup_cons, List.lookup_nil, reduceCtorEq, Nat.reduceEqDiff, reduceIte, implies_true, forall_const, Nat.reduceMul, Nat.reduceSub, Nat.reduceAdd, Nat.reduceLeDiff, hb, hst, hb2, hl3, *]) | (simp only [zgoO, zgoG, zO_nil, zthen_normal, zgoC]) | (with_reducible apply And.intro) | (with_reducible intro _))
    refine zW_forK [(0, .ptr p 0), (17, .own t g 0 T.length false)] T.length (fun k s' h' => ∃ X, s' 4 = Z64 (riseTo (heldB T) k).length ∧ h' = thH P t g (shades true T (riseTo (heldB T) k)) ++ X) (by have := HM.out.len; omega) ⟨rfl, rfl, rfl, rfl, rfl, rfl⟩ rfl rfl (by repeat' (first | exact trivial | (refine ⟨rfl, ?_⟩) | (refine ⟨by simp only [zupd_at, Nat.reduceEqDiff, reduceIte]; assumption, ?_⟩))) rfl rfl (by decide) ⟨[], rfl, by rw [List.append_nil]; exact hs.symm⟩ ?_ ?_
    · clear hs hb hst hb2 hl3
      rintro k s' h' hk ⟨X, f4, rfl⟩ hi hll ⟨f0, f17, -⟩
      have hkey : (shades true T (riseTo (heldB T) k)).map keyT = T.map keyT := shades_key
      have hM3 := HM2.out.upd hkey
      have hlen3 := key_len hkey
      have hheld : heldB (shades true T (riseTo (heldB T) k)) = heldB T := shades_held
      have hru := riseTo_succ (heldB T) k
      have hrl := riseTo_length (heldB T) k
      obtain ⟨T1, hT1⟩ : ∃ T1, T1 = shades true T (riseTo (heldB T) k) := ⟨_, rfl⟩
      rw [← hT1] at hkey hM3 hlen3 hheld ⊢
      have hk1 : k < T1.length := by rw [hlen3]; exact hk
      have hx : T1[k]? = some T1[k] := List.getElem?_eq_getElem hk1
      have hhx := heldB_at hx
      rw [hheld] at hhx
      rw [hhx] at hru
      have hel := t_el (hM3.ext X) hk1
      rw [hlen3] at hel
      have hnext : ∀ n, shades true T (riseTo (heldB T) k ++ [n]) = shadeT true T1 n := fun n => by rw [hT1]; unfold shades; rw [List.foldl_append]; rfl
      obtain ⟨W, hW⟩ : ∃ W, W = thH P t g T1 := ⟨_, rfl⟩
      rw [← hW] at hM3 hel ⊢
      have hld : ∀ Y, ldZ (W ++ Y) (some 3) (.eptr t g k 0) = some (.agg (eT T1[k])) := fun Y => by
        rw [ld_eptr]; exact ⟨_, _, eT T1[k], (hM3.ext Y).arr, by rw [List.getElem?_map, hx]; rfl, rfl⟩
      obtain ⟨x, hxe⟩ : ∃ x, x = T1[k] := ⟨_, rfl⟩
      rw [← hxe] at hld hru
      have hcl : (plZ x).isCell = true := by obtain ⟨o, y⟩ := x; cases o <;> rfl
      unfold eT at hld
      obtain ⟨z, hz⟩ : ∃ z, z = plZ x := ⟨_, rfl⟩
      obtain ⟨c, hc⟩ : ∃ c, c = x.2.2.1 := ⟨_, rfl⟩
      obtain ⟨b, hbb⟩ : ∃ b, b = x.2.2.2 := ⟨_, rfl⟩
      rw [← hz] at hcl hld
      rw [← hc] at hld
      rw [← hbb] at hld hru
      have a0 : ∀ C : ZB, (W ++ (X ++ [C]))[W.length + X.length]? = some C := fun C => by rw [List.getElem?_append_right (by omega), Nat.add_sub_cancel_left]; simp
      have s0 : ∀ C D : ZB, (W ++ (X ++ [C])).set (W.length + X.length) D = W ++ (X ++ [D]) := fun C D => by rw [List.set_append_right _ _ (by omega), Nat.add_sub_cancel_left]; simp
      have hWl : W.length = H.length := by rw [hW]; simp [HPl.out]
      have l0 : L (W.length + X.length) = true := by
        rw [hWl]
        cases hX : X.length with
        | zero => exact hLn 0
        | succ n => exact hLn (n + 1)
      have HM3 := Lib.hid hM3
      have HW := Lib.hid hW
      have HT1 := Lib.hid hT1
      have HRU := Lib.hid hru
      have HNX := Lib.hid hnext
      have HL3 := Lib.hid hlen3
      have w1 : IntKind.i64.wrap (((riseTo (heldB T) k).length : Int) + 1) = (((riseTo (heldB T) k).length + 1 : Nat) : Int) := by have := HM.out.len; rw [IntWalk.i64_in _ (by omega)]; omega
      clear hkey hM3 hlen3 hheld hru hrl hT1 hk1 hx hhx hnext hW hxe hz hc hbb hWl
      cases b with
      | true =>
        repeat' (first | (simp only [zmPack, zxPack, ne_eq, zfree, owners, Nat.reduceLT, List.contains_cons, List.contains_nil, Nat.reduceBEq, BEq.rfl, chunk, setAt, List.lookup_cons, List.lookup_nil, reduceCtorEq, Nat.reduceEqDiff, reduceIte, implies_true, forall_const, Nat.reduceMul, Nat.reduceSub, Nat.reduceAdd, Nat.reduceLeDiff, hel, hld, hcl, a0, s0, l0, *]) | (simp only [zgoO, zgoG, zO_nil, zthen_normal, zgoC]) | (with_reducible apply And.intro) | (with_reducible intro _))
        refine shade_z (HM3.out.ext _) HL.out (fun _ _ => by rw [HL3.out]; omega) ?_
        have e : ∀ Y, thH (W ++ Y) t g (shadeT true T1 (k : Int)) = thH P t g (shades true T (riseTo (heldB T) (k + 1))) ++ Y := fun Y => by
          unfold thH
          rw [List.set_append_left _ _ (lt_of_get HM3.out.arr), HW.out, HRU.out, if_pos rfl, HNX.out]
          unfold thH; rw [List.set_set]
        rw [e]
        have e2 : (riseTo (heldB T) (k + 1)).length = (riseTo (heldB T) k).length + 1 := by rw [HRU.out, if_pos rfl, List.length_append]; rfl
        have E2 := Lib.hid e2
        clear e e2 hel hld
        repeat' (first | (simp only [zmPack, zxPack, ne_eq, zfree, owners, Nat.reduceLT, List.contains_cons, List.contains_nil, Nat.reduceBEq, BEq.rfl, chunk, setAt, List.lookup_cons, List.lookup_nil, reduceCtorEq, Nat.reduceEqDiff, reduceIte, implies_true, forall_const, Nat.reduceMul, Nat.reduceSub, Nat.reduceAdd, Nat.reduceLeDiff, w1, *]) | (simp only [zgoO, zgoG, zO_nil, zthen_normal, zgoC]) | (with_reducible apply And.intro) | (with_reducible intro _))
        all_goals first | (rw [E2.out]; done) | exact ⟨_, rfl⟩ | (rw [E2.out]; exact ⟨_, rfl⟩)
      | false =>
        have e : W = thH P t g (shades true T (riseTo (heldB T) (k + 1))) := by
          rw [HW.out, HRU.out, if_neg (by decide), HT1.out]
        have e2 : (riseTo (heldB T) (k + 1)).length = (riseTo (heldB T) k).length := by rw [HRU.out, if_neg (by decide)]
        have E := Lib.hid e
        have E2 := Lib.hid e2
        clear e e2
        repeat' (first | (simp only [zmPack, zxPack, ne_eq, zfree, owners, Nat.reduceLT, List.contains_cons, List.contains_nil, Nat.reduceBEq, BEq.rfl, chunk, setAt, List.lookup_cons, List.lookup_nil, reduceCtorEq, Nat.reduceEqDiff, reduceIte, implies_true, forall_const, Nat.reduceMul, Nat.reduceSub, Nat.reduceAdd, Nat.reduceLeDiff, hel, hld, hcl, a0, s0, l0, *]) | (simp only [zgoO, zgoG, zO_nil, zthen_normal, zgoC]) | (with_reducible apply And.intro) | (with_reducible intro _))
        all_goals first | (rw [E2.out]; done) | (rw [← E.out]; exact ⟨_, rfl⟩)
    · rintro s' h' ⟨X, f4, rfl⟩ ⟨f0, f17, -⟩
      have e : riseTo (heldB T) T.length = rising (heldB T) := by unfold rising; rw [show (heldB T).length = T.length by simp [heldB]]
      rw [e] at f4 ⊢
      have fin := F.out X
      unfold begT at fin
      clear e hs hb hst hb2 hl3
      repeat' (first | (simp only [zmPack, zxPack, ne_eq, zfree, owners, Nat.reduceLT, List.contains_cons, List.contains_nil, Nat.reduceBEq, BEq.rfl, chunk, setAt, List.lookup_cons, List.lookup_nil, reduceCtorEq, Nat.reduceEqDiff, reduceIte, implies_true, forall_const, Nat.reduceMul, Nat.reduceSub, Nat.reduceAdd, Nat.reduceLeDiff, *]) | (simp only [zgoO, zgoG, zO_nil, zthen_normal, zgoC]) | (with_reducible apply And.intro) | (with_reducible intro _))
end Go.Proofs.Ytpeagenjmmkohaa

namespace Go.Proofs.Ytpeagenjmmkohaa
open Go Go.RowKit
set_option linter.unusedVariables false
set_option linter.unusedSimpArgs false
variable {tb : List (FuncId × Bool)} {L : Nat → Bool} {H : ZH} {K : ZV → ZH → Prop} {p t g : Nat} {kd : Int} {mk : Bool} {T : List TB}
/-- A thing that is gone. -/
abbrev goneX : TB := (none, [], 3, false)
def endX (x : TB) : TB := if x.2.2.1 = 0 then goneX else if x.2.2.1 = 2 then colX x 0 else x
def endTo (T : List TB) (k : Nat) : List TB := (T.take k).map endX ++ T.drop k
def whiteN (T : List TB) : Nat := T.countP fun x => decide (x.2.2.1 = 0)
theorem endTo_len {k : Nat} : (endTo T k).length = T.length := by unfold endTo; simp; omega
theorem endTo_at {k : Nat} (hk : k < T.length) : (endTo T k)[k]? = T[k]? := by
  unfold endTo
  rw [List.getElem?_append_right (by simp; omega)]
  simp [Nat.min_eq_left (Nat.le_of_lt hk)]
theorem endTo_next {k : Nat} (hk : k < T.length) : endTo T (k + 1) = (endTo T k).set k (endX T[k]) := by
  unfold endTo
  have hl : ((T.take k).map endX).length = k := by simp; omega
  rw [List.set_append_right _ _ (by omega), hl, Nat.sub_self, List.take_succ_eq_append_getElem hk, List.map_append, List.append_assoc, List.drop_eq_getElem_cons hk]
  rfl
/-- A state of which some things are gone. -/
theorem MkAt.less (h : MkAt H p t g kd mk T) {T' : List TB} (hl : T'.length = T.length) (hmem : ∀ x ∈ T', (x.1 = none ∧ x.2.1 = []) ∨ ∃ y ∈ T, y.1 = x.1 ∧ y.2.1 = x.2.1) (hsub : (T'.filterMap Prod.fst).Sublist (T.filterMap Prod.fst)) : MkAt (thH H t g T') p t g kd mk T' := by
  refine ⟨by rw [List.getElem?_set_ne (Ne.symm h.pt), hl]; exact h.box, by rw [List.getElem?_set_self (lt_of_get h.arr)], fun x hx => ?_, hsub.nodup h.nod, by rw [hl]; exact h.len, fun x hx => ?_⟩
  · rcases hmem x hx with ⟨e1, e2⟩ | ⟨y, hy, e1, e2⟩
    · rw [e1]; exact e2
    · have h1 := h.pl y hy
      have h2 : ∀ j, y.1 = some j → j ≠ t ∧ j ≠ p := fun j hj => h.jt hy hj
      rw [e1, e2] at h1
      rw [e1] at h2
      revert h1 h2
      cases x.1 with
      | none => exact fun h1 _ => h1
      | some j => exact fun h1 h2 => ⟨h1.1, by rw [List.getElem?_set_ne (Ne.symm (h2 j rfl).1)]; exact h1.2⟩
  · rcases hmem x hx with ⟨e1, e2⟩ | ⟨y, hy, e1, e2⟩
    · rw [e2]; simp
    · rw [← e2]; exact h.sm y hy
theorem endX_mem {x : TB} (hx : x ∈ T) : ((endX x).1 = none ∧ (endX x).2.1 = []) ∨ ∃ y ∈ T, y.1 = (endX x).1 ∧ y.2.1 = (endX x).2.1 := by
  unfold endX
  split
  · exact .inl ⟨rfl, rfl⟩
  · split
    · exact .inr ⟨x, hx, rfl, rfl⟩
    · exact .inr ⟨x, hx, rfl, rfl⟩
theorem MkAt.endTo (h : MkAt H p t g kd mk T) (k : Nat) : MkAt (thH H t g (endTo T k)) p t g kd mk (endTo T k) := by
  refine h.less endTo_len (fun x hx => ?_) ?_
  · rcases List.mem_append.1 hx with hx | hx
    · obtain ⟨y, hy, rfl⟩ := List.mem_map.1 hx
      exact endX_mem (List.mem_of_mem_take hy)
    · exact .inr ⟨x, List.mem_of_mem_drop hx, rfl, rfl⟩
  · unfold Go.Proofs.Ytpeagenjmmkohaa.endTo
    rw [List.filterMap_append]
    have e : T.filterMap Prod.fst = (T.take k).filterMap Prod.fst ++ (T.drop k).filterMap Prod.fst := by rw [← List.filterMap_append, List.take_append_drop]
    rw [e]
    refine List.Sublist.append ?_ (List.Sublist.refl _)
    generalize T.take k = l
    induction l with
    | nil => exact List.Sublist.refl _
    | cons x l ih =>
      obtain ⟨o, y⟩ := x
      have hx : (endX (o, y)).1 = none ∨ (endX (o, y)).1 = o := by unfold endX; split; exact .inl rfl; split <;> exact .inr rfl
      rw [List.map_cons]
      rcases hx with hx | hx
      · rw [List.filterMap_cons_none (by exact hx)]
        cases o with
        | none => rw [List.filterMap_cons_none rfl]; exact ih
        | some j => rw [List.filterMap_cons_some (f := Prod.fst) (a := (some j, y)) (b := j) rfl]; exact ih.cons _
      · cases o with
        | none => rw [List.filterMap_cons_none (by exact hx), List.filterMap_cons_none rfl]; exact ih
        | some j => rw [List.filterMap_cons_some (b := j) (by exact hx), List.filterMap_cons_some (f := Prod.fst) (a := (some j, y)) (b := j) rfl]; exact ih.cons_cons _
theorem t_stA (h : MkAt H p t g kd mk T) (hL : L t = true) {n : Nat} {x : TB} (hx : T[n]? = some x) : stZ L H (eT goneX) (.eptr t g n 0) = some (thH H t g (T.set n goneX)) := by
  rw [st_eptr]
  refine ⟨3, _, eT x, h.arr, by rw [List.getElem?_map, hx]; rfl, hL, by simp [eT], ?_⟩
  unfold thH; rw [List.map_set]; rfl
def whiteTo (T : List TB) (k : Nat) : Nat := whiteN (T.take k)
theorem whiteTo_next {k : Nat} (hk : k < T.length) : whiteTo T (k + 1) = whiteTo T k + (if T[k].2.2.1 = 0 then 1 else 0) := by
  unfold whiteTo whiteN
  rw [List.take_succ_eq_append_getElem hk, List.countP_append]
  simp [List.countP_cons]
theorem whiteTo_le {k : Nat} : whiteTo T k ≤ T.length := by
  unfold whiteTo whiteN
  exact Nat.le_trans List.countP_le_length (by simp; omega)
set_option maxHeartbeats 2000000 in
theorem end_z (h : MkAt H p t g kd mk T) (hr : Rng T) (hL : L t = true) (hLp : L p = true) (hK1 : mk = false → K (.tuple [Z64 0, Z64 8]) H)
    (hK2 : ∀ m T1, mk = true → Stp true m T T1 → stepT true T1 = none → K (.tuple [Z64 (whiteN T1), Z64 0]) (pH (thH H t g (T1.map endX)) p t g kd false T.length)) :
    ZC (constX tb) (cFunc Try.prog) 44 [.ptr p 0] L H K := by
  refine ZC.enter ⟨[(36, [(0, 1001)])], [], []⟩ constX_none f_mk_end (by simp) ?_
  simp only [c_mk_end]
  have hb := h.box
  have HM := Lib.hid h
  have HR := Lib.hid hr
  have HL := Lib.hid hL
  have HLp := Lib.hid hLp
  have K2 := Lib.hid hK2
  cases mk with
  | false =>
    have fin := Fin.keep (H0 := H) (hK1 rfl)
    clear hK1 hK2 h hr hL hLp
    repeat' (first | (simp only [zmPack, zxPack, ne_eq, zfree, owners, Nat.reduceLT, List.contains_cons, List.contains_nil, Nat.reduceBEq, BEq.rfl, chunk, setAt, List.lookup_cons, List.lookup_nil, reduceCtorEq, Nat.reduceEqDiff, reduceIte, implies_true, forall_const, Nat.reduceMul, Nat.reduceSub, Nat.reduceAdd, Nat.reduceLeDiff, hb, *]) | (simp only [zgoO, zgoG, zO_nil, zthen_normal, zgoC]) | (with_reducible apply And.intro) | (with_reducible intro _))
  | true =>
    have hs := h.same
    clear hK1 hK2 h hr hL hLp
    repeat' (first | (simp only [zmPack, zxPack, ne_eq, zfree, owners, Nat.reduceLT, List.contains_cons, List.contains_nil, Nat.reduceBEq, BEq.rfl, chunk, setAt, List.lookup_cons, List.lookup_nil, reduceCtorEq, Nat.reduceEqDiff, reduceIte, implies_true, forall_const, Nat.reduceMul, Nat.reduceSub, Nat.reduceAdd, Nat.reduceLeDiff, hb, *]) | (simp only [zgoO, zgoG, zO_nil, zthen_normal, zgoC]) | (with_reducible apply And.intro) | (with_reducible intro _))
    refine zW_whileK [(0, .ptr p 0)] (dim T) (fun d s' h' => ∃ (m : Nat) (T1 : List TB), h' = thH H t g T1 ∧ Stp true m T T1 ∧ d = dim T1) (by repeat' (first | exact trivial | (refine ⟨rfl, ?_⟩) | (refine ⟨by simp only [zupd_at, Nat.reduceEqDiff, reduceIte]; assumption, ?_⟩))) rfl ⟨0, T, hs.symm, .zero, rfl⟩ ?_
    clear hs hb
    rintro d s' h' ⟨m, T1, rfl, hS, rfl⟩ ⟨f0, -⟩
    have HS := Lib.hid hS
    clear hS
    repeat' (first | (simp only [zmPack, zxPack, ne_eq, zfree, owners, Nat.reduceLT, List.contains_cons, List.contains_nil, Nat.reduceBEq, BEq.rfl, chunk, setAt, List.lookup_cons, List.lookup_nil, reduceCtorEq, Nat.reduceEqDiff, reduceIte, implies_true, forall_const, Nat.reduceMul, Nat.reduceSub, Nat.reduceAdd, Nat.reduceLeDiff, *]) | (simp only [zgoO, zgoG, zO_nil, zthen_normal, zgoC]) | (with_reducible apply And.intro) | (with_reducible intro _))
    have hu := HM.out.upd HS.out.key
    refine step_z hu (HR.out.key HS.out.key) HL.out (fun hno => ?_) (fun T2 hT2 => ?_)
    · have hb1 := hu.box
      have hlen1 := key_len HS.out.key
      rw [hlen1] at hb1
      have hl3 := rows_len (rows_whole (ex := false) hu.arr rfl)
      rw [List.length_map, hlen1] at hl3
      have HU := Lib.hid hu
      have HNO := Lib.hid hno
      have HL1 := Lib.hid hlen1
      obtain ⟨W, hW⟩ : ∃ W, W = thH H t g T1 := ⟨_, rfl⟩
      rw [← hW] at hb1 hl3 ⊢
      have HW := Lib.hid hW
      clear hu hno hlen1 hW
      repeat' (first | (simp only [zmPack, zxPack, ne_eq, zfree, owners, Nat.reduceLT, List.contains_cons, List.contains_nil, Nat.reduceBEq, BEq.rfl, chunk, setAt, List.lookup_cons, List.lookup_nil, reduceCtorEq, Nat.reduceEqDiff, reduceIte, implies_true, forall_const, Nat.reduceMul, Nat.reduceSub, Nat.reduceAdd, Nat.reduceLeDiff, hb1, hl3, *]) | (simp only [zgoO, zgoG, zO_nil, zthen_normal, zgoC]) | (with_reducible apply And.intro) | (with_reducible intro _))
      refine zW_forK [(0, .ptr p 0)] T.length (fun k s' h' => s' 4 = Z64 (whiteTo T1 k) ∧ h' = thH H t g (Go.Proofs.Ytpeagenjmmkohaa.endTo T1 k)) (by have := HM.out.len; omega) ⟨rfl, rfl, rfl, rfl, rfl, rfl⟩ rfl rfl (by repeat' (first | exact trivial | (refine ⟨rfl, ?_⟩) | (refine ⟨by simp only [zupd_at, Nat.reduceEqDiff, reduceIte]; assumption, ?_⟩))) rfl rfl (by decide) ⟨rfl, by rw [HW.out]; unfold Go.Proofs.Ytpeagenjmmkohaa.endTo; simp⟩ ?_ ?_
      · clear hb1 hl3
        rintro k s' h' hk ⟨f4, rfl⟩ hi hll ⟨f0, -⟩
        have hk1 : k < T1.length := by rw [HL1.out]; exact hk
        have hM := HU.out.endTo k
        rw [thH_thH] at hM
        have hb := hM.box
        rw [endTo_len, HL1.out] at hb
        have hx := endTo_at hk1
        rw [List.getElem?_eq_getElem hk1] at hx
        have hel := t_el hM (n := k) (by rw [endTo_len]; exact hk1)
        rw [endTo_len, HL1.out] at hel
        have hld := t_ld hM (o := 1) hx
        have hnx := endTo_next hk1
        have hwn := whiteTo_next hk1
        have hwl := whiteTo_le (T := T1) (k := k)
        have hstA := t_stA hM HL.out hx
        have hstC := t_st hM HL.out hx 0
        rw [thH_thH] at hstA hstC
        obtain ⟨x, hxe⟩ : ∃ x, x = T1[k] := ⟨_, rfl⟩
        rw [← hxe] at hx hld hnx hwn hstC
        have hld : ldZ (thH H t g (Go.Proofs.Ytpeagenjmmkohaa.endTo T1 k)) none (.eptr t g k 1) = some (Z64 x.2.2.1) := hld.trans rfl
        obtain ⟨c, hc⟩ : ∃ c, c = x.2.2.1 := ⟨_, rfl⟩
        have hexx : endX x = if c = 0 then goneX else if c = 2 then colX x 0 else x := by rw [hc]; rfl
        rw [hexx] at hnx
        rw [← hc] at hld hwn
        have w1 : IntKind.i64.wrap ((whiteTo T1 k : Int) + 1) = ((whiteTo T1 k + 1 : Nat) : Int) := by have := HM.out.len; have := HL1.out; rw [IntWalk.i64_in _ (by omega)]; omega
        have hsx : (Go.Proofs.Ytpeagenjmmkohaa.endTo T1 k).set k x = Go.Proofs.Ytpeagenjmmkohaa.endTo T1 k := by
          apply List.ext_getElem?
          intro j
          rw [List.getElem?_set]
          split
          · rename_i e; subst e; rw [if_pos (List.getElem?_eq_some_iff.1 hx).1, hx]
          · rfl
        obtain ⟨W2, hW2⟩ : ∃ W2, W2 = thH H t g (Go.Proofs.Ytpeagenjmmkohaa.endTo T1 k) := ⟨_, rfl⟩
        rw [← hW2] at hb hel hld hstA hstC ⊢
        have HNX := Lib.hid hnx
        have HWN := Lib.hid hwn
        have HW2 := Lib.hid hW2
        have HSX := Lib.hid hsx
        unfold eT at hstA
        clear hM hx hnx hwn hwl hxe hc hexx hW2 hsx hk1
        by_cases h0 : c = 0
        · subst h0
          have e1 : ((whiteTo T1 k + 1 : Nat) : Int) = (whiteTo T1 (k + 1) : Nat) := by rw [HWN.out, if_pos rfl]
          have e2 : thH H t g ((Go.Proofs.Ytpeagenjmmkohaa.endTo T1 k).set k goneX) = thH H t g (Go.Proofs.Ytpeagenjmmkohaa.endTo T1 (k + 1)) := by rw [HNX.out, if_pos rfl]
          have E1 := Lib.hid e1
          have E2 := Lib.hid e2
          clear e1 e2 hstC
          repeat' (first | (simp only [zmPack, zxPack, ne_eq, zfree, owners, Nat.reduceLT, List.contains_cons, List.contains_nil, Nat.reduceBEq, BEq.rfl, chunk, setAt, List.lookup_cons, List.lookup_nil, reduceCtorEq, Nat.reduceEqDiff, reduceIte, implies_true, forall_const, Nat.reduceMul, Nat.reduceSub, Nat.reduceAdd, Nat.reduceLeDiff, hb, hel, hld, hstA, w1, ownC_fz, *]) | (simp only [zgoO, zgoG, zO_nil, zthen_normal, zgoC]) | (with_reducible apply And.intro) | (with_reducible intro _))
          all_goals first | exact E1.out | exact E2.out | exact ⟨E1.out, E2.out⟩
        · by_cases h2 : c = 2
          · subst h2
            have e1 : (whiteTo T1 k : Int) = (whiteTo T1 (k + 1) : Nat) := by rw [HWN.out, if_neg (by decide)]; simp
            have e2 : thH H t g ((Go.Proofs.Ytpeagenjmmkohaa.endTo T1 k).set k (colX x 0)) = thH H t g (Go.Proofs.Ytpeagenjmmkohaa.endTo T1 (k + 1)) := by rw [HNX.out, if_neg (by decide), if_pos rfl]
            have E1 := Lib.hid e1
            have E2 := Lib.hid e2
            have n20 : ¬ ((2 : Int) = 0) := by decide
            clear e1 e2 hstA h0
            repeat' (first | (simp only [zmPack, zxPack, ne_eq, zfree, owners, Nat.reduceLT, List.contains_cons, List.contains_nil, Nat.reduceBEq, BEq.rfl, chunk, setAt, List.lookup_cons, List.lookup_nil, reduceCtorEq, Nat.reduceEqDiff, reduceIte, implies_true, forall_const, Nat.reduceMul, Nat.reduceSub, Nat.reduceAdd, Nat.reduceLeDiff, hb, hel, hld, hstC, n20, *]) | (simp only [zgoO, zgoG, zO_nil, zthen_normal, zgoC]) | (with_reducible apply And.intro) | (with_reducible intro _))
            all_goals first | exact E1.out | exact E2.out | exact ⟨E1.out, E2.out⟩ | (rw [← E1.out]; done) | exact ⟨by rw [← E1.out], E2.out⟩
          · have e1 : (whiteTo T1 k : Int) = (whiteTo T1 (k + 1) : Nat) := by rw [HWN.out, if_neg h0]; simp
            have e2 : W2 = thH H t g (Go.Proofs.Ytpeagenjmmkohaa.endTo T1 (k + 1)) := by rw [HNX.out, if_neg h0, if_neg h2, HSX.out, HW2.out]
            have E1 := Lib.hid e1
            have E2 := Lib.hid e2
            clear e1 e2 hstA hstC
            repeat' (first | (simp only [zmPack, zxPack, ne_eq, zfree, owners, Nat.reduceLT, List.contains_cons, List.contains_nil, Nat.reduceBEq, BEq.rfl, chunk, setAt, List.lookup_cons, List.lookup_nil, reduceCtorEq, Nat.reduceEqDiff, reduceIte, implies_true, forall_const, Nat.reduceMul, Nat.reduceSub, Nat.reduceAdd, Nat.reduceLeDiff, hb, hel, hld, *]) | (simp only [zgoO, zgoG, zO_nil, zthen_normal, zgoC]) | (with_reducible apply And.intro) | (with_reducible intro _))
            all_goals first | exact E1.out | exact E2.out | exact ⟨E1.out, E2.out⟩ | (rw [← E1.out]; done) | exact ⟨by rw [← E1.out], E2.out⟩
      · rintro s' h' ⟨f4, rfl⟩ ⟨f0, -⟩
        have e1 : Go.Proofs.Ytpeagenjmmkohaa.endTo T1 T.length = T1.map endX := by unfold Go.Proofs.Ytpeagenjmmkohaa.endTo; rw [← HL1.out, List.take_length, List.drop_length, List.append_nil]
        have e2 : whiteTo T1 T.length = whiteN T1 := by unfold whiteTo; rw [← HL1.out, List.take_length]
        have hM := HU.out.endTo T.length
        rw [thH_thH] at hM
        have hbx := hM.box
        rw [endTo_len, HL1.out] at hbx
        rw [e1] at hbx ⊢
        rw [e2] at f4
        have hst : stZ L (thH H t g (T1.map endX)) [ZBo false] (.ptr p 1) = some (pH (thH H t g (T1.map endX)) p t g kd false T.length) := by
          rw [st_ptr]; exact ⟨_, hbx, HLp.out, by simp, rfl⟩
        have fin := Fin.keep (H0 := H) (K2.out m T1 rfl HS.out HNO.out)
        obtain ⟨W2, hW2⟩ : ∃ W2, W2 = thH H t g (T1.map endX) := ⟨_, rfl⟩
        rw [← hW2] at hst fin ⊢
        obtain ⟨W3, hW3⟩ : ∃ W3, W3 = pH W2 p t g kd false T.length := ⟨_, rfl⟩
        rw [← hW3] at hst fin
        clear e1 e2 hM hbx hW2 hW3 hb1 hl3
        repeat' (first | (simp only [zmPack, zxPack, ne_eq, zfree, owners, Nat.reduceLT, List.contains_cons, List.contains_nil, Nat.reduceBEq, BEq.rfl, chunk, setAt, List.lookup_cons, List.lookup_nil, reduceCtorEq, Nat.reduceEqDiff, reduceIte, implies_true, forall_const, Nat.reduceMul, Nat.reduceSub, Nat.reduceAdd, Nat.reduceLeDiff, hst, *]) | (simp only [zgoO, zgoG, zO_nil, zthen_normal, zgoC]) | (with_reducible apply And.intro) | (with_reducible intro _))
    · have hd := stepT_dim hT2
      rw [thH_thH]
      have FN : Hid (∃ d, d < dim T1 ∧ ∃ (m2 : Nat) (T3 : List TB), thH H t g T2 = thH H t g T3 ∧ Stp true m2 T T3 ∧ d = dim T3) := Lib.hid ⟨_, hd, _, T2, rfl, HS.out.next hT2, rfl⟩
      clear hd hT2 hu
      repeat' (first | (simp only [zmPack, zxPack, ne_eq, zfree, owners, Nat.reduceLT, List.contains_cons, List.contains_nil, Nat.reduceBEq, BEq.rfl, chunk, setAt, List.lookup_cons, List.lookup_nil, reduceCtorEq, Nat.reduceEqDiff, reduceIte, implies_true, forall_const, Nat.reduceMul, Nat.reduceSub, Nat.reduceAdd, Nat.reduceLeDiff, *]) | (simp only [zgoO, zgoG, zO_nil, zthen_normal, zgoC]) | (with_reducible apply And.intro) | (with_reducible intro _))
      all_goals first | exact FN.out | (obtain ⟨d, q1, m2, T3, q3, q4⟩ := FN.out; exact ⟨d, q1, m2, T3, q3, q4⟩) | fail
end Go.Proofs.Ytpeagenjmmkohaa
