/-
  Owns: order and places, plain.
-/
import Derived.Test.YtfmllmcjinjfaaaMrW10
import Derived.Test.YtfmllmcjinjfaaaMrW12
namespace Go.Proofs.Ytfmllmcjinjfaaa
open Go Go.RowKit
set_option linter.unusedVariables false
set_option linter.unusedSimpArgs false
variable {H : ZH} {p pb ob go fb db : Nat} {zh zr : ZV} {ef : Bool} {PL OR OR2 DM : List Int} {FR : List Fr} {n k j : Nat} {RO : List Int}
theorem TrA.setO (A : TrA H p zh zr pb ob go fb db ef PL OR FR DM) (hl : OR2.length = OR.length) : TrA (H.set ob (.grow go 1 (OR2.map eI))) p zh zr pb ob go fb db ef PL OR2 FR DM := by
  obtain ⟨m1, m2, m3, -, -, -⟩ := A.ne
  have n4 : ob ≠ p := fun e => by subst e; have := A.box; rw [A.od] at this; cases this
  have hob : ob < H.length := (List.getElem?_eq_some_iff.1 A.od).1
  refine ⟨?_, ?_, ?_, ?_, ?_, ?_, A.ne, A.fne, A.fin⟩
  · rw [List.getElem?_set_ne n4, A.box, hl]
  · rw [List.getElem?_set_ne m1, A.pl]
  · rw [List.getElem?_set_self hob]
  · rw [List.getElem?_set_ne m2, A.fr]
  · rw [List.getElem?_set_ne m3, A.dm]
  · intro x hx
    have h := A.fl x hx
    have h2 := A.fne x hx
    rcases x with ⟨_ | ⟨j, g⟩, l⟩
    · exact h
    · simp only at h ⊢
      rw [List.getElem?_set_ne (Ne.symm (h2 j g rfl).1), h]
structure OrdI (n : Nat) (RO : List Int) : Prop where
  nd : RO.Nodup
  nat : ∀ x ∈ RO, ∃ j : Nat, x = (j : Int) ∧ j < n
structure PlI (n : Nat) (RO : List Int) (k : Nat) (PL : List Int) : Prop where
  len : PL.length = n
  at_ : ∀ (i j : Nat), i < k → RO[i]? = some (j : Int) → PL[j]? = some (i : Int)
theorem PlI.next (O : OrdI n RO) (P : PlI n RO k PL) (hj : RO[k]? = some (j : Int)) : PlI n RO (k + 1) (PL.set j (k : Int)) := by
  have hjn : j < n := by
    obtain ⟨j', e, h⟩ := O.nat _ (List.mem_of_getElem? hj)
    omega
  refine ⟨by rw [List.length_set, P.len], fun i j2 hi hr => ?_⟩
  by_cases e : j = j2
  · subst e
    rw [List.getElem?_set_self (by rw [P.len]; exact hjn)]
    obtain ⟨q1, q2⟩ := List.getElem?_eq_some_iff.1 hj
    obtain ⟨q3, q4⟩ := List.getElem?_eq_some_iff.1 hr
    have : i = k := by
      have hp := List.pairwise_iff_getElem.1 O.nd
      rcases Nat.lt_trichotomy i k with h | h | h
      · exact absurd (q4.trans q2.symm) (hp i k q3 q1 h)
      · exact h
      · omega
    rw [this]
  · rw [List.getElem?_set_ne e]
    refine P.at_ i j2 ?_ hr
    rcases Nat.lt_or_ge i k with h | h
    · exact h
    · have : i = k := by omega
      subst this
      rw [hj] at hr; injection hr with hr
      exact absurd (by omega) e
theorem Tur.of (O : OrdI n RO) (P : PlI n RO RO.length PL) : Tur RO.length PL RO (List.replicate n (-2)) := by
  refine ⟨rfl, O.nd, fun i x hx => ?_, fun i j hi y hy => .inl (List.eq_of_mem_replicate (List.mem_of_getElem? hy))⟩
  obtain ⟨j, e, hj⟩ := O.nat x (List.mem_of_getElem? hx)
  subst e
  exact ⟨j, rfl, by rw [P.len]; exact hj, by simpa using hj, P.at_ i j (List.getElem?_eq_some_iff.1 hx).1 hx⟩
end Go.Proofs.Ytfmllmcjinjfaaa

namespace Go.Proofs.Ytfmllmcjinjfaaa
open Go Go.RowKit
set_option linter.unusedVariables false
set_option linter.unusedSimpArgs false
variable {n : Nat} {has : List (List Int)} {roots PL : List Int} {FR : List Fr} {X : List Nat}
def plO (PL : List Int) (v : Int) : Option Nat := if v = -1 then none else some ((PL.getD v.toNat 0).toNat)
def lsP (RO PL : List Int) (FR : List Fr) (i : Nat) : List (Option Nat) := match RO[i]? with
  | none => []
  | some x => (FR.getD x.toNat (none, [])).2.map (plO PL)
structure FrI (n : Nat) (has : List (List Int)) (roots : List Int) (FR : List Fr) (X : List Nat) : Prop where
  fl : FR.length = n
  nd : X.Nodup
  lt : ∀ x ∈ X, x < n
  fr : ∀ (t : Nat) x, FR[t]? = some x → ∀ v, v ∈ x.2 ↔ (∃ j : Nat, j ∈ X ∧ v = (j : Int) ∧ edg has j t) ∨ (v = -1 ∧ (t : Int) ∈ roots)
  kin : ∀ (i t : Nat), X[i]? = some t → (t : Int) ∈ roots ∨ ∃ i' u : Nat, i < i' ∧ X[i']? = some u ∧ edg has u t
  rt : ∀ t : Nat, (t : Int) ∈ roots → t ∈ X
  cl : ∀ x ∈ X, ∀ t, edg has x t → t ∈ X
def ordR (X : List Nat) : List Int := (X.map fun v : Nat => (v : Int)).reverse
theorem ordR_len : (ordR X).length = X.length := by simp [ordR]
theorem ordR_at {i : Nat} (hi : i < X.length) : (ordR X)[i]? = (X[X.length - 1 - i]?).map fun v : Nat => (v : Int) := by
  unfold ordR
  rw [List.getElem?_reverse (by simpa using hi), List.length_map, List.getElem?_map]
theorem FrI.ord (F : FrI n has roots FR X) : OrdI n (ordR X) := by
  refine ⟨?_, fun x hx => ?_⟩
  · unfold ordR
    refine List.pairwise_reverse.2 ?_
    exact List.Pairwise.map _ (fun a b h e => h (by omega)) F.nd
  · unfold ordR at hx
    obtain ⟨j, hj, rfl⟩ := List.mem_map.1 (List.mem_reverse.1 hx)
    exact ⟨j, rfl, F.lt j hj⟩
theorem PlI.of (P : PlI n (ordR X) (ordR X).length PL) {i u : Nat} (h : X[i]? = some u) : PL[u]? = some ((X.length - 1 - i : Nat) : Int) := by
  have hi := (List.getElem?_eq_some_iff.1 h).1
  refine P.at_ _ u (by rw [ordR_len]; omega) ?_
  rw [ordR_at (by omega), show X.length - 1 - (X.length - 1 - i) = i by omega, h]; rfl
theorem FrT.of (F : FrI n has roots FR X) (P : PlI n (ordR X) (ordR X).length PL) : FrT (ordR X).length (ordR X) FR (lsP (ordR X) PL FR) := by
  have look : ∀ {i : Nat}, i < X.length → ∃ (t : Nat) (x : Fr), X[X.length - 1 - i]? = some t ∧ (ordR X)[i]? = some (t : Int) ∧ FR[t]? = some x ∧ lsP (ordR X) PL FR i = x.2.map (plO PL) := fun {i} hi => by
    have hx : X[X.length - 1 - i]? = some (X[X.length - 1 - i]'(by omega)) := List.getElem?_eq_getElem (by omega)
    have ho := ordR_at hi
    rw [hx] at ho
    have htn : X[X.length - 1 - i]'(by omega) < FR.length := by rw [F.fl]; exact F.lt _ (List.getElem_mem _)
    refine ⟨_, FR[X[X.length - 1 - i]'(by omega)], hx, ho, List.getElem?_eq_getElem htn, ?_⟩
    unfold lsP
    rw [ho]
    simp only [Option.map_some, Int.toNat_natCast]
    rw [List.getD_eq_getElem?_getD, List.getElem?_eq_getElem htn]; rfl
  have pl : ∀ {u : Nat}, u ∈ X → ∃ i, i < X.length ∧ X[i]? = some u ∧ plO PL (u : Int) = some (X.length - 1 - i) := fun {u} hu => by
    obtain ⟨i, hi⟩ := List.mem_iff_getElem?.1 hu
    refine ⟨i, (List.getElem?_eq_some_iff.1 hi).1, hi, ?_⟩
    unfold plO
    rw [if_neg (by omega), Int.toNat_natCast, List.getD_eq_getElem?_getD, P.of hi]
    simp
  refine ⟨fun i j hij => ?_, fun i hi p hp => ?_, fun i hi => ?_⟩
  · have hi : i < X.length := by have := (List.getElem?_eq_some_iff.1 hij).1; rw [ordR_len] at this; exact this
    obtain ⟨t, x, h1, h2, h3, h4⟩ := look hi
    rw [h2] at hij
    injection hij with hij
    have : t = j := by omega
    subst this
    refine ⟨x, h3, ?_⟩
    rw [h4, List.map_map]
    symm
    refine (List.map_congr_left fun v hv => ?_).trans (List.map_id _)
    rcases (F.fr t x h3 v).1 hv with ⟨u, hu, rfl, _⟩ | ⟨rfl, _⟩
    · obtain ⟨i2, hi2, hx2, hp⟩ := pl hu
      show idO (ordR X) (plO PL (u : Int)) = (u : Int)
      rw [hp]
      show (ordR X).getD _ 0 = _
      rw [List.getD_eq_getElem?_getD, ordR_at (by omega), show X.length - 1 - (X.length - 1 - i2) = i2 by omega, hx2]; rfl
    · rfl
  · rw [ordR_len] at hi ⊢
    obtain ⟨t, x, h1, h2, h3, h4⟩ := look hi
    rw [h4] at hp
    obtain ⟨v, hv, e⟩ := List.mem_map.1 hp
    rcases (F.fr t x h3 v).1 hv with ⟨u, hu, rfl, _⟩ | ⟨rfl, _⟩
    · obtain ⟨i2, hi2, hx2, hp⟩ := pl hu
      rw [hp] at e; injection e with e
      omega
    · simp [plO] at e
  · rw [ordR_len] at hi
    obtain ⟨t, x, h1, h2, h3, h4⟩ := look hi
    rw [h4]
    rcases F.kin _ t h1 with h | ⟨i', u, q1, q2, q3⟩
    · exact .inl (List.mem_map.2 ⟨-1, (F.fr t x h3 _).2 (.inr ⟨rfl, h⟩), by simp [plO]⟩)
    · have hi' := (List.getElem?_eq_some_iff.1 q2).1
      refine .inr ⟨X.length - 1 - i', by omega, List.mem_map.2 ⟨(u : Int), (F.fr t x h3 _).2 (.inl ⟨u, List.mem_of_getElem? q2, rfl, q3⟩), ?_⟩⟩
      unfold plO
      rw [if_neg (by omega), Int.toNat_natCast, List.getD_eq_getElem?_getD, P.of q2]
      simp
theorem WR.fri {B p pb ob fb db go1 : Nat} {H H1 : ZH} {zr : ZV} {ef ex : Bool} {DM PL1 OR1 : List Int} {FR1 : List Fr} (M : WR B H p zr pb ob fb db ef ex has roots DM roots.length H1 go1 PL1 OR1 FR1 X) : FrI has.length has roots FR1 X ∧ OR1.reverse = ordR X := by
  have W := M.wi
  rw [List.take_length] at W
  have inX : ∀ t : Nat, PL1[t]? = some (-1) → t ∈ X := fun t ht => by
    have htn : t < has.length := by have := (List.getElem?_eq_some_iff.1 ht).1; rw [M.ws.pn] at this; exact this
    refine Classical.byContradiction fun hn => ?_
    rw [(W.mrk t htn).2 (by simp [hn]), List.getElem?_replicate, if_pos htn] at ht
    simp at ht
  refine ⟨⟨M.ws.fn, W.nd, fun x hx => ?_, fun t x hx v => ?_, W.kin, fun t ht => inX t (M.cl t (by rw [List.take_length]; exact ht)), fun x hx t he => inX t (W.cl x hx t he)⟩, ?_⟩
  · have := (List.getElem?_eq_some_iff.1 (W.fresh x hx).1).1
    simpa using this
  · have ht : t < has.length := by have := (List.getElem?_eq_some_iff.1 hx).1; rw [M.ws.fn] at this; exact this
    rw [W.fr t (none, []) x (by rw [List.getElem?_replicate, if_pos ht]) hx v]
    simp
  · rw [W.ord]; rfl
end Go.Proofs.Ytfmllmcjinjfaaa

namespace Go.Proofs.Ytfmllmcjinjfaaa
open Go Go.RowKit
set_option linter.unusedVariables false
set_option linter.unusedSimpArgs false
variable {tb : List (FuncId × Bool)} {L : Nat → Bool} {H : ZH} {K : ZV → ZH → Prop}
variable {ex exr : Bool} {has : List (List Int)} {roots : List Int}
set_option maxHeartbeats 8000000 in
theorem doms_z (hok : okHas has has.length) (hls : ∀ l ∈ has, l.length ≤ 1000) (hN : has.length ≤ 100) (hrl : roots.length ≤ 1000) (hro : ∀ x ∈ roots, 0 ≤ x ∧ x < (has.length : Int)) (hL : ∀ i, H.length ≤ i → L i = true)
    (hK : ∀ h p pb ob go fb db PL DM FR X r, FrW (H.length + 1) (domH H ex has (.fz 1 exr (roots.map eI))) h → TrA h p (.fz 1 ex (has.map eL)) (.fz 1 exr (roots.map eI)) pb ob go fb db true PL (ordR X) FR DM → Tur (ordR X).length PL (ordR X) DM → FrI has.length has roots FR X → PlI has.length (ordR X) (ordR X).length PL → FrT (ordR X).length (ordR X) FR (lsP (ordR X) PL FR) → DI (EL (ordR X).length (lsP (ordR X) PL FR)) (RL (ordR X).length (lsP (ordR X) PL FR)) (ordR X).length (dmP PL (ordR X) DM) (levK r 0) → FixO (EL (ordR X).length (lsP (ordR X) PL FR)) (RL (ordR X).length (lsP (ordR X) PL FR)) (ordR X).length (dmP PL (ordR X) DM) → DM.length = has.length → (∀ t : Nat, (t : Int) ∉ ordR X → DM[t]? = (List.replicate has.length (-2))[t]?) → H.length + 1 ≤ db → K (.ptr p 0) h) :
    ZC (constX tb) (cFunc Try.prog) 23 [.agg [.fz 1 ex (has.map eL), .fz 1 exr (roots.map eI)]] L H K := by
  refine ZC.enter ⟨[(21, [(3, 1)])], [], []⟩ constX_none f_ow_d (by simp) ?_
  simp only [c_ow_d]
  have hNN : has.length ≤ 1000 := by omega
  have hre : has.length * 24 ≤ reach := by unfold reach; omega
  have HO := Lib.hid (And.intro hok (And.intro hls hro))
  have HL := Lib.hid hL
  have KK := Lib.hid fun h p pb ob go fb db PL DM FR X r a b c d e f g i j k l => (Fin.keep (hK h p pb ob go fb db PL DM FR X r a b c d e f g i j k l) : Fin H (.ptr p 0) h K)
  clear hok hls hro hL hK
  repeat' (first | (simp only [zmPack, zxPack, ne_eq, zfree, owners, Nat.reduceLT, List.contains_cons, List.contains_nil, Nat.reduceBEq, BEq.rfl, chunk, setAt, List.lookup_cons, List.lookup_nil, reduceCtorEq, Nat.reduceEqDiff, reduceIte, implies_true, forall_const, Nat.reduceMul, Nat.reduceSub, Nat.reduceAdd, Nat.reduceLeDiff, *]) | (simp only [zgoO, zgoG, zO_nil, zthen_normal, zgoC]) | (with_reducible apply And.intro) | (with_reducible intro _))
  refine repeat_z (z := .fz 1 true [[Z64 (-2)]]) (x := -2) (n := has.length) rfl hNN ?_
  repeat' (first | (simp only [zmPack, zxPack, ne_eq, zfree, owners, Nat.reduceLT, List.contains_cons, List.contains_nil, Nat.reduceBEq, BEq.rfl, chunk, setAt, List.lookup_cons, List.lookup_nil, reduceCtorEq, Nat.reduceEqDiff, reduceIte, implies_true, forall_const, Nat.reduceMul, Nat.reduceSub, Nat.reduceAdd, Nat.reduceLeDiff, *]) | (simp only [zgoO, zgoG, zO_nil, zthen_normal, zgoC]) | (with_reducible apply And.intro) | (with_reducible intro _))
  refine repeat_z (z := .fz 1 true [[Z64 (-2)]]) (x := -2) (n := has.length) rfl hNN ?_
  repeat' (first | (simp only [zmPack, zxPack, ne_eq, zfree, owners, Nat.reduceLT, List.contains_cons, List.contains_nil, Nat.reduceBEq, BEq.rfl, chunk, setAt, List.lookup_cons, List.lookup_nil, reduceCtorEq, Nat.reduceEqDiff, reduceIte, implies_true, forall_const, Nat.reduceMul, Nat.reduceSub, Nat.reduceAdd, Nat.reduceLeDiff, *]) | (simp only [zgoO, zgoG, zO_nil, zthen_normal, zgoC]) | (with_reducible apply And.intro) | (with_reducible intro _))
  clear hre hNN
  have HW := Lib.hid (WR.start (roots := roots) hN (WS.new (H := H) (ex := ex) (zr := .fz 1 exr (roots.map eI)) hN))
  refine zW_forK [(1, .ptr H.length 0), (4, .ptr (H.length + 5) 0), (24, .fz 1 exr (roots.map eI))] roots.length (fun i s' h' => ∃ go1 PL1 OR1 FR1 X, WR (H.length + 1) (domH H ex has (.fz 1 exr (roots.map eI))) (H.length + 5) (.fz 1 exr (roots.map eI)) (H.length + 1) (H.length + 4) (H.length + 2) (H.length + 3) true ex has roots (List.replicate has.length (-2)) i h' go1 PL1 OR1 FR1 X) (by omega) ⟨rfl, rfl, rfl, rfl, rfl, rfl⟩ rfl rfl (by repeat' (first | exact trivial | (refine ⟨rfl, ?_⟩) | (refine ⟨by simp only [zupd_at, Nat.reduceEqDiff, reduceIte]; assumption, ?_⟩))) rfl rfl (by decide) ⟨0, _, _, _, _, HW.out⟩ ?_ ?_
  · clear HW
    obtain ⟨p, hp⟩ : ∃ p, p = H.length + 5 := ⟨_, rfl⟩
    obtain ⟨pb, hpb⟩ : ∃ pb, pb = H.length + 1 := ⟨_, rfl⟩
    obtain ⟨ob, hob⟩ : ∃ ob, ob = H.length + 4 := ⟨_, rfl⟩
    obtain ⟨fb, hfb⟩ : ∃ fb, fb = H.length + 2 := ⟨_, rfl⟩
    obtain ⟨db, hdb⟩ : ∃ db, db = H.length + 3 := ⟨_, rfl⟩
    have HB : ∀ i, pb ≤ i → L i = true := fun i hi => HL.out i (by omega)
    rw [← hp, ← hpb, ← hob, ← hfb, ← hdb]
    have HB := Lib.hid HB
    clear hpb hob hfb hdb
    obtain ⟨H0, hH0⟩ : ∃ H0, H0 = domH H ex has (.fz 1 exr (roots.map eI)) := ⟨_, rfl⟩
    rw [← hH0]
    clear hH0
    rintro i s' h' hi ⟨go1, PL1, OR1, FR1, X, M⟩ hii hli ⟨f1, f4, f24, -⟩
    obtain ⟨x, hx⟩ : ∃ x, roots[i]? = some x := ⟨_, List.getElem?_eq_getElem hi⟩
    obtain ⟨x0, x1⟩ := HO.out.2.2 x (List.mem_of_getElem? hx)
    obtain ⟨t, rfl⟩ := Int.eq_ofNat_of_zero_le x0
    have ht : t < has.length := by omega
    have HHX := Lib.hid hx
    have HMM := Lib.hid M
    have HR := Lib.hid hrl
    clear M x0 x1 hp hrl
    repeat' (first | (simp only [zmPack, zxPack, ne_eq, zfree, owners, Nat.reduceLT, List.contains_cons, List.contains_nil, Nat.reduceBEq, BEq.rfl, chunk, setAt, List.lookup_cons, List.lookup_nil, reduceCtorEq, Nat.reduceEqDiff, reduceIte, implies_true, forall_const, Nat.reduceMul, Nat.reduceSub, Nat.reduceAdd, Nat.reduceLeDiff, hx, *]) | (simp only [zgoO, zgoG, zO_nil, zthen_normal, zgoC]) | (with_reducible apply And.intro) | (with_reducible intro _))
    refine walk_z HO.out.1 HO.out.2.1 HB.out (unv PL1) _ go1 t PL1 OR1 FR1 _ HMM.out.ws (Nat.le_refl _) ht ?_
    clear hx
    rintro H2 go2 PL2 OR2 FR2 X2 E
    have htf : t < FR2.length := by rw [E.ws.fn]; exact ht
    obtain ⟨x0, hx0⟩ : ∃ x0, FR2[t]? = some x0 := ⟨_, List.getElem?_eq_getElem htf⟩
    have hxl : x0.2.length ≤ 1000000 := by have := tot_le (List.mem_of_getElem? hx0); have := E.ws.pot; omega
    obtain ⟨x', H3, hx', ap, hp3, hf3, hT, hB, hF⟩ := E.ws.tr.app (L := fun i => L i && !i == p) E.ws.tb (fun i h1 h2 => by simp [HB.out i h1, h2]) hx0 hxl (-1)
    have hnx := HMM.out.next HR.out HHX.out E hx0 hx' hT hB hF
    have hb2 := E.ws.tr.box
    have e2 : elemZ H2 1 t (.own fb 0 0 FR2.length true) = some (.eptr fb 0 t 0) := by rw [elem_own]; exact ⟨_, E.ws.tr.fr, by simp, htf, by simp⟩
    have l2 : ldZ H2 none (.eptr fb 0 t 0) = some (frZ x0) := by rw [ld_eptr]; exact ⟨_, _, _, E.ws.tr.fr, by rw [List.getElem?_map, hx0]; rfl, rfl⟩
    have e3 : elemZ H3 1 t (.own fb 0 0 FR2.length true) = some (.eptr fb 0 t 0) := by rw [elem_own]; exact ⟨_, hf3.trans E.ws.tr.fr, by simp, htf, by simp⟩
    have st : stZ L H3 [frZ x'] (.eptr fb 0 t 0) = some (H3.set fb (.grow 0 1 ((FR2.set t x').map fun x => [frZ x]))) := by
      rw [st_eptr]
      exact ⟨1, _, [frZ x0], hf3.trans E.ws.tr.fr, by rw [List.getElem?_map, hx0]; rfl, HB.out fb E.ws.tb.bfb, by simp, by rw [List.map_set]; rfl⟩
    have hpl : p < H2.length := (List.getElem?_eq_some_iff.1 hb2).1
    have hc1 : (frZ x').isCell = true := by unfold frZ; split <;> rfl
    have hc2 : (frZ x').cells = [frZ x'] := by unfold frZ; split <;> rfl
    obtain ⟨H4, hH4⟩ : ∃ H4, H4 = H3.set fb (.grow 0 1 ((FR2.set t x').map fun x => [frZ x])) := ⟨_, rfl⟩
    rw [← hH4] at st hnx
    have fin : ∃ go1 PL1 OR1 FR1 X, WR pb H0 p (.fz 1 exr (roots.map eI)) pb ob fb db true ex has roots (List.replicate has.length (-2)) (i + 1) H4 go1 PL1 OR1 FR1 X := ⟨_, _, _, _, _, hnx⟩
    have FF := Lib.hid fin
    rw [hb2] at hp3
    clear fin hnx hT hB hF hx' hxl hx0 E HMM HHX HO HL HB HR hH4 hf3
    generalize frZ x0 = z0 at ap l2
    generalize frZ x' = z1 at ap st hc1 hc2
    repeat' (first | (simp only [zmPack, zxPack, ne_eq, zfree, owners, Nat.reduceLT, List.contains_cons, List.contains_nil, Nat.reduceBEq, BEq.rfl, chunk, setAt, List.lookup_cons, List.lookup_nil, reduceCtorEq, Nat.reduceEqDiff, reduceIte, implies_true, forall_const, Nat.reduceMul, Nat.reduceSub, Nat.reduceAdd, Nat.reduceLeDiff, hb2, hp3, e2, l2, e3, st, ap, hpl, hc1, hc2, *]) | (simp only [zgoO, zgoG, zO_nil, zthen_normal, zgoC]) | (with_reducible apply And.intro) | (with_reducible intro _))
    all_goals exact FF.out
  · clear HW
    obtain ⟨p, hp⟩ : ∃ p, p = H.length + 5 := ⟨_, rfl⟩
    obtain ⟨pb, hpb⟩ : ∃ pb, pb = H.length + 1 := ⟨_, rfl⟩
    obtain ⟨ob, hob⟩ : ∃ ob, ob = H.length + 4 := ⟨_, rfl⟩
    obtain ⟨fb, hfb⟩ : ∃ fb, fb = H.length + 2 := ⟨_, rfl⟩
    obtain ⟨db, hdb⟩ : ∃ db, db = H.length + 3 := ⟨_, rfl⟩
    have HB := Lib.hid (show ∀ i, pb ≤ i → L i = true from fun i hi => HL.out i (by omega))
    rw [← hp, ← hpb, ← hob, ← hfb, ← hdb]
    have KK2 := KK
    rw [← hpb] at KK2
    clear KK hpb hob hfb hdb HL hp
    obtain ⟨H0, hH0⟩ : ∃ H0, H0 = domH H ex has (.fz 1 exr (roots.map eI)) := ⟨_, rfl⟩
    rw [← hH0]
    rw [← hH0] at KK2
    clear hH0
    rintro s' h' ⟨go1, PL1, OR1, FR1, X, M⟩ ⟨f1, f4, f24, -⟩
    have HTL := Lib.hid (show tot FR1 ≤ 1000000 by have := M.ws.pot; omega)
    obtain ⟨FI, hor⟩ := M.fri
    have hol : (ordR X).length = OR1.length := by rw [← hor, List.length_reverse]
    have hb := M.ws.tr.box
    have hcnt := M.cnt
    have lob : L ob = true := HB.out ob M.ws.tb.bob
    have hod := M.ws.tr.od
    have hT := M.ws.tr.setO (OR2 := ordR X) hol
    have hF := M.fr.trans (FrW.set (H := h') (C := .grow go1 1 ((ordR X).map eI)) M.ws.tb.bob)
    have HP := Lib.hid (show PlI has.length (ordR X) 0 PL1 from ⟨M.ws.pn, fun i j h => by omega⟩)
    have HFI := Lib.hid FI
    have HTB := Lib.hid M.ws.tb
    have HT := Lib.hid hT
    have HF := Lib.hid hF
    have HOL := Lib.hid hol
    have HOD := Lib.hid hod
    have HOR := Lib.hid hor
    clear M FI hor hol hT hF hod
    repeat' (first | (simp only [zmPack, zxPack, ne_eq, zfree, owners, Nat.reduceLT, List.contains_cons, List.contains_nil, Nat.reduceBEq, BEq.rfl, chunk, setAt, List.lookup_cons, List.lookup_nil, reduceCtorEq, Nat.reduceEqDiff, reduceIte, implies_true, forall_const, Nat.reduceMul, Nat.reduceSub, Nat.reduceAdd, Nat.reduceLeDiff, hb, *]) | (simp only [zgoO, zgoG, zO_nil, zthen_normal, zgoC]) | (with_reducible apply And.intro) | (with_reducible intro _))
    refine reverse_z HOD.out (by omega) lob ?_
    rw [HOR.out]
    obtain ⟨H2, hH2⟩ : ∃ H2, H2 = h'.set ob (.grow go1 1 ((ordR X).map eI)) := ⟨_, rfl⟩
    rw [← hH2] at HT HF ⊢
    clear hH2 HOD HOR hb
    have hb := HT.out.box
    rw [HOL.out] at hb
    have hln : lenZ H2 (.own ob go1 0 OR1.length false) = some OR1.length := by rw [len_own]; exact ⟨_, _, HT.out.od, rfl⟩
    repeat' (first | (simp only [zmPack, zxPack, ne_eq, zfree, owners, Nat.reduceLT, List.contains_cons, List.contains_nil, Nat.reduceBEq, BEq.rfl, chunk, setAt, List.lookup_cons, List.lookup_nil, reduceCtorEq, Nat.reduceEqDiff, reduceIte, implies_true, forall_const, Nat.reduceMul, Nat.reduceSub, Nat.reduceAdd, Nat.reduceLeDiff, hb, hln, *]) | (simp only [zgoO, zgoG, zO_nil, zthen_normal, zgoC]) | (with_reducible apply And.intro) | (with_reducible intro _))
    clear hb hln
    refine zW_forK [(4, .ptr p 0), (57, .own ob go1 0 OR1.length false)] OR1.length (fun k s2 h2 => ∃ PL, PlI has.length (ordR X) k PL ∧ FrW pb H0 h2 ∧ TrA h2 p (.fz 1 ex (has.map eL)) (.fz 1 exr (roots.map eI)) pb ob go1 fb db true PL (ordR X) FR1 (List.replicate has.length (-2))) (by omega) ⟨rfl, rfl, rfl, rfl, rfl, rfl⟩ rfl rfl (by repeat' (first | exact trivial | (refine ⟨rfl, ?_⟩) | (refine ⟨by simp only [zupd_at, Nat.reduceEqDiff, reduceIte]; assumption, ?_⟩))) rfl rfl (by decide) ⟨PL1, HP.out, HF.out, HT.out⟩ ?_ ?_
    · clear HP HF HT
      rintro k s2 h2 hk ⟨PL, P, F, T⟩ hik hlk ⟨f4, f57, -⟩
      have hkX : k < (ordR X).length := by rw [HOL.out]; exact hk
      obtain ⟨x, hx⟩ : ∃ x, (ordR X)[k]? = some x := ⟨_, List.getElem?_eq_getElem hkX⟩
      obtain ⟨j, rfl, hj⟩ := HFI.out.ord.nat x (List.mem_of_getElem? hx)
      have hjp : j < PL.length := by rw [P.len]; exact hj
      obtain ⟨y, hy⟩ : ∃ y, PL[j]? = some y := ⟨_, List.getElem?_eq_getElem hjp⟩
      have hb := T.box
      have e1 : elemZ h2 1 k (.own ob go1 0 OR1.length false) = some (.eptr ob go1 k 0) := by rw [elem_own]; exact ⟨_, T.od, by rw [List.length_map, HOL.out]; omega, hk, by simp⟩
      have l1 : ldZ h2 none (.eptr ob go1 k 0) = some (Z64 (j : Int)) := by rw [ld_eptr]; exact ⟨_, _, _, T.od, by rw [List.getElem?_map, hx]; rfl, rfl⟩
      have e2 : elemZ h2 1 j (.own pb 0 0 PL.length false) = some (.eptr pb 0 j 0) := by rw [elem_own]; exact ⟨_, T.pl, by simp, hjp, by simp⟩
      have st : stZ L h2 [Z64 (k : Int)] (.eptr pb 0 j 0) = some (h2.set pb (.grow 0 1 ((PL.set j (k : Int)).map eI))) := by
        rw [st_eptr]
        exact ⟨1, _, eI y, T.pl, by rw [List.getElem?_map, hy]; rfl, HB.out pb (Nat.le_refl _), by simp [eI], by rw [List.map_set]; rfl⟩
      have fin : ∃ PL2, PlI has.length (ordR X) (k + 1) PL2 ∧ FrW pb H0 (h2.set pb (.grow 0 1 ((PL.set j (k : Int)).map eI))) ∧ TrA (h2.set pb (.grow 0 1 ((PL.set j (k : Int)).map eI))) p (.fz 1 ex (has.map eL)) (.fz 1 exr (roots.map eI)) pb ob go1 fb db true PL2 (ordR X) FR1 (List.replicate has.length (-2)) :=
        ⟨_, P.next HFI.out.ord hx, F.trans (FrW.set HTB.out.bpb), T.setP (by simp)⟩
      obtain ⟨h3, hh3⟩ : ∃ h3, h3 = h2.set pb (.grow 0 1 ((PL.set j (k : Int)).map eI)) := ⟨_, rfl⟩
      rw [← hh3] at st fin
      have FF := Lib.hid fin
      clear fin hh3 P F T hx hy hj hkX HFI HTB HOL HO HB
      repeat' (first | (simp only [zmPack, zxPack, ne_eq, zfree, owners, Nat.reduceLT, List.contains_cons, List.contains_nil, Nat.reduceBEq, BEq.rfl, chunk, setAt, List.lookup_cons, List.lookup_nil, reduceCtorEq, Nat.reduceEqDiff, reduceIte, implies_true, forall_const, Nat.reduceMul, Nat.reduceSub, Nat.reduceAdd, Nat.reduceLeDiff, hb, e1, l1, e2, st, *]) | (simp only [zgoO, zgoG, zO_nil, zthen_normal, zgoC]) | (with_reducible apply And.intro) | (with_reducible intro _))
      all_goals exact FF.out
    · clear HP HF HT
      rintro s2 h2 ⟨PL, P, F, T⟩ ⟨f4, f57, -⟩
      rw [← HOL.out] at P
      have hT := Tur.of HFI.out.ord P
      have hFT := FrT.of HFI.out P
      have hNX : (ordR X).length ≤ 100 := by rw [HOL.out]; omega
      have hD : dmP PL (ordR X) (List.replicate has.length (-2)) = fun _ => none := by
        funext v
        unfold dmP
        split
        · rfl
        · split
          · rfl
          · rename_i y hy
            rw [List.eq_of_mem_replicate (List.mem_of_getElem? hy)]; rfl
      have hI : DI (EL (ordR X).length (lsP (ordR X) PL FR1)) (RL (ordR X).length (lsP (ordR X) PL FR1)) (ordR X).length (dmP PL (ordR X) (List.replicate has.length (-2))) (levK 0 0) := by
        rw [hD]
        have e : levK 0 0 = fun _ => 0 := by funext v; unfold levK; simp
        rw [e]
        exact DI.start
      have h0 : ∃ r DM, TrA h2 p (.fz 1 ex (has.map eL)) (.fz 1 exr (roots.map eI)) pb ob go1 fb db true PL (ordR X) FR1 DM ∧ Tur (ordR X).length PL (ordR X) DM ∧ DI (EL (ordR X).length (lsP (ordR X) PL FR1)) (RL (ordR X).length (lsP (ordR X) PL FR1)) (ordR X).length (dmP PL (ordR X) DM) (levK r 0) ∧ FrW pb H0 h2 ∧ DM.length = has.length ∧ (∀ t : Nat, (t : Int) ∉ ordR X → DM[t]? = (List.replicate has.length (-2))[t]?) ∧ 300 = 300 - r ∧ r ≤ 200 := ⟨0, _, T, hT, hI, F, by simp, fun _ _ => rfl, rfl, by omega⟩
      have HH0 := Lib.hid h0
      have HPP := Lib.hid P
      have HFT := Lib.hid hFT
      clear h0 P hFT hT hI hD F T f57
      repeat' (first | (simp only [zmPack, zxPack, ne_eq, zfree, owners, Nat.reduceLT, List.contains_cons, List.contains_nil, Nat.reduceBEq, BEq.rfl, chunk, setAt, List.lookup_cons, List.lookup_nil, reduceCtorEq, Nat.reduceEqDiff, reduceIte, implies_true, forall_const, Nat.reduceMul, Nat.reduceSub, Nat.reduceAdd, Nat.reduceLeDiff, *]) | (simp only [zgoO, zgoG, zO_nil, zthen_normal, zgoC]) | (with_reducible apply And.intro) | (with_reducible intro _))
      refine zW_whileK [(4, .ptr p 0)] 300 (fun n s3 h3 => ∃ r DM, TrA h3 p (.fz 1 ex (has.map eL)) (.fz 1 exr (roots.map eI)) pb ob go1 fb db true PL (ordR X) FR1 DM ∧ Tur (ordR X).length PL (ordR X) DM ∧ DI (EL (ordR X).length (lsP (ordR X) PL FR1)) (RL (ordR X).length (lsP (ordR X) PL FR1)) (ordR X).length (dmP PL (ordR X) DM) (levK r 0) ∧ FrW pb H0 h3 ∧ DM.length = has.length ∧ (∀ t : Nat, (t : Int) ∉ ordR X → DM[t]? = (List.replicate has.length (-2))[t]?) ∧ n = 300 - r ∧ r ≤ 200) (by repeat' (first | exact trivial | (refine ⟨rfl, ?_⟩) | (refine ⟨by simp only [zupd_at, Nat.reduceEqDiff, reduceIte]; assumption, ?_⟩))) rfl HH0.out ?_
      clear HH0
      rintro n s3 h3 ⟨r, DM, T, U, I, F, hDl, hot, hn, hr⟩ ⟨f4, -⟩
      have HX := Lib.hid (And.intro T (And.intro U (And.intro I (And.intro F (And.intro hDl (And.intro hot (And.intro hn hr)))))))
      clear T U I F hDl hot hn hr
      repeat' (first | (simp only [zmPack, zxPack, ne_eq, zfree, owners, Nat.reduceLT, List.contains_cons, List.contains_nil, Nat.reduceBEq, BEq.rfl, chunk, setAt, List.lookup_cons, List.lookup_nil, reduceCtorEq, Nat.reduceEqDiff, reduceIte, implies_true, forall_const, Nat.reduceMul, Nat.reduceSub, Nat.reduceAdd, Nat.reduceLeDiff, *]) | (simp only [zgoO, zgoG, zO_nil, zthen_normal, zgoC]) | (with_reducible apply And.intro) | (with_reducible intro _))
      refine round_z HX.out.1 HX.out.2.1 HFT.out HX.out.2.2.1 hNX (fun x hx => by have := tot_le hx; have := HTL.out; omega) (HB.out db HTB.out.bdb) ?_
      rintro h4 DM2 ch R
      obtain ⟨T, U, I, F, hDl, hot, hn, hr⟩ := HX.out
      have F2 : FrW pb H0 h4 := by rw [R.he]; exact F.trans (FrW.set HTB.out.bdb)
      have I2 := R.di.turn R.tu
      cases ch with
      | true =>
        have hrN : r < (ordR X).length := by
          rcases Nat.lt_or_ge r (ordR X).length with h | h
          · exact h
          · have := R.st h; cases this
        have fin : ∃ r DM, TrA h4 p (.fz 1 ex (has.map eL)) (.fz 1 exr (roots.map eI)) pb ob go1 fb db true PL (ordR X) FR1 DM ∧ Tur (ordR X).length PL (ordR X) DM ∧ DI (EL (ordR X).length (lsP (ordR X) PL FR1)) (RL (ordR X).length (lsP (ordR X) PL FR1)) (ordR X).length (dmP PL (ordR X) DM) (levK r 0) ∧ FrW pb H0 h4 ∧ DM.length = has.length ∧ (∀ t : Nat, (t : Int) ∉ ordR X → DM[t]? = (List.replicate has.length (-2))[t]?) ∧ n - 1 = 300 - r ∧ r ≤ 200 := ⟨r + 1, _, R.tr, R.tu, I2, F2, R.len.trans hDl, fun t ht => (R.ot t ht).trans (hot t ht), by omega, by omega⟩
        have FF := Lib.hid fin
        have HM := Lib.hid (show n - 1 < n by omega)
        clear fin R T U I F hDl hot hn hr F2 I2 hrN HX KK2
        repeat' (first | (simp only [zmPack, zxPack, ne_eq, zfree, owners, Nat.reduceLT, List.contains_cons, List.contains_nil, Nat.reduceBEq, BEq.rfl, chunk, setAt, List.lookup_cons, List.lookup_nil, reduceCtorEq, Nat.reduceEqDiff, reduceIte, implies_true, forall_const, Nat.reduceMul, Nat.reduceSub, Nat.reduceAdd, Nat.reduceLeDiff, *]) | (simp only [zgoO, zgoG, zO_nil, zthen_normal, zgoC]) | (with_reducible apply And.intro) | (with_reducible intro _))
        all_goals exact ⟨_, HM.out, FF.out⟩
      | false =>
        obtain ⟨e, hfix⟩ := R.nc rfl
        have fin := KK2.out h4 p pb ob go1 fb db PL DM2 FR1 X (r + 1) F2 R.tr R.tu HFI.out HPP.out HFT.out I2 ⟨hfix⟩ (R.len.trans hDl) (fun t ht => (R.ot t ht).trans (hot t ht)) HTB.out.bdb
        clear R T U I F hDl hot hn hr F2 I2 HX KK2 hfix e
        repeat' (first | (simp only [zmPack, zxPack, ne_eq, zfree, owners, Nat.reduceLT, List.contains_cons, List.contains_nil, Nat.reduceBEq, BEq.rfl, chunk, setAt, List.lookup_cons, List.lookup_nil, reduceCtorEq, Nat.reduceEqDiff, reduceIte, implies_true, forall_const, Nat.reduceMul, Nat.reduceSub, Nat.reduceAdd, Nat.reduceLeDiff, *]) | (simp only [zgoO, zgoG, zO_nil, zthen_normal, zgoC]) | (with_reducible apply And.intro) | (with_reducible intro _))
end Go.Proofs.Ytfmllmcjinjfaaa

namespace Go.Proofs.Ytfmllmcjinjfaaa
open Go Go.RowKit
set_option linter.unusedVariables false
set_option linter.unusedSimpArgs false
variable {tb : List (FuncId × Bool)} {L : Nat → Bool} {H : ZH} {K : ZV → ZH → Prop}
variable {ex exr : Bool} {has : List (List Int)} {roots : List Int}
structure DomsR (has : List (List Int)) (roots : List Int) (PL DM : List Int) (FR : List Fr) (X : List Nat) (r : Nat) : Prop where
  tu : Tur (ordR X).length PL (ordR X) DM
  fi : FrI has.length has roots FR X
  pl : PlI has.length (ordR X) (ordR X).length PL
  ft : FrT (ordR X).length (ordR X) FR (lsP (ordR X) PL FR)
  di : DI (EL (ordR X).length (lsP (ordR X) PL FR)) (RL (ordR X).length (lsP (ordR X) PL FR)) (ordR X).length (dmP PL (ordR X) DM) (levK r 0)
  fx : FixO (EL (ordR X).length (lsP (ordR X) PL FR)) (RL (ordR X).length (lsP (ordR X) PL FR)) (ordR X).length (dmP PL (ordR X) DM)
  len : DM.length = has.length
  ot : ∀ t : Nat, (t : Int) ∉ ordR X → DM[t]? = (List.replicate has.length (-2))[t]?
theorem take_pre {H h : ZH} (hl : H.length ≤ h.length) (e : ∀ i, i < H.length → h[i]? = H[i]?) : h.take H.length = H := by
  refine List.ext_getElem? fun i => ?_
  by_cases hi : i < H.length
  · rw [List.getElem?_take_of_lt hi, e i hi]
  · rw [List.getElem?_eq_none (by rw [List.length_take]; omega), List.getElem?_eq_none (by omega)]
set_option maxHeartbeats 4000000 in
theorem domsf_z (hK0 : checkE has roots ≠ 0 → K (.tuple [.nil, Z64 (checkE has roots)]) H)
    (hK : checkE has roots = 0 → ∀ PL DM FR X r, DomsR has roots PL DM FR X r → K (.tuple [.own H.length 0 0 has.length false, Z64 0]) (H ++ [.grow 0 1 (DM.map eI)])) :
    ZC (constX tb) (cFunc Try.prog) 10 [.agg [.fz 1 ex (has.map eL), .fz 1 exr (roots.map eI)]] L H K := by
  refine ZC.enterL Gh.no constX_none f_ow_doms (by simp) fun hL => ?_
  simp only [c_ow_doms]
  have H0 := Lib.hid hK0
  have H1 := Lib.hid hK
  have HL := Lib.hid hL
  clear hK0 hK hL
  repeat' (first | (simp only [zmPack, zxPack, ne_eq, zfree, owners, Nat.reduceLT, List.contains_cons, List.contains_nil, Nat.reduceBEq, BEq.rfl, chunk, setAt, List.lookup_cons, List.lookup_nil, reduceCtorEq, Nat.reduceEqDiff, reduceIte, implies_true, forall_const, Nat.reduceMul, Nat.reduceSub, Nat.reduceAdd, Nat.reduceLeDiff, *]) | (simp only [zgoO, zgoG, zO_nil, zthen_normal, zgoC]) | (with_reducible apply And.intro) | (with_reducible intro _))
  refine check_z (has := has) (roots := roots) (by simp [rowsZ]) (by simp [rowsZ]) ?_
  by_cases hc : checkE has roots = 0
  · obtain ⟨q1, q2, q3, q4, q5⟩ := checkE_zero hc
    have H1 := Lib.hid (H1.out hc)
    rw [hc]
    clear H0 hc
    repeat' (first | (simp only [zmPack, zxPack, ne_eq, zfree, owners, Nat.reduceLT, List.contains_cons, List.contains_nil, Nat.reduceBEq, BEq.rfl, chunk, setAt, List.lookup_cons, List.lookup_nil, reduceCtorEq, Nat.reduceEqDiff, reduceIte, implies_true, forall_const, Nat.reduceMul, Nat.reduceSub, Nat.reduceAdd, Nat.reduceLeDiff, *]) | (simp only [zgoO, zgoG, zO_nil, zthen_normal, zgoC]) | (with_reducible apply And.intro) | (with_reducible intro _))
    refine doms_z q4 (fun l hl => by have := q3 l hl; omega) q1 (by omega) q5 (fun i hi => ?_) ?_
    · have := HL.out (i - H.length)
      rw [List.length_append] at hi
      rwa [show H.length + (i - H.length) = i by omega] at this
    · intro h p pb ob go fb db PL DM FR X r F T U FI P FT I FX hl hot hdb
      have hfr : ∀ i, i < H.length → h[i]? = H[i]? := fun i hi => by
        rw [F.2 i (by rw [List.length_append]; omega)]
        unfold domH
        rw [List.getElem?_append_left (by rw [List.length_append]; omega), List.getElem?_append_left hi]
      have hle : H.length ≤ h.length := by
        have := F.1
        unfold domH at this
        simp only [List.length_append] at this
        omega
      have hb := T.box
      have fin : Fin H (.tuple [.own db 0 0 DM.length false, Z64 0]) h K := by
        refine Fin.ownT (j := 0) (k := 1) (rows := DM.map eI) rfl rfl (fun i B hi he => .inl (by rw [← hfr i hi]; exact he)) (by rw [List.length_append] at hdb; omega) T.dm (by simp) ?_ ?_
        · simp [refs1]
        · rw [take_pre hle hfr, List.drop_zero, List.take_of_length_le (by simp), hl]
          exact H1.out PL DM FR X r ⟨U, FI, P, FT, I, FX, hl, hot⟩
      clear H1 HL hfr hle hdb F T U FI P FT I FX hl hot q1 q2 q3 q4 q5
      repeat' (first | (simp only [zmPack, zxPack, ne_eq, zfree, owners, Nat.reduceLT, List.contains_cons, List.contains_nil, Nat.reduceBEq, BEq.rfl, chunk, setAt, List.lookup_cons, List.lookup_nil, reduceCtorEq, Nat.reduceEqDiff, reduceIte, implies_true, forall_const, Nat.reduceMul, Nat.reduceSub, Nat.reduceAdd, Nat.reduceLeDiff, hb, *]) | (simp only [zgoO, zgoG, zO_nil, zthen_normal, zgoC]) | (with_reducible apply And.intro) | (with_reducible intro _))
  · have fin : Fin H (.tuple [.nil, Z64 (checkE has roots)]) (H ++ [.box [.fz 1 ex (has.map eL), .fz 1 exr (roots.map eI)]]) K :=
      Fin.truncT (Mods.ext H _) rfl (by rw [List.take_left]; exact H0.out hc)
    clear H0 H1
    generalize checkE has roots = e at hc fin
    repeat' (first | (simp only [zmPack, zxPack, ne_eq, zfree, owners, Nat.reduceLT, List.contains_cons, List.contains_nil, Nat.reduceBEq, BEq.rfl, chunk, setAt, List.lookup_cons, List.lookup_nil, reduceCtorEq, Nat.reduceEqDiff, reduceIte, implies_true, forall_const, Nat.reduceMul, Nat.reduceSub, Nat.reduceAdd, Nat.reduceLeDiff, *]) | (simp only [zgoO, zgoG, zO_nil, zthen_normal, zgoC]) | (with_reducible apply And.intro) | (with_reducible intro _))
end Go.Proofs.Ytfmllmcjinjfaaa
