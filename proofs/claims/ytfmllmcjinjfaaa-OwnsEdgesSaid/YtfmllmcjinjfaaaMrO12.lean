/-
  Proved: the law OwnsEdges answers true, whatever the input: a root is kept by nobody, and who keeps a needed thing keeps, or is, each needed thing that has it.
-/
import Derived.Test.YtfmllmcjinjfaaaMrO11
namespace Go.Proofs.Ytfmllmcjinjfaaa
open Go Go.RowKit
set_option linter.unusedVariables false
set_option linter.unusedSimpArgs false
variable {has : List (List Int)} {roots : List Int} {PL DM : List Int} {FR : List Fr} {X : List Nat} {r : Nat}
abbrev nR (X : List Nat) : Nat := (ordR X).length
abbrev eR (PL : List Int) (FR : List Fr) (X : List Nat) : Nat → Nat → Prop := EL (nR X) (lsP (ordR X) PL FR)
abbrev rR (PL : List Int) (FR : List Fr) (X : List Nat) : Nat → Prop := RL (nR X) (lsP (ordR X) PL FR)
abbrev dR (PL DM : List Int) (X : List Nat) : Dm := dmP PL (ordR X) DM
theorem isS {D : Dm} {v : Nat} {o : Option Nat} (h : D v = some o) : (D v).isSome := by rw [h]; rfl
theorem mem_ordR {t : Nat} : (t : Int) ∈ ordR X ↔ t ∈ X := by
  unfold ordR
  rw [List.mem_reverse, List.mem_map]
  constructor
  · rintro ⟨a, h, e⟩
    have : a = t := by omega
    subst this; exact h
  · exact fun h => ⟨t, h, rfl⟩
theorem DomsR.plc (R : DomsR has roots PL DM FR X r) {t : Nat} (h : t ∈ X) : ∃ v, v < nR X ∧ (ordR X)[v]? = some (t : Int) ∧ PL[t]? = some (v : Int) := by
  obtain ⟨v, hv⟩ := List.getElem?_of_mem (mem_ordR.2 h)
  have hl := (List.getElem?_eq_some_iff.1 hv).1
  exact ⟨v, hl, hv, R.pl.at_ v t hl hv⟩
theorem DomsR.frm (R : DomsR has roots PL DM FR X r) {t v : Nat} (ht : t ∈ X) (hv : (ordR X)[v]? = some (t : Int)) : ∃ x, FR[t]? = some x ∧ lsP (ordR X) PL FR v = x.2.map (plO PL) := by
  have htn : t < FR.length := by rw [R.fi.fl]; exact R.fi.lt t ht
  refine ⟨FR[t], List.getElem?_eq_getElem htn, ?_⟩
  unfold lsP
  rw [hv]
  simp only [Int.toNat_natCast]
  rw [List.getD_eq_getElem?_getD, List.getElem?_eq_getElem htn]
  rfl
theorem DomsR.edge (R : DomsR has roots PL DM FR X r) {n k : Nat} (hn : n ∈ X) (he : edg has n k) : ∃ v i, v < nR X ∧ i < nR X ∧ (ordR X)[v]? = some (k : Int) ∧ (ordR X)[i]? = some (n : Int) ∧ eR PL FR X i v := by
  have hk := R.fi.cl n hn k he
  obtain ⟨v, h1, h2, h3⟩ := R.plc hk
  obtain ⟨i, h4, h5, h6⟩ := R.plc hn
  refine ⟨v, i, h1, h4, h2, h5, h1, h4, ?_⟩
  obtain ⟨x, h7, h8⟩ := R.frm hk h2
  rw [h8]
  have hm : (n : Int) ∈ x.2 := (R.fi.fr k x h7 n).2 (.inl ⟨n, hn, rfl, he⟩)
  refine List.mem_map.2 ⟨_, hm, ?_⟩
  unfold plO
  rw [if_neg (by omega)]
  simp only [Int.toNat_natCast]
  rw [List.getD_eq_getElem?_getD, h6]
  rfl
theorem DomsR.isrt (R : DomsR has roots PL DM FR X r) {t : Nat} (ht : (t : Int) ∈ roots) : ∃ v, v < nR X ∧ (ordR X)[v]? = some (t : Int) ∧ rR PL FR X v := by
  have hk := R.fi.rt t ht
  obtain ⟨v, h1, h2, h3⟩ := R.plc hk
  refine ⟨v, h1, h2, h1, ?_⟩
  obtain ⟨x, h7, h8⟩ := R.frm hk h2
  rw [h8]
  exact List.mem_map.2 ⟨-1, (R.fi.fr t x h7 (-1)).2 (.inr ⟨rfl, ht⟩), by unfold plO; rw [if_pos rfl]⟩
theorem DomsR.root (R : DomsR has roots PL DM FR X r) {t : Nat} (ht : (t : Int) ∈ roots) : DM[t]? = some (-1) := by
  obtain ⟨v, h1, h2, h3⟩ := R.isrt ht
  obtain ⟨o, h4, h5⟩ := R.fx.at_ v h1
  have : o = none := by
    cases o with
    | none => rfl
    | some a => exact absurd h3 ((h5.up a).1 (Up.self (h5.lt a rfl).2)).1
  subst this
  exact (R.tu.dm h2 h4).1
theorem DomsR.out (R : DomsR has roots PL DM FR X r) {t : Nat} (ht : t < has.length) (h : t ∉ X) : DM[t]? = some (-2) := by
  rw [R.ot t (fun q => h (mem_ordR.1 q)), List.getElem?_replicate, if_pos ht]
theorem DomsR.inn (R : DomsR has roots PL DM FR X r) {t : Nat} (h : t ∈ X) : ∃ y, DM[t]? = some y ∧ ¬ y = -2 := by
  obtain ⟨v, h1, h2, h3⟩ := R.plc h
  obtain ⟨o, h4, h5⟩ := R.fx.at_ v h1
  refine ⟨_, (R.tu.dm h2 h4).1, idO_ne R.tu (R.tu.dm h2 h4).2⟩
def UpI (PL DM : List Int) (X : List Nat) (y up : Int) (m : Nat) : Prop := ∃ o u, y = idO (ordR X) o ∧ up = idO (ordR X) u ∧ (∀ w, u = some w → (dR PL DM X w).isSome ∧ w < nR X) ∧ (∀ a, o = some a → a < nR X ∧ ∃ w, u = some w ∧ Up (dR PL DM X) w a) ∧ m = szO u
theorem DomsR.to (R : DomsR has roots PL DM FR X r) {n k : Nat} (hn : n ∈ X) (he : edg has n k) : ∃ y, DM[k]? = some y ∧ ¬ y = -2 ∧ ∃ m, UpI PL DM X y (n : Int) m := by
  obtain ⟨v, i, h1, h2, h3, h4, h5⟩ := R.edge hn he
  obtain ⟨o, h6, h7⟩ := R.fx.at_ v h1
  obtain ⟨o2, h8, _⟩ := R.fx.at_ i h2
  have hs : (dR PL DM X i).isSome := (isS h8)
  refine ⟨_, (R.tu.dm h3 h6).1, idO_ne R.tu (R.tu.dm h3 h6).2, _, o, some i, rfl, ?_, fun w e => by injection e with e; subst e; exact ⟨hs, h2⟩, fun a e => ⟨(R.tu.dm h3 h6).2 a e, i, rfl, ?_⟩, rfl⟩
  · show _ = (ordR X).getD i 0
    rw [List.getD_eq_getElem?_getD, h4]; rfl
  · subst e
    exact ((h7.up a).1 (Up.self (h7.lt a rfl).2)).2 i h5 hs
theorem UpI.next (R : DomsR has roots PL DM FR X r) {y up : Int} {m : Nat} (h : UpI PL DM X y up m) : (up = y ∧ (y = -1 ∨ ∃ j : Nat, y = (j : Int))) ∨ (¬ up = y ∧ ∃ j : Nat, up = (j : Int) ∧ j < DM.length ∧ ∃ y2 m2, DM[j]? = some y2 ∧ m2 < m ∧ UpI PL DM X y y2 m2) := by
  obtain ⟨o, u, rfl, rfl, hu, ho, rfl⟩ := h
  by_cases e : u = o
  · subst e
    refine .inl ⟨rfl, ?_⟩
    cases u with
    | none => exact .inl rfl
    | some w =>
      obtain ⟨j, _, h, _⟩ := R.tu.at_ (hu w rfl).2
      exact .inr ⟨j, h⟩
  · refine .inr ⟨fun h => e ((R.tu.ne (fun x hx => (hu x hx).2) (fun x hx => (ho x hx).1)).1 h), ?_⟩
    cases u with
    | none =>
      cases o with
      | none => exact absurd rfl e
      | some a => obtain ⟨w, h, _⟩ := (ho a rfl).2; cases h
    | some w =>
      obtain ⟨j, h1, h2, _, h4, _⟩ := R.tu.at_ (hu w rfl).2
      obtain ⟨o2, h5⟩ := Option.isSome_iff_exists.1 (hu w rfl).1
      refine ⟨j, h2, h4, _, szO o2, (R.tu.dm h1 h5).1, ?_, o, o2, rfl, rfl, fun b hb => ?_, fun a ha => ⟨(ho a ha).1, ?_⟩, rfl⟩
      · cases o2 with
        | none => show 0 < w + 1; omega
        | some b => have := (R.di.good.lt w b h5).1; show b + 1 < w + 1; omega
      · subst hb
        exact ⟨(R.di.good.lt w b h5).2, (R.tu.dm h1 h5).2 b rfl⟩
      · obtain ⟨w2, hw, hup⟩ := (ho a ha).2
        injection hw with hw; subst hw
        rcases UpO.up h5 hup with rfl | h
        · exact absurd ha.symm e
        · cases o2 with
          | none => exact h.elim
          | some b => exact ⟨b, rfl, h⟩
end Go.Proofs.Ytfmllmcjinjfaaa

namespace Go.Proofs.Ytfmllmcjinjfaaa
open Go Go.RowKit
set_option linter.unusedVariables false
set_option linter.unusedSimpArgs false
abbrev tbO : List (FuncId × Bool) := [(9, true)]
theorem owned_z {L : Nat → Bool} {H : ZH} {K : ZV → ZH → Prop} (k : K (ZBo true) H) : ZC (constX tbO) (cFunc Try.prog) 9 [] L H K :=
  ZC.const (fun args fl hp ha => constX_some (l := tbO) (f := 9) (b := true) rfl args fl hp ha) k
variable {has : List (List Int)} {roots l : List Int}
set_option maxHeartbeats 2000000 in
theorem ownsedges_z : ZC (constX tbO) (cFunc Try.prog) 3 [.agg [.fz 1 false (has.map eL), .fz 1 false (roots.map eI)]] (fun _ => true) [] fun z _ => z = ZBo true := by
  refine ZC.enter Gh.no (fun args fl hp ha => constX_none (l := tbO) (f := 3) (by decide) args fl hp ha) f_ow_edges (by simp) ?_
  simp only [c_ow_edges]
  have fin : ∀ X, Fin [] (ZBo true) X (fun z _ => z = ZBo true) := fun X => Fin.trunc (Mods.ext [] X) rfl rfl
  have FI := Lib.hid fin
  clear fin
  repeat' (first | (simp only [zmPack, zxPack, ne_eq, zfree, owners, Nat.reduceLT, List.contains_cons, List.contains_nil, Nat.reduceBEq, BEq.rfl, chunk, setAt, List.lookup_cons, List.lookup_nil, reduceCtorEq, Nat.reduceEqDiff, reduceIte, implies_true, forall_const, Nat.reduceMul, Nat.reduceSub, Nat.reduceAdd, Nat.reduceLeDiff, *]) | (simp only [zgoO, zgoG, zO_nil, zthen_normal, zgoC]) | (with_reducible apply And.intro) | (with_reducible intro _))
  refine owned_z ?_
  repeat' (first | (simp only [zmPack, zxPack, ne_eq, zfree, owners, Nat.reduceLT, List.contains_cons, List.contains_nil, Nat.reduceBEq, BEq.rfl, chunk, setAt, List.lookup_cons, List.lookup_nil, reduceCtorEq, Nat.reduceEqDiff, reduceIte, implies_true, forall_const, Nat.reduceMul, Nat.reduceSub, Nat.reduceAdd, Nat.reduceLeDiff, *]) | (simp only [zgoO, zgoG, zO_nil, zthen_normal, zgoC]) | (with_reducible apply And.intro) | (with_reducible intro _))
  refine domsf_z (fun hne => ?_) (fun he PL DM FR X r R => ?_)
  · obtain ⟨c, hc⟩ : ∃ c, c = checkE has roots := ⟨_, rfl⟩
    rw [← hc] at hne ⊢
    clear hc
    repeat' (first | (simp only [zmPack, zxPack, ne_eq, zfree, owners, Nat.reduceLT, List.contains_cons, List.contains_nil, Nat.reduceBEq, BEq.rfl, chunk, setAt, List.lookup_cons, List.lookup_nil, reduceCtorEq, Nat.reduceEqDiff, reduceIte, implies_true, forall_const, Nat.reduceMul, Nat.reduceSub, Nat.reduceAdd, Nat.reduceLeDiff, hne, *]) | (simp only [zgoO, zgoG, zO_nil, zthen_normal, zgoC]) | (with_reducible apply And.intro) | (with_reducible intro _))
    refine owned_z ?_
    have fin := FI.out
    repeat' (first | (simp only [zmPack, zxPack, ne_eq, zfree, owners, Nat.reduceLT, List.contains_cons, List.contains_nil, Nat.reduceBEq, BEq.rfl, chunk, setAt, List.lookup_cons, List.lookup_nil, reduceCtorEq, Nat.reduceEqDiff, reduceIte, implies_true, forall_const, Nat.reduceMul, Nat.reduceSub, Nat.reduceAdd, Nat.reduceLeDiff, *]) | (simp only [zgoO, zgoG, zO_nil, zthen_normal, zgoC]) | (with_reducible apply And.intro) | (with_reducible intro _))
    exact fin _
  · obtain ⟨q1, q2, q3, q4, q5⟩ := checkE_zero he
    obtain ⟨H1, hH1⟩ : ∃ H1, H1 = ([.box [.fz 1 false (has.map eL), .fz 1 false (roots.map eI)]] ++ [.grow 0 1 (DM.map eI)] : ZH) := ⟨_, rfl⟩
    have hb : H1[0]? = some (.box [.fz 1 false (has.map eL), .fz 1 false (roots.map eI)]) := by rw [hH1]; rfl
    have hdm : H1[1]? = some (.grow 0 1 (DM.map eI)) := by rw [hH1]; rfl
    have ed : ∀ j, j < DM.length → elemZ H1 1 j (.own 1 0 0 has.length false) = some (.eptr 1 0 j 0) := fun j hj => by rw [elem_own]; exact ⟨_, hdm, by simp [R.len], by rw [← R.len]; exact hj, by simp [R.len]⟩
    have ld : ∀ (j : Nat) x, DM[j]? = some x → ldZ H1 none (.eptr 1 0 j 0) = some (Z64 x) := fun j x hx => by rw [ld_eptr]; exact ⟨_, _, _, hdm, by rw [List.getElem?_map, hx]; rfl, rfl⟩
    have e0 : ([.box [.fz 1 false (has.map eL), .fz 1 false (roots.map eI)]] : ZH).length = 1 := rfl
    rw [e0, ← hH1]
    have HE := Lib.hid (And.intro ed ld)
    have HR := Lib.hid R
    have HQ := Lib.hid (And.intro q1 (And.intro q2 (And.intro q3 (And.intro q4 q5))))
    clear hdm ed ld R q3 q4 q5 hH1 e0 he
    repeat' (first | (simp only [zmPack, zxPack, ne_eq, zfree, owners, Nat.reduceLT, List.contains_cons, List.contains_nil, Nat.reduceBEq, BEq.rfl, chunk, setAt, List.lookup_cons, List.lookup_nil, reduceCtorEq, Nat.reduceEqDiff, reduceIte, implies_true, forall_const, Nat.reduceMul, Nat.reduceSub, Nat.reduceAdd, Nat.reduceLeDiff, hb, *]) | (simp only [zgoO, zgoG, zO_nil, zthen_normal, zgoC]) | (with_reducible apply And.intro) | (with_reducible intro _))
    refine zW_forK [(1, .ptr 0 0), (3, .own 1 0 0 has.length false), (28, .fz 1 false (roots.map eI))] roots.length (fun k s h => h = H1) (by omega) ⟨rfl, rfl, rfl, rfl, rfl, rfl⟩ rfl rfl (by repeat' (first | exact trivial | (refine ⟨rfl, ?_⟩) | (refine ⟨by simp only [zupd_at, Nat.reduceEqDiff, reduceIte]; assumption, ?_⟩))) rfl rfl (by decide) rfl ?_ ?_
    · rintro k s' h' hk rfl hi hl ⟨f1, f3, f28, -⟩
      obtain ⟨x, hx⟩ : ∃ x, roots[k]? = some x := ⟨_, List.getElem?_eq_getElem hk⟩
      obtain ⟨x0, x1⟩ := HQ.out.2.2.2.2 x (List.mem_of_getElem? hx)
      obtain ⟨t, rfl⟩ := Int.eq_ofNat_of_zero_le x0
      have hd := HR.out.root (List.mem_of_getElem? hx)
      have e1 := HE.out.1 t (List.getElem?_eq_some_iff.1 hd).1
      have l1 := HE.out.2 t _ hd
      clear hd x0 x1 HE HR HQ
      repeat' (first | (simp only [zmPack, zxPack, ne_eq, zfree, owners, Nat.reduceLT, List.contains_cons, List.contains_nil, Nat.reduceBEq, BEq.rfl, chunk, setAt, List.lookup_cons, List.lookup_nil, reduceCtorEq, Nat.reduceEqDiff, reduceIte, implies_true, forall_const, Nat.reduceMul, Nat.reduceSub, Nat.reduceAdd, Nat.reduceLeDiff, hx, e1, l1, *]) | (simp only [zgoO, zgoG, zO_nil, zthen_normal, zgoC]) | (with_reducible apply And.intro) | (with_reducible intro _))
    · rintro s' h' rfl ⟨f1, f3, f28, -⟩
      repeat' (first | (simp only [zmPack, zxPack, ne_eq, zfree, owners, Nat.reduceLT, List.contains_cons, List.contains_nil, Nat.reduceBEq, BEq.rfl, chunk, setAt, List.lookup_cons, List.lookup_nil, reduceCtorEq, Nat.reduceEqDiff, reduceIte, implies_true, forall_const, Nat.reduceMul, Nat.reduceSub, Nat.reduceAdd, Nat.reduceLeDiff, hb, *]) | (simp only [zgoO, zgoG, zO_nil, zthen_normal, zgoC]) | (with_reducible apply And.intro) | (with_reducible intro _))
      refine zW_forK [(1, .ptr 0 0), (3, .own 1 0 0 has.length false), (41, .fz 1 false (has.map eL))] has.length (fun k s h => h = h') (by omega) ⟨rfl, rfl, rfl, rfl, rfl, rfl⟩ rfl rfl (by repeat' (first | exact trivial | (refine ⟨rfl, ?_⟩) | (refine ⟨by simp only [zupd_at, Nat.reduceEqDiff, reduceIte]; assumption, ?_⟩))) rfl rfl (by decide) rfl ?_ ?_
      · rintro n s2 h2 hn rfl hi2 hl2 ⟨f1, f3, f41, -⟩
        obtain ⟨l, hx⟩ : ∃ l, has[n]? = some l := ⟨_, List.getElem?_eq_getElem hn⟩
        have hxl := HQ.out.2.2.1 l (List.mem_of_getElem? hx)
        have HX := Lib.hid hx
        repeat' (first | (simp only [zmPack, zxPack, ne_eq, zfree, owners, Nat.reduceLT, List.contains_cons, List.contains_nil, Nat.reduceBEq, BEq.rfl, chunk, setAt, List.lookup_cons, List.lookup_nil, reduceCtorEq, Nat.reduceEqDiff, reduceIte, implies_true, forall_const, Nat.reduceMul, Nat.reduceSub, Nat.reduceAdd, Nat.reduceLeDiff, hx, *]) | (simp only [zgoO, zgoG, zO_nil, zthen_normal, zgoC]) | (with_reducible apply And.intro) | (with_reducible intro _))
        clear hx
        refine zW_forK [(3, .own 1 0 0 has.length false), (7, Z64 (n : Int)), (48, .fz 1 false (l.map eI))] l.length (fun k s h => h = h2) (by omega) ⟨rfl, rfl, rfl, rfl, rfl, rfl⟩ rfl rfl (by repeat' (first | exact trivial | (refine ⟨rfl, ?_⟩) | (refine ⟨by simp only [zupd_at, Nat.reduceEqDiff, reduceIte]; assumption, ?_⟩))) rfl rfl (by decide) rfl ?_ ?_
        · rintro k s3 h3 hk rfl hi3 hl3 ⟨f3, f7, f48, -⟩
          obtain ⟨y, hy⟩ : ∃ y, l[k]? = some y := ⟨_, List.getElem?_eq_getElem hk⟩
          by_cases hnX : n ∈ X
          · obtain ⟨y0, hy0, hne⟩ := HR.out.inn hnX
            have hyb := (HQ.out.2.2.2.1.2 l (List.mem_of_getElem? HX.out) y (List.mem_of_getElem? hy))
            obtain ⟨t, rfl⟩ := Int.eq_ofNat_of_zero_le hyb.1
            obtain ⟨z, hz, hzn, m, hU⟩ := HR.out.to (k := t) hnX ⟨l, HX.out, List.mem_of_getElem? hy⟩
            have e1 := HE.out.1 n (List.getElem?_eq_some_iff.1 hy0).1
            have l1 := HE.out.2 n _ hy0
            have e2 := HE.out.1 t (List.getElem?_eq_some_iff.1 hz).1
            have l2 := HE.out.2 t _ hz
            have HU := Lib.hid hU
            clear hy0 hz hU hyb hnX
            repeat' (first | (simp only [zmPack, zxPack, ne_eq, zfree, owners, Nat.reduceLT, List.contains_cons, List.contains_nil, Nat.reduceBEq, BEq.rfl, chunk, setAt, List.lookup_cons, List.lookup_nil, reduceCtorEq, Nat.reduceEqDiff, reduceIte, implies_true, forall_const, Nat.reduceMul, Nat.reduceSub, Nat.reduceAdd, Nat.reduceLeDiff, hy, e1, l1, *]) | (simp only [zgoO, zgoG, zO_nil, zthen_normal, zgoC]) | (with_reducible apply And.intro) | (with_reducible intro _))
            clear hy e1 l1
            refine zW_whileK [(3, .own 1 0 0 has.length false), (7, Z64 (n : Int)), (10, Z64 (t : Int))] m (fun m s h => h = h3 ∧ ∃ up, s 11 = Z64 up ∧ UpI PL DM X z up m) (by repeat' (first | exact trivial | (refine ⟨rfl, ?_⟩) | (refine ⟨by simp only [zupd_at, Nat.reduceEqDiff, reduceIte]; assumption, ?_⟩))) rfl ⟨rfl, _, rfl, HU.out⟩ ?_
            clear HU
            rintro m s4 h4 ⟨rfl, up, f11, hU⟩ ⟨f3, f7, f10, -⟩
            rcases hU.next HR.out with ⟨rfl, rfl | ⟨j, rfl⟩⟩ | ⟨hne, j, rfl, hj, y2, m2, hy2, hm, hU2⟩
            · have m1 : ¬ (0 : Int) ≤ -1 := by decide
              have m2 : ¬ (-1 : Int) = -2 := by decide
              clear hU HE HR HQ HX hzn hne hxl
              repeat' (first | (simp only [zmPack, zxPack, ne_eq, zfree, owners, Nat.reduceLT, List.contains_cons, List.contains_nil, Nat.reduceBEq, BEq.rfl, chunk, setAt, List.lookup_cons, List.lookup_nil, reduceCtorEq, Nat.reduceEqDiff, reduceIte, implies_true, forall_const, Nat.reduceMul, Nat.reduceSub, Nat.reduceAdd, Nat.reduceLeDiff, e2, l2, *]) | (simp only [zgoO, zgoG, zO_nil, zthen_normal, zgoC]) | (with_reducible apply And.intro) | (with_reducible intro _))
            · have m1 : (0 : Int) ≤ (j : Int) := Int.natCast_nonneg j
              clear hU HE HR HQ HX hxl
              repeat' (first | (simp only [zmPack, zxPack, ne_eq, zfree, owners, Nat.reduceLT, List.contains_cons, List.contains_nil, Nat.reduceBEq, BEq.rfl, chunk, setAt, List.lookup_cons, List.lookup_nil, reduceCtorEq, Nat.reduceEqDiff, reduceIte, implies_true, forall_const, Nat.reduceMul, Nat.reduceSub, Nat.reduceAdd, Nat.reduceLeDiff, e2, l2, *]) | (simp only [zgoO, zgoG, zO_nil, zthen_normal, zgoC]) | (with_reducible apply And.intro) | (with_reducible intro _))
            · have e3 := HE.out.1 j hj
              have l3 := HE.out.2 j _ hy2
              have hw : ∃ n', n' < m ∧ UpI PL DM X z y2 n' := ⟨m2, hm, hU2⟩
              have HW := Lib.hid hw
              have m1 : (0 : Int) ≤ (j : Int) := Int.natCast_nonneg j
              clear hU hw hm hU2 hy2 hj HE HR HQ HX hxl
              repeat' (first | (simp only [zmPack, zxPack, ne_eq, zfree, owners, Nat.reduceLT, List.contains_cons, List.contains_nil, Nat.reduceBEq, BEq.rfl, chunk, setAt, List.lookup_cons, List.lookup_nil, reduceCtorEq, Nat.reduceEqDiff, reduceIte, implies_true, forall_const, Nat.reduceMul, Nat.reduceSub, Nat.reduceAdd, Nat.reduceLeDiff, e2, l2, e3, l3, *]) | (simp only [zgoO, zgoG, zO_nil, zthen_normal, zgoC]) | (with_reducible apply And.intro) | (with_reducible intro _))
              all_goals exact HW.out
          · have hy0 := HR.out.out hn hnX
            have e1 := HE.out.1 n (List.getElem?_eq_some_iff.1 hy0).1
            have l1 := HE.out.2 n _ hy0
            clear hy0 hnX
            repeat' (first | (simp only [zmPack, zxPack, ne_eq, zfree, owners, Nat.reduceLT, List.contains_cons, List.contains_nil, Nat.reduceBEq, BEq.rfl, chunk, setAt, List.lookup_cons, List.lookup_nil, reduceCtorEq, Nat.reduceEqDiff, reduceIte, implies_true, forall_const, Nat.reduceMul, Nat.reduceSub, Nat.reduceAdd, Nat.reduceLeDiff, hy, e1, l1, *]) | (simp only [zgoO, zgoG, zO_nil, zthen_normal, zgoC]) | (with_reducible apply And.intro) | (with_reducible intro _))
        · rintro s3 h3 rfl ⟨f3, f7, f48, -⟩
          repeat' (first | (simp only [zmPack, zxPack, ne_eq, zfree, owners, Nat.reduceLT, List.contains_cons, List.contains_nil, Nat.reduceBEq, BEq.rfl, chunk, setAt, List.lookup_cons, List.lookup_nil, reduceCtorEq, Nat.reduceEqDiff, reduceIte, implies_true, forall_const, Nat.reduceMul, Nat.reduceSub, Nat.reduceAdd, Nat.reduceLeDiff, *]) | (simp only [zgoO, zgoG, zO_nil, zthen_normal, zgoC]) | (with_reducible apply And.intro) | (with_reducible intro _))
      · rintro s2 h2 rfl ⟨f1, f3, f41, -⟩
        repeat' (first | (simp only [zmPack, zxPack, ne_eq, zfree, owners, Nat.reduceLT, List.contains_cons, List.contains_nil, Nat.reduceBEq, BEq.rfl, chunk, setAt, List.lookup_cons, List.lookup_nil, reduceCtorEq, Nat.reduceEqDiff, reduceIte, implies_true, forall_const, Nat.reduceMul, Nat.reduceSub, Nat.reduceAdd, Nat.reduceLeDiff, *]) | (simp only [zgoO, zgoG, zO_nil, zthen_normal, zgoC]) | (with_reducible apply And.intro) | (with_reducible intro _))
        refine owned_z ?_
        have fin := FI.out
        repeat' (first | (simp only [zmPack, zxPack, ne_eq, zfree, owners, Nat.reduceLT, List.contains_cons, List.contains_nil, Nat.reduceBEq, BEq.rfl, chunk, setAt, List.lookup_cons, List.lookup_nil, reduceCtorEq, Nat.reduceEqDiff, reduceIte, implies_true, forall_const, Nat.reduceMul, Nat.reduceSub, Nat.reduceAdd, Nat.reduceLeDiff, *]) | (simp only [zgoO, zgoG, zO_nil, zthen_normal, zgoC]) | (with_reducible apply And.intro) | (with_reducible intro _))
end Go.Proofs.Ytfmllmcjinjfaaa

namespace Go.Proofs.Ytfmllmcjinjfaaa
open Go Go.RowKit Go.ChangeShapes Go.WideShapes Go.ChangeAt
set_option linter.unusedVariables false
set_option linter.unusedSimpArgs false
set_option maxRecDepth 100000 in
theorem ownsedges_lifted (os : Os) (started : os.Started) (H : Type) (enc : TypeId × Value → H) :
    ReturnsInHanded {} Try.checked os 3 .any (Rows.ownsEdgesSpec.pre6 enc Try.prog Try.f3 Rows.ownsEdgesRow.domain false) (Rows.ownsEdgesSpec.post enc Try.prog Try.f3 false true false false) := by
  refine law_lifted (C := Try.checked) 12 [(true, .prod (.slice 24 (.slice 8 (.int .i64))) (.slice 8 (.int .i64)))] 4 Try.own Try.laidOut started (by kernel_rfl) Try.func3
    (ChangeSpec.witness6 (enc := enc) (C := Try.checked) false ⟨#[], #[.agg #[.slice none 0 0, .slice none 0 0]], []⟩ 8 (by kernel_rfl) (by kernel_rfl) (by kernel_rfl) (by kernel_rfl))
    rfl (by kernel_rfl) Try.underlying4 (fun ds h => ?_) (by kernel_rfl) (by kernel_rfl) (fun W args h => ?_)
  · match ds, h with
    | [d0], _ => rfl
  · refine zm_walk (by kernel_rfl) (constX_ok (n := 1000) (F := cFunc Try.prog) (by kernel_rfl) (fun f af h => h) tbO (by intro p hp; rw [List.mem_singleton.1 hp]; kernel_rfl)) (fun f af h => h) rfl (fun zl hz => ?_) W args h
    obtain ⟨g, _, rfl, hg, sg, rfl⟩ := hz
    exact ownsedges_z (has := g.1) (roots := g.2)
theorem ownsedges_holds : Rows.OwnsEdgesSaid :=
  OpenClaim.holds_of_wide 3 Try.f3 rfl rfl rfl rfl rfl rfl rfl ⟨rfl, rfl, rfl, rfl, rfl⟩ rfl rfl rfl rfl rfl (by kernel_rfl) Try.func3 (by kernel_rfl) (of_decide_eq_true (by kernel_rfl)) (by unfold Func.isWrapper; first | (rw [if_pos (by decide +kernel)]; kernel_rfl) | (rw [if_neg (by decide +kernel)]; exact ⟨rfl, rfl⟩))
    (fun os started H enc _ => ownsedges_lifted os started H enc)
end Go.Proofs.Ytfmllmcjinjfaaa
