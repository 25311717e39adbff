/-
  Scan in ZM: the longest one; a span's turn.
-/
import Derived.Test.YtoeppobpnhlebaaMrV12
namespace Go.Proofs.Ytoeppobpnhlebaa
open Go Go.RowKit
set_option linter.unusedVariables false
set_option linter.unusedSimpArgs false
variable {tb : List (FuncId × Bool)} {L : Nat → Bool} {H : ZH} {K : ZV → ZH → Prop}
variable {p a o g n : Nat} {ex : Bool} {l at_ : List Sp} {order os : List Nat} {R : Nat → Int}
def IsLong (l : List Sp) (R : Nat → Int) (os : List Nat) (n m : Nat) : Prop := cand l R n m ∧ (∀ k, k ∈ os → cand l R n k → (sp l k).2 ≤ (sp l m).2) ∧ ∃ i : Nat, os[i]? = some m ∧ ∀ (j k : Nat), i < j → os[j]? = some k → cand l R n k → (sp l k).2 < (sp l m).2
def LongI (l : List Sp) (R : Nat → Int) (os : List Nat) (n : Nat) (out : Int) : Prop := (out = -1 ∧ ∀ k, k ∈ os → ¬ cand l R n k) ∨ ∃ m : Nat, out = (m : Int) ∧ m ∈ os ∧ IsLong l R os n m
theorem LongI.skip {out : Int} {k : Nat} (h : LongI l R os n out) (hk : ¬ cand l R n k) : LongI l R (os ++ [k]) n out := by
  rcases h with ⟨h1, h2⟩ | ⟨m, h1, h2, h3, h4, i, h5, h6⟩
  · refine .inl ⟨h1, fun j hj => ?_⟩
    rcases List.mem_append.1 hj with h | h
    · exact h2 j h
    · rw [List.mem_singleton.1 h]; exact hk
  · refine .inr ⟨m, h1, List.mem_append_left _ h2, h3, fun j hj hc => ?_, i, by rw [List.getElem?_append_left (List.getElem?_eq_some_iff.1 h5).1]; exact h5, fun j q hij hq hc => ?_⟩
    · rcases List.mem_append.1 hj with h | h
      · exact h4 j h hc
      · rw [List.mem_singleton.1 h] at hc; exact absurd hc hk
    · by_cases e : j < os.length
      · rw [List.getElem?_append_left e] at hq; exact h6 j q hij hq hc
      · rw [List.getElem?_append_right (by omega)] at hq
        have := List.mem_of_getElem? hq
        rw [List.mem_singleton.1 this] at hc; exact absurd hc hk
theorem LongI.new {out : Int} {k : Nat} (h : LongI l R os n out) (hk : cand l R n k) (hl : ∀ m : Nat, out = (m : Int) → (sp l m).2 ≤ (sp l k).2) : LongI l R (os ++ [k]) n (k : Int) := by
  refine .inr ⟨k, rfl, by simp, hk, fun j hj hc => ?_, os.length, by simp, fun j q hij hq hc => ?_⟩
  · rcases List.mem_append.1 hj with h2 | h2
    · rcases h with ⟨_, h3⟩ | ⟨m, h1, _, _, h4, _⟩
      · exact absurd hc (h3 j h2)
      · exact Int.le_trans (h4 j h2 hc) (hl m h1)
    · rw [List.mem_singleton.1 h2]; exact Int.le_refl _
  · have := (List.getElem?_eq_some_iff.1 hq).1
    rw [List.length_append, List.length_singleton] at this
    omega
theorem LongI.old {m k : Nat} (h : LongI l R os n (m : Int)) (hl : (sp l k).2 < (sp l m).2) : LongI l R (os ++ [k]) n (m : Int) := by
  rcases h with ⟨h1, _⟩ | ⟨m', h1, h2, h3, h4, i, h5, h6⟩
  · omega
  · have : m = m' := by omega
    subst this
    refine .inr ⟨m, rfl, List.mem_append_left _ h2, h3, fun j hj hc => ?_, i, by rw [List.getElem?_append_left (List.getElem?_eq_some_iff.1 h5).1]; exact h5, fun j q hij hq hc => ?_⟩
    · rcases List.mem_append.1 hj with h | h
      · exact h4 j h hc
      · rw [List.mem_singleton.1 h]; omega
    · by_cases e : j < os.length
      · rw [List.getElem?_append_left e] at hq; exact h6 j q hij hq hc
      · rw [List.getElem?_append_right (by omega)] at hq
        have := List.mem_of_getElem? hq
        rw [List.mem_singleton.1 this]; exact hl
theorem IsLong.eq {m m' : Nat} (h : IsLong l R os n m) (h2 : IsLong l R os n m') : m = m' := by
  obtain ⟨c1, x1, i, e1, y1⟩ := h
  obtain ⟨c2, x2, i2, e2, y2⟩ := h2
  rcases Nat.lt_trichotomy i i2 with e | e | e
  · have a1 := y1 i2 m' e e2 c2
    have a2 := x2 m (List.mem_of_getElem? e1) c1
    omega
  · subst e; rw [e1] at e2; injection e2
  · have a1 := y2 i m e e1 c1
    have a2 := x1 m' (List.mem_of_getElem? e2) c2
    omega
def rg (at_ : List Sp) (k : Nat) : Int := (at_.getD k (-1, -1)).1
theorem rg_eq {k : Nat} (h : k < at_.length) : rg at_ k = (sp at_ k).1 := by
  unfold rg sp
  rw [List.getD_eq_getElem?_getD, List.getD_eq_getElem?_getD, List.getElem?_eq_getElem h]; rfl
theorem rg_out {k : Nat} (h : ¬ k < at_.length) : rg at_ k = -1 := by
  unfold rg
  rw [List.getD_eq_getElem?_getD, List.getElem?_eq_none (by omega)]; rfl
set_option maxHeartbeats 1000000 in
theorem longest_z (S : ScAt H p a o g ex l at_ order) (hn : n ∈ order) (ho : order.length ≤ 1000)
    (hK : ∀ m : Nat, m ∈ order → IsLong l (rg at_) order n m → K (Z64 (m : Int)) H) :
    ZC (constX tb) (cFunc Try.prog) 48 [.ptr p 0, Z64 (n : Int)] L H K := by
  refine ZC.enterL Gh.no constX_none f_sn_longest (by simp) fun hL => ?_
  simp only [c_sn_longest]
  have HK := Lib.hid hK
  have HS := Lib.hid S
  have HN := Lib.hid hn
  have hb := S.box
  have hol := S.olen
  clear hK S hL
  repeat' (first | (simp only [zmPack, zxPack, ne_eq, zfree, owners, Nat.reduceLT, List.contains_cons, List.contains_nil, Nat.reduceBEq, BEq.rfl, chunk, setAt, List.lookup_cons, List.lookup_nil, reduceCtorEq, Nat.reduceEqDiff, reduceIte, implies_true, forall_const, Nat.reduceMul, Nat.reduceSub, Nat.reduceAdd, Nat.reduceLeDiff, hb, hol, *]) | (simp only [zgoO, zgoG, zO_nil, zthen_normal, zgoC]) | (with_reducible apply And.intro) | (with_reducible intro _))
  clear hol
  refine zW_forK [(0, .ptr p 0), (1, Z64 (n : Int)), (11, .own o g 0 order.length false)] order.length (fun i s h => ∃ out, h = H ∧ s 5 = Z64 out ∧ LongI l (rg at_) (order.take i) n out) (by omega) ⟨rfl, rfl, rfl, rfl, rfl, rfl⟩ rfl rfl (by repeat' (first | exact trivial | (refine ⟨rfl, ?_⟩) | (refine ⟨by simp only [zupd_at, Nat.reduceEqDiff, reduceIte]; assumption, ?_⟩))) rfl rfl (by decide) ⟨-1, rfl, rfl, .inl ⟨rfl, fun k hk => by simp at hk⟩⟩ ?_ ?_
  · rintro i s h hi ⟨out, rfl, f5, hI⟩ hii hll ⟨f0, f1, f11, -⟩
    obtain ⟨k, hk⟩ : ∃ k, order[i]? = some k := ⟨_, List.getElem?_eq_getElem hi⟩
    have htk : order.take (i + 1) = order.take i ++ [k] := by rw [List.take_add_one, hk]; rfl
    have hkl := HS.out.inn k (List.mem_of_getElem? hk)
    have hnl := HS.out.inn n HN.out
    have e1 := HS.out.oel hi
    have l1 := HS.out.old hk
    have e2 := HS.out.ael hkl
    have l2 := HS.out.ald0 hkl
    have x1 := sp_at hkl
    have x2 := sp_at hnl
    have hcd : cand l (rg at_) n k ↔ k = n ∨ (¬ (sp at_ k).1 < 0 ∧ ((sp l k).1 < (sp l n).2 ∧ (sp l n).1 < (sp l k).2)) := by
      unfold cand mt
      rw [rg_eq (by rw [HS.out.len]; exact hkl)]
      constructor
      · rintro (h | h)
        · exact .inl h
        · exact .inr ⟨by omega, h.2⟩
      · rintro (h | h)
        · exact .inl h
        · exact .inr ⟨by omega, h.2⟩
    have skip : ¬ cand l (rg at_) n k → LongI l (rg at_) (order.take (i + 1)) n out := fun h => by rw [htk]; exact hI.skip h
    have new : cand l (rg at_) n k → (∀ m : Nat, out = (m : Int) → (sp l m).2 ≤ (sp l k).2) → LongI l (rg at_) (order.take (i + 1)) n (k : Int) := fun h h2 => by rw [htk]; exact hI.new h h2
    have old : ∀ m : Nat, out = (m : Int) → (sp l k).2 < (sp l m).2 → LongI l (rg at_) (order.take (i + 1)) n (m : Int) := fun m e h => by subst e; rw [htk]; exact hI.old h
    have hout : out = -1 ∨ ∃ m : Nat, out = (m : Int) ∧ m < l.length := by
      rcases hI with ⟨h, _⟩ | ⟨m, h, hm, _⟩
      · exact .inl h
      · exact .inr ⟨m, h, HS.out.inn m (List.mem_of_mem_take hm)⟩
    -- the second half
    have HB := Lib.hid (And.intro skip (And.intro new old))
    clear skip new old hI htk hk
    obtain ⟨u, hu⟩ : ∃ u, u = sp l k := ⟨_, rfl⟩
    obtain ⟨v, hv⟩ : ∃ v, v = sp l n := ⟨_, rfl⟩
    obtain ⟨rk, hrk⟩ : ∃ rk, rk = (sp at_ k).1 := ⟨_, rfl⟩
    rw [← hu] at x1
    rw [← hv] at x2
    rw [← hrk] at l2
    rw [← hu, ← hv, ← hrk] at hcd
    have HCD := Lib.hid hcd
    have HU := Lib.hid hu
    clear hcd hu hv hrk
    by_cases c1 : k = n
    · have hc := HCD.out.2 (.inl c1)
      subst c1
      have n1 : ¬ ¬ ((k : Int) = (k : Int)) := fun h => h rfl
      rcases hout with rfl | ⟨m, rfl, hml⟩
      · have FF := Lib.hid (HB.out.2.1 hc (fun m h => by omega))
        have m1 : ((-1 : Int) < 0) := by decide
        clear hc HB HCD HS
        repeat' (first | (simp only [zmPack, zxPack, ne_eq, zfree, owners, Nat.reduceLT, List.contains_cons, List.contains_nil, Nat.reduceBEq, BEq.rfl, chunk, setAt, List.lookup_cons, List.lookup_nil, reduceCtorEq, Nat.reduceEqDiff, reduceIte, implies_true, forall_const, Nat.reduceMul, Nat.reduceSub, Nat.reduceAdd, Nat.reduceLeDiff, n1, m1, hb, e1, l1, *]) | (simp only [zgoO, zgoG, zO_nil, zthen_normal, zgoC]) | (with_reducible apply And.intro) | (with_reducible intro _))
        all_goals exact FF.out
      · have x3 := sp_at hml
        have m1 : ¬ ((m : Int) < 0) := by omega
        by_cases c2 : (sp l m).2 ≤ u.2
        · have FF := Lib.hid (HB.out.2.1 hc (fun m' h => by have : m = m' := by omega
                                                            subst this; rw [← HU.out]; exact c2))
          clear hc HB HCD HS
          generalize sp l m = w at x3 c2
          repeat' (first | (simp only [zmPack, zxPack, ne_eq, zfree, owners, Nat.reduceLT, List.contains_cons, List.contains_nil, Nat.reduceBEq, BEq.rfl, chunk, setAt, List.lookup_cons, List.lookup_nil, reduceCtorEq, Nat.reduceEqDiff, reduceIte, implies_true, forall_const, Nat.reduceMul, Nat.reduceSub, Nat.reduceAdd, Nat.reduceLeDiff, n1, m1, hb, e1, l1, x1, x3, c2, *]) | (simp only [zgoO, zgoG, zO_nil, zthen_normal, zgoC]) | (with_reducible apply And.intro) | (with_reducible intro _))
          all_goals exact FF.out
        · have FF := Lib.hid (HB.out.2.2 m rfl (by rw [← HU.out]; omega))
          clear hc HB HCD HS
          generalize sp l m = w at x3 c2
          repeat' (first | (simp only [zmPack, zxPack, ne_eq, zfree, owners, Nat.reduceLT, List.contains_cons, List.contains_nil, Nat.reduceBEq, BEq.rfl, chunk, setAt, List.lookup_cons, List.lookup_nil, reduceCtorEq, Nat.reduceEqDiff, reduceIte, implies_true, forall_const, Nat.reduceMul, Nat.reduceSub, Nat.reduceAdd, Nat.reduceLeDiff, n1, m1, hb, e1, l1, x1, x3, c2, *]) | (simp only [zgoO, zgoG, zO_nil, zthen_normal, zgoC]) | (with_reducible apply And.intro) | (with_reducible intro _))
          all_goals exact FF.out
    · have n1 : ¬ (k : Int) = (n : Int) := by omega
      by_cases c3 : rk < 0
      · have FF := Lib.hid (HB.out.1 (fun h => by rcases HCD.out.1 h with h | h; exact c1 h; exact h.1 c3))
        clear c1 HB HCD HS
        repeat' (first | (simp only [zmPack, zxPack, ne_eq, zfree, owners, Nat.reduceLT, List.contains_cons, List.contains_nil, Nat.reduceBEq, BEq.rfl, chunk, setAt, List.lookup_cons, List.lookup_nil, reduceCtorEq, Nat.reduceEqDiff, reduceIte, implies_true, forall_const, Nat.reduceMul, Nat.reduceSub, Nat.reduceAdd, Nat.reduceLeDiff, n1, c3, hb, e1, l1, e2, l2, *]) | (simp only [zgoO, zgoG, zO_nil, zthen_normal, zgoC]) | (with_reducible apply And.intro) | (with_reducible intro _))
        all_goals exact FF.out
      · repeat' (first | (simp only [zmPack, zxPack, ne_eq, zfree, owners, Nat.reduceLT, List.contains_cons, List.contains_nil, Nat.reduceBEq, BEq.rfl, chunk, setAt, List.lookup_cons, List.lookup_nil, reduceCtorEq, Nat.reduceEqDiff, reduceIte, implies_true, forall_const, Nat.reduceMul, Nat.reduceSub, Nat.reduceAdd, Nat.reduceLeDiff, n1, c3, hb, e1, l1, e2, l2, x1, x2, *]) | (simp only [zgoO, zgoG, zO_nil, zthen_normal, zgoC]) | (with_reducible apply And.intro) | (with_reducible intro _))
        refine meet_z ?_
        by_cases c4 : u.1 < v.2 ∧ v.1 < u.2
        · have hc := HCD.out.2 (.inr ⟨c3, c4⟩)
          rw [decide_eq_true c4]
          rcases hout with rfl | ⟨m, rfl, hml⟩
          · have FF := Lib.hid (HB.out.2.1 hc (fun m h => by omega))
            have m1 : ((-1 : Int) < 0) := by decide
            clear c1 hc HB HCD HS c4
            repeat' (first | (simp only [zmPack, zxPack, ne_eq, zfree, owners, Nat.reduceLT, List.contains_cons, List.contains_nil, Nat.reduceBEq, BEq.rfl, chunk, setAt, List.lookup_cons, List.lookup_nil, reduceCtorEq, Nat.reduceEqDiff, reduceIte, implies_true, forall_const, Nat.reduceMul, Nat.reduceSub, Nat.reduceAdd, Nat.reduceLeDiff, n1, c3, m1, hb, *]) | (simp only [zgoO, zgoG, zO_nil, zthen_normal, zgoC]) | (with_reducible apply And.intro) | (with_reducible intro _))
            all_goals exact FF.out
          · have x3 := sp_at hml
            have m1 : ¬ ((m : Int) < 0) := by omega
            by_cases c2 : (sp l m).2 ≤ u.2
            · have FF := Lib.hid (HB.out.2.1 hc (fun m' h => by have : m = m' := by omega
                                                                subst this; rw [← HU.out]; exact c2))
              clear c1 hc HB HCD HS c4
              generalize sp l m = w at x3 c2
              repeat' (first | (simp only [zmPack, zxPack, ne_eq, zfree, owners, Nat.reduceLT, List.contains_cons, List.contains_nil, Nat.reduceBEq, BEq.rfl, chunk, setAt, List.lookup_cons, List.lookup_nil, reduceCtorEq, Nat.reduceEqDiff, reduceIte, implies_true, forall_const, Nat.reduceMul, Nat.reduceSub, Nat.reduceAdd, Nat.reduceLeDiff, n1, c3, m1, hb, x1, x3, c2, *]) | (simp only [zgoO, zgoG, zO_nil, zthen_normal, zgoC]) | (with_reducible apply And.intro) | (with_reducible intro _))
              all_goals exact FF.out
            · have FF := Lib.hid (HB.out.2.2 m rfl (by rw [← HU.out]; omega))
              clear c1 hc HB HCD HS c4
              generalize sp l m = w at x3 c2
              repeat' (first | (simp only [zmPack, zxPack, ne_eq, zfree, owners, Nat.reduceLT, List.contains_cons, List.contains_nil, Nat.reduceBEq, BEq.rfl, chunk, setAt, List.lookup_cons, List.lookup_nil, reduceCtorEq, Nat.reduceEqDiff, reduceIte, implies_true, forall_const, Nat.reduceMul, Nat.reduceSub, Nat.reduceAdd, Nat.reduceLeDiff, n1, c3, m1, hb, x1, x3, c2, *]) | (simp only [zgoO, zgoG, zO_nil, zthen_normal, zgoC]) | (with_reducible apply And.intro) | (with_reducible intro _))
              all_goals exact FF.out
        · have FF := Lib.hid (HB.out.1 (fun h => by rcases HCD.out.1 h with h | h; exact c1 h; exact c4 h.2))
          rw [decide_eq_false c4]
          clear c1 HB HCD HS c4
          repeat' (first | (simp only [zmPack, zxPack, ne_eq, zfree, owners, Nat.reduceLT, List.contains_cons, List.contains_nil, Nat.reduceBEq, BEq.rfl, chunk, setAt, List.lookup_cons, List.lookup_nil, reduceCtorEq, Nat.reduceEqDiff, reduceIte, implies_true, forall_const, Nat.reduceMul, Nat.reduceSub, Nat.reduceAdd, Nat.reduceLeDiff, n1, c3, *]) | (simp only [zgoO, zgoG, zO_nil, zthen_normal, zgoC]) | (with_reducible apply And.intro) | (with_reducible intro _))
          all_goals exact FF.out
  · rintro s h ⟨out, rfl, f5, hI⟩ ⟨f0, f1, f11, -⟩
    rw [List.take_length] at hI
    rcases hI with ⟨_, h2⟩ | ⟨m, rfl, hm, h3⟩
    · exact absurd (Or.inl rfl) (h2 n HN.out)
    · have fin : Fin h (Z64 (m : Int)) h K := Fin.keep (HK.out m hm h3)
      clear h3
      repeat' (first | (simp only [zmPack, zxPack, ne_eq, zfree, owners, Nat.reduceLT, List.contains_cons, List.contains_nil, Nat.reduceBEq, BEq.rfl, chunk, setAt, List.lookup_cons, List.lookup_nil, reduceCtorEq, Nat.reduceEqDiff, reduceIte, implies_true, forall_const, Nat.reduceMul, Nat.reduceSub, Nat.reduceAdd, Nat.reduceLeDiff, f5, *]) | (simp only [zgoO, zgoG, zO_nil, zthen_normal, zgoC]) | (with_reducible apply And.intro) | (with_reducible intro _))
inductive TakeL (l : List Sp) (order : List Nat) (regs : Nat) (at_ : List Sp) (n : Nat) : List Sp → Prop
  | have_ {r : Nat} : IsLeast (busyG l (rg at_) order n) r → r < regs → TakeL l order regs at_ n (at_.set n ((r : Int), (sp at_ n).2))
  | same {r : Nat} : IsLeast (busyG l (rg at_) order n) r → regs ≤ r → IsLong l (rg at_) order n n → TakeL l order regs at_ n at_
  | swap {r m : Nat} : IsLeast (busyG l (rg at_) order n) r → regs ≤ r → m ∈ order → m ≠ n → IsLong l (rg at_) order n m → TakeL l order regs at_ n ((at_.set n (rg at_ m, (sp at_ n).2)).set m (-1, (sp at_ m).2))
theorem sc_st (S : ScAt H p a o g ex l at_ order) (hLa : L a = true) {k : Nat} (hk : k < l.length) {v : Int} (Y : ZH) : stZ L (H ++ Y) [Z64 v] (.eptr a 0 k 0) = some (H.set a (.grow 0 2 ((at_.set k (v, (sp at_ k).2)).map eS)) ++ Y) := by
  rw [st_eptr]
  refine ⟨2, _, eS (sp at_ k), (S.ext Y).arr, by rw [List.getElem?_map, sp_at (by rw [S.len]; exact hk)]; rfl, hLa, by simp, ?_⟩
  rw [List.set_append_left _ _ (List.getElem?_eq_some_iff.1 S.arr).1, List.map_set]; rfl
theorem ScAt.set (S : ScAt H p a o g ex l at_ order) {at2 : List Sp} (h : at2.length = at_.length) (ha : a ≠ p) (hao : a ≠ o) : ScAt (H.set a (.grow 0 2 (at2.map eS))) p a o g ex l at2 order :=
  ⟨by rw [List.getElem?_set_ne ha, h]; exact S.box, List.getElem?_set_self (List.getElem?_eq_some_iff.1 S.arr).1, by rw [List.getElem?_set_ne hao]; exact S.ord, by rw [h]; exact S.len, S.sm, S.inn⟩
end Go.Proofs.Ytoeppobpnhlebaa
