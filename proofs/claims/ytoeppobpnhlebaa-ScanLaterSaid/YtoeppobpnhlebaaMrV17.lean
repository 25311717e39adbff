/-
  Proved: the law ScanLater answers true, whatever the input: spans that all stand so much later have the same places.
-/
import Derived.Test.YtoeppobpnhlebaaMrV16
namespace Go.Proofs.Ytoeppobpnhlebaa
open Go Go.RowKit
set_option linter.unusedVariables false
set_option linter.unusedSimpArgs false
variable {l m at_ a b : List Sp} {order done os : List Nat} {regs n : Nat} {s t : Int}
def later (d : Int) (x : Sp) : Sp := if 0 ≤ x.1 ∧ x.1 < x.2 then (x.1 + d, x.2 + d) else x
structure Lat (l m : List Sp) (d : Int) : Prop where
  len : m.length = l.length
  d0 : 0 ≤ d
  at_ : ∀ i, i < l.length → sp m i = later d (sp l i)
variable {d : Int}
theorem Lat.cts (h : Lat l m d) {i : Nat} (hi : i < l.length) : cts m i ↔ cts l i := by
  have h0 := h.d0
  unfold Proofs.Ytoeppobpnhlebaa.cts
  rw [h.at_ i hi]
  unfold later
  split
  · rename_i c; exact ⟨fun _ => c, fun _ => ⟨by show 0 ≤ (sp l i).1 + d; omega, by show (sp l i).1 + d < (sp l i).2 + d; omega⟩⟩
  · exact Iff.rfl
theorem Lat.sh (h : Lat l m d) {i : Nat} (hi : i < l.length) (hc : Proofs.Ytoeppobpnhlebaa.cts l i) : sp m i = ((sp l i).1 + d, (sp l i).2 + d) := by
  rw [h.at_ i hi]
  unfold later
  rw [if_pos ⟨hc.1, hc.2⟩]
theorem sp_out {i : Nat} (h : ¬ i < l.length) : sp l i = (0, 0) := by
  unfold sp; rw [List.getD_eq_getElem?_getD, List.getElem?_eq_none (by omega)]; rfl
theorem Lat.cnt (h : Lat l m d) : cntTo m m.length = cntTo l l.length := by
  unfold cntTo
  rw [h.len]
  refine List.filter_congr fun i hi => ?_
  have := h.cts (List.mem_range.1 hi)
  unfold Proofs.Ytoeppobpnhlebaa.cts at this
  rw [decide_eq_decide]
  exact this
theorem Lat.lt (h : Lat l m d) : ltC (cfS m) = ltC (cfS l) := by
  funext x y
  rw [cfS_lt, cfS_lt, decide_eq_decide]
  have key : ∀ z : Int, (keyS m z = keyS l z + d ∧ 0 ≤ keyS l z) ∨ (keyS m z = -1 ∧ keyS l z = -1) := fun z => by
    unfold keyS
    by_cases hz : z.toNat < l.length
    · have hcc := h.cts hz
      by_cases c : Proofs.Ytoeppobpnhlebaa.cts l z.toNat
      · have c2 := hcc.2 c
        have e := h.sh hz c
        have e1 : (sp m z.toNat).1 = (sp l z.toNat).1 + d := by rw [e]
        left
        rw [if_pos (⟨c2.1, c2.2⟩ : 0 ≤ (sp m z.toNat).1 ∧ (sp m z.toNat).1 < (sp m z.toNat).2), if_pos (⟨c.1, c.2⟩ : 0 ≤ (sp l z.toNat).1 ∧ (sp l z.toNat).1 < (sp l z.toNat).2)]
        exact ⟨e1, c.1⟩
      · have c2 : ¬ Proofs.Ytoeppobpnhlebaa.cts m z.toNat := fun q => c (hcc.1 q)
        right
        rw [if_neg (fun q : 0 ≤ (sp m z.toNat).1 ∧ (sp m z.toNat).1 < (sp m z.toNat).2 => c2 ⟨q.1, q.2⟩), if_neg (fun q : 0 ≤ (sp l z.toNat).1 ∧ (sp l z.toNat).1 < (sp l z.toNat).2 => c ⟨q.1, q.2⟩)]
        exact ⟨rfl, rfl⟩
    · right
      rw [sp_out (l := m) (by rw [h.len]; exact hz), sp_out (l := l) hz]
      exact ⟨rfl, rfl⟩
  have h0 := h.d0
  rcases key x with ⟨p1, p2⟩ | ⟨p1, p2⟩ <;> rcases key y with ⟨q1, q2⟩ | ⟨q1, q2⟩ <;> rw [p1, q1] <;> omega
theorem Lat.ord (h : Lat l m d) : ordF m = ordF l := by
  unfold ordF
  rw [h.lt, h.cnt]
structure SameQ (l m : List Sp) (order : List Nat) : Prop where
  mt : ∀ i j, i ∈ order → j ∈ order → (Proofs.Ytoeppobpnhlebaa.mt l i j ↔ Proofs.Ytoeppobpnhlebaa.mt m i j)
  le : ∀ i j, i ∈ order → j ∈ order → ((sp l i).2 ≤ (sp l j).2 ↔ (sp m i).2 ≤ (sp m j).2)
theorem Lat.q (h : Lat l m d) : SameQ l m (ordF l) := by
  have e : ∀ i, i ∈ ordF l → sp m i = ((sp l i).1 + d, (sp l i).2 + d) := fun i hi => by
    obtain ⟨h1, h2⟩ := (ordF_ok.mem i).1 hi
    exact h.sh h1 h2
  refine ⟨fun i j hi hj => ?_, fun i j hi hj => ?_⟩
  · unfold Proofs.Ytoeppobpnhlebaa.mt
    rw [e i hi, e j hj]
    constructor
    · intro q; exact ⟨by show (sp l i).1 + d < (sp l j).2 + d; omega, by show (sp l j).1 + d < (sp l i).2 + d; omega⟩
    · intro q
      have q1 : (sp l i).1 + d < (sp l j).2 + d := q.1
      have q2 : (sp l j).1 + d < (sp l i).2 + d := q.2
      exact ⟨by omega, by omega⟩
  · rw [e i hi, e j hj]
    constructor
    · intro q; show (sp l i).2 + d ≤ (sp l j).2 + d; omega
    · intro q
      have q1 : (sp l i).2 + d ≤ (sp l j).2 + d := q
      omega
theorem SameQ.busy (q : SameQ l m order) {pl : Nat → Int} (hn : n ∈ order) : busyG l pl order n = busyG m pl order n := by
  funext p
  refine propext ⟨?_, ?_⟩
  · rintro ⟨k, h1, h2, h3, h4, h5⟩; exact ⟨k, h1, h2, h3, (q.mt k n h1 hn).1 h4, h5⟩
  · rintro ⟨k, h1, h2, h3, h4, h5⟩; exact ⟨k, h1, h2, h3, (q.mt k n h1 hn).2 h4, h5⟩
theorem SameQ.cand (q : SameQ l m order) {R : Nat → Int} {k : Nat} (hn : n ∈ order) (hk : k ∈ order) : cand l R n k ↔ cand m R n k := by
  unfold Proofs.Ytoeppobpnhlebaa.cand
  rw [q.mt k n hk hn]
theorem SameQ.long (q : SameQ l m order) {R : Nat → Int} {k : Nat} (hn : n ∈ order) (hk : k ∈ order) (h : IsLong l R order n k) : IsLong m R order n k := by
  obtain ⟨h1, h2, i, h3, h4⟩ := h
  refine ⟨(q.cand hn hk).1 h1, fun j hj hc => (q.le j k hj hk).1 (h2 j hj ((q.cand hn hj).2 hc)), i, h3, fun j x hij hx hc => ?_⟩
  have hxo := List.mem_of_getElem? hx
  have := h4 j x hij hx ((q.cand hn hxo).2 hc)
  have h5 := q.le k x hk hxo
  have : ¬ (sp l k).2 ≤ (sp l x).2 := by omega
  have : ¬ (sp m k).2 ≤ (sp m x).2 := fun r => this (h5.2 r)
  omega
theorem TakeL.conv (q : SameQ l m order) (hn : n ∈ order) (h : TakeL l order regs at_ n a) : TakeL m order regs at_ n a := by
  cases h with
  | have_ h1 h2 => rw [q.busy hn] at h1; exact .have_ h1 h2
  | same h1 h2 h3 => rw [q.busy hn] at h1; exact .same h1 h2 (q.long hn hn h3)
  | swap h1 h2 h3 h4 h5 => rw [q.busy hn] at h1; exact .swap h1 h2 h3 h4 (q.long hn h3 h5)
theorem Takes.back {at0 : List Sp} (h : Takes m order regs at0 (done ++ [n]) b) : ∃ b0, Takes m order regs at0 done b0 ∧ TakeL m order regs b0 n b := by
  generalize e : done ++ [n] = ds at h
  cases h with
  | start => simp at e
  | next h1 h2 =>
    obtain ⟨e1, e2⟩ := List.append_inj' e rfl
    injection e2 with e2
    subst e1; subst e2
    exact ⟨_, h1, h2⟩
theorem Takes.same {at0 : List Sp} (q : SameQ l m order) (h : Takes l order regs at0 done a) : ∀ b, (∀ k, k ∈ done → k ∈ order) → Takes m order regs at0 done b → a = b := by
  induction h with
  | start =>
    intro b _ h2
    generalize e : ([] : List Nat) = ds at h2
    cases h2 with
    | start => rfl
    | next => simp at e
  | @next done a1 a2 n h1 h2 ih =>
    intro b hd hb
    obtain ⟨b0, k1, k2⟩ := hb.back
    have := ih b0 (fun k hk => hd k (List.mem_append_left _ hk)) k1
    subst this
    exact (h2.conv q (hd n (by simp))).eq k2
theorem SlotL.conv (q : SameQ l m order) (hn : n ∈ order) (h : SlotL l order at_ n s a t) : SlotL m order at_ n s a t := by
  cases h with
  | skip h1 => exact .skip h1
  | put h1 h2 => rw [q.busy hn] at h2; exact .put h1 h2
theorem SlotsR.back {at1 : List Sp} (h : SlotsR m order at1 (done ++ [n]) b t) : ∃ b0 t0, SlotsR m order at1 done b0 t0 ∧ SlotL m order b0 n t0 b t := by
  generalize e : done ++ [n] = ds at h
  cases h with
  | start => simp at e
  | next h1 h2 =>
    obtain ⟨e1, e2⟩ := List.append_inj' e rfl
    injection e2 with e2
    subst e1; subst e2
    exact ⟨_, _, h1, h2⟩
theorem SlotsR.same {at1 : List Sp} (q : SameQ l m order) (h : SlotsR l order at1 done a s) : ∀ b t, (∀ k, k ∈ done → k ∈ order) → SlotsR m order at1 done b t → a = b ∧ s = t := by
  induction h with
  | start =>
    intro b t _ h2
    generalize e : ([] : List Nat) = ds at h2
    cases h2 with
    | start => exact ⟨rfl, rfl⟩
    | next => simp at e
  | @next done a1 a2 n s1 s2 h1 h2 ih =>
    intro b t hd hb
    obtain ⟨b0, t0, k1, k2⟩ := hb.back
    obtain ⟨e1, e2⟩ := ih b0 t0 (fun k hk => hd k (List.mem_append_left _ hk)) k1
    subst e1; subst e2
    exact (h2.conv q (hd n (by simp))).eq k2
theorem Lat.asg (h : Lat l m d) (A : Asg l regs a s) (B : Asg m regs b t) : a = b ∧ s = t := by
  obtain ⟨a1, h1, h2⟩ := A
  obtain ⟨b1, k1, k2⟩ := B
  rw [h.ord, h.len] at k1
  rw [h.ord] at k2
  have := h1.same h.q b1 (fun k hk => hk) k1
  subst this
  exact h2.same h.q b t (fun k hk => hk) k2
end Go.Proofs.Ytoeppobpnhlebaa

namespace Go.Proofs.Ytoeppobpnhlebaa
open Go Go.RowKit
set_option linter.unusedVariables false
set_option linter.unusedSimpArgs false
section
variable {tb : List (FuncId × Bool)} {L : Nat → Bool} {H : ZH} {K : ZV → ZH → Prop}
variable {a : List Sp}
set_option maxHeartbeats 4000000 in
/-- A list is itself. -/
theorem eqplace_z {ex ex2 : Bool} (hl : a.length ≤ 1000) (hK : K (ZBo true) H) : ZC (constX tb) (cFunc Try.prog) 18 [.fz 2 ex (a.map eS), .fz 2 ex2 (a.map eS)] L H K := by
  refine ZC.enterL Gh.no constX_none f_sn_eqplace (by simp) fun hL => ?_
  simp only [c_sn_eqplace]
  have fin : ∀ X, Fin H (ZBo true) (H ++ X) K := fun X => Fin.trunc (Mods.ext H X) rfl (by rw [List.take_left]; exact hK)
  have FI := Lib.hid fin
  have lx := hL
  have n1 : ¬ ¬ ((a.length : Int) = (a.length : Int)) := fun h => h rfl
  clear hK fin hL
  repeat' (first | (simp only [zmPack, zxPack, ne_eq, zfree, owners, Nat.reduceLT, List.contains_cons, List.contains_nil, Nat.reduceBEq, BEq.rfl, chunk, setAt, List.lookup_cons, List.lookup_nil, reduceCtorEq, Nat.reduceEqDiff, reduceIte, implies_true, forall_const, Nat.reduceMul, Nat.reduceSub, Nat.reduceAdd, Nat.reduceLeDiff, n1, *]) | (simp only [zgoO, zgoG, zO_nil, zthen_normal, zgoC]) | (with_reducible apply And.intro) | (with_reducible intro _))
  clear n1
  refine zW_forK [(12, .fz 2 ex (a.map eS)), (1, .fz 2 ex2 (a.map eS))] a.length (fun k s h => ∃ X, h = H ++ X) (by omega) ⟨rfl, rfl, rfl, rfl, rfl, rfl⟩ rfl rfl (by repeat' (first | exact trivial | (refine ⟨rfl, ?_⟩) | (refine ⟨by simp only [zupd_at, Nat.reduceEqDiff, reduceIte]; assumption, ?_⟩))) rfl rfl (by decide) ⟨[], by simp⟩ ?_ ?_
  · rintro k s h hk ⟨X, rfl⟩ hi hll ⟨f12, f1, -⟩
    have hx := sp_at hk
    generalize sp a k = u at hx
    have hs : sameZ [0, 0] [Z64 u.1, Z64 u.2] [Z64 u.1, Z64 u.2] = some true := by simp [sameZ, sameV]
    repeat' (first | (simp only [zmPack, zxPack, ne_eq, zfree, owners, Nat.reduceLT, List.contains_cons, List.contains_nil, Nat.reduceBEq, BEq.rfl, chunk, setAt, List.lookup_cons, List.lookup_nil, reduceCtorEq, Nat.reduceEqDiff, reduceIte, implies_true, forall_const, Nat.reduceMul, Nat.reduceSub, Nat.reduceAdd, Nat.reduceLeDiff, hx, sn_ld, sn_sv, lx, hs, *]) | (simp only [zgoO, zgoG, zO_nil, zthen_normal, zgoC]) | (with_reducible apply And.intro) | (with_reducible intro _))
    all_goals exact ⟨_, rfl⟩
  · rintro s h ⟨X, rfl⟩ ⟨f12, f1, -⟩
    have fin := FI.out X
    repeat' (first | (simp only [zmPack, zxPack, ne_eq, zfree, owners, Nat.reduceLT, List.contains_cons, List.contains_nil, Nat.reduceBEq, BEq.rfl, chunk, setAt, List.lookup_cons, List.lookup_nil, reduceCtorEq, Nat.reduceEqDiff, reduceIte, implies_true, forall_const, Nat.reduceMul, Nat.reduceSub, Nat.reduceAdd, Nat.reduceLeDiff, *]) | (simp only [zgoO, zgoG, zO_nil, zthen_normal, zgoC]) | (with_reducible apply And.intro) | (with_reducible intro _))
end
variable {l : List Sp} {n by_ : Int}
def latTo (d : Int) (l : List Sp) (k : Nat) : List Sp := (l.take k).map (later d)
theorem latTo_succ {d : Int} {l : List Sp} {k : Nat} {x : Sp} (h : l[k]? = some x) : latTo d l (k + 1) = latTo d l k ++ [later d x] := by
  unfold latTo
  rw [List.take_add_one, h, Option.toList_some, List.map_append]; rfl
theorem latTo_lat {d : Int} (h0 : 0 ≤ d) : Lat l (latTo d l l.length) d := by
  refine ⟨by simp [latTo], h0, fun i hi => ?_⟩
  unfold latTo
  rw [List.take_length]
  have h1 : (l.map (later d))[i]? = some (later d (sp l i)) := by rw [List.getElem?_map, sp_at hi]; rfl
  unfold sp at h1 ⊢
  rw [List.getD_eq_getElem?_getD, h1]; rfl
set_option maxHeartbeats 8000000 in
theorem scanlater_z : ZC (constX tbS) (cFunc Try.prog) 6 [.fz 2 false (l.map eS), Z64 n, Z64 by_] (fun _ => true) [] fun z _ => z = ZBo true := by
  refine ZC.enter ⟨[(8, [(0, 2)])], [], [68]⟩ (fun args fl hp ha => constX_none (l := tbS) (f := 6) (by decide) args fl hp ha) f_sn_later (by simp) ?_
  simp only [c_sn_later]
  have fin : ∀ X, Fin [] (ZBo true) X (fun z _ => z = ZBo true) := fun X => Fin.trunc (Mods.ext [] X) rfl rfl
  have FI := Lib.hid fin
  clear fin
  repeat' (first | (simp only [zmPack, zxPack, ne_eq, zfree, owners, Nat.reduceLT, List.contains_cons, List.contains_nil, Nat.reduceBEq, BEq.rfl, chunk, setAt, List.lookup_cons, List.lookup_nil, reduceCtorEq, Nat.reduceEqDiff, reduceIte, implies_true, forall_const, Nat.reduceMul, Nat.reduceSub, Nat.reduceAdd, Nat.reduceLeDiff, *]) | (simp only [zgoO, zgoG, zO_nil, zthen_normal, zgoC]) | (with_reducible apply And.intro) | (with_reducible intro _))
  refine scanned_z ?_
  have hbm : bestZ false (Z64 (l.length : Nat)) [Z64 (40 : Int)] = some (Z64 ((min l.length 40 : Nat) : Int)) := best_min (m := 40)
  obtain ⟨ex2, hct⟩ := dd_cut (e := eS) (k := 2) (ex := false) (l := l) (n := min l.length 40) (Nat.min_le_left _ _)
  obtain ⟨m, hm⟩ : ∃ m, m = l.take (min l.length 40) := ⟨_, rfl⟩
  have hml : m.length ≤ 40 := by rw [hm, List.length_take]; omega
  rw [← hm] at hct
  clear hm
  repeat' (first | (simp only [zmPack, zxPack, ne_eq, zfree, owners, Nat.reduceLT, List.contains_cons, List.contains_nil, Nat.reduceBEq, BEq.rfl, chunk, setAt, List.lookup_cons, List.lookup_nil, reduceCtorEq, Nat.reduceEqDiff, reduceIte, implies_true, forall_const, Nat.reduceMul, Nat.reduceSub, Nat.reduceAdd, Nat.reduceLeDiff, hbm, hct, numZ_none, numZ_some, natZ_nat, Option.bind_some, Option.isSome_none, *]) | (simp only [zgoO, zgoG, zO_nil, zthen_normal, zgoC]) | (with_reducible apply And.intro) | (with_reducible intro _))
  clear hbm hct
  refine rest_z (m := 10) (by omega) ?_
  obtain ⟨regs, hregs⟩ : ∃ regs : Nat, n % 10 = (regs : Int) := Int.eq_ofNat_of_zero_le (Int.emod_nonneg _ (by omega))
  have hr5 : regs ≤ 60 := by have := Int.emod_lt_of_pos n (show (0 : Int) < 10 by omega); omega
  rw [hregs]
  clear hregs
  obtain ⟨d, hd⟩ : ∃ d, d = by_ % 1000 := ⟨_, rfl⟩
  have hd0 : 0 ≤ d ∧ d < 1000 := by rw [hd]; exact ⟨Int.emod_nonneg _ (by omega), Int.emod_lt_of_pos _ (by omega)⟩
  have HD := Lib.hid hd
  have HD0 := Lib.hid hd0
  clear hd hd0
  repeat' (first | (simp only [zmPack, zxPack, ne_eq, zfree, owners, Nat.reduceLT, List.contains_cons, List.contains_nil, Nat.reduceBEq, BEq.rfl, chunk, setAt, List.lookup_cons, List.lookup_nil, reduceCtorEq, Nat.reduceEqDiff, reduceIte, implies_true, forall_const, Nat.reduceMul, Nat.reduceSub, Nat.reduceAdd, Nat.reduceLeDiff, *]) | (simp only [zgoO, zgoG, zO_nil, zthen_normal, zgoC]) | (with_reducible apply And.intro) | (with_reducible intro _))
  refine zW_forK [(26, .fz 2 ex2 (m.map eS)), (0, .fz 2 ex2 (m.map eS)), (2, Z64 by_), (7, Z64 (regs : Int))] m.length (fun k s h => ∃ g Y, h = .grow g 2 ((latTo d m k).map eS) :: Y ∧ s 8 = .own 0 g 0 k false) (by omega) ⟨rfl, rfl, rfl, rfl, rfl, rfl⟩ rfl rfl (by repeat' (first | exact trivial | (refine ⟨rfl, ?_⟩) | (refine ⟨by simp only [zupd_at, Nat.reduceEqDiff, reduceIte]; assumption, ?_⟩))) rfl rfl (by decide) ⟨0, [], rfl, rfl⟩ ?_ ?_
  · rintro k s h hk ⟨g, Y, rfl, f8⟩ hi hll ⟨f26, f0, f2, f7, -⟩
    have hx := sp_at hk
    have hlt := latTo_succ (d := d) hx
    have hll2 : (latTo d m k).length = k := by unfold latTo; rw [List.length_map, List.length_take]; omega
    generalize sp m k = u at hx hlt
    have HLT := Lib.hid hlt
    obtain ⟨B, hB⟩ : ∃ B, B = latTo d m k := ⟨_, rfl⟩
    rw [← hB] at hll2 HLT ⊢
    clear hlt hB
    have a1 : ∀ A E : ZB, (A :: (Y ++ [E]))[Y.length + 1]? = some E := fun A E => by simp
    have s1 : ∀ A E E2 : ZB, (A :: (Y ++ [E])).set (Y.length + 1) E2 = A :: (Y ++ [E2]) := fun A E E2 => by simp
    have h1 : k ≤ B.length := by omega
    have h2 : (k + 1) * 16 ≤ reach := by unfold reach; omega
    have ht : List.take k (List.map eS B) = List.map eS B := List.take_of_length_le (by rw [List.length_map]; omega)
    clear hll2
    by_cases c1 : 1099511627776 < u.1
    · repeat' (first | (simp only [zmPack, zxPack, ne_eq, zfree, owners, Nat.reduceLT, List.contains_cons, List.contains_nil, Nat.reduceBEq, BEq.rfl, chunk, setAt, List.lookup_cons, List.lookup_nil, reduceCtorEq, Nat.reduceEqDiff, reduceIte, implies_true, forall_const, Nat.reduceMul, Nat.reduceSub, Nat.reduceAdd, Nat.reduceLeDiff, hx, a1, s1, c1, *]) | (simp only [zgoO, zgoG, zO_nil, zthen_normal, zgoC]) | (with_reducible apply And.intro) | (with_reducible intro _))
      refine scanned_z ?_
      have fin := FI.out
      repeat' (first | (simp only [zmPack, zxPack, ne_eq, zfree, owners, Nat.reduceLT, List.contains_cons, List.contains_nil, Nat.reduceBEq, BEq.rfl, chunk, setAt, List.lookup_cons, List.lookup_nil, reduceCtorEq, Nat.reduceEqDiff, reduceIte, implies_true, forall_const, Nat.reduceMul, Nat.reduceSub, Nat.reduceAdd, Nat.reduceLeDiff, *]) | (simp only [zgoO, zgoG, zO_nil, zthen_normal, zgoC]) | (with_reducible apply And.intro) | (with_reducible intro _))
    · by_cases c2 : 1099511627776 < u.2
      · repeat' (first | (simp only [zmPack, zxPack, ne_eq, zfree, owners, Nat.reduceLT, List.contains_cons, List.contains_nil, Nat.reduceBEq, BEq.rfl, chunk, setAt, List.lookup_cons, List.lookup_nil, reduceCtorEq, Nat.reduceEqDiff, reduceIte, implies_true, forall_const, Nat.reduceMul, Nat.reduceSub, Nat.reduceAdd, Nat.reduceLeDiff, hx, a1, s1, c1, c2, *]) | (simp only [zgoO, zgoG, zO_nil, zthen_normal, zgoC]) | (with_reducible apply And.intro) | (with_reducible intro _))
        refine scanned_z ?_
        have fin := FI.out
        repeat' (first | (simp only [zmPack, zxPack, ne_eq, zfree, owners, Nat.reduceLT, List.contains_cons, List.contains_nil, Nat.reduceBEq, BEq.rfl, chunk, setAt, List.lookup_cons, List.lookup_nil, reduceCtorEq, Nat.reduceEqDiff, reduceIte, implies_true, forall_const, Nat.reduceMul, Nat.reduceSub, Nat.reduceAdd, Nat.reduceLeDiff, *]) | (simp only [zgoO, zgoG, zO_nil, zthen_normal, zgoC]) | (with_reducible apply And.intro) | (with_reducible intro _))
      · repeat' (first | (simp only [zmPack, zxPack, ne_eq, zfree, owners, Nat.reduceLT, List.contains_cons, List.contains_nil, Nat.reduceBEq, BEq.rfl, chunk, setAt, List.lookup_cons, List.lookup_nil, reduceCtorEq, Nat.reduceEqDiff, reduceIte, implies_true, forall_const, Nat.reduceMul, Nat.reduceSub, Nat.reduceAdd, Nat.reduceLeDiff, hx, a1, s1, c1, c2, *]) | (simp only [zgoO, zgoG, zO_nil, zthen_normal, zgoC]) | (with_reducible apply And.intro) | (with_reducible intro _))
        refine rcounts_z ?_
        by_cases hc : 0 ≤ u.1 ∧ u.1 < u.2
        · have e := HLT.out
          unfold later at e
          rw [if_pos hc] at e
          have HE := Lib.hid e
          rw [decide_eq_true hc]
          have w1 : IntKind.i64.wrap (u.1 + d) = u.1 + d := by have := HD0.out; rw [IntWalk.i64_in _ (by omega)]
          have w2 : IntKind.i64.wrap (u.2 + d) = u.2 + d := by have := HD0.out; rw [IntWalk.i64_in _ (by omega)]
          clear e hc HLT
          repeat' (first | (simp only [zmPack, zxPack, ne_eq, zfree, owners, Nat.reduceLT, List.contains_cons, List.contains_nil, Nat.reduceBEq, BEq.rfl, chunk, setAt, List.lookup_cons, List.lookup_nil, reduceCtorEq, Nat.reduceEqDiff, reduceIte, implies_true, forall_const, Nat.reduceMul, Nat.reduceSub, Nat.reduceAdd, Nat.reduceLeDiff, a1, s1, *]) | (simp only [zgoO, zgoG, zO_nil, zthen_normal, zgoC]) | (with_reducible apply And.intro) | (with_reducible intro _))
          refine rest_z (m := 1000) (by omega) ?_
          rw [← HD.out]
          repeat' (first | (simp only [zmPack, zxPack, ne_eq, zfree, owners, Nat.reduceLT, List.contains_cons, List.contains_nil, Nat.reduceBEq, BEq.rfl, chunk, setAt, List.lookup_cons, List.lookup_nil, reduceCtorEq, Nat.reduceEqDiff, reduceIte, implies_true, forall_const, Nat.reduceMul, Nat.reduceSub, Nat.reduceAdd, Nat.reduceLeDiff, a1, s1, w1, *]) | (simp only [zgoO, zgoG, zO_nil, zthen_normal, zgoC]) | (with_reducible apply And.intro) | (with_reducible intro _))
          refine rest_z (m := 1000) (by omega) ?_
          rw [← HD.out]
          repeat' (first | (simp only [zmPack, zxPack, ne_eq, zfree, owners, Nat.reduceLT, List.contains_cons, List.contains_nil, Nat.reduceBEq, BEq.rfl, chunk, setAt, List.lookup_cons, List.lookup_nil, reduceCtorEq, Nat.reduceEqDiff, reduceIte, implies_true, forall_const, Nat.reduceMul, Nat.reduceSub, Nat.reduceAdd, Nat.reduceLeDiff, a1, s1, w1, w2, h1, h2, ht, *]) | (simp only [zgoO, zgoG, zO_nil, zthen_normal, zgoC]) | (with_reducible apply And.intro) | (with_reducible intro _))
          all_goals exact ⟨g + 1, ⟨_, by rw [HE.out, List.map_append]; rfl⟩, rfl⟩
        · have e := HLT.out
          unfold later at e
          rw [if_neg hc] at e
          have HE := Lib.hid e
          rw [decide_eq_false hc]
          clear e hc HLT
          repeat' (first | (simp only [zmPack, zxPack, ne_eq, zfree, owners, Nat.reduceLT, List.contains_cons, List.contains_nil, Nat.reduceBEq, BEq.rfl, chunk, setAt, List.lookup_cons, List.lookup_nil, reduceCtorEq, Nat.reduceEqDiff, reduceIte, implies_true, forall_const, Nat.reduceMul, Nat.reduceSub, Nat.reduceAdd, Nat.reduceLeDiff, a1, s1, h1, h2, ht, *]) | (simp only [zgoO, zgoG, zO_nil, zthen_normal, zgoC]) | (with_reducible apply And.intro) | (with_reducible intro _))
          all_goals exact ⟨g + 1, ⟨_, by rw [HE.out, List.map_append]; rfl⟩, rfl⟩
  · rintro s h ⟨g, Y, rfl, f8⟩ ⟨f26, f0, f2, f7, -⟩
    have hml2 : (latTo d m m.length).length = m.length := by simp [latTo]
    have HLat := Lib.hid (latTo_lat (l := m) HD0.out.1)
    generalize latTo d m m.length = m2 at hml2 HLat ⊢
    have ht : List.take m.length (List.map eS m2) = List.map eS m2 := List.take_of_length_le (by rw [List.length_map]; omega)
    have h1 : m.length ≤ m2.length := by omega
    have hpu : (m2.map eS).flatten.all pureZ = true := List.all_eq_true.2 fun z hz => by
      obtain ⟨r, hr, hz⟩ := List.mem_flatten.1 hz
      obtain ⟨x, _, rfl⟩ := List.mem_map.1 hr
      simp only [eS, List.mem_cons, List.not_mem_nil, or_false] at hz
      rcases hz with rfl | rfl <;> rfl
    have HML := Lib.hid hml2
    clear hml2
    repeat' (first | (simp only [zmPack, zxPack, ne_eq, zfree, owners, Nat.reduceLT, List.contains_cons, List.contains_nil, Nat.reduceBEq, BEq.rfl, chunk, setAt, List.lookup_cons, List.lookup_nil, reduceCtorEq, Nat.reduceEqDiff, reduceIte, implies_true, forall_const, Nat.reduceMul, Nat.reduceSub, Nat.reduceAdd, Nat.reduceLeDiff, *]) | (simp only [zgoO, zgoG, zO_nil, zthen_normal, zgoC]) | (with_reducible apply And.intro) | (with_reducible intro _))
    refine assign_z (l := m) (regs := regs) (by omega) hr5 (fun a1 s1 hA => ?_)
    have HA := Lib.hid hA
    clear hA
    repeat' (first | (simp only [zmPack, zxPack, ne_eq, zfree, owners, Nat.reduceLT, List.contains_cons, List.contains_nil, Nat.reduceBEq, BEq.rfl, chunk, setAt, List.lookup_cons, List.lookup_nil, reduceCtorEq, Nat.reduceEqDiff, reduceIte, implies_true, forall_const, Nat.reduceMul, Nat.reduceSub, Nat.reduceAdd, Nat.reduceLeDiff, ht, h1, hpu, *]) | (simp only [zgoO, zgoG, zO_nil, zthen_normal, zgoC]) | (with_reducible apply And.intro) | (with_reducible intro _))
    refine assign_z (l := m2) (regs := regs) (by have := HML.out; omega) hr5 (fun a2 s2 hB => ?_)
    obtain ⟨e1, e2⟩ := HLat.out.asg HA.out hB
    subst e1
    subst e2
    have hal : a1.length ≤ 1000 := by have := HA.out.inv.len; omega
    clear hB HA ht h1 hpu
    repeat' (first | (simp only [zmPack, zxPack, ne_eq, zfree, owners, Nat.reduceLT, List.contains_cons, List.contains_nil, Nat.reduceBEq, BEq.rfl, chunk, setAt, List.lookup_cons, List.lookup_nil, reduceCtorEq, Nat.reduceEqDiff, reduceIte, implies_true, forall_const, Nat.reduceMul, Nat.reduceSub, Nat.reduceAdd, Nat.reduceLeDiff, *]) | (simp only [zgoO, zgoG, zO_nil, zthen_normal, zgoC]) | (with_reducible apply And.intro) | (with_reducible intro _))
    refine scanned_z ?_
    have n1 : (s1 = s1) = True := eq_self _
    repeat' (first | (simp only [zmPack, zxPack, ne_eq, zfree, owners, Nat.reduceLT, List.contains_cons, List.contains_nil, Nat.reduceBEq, BEq.rfl, chunk, setAt, List.lookup_cons, List.lookup_nil, reduceCtorEq, Nat.reduceEqDiff, reduceIte, implies_true, forall_const, Nat.reduceMul, Nat.reduceSub, Nat.reduceAdd, Nat.reduceLeDiff, eq_self, *]) | (simp only [zgoO, zgoG, zO_nil, zthen_normal, zgoC]) | (with_reducible apply And.intro) | (with_reducible intro _))
    refine eqplace_z hal ?_
    have fin := FI.out
    repeat' (first | (simp only [zmPack, zxPack, ne_eq, zfree, owners, Nat.reduceLT, List.contains_cons, List.contains_nil, Nat.reduceBEq, BEq.rfl, chunk, setAt, List.lookup_cons, List.lookup_nil, reduceCtorEq, Nat.reduceEqDiff, reduceIte, implies_true, forall_const, Nat.reduceMul, Nat.reduceSub, Nat.reduceAdd, Nat.reduceLeDiff, *]) | (simp only [zgoO, zgoG, zO_nil, zthen_normal, zgoC]) | (with_reducible apply And.intro) | (with_reducible intro _))
    all_goals exact fin _
end Go.Proofs.Ytoeppobpnhlebaa

namespace Go.Proofs.Ytoeppobpnhlebaa
open Go Go.RowKit Go.ChangeShapes Go.WideShapes Go.ChangeAt
set_option linter.unusedVariables false
set_option linter.unusedSimpArgs false
set_option maxRecDepth 100000 in
theorem scanlater_lifted (os : Os) (started : os.Started) (H : Type) (enc : TypeId × Value → H) :
    ReturnsInHanded {} Try.checked os 6 .any (Rows.scanLaterSpec.pre6 enc Try.prog Try.f6 Rows.scanLaterRow.domain false) (Rows.scanLaterSpec.post enc Try.prog Try.f6 false true false false) := by
  refine law_lifted (C := Try.checked) 12 [(false, .slice 16 (.prod (.int .i64) (.int .i64))), (false, .int .i64), (false, .int .i64)] 4 Try.own Try.laidOut started (by kernel_rfl) Try.func6
    (ChangeSpec.witness6 (enc := enc) (C := Try.checked) false ⟨#[], #[.slice none 0 0, .int .i64 0, .int .i64 0], []⟩ 8 (by kernel_rfl) (by kernel_rfl) (by kernel_rfl) (by kernel_rfl))
    rfl (by kernel_rfl) Try.underlying4 (fun ds h => ?_) (by kernel_rfl) (by kernel_rfl) (fun W args h => ?_)
  · match ds, h with
    | [d0, d1, d2], _ => rfl
  · refine zm_walk (by kernel_rfl) (constX_ok (n := 1000) (F := cFunc Try.prog) (by kernel_rfl) (fun f af h => h) tbS (by intro p hp; rw [List.mem_singleton.1 hp]; kernel_rfl)) (fun f af h => h) rfl (fun zl hz => ?_) W args h
    obtain ⟨l, _, rfl, hl, sl, n, _, rfl, hn, _, b, _, rfl, hb, _, rfl⟩ := hz
    exact scanlater_z (l := l) (n := n) (by_ := b)
theorem scanlater_holds : Rows.ScanLaterSaid :=
  OpenClaim.holds_of_wide 6 Try.f6 rfl rfl rfl rfl rfl rfl rfl ⟨rfl, rfl, rfl, rfl, rfl⟩ rfl rfl rfl rfl rfl (by kernel_rfl) Try.func6 (by kernel_rfl) (of_decide_eq_true (by kernel_rfl)) (by unfold Func.isWrapper; first | (rw [if_pos (by decide +kernel)]; kernel_rfl) | (rw [if_neg (by decide +kernel)]; exact ⟨rfl, rfl⟩))
    (fun os started H enc _ => scanlater_lifted os started H enc)
end Go.Proofs.Ytoeppobpnhlebaa
