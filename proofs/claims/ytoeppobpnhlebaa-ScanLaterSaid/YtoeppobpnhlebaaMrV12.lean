/-
  Scan in ZM: the scanner's state; busy places; the least number.
-/
import Derived.Test.YtoeppobpnhlebaaMrV11
namespace Go.Proofs.Ytoeppobpnhlebaa
open Go Go.RowKit
set_option linter.unusedVariables false
set_option linter.unusedSimpArgs false
variable {tb : List (FuncId × Bool)} {L : Nat → Bool} {H : ZH} {K : ZV → ZH → Prop}
def rE (R : List Int) : List (Int × ZV) := R.map fun k => (k, .agg [])
def putR (R : List Int) (n : Int) : List Int := if n ∈ R then R else R ++ [n]
theorem mem_putR {R : List Int} {n x : Int} : x ∈ putR R n ↔ x ∈ R ∨ x = n := by
  unfold putR
  split
  · rename_i h; exact ⟨.inl, fun q => q.elim id fun e => e ▸ h⟩
  · simp
theorem zmput_rE {n : Int} : ∀ {R : List Int}, zmput (rE R) n (.agg []) = rE (putR R n)
  | [] => by simp [rE, zmput, putR]
  | k :: R => by
    have ih := zmput_rE (n := n) (R := R)
    show zmput ((k, .agg []) :: rE R) n (.agg []) = _
    simp only [zmput]
    by_cases h : n = k
    · subst h
      rw [if_pos rfl]; unfold putR; rw [if_pos (by simp)]; rfl
    · rw [if_neg h, ih]
      unfold putR
      by_cases h2 : n ∈ R
      · rw [if_pos h2, if_pos (by simp [h2])]; rfl
      · rw [if_neg h2, if_neg (by simp [h, h2])]; simp [rE]
theorem zfind_rE {n : Int} : ∀ {R : List Int}, zfind (rE R) n = if n ∈ R then some (.agg []) else none
  | [] => rfl
  | k :: R => by
    show zfind ((k, .agg []) :: rE R) n = _
    simp only [zfind]
    by_cases h : n = k
    · rw [if_pos h, if_pos (by simp [h])]
    · rw [if_neg h, zfind_rE]; simp [h]
theorem ent_eq {a b : List (Int × ZV)} : (a.map ent = b.map ent) ↔ a = b := by
  constructor
  · intro h
    have hi : ∀ x y : Int × ZV, ent x = ent y → x = y := fun x y h => by
      simp only [ent, ZV.tuple.injEq, List.cons.injEq, ZV.val.injEq, Value.int.injEq, true_and, and_true] at h
      exact Prod.ext h.1 h.2
    induction a generalizing b with
    | nil => cases b with
      | nil => rfl
      | cons => simp at h
    | cons x a ih => cases b with
      | nil => simp at h
      | cons y b =>
        simp only [List.map_cons, List.cons.injEq] at h
        rw [hi x y h.1, ih h.2]
  · rintro rfl; rfl
theorem mgot_s {z0 v : ZV} : mgot true z0 (some v) = .tuple [v, ZBo true] := rfl
theorem mgot_n {z0 : ZV} : mgot true z0 none = .tuple [z0, ZBo false] := rfl
def ordZ (order : List Nat) : List Int := order.map fun k : Nat => (k : Int)
theorem ordZ_len {order : List Nat} : (ordZ order).length = order.length := by simp [ordZ]
structure ScAt (H : ZH) (p a o g : Nat) (ex : Bool) (l : List Sp) (at_ : List Sp) (order : List Nat) : Prop where
  box : H[p]? = some (.box [.fz 2 ex (l.map eS), .own a 0 0 at_.length false, .own o g 0 order.length false])
  arr : H[a]? = some (.grow 0 2 (at_.map eS))
  ord : H[o]? = some (.grow g 1 ((ordZ order).map eI))
  len : at_.length = l.length
  sm : l.length ≤ 300
  inn : ∀ k, k ∈ order → k < l.length
variable {p a o g n : Nat} {ex : Bool} {l at_ : List Sp} {order : List Nat}
theorem ScAt.ext (S : ScAt H p a o g ex l at_ order) (Y : ZH) : ScAt (H ++ Y) p a o g ex l at_ order :=
  ⟨by rw [List.getElem?_append_left (List.getElem?_eq_some_iff.1 S.box).1]; exact S.box, by rw [List.getElem?_append_left (List.getElem?_eq_some_iff.1 S.arr).1]; exact S.arr, by rw [List.getElem?_append_left (List.getElem?_eq_some_iff.1 S.ord).1]; exact S.ord, S.len, S.sm, S.inn⟩
theorem ScAt.olen (S : ScAt H p a o g ex l at_ order) : lenZ H (.own o g 0 order.length false) = some order.length := by rw [len_own]; exact ⟨_, _, S.ord, rfl⟩
theorem ScAt.oel (S : ScAt H p a o g ex l at_ order) {i : Nat} (hi : i < order.length) : elemZ H 1 i (.own o g 0 order.length false) = some (.eptr o g i 0) := by
  rw [elem_own]; exact ⟨_, S.ord, by simp [ordZ], hi, by simp⟩
theorem ScAt.old (S : ScAt H p a o g ex l at_ order) {i k : Nat} (h : order[i]? = some k) : ldZ H none (.eptr o g i 0) = some (Z64 (k : Int)) := by
  rw [ld_eptr]; exact ⟨_, _, _, S.ord, by unfold ordZ; rw [List.getElem?_map, List.getElem?_map, h]; rfl, rfl⟩
theorem ScAt.ael (S : ScAt H p a o g ex l at_ order) {k : Nat} (hk : k < l.length) : elemZ H 2 k (.own a 0 0 at_.length false) = some (.eptr a 0 k 0) := by
  rw [elem_own]; exact ⟨_, S.arr, by simp, by rw [S.len]; exact hk, by simp⟩
theorem ScAt.ald (S : ScAt H p a o g ex l at_ order) {k : Nat} (hk : k < l.length) : ldZ H (some 2) (.eptr a 0 k 0) = some (.agg (eS (sp at_ k))) := by
  rw [ld_eptr]; exact ⟨_, _, eS (sp at_ k), S.arr, by rw [List.getElem?_map, List.getElem?_eq_getElem (by rw [S.len]; exact hk)]; unfold sp; rw [List.getD_eq_getElem?_getD, List.getElem?_eq_getElem (by rw [S.len]; exact hk)]; rfl, rfl⟩
theorem ScAt.ald0 (S : ScAt H p a o g ex l at_ order) {k : Nat} (hk : k < l.length) : ldZ H none (.eptr a 0 k 0) = some (Z64 (sp at_ k).1) := by
  rw [ld_eptr]; exact ⟨_, _, eS (sp at_ k), S.arr, by rw [List.getElem?_map, List.getElem?_eq_getElem (by rw [S.len]; exact hk)]; unfold sp; rw [List.getD_eq_getElem?_getD, List.getElem?_eq_getElem (by rw [S.len]; exact hk)]; rfl, rfl⟩
theorem sp_at {k : Nat} (hk : k < l.length) : l[k]? = some (sp l k) := by
  unfold sp; rw [List.getD_eq_getElem?_getD, List.getElem?_eq_getElem hk]; rfl
def busyG (l : List Sp) (pl : Nat → Int) (os : List Nat) (n : Nat) (p : Int) : Prop := ∃ k, k ∈ os ∧ k ≠ n ∧ 0 ≤ pl k ∧ mt l k n ∧ pl k = p
theorem busyG_snoc {pl : Nat → Int} {os : List Nat} {k : Nat} {p : Int} : busyG l pl (os ++ [k]) n p ↔ busyG l pl os n p ∨ (k ≠ n ∧ 0 ≤ pl k ∧ mt l k n ∧ pl k = p) := by
  unfold busyG
  constructor
  · rintro ⟨j, h1, h2⟩
    rcases List.mem_append.1 h1 with h | h
    · exact .inl ⟨j, h, h2⟩
    · rw [List.mem_singleton.1 h] at h2; exact .inr h2
  · rintro (⟨j, h1, h2⟩ | h)
    · exact ⟨j, List.mem_append_left _ h1, h2⟩
    · exact ⟨k, by simp, h⟩
set_option maxHeartbeats 8000000 in
theorem busy_z {pl : Sp → Int} {f : FuncId} (S : ScAt H p a o g ex l at_ order) (hn : n < l.length) (hf : ∀ (s : Sp) (Y : ZH) (K : ZV → ZH → Prop), K (Z64 (pl s)) (H ++ Y) → ZC (constX tb) (cFunc Try.prog) f [.agg (eS s)] L (H ++ Y) K)
    (ho : order.length ≤ 1000)
    (hK : ∀ M : List Int, (∀ x, x ∈ M ↔ busyG l (fun k => pl (sp at_ k)) order n x) → K (.mp H.length) (H ++ [.box ((rE M).map ent)])) :
    ZC (constX tb) (cFunc Try.prog) 34 [.ptr p 0, Z64 (n : Int), .func f []] L H K := by
  refine ZC.enterL Gh.no constX_none f_sn_busy (by simp) fun hL => ?_
  simp only [c_sn_busy]
  have l0 : L H.length = true := hL 0
  have HK := Lib.hid hK
  have HF := Lib.hid hf
  have HS := Lib.hid S
  have hb := fun Y => (S.ext Y).box
  have hol := fun Y => (S.ext Y).olen
  have hsm := S.sm
  clear hK hf S hL
  repeat' (first | (simp only [zmPack, zxPack, ne_eq, zfree, owners, Nat.reduceLT, List.contains_cons, List.contains_nil, Nat.reduceBEq, BEq.rfl, chunk, setAt, List.lookup_cons, List.lookup_nil, reduceCtorEq, Nat.reduceEqDiff, reduceIte, implies_true, forall_const, Nat.reduceMul, Nat.reduceSub, Nat.reduceAdd, Nat.reduceLeDiff, hb, hol, z_mkMap, *]) | (simp only [zgoO, zgoG, zO_nil, zthen_normal, zgoC]) | (with_reducible apply And.intro) | (with_reducible intro _))
  refine zW_forK [(0, .ptr p 0), (1, Z64 (n : Int)), (2, .func f []), (7, .mp H.length), (15, .own o g 0 order.length false)] order.length (fun i s h => ∃ M : List Int, h = H ++ [.box ((rE M).map ent)] ∧ ∀ x, x ∈ M ↔ busyG l (fun k => pl (sp at_ k)) (order.take i) n x) (by omega) ⟨rfl, rfl, rfl, rfl, rfl, rfl⟩ rfl rfl (by repeat' (first | exact trivial | (refine ⟨rfl, ?_⟩) | (refine ⟨by simp only [zupd_at, Nat.reduceEqDiff, reduceIte]; assumption, ?_⟩))) rfl rfl (by decide) ⟨[], rfl, fun x => by simp [busyG]⟩ ?_ ?_
  · rintro i s h hi ⟨M, rfl, hM⟩ hii hll ⟨f0, f1, f2, f7, f15, -⟩
    obtain ⟨k, hk⟩ : ∃ k, order[i]? = some k := ⟨_, List.getElem?_eq_getElem hi⟩
    have htk : order.take (i + 1) = order.take i ++ [k] := by rw [List.take_add_one, hk]; rfl
    have hkl := HS.out.inn k (List.mem_of_getElem? hk)
    have e1 := fun Y => (HS.out.ext Y).oel hi
    have l1 := fun Y => (HS.out.ext Y).old hk
    have e2 := fun Y => (HS.out.ext Y).ael hkl
    have l2 := fun Y => (HS.out.ext Y).ald hkl
    have x1 := sp_at hkl
    have x2 := sp_at hn
    have HM := Lib.hid hM
    have hm2 : ∀ x, busyG l (fun k => pl (sp at_ k)) (order.take (i + 1)) n x ↔ x ∈ M ∨ (k ≠ n ∧ 0 ≤ pl (sp at_ k) ∧ mt l k n ∧ pl (sp at_ k) = x) := fun x => by rw [htk, busyG_snoc, hM]
    have HM2 := Lib.hid hm2
    clear hk htk hM hm2
    obtain ⟨s0, hs0⟩ : ∃ s0, s0 = sp at_ k := ⟨_, rfl⟩
    have hc := HF.out s0
    rw [← hs0] at l2 HM2
    have hmtt : mt l k n ↔ (sp l k).1 < (sp l n).2 ∧ (sp l n).1 < (sp l k).2 := Iff.rfl
    rw [hmtt] at HM2
    clear hmtt hs0
    generalize sp l k = u at x1 HM2
    generalize sp l n = v at x2 HM2
    clear HF
    repeat' (first | (simp only [zmPack, zxPack, ne_eq, zfree, owners, Nat.reduceLT, List.contains_cons, List.contains_nil, Nat.reduceBEq, BEq.rfl, chunk, setAt, List.lookup_cons, List.lookup_nil, reduceCtorEq, Nat.reduceEqDiff, reduceIte, implies_true, forall_const, Nat.reduceMul, Nat.reduceSub, Nat.reduceAdd, Nat.reduceLeDiff, hb, e1, l1, e2, l2, *]) | (simp only [zgoO, zgoG, zO_nil, zthen_normal, zgoC]) | (with_reducible apply And.intro) | (with_reducible intro _))
    refine hc _ _ ?_
    generalize pl s0 = q at HM2
    have keep : ¬ (k ≠ n ∧ 0 ≤ q ∧ (u.1 < v.2 ∧ v.1 < u.2)) → ∃ M2 : List Int, H ++ [ZB.box ((rE M).map ent)] = H ++ [.box ((rE M2).map ent)] ∧ ∀ x, x ∈ M2 ↔ busyG l (fun k => pl (sp at_ k)) (order.take (i + 1)) n x := fun hno => ⟨M, rfl, fun x => by
      rw [HM2.out]; exact ⟨.inl, fun h => h.elim id fun h => absurd ⟨h.1, h.2.1, h.2.2.1⟩ hno⟩⟩
    have put : (k ≠ n ∧ 0 ≤ q ∧ (u.1 < v.2 ∧ v.1 < u.2)) → ∃ M2 : List Int, H ++ [ZB.box ((rE (putR M q)).map ent)] = H ++ [.box ((rE M2).map ent)] ∧ ∀ x, x ∈ M2 ↔ busyG l (fun k => pl (sp at_ k)) (order.take (i + 1)) n x := fun hy => ⟨putR M q, rfl, fun x => by
      rw [HM2.out, mem_putR]
      constructor
      · rintro (h | rfl)
        · exact .inl h
        · exact .inr ⟨hy.1, hy.2.1, hy.2.2, rfl⟩
      · rintro (h | h)
        · exact .inl h
        · exact .inr h.2.2.2.symm⟩
    have HKP := Lib.hid keep
    have HPU := Lib.hid put
    clear keep put HM2 HM HS HK hc
    by_cases c1 : k = n
    · have n1 : (k : Int) = (n : Int) := by omega
      have HH := Lib.hid (HKP.out fun h => h.1 c1)
      clear c1
      repeat' (first | (simp only [zmPack, zxPack, ne_eq, zfree, owners, Nat.reduceLT, List.contains_cons, List.contains_nil, Nat.reduceBEq, BEq.rfl, chunk, setAt, List.lookup_cons, List.lookup_nil, reduceCtorEq, Nat.reduceEqDiff, reduceIte, implies_true, forall_const, Nat.reduceMul, Nat.reduceSub, Nat.reduceAdd, Nat.reduceLeDiff, hb, n1, *]) | (simp only [zgoO, zgoG, zO_nil, zthen_normal, zgoC]) | (with_reducible apply And.intro) | (with_reducible intro _))
      all_goals exact HH.out
    · have n1 : ¬ (k : Int) = (n : Int) := by omega
      by_cases c2 : 0 ≤ q
      · repeat' (first | (simp only [zmPack, zxPack, ne_eq, zfree, owners, Nat.reduceLT, List.contains_cons, List.contains_nil, Nat.reduceBEq, BEq.rfl, chunk, setAt, List.lookup_cons, List.lookup_nil, reduceCtorEq, Nat.reduceEqDiff, reduceIte, implies_true, forall_const, Nat.reduceMul, Nat.reduceSub, Nat.reduceAdd, Nat.reduceLeDiff, hb, n1, c2, x1, x2, *]) | (simp only [zgoO, zgoG, zO_nil, zthen_normal, zgoC]) | (with_reducible apply And.intro) | (with_reducible intro _))
        refine meet_z ?_
        by_cases c3 : u.1 < v.2 ∧ v.1 < u.2
        · have HH := Lib.hid (HPU.out ⟨c1, c2, c3⟩)
          rw [decide_eq_true c3]
          have hzp := zmput_rE (R := M) (n := q)
          clear c1 c3
          repeat' (first | (simp only [zmPack, zxPack, ne_eq, zfree, owners, Nat.reduceLT, List.contains_cons, List.contains_nil, Nat.reduceBEq, BEq.rfl, chunk, setAt, List.lookup_cons, List.lookup_nil, reduceCtorEq, Nat.reduceEqDiff, reduceIte, implies_true, forall_const, Nat.reduceMul, Nat.reduceSub, Nat.reduceAdd, Nat.reduceLeDiff, hb, l0, hzp, z_mapSet, ZV.mp.injEq, ent_eq, sn_at0, sn_st0, *]) | (simp only [zgoO, zgoG, zO_nil, zthen_normal, zgoC]) | (with_reducible apply And.intro) | (with_reducible intro _))
          all_goals exact HH.out
        · have HH := Lib.hid (HKP.out fun h => c3 h.2.2)
          rw [decide_eq_false c3]
          clear c1 c3
          repeat' (first | (simp only [zmPack, zxPack, ne_eq, zfree, owners, Nat.reduceLT, List.contains_cons, List.contains_nil, Nat.reduceBEq, BEq.rfl, chunk, setAt, List.lookup_cons, List.lookup_nil, reduceCtorEq, Nat.reduceEqDiff, reduceIte, implies_true, forall_const, Nat.reduceMul, Nat.reduceSub, Nat.reduceAdd, Nat.reduceLeDiff, hb, *]) | (simp only [zgoO, zgoG, zO_nil, zthen_normal, zgoC]) | (with_reducible apply And.intro) | (with_reducible intro _))
          all_goals exact HH.out
      · have HH := Lib.hid (HKP.out fun h => c2 h.2.1)
        clear c1
        repeat' (first | (simp only [zmPack, zxPack, ne_eq, zfree, owners, Nat.reduceLT, List.contains_cons, List.contains_nil, Nat.reduceBEq, BEq.rfl, chunk, setAt, List.lookup_cons, List.lookup_nil, reduceCtorEq, Nat.reduceEqDiff, reduceIte, implies_true, forall_const, Nat.reduceMul, Nat.reduceSub, Nat.reduceAdd, Nat.reduceLeDiff, hb, n1, c2, *]) | (simp only [zgoO, zgoG, zO_nil, zthen_normal, zgoC]) | (with_reducible apply And.intro) | (with_reducible intro _))
        all_goals exact HH.out
  · rintro s h ⟨M, rfl, hM⟩ ⟨f0, f1, f2, f7, f15, -⟩
    rw [List.take_length] at hM
    have fin : Fin H (.mp H.length) (H ++ [.box ((rE M).map ent)]) K := Fin.keep (H0 := H) (HK.out M hM)
    clear hM
    repeat' (first | (simp only [zmPack, zxPack, ne_eq, zfree, owners, Nat.reduceLT, List.contains_cons, List.contains_nil, Nat.reduceBEq, BEq.rfl, chunk, setAt, List.lookup_cons, List.lookup_nil, reduceCtorEq, Nat.reduceEqDiff, reduceIte, implies_true, forall_const, Nat.reduceMul, Nat.reduceSub, Nat.reduceAdd, Nat.reduceLeDiff, f7, *]) | (simp only [zgoO, zgoG, zO_nil, zthen_normal, zgoC]) | (with_reducible apply And.intro) | (with_reducible intro _))
set_option maxHeartbeats 4000000 in
theorem least_z {m : Nat} {M : List Int} (hm : H[m]? = some (.box ((rE M).map ent))) (hM : ∀ x, x ∈ M → x < 1000) (hK : ∀ r, IsLeast (· ∈ M) r → K (Z64 (r : Int)) H) :
    ZC (constX tb) (cFunc Try.prog) 33 [.mp m] L H K := by
  refine ZC.enterL Gh.no constX_none f_sn_least (by simp) fun hL => ?_
  simp only [c_sn_least]
  have FIN : ∀ r X, IsLeast (· ∈ M) r → Fin H (Z64 (r : Int)) (H ++ X) K := fun r X hr => Fin.trunc (Mods.ext H X) rfl (by rw [List.take_left]; exact hK r hr)
  have HFN := Lib.hid FIN
  have HM := Lib.hid hM
  have hb : ∀ X, (H ++ X)[m]? = some (.box ((rE M).map ent)) := fun X => by rw [List.getElem?_append_left (List.getElem?_eq_some_iff.1 hm).1]; exact hm
  clear FIN hM hK hm
  repeat' (first | (simp only [zmPack, zxPack, ne_eq, zfree, owners, Nat.reduceLT, List.contains_cons, List.contains_nil, Nat.reduceBEq, BEq.rfl, chunk, setAt, List.lookup_cons, List.lookup_nil, reduceCtorEq, Nat.reduceEqDiff, reduceIte, implies_true, forall_const, Nat.reduceMul, Nat.reduceSub, Nat.reduceAdd, Nat.reduceLeDiff, *]) | (simp only [zgoO, zgoG, zO_nil, zthen_normal, zgoC]) | (with_reducible apply And.intro) | (with_reducible intro _))
  refine zW_whileK [(0, .mp m)] 1000 (fun n s h => ∃ (i : Nat) (X : ZH), s 3 = Z64 (i : Int) ∧ h = H ++ X ∧ (∀ j : Nat, j < i → (j : Int) ∈ M) ∧ n = 1000 - i) (by repeat' (first | exact trivial | (refine ⟨rfl, ?_⟩) | (refine ⟨by simp only [zupd_at, Nat.reduceEqDiff, reduceIte]; assumption, ?_⟩))) rfl ⟨0, [], rfl, by simp, fun j h => by omega, rfl⟩ ?_
  rintro n s h ⟨i, X, f3, rfl, hi, rfl⟩ ⟨f0, -⟩
  have HI := Lib.hid hi
  clear hi
  have hx : ∀ (Y : ZH) A B, (H ++ (X ++ [A])).set (H.length + X.length) B = H ++ (X ++ [B]) := fun Y A B => by
    rw [← List.append_assoc, ← List.append_assoc, show H.length + X.length = (H ++ X).length by simp]
    exact sn_st0 _ _ _
  by_cases h : (i : Int) ∈ M
  · have hz := zfind_rE (n := (i : Int)) (R := M)
    rw [if_pos h] at hz
    have hlt := HM.out _ h
    have w1 : IntKind.i64.wrap ((i : Int) + 1) = ((i + 1 : Nat) : Int) := by rw [IntWalk.i64_in _ (by omega)]; omega
    have nx : ∀ j : Nat, j < i + 1 → (j : Int) ∈ M := fun j hj => by
      by_cases e : j = i
      · subst e; exact h
      · exact HI.out j (by omega)
    have HN := Lib.hid nx
    have HLT := Lib.hid hlt
    clear nx hlt h
    repeat' (first | (simp only [zmPack, zxPack, ne_eq, zfree, owners, Nat.reduceLT, List.contains_cons, List.contains_nil, Nat.reduceBEq, BEq.rfl, chunk, setAt, List.lookup_cons, List.lookup_nil, reduceCtorEq, Nat.reduceEqDiff, reduceIte, implies_true, forall_const, Nat.reduceMul, Nat.reduceSub, Nat.reduceAdd, Nat.reduceLeDiff, hb, hz, w1, z_mapGet, ent_eq, mgot_s, ZV.mp.injEq, *]) | (simp only [zgoO, zgoG, zO_nil, zthen_normal, zgoC]) | (with_reducible apply And.intro) | (with_reducible intro _))
    all_goals exact ⟨1000 - (i + 1), by have := HLT.out; omega, i + 1, rfl, ⟨_, rfl⟩, HN.out, rfl⟩
  · have hz := zfind_rE (n := (i : Int)) (R := M)
    rw [if_neg h] at hz
    have fin := fun X => HFN.out i X ⟨h, HI.out⟩
    clear h
    repeat' (first | (simp only [zmPack, zxPack, ne_eq, zfree, owners, Nat.reduceLT, List.contains_cons, List.contains_nil, Nat.reduceBEq, BEq.rfl, chunk, setAt, List.lookup_cons, List.lookup_nil, reduceCtorEq, Nat.reduceEqDiff, reduceIte, implies_true, forall_const, Nat.reduceMul, Nat.reduceSub, Nat.reduceAdd, Nat.reduceLeDiff, hb, hz, z_mapGet, ent_eq, mgot_n, ZV.mp.injEq, *]) | (simp only [zgoO, zgoG, zO_nil, zthen_normal, zgoC]) | (with_reducible apply And.intro) | (with_reducible intro _))
end Go.Proofs.Ytoeppobpnhlebaa
