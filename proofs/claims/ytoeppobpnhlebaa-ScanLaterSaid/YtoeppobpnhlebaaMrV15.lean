/-
  Scan in ZM: Assign.
-/
import Derived.Test.YtoeppobpnhlebaaMrV10
import Derived.Test.YtoeppobpnhlebaaMrV14
namespace Go.Proofs.Ytoeppobpnhlebaa
open Go Go.RowKit
set_option linter.unusedVariables false
set_option linter.unusedSimpArgs false
variable {tb : List (FuncId × Bool)} {L : Nat → Bool} {H : ZH} {K : ZV → ZH → Prop}
variable {p a o g n regs : Nat} {ex : Bool} {l at_ : List Sp} {order os : List Nat}
def cntTo (l : List Sp) (k : Nat) : List Nat := (List.range k).filter fun i => decide (0 ≤ (sp l i).1 ∧ (sp l i).1 < (sp l i).2)
theorem cntTo_succ {k : Nat} : cntTo l (k + 1) = if decide (0 ≤ (sp l k).1 ∧ (sp l k).1 < (sp l k).2) = true then cntTo l k ++ [k] else cntTo l k := by
  unfold cntTo
  rw [List.range_succ, List.filter_append]
  split
  · rename_i h; rw [List.filter_cons_of_pos (p := fun i => decide (0 ≤ (sp l i).1 ∧ (sp l i).1 < (sp l i).2)) h]; rfl
  · rename_i h; rw [List.filter_cons_of_neg (p := fun i => decide (0 ≤ (sp l i).1 ∧ (sp l i).1 < (sp l i).2)) h]; simp
theorem cntTo_len {k : Nat} : (cntTo l k).length ≤ k := by
  have := List.length_filter_le (fun i => decide (0 ≤ (sp l i).1 ∧ (sp l i).1 < (sp l i).2)) (List.range k)
  rw [List.length_range] at this
  exact this
def keyS (l : List Sp) (x : Int) : Int := if 0 ≤ (sp l x.toNat).1 ∧ (sp l x.toNat).1 < (sp l x.toNat).2 then (sp l x.toNat).1 else -1
def cfS (l : List Sp) (x y : Int) : Int := cmpI (keyS l x) (keyS l y)
theorem cfS_lt {x y : Int} : ltC (cfS l) x y = decide (keyS l x < keyS l y) := by
  unfold ltC cfS cmpI
  rw [decide_eq_decide]
  split
  · rename_i h; exact ⟨fun _ => h, fun _ => by decide⟩
  · rename_i h
    split
    · exact ⟨fun q => absurd q (by decide), fun q => absurd q h⟩
    · exact ⟨fun q => absurd q (by decide), fun q => absurd q h⟩
theorem mem_cntTo {k i : Nat} : i ∈ cntTo l k ↔ i < k ∧ cts l i := by
  unfold cntTo cts
  rw [List.mem_filter, List.mem_range, decide_eq_true_eq]
theorem keyS_in {k i : Nat} (h : i ∈ cntTo l k) : keyS l (i : Int) = (sp l i).1 := by
  have h2 := (mem_cntTo.1 h).2
  unfold keyS
  rw [Int.toNat_natCast, if_pos ⟨h2.1, h2.2⟩]
def ordF (l : List Sp) : List Nat := (sortG (ltC (cfS l)) (ordZ (cntTo l l.length))).map Int.toNat
theorem ordF_Z : ordZ (ordF l) = sortG (ltC (cfS l)) (ordZ (cntTo l l.length)) := by
  have hp := sortG_perm (lt := ltC (cfS l)) (D := ordZ (cntTo l l.length))
  unfold ordF ordZ at *
  rw [List.map_map]
  refine (List.map_congr_left fun x hx => ?_).trans (List.map_id _)
  obtain ⟨k, _, rfl⟩ := List.mem_map.1 (hp.mem_iff.1 hx)
  simp
theorem ordF_perm : (ordF l).Perm (cntTo l l.length) := by
  have hp := (sortG_perm (lt := ltC (cfS l)) (D := ordZ (cntTo l l.length))).map Int.toNat
  unfold ordF
  refine hp.trans ?_
  unfold ordZ
  rw [List.map_map]
  refine (List.Perm.of_eq ((List.map_congr_left fun x hx => ?_).trans (List.map_id _)))
  simp
theorem ordF_len : (ordF l).length ≤ l.length := by rw [ordF_perm.length_eq]; exact cntTo_len
theorem ordF_ok : OrdS l (ordF l) := by
  refine ⟨fun n => ?_, ?_, ?_⟩
  · rw [ordF_perm.mem_iff]
    unfold cntTo cts
    rw [List.mem_filter, List.mem_range, decide_eq_true_eq]
  · rw [ordF_perm.nodup_iff]
    exact List.Pairwise.filter _ List.nodup_range
  · have h := sortG_so (D := ordZ (cntTo l l.length)) (key := keyS l) (fun x y => cfS_lt (l := l) (x := x) (y := y))
    rw [← ordF_Z] at h
    unfold ordZ at h
    rw [List.pairwise_map] at h
    refine h.imp_of_mem fun {a b} ha hb hab => ?_
    rwa [keyS_in (ordF_perm.mem_iff.1 ha), keyS_in (ordF_perm.mem_iff.1 hb)] at hab
theorem ordZ_snoc {k : Nat} : ordZ (os ++ [k]) = ordZ os ++ [(k : Int)] := by simp [ordZ]
theorem best_sl {s v : Int} : bestZ true (Z64 s) [Z64 v] = some (Z64 (if s < v then v else s)) := by
  simp only [bestZ, if_true]
structure FrS (H W : ZH) : Prop where
  le : H.length ≤ W.length
  at_ : ∀ i, i < H.length → W[i]? = H[i]?
theorem FrS.set {W : ZH} (F : FrS H W) {i : Nat} {B : ZB} (h : H.length ≤ i) : FrS H (W.set i B) :=
  ⟨by rw [List.length_set]; exact F.le, fun j hj => by rw [List.getElem?_set_ne (by omega)]; exact F.at_ j hj⟩
theorem FrS.app {W : ZH} (F : FrS H W) (Y : ZH) : FrS H (W ++ Y) :=
  ⟨by rw [List.length_append]; have := F.le; omega, fun j hj => by rw [List.getElem?_append_left (by have := F.le; omega)]; exact F.at_ j hj⟩
theorem FrS.ext (X : ZH) : FrS H (H ++ X) := ⟨by rw [List.length_append]; omega, fun j hj => List.getElem?_append_left hj⟩
theorem FrS.take {W : ZH} (F : FrS H W) : W.take H.length = H := by
  refine List.ext_getElem? fun i => ?_
  by_cases hi : i < H.length
  · rw [List.getElem?_take_of_lt hi, F.at_ i hi]
  · have := F.le
    rw [List.getElem?_eq_none (by rw [List.length_take]; omega), List.getElem?_eq_none (by omega)]
theorem FrS.mods {W : ZH} (F : FrS H W) : Mods H W := fun i B hi he => .inl (by rw [← F.at_ i hi]; exact he)
theorem sc_st2 (S : ScAt H p a o g ex l at_ order) (hLa : L a = true) {k : Nat} (hk : k < l.length) {v : Int} (Y : ZH) : stZ L (H ++ Y) [Z64 v] (.eptr a 0 k 1) = some (H.set a (.grow 0 2 ((at_.set k ((sp at_ k).1, v)).map eS)) ++ Y) := by
  rw [st_eptr]
  refine ⟨2, _, eS (sp at_ k), (S.ext Y).arr, by rw [List.getElem?_map, sp_at (by rw [S.len]; exact hk)]; rfl, hLa, by simp, ?_⟩
  rw [List.set_append_left _ _ (List.getElem?_eq_some_iff.1 S.arr).1, List.map_set]; rfl
theorem ScAt.ald1 (S : ScAt H p a o g ex l at_ order) {k : Nat} (hk : k < l.length) : ldZ H none (.eptr a 0 k 1) = some (Z64 (sp at_ k).2) := by
  rw [ld_eptr]; exact ⟨_, _, eS (sp at_ k), S.arr, by rw [List.getElem?_map, sp_at (by rw [S.len]; exact hk)]; rfl, rfl⟩
def Asg (l : List Sp) (regs : Nat) (at2 : List Sp) (s : Int) : Prop := ∃ at1, Takes l (ordF l) regs (at00 l.length) (ordF l) at1 ∧ SlotsR l (ordF l) at1 (ordF l) at2 s
set_option maxHeartbeats 8000000 in
theorem assign_z (hl : l.length ≤ 300) (hr : regs ≤ 60) (hK : ∀ at2 s, Asg l regs at2 s → K (.tuple [.fz 2 false (at2.map eS), Z64 s, Z64 0]) H) :
    ZC (constX tb) (cFunc Try.prog) 16 [.fz 2 ex (l.map eS), Z64 (regs : Int)] L H K := by
  refine ZC.enterL ⟨[(32, [(2, 1)])], [], []⟩ constX_none f_sn_assign (by simp) fun hL => ?_
  simp only [c_sn_assign]
  have HK := Lib.hid hK
  have HLL := Lib.hid hL
  have r1 : ¬ (300 : Int) < (l.length : Int) := by omega
  have r2 : ¬ (regs : Int) < 0 := by omega
  have r3 : ¬ (60 : Int) < (regs : Int) := by omega
  clear hK hL
  repeat' (first | (simp only [zmPack, zxPack, ne_eq, zfree, owners, Nat.reduceLT, List.contains_cons, List.contains_nil, Nat.reduceBEq, BEq.rfl, chunk, setAt, List.lookup_cons, List.lookup_nil, reduceCtorEq, Nat.reduceEqDiff, reduceIte, implies_true, forall_const, Nat.reduceMul, Nat.reduceSub, Nat.reduceAdd, Nat.reduceLeDiff, r1, r2, r3, *]) | (simp only [zgoO, zgoG, zO_nil, zthen_normal, zgoC]) | (with_reducible apply And.intro) | (with_reducible intro _))
  refine repeatPl_z (z := .fz 2 true [[Z64 (-1), Z64 (-1)]]) (zx := [Z64 (-1), Z64 (-1)]) (n := l.length) rfl (fun z hz => by simp at hz; exact ⟨_, hz⟩) (by simp [rowsZ]) (by omega) ?_
  have h00 : List.replicate l.length [Z64 (-1), Z64 (-1)] = (at00 l.length).map eS := by simp [at00]
  rw [h00]
  clear r1 r2 r3
  repeat' (first | (simp only [zmPack, zxPack, ne_eq, zfree, owners, Nat.reduceLT, List.contains_cons, List.contains_nil, Nat.reduceBEq, BEq.rfl, chunk, setAt, List.lookup_cons, List.lookup_nil, reduceCtorEq, Nat.reduceEqDiff, reduceIte, implies_true, forall_const, Nat.reduceMul, Nat.reduceSub, Nat.reduceAdd, Nat.reduceLeDiff, *]) | (simp only [zgoO, zgoG, zO_nil, zthen_normal, zgoC]) | (with_reducible apply And.intro) | (with_reducible intro _))
  refine zW_forK [(34, .fz 2 ex (l.map eS)), (2, .ptr H.length 0), (7, .ptr (H.length + 3) 0), (1, Z64 (regs : Int))] l.length (fun k s h => ∃ g X, h = H ++ (.box [.fz 2 ex (l.map eS)] :: .grow 0 2 ((at00 l.length).map eS) :: .grow g 1 ((ordZ (cntTo l k)).map eI) :: .box [.fz 2 ex (l.map eS), .own (H.length + 1) 0 0 l.length false, .own (H.length + 2) g 0 (cntTo l k).length false] :: X)) (by omega) ⟨rfl, rfl, rfl, rfl, rfl, rfl⟩ rfl rfl (by repeat' (first | exact trivial | (refine ⟨rfl, ?_⟩) | (refine ⟨by simp only [zupd_at, Nat.reduceEqDiff, reduceIte]; assumption, ?_⟩))) rfl rfl (by decide) ⟨0, [], rfl⟩ ?_ ?_
  · rintro k s h hk ⟨g, X, rfl⟩ hi hll ⟨f34, f2, f7, f1, -⟩
    have hx := sp_at hk
    have hcs := cntTo_succ (l := l) (k := k)
    have hcl := cntTo_len (l := l) (k := k)
    have HCS := Lib.hid hcs
    obtain ⟨u, hu⟩ : ∃ u, u = sp l k := ⟨_, rfl⟩
    rw [← hu] at hx hcs
    have HC := Lib.hid hcs
    obtain ⟨cl, hcll⟩ : ∃ cl, cl = cntTo l k := ⟨_, rfl⟩
    rw [← hcll] at hcl HC ⊢
    have h1 : cl.length ≤ (ordZ cl).length := by rw [ordZ_len]; exact Nat.le_refl _
    have h2 : (cl.length + 1) * 8 ≤ reach := by unfold reach; omega
    have ht : List.take cl.length (List.map eI (ordZ cl)) = List.map eI (ordZ cl) := List.take_of_length_le (by rw [List.length_map, ordZ_len]; exact Nat.le_refl _)
    have lx : ∀ n, L (H.length + n) = true := HLL.out
    have a4 : ∀ A B C D E : ZB, (H ++ (A :: B :: C :: D :: (X ++ [E])))[H.length + (X.length + 4)]? = some E := fun A B C D E => by
      rw [List.getElem?_append_right (by omega), Nat.add_sub_cancel_left]; simp
    have s4 : ∀ A B C D E E2 : ZB, (H ++ (A :: B :: C :: D :: (X ++ [E]))).set (H.length + (X.length + 4)) E2 = H ++ (A :: B :: C :: D :: (X ++ [E2])) := fun A B C D E E2 => by
      rw [List.set_append_right _ _ (by omega), Nat.add_sub_cancel_left]; simp
    clear hcs hu hcll
    repeat' (first | (simp only [zmPack, zxPack, ne_eq, zfree, owners, Nat.reduceLT, List.contains_cons, List.contains_nil, Nat.reduceBEq, BEq.rfl, chunk, setAt, List.lookup_cons, List.lookup_nil, reduceCtorEq, Nat.reduceEqDiff, reduceIte, implies_true, forall_const, Nat.reduceMul, Nat.reduceSub, Nat.reduceAdd, Nat.reduceLeDiff, hx, a4, s4, lx, *]) | (simp only [zgoO, zgoG, zO_nil, zthen_normal, zgoC]) | (with_reducible apply And.intro) | (with_reducible intro _))
    refine counts_z ?_
    by_cases hc : 0 ≤ u.1 ∧ u.1 < u.2
    · have e := HC.out
      rw [decide_eq_true hc, if_pos rfl] at e
      have HE := Lib.hid e
      rw [decide_eq_true hc]
      clear e hc
      repeat' (first | (simp only [zmPack, zxPack, ne_eq, zfree, owners, Nat.reduceLT, List.contains_cons, List.contains_nil, Nat.reduceBEq, BEq.rfl, chunk, setAt, List.lookup_cons, List.lookup_nil, reduceCtorEq, Nat.reduceEqDiff, reduceIte, implies_true, forall_const, Nat.reduceMul, Nat.reduceSub, Nat.reduceAdd, Nat.reduceLeDiff, lx, h1, h2, ht, *]) | (simp only [zgoO, zgoG, zO_nil, zthen_normal, zgoC]) | (with_reducible apply And.intro) | (with_reducible intro _))
      all_goals exact ⟨g + 1, X ++ [ZB.box [Z64 u.1, Z64 u.2]], by rw [HE.out, ordZ_snoc, List.map_append, List.length_append]; rfl⟩
    · have e := HC.out
      rw [decide_eq_false hc, if_neg (by decide)] at e
      have HE := Lib.hid e
      rw [decide_eq_false hc]
      clear e hc
      repeat' (first | (simp only [zmPack, zxPack, ne_eq, zfree, owners, Nat.reduceLT, List.contains_cons, List.contains_nil, Nat.reduceBEq, BEq.rfl, chunk, setAt, List.lookup_cons, List.lookup_nil, reduceCtorEq, Nat.reduceEqDiff, reduceIte, implies_true, forall_const, Nat.reduceMul, Nat.reduceSub, Nat.reduceAdd, Nat.reduceLeDiff, *]) | (simp only [zgoO, zgoG, zO_nil, zthen_normal, zgoC]) | (with_reducible apply And.intro) | (with_reducible intro _))
      all_goals exact ⟨g, X ++ [ZB.box [Z64 u.1, Z64 u.2]], by rw [HE.out]⟩
  · rintro s h ⟨g, X, rfl⟩ ⟨f34, f2, f7, f1, -⟩
    have hfl := ordF_len (l := l)
    have hLL := HLL.out
    obtain ⟨cl, hcl⟩ : ∃ cl, cl = cntTo l l.length := ⟨_, rfl⟩
    have hcln := cntTo_len (l := l) (k := l.length)
    have hcin : ∀ k, k ∈ cl → k < l.length := fun k hk => by
      rw [hcl] at hk
      unfold cntTo at hk
      exact List.mem_range.1 (List.mem_filter.1 hk).1
    rw [← hcl] at hcln ⊢
    obtain ⟨W, hW⟩ : ∃ W, W = H ++ (.box [.fz 2 ex (l.map eS)] :: .grow 0 2 ((at00 l.length).map eS) :: .grow g 1 ((ordZ cl).map eI) :: .box [.fz 2 ex (l.map eS), .own (H.length + 1) 0 0 l.length false, .own (H.length + 2) g 0 cl.length false] :: X) := ⟨_, rfl⟩
    have hla : (at00 l.length).length = l.length := by simp [at00]
    have S : ScAt W (H.length + 3) (H.length + 1) (H.length + 2) g ex l (at00 l.length) cl := by
      rw [hW]
      refine ⟨?_, ?_, ?_, hla, by omega, hcin⟩
      · rw [hla, List.getElem?_append_right (by omega), Nat.add_sub_cancel_left]; rfl
      · rw [List.getElem?_append_right (by omega), Nat.add_sub_cancel_left]; rfl
      · rw [List.getElem?_append_right (by omega), Nat.add_sub_cancel_left]; rfl
    have hq : W[H.length]? = some (.box [.fz 2 ex (l.map eS)]) := by rw [hW]; exact sn_at0 _ _
    have hF : FrS H W := by rw [hW]; exact FrS.ext _
    rw [← hW]
    have hb := S.box
    have HS := Lib.hid S
    have HQ := Lib.hid hq
    have HF := Lib.hid hF
    have HCI := Lib.hid (And.intro hcl (And.intro hcln hcin))
    have ko : L (H.length + 2) = true := hLL 2
    clear hW S hq hF hcl hcin h00 f34
    repeat' (first | (simp only [zmPack, zxPack, ne_eq, zfree, owners, Nat.reduceLT, List.contains_cons, List.contains_nil, Nat.reduceBEq, BEq.rfl, chunk, setAt, List.lookup_cons, List.lookup_nil, reduceCtorEq, Nat.reduceEqDiff, reduceIte, implies_true, forall_const, Nat.reduceMul, Nat.reduceSub, Nat.reduceAdd, Nat.reduceLeDiff, hb, *]) | (simp only [zgoO, zgoG, zO_nil, zthen_normal, zgoC]) | (with_reducible apply And.intro) | (with_reducible intro _))
    clear hb
    have hso : ∀ K2 : ZV → ZH → Prop, K2 .no (bk W (H.length + 2) g (ordZ (ordF l))) → ZC (constX tb) (cFunc Try.prog) 29 [.own (H.length + 2) g 0 cl.length false, .func 30 [.ptr H.length 0]] L W K2 := fun K2 k2 => by
      have := sortsG_z (tb := tb) (L := L) (K := K2) (ex := false) (D := ordZ cl) (cf := cfS l) (f := 30) (caps := [.ptr H.length 0]) HS.out.ord ko (fun x hx y hy R K3 k3 => by
        obtain ⟨i, hi, rfl⟩ := List.mem_map.1 hx
        obtain ⟨j, hj, rfl⟩ := List.mem_map.1 hy
        refine assigna_z (ex := ex) (l := l) ?_ (HCI.out.2.2 i hi) (HCI.out.2.2 j hj) (by unfold cfS at k3; rwa [keyS_in (by rw [← HCI.out.1]; exact hi), keyS_in (by rw [← HCI.out.1]; exact hj)] at k3)
        rw [List.getElem?_set_ne (by omega)]
        exact HQ.out) (by rw [ordZ_len]; omega) (by rw [HCI.out.1, ← ordF_Z]; exact k2)
      rwa [ordZ_len] at this
    refine hso _ ?_
    have hol : (ordF l).length = cl.length := by rw [HCI.out.1]; exact ordF_perm.length_eq
    have hoi : ∀ k, k ∈ ordF l → k < l.length := fun k hk => ((ordF_ok.mem k).1 hk).1
    obtain ⟨V, hV⟩ : ∃ V, V = bk W (H.length + 2) g (ordZ (ordF l)) := ⟨_, rfl⟩
    have S2 : ScAt V (H.length + 3) (H.length + 1) (H.length + 2) g ex l (at00 l.length) (ordF l) := by
      rw [hV]
      refine ⟨?_, ?_, bk_at (List.getElem?_eq_some_iff.1 HS.out.ord).1, HS.out.len, by omega, hoi⟩
      · rw [List.getElem?_set_ne (by omega), hol]; exact HS.out.box
      · rw [List.getElem?_set_ne (by omega)]; exact HS.out.arr
    have hF2 : FrS H V := by rw [hV]; exact HF.out.set (by omega)
    rw [← hV]
    have hb := S2.box
    have hol2 := S2.olen
    have HS2 := Lib.hid S2
    have HF2 := Lib.hid hF2
    have HCC := Lib.hid (And.intro hol hoi)
    have ka : L (H.length + 1) = true := hLL 1
    obtain ⟨p, hp⟩ : ∃ p, p = H.length + 3 := ⟨_, rfl⟩
    obtain ⟨a, ha⟩ : ∃ a, a = H.length + 1 := ⟨_, rfl⟩
    obtain ⟨o, ho⟩ : ∃ o, o = H.length + 2 := ⟨_, rfl⟩
    have hpa : H.length ≤ a ∧ a ≠ p ∧ a ≠ o := by omega
    rw [← hp] at hb HS2 f7
    rw [← ha] at hb HS2 ka
    rw [← ho] at hb hol2 HS2
    have HPA := Lib.hid hpa
    clear hso HS HF HQ HCI hV hol hoi S2 hF2 hp ha ho hpa ko hcln hla
    repeat' (first | (simp only [zmPack, zxPack, ne_eq, zfree, owners, Nat.reduceLT, List.contains_cons, List.contains_nil, Nat.reduceBEq, BEq.rfl, chunk, setAt, List.lookup_cons, List.lookup_nil, reduceCtorEq, Nat.reduceEqDiff, reduceIte, implies_true, forall_const, Nat.reduceMul, Nat.reduceSub, Nat.reduceAdd, Nat.reduceLeDiff, hb, hol2, *]) | (simp only [zgoO, zgoG, zO_nil, zthen_normal, zgoC]) | (with_reducible apply And.intro) | (with_reducible intro _))
    clear hb hol2
    refine zW_forK [(7, .ptr p 0), (1, Z64 (regs : Int)), (63, .own o g 0 (ordF l).length false)] (ordF l).length (fun i s h => ∃ at_, ScAt h p a o g ex l at_ (ordF l) ∧ Takes l (ordF l) regs (at00 l.length) ((ordF l).take i) at_ ∧ FrS H h) (by omega) ⟨rfl, rfl, rfl, rfl, rfl, rfl⟩ rfl rfl (by repeat' (first | exact trivial | (refine ⟨rfl, ?_⟩) | (refine ⟨by simp only [zupd_at, Nat.reduceEqDiff, reduceIte]; assumption, ?_⟩))) rfl rfl (by decide) ⟨_, HS2.out, .start, HF2.out⟩ ?_ ?_
    · clear HS2 HF2 f2 f7 f1
      rintro i s h hi ⟨at_, S, T, F⟩ hii hll ⟨f7, f1, f63, -⟩
      obtain ⟨n, hn⟩ : ∃ n, (ordF l)[i]? = some n := ⟨_, List.getElem?_eq_getElem hi⟩
      have htk : (ordF l).take (i + 1) = (ordF l).take i ++ [n] := by rw [List.take_add_one, hn]; rfl
      obtain ⟨hla, hgi, _⟩ := T.inv ordF_ok ((ordF l).drop i) (List.take_append_drop i _).symm
      have hrr : ∀ k, k < l.length → (sp at_ k).1 < 1000 := fun k hk => by
        have := hgi.lt k
        rw [rg_eq (by omega)] at this
        omega
      have e1 := S.oel hi
      have l1 := S.old hn
      have HT := Lib.hid (And.intro S (And.intro T (And.intro F (And.intro hrr (And.intro (List.mem_of_getElem? hn) htk)))))
      clear S T F hgi hrr htk hla hn
      repeat' (first | (simp only [zmPack, zxPack, ne_eq, zfree, owners, Nat.reduceLT, List.contains_cons, List.contains_nil, Nat.reduceBEq, BEq.rfl, chunk, setAt, List.lookup_cons, List.lookup_nil, reduceCtorEq, Nat.reduceEqDiff, reduceIte, implies_true, forall_const, Nat.reduceMul, Nat.reduceSub, Nat.reduceAdd, Nat.reduceLeDiff, e1, l1, *]) | (simp only [zgoO, zgoG, zO_nil, zthen_normal, zgoC]) | (with_reducible apply And.intro) | (with_reducible intro _))
      refine take_z (regs := regs) HT.out.1 HT.out.2.2.2.2.1 HPA.out.2.1 HPA.out.2.2 ka (by omega) HT.out.2.2.2.1 (fun at2 tk => ?_)
      have fin : ∃ at3, ScAt (h.set a (.grow 0 2 (at2.map eS))) p a o g ex l at3 (ordF l) ∧ Takes l (ordF l) regs (at00 l.length) ((ordF l).take (i + 1)) at3 ∧ FrS H (h.set a (.grow 0 2 (at2.map eS))) :=
        ⟨at2, HT.out.1.set tk.len HPA.out.2.1 HPA.out.2.2, by rw [HT.out.2.2.2.2.2]; exact .next HT.out.2.1 tk, HT.out.2.2.1.set HPA.out.1⟩
      have FF := Lib.hid fin
      clear fin tk HT e1 l1
      repeat' (first | (simp only [zmPack, zxPack, ne_eq, zfree, owners, Nat.reduceLT, List.contains_cons, List.contains_nil, Nat.reduceBEq, BEq.rfl, chunk, setAt, List.lookup_cons, List.lookup_nil, reduceCtorEq, Nat.reduceEqDiff, reduceIte, implies_true, forall_const, Nat.reduceMul, Nat.reduceSub, Nat.reduceAdd, Nat.reduceLeDiff, *]) | (simp only [zgoO, zgoG, zO_nil, zthen_normal, zgoC]) | (with_reducible apply And.intro) | (with_reducible intro _))
      all_goals exact FF.out
    · clear HS2 HF2
      rintro s h ⟨at1, S, T, F⟩ ⟨f7', f1', f63, -⟩
      rw [List.take_length] at T
      obtain ⟨hla, hgi, hsl⟩ := T.inv ordF_ok [] (by simp)
      have hb := S.box
      have hol2 := S.olen
      have HT := Lib.hid T
      have HS := Lib.hid S
      have HF := Lib.hid F
      have HG := Lib.hid (And.intro hla (And.intro hgi hsl))
      clear T S F hla hgi hsl f2 f7 f1
      repeat' (first | (simp only [zmPack, zxPack, ne_eq, zfree, owners, Nat.reduceLT, List.contains_cons, List.contains_nil, Nat.reduceBEq, BEq.rfl, chunk, setAt, List.lookup_cons, List.lookup_nil, reduceCtorEq, Nat.reduceEqDiff, reduceIte, implies_true, forall_const, Nat.reduceMul, Nat.reduceSub, Nat.reduceAdd, Nat.reduceLeDiff, hb, hol2, *]) | (simp only [zgoO, zgoG, zO_nil, zthen_normal, zgoC]) | (with_reducible apply And.intro) | (with_reducible intro _))
      clear hb hol2
      refine zW_forK [(7, .ptr p 0), (77, .own o g 0 (ordF l).length false)] (ordF l).length (fun i s h => ∃ at_ sl_, ScAt h p a o g ex l at_ (ordF l) ∧ SlotsR l (ordF l) at1 ((ordF l).take i) at_ sl_ ∧ FrS H h ∧ s 12 = Z64 sl_) (by omega) ⟨rfl, rfl, rfl, rfl, rfl, rfl⟩ rfl rfl (by repeat' (first | exact trivial | (refine ⟨rfl, ?_⟩) | (refine ⟨by simp only [zupd_at, Nat.reduceEqDiff, reduceIte]; assumption, ?_⟩))) rfl rfl (by decide) ⟨_, 0, HS.out, .start, HF.out, rfl⟩ ?_ ?_
      · clear HS HF f7' f1' f63
        rintro i s h hi ⟨at_, sl_, S, T, F, f12⟩ hii hll ⟨f7, f77, -⟩
        obtain ⟨n, hn⟩ : ∃ n, (ordF l)[i]? = some n := ⟨_, List.getElem?_eq_getElem hi⟩
        have htk : (ordF l).take (i + 1) = (ordF l).take i ++ [n] := by rw [List.take_add_one, hn]; rfl
        have hnl := HCC.out.2 n (List.mem_of_getElem? hn)
        have hlo : ∀ k, k ∈ ordF l → k < at1.length := fun k hk => by rw [HG.out.1]; exact HCC.out.2 k hk
        have I := T.inv (fun k hk => HG.out.2.2 k (by rw [← HG.out.1]; exact hk)) (List.Nodup.sublist (List.take_sublist _ _) ordF_ok.nd) hlo (fun k hk => List.mem_of_mem_take hk)
        have hlo2 : ∀ k, k ∈ ordF l → k < at_.length := fun k hk => by rw [I.len]; exact hlo k hk
        have hsb := I.sb
        rw [List.length_take] at hsb
        have e1 := S.oel hi
        have l1 := S.old hn
        have hb := S.box
        have hpl : p < h.length := (List.getElem?_eq_some_iff.1 hb).1
        have e2 := S.ael hnl
        have l2 := S.ald0 hnl
        have hrg := rg_eq (hlo2 n (List.mem_of_getElem? hn))
        have HT := Lib.hid (And.intro S (And.intro T (And.intro F (And.intro I (And.intro htk hlo2)))))
        clear S T F I htk hlo hlo2 hn
        by_cases hc : (sp at_ n).1 < 0
        · have fin0 : ∀ (r : Nat), IsLeast (busyG l (sl at_) (ordF l) n) r → SlotsR l (ordF l) at1 ((ordF l).take (i + 1)) (at_.set n ((sp at_ n).1, (r : Int))) (if sl_ < (r : Int) + 1 then (r : Int) + 1 else sl_) := fun r hr => by
            rw [HT.out.2.2.2.2.1]
            exact .next HT.out.2.1 (.put (by rw [hrg]; exact hc) hr)
          have HF0 := Lib.hid fin0
          have HRG := Lib.hid hrg
          obtain ⟨rn, hrn⟩ : ∃ rn, rn = (sp at_ n).1 := ⟨_, rfl⟩
          rw [← hrn] at l2 hc
          clear fin0 hrg hrn
          repeat' (first | (simp only [zmPack, zxPack, ne_eq, zfree, owners, Nat.reduceLT, List.contains_cons, List.contains_nil, Nat.reduceBEq, BEq.rfl, chunk, setAt, List.lookup_cons, List.lookup_nil, reduceCtorEq, Nat.reduceEqDiff, reduceIte, implies_true, forall_const, Nat.reduceMul, Nat.reduceSub, Nat.reduceAdd, Nat.reduceLeDiff, hb, e1, l1, e2, l2, hc, hpl, *]) | (simp only [zgoO, zgoG, zO_nil, zthen_normal, zgoC]) | (with_reducible apply And.intro) | (with_reducible intro _))
          refine busy_z (pl := Prod.snd) HT.out.1 hnl (fun s Y K k => slot_z k) (by omega) (fun M hM => ?_)
          have hM2 : ∀ x, x ∈ M ↔ busyG l (sl at_) (ordF l) n x := fun x => by
            rw [hM]
            unfold busyG
            constructor
            · rintro ⟨k, h1, h2, h3, h4, h5⟩
              have e := sl_eq (HT.out.2.2.2.2.2 k h1)
              exact ⟨k, h1, h2, by rw [e]; exact h3, h4, by rw [e]; exact h5⟩
            · rintro ⟨k, h1, h2, h3, h4, h5⟩
              have e := sl_eq (HT.out.2.2.2.2.2 k h1)
              rw [e] at h3 h5
              exact ⟨k, h1, h2, h3, h4, h5⟩
          have hlt : ∀ x, x ∈ M → x < 1000 := fun x hx => by
            obtain ⟨k, h1, h2, h3, h4, h5⟩ := (hM2 x).1 hx
            have := HT.out.2.2.2.1.lt k
            omega
          have HM := Lib.hid hM2
          clear hM hM2
          repeat' (first | (simp only [zmPack, zxPack, ne_eq, zfree, owners, Nat.reduceLT, List.contains_cons, List.contains_nil, Nat.reduceBEq, BEq.rfl, chunk, setAt, List.lookup_cons, List.lookup_nil, reduceCtorEq, Nat.reduceEqDiff, reduceIte, implies_true, forall_const, Nat.reduceMul, Nat.reduceSub, Nat.reduceAdd, Nat.reduceLeDiff, *]) | (simp only [zgoO, zgoG, zO_nil, zthen_normal, zgoC]) | (with_reducible apply And.intro) | (with_reducible intro _))
          refine least_z (M := M) (sn_at0 _ _) hlt (fun r hr => ?_)
          have hr2 : IsLeast (busyG l (sl at_) (ordF l) n) r := ⟨fun h => hr.1 ((HM.out _).2 h), fun i hi => (HM.out _).1 (hr.2 i hi)⟩
          have hrb : (r : Int) ≤ 1000 := Classical.byContradiction fun hcc => by
            have := hlt 1000 (hr.2 1000 (by omega))
            omega
          have nx := HF0.out r hr2
          have s1 := fun Y => sc_st2 HT.out.1 ka hnl (v := (r : Int)) Y
          have hla2 : (at_.set n ((sp at_ n).1, (r : Int))).length = at_.length := List.length_set ..
          have S3 := HT.out.1.set hla2 HPA.out.2.1 HPA.out.2.2
          have S4 := fun Y => S3.ext Y
          have hb3 := fun Y => (S4 Y).box
          have e5 := fun Y => (HT.out.1.ext Y).ael hnl
          have e3 := fun Y => (S4 Y).ael hnl
          have l3 := fun Y => (S4 Y).ald1 hnl
          have hnl2 : n < at_.length := by rw [HT.out.1.len]; exact hnl
          simp only [sp_set hnl2, if_true, hla2] at l3 hb3 e3
          have w1 : IntKind.i64.wrap ((r : Int) + 1) = (r : Int) + 1 := IntWalk.i64_in _ (by omega)
          have fin : ∀ Y, ∃ at4 sl4, ScAt (h.set a (.grow 0 2 ((at_.set n ((sp at_ n).1, (r : Int))).map eS)) ++ Y) p a o g ex l at4 (ordF l) ∧ SlotsR l (ordF l) at1 ((ordF l).take (i + 1)) at4 sl4 ∧ FrS H (h.set a (.grow 0 2 ((at_.set n ((sp at_ n).1, (r : Int))).map eS)) ++ Y) ∧ (if sl_ < (r : Int) + 1 then (r : Int) + 1 else sl_) = sl4 :=
            fun Y => ⟨_, _, S4 Y, nx, (HT.out.2.2.1.set HPA.out.1).app Y, rfl⟩
          have FF := Lib.hid fin
          clear fin nx S3 S4 hr hr2 hlt HM HF0 HT
          repeat' (first | (simp only [zmPack, zxPack, ne_eq, zfree, owners, Nat.reduceLT, List.contains_cons, List.contains_nil, Nat.reduceBEq, BEq.rfl, chunk, setAt, List.lookup_cons, List.lookup_nil, reduceCtorEq, Nat.reduceEqDiff, reduceIte, implies_true, forall_const, Nat.reduceMul, Nat.reduceSub, Nat.reduceAdd, Nat.reduceLeDiff, hb, s1, hb3, e3, e5, l3, w1, best_sl, hpl, *]) | (simp only [zgoO, zgoG, zO_nil, zthen_normal, zgoC]) | (with_reducible apply And.intro) | (with_reducible intro _))
          all_goals
            obtain ⟨at4, sl4, k1, k2, k3, k4⟩ := FF.out [ZB.box (List.map ent (rE M))]
            exact ⟨at4, k1, sl4, k2, k3, k4⟩
        · have nx : SlotsR l (ordF l) at1 ((ordF l).take (i + 1)) at_ sl_ := by rw [HT.out.2.2.2.2.1]; exact .next HT.out.2.1 (.skip (by rw [hrg]; omega))
          have HNX := Lib.hid nx
          obtain ⟨rn, hrn⟩ : ∃ rn, rn = (sp at_ n).1 := ⟨_, rfl⟩
          rw [← hrn] at l2 hc
          clear nx hrg hrn
          repeat' (first | (simp only [zmPack, zxPack, ne_eq, zfree, owners, Nat.reduceLT, List.contains_cons, List.contains_nil, Nat.reduceBEq, BEq.rfl, chunk, setAt, List.lookup_cons, List.lookup_nil, reduceCtorEq, Nat.reduceEqDiff, reduceIte, implies_true, forall_const, Nat.reduceMul, Nat.reduceSub, Nat.reduceAdd, Nat.reduceLeDiff, hb, e1, l1, e2, l2, hc, f12, *]) | (simp only [zgoO, zgoG, zO_nil, zthen_normal, zgoC]) | (with_reducible apply And.intro) | (with_reducible intro _))
          all_goals exact ⟨at_, HT.out.1, sl_, HNX.out, HT.out.2.2.1, rfl⟩
      · clear HS HF f7' f1' f63
        rintro s h ⟨at_, sl_, S, T, F, f12⟩ ⟨f7, f77, -⟩
        rw [List.take_length] at T
        have hb := S.box
        have fin : Fin H (.tuple [.own a 0 0 at_.length false, Z64 sl_, Z64 0]) h K := by
          refine Fin.frzT (j := 0) (k := 2) (rows := at_.map eS) rfl S.arr (by simp) (List.all_eq_true.2 fun z hz => ?_) ?_
          · obtain ⟨r, hr, hz⟩ := List.mem_flatten.1 hz
            obtain ⟨x, _, rfl⟩ := List.mem_map.1 hr
            simp only [eS, List.mem_cons, List.not_mem_nil, or_false] at hz
            rcases hz with rfl | rfl <;> rfl
          · rw [List.drop_zero, List.take_of_length_le (by simp)]
            have F2 := F.set (B := .dead) HPA.out.1
            refine Fin.truncT F2.mods rfl ?_
            rw [F2.take]
            exact HK.out at_ sl_ ⟨at1, HT.out, T⟩
        clear S T F
        repeat' (first | (simp only [zmPack, zxPack, ne_eq, zfree, owners, Nat.reduceLT, List.contains_cons, List.contains_nil, Nat.reduceBEq, BEq.rfl, chunk, setAt, List.lookup_cons, List.lookup_nil, reduceCtorEq, Nat.reduceEqDiff, reduceIte, implies_true, forall_const, Nat.reduceMul, Nat.reduceSub, Nat.reduceAdd, Nat.reduceLeDiff, hb, f12, *]) | (simp only [zgoO, zgoG, zO_nil, zthen_normal, zgoC]) | (with_reducible apply And.intro) | (with_reducible intro _))
end Go.Proofs.Ytoeppobpnhlebaa
