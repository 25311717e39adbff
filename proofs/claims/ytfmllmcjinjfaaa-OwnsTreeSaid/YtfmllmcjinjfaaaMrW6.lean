/-
  Known calls: slices.Sort of whole numbers (the library's contract), owns.sizes, and closed facts.
-/
import Derived.IntWalk
import Derived.KernelRfl
import Derived.Shelf.Slices.In.SortNone
import Derived.Shelf.Sort.Plain
import Derived.Test.YtfmllmcjinjfaaaMrW4
import Derived.Test.YtfmllmcjinjfaaaMrW5
namespace Go.Proofs.Ytfmllmcjinjfaaa
open Go Go.RowKit Go.Shelf Go.Sort
set_option linter.unusedVariables false
set_option linter.unusedSimpArgs false
def Try.lays189_ren : Go.Shelf.Ren := ⟨fun | 189 => 46 | 125 => 54 | 257 => 53 | 128 => 66 | 129 => 67 | 294 => 57 | 295 => 58 | 296 => 59 | 297 => 60 | 298 => 61 | 299 => 62 | 216 => 63 | 300 => 64 | 301 => 65 | 328 => 68 | 329 => 69 | 330 => 70 | 331 => 71 | 332 => 72 | 215 => 73 | 343 => 74 | n => n, fun | 28 => 23 | 3 => 3 | 46 => 74 | 0 => 0 | 51 => 80 | 53 => 83 | 4 => 4 | 183 => 88 | 182 => 87 | 131 => 92 | 5 => 5 | 9 => 9 | 218 => 96 | 222 => 100 | 228 => 102 | 229 => 103 | n => n, fun | n => n⟩
theorem Try.lays189 : Go.Proofs.Lays.n189 Try.prog Try.lays189_ren := {
  mixed := by kernel_rfl
  f125 := Try.func54.trans (congrArg some (by kernel_rfl))
  f128 := Try.func66.trans (congrArg some (by kernel_rfl))
  f129 := Try.func67.trans (congrArg some (by kernel_rfl))
  f189 := Try.func46.trans (congrArg some (by kernel_rfl))
  f215 := Try.func73.trans (congrArg some (by kernel_rfl))
  f216 := Try.func63.trans (congrArg some (by kernel_rfl))
  f257 := Try.func53.trans (congrArg some (by kernel_rfl))
  f294 := Try.func57.trans (congrArg some (by kernel_rfl))
  f295 := Try.func58.trans (congrArg some (by kernel_rfl))
  f296 := Try.func59.trans (congrArg some (by kernel_rfl))
  f297 := Try.func60.trans (congrArg some (by kernel_rfl))
  f298 := Try.func61.trans (congrArg some (by kernel_rfl))
  f299 := Try.func62.trans (congrArg some (by kernel_rfl))
  f300 := Try.func64.trans (congrArg some (by kernel_rfl))
  f301 := Try.func65.trans (congrArg some (by kernel_rfl))
  f328 := Try.func68.trans (congrArg some (by kernel_rfl))
  f329 := Try.func69.trans (congrArg some (by kernel_rfl))
  f330 := Try.func70.trans (congrArg some (by kernel_rfl))
  f331 := Try.func71.trans (congrArg some (by kernel_rfl))
  f332 := Try.func72.trans (congrArg some (by kernel_rfl))
  f343 := Try.func74.trans (congrArg some (by kernel_rfl))
  t0 := Try.underlying0
  a0 := Try.isAgg0
  z0 := Try.sizeOf0
  v0 := Try.zeroValue0
  t3 := Try.underlying3
  a3 := Try.isAgg3
  z3 := Try.sizeOf3
  v3 := Try.zeroValue3
  t4 := Try.underlying4
  a4 := Try.isAgg4
  z4 := Try.sizeOf4
  v4 := Try.zeroValue4
  t5 := Try.underlying5
  a5 := Try.isAgg5
  z5 := Try.sizeOf5
  v5 := Try.zeroValue5
  t9 := Try.underlying9
  a9 := Try.isAgg9
  z9 := Try.sizeOf9
  v9 := Try.zeroValue9
  t28 := Try.underlying23
  a28 := Try.isAgg23
  z28 := Try.sizeOf23
  v28 := Try.zeroValue23
  t46 := Try.underlying74
  a46 := Try.isAgg74
  z46 := Try.sizeOf74
  v46 := Try.zeroValue74
  t51 := Try.underlying80
  a51 := Try.isAgg80
  z51 := Try.sizeOf80
  v51 := Try.zeroValue80
  t53 := Try.underlying83
  a53 := Try.isAgg83
  z53 := Try.sizeOf83
  v53 := Try.zeroValue83
  t131 := Try.underlying92
  a131 := Try.isAgg92
  z131 := Try.sizeOf92
  v131 := Try.zeroValue92
  t182 := Try.underlying87
  a182 := Try.isAgg87
  z182 := Try.sizeOf87
  v182 := Try.zeroValue87
  t183 := Try.underlying88
  a183 := Try.isAgg88
  z183 := Try.sizeOf88
  v183 := Try.zeroValue88
  t218 := Try.underlying96
  a218 := Try.isAgg96
  z218 := Try.sizeOf96
  v218 := Try.zeroValue96
  t222 := Try.underlying100
  a222 := Try.isAgg100
  z222 := Try.sizeOf100
  v222 := Try.zeroValue100
  t228 := Try.underlying102
  a228 := Try.isAgg102
  z228 := Try.sizeOf102
  v228 := Try.zeroValue102
  t229 := Try.underlying103
  a229 := Try.isAgg103
  z229 := Try.sizeOf103
  v229 := Try.zeroValue103 }
def srt (l : List Int) : List Int := l.mergeSort fun x y => decide (x ≤ y)
theorem srt_len (l : List Int) : (srt l).length = l.length := by simp [srt]
def sortA (fl : Nat → Bool) (h : Heap) (a : AV) : Option (AV × Heap) := match rowOf h 1 a with
  | some (n, cs) => match intsA cs with
    | some zs => if n < 4611686018427387904 then (match a with
      | .slice id off len lb ex k => if len = 0 then some (.no, h) else if k = 1 then (match wr fl h id off ((srt zs).map fun k => AV.val (.int .i64 k)) with
        | some h' => some (.no, h')
        | none => none) else none
      | _ => some (.no, h)) else none
    | none => none
  | none => none
abbrev SORT : Option FuncId := some 46
abbrev SIZES : Option FuncId := some 24
abbrev NoK (f : FuncId) : Prop := SORT ≠ some f ∧ SIZES ≠ some f
def sortK (f : FuncId) (a : AV) (fl : Nat → Bool) (h : Heap) : Option (AV × Heap) := if SORT = some f then sortA fl h a else if SIZES = some f then sizesA fl h a else none
theorem sortK_none {f : FuncId} (hf : NoK f) {a : AV} {fl : Nat → Bool} {h : Heap} : sortK f a fl h = none := by unfold sortK; rw [if_neg hf.1, if_neg hf.2]
theorem sort_none (p : Option Addr) (cap : Nat) (w : World) : Calls Try.prog 46 #[.slice p 0 cap] w fun e w' => e = .returned (.tuple #[]) ∧ w' = w := Any.slices_Sort_int_none Try.lays189 p cap w
theorem sort_some (blk off cap : Nat) (zs : List Int) (w : World) (hH : Holds (Value.int .i64) w blk off zs.toArray) (hblk : blk < w.heap.size) (hsz : zs.length < 4611686018427387904) :
    Calls Try.prog 46 #[.slice (some ⟨blk, off, none⟩) zs.length cap] w fun e w' =>
      e = .returned (.tuple #[]) ∧ ∃ n os, w' = grow (putRow (Value.int .i64) (Sort.ahead w n) blk off (srt zs).toArray) os := Any.slices_Sort_int Try.lays189 blk off cap zs w hH hblk hsz
theorem if_neg_map {α : Type} {p : Prop} [Decidable p] {f : α} {a : Option α} (h : ¬ p) : (a.map fun x => if p then f else x) = a := by
  simp [h]
theorem sortA_ok {n0 B0 : Nat} {m : Map} {fl : Nat → Bool} {h h' : Heap} {w : World} {a v : AV} {x : Value} (r : Rels n0 B0 m h w) (hfl : ∀ id, fl id = true → n0 ≤ id) (ha : VR m a x) (he : sortA fl h a = some (v, h')) :
    Calls Try.prog 46 #[x] w fun e w' => ∃ v' m', e = .returned v' ∧ Post n0 B0 fl m h w m' h' w' ∧ VR m' v v' := by
  have none0 : ∀ p c, v = .no → h' = h → Calls Try.prog 46 #[.slice p 0 c] w fun e w' => ∃ v' m', e = .returned v' ∧ Post n0 B0 fl m h w m' h' w' ∧ VR m' v v' := fun p c e1 e2 => by
    subst e1; subst e2
    refine (sort_none p c w).mono fun e w' hp => ?_
    obtain ⟨rfl, rfl⟩ := hp
    exact ⟨_, m, rfl, Post.refl r, VRs.no⟩
  unfold sortA at he
  split at he
  · rename_i n cs hrow
    split at he
    · rename_i zs hzs
      split at he
      · rename_i hn
        cases a with
        | slice id off len lb ex k =>
          simp only at he
          cases ha with
          | @slice _ _ _ _ _ _ b o c hb ho h1 h2 h3 h4 =>
          by_cases hl0 : len = 0
          · subst hl0
            rw [if_pos rfl] at he
            injection he with he; injection he with e1 e2
            exact none0 _ _ e1.symm e2.symm
          · rw [if_neg hl0] at he
            split at he
            · rename_i hk
              subst hk
              split at he
              · rename_i h2' hw
                injection he with he; injection he with e1 e2; subst e1; subst e2
                have := ho (by omega)
                subst this
                simp only [rowOf, Nat.mul_one] at hrow
                split at hrow
                · rename_i cs' hrd
                  injection hrow with hrow; injection hrow with e1 e2; subst e1; subst e2
                  have hcs := intsA_spec hzs
                  unfold rd at hrd
                  unfold wr at hw
                  split at hrd
                  · rename_i l hl
                    rw [hl] at hw
                    split at hrd
                    · rename_i hle
                      injection hrd with hrd
                      have hlen : zs.length = len := by
                        have := congrArg List.length hcs
                        rw [← hrd] at this
                        simp at this; omega
                      simp only at hw
                      split at hw
                      · rename_i hcond
                        injection hw with hw
                        obtain ⟨hid, hfit⟩ := hcond
                        obtain ⟨g1, g2, arr0, et, g3, g4⟩ := r.rel.own id l b (hfl id hid) hl hb
                        have hat : ∀ j, j < len → l[o + j]? = some (.val (.int .i64 zs[j]!)) := fun j hj => by
                          have : ((l.drop o).take len)[j]? = some (.val (.int .i64 zs[j]!)) := by
                            rw [hrd, hcs, List.getElem?_map, List.getElem?_eq_getElem (by omega)]
                            simp [List.getElem!_eq_getElem?_getD, List.getElem?_eq_getElem (show j < zs.length by omega)]
                          rw [List.getElem?_take, if_pos hj, List.getElem?_drop] at this
                          exact this
                        have hH : Holds (Value.int .i64) w b.b (b.off + o) zs.toArray := fun j hj => by
                          have hj : j < len := by simpa [hlen] using hj
                          obtain ⟨v', q1, q2⟩ := r.rel.cell id l b hl hb (o + j) _ (hat j hj)
                          rw [q2.lit, ← Nat.add_assoc] at q1
                          refine ⟨by rw [q1]; simp, ?_⟩
                          simp [World.frozen?, g3]
                        have hblk := r.rel.lt id b hb.1
                        rw [← hlen]
                        refine (sort_some b.b (b.off + o) c zs w hH hblk (by omega)).mono fun e w' hp => ?_
                        obtain ⟨rfl, n, os, hw'⟩ := hp
                        have hsl := srt_len zs
                        obtain ⟨arr, harr⟩ : ∃ arr, arr = putCells (Value.int .i64) (b.off + o) (srt zs).toArray arr0 := ⟨_, rfl⟩
                        have hasz : arr.size = arr0.size := by rw [harr]; simp [putCells]
                        have hag : ∀ i, arr[i]? = (arr0[i]?).map fun x => if b.off + o ≤ i ∧ i < b.off + o + (srt zs).length then .int .i64 (srt zs).toArray[i - (b.off + o)]! else x := fun i => by
                          rw [harr]; simp [putCells, Array.getElem?_mapIdx]
                        obtain ⟨ss, hss⟩ : ∃ ss, ss = (srt zs).map fun k => AV.val (.int .i64 k) := ⟨_, rfl⟩
                        have hsl2 : ss.length = len := by rw [hss]; simp [hsl, hlen]
                        rw [← hss] at hw hfit
                        have p1 := post_write r hfl hid hl hb g3 (l.take o ++ ss ++ l.drop (o + ss.length)) (fun x hx => by
                          simp only [List.mem_append] at hx
                          rcases hx with (hx | hx) | hx
                          · exact r.rel.one id l b hl hb x (List.mem_of_mem_take hx)
                          · rw [hss] at hx; obtain ⟨k, _, rfl⟩ := List.mem_map.1 hx; rfl
                          · exact r.rel.one id l b hl hb x (List.mem_of_mem_drop hx)) (by simp; omega) arr hasz (fun i x hx => by
                          by_cases hi : o ≤ i ∧ i < o + len
                          · have hx1 : ss[i - o]? = some x := by
                              rw [List.getElem?_append_left (by simp; omega), List.getElem?_append_right (by simp; omega)] at hx
                              rw [show i - (l.take o).length = i - o by simp; omega] at hx
                              exact hx
                            rw [hss, List.getElem?_map, List.getElem?_eq_getElem (by rw [hsl]; omega)] at hx1
                            injection hx1 with hx1
                            refine ⟨_, by rw [hag, Array.getElem?_eq_getElem (show b.off + i < arr0.size by omega), Option.map_some, if_pos (by omega)], ?_⟩
                            rw [show b.off + i - (b.off + o) = i - o by omega, getElem!_pos _ _ (by simp; omega)]
                            rw [← hx1]; simp; exact .val rfl
                          · have hx1 : l[i]? = some x := by
                              by_cases hio : i < o
                              · rw [List.getElem?_append_left (by simp; omega), List.getElem?_append_left (by simp; omega), List.getElem?_take, if_pos hio] at hx
                                exact hx
                              · rw [List.getElem?_append_right (by simp; omega), List.getElem?_drop] at hx
                                rw [show o + ss.length + (i - (l.take o ++ ss).length) = i by simp; omega] at hx
                                exact hx
                            obtain ⟨v', q1, q2⟩ := r.rel.cell id l b hl hb i _ hx1
                            simp only [World.cell?, g3] at q1
                            refine ⟨v', ?_, q2⟩
                            rw [hag, if_neg_map (by omega)]
                            simpa using q1) (w.setRow b.b arr) rfl
                        have hhe : (w.setRow b.b arr).heap = (putRow (Value.int .i64) (Sort.ahead w n) b.b (b.off + o) (srt zs).toArray).heap := by
                          apply Array.ext_getElem?
                          intro k
                          simp only [World.setRow, putRow, mapBlock, Sort.ahead, Array.getElem?_modify]
                          by_cases hk : b.b = k
                          · subst hk
                            rw [g3, harr]; rfl
                          · simp [hk]
                        have hbel : Below (w.setRow b.b arr).heap.size (w.setRow b.b arr) w' := by
                          rw [hw']
                          refine ⟨rfl, rfl, rfl, ?_, fun k hk => ?_⟩
                          · rw [hhe]; simp [grow]
                          · show ((putRow (Value.int .i64) (Sort.ahead w n) b.b (b.off + o) (srt zs).toArray).heap ++ os)[k]? = _
                            rw [hhe] at hk ⊢
                            rw [Array.getElem?_append_left hk]
                        rw [← hw]
                        exact ⟨_, m, rfl, Post.trans r.dom p1 (Post.below p1.rels hbel), VRs.no⟩
                      · cases hw
                    · cases hrd
                  · cases hrd
                · cases hrow
              · cases he
            · cases he
        | val y =>
          have hy : y = .slice none 0 0 := by
            unfold rowOf at hrow
            split at hrow <;> simp_all
          subst hy
          have hx := ha.lit
          subst hx
          injection he with he; injection he with e1 e2
          exact none0 _ _ e1.symm e2.symm
        | hole =>
          cases ha with
          | hole =>
          injection he with he; injection he with e1 e2
          exact none0 _ _ e1.symm e2.symm
        | _ => simp [rowOf] at hrow
      · cases he
    · cases he
  · cases he
theorem sortK_ok {f : FuncId} {a v : AV} {fl : Nat → Bool} {h h' : Heap} (he : sortK f a fl h = some (v, h')) : (∃ fn c, (Try.prog).funcs[f]? = some fn ∧ (fn.name == "runtime.NumGoroutine") = false ∧ fn.body = some c) ∧
    ∀ n0 B0 m w (vals : Array Value), Rels n0 B0 m h w → (∀ id, fl id = true → n0 ≤ id) → VRs m [a] vals.toList →
      Calls Try.prog f vals w fun e w' => ∃ v' m', e = .returned v' ∧ Post n0 B0 fl m h w m' h' w' ∧ VR m' v v' := by
  unfold sortK at he
  split at he
  · rename_i hf
    injection hf with hf; subst hf
    have hb : (Try.f46.body).isSome = true := by kernel_rfl
    obtain ⟨c, hc'⟩ := Option.isSome_iff_exists.1 hb
    refine ⟨⟨Try.f46, c, Try.func46, by kernel_rfl, hc'⟩, fun n0 B0 m w vals r hfl hv => ?_⟩
    obtain ⟨x, hx, hvx⟩ := hv.get (i := 0) rfl
    have e1 : vals = #[x] := by
      have h1 := hv.1
      match hl : vals.toList, h1, hx with
      | [y], _, hx => simp at hx; subst hx; apply Array.ext'; simpa using hl
    subst e1
    exact sortA_ok r hfl hvx he
  · split at he
    · rename_i hf
      injection hf with hf; subst hf
      have hb : (Try.f24.body).isSome = true := by kernel_rfl
      obtain ⟨c, hc'⟩ := Option.isSome_iff_exists.1 hb
      refine ⟨⟨Try.f24, c, Try.func24, by kernel_rfl, hc'⟩, fun n0 B0 m w vals r hfl hv => ?_⟩
      obtain ⟨x, hx, hvx⟩ := hv.get (i := 0) rfl
      have e1 : vals = #[x] := by
        have h1 := hv.1
        match hl : vals.toList, h1, hx with
        | [y], _, hx => simp at hx; subst hx; apply Array.ext'; simpa using hl
      subst e1
      exact sizesA_ok r hfl hvx he
    · cases he
def constX (l : List (FuncId × Bool)) : CallT := fun f args fl h => match args with
  | [] => match l.lookup f with
    | some b => some (.val (.bool b), h)
    | none => none
  | [a] => sortK f a fl h
  | _ => none
def isRet (o : Option (AV × Heap)) (b : Bool) : Bool := match o with
  | some (.val (.bool c), _) => c == b
  | _ => false
theorem constX_ok (hmix : (Try.prog).follows .mixedOrders = true) {F : FuncId → Option AFunc} (hF : ∀ f af, F f = some af → cFunc Try.prog f = some af) {n : Nat} (l : List (FuncId × Bool))
    (hl : ∀ p ∈ l, isRet (call noX F n p.1 [] (fun i => decide (([] : Heap).length ≤ i)) []) p.2 = true) : CallOk Try.prog (constX l) := by
  intro f args fl h v h' he
  unfold constX at he
  split at he
  · split at he
    · rename_i b hb
      injection he with he; injection he with e1 e2; subst e1; subst e2
      have hmem : (f, b) ∈ l := by
        clear hl
        induction l with
        | nil => simp at hb
        | cons p l ih =>
          obtain ⟨g, c⟩ := p
          rw [List.lookup_cons] at hb
          split at hb
          · rename_i hgf
            injection hb with hb
            simp at hgf
            simp [hgf, hb]
          · exact List.mem_cons_of_mem _ (ih hb)
      have hr := hl _ hmem
      unfold isRet at hr
      split at hr
      · rename_i c h2 hc
        have hcb : c = b := by simpa using hr
        subst hcb
        have hok := call_ok hmix (noX_ok (P := Try.prog)) hF n _ _ _ _ _ _ hc
        refine ⟨hok.1, fun n0 B0 m w vals r hfl hv => ?_⟩
        have hvals : vals = #[] := by
          have := hv.1
          simp at this
          exact Array.eq_empty_of_size_eq_zero this.symm
        subst hvals
        have r0 : Rels ([] : Heap).length w.heap.size (fun _ => none) [] w := rels_nil w
        refine (am_calls hmix (noX_ok (P := Try.prog)) hF hc r0 VRs.nil).mono fun e W' hp => ?_
        obtain ⟨v', m', rfl, hv', hbl⟩ := hp
        exact ⟨_, m, rfl, Post.below r hbl, by rw [hv'.lit]; exact .val rfl⟩
      · cases hr
    · cases he
  · exact sortK_ok he
  · cases he
end Go.Proofs.Ytfmllmcjinjfaaa

namespace Go.Proofs.Ytfmllmcjinjfaaa
open Go Go.RowKit
set_option linter.unusedVariables false
set_option linter.unusedSimpArgs false

/-! ### More calls, more time: the same -/
theorem runOps_mono {C C' : CallT} (hC : ∀ f args fl h r, C f args fl h = some r → C' f args fl h = some r) {base : Nat} {fl : Nat → Bool} : ∀ (l : List AOper) (d : Seen) (s : Slots) (h : Heap) r, runOps C base fl d l s h = some r → runOps C' base fl d l s h = some r
  | [], d, s, h, r, he => he
  | o :: l, d, s, h, r, he => by
    simp only [runOps] at he ⊢
    split at he
    · split at he
      · rename_i v h1 hr
        have : runOp C' base fl d (forbs fl d o l s h) o s h = some (v, h1) := by
          unfold runOp at hr ⊢
          split at hr
          · rename_i f args heq
            split at hr
            · rename_i g caps hg
              exact hC _ _ _ _ _ hr
            · cases hr
          · exact hr
        rw [this]
        exact runOps_mono hC l _ _ _ _ he
      · cases he
    · exact runOps_mono hC l _ _ _ _ he
    · cases he

theorem iter_mono {f f' : Slots → Heap → Out} (hf : ∀ s h r, f s h = some r → f' s h = some r) : ∀ (n n' : Nat) s h r, n ≤ n' → iter f n s h = some r → iter f' n' s h = some r
  | 0, _, s, h, r, _, he => by simp [iter] at he
  | n + 1, 0, s, h, r, hn, _ => absurd hn (by omega)
  | n + 1, n' + 1, s, h, r, hn, he => by
    simp only [iter] at he ⊢
    split at he
    · rename_i s1 h1 h1'
      rw [hf _ _ _ h1']
      exact iter_mono hf n n' s1 h1 r (by omega) he
    · rename_i hne
      rw [hf _ _ _ he]
      obtain ⟨x, s', h'⟩ := r
      cases x with
      | normal => exact absurd he (hne s' h')
      | exit id => rfl
      | ret => rfl

theorem rngS_mono {f f' : Slots → Heap → Out} (hf : ∀ s h r, f s h = some r → f' s h = some r) {it i0 nx more out nb : Nat} : ∀ (l : List (Nat × Nat)) s h r, rngS f it i0 nx more out nb l s h = some r → rngS f' it i0 nx more out nb l s h = some r
  | [], s, h, r, he => he
  | (p, c) :: l, s, h, r, he => by
    simp only [rngS] at he ⊢
    split at he
    · rename_i hi
      rw [if_pos hi]
      split at he
      · rename_i s1 h1 h1'
        rw [hf _ _ _ h1']
        exact rngS_mono hf l _ _ _ he
      · rename_i j s1 h1 h1'
        rw [hf _ _ _ h1']
        simp only
        split at he
        · rename_i hj; rw [if_pos hj]; exact rngS_mono hf l _ _ _ he
        · rename_i hj; rw [if_neg hj]; exact he
      · rename_i h1 h2
        rw [hf _ _ _ he]
        obtain ⟨x, s', h'⟩ := r
        cases x with
        | normal => exact absurd he (h1 s' h')
        | exit id => exact absurd he (h2 id s' h')
        | ret => rfl
    · cases he

theorem exec_mono {C C' : CallT} (hC : ∀ f args fl h r, C f args fl h = some r → C' f args fl h = some r) {n n' : Nat} (hn : n ≤ n') {fl : Nat → Bool} : ∀ (c : ACode) (s : Slots) (h : Heap) r, exec C n fl c s h = some r → exec C' n' fl c s h = some r := by
  intro c
  induction c with
  | skip => intro s h r he; exact he
  | ops l =>
    intro s h r he
    simp only [exec] at he ⊢
    split at he
    · rename_i s1 h1 h1'
      rw [runOps_mono hC _ _ _ _ _ h1']; exact he
    · cases he
  | opsD l =>
    intro s h r he
    simp only [exec] at he ⊢
    split at he
    · rename_i s1 h1 h1'
      rw [runOps_mono hC _ _ _ _ _ h1']; exact he
    · cases he
  | rng isMap src it nx more pair out nb pre asg body ih =>
    intro s h r he
    simp only [exec] at he ⊢
    split at he
    · rename_i s1 h1 h1'
      rw [runOps_mono hC _ _ _ _ _ h1']
      simp only
      split at he
      · rename_i hM
        rw [if_pos hM]; exact he
      · rename_i hM
        rw [if_neg hM]
        split at he
        · rename_i t ht
          refine rngS_mono (fun s h r he => ?_) _ _ _ _ he
          split at he
          · rename_i s2 h2 h2'
            rw [runOps_mono hC _ _ _ _ _ h2']
            exact ih _ _ _ he
          · cases he
        · cases he
    · cases he
  | seq a b iha ihb =>
    intro s h r he
    simp only [exec] at he ⊢
    split at he
    · rename_i s1 h1 h1'
      rw [iha _ _ _ h1']
      exact ihb _ _ _ he
    · rename_i hne
      rw [iha _ _ _ he]
      obtain ⟨x, s', h'⟩ := r
      cases x with
      | normal => exact absurd he (hne s' h')
      | exit id => rfl
      | ret => rfl
  | cond c a b iha ihb =>
    intro s h r he
    simp only [exec] at he ⊢
    split at he
    · rename_i t ht
      split at he
      · rename_i h1; rw [if_pos h1]; exact iha _ _ _ he
      · rename_i h1; rw [if_neg h1]; exact ihb _ _ _ he
    · cases he
  | block id a iha =>
    intro s h r he
    simp only [exec] at he ⊢
    split at he
    · rename_i j s1 h1 h1'
      rw [iha _ _ _ h1']; exact he
    · rename_i hne
      rw [iha _ _ _ he]
      obtain ⟨x, s', h'⟩ := r
      cases x with
      | normal => rfl
      | exit j => exact absurd he (hne j s' h')
      | ret => rfl
  | loop a iha =>
    intro s h r he
    simp only [exec] at he ⊢
    exact iter_mono (fun s h r => iha s h r) n n' s h r hn he
  | exit id => intro s h r he; exact he
  | scope a iha => intro s h r he; exact iha s h r he
  | ret => intro s h r he; exact he
  | bad => intro s h r he; exact he

theorem call_mono1 {X : CallT} {F : FuncId → Option AFunc} : ∀ (n : Nat) f args fl h r, call X F n f args fl h = some r → call X F (n + 1) f args fl h = some r
  | 0, f, args, fl, h, r, he => by
    simp only [call] at he ⊢
    rw [he]
  | n + 1, f, args, fl, h, r, he => by
    rw [call] at he ⊢
    split at he
    · exact he
    · split at he
      · split at he
        · rename_i hl
          split at he
          · rename_i s' h' hx
            rw [if_pos hl, exec_mono (call_mono1 n) (Nat.le_succ n) _ _ _ _ hx]; exact he
          · rename_i s' h' hx
            rw [if_pos hl, exec_mono (call_mono1 n) (Nat.le_succ n) _ _ _ _ hx]; exact he
          · cases he
        · cases he
      · cases he
theorem call_mono {X : CallT} {F : FuncId → Option AFunc} {n n' : Nat} (h : n ≤ n') : ∀ f args fl hp r, call X F n f args fl hp = some r → call X F n' f args fl hp = some r := by
  induction h with
  | refl => exact fun _ _ _ _ _ h => h
  | step _ ih => exact fun f args fl hp r he => call_mono1 _ _ _ _ _ _ (ih f args fl hp r he)

/-! ### Statements about runs -/
section
variable (X : CallT) (F : FuncId → Option AFunc)

def AC0 (f : FuncId) (args : List AV) (fl : Nat → Bool) (h : Heap) (K : AV → Heap → Prop) : Prop := ∃ n v h', call X F n f args fl h = some (v, h') ∧ K v h'
def AW0 (fl : Nat → Bool) (c : ACode) (s : Slots) (h : Heap) (K : AExit → Slots → Heap → Prop) : Prop := ∃ n x s' h', exec (call X F n) n fl c s h = some (x, s', h') ∧ K x s' h'
def AO0 (base : Nat) (fl : Nat → Bool) (d : Seen) (l : List AOper) (s : Slots) (h : Heap) (K : Slots → Heap → Prop) : Prop := ∃ n s' h', runOps (call X F n) base fl d l s h = some (s', h') ∧ K s' h'
def A10 (top : Option (Nat × Option (List Nat))) (fl : Nat → Bool) (o : AOp) (s : Slots) (h : Heap) (K : AV → Heap → Prop) : Prop := match o with
  | .call f args => ∃ g vs, callee (f.ev s) (args.map (·.ev s)) = some (g, vs) ∧ AC0 X F g vs fl h K
  | o => ∃ v h', opEval top fl s h o = some (v, h') ∧ K v h'
end
variable {X : CallT} {F : FuncId → Option AFunc} {fl : Nat → Bool} {s : Slots} {h : Heap}

theorem AC0.mono {f : FuncId} {args : List AV} {K K' : AV → Heap → Prop} (hc : AC0 X F f args fl h K) (hk : ∀ v h', K v h' → K' v h') : AC0 X F f args fl h K' :=
  let ⟨n, v, h', e, k⟩ := hc; ⟨n, v, h', e, hk v h' k⟩
theorem AW0.mono {c : ACode} {K K' : AExit → Slots → Heap → Prop} (hc : AW0 X F fl c s h K) (hk : ∀ x s' h', K x s' h' → K' x s' h') : AW0 X F fl c s h K' :=
  let ⟨n, x, s', h', e, k⟩ := hc; ⟨n, x, s', h', e, hk x s' h' k⟩

theorem AC0.enter {f : FuncId} {af : AFunc} {args : List AV} {K : AV → Heap → Prop} (hx : X f args fl h = none) (hf : F f = some af) (hl : args.length ≤ af.n)
    (hb : AW0 X F fl af.body (fun t => args.getD t .no) h fun x s' h' => (x = .normal ∨ x = .ret) ∧ ∃ v, resultsA af.results s' h' = some v ∧ K v h') : AC0 X F f args fl h K := by
  obtain ⟨n, x, s', h', e, hxx, v, hr, k⟩ := hb
  refine ⟨n + 1, v, h', ?_, k⟩
  simp only [call, hx, hf, hl, if_true, e]
  rcases hxx with rfl | rfl <;> simp [hr]
theorem AC0.const {f : FuncId} {args : List AV} {K : AV → Heap → Prop} {v : AV} {h' : Heap} (hx : X f args fl h = some (v, h')) (k : K v h') : AC0 X F f args fl h K := ⟨0, v, h', hx, k⟩

section
variable {K : AExit → Slots → Heap → Prop}
theorem AW_skip0 : AW0 X F fl .skip s h K ↔ K .normal s h := ⟨fun ⟨n, x, s', h', e, k⟩ => by simp only [exec, Option.some.injEq, Prod.mk.injEq] at e; obtain ⟨rfl, rfl, rfl⟩ := e; exact k, fun k => ⟨0, _, _, _, rfl, k⟩⟩
theorem AW_exit0 {id : Nat} : AW0 X F fl (.exit id) s h K ↔ K (.exit id) s h := ⟨fun ⟨n, x, s', h', e, k⟩ => by simp only [exec, Option.some.injEq, Prod.mk.injEq] at e; obtain ⟨rfl, rfl, rfl⟩ := e; exact k, fun k => ⟨0, _, _, _, rfl, k⟩⟩
theorem AW_ret0 : AW0 X F fl .ret s h K ↔ K .ret s h := ⟨fun ⟨n, x, s', h', e, k⟩ => by simp only [exec, Option.some.injEq, Prod.mk.injEq] at e; obtain ⟨rfl, rfl, rfl⟩ := e; exact k, fun k => ⟨0, _, _, _, rfl, k⟩⟩
theorem AW_scope0 {c : ACode} : AW0 X F fl (.scope c) s h K ↔ AW0 X F fl c s h K := Iff.rfl
theorem AW_ops0 {l : List AOper} : AW0 X F fl (.ops l) s h K ↔ AO0 X F h.length fl ⟨[], none⟩ l s h (K .normal) := by
  constructor
  · rintro ⟨n, x, s', h', e, k⟩
    simp only [exec] at e
    split at e
    · rename_i s1 h1 h1'
      simp only [Option.some.injEq, Prod.mk.injEq] at e
      obtain ⟨rfl, rfl, rfl⟩ := e
      exact ⟨n, _, _, h1', k⟩
    · cases e
  · rintro ⟨n, s', h', e, k⟩
    exact ⟨n, .normal, s', h', by simp only [exec, e], k⟩
theorem then_normal {k1 : Slots → Heap → Prop} : AExit.then k1 K .normal s h = k1 s h := rfl
theorem then_exit {k1 : Slots → Heap → Prop} {id : Nat} : AExit.then k1 K (.exit id) s h = K (.exit id) s h := rfl
theorem then_ret {k1 : Slots → Heap → Prop} : AExit.then k1 K .ret s h = K .ret s h := rfl
theorem inBlk_normal {id : Nat} : AExit.inBlk id K .normal s h = K .normal s h := rfl
theorem inBlk_exit {id j : Nat} : AExit.inBlk id K (.exit j) s h = if j = id then K .normal s h else K (.exit j) s h := rfl
theorem inBlk_ret {id : Nat} : AExit.inBlk id K .ret s h = K .ret s h := rfl

theorem AW_seq0 {a b : ACode} : AW0 X F fl (.seq a b) s h K ↔ AW0 X F fl a s h (AExit.then (fun s h => AW0 X F fl b s h K) K) := by
  constructor
  · rintro ⟨n, x, s', h', e, k⟩
    simp only [exec] at e
    split at e
    · rename_i s1 h1 h1'
      exact ⟨n, .normal, s1, h1, h1', n, x, s', h', e, k⟩
    · rename_i hne
      refine ⟨n, x, s', h', e, ?_⟩
      cases x with
      | normal => exact absurd e (hne s' h')
      | exit id => exact k
      | ret => exact k
  · rintro ⟨n, x, s1, h1, e, k⟩
    cases x with
    | normal =>
      obtain ⟨n2, x, s', h', e2, k⟩ := k
      refine ⟨max n n2, x, s', h', ?_, k⟩
      simp only [exec]
      rw [exec_mono (call_mono (Nat.le_max_left n n2)) (Nat.le_max_left n n2) _ _ _ _ e]
      exact exec_mono (call_mono (Nat.le_max_right n n2)) (Nat.le_max_right n n2) _ _ _ _ e2
    | exit id => exact ⟨n, .exit id, s1, h1, by simp only [exec, e], k⟩
    | ret => exact ⟨n, .ret, s1, h1, by simp only [exec, e], k⟩
theorem AW_cond0 {c : Opd} {a b : ACode} : AW0 X F fl (.cond c a b) s h K ↔ ∃ t, c.ev s = .val (.bool t) ∧ (t = true → AW0 X F fl a s h K) ∧ (t = false → AW0 X F fl b s h K) := by
  constructor
  · rintro ⟨n, x, s', h', e, k⟩
    simp only [exec] at e
    split at e
    · rename_i t ht
      refine ⟨t, ht, fun h1 => ?_, fun h1 => ?_⟩
      · subst h1; exact ⟨n, x, s', h', by simpa using e, k⟩
      · subst h1; exact ⟨n, x, s', h', by simpa using e, k⟩
    · cases e
  · rintro ⟨t, ht, h1, h2⟩
    cases t with
    | true =>
      obtain ⟨n, x, s', h', e, k⟩ := h1 rfl
      exact ⟨n, x, s', h', by simp only [exec, ht, if_true]; exact e, k⟩
    | false =>
      obtain ⟨n, x, s', h', e, k⟩ := h2 rfl
      exact ⟨n, x, s', h', by simp only [exec, ht, Bool.false_eq_true, if_false]; exact e, k⟩
theorem AW_block0 {id : Nat} {c : ACode} : AW0 X F fl (.block id c) s h K ↔ AW0 X F fl c s h (AExit.inBlk id K) := by
  constructor
  · rintro ⟨n, x, s', h', e, k⟩
    simp only [exec] at e
    split at e
    · rename_i j s1 h1 h1'
      refine ⟨n, .exit j, s1, h1, h1', ?_⟩
      rw [inBlk_exit]
      split at e
      · rename_i hj
        simp only [Option.some.injEq, Prod.mk.injEq] at e
        obtain ⟨rfl, rfl, rfl⟩ := e
        rw [if_pos hj]; exact k
      · rename_i hj
        simp only [Option.some.injEq, Prod.mk.injEq] at e
        obtain ⟨rfl, rfl, rfl⟩ := e
        rw [if_neg hj]; exact k
    · rename_i hne
      refine ⟨n, x, s', h', e, ?_⟩
      cases x with
      | normal => exact k
      | exit j => exact absurd e (hne j s' h')
      | ret => exact k
  · rintro ⟨n, x, s1, h1, e, k⟩
    cases x with
    | normal => exact ⟨n, .normal, s1, h1, by simp only [exec, e], k⟩
    | exit j =>
      rw [inBlk_exit] at k
      by_cases hj : j = id
      · rw [if_pos hj] at k
        exact ⟨n, .normal, s1, h1, by simp only [exec, e]; rw [if_pos hj], k⟩
      · rw [if_neg hj] at k
        exact ⟨n, .exit j, s1, h1, by simp only [exec, e]; rw [if_neg hj], k⟩
    | ret => exact ⟨n, .ret, s1, h1, by simp only [exec, e], k⟩

theorem AW_loop0 {c : ACode} (I : Nat → Slots → Heap → Prop) (n0 : Nat) (h0 : I n0 s h) (round : ∀ n s h, I n s h → AW0 X F fl c s h (AExit.then (fun s' h' => ∃ m, m < n ∧ I m s' h') K)) : AW0 X F fl (.loop c) s h K := by
  have key : ∀ n s h, I n s h → ∃ k x s' h', iter (exec (call X F k) k fl c) k s h = some (x, s', h') ∧ K x s' h' := by
    intro n
    induction n using Nat.strongRecOn with
    | _ n ih =>
      intro s h hI
      obtain ⟨k, x, s1, h1, e, hk⟩ := round n s h hI
      cases x with
      | normal =>
        obtain ⟨m, hm, hI1⟩ := hk
        obtain ⟨k2, x, s', h', e2, hk2⟩ := ih m hm s1 h1 hI1
        refine ⟨max k k2 + 1, x, s', h', ?_, hk2⟩
        simp only [iter]
        rw [exec_mono (call_mono (show k ≤ max k k2 + 1 by omega)) (by omega) _ _ _ _ e]
        exact iter_mono (fun s h r => exec_mono (call_mono (show k2 ≤ max k k2 + 1 by omega)) (by omega) c s h r) k2 (max k k2) _ _ _ (by omega) e2
      | exit id => exact ⟨k + 1, .exit id, s1, h1, by simp only [iter]; rw [exec_mono (call_mono (Nat.le_succ k)) (Nat.le_succ k) _ _ _ _ e], hk⟩
      | ret => exact ⟨k + 1, .ret, s1, h1, by simp only [iter]; rw [exec_mono (call_mono (Nat.le_succ k)) (Nat.le_succ k) _ _ _ _ e], hk⟩
  obtain ⟨k, x, s', h', e, hk⟩ := key n0 s h h0
  exact ⟨k, x, s', h', e, hk⟩
end

section
variable {K : Slots → Heap → Prop} {base : Nat} {d : Seen} {l : List AOper}
theorem AO_nil0 : AO0 X F base fl d [] s h K ↔ K s h := ⟨fun ⟨n, s', h', e, k⟩ => by simp only [runOps, Option.some.injEq, Prod.mk.injEq] at e; obtain ⟨rfl, rfl⟩ := e; exact k, fun k => ⟨0, _, _, rfl, k⟩⟩

theorem AO_one0 {o : AOper} (hw : wantedA o s = some true) (hk : A10 X F (if o.iso then none else some (base, d.pr)) (lessen fl o (forbs fl d o l s h)) o.op s h fun v h' => AO0 X F base fl (d.with o (forbs fl d o l s h) s) l (put s o.dst v) h' K) : AO0 X F base fl d (o :: l) s h K := by
  have key : ∃ n v h', runOp (call X F n) base fl d (forbs fl d o l s h) o s h = some (v, h') ∧ AO0 X F base fl (d.with o (forbs fl d o l s h) s) l (put s o.dst v) h' K := by
    unfold A10 at hk
    split at hk
    · rename_i f args heq
      obtain ⟨g, vs, hg, n, v, h', e, k⟩ := hk
      exact ⟨n, v, h', by unfold runOp; rw [heq]; simp only [hg]; exact e, k⟩
    · rename_i op hne
      obtain ⟨v, h', e, k⟩ := hk
      refine ⟨0, v, h', ?_, k⟩
      unfold runOp
      split
      · rename_i f args heq; exact absurd heq (hne f args)
      · exact e
  obtain ⟨n, v, h1, e, n2, s', h', e2, k⟩ := key
  refine ⟨max n n2, s', h', ?_, k⟩
  simp only [runOps, hw]
  have : runOp (call X F (max n n2)) base fl d (forbs fl d o l s h) o s h = some (v, h1) := by
    unfold runOp at e ⊢
    split at e
    · rename_i f args heq
      split at e
      · rename_i g caps hg
        exact call_mono (Nat.le_max_left n n2) _ _ _ _ _ e
      · cases e
    · exact e
  rw [this]
  exact runOps_mono (call_mono (Nat.le_max_right n n2)) _ _ _ _ _ e2

theorem AO_skip0 {o : AOper} (hw : wantedA o s = some false) (hk : AO0 X F base fl d l (put s o.dst .no) h K) : AO0 X F base fl d (o :: l) s h K := by
  obtain ⟨n, s', h', e, k⟩ := hk
  exact ⟨n, s', h', by simp only [runOps, hw]; exact e, k⟩
end

/-! ### The same, told by K alone -/
theorem prunOps_mono {C C' : CallP} (hC : ∀ f args fl h (K K' : AV → Heap → Prop), (∀ v h, K v h → K' v h) → C f args fl h K → C' f args fl h K') {base : Nat} {fl : Nat → Bool} : ∀ (l : List AOper) (d : Seen) (s : Slots) (h : Heap) (K K' : Slots → Heap → Prop), (∀ s h, K s h → K' s h) → prunOps C base fl d l s h K → prunOps C' base fl d l s h K'
  | [], d, s, h, K, K', hk, hp => hk s h hp
  | o :: l, d, s, h, K, K', hk, hp => by
    simp only [prunOps] at hp ⊢
    split at hp
    · unfold prunOp at hp ⊢
      split at hp
      · split at hp
        · exact hC _ _ _ _ _ _ (fun v h' hq => prunOps_mono hC l _ _ _ K K' hk hq) hp
        · exact hp.elim
      · obtain ⟨v, h', e, hq⟩ := hp
        exact ⟨v, h', e, prunOps_mono hC l _ _ _ K K' hk hq⟩
    · exact prunOps_mono hC l _ _ _ K K' hk hp
    · exact hp.elim

theorem then_mono {k1 k2 : Slots → Heap → Prop} {K K' : AExit → Slots → Heap → Prop} (h1 : ∀ s h, k1 s h → k2 s h) (h2 : ∀ x s h, K x s h → K' x s h) (x : AExit) (s : Slots) (h : Heap) (hk : AExit.then k1 K x s h) : AExit.then k2 K' x s h := by
  cases x with
  | normal => exact h1 s h hk
  | exit id => exact h2 _ s h hk
  | ret => exact h2 _ s h hk
theorem inBlk_mono {id : Nat} {K K' : AExit → Slots → Heap → Prop} (h2 : ∀ x s h, K x s h → K' x s h) (x : AExit) (s : Slots) (h : Heap) (hk : AExit.inBlk id K x s h) : AExit.inBlk id K' x s h := by
  cases x with
  | normal => exact h2 _ s h hk
  | exit j =>
    simp only [AExit.inBlk] at hk ⊢
    split at hk
    · rename_i hj; rw [if_pos hj]; exact h2 _ s h hk
    · rename_i hj; rw [if_neg hj]; exact h2 _ s h hk
  | ret => exact h2 _ s h hk
theorem rng_mono {out nb : Nat} {k1 k2 : Slots → Heap → Prop} {K K' : AExit → Slots → Heap → Prop} (h1 : ∀ s h, k1 s h → k2 s h) (h2 : ∀ x s h, K x s h → K' x s h) (x : AExit) (s : Slots) (h : Heap) (hk : AExit.rng out nb k1 K x s h) : AExit.rng out nb k2 K' x s h := by
  cases x with
  | normal => exact h1 s h hk
  | exit j =>
    simp only [AExit.rng] at hk ⊢
    split at hk
    · rename_i hj; rw [if_pos hj]; exact h1 s h hk
    · rename_i hj
      rw [if_neg hj]
      split at hk
      · rename_i ho; rw [if_pos ho]; exact h2 _ s h hk
      · rename_i ho; rw [if_neg ho]; exact h2 _ s h hk
  | ret => exact h2 _ s h hk
theorem piter_mono {f f' : Slots → Heap → OutP} (hf : ∀ s h (K K' : AExit → Slots → Heap → Prop), (∀ x s h, K x s h → K' x s h) → f s h K → f' s h K') {s : Slots} {h : Heap} {K K' : AExit → Slots → Heap → Prop} (hk : ∀ x s h, K x s h → K' x s h) (hp : piter f s h K) : piter f' s h K' :=
  fun I hI => hp I fun s h hb => hI s h (hf s h _ _ (fun x s h => then_mono (fun _ _ h => h) hk x s h) hb)
theorem prngS_mono {f f' : Slots → Heap → OutP} (hf : ∀ s h (K K' : AExit → Slots → Heap → Prop), (∀ x s h, K x s h → K' x s h) → f s h K → f' s h K') {it i0 nx more out nb : Nat} {K K' : AExit → Slots → Heap → Prop} (hk : ∀ x s h, K x s h → K' x s h) : ∀ (l : List (Nat × Nat)) s h, prngS f it i0 nx more out nb K l s h → prngS f' it i0 nx more out nb K' l s h
  | [], s, h, hp => ⟨hp.1, hk _ _ _ hp.2⟩
  | (p, c) :: l, s, h, hp => ⟨hp.1, hf _ _ _ _ (fun x s h => rng_mono (fun s h => prngS_mono hf hk l s h) hk x s h) hp.2⟩
theorem prngM_mono {f f' : Slots → Heap → OutP} (hf : ∀ s h (K K' : AExit → Slots → Heap → Prop), (∀ x s h, K x s h → K' x s h) → f s h K → f' s h K') {it i0 nx more pair out nb : Nat} {K K' : AExit → Slots → Heap → Prop} (hk : ∀ x s h, K x s h → K' x s h) : ∀ (n : Nat) (rem : List AV) s h, prngM f it i0 nx more pair out nb K n rem s h → prngM f' it i0 nx more pair out nb K' n rem s h
  | 0, rem, s, h, hp => ⟨hp.1, hp.2.1, hk _ _ _ hp.2.2⟩
  | n + 1, rem, s, h, hp => ⟨hp.1, hp.2.1, fun i k v hi => hf _ _ _ _ (fun x s h => rng_mono (fun s h => prngM_mono hf hk n _ s h) hk x s h) (hp.2.2 i k v hi)⟩
theorem pexec_mono {Cd Cd' : Nat → CallT} {C C' : CallP} (hCd : ∀ k, ∃ k', Cd k = Cd' k') (hC : ∀ f args fl h (K K' : AV → Heap → Prop), (∀ v h, K v h → K' v h) → C f args fl h K → C' f args fl h K') : ∀ (c : ACode) (fl : Nat → Bool) s h (K K' : AExit → Slots → Heap → Prop), (∀ x s h, K x s h → K' x s h) → pexec Cd C c fl s h K → pexec Cd' C' c fl s h K' := by
  intro c
  induction c with
  | skip => intro fl s h K K' hk hp; exact hk _ _ _ hp
  | ops l => intro fl s h K K' hk hp; exact prunOps_mono hC _ _ _ _ _ _ (fun s h => hk _ s h) hp
  | opsD l =>
    intro fl s h K K' hk hp
    obtain ⟨n, s', h', e, k⟩ := hp
    obtain ⟨n', hn⟩ := hCd n
    exact ⟨n', s', h', by rw [← hn]; exact e, hk _ _ _ k⟩
  | rng isMap src it nx more pair out nb pre asg body ih =>
    intro fl s h K K' hk hp
    simp only [pexec] at hp ⊢
    refine prunOps_mono hC _ _ _ _ _ _ (fun s h hq => ?_) hp
    split at hq
    · rename_i hM
      obtain ⟨id, l, h1, h2, h3⟩ := hq
      rw [if_pos hM]
      exact ⟨id, l, h1, h2, prngM_mono (fun s h K K' hk hp => prunOps_mono hC _ _ _ _ _ _ (fun s h => ih _ s h K K' hk) hp) hk _ _ _ _ h3⟩
    · rename_i hM
      obtain ⟨t, h1, h3⟩ := hq
      rw [if_neg hM]
      exact ⟨t, h1, prngS_mono (fun s h K K' hk hp => prunOps_mono hC _ _ _ _ _ _ (fun s h => ih _ s h K K' hk) hp) hk _ _ _ h3⟩
  | seq a b iha ihb => intro fl s h K K' hk hp; exact iha fl s h _ _ (fun x s h => then_mono (fun s h => ihb fl s h K K' hk) hk x s h) hp
  | cond c a b iha ihb =>
    intro fl s h K K' hk hp
    obtain ⟨t, ht, h1, h2⟩ := hp
    exact ⟨t, ht, fun e => iha fl s h K K' hk (h1 e), fun e => ihb fl s h K K' hk (h2 e)⟩
  | block id a iha => intro fl s h K K' hk hp; exact iha fl s h _ _ (fun x s h => inBlk_mono hk x s h) hp
  | loop a iha => intro fl s h K K' hk hp; exact piter_mono (fun s h K K' hk hp => iha fl s h K K' hk hp) hk hp
  | exit id => intro fl s h K K' hk hp; exact hk _ _ _ hp
  | scope a iha => intro fl s h K K' hk hp; exact iha fl s h K K' hk hp
  | ret => intro fl s h K K' hk hp; exact hk _ _ _ hp
  | bad => intro fl s h K K' hk hp; exact hp.elim
theorem endK_mono {rs : List ARes} {K K' : AV → Heap → Prop} (hk : ∀ v h, K v h → K' v h) (x : AExit) (s : Slots) (h : Heap) (hp : endK rs K x s h) : endK rs K' x s h := by
  cases x with
  | normal => obtain ⟨v, e, k⟩ := hp; exact ⟨v, e, hk v h k⟩
  | exit id => exact hp.elim
  | ret => obtain ⟨v, e, k⟩ := hp; exact ⟨v, e, hk v h k⟩
theorem pstep_mono {X : CallT} {F : FuncId → Option AFunc} {C C' : CallP} (hC : ∀ f args fl h (K K' : AV → Heap → Prop), (∀ v h, K v h → K' v h) → C f args fl h K → C' f args fl h K') {f : FuncId} {args : List AV} {fl : Nat → Bool} {h : Heap} {K K' : AV → Heap → Prop} (hk : ∀ v h, K v h → K' v h) (hp : pstep X F C f args fl h K) : pstep X F C' f args fl h K' := by
  unfold pstep at hp ⊢
  split at hp
  · exact hk _ _ hp
  · split at hp
    · exact ⟨hp.1, pexec_mono (fun k => ⟨k, rfl⟩) hC _ _ _ _ _ _ (fun x s h => endK_mono hk x s h) hp.2⟩
    · exact hp.elim
theorem pcall_mono {X : CallT} {F : FuncId → Option AFunc} (f : FuncId) (args : List AV) (fl : Nat → Bool) (h : Heap) (K K' : AV → Heap → Prop) (hk : ∀ v h, K v h → K' v h) (hp : pcall X F f args fl h K) : pcall X F f args fl h K' := by
  intro C hC
  exact hp (fun f args fl h K => ∀ K', (∀ v h, K v h → K' v h) → C f args fl h K') (fun f args fl h K hq K' hk => hC f args fl h K' (pstep_mono (fun f args fl h K K' hk hq => hq K' hk) hk hq)) K' hk
theorem pcall_fold {X : CallT} {F : FuncId → Option AFunc} {f : FuncId} {args : List AV} {fl : Nat → Bool} {h : Heap} {K : AV → Heap → Prop} (hp : pstep X F (pcall X F) f args fl h K) : pcall X F f args fl h K := by
  intro C hC
  exact hC f args fl h K (pstep_mono (fun f args fl h K K' hk hq => pcall_mono f args fl h K K' hk hq C hC) (fun _ _ h => h) hp)
theorem pcall_of {X : CallT} {F : FuncId → Option AFunc} : ∀ (n : Nat) f args fl h (K : AV → Heap → Prop), ofCall (call X F n) f args fl h K → pcall X F f args fl h K
  | 0, f, args, fl, h, K, ⟨v, h', e, k⟩ => by
    simp only [call] at e
    refine pcall_fold ?_
    unfold pstep
    rw [e]
    exact k
  | n + 1, f, args, fl, h, K, ⟨v, h', e, k⟩ => by
    refine pcall_fold ?_
    unfold pstep
    simp only [call] at e
    split at e
    · rename_i r hr
      injection e with e; subst e
      exact k
    · rename_i hr
      split at e
      · rename_i af haf
        split at e
        · rename_i hl
          refine ⟨hl, ?_⟩
          have go : ∀ x s' h2, exec (call X F n) n fl af.body (fun t => args.getD t .no) h = some (x, s', h2) → endK af.results K x s' h2 → pexec (call X F) (pcall X F) af.body fl (fun t => args.getD t .no) h (endK af.results K) := fun x s' h2 he hk =>
            pexec_mono (fun _ => ⟨n, rfl⟩) (fun f args fl h K K' hk hp => pcall_mono f args fl h K K' hk (pcall_of n f args fl h K hp)) _ _ _ _ _ _ (fun _ _ _ h => h) (pexec_of _ fl _ h x s' h2 _ he hk)
          split at e
          · rename_i s' h2 hex
            obtain ⟨u, hu, hp⟩ := Option.map_eq_some_iff.1 e
            injection hp with e1 e2; subst e1; subst e2
            exact go .normal s' _ hex ⟨_, hu, k⟩
          · rename_i s' h2 hex
            obtain ⟨u, hu, hp⟩ := Option.map_eq_some_iff.1 e
            injection hp with e1 e2; subst e1; subst e2
            exact go .ret s' _ hex ⟨_, hu, k⟩
          · cases e
        · cases e
      · cases e

/-! ### Either way of telling -/
structure XT where
  x : CallT
  nd : Bool
instance : Coe CallT XT := ⟨fun x => ⟨x, false⟩⟩
def XT.det (X : XT) : XT := ⟨X.x, false⟩
abbrev ndX (x : CallT) : XT := ⟨x, true⟩
section
variable (X : XT) (F : FuncId → Option AFunc)
def AC (f : FuncId) (args : List AV) (fl : Nat → Bool) (h : Heap) (K : AV → Heap → Prop) : Prop := match X.nd with
  | false => AC0 X.x F f args fl h K
  | true => pcall X.x F f args fl h K
def AW (fl : Nat → Bool) (c : ACode) (s : Slots) (h : Heap) (K : AExit → Slots → Heap → Prop) : Prop := match X.nd with
  | false => AW0 X.x F fl c s h K
  | true => pexec (call X.x F) (pcall X.x F) c fl s h K
def AO (base : Nat) (fl : Nat → Bool) (d : Seen) (l : List AOper) (s : Slots) (h : Heap) (K : Slots → Heap → Prop) : Prop := match X.nd with
  | false => AO0 X.x F base fl d l s h K
  | true => prunOps (pcall X.x F) base fl d l s h K
def A1 (top : Option (Nat × Option (List Nat))) (fl : Nat → Bool) (o : AOp) (s : Slots) (h : Heap) (K : AV → Heap → Prop) : Prop := match o with
  | .call f args => ∃ g vs, callee (f.ev s) (args.map (·.ev s)) = some (g, vs) ∧ AC X F g vs fl h K
  | o => ∃ v h', opEval top fl s h o = some (v, h') ∧ K v h'
end
variable {X : XT} {F : FuncId → Option AFunc} {fl : Nat → Bool} {s : Slots} {h : Heap}

theorem AC.lift {f : FuncId} {args : List AV} {K : AV → Heap → Prop} (hc : AC X.det F f args fl h K) : AC X F f args fl h K := by
  obtain ⟨x, nd⟩ := X
  cases nd with
  | false => exact hc
  | true => obtain ⟨n, v, h', e, k⟩ := hc; exact pcall_of n f args fl h K ⟨v, h', e, k⟩
theorem AC.mono {f : FuncId} {args : List AV} {K K' : AV → Heap → Prop} (hc : AC X F f args fl h K) (hk : ∀ v h', K v h' → K' v h') : AC X F f args fl h K' := by
  obtain ⟨x, nd⟩ := X
  cases nd with
  | false => exact AC0.mono hc hk
  | true => exact pcall_mono _ _ _ _ _ _ hk hc
theorem AW.mono {c : ACode} {K K' : AExit → Slots → Heap → Prop} (hc : AW X F fl c s h K) (hk : ∀ x s' h', K x s' h' → K' x s' h') : AW X F fl c s h K' := by
  obtain ⟨x, nd⟩ := X
  cases nd with
  | false => exact AW0.mono hc hk
  | true => exact pexec_mono (fun k => ⟨k, rfl⟩) pcall_mono _ _ _ _ _ _ hk hc
theorem AO.mono {l : List AOper} {base : Nat} {d : Seen} {K K' : Slots → Heap → Prop} (hc : AO X F base fl d l s h K) (hk : ∀ s' h', K s' h' → K' s' h') : AO X F base fl d l s h K' := by
  obtain ⟨x, nd⟩ := X
  cases nd with
  | false => obtain ⟨n, s', h', e, k⟩ := hc; exact ⟨n, s', h', e, hk _ _ k⟩
  | true => exact prunOps_mono pcall_mono _ _ _ _ _ _ hk hc
theorem AC.enter {f : FuncId} {af : AFunc} {args : List AV} {K : AV → Heap → Prop} (hx : X.x f args fl h = none) (hf : F f = some af) (hl : args.length ≤ af.n)
    (hb : AW X F fl af.body (fun t => args.getD t .no) h fun x s' h' => (x = .normal ∨ x = .ret) ∧ ∃ v, resultsA af.results s' h' = some v ∧ K v h') : AC X F f args fl h K := by
  obtain ⟨x, nd⟩ := X
  cases nd with
  | false => exact AC0.enter hx hf hl hb
  | true =>
    refine pcall_fold ?_
    unfold pstep
    simp only at hx
    simp only [hx, hf]
    refine ⟨hl, pexec_mono (fun k => ⟨k, rfl⟩) pcall_mono _ _ _ _ _ _ (fun x s h hk => ?_) hb⟩
    obtain ⟨h1, v, e, k⟩ := hk
    rcases h1 with rfl | rfl <;> exact ⟨v, e, k⟩
theorem AC.const {f : FuncId} {args : List AV} {K : AV → Heap → Prop} {v : AV} {h' : Heap} (hx : X.x f args fl h = some (v, h')) (k : K v h') : AC X F f args fl h K := by
  obtain ⟨x, nd⟩ := X
  cases nd with
  | false => exact AC0.const hx k
  | true => exact pcall_of 0 f args fl h K ⟨v, h', hx, k⟩

section
variable {K : AExit → Slots → Heap → Prop}
theorem AW_skip : AW X F fl .skip s h K ↔ K .normal s h := by
  obtain ⟨x, nd⟩ := X
  cases nd
  · exact AW_skip0
  · exact Iff.rfl
theorem AW_exit {id : Nat} : AW X F fl (.exit id) s h K ↔ K (.exit id) s h := by
  obtain ⟨x, nd⟩ := X
  cases nd
  · exact AW_exit0
  · exact Iff.rfl
theorem AW_ret : AW X F fl .ret s h K ↔ K .ret s h := by
  obtain ⟨x, nd⟩ := X
  cases nd
  · exact AW_ret0
  · exact Iff.rfl
theorem AW_scope {c : ACode} : AW X F fl (.scope c) s h K ↔ AW X F fl c s h K := by
  obtain ⟨x, nd⟩ := X
  cases nd
  · exact AW_scope0
  · exact Iff.rfl
theorem AW_ops {l : List AOper} : AW X F fl (.ops l) s h K ↔ AO X F h.length fl ⟨[], none⟩ l s h (K .normal) := by
  obtain ⟨x, nd⟩ := X
  cases nd
  · exact AW_ops0
  · exact Iff.rfl
theorem AW_opsD {l : List AOper} : AW X F fl (.opsD l) s h K ↔ AO X.det F h.length fl ⟨[], none⟩ l s h (K .normal) := by
  obtain ⟨x, nd⟩ := X
  cases nd
  · exact AW_ops0
  · exact Iff.rfl
theorem AW_seq {a b : ACode} : AW X F fl (.seq a b) s h K ↔ AW X F fl a s h (AExit.then (fun s h => AW X F fl b s h K) K) := by
  obtain ⟨x, nd⟩ := X
  cases nd
  · exact AW_seq0
  · exact Iff.rfl
theorem AW_cond {c : Opd} {a b : ACode} : AW X F fl (.cond c a b) s h K ↔ ∃ t, c.ev s = .val (.bool t) ∧ (t = true → AW X F fl a s h K) ∧ (t = false → AW X F fl b s h K) := by
  obtain ⟨x, nd⟩ := X
  cases nd
  · exact AW_cond0
  · exact Iff.rfl
theorem AW_block {id : Nat} {c : ACode} : AW X F fl (.block id c) s h K ↔ AW X F fl c s h (AExit.inBlk id K) := by
  obtain ⟨x, nd⟩ := X
  cases nd
  · exact AW_block0
  · exact Iff.rfl
theorem AW_loop {c : ACode} (I : Nat → Slots → Heap → Prop) (n0 : Nat) (h0 : I n0 s h) (round : ∀ n s h, I n s h → AW X F fl c s h (AExit.then (fun s' h' => ∃ m, m < n ∧ I m s' h') K)) : AW X F fl (.loop c) s h K := by
  obtain ⟨x, nd⟩ := X
  cases nd
  · exact AW_loop0 I n0 h0 round
  · intro J hJ
    have key : ∀ n s h, I n s h → J s h := by
      intro n
      induction n using Nat.strongRecOn with
      | _ n ih =>
        intro s h hI
        refine hJ s h (pexec_mono (fun k => ⟨k, rfl⟩) pcall_mono _ _ _ _ _ _ (fun x s h => then_mono (fun s h hq => ?_) (fun _ _ _ h => h) x s h) (round n s h hI))
        obtain ⟨m, hm, hI⟩ := hq
        exact ih m hm s h hI
    exact key n0 s h h0
end

section
variable {K : Slots → Heap → Prop} {base : Nat} {d : Seen} {l : List AOper}
theorem AO_nil : AO X F base fl d [] s h K ↔ K s h := by
  obtain ⟨x, nd⟩ := X
  cases nd
  · exact AO_nil0
  · exact Iff.rfl
theorem AO_one {o : AOper} (hw : wantedA o s = some true) (hk : A1 X F (if o.iso then none else some (base, d.pr)) (lessen fl o (forbs fl d o l s h)) o.op s h fun v h' => AO X F base fl (d.with o (forbs fl d o l s h) s) l (put s o.dst v) h' K) : AO X F base fl d (o :: l) s h K := by
  obtain ⟨x, nd⟩ := X
  cases nd
  · exact AO_one0 hw hk
  · show prunOps _ _ _ _ _ _ _ _
    simp only [prunOps, hw]
    obtain ⟨dst, op, gd, iso⟩ := o
    cases op
    case call f args =>
      obtain ⟨g, vs, hg, hk⟩ := hk
      simp only [prunOp, hg]
      exact hk
    all_goals exact hk
theorem AO_skip {o : AOper} (hw : wantedA o s = some false) (hk : AO X F base fl d l (put s o.dst .no) h K) : AO X F base fl d (o :: l) s h K := by
  obtain ⟨x, nd⟩ := X
  cases nd
  · exact AO_skip0 hw hk
  · show prunOps _ _ _ _ _ _ _ _
    simp only [prunOps, hw]
    exact hk

theorem AO_iso {dst : Option Nat} {op : AOp} : A1 X F none fl op s h (fun v h' => AO X F base fl d l (put s dst v) h' K) → AO X F base fl d (⟨dst, op, none, true⟩ :: l) s h K := fun hk =>
  AO_one rfl (by simpa [lessen, Seen.with] using hk)
end
end Go.Proofs.Ytfmllmcjinjfaaa

namespace Go.Proofs.Ytfmllmcjinjfaaa
open Go Go.RowKit
set_option linter.unusedVariables false
set_option linter.unusedSimpArgs false

abbrev I64 (n : Int) : AV := .val (.int .i64 n)
abbrev BV (b : Bool) : AV := .val (.bool b)

/-! ### Slots -/
theorem put_some {s : Slots} {d : Nat} {v : AV} : put s (some d) v = upd s d v := rfl
theorem put_none {s : Slots} {v : AV} : put s none v = s := rfl
theorem upd_at {s : Slots} {d t : Nat} {v : AV} : upd s d v t = if t = d then v else s t := rfl
theorem ev_tmp {s : Slots} {t : Nat} : (Opd.tmp t).ev s = s t := rfl
theorem ev_av {s : Slots} {v : AV} : (Opd.av v).ev s = v := rfl

/-! ### Which slots code writes -/
def wrs : ACode → List Nat
  | .ops l => l.filterMap (·.dst)
  | .opsD l => l.filterMap (·.dst)
  | .rng _ _ it nx more pair _ _ pre asg body => pre.filterMap (·.dst) ++ asg.filterMap (·.dst) ++ [it, nx, more, pair] ++ wrs body
  | .seq a b => wrs a ++ wrs b
  | .cond _ a b => wrs a ++ wrs b
  | .block _ c => wrs c
  | .loop c => wrs c
  | .scope c => wrs c
  | _ => []

theorem runOps_frame {C : CallT} {base : Nat} {fl : Nat → Bool} {t : Nat} : ∀ (l : List AOper) (d : Seen) (s : Slots) (h : Heap) s' h', runOps C base fl d l s h = some (s', h') → t ∉ l.filterMap (·.dst) → s' t = s t
  | [], d, s, h, s', h', he, _ => by simp only [runOps, Option.some.injEq, Prod.mk.injEq] at he; rw [he.1]
  | o :: l, d, s, h, s', h', he, ht => by
    have hd : o.dst ≠ some t := fun e => ht (List.mem_filterMap.2 ⟨o, by simp, e⟩)
    have hl : t ∉ l.filterMap (·.dst) := fun h => by
      obtain ⟨p, hp, e⟩ := List.mem_filterMap.1 h
      exact ht (List.mem_filterMap.2 ⟨p, by simp [hp], e⟩)
    simp only [runOps] at he
    split at he
    · split at he
      · rename_i v h1 _
        rw [runOps_frame l _ _ _ _ _ he hl, put_at, if_neg hd]
      · cases he
    · rw [runOps_frame l _ _ _ _ _ he hl, put_at, if_neg hd]
    · cases he

theorem exec_frame {C : CallT} {n : Nat} {fl : Nat → Bool} {t : Nat} : ∀ (c : ACode) (s : Slots) (h : Heap) x s' h', exec C n fl c s h = some (x, s', h') → t ∉ wrs c → s' t = s t := by
  intro c
  induction c with
  | skip => intro s h x s' h' he _; simp only [exec, Option.some.injEq, Prod.mk.injEq] at he; rw [he.2.1]
  | ops l =>
    intro s h x s' h' he ht
    simp only [exec] at he
    split at he
    · rename_i s1 h1 hr
      simp only [Option.some.injEq, Prod.mk.injEq] at he
      rw [← he.2.1]; exact runOps_frame _ _ _ _ _ _ hr ht
    · cases he
  | opsD l =>
    intro s h x s' h' he ht
    simp only [exec] at he
    split at he
    · rename_i s1 h1 hr
      simp only [Option.some.injEq, Prod.mk.injEq] at he
      rw [← he.2.1]; exact runOps_frame _ _ _ _ _ _ hr ht
    · cases he
  | rng isMap src it nx more pair out nb pre asg body ih =>
    intro s h x s' h' he ht
    simp only [wrs, List.mem_append, List.mem_cons, List.not_mem_nil, or_false, not_or] at ht
    obtain ⟨⟨⟨t1, t2⟩, t3, t4, t5, t6⟩, t7⟩ := ht
    simp only [exec] at he
    split at he
    · rename_i s1 h1 hr
      have e1 := runOps_frame _ _ _ _ _ _ hr t1
      split at he
      · split at he
        · split at he
          · simp only [Option.some.injEq, Prod.mk.injEq] at he
            rw [← he.2.1, upd_at, if_neg t5, upd_at, if_neg t4, upd_at, if_neg t3]; exact e1
          · cases he
        · cases he
      · split at he
        · rename_i tt htt
          have key : ∀ (l : List (Nat × Nat)) s h x s' h', rngS (fun s h => match runOps C h.length fl ⟨[], none⟩ asg s h with
              | some (s', h') => exec C n fl body s' h'
              | none => none) it h1.length nx more out nb l s h = some (x, s', h') → s' t = s t := by
            intro l
            induction l with
            | nil =>
              intro s h x s' h' he
              simp only [rngS] at he
              split at he
              · simp only [Option.some.injEq, Prod.mk.injEq] at he
                rw [← he.2.1, upd_at, if_neg t5, upd_at, if_neg t4]
              · cases he
            | cons pc l ihl =>
              obtain ⟨p, c⟩ := pc
              intro s h x s' h' he
              simp only [rngS] at he
              split at he
              · have one : ∀ x2 s2 h2, (match runOps C h.length fl ⟨[], none⟩ asg (upd (upd s nx (.tuple [.val (.bool true), .val (.int .i64 p), .val (.int .i32 c)])) more (.val (.bool true))) h with
                    | some (s', h') => exec C n fl body s' h'
                    | none => none) = some (x2, s2, h2) → s2 t = s t := by
                  intro x2 s2 h2 hh
                  split at hh
                  · rename_i s3 h3 hr3
                    rw [ih _ _ _ _ _ hh t7, runOps_frame _ _ _ _ _ _ hr3 t2, upd_at, if_neg t5, upd_at, if_neg t4]
                  · cases hh
                split at he
                · rename_i s2 h2 h2'
                  rw [ihl _ _ _ _ _ he, one _ _ _ h2']
                · rename_i j s2 h2 h2'
                  split at he
                  · rw [ihl _ _ _ _ _ he, one _ _ _ h2']
                  · split at he
                    · simp only [Option.some.injEq, Prod.mk.injEq] at he
                      rw [← he.2.1, one _ _ _ h2']
                    · simp only [Option.some.injEq, Prod.mk.injEq] at he
                      rw [← he.2.1, one _ _ _ h2']
                · exact one _ _ _ he
              · cases he
          rw [key _ _ _ _ _ _ he, upd_at, if_neg t3, e1]
        · cases he
    · cases he
  | seq a b iha ihb =>
    intro s h x s' h' he ht
    simp only [wrs, List.mem_append, not_or] at ht
    simp only [exec] at he
    split at he
    · rename_i s1 h1 h1'
      rw [ihb _ _ _ _ _ he ht.2, iha _ _ _ _ _ h1' ht.1]
    · exact iha _ _ _ _ _ he ht.1
  | cond c a b iha ihb =>
    intro s h x s' h' he ht
    simp only [wrs, List.mem_append, not_or] at ht
    simp only [exec] at he
    split at he
    · split at he
      · exact iha _ _ _ _ _ he ht.1
      · exact ihb _ _ _ _ _ he ht.2
    · cases he
  | block id a iha =>
    intro s h x s' h' he ht
    simp only [exec] at he
    split at he
    · rename_i j s1 h1 h1'
      have := iha _ _ _ _ _ h1' ht
      split at he <;> (simp only [Option.some.injEq, Prod.mk.injEq] at he; rw [← he.2.1]; exact this)
    · exact iha _ _ _ _ _ he ht
  | loop a iha =>
    intro s h x s' h' he ht
    simp only [exec] at he
    have key : ∀ (k : Nat) s h x s' h', iter (exec C n fl a) k s h = some (x, s', h') → s' t = s t := by
      intro k
      induction k with
      | zero => intro s h x s' h' he; simp [iter] at he
      | succ k ih =>
        intro s h x s' h' he
        simp only [iter] at he
        split at he
        · rename_i s1 h1 h1'
          rw [ih _ _ _ _ _ he, iha _ _ _ _ _ h1' ht]
        · exact iha _ _ _ _ _ he ht
    exact key _ _ _ _ _ _ he
  | exit id => intro s h x s' h' he _; simp only [exec, Option.some.injEq, Prod.mk.injEq] at he; rw [he.2.1]
  | scope a iha => intro s h x s' h' he ht; exact iha s h x s' h' he ht
  | ret => intro s h x s' h' he _; simp only [exec, Option.some.injEq, Prod.mk.injEq] at he; rw [he.2.1]
  | bad => intro s h x s' h' he _; simp [exec] at he

def Frm (W : List Nat) (s s' : Slots) : Prop := ∀ t, t ∉ W → s' t = s t
theorem Frm.refl {W : List Nat} {s : Slots} : Frm W s s := fun _ _ => rfl
theorem Frm.trans {W : List Nat} {s s' s2 : Slots} (h : Frm W s s') (h2 : Frm W s' s2) : Frm W s s2 := fun t ht => (h2 t ht).trans (h t ht)
theorem Frm.upd {W : List Nat} {s s' : Slots} (h : Frm W s s') {d : Nat} (hd : d ∈ W) {v : AV} : Frm W s (upd s' d v) := fun t ht => by
  rw [upd_at, if_neg (fun e => ht (by rw [e]; exact hd))]; exact h t ht
theorem Frm.sub {W W' : List Nat} {s s' : Slots} (h : Frm W s s') (hs : ∀ t, t ∈ W → t ∈ W') : Frm W' s s' := fun t ht => h t fun h2 => ht (hs t h2)
theorem Frm.put {W : List Nat} {s s' : Slots} (h : Frm W s s') {d : Option Nat} (hd : ∀ x, d = some x → x ∈ W) {v : AV} : Frm W s (put s' d v) := by
  cases d with
  | none => exact h
  | some d => exact h.upd (hd d rfl)

theorem prunOps_frame {C : CallP} (hC : ∀ f args fl h (K K' : AV → Heap → Prop), (∀ v h, K v h → K' v h) → C f args fl h K → C f args fl h K') {base : Nat} {fl : Nat → Bool} {W : List Nat} {s0 : Slots} : ∀ (l : List AOper) (d : Seen) (s : Slots) (h : Heap) (K : Slots → Heap → Prop), (∀ t, t ∈ l.filterMap (·.dst) → t ∈ W) → Frm W s0 s → prunOps C base fl d l s h K → prunOps C base fl d l s h fun s' h' => Frm W s0 s' ∧ K s' h'
  | [], d, s, h, K, hW, hs, hp => ⟨hs, hp⟩
  | o :: l, d, s, h, K, hW, hs, hp => by
    have hl : ∀ t, t ∈ l.filterMap (·.dst) → t ∈ W := fun t ht => hW t (by
      obtain ⟨p, hp, e⟩ := List.mem_filterMap.1 ht
      exact List.mem_filterMap.2 ⟨p, by simp [hp], e⟩)
    have hd : ∀ x, o.dst = some x → x ∈ W := fun x hx => hW x (List.mem_filterMap.2 ⟨o, by simp, hx⟩)
    simp only [prunOps] at hp ⊢
    split at hp
    · obtain ⟨dst, op, gd, iso⟩ := o
      cases op
      case call f args =>
        simp only [prunOp] at hp ⊢
        split at hp
        · exact hC _ _ _ _ _ _ (fun v h' hq => prunOps_frame hC l _ _ _ K hl (hs.put hd) hq) hp
        · exact hp.elim
      all_goals
        obtain ⟨v, h', e, hq⟩ := hp
        exact ⟨v, h', e, prunOps_frame hC l _ _ _ K hl (hs.put hd) hq⟩
    · exact prunOps_frame hC l _ _ _ K hl (hs.put hd) hp
    · exact hp.elim

theorem prngS_frame {f : Slots → Heap → OutP} {W : List Nat} {s0 : Slots} (hf : ∀ s h (K K' : AExit → Slots → Heap → Prop), Frm W s0 s → (∀ x s h, Frm W s0 s → K x s h → K' x s h) → f s h K → f s h K') {it i0 nx more out nb : Nat} (h1 : nx ∈ W) (h2 : more ∈ W) {K : AExit → Slots → Heap → Prop} : ∀ (l : List (Nat × Nat)) s h, Frm W s0 s → prngS f it i0 nx more out nb K l s h → prngS f it i0 nx more out nb (fun x s h => Frm W s0 s ∧ K x s h) l s h
  | [], s, h, hs, hp => ⟨hp.1, (hs.upd h1).upd h2, hp.2⟩
  | (p, c) :: l, s, h, hs, hp => ⟨hp.1, hf _ _ _ _ ((hs.upd h1).upd h2) (fun x s h hs hk => by
    cases x with
    | normal => exact prngS_frame hf h1 h2 l s h hs hk
    | exit j =>
      simp only [AExit.rng] at hk ⊢
      split at hk
      · rename_i hj; rw [if_pos hj]; exact prngS_frame hf h1 h2 l s h hs hk
      · rename_i hj
        rw [if_neg hj]
        split at hk
        · rename_i ho; rw [if_pos ho]; exact ⟨hs, hk⟩
        · rename_i ho; rw [if_neg ho]; exact ⟨hs, hk⟩
    | ret => exact ⟨hs, hk⟩) hp.2⟩
theorem prngM_frame {f : Slots → Heap → OutP} {W : List Nat} {s0 : Slots} (hf : ∀ s h (K K' : AExit → Slots → Heap → Prop), Frm W s0 s → (∀ x s h, Frm W s0 s → K x s h → K' x s h) → f s h K → f s h K') {it i0 nx more pair out nb : Nat} (h1 : nx ∈ W) (h2 : more ∈ W) (h3 : pair ∈ W) {K : AExit → Slots → Heap → Prop} : ∀ (n : Nat) (rem : List AV) s h, Frm W s0 s → prngM f it i0 nx more pair out nb K n rem s h → prngM f it i0 nx more pair out nb (fun x s h => Frm W s0 s ∧ K x s h) n rem s h
  | 0, rem, s, h, hs, hp => ⟨hp.1, hp.2.1, (hs.upd h1).upd h2, hp.2.2⟩
  | n + 1, rem, s, h, hs, hp => ⟨hp.1, hp.2.1, fun i k v hi => hf _ _ _ _ (((hs.upd h1).upd h2).upd h3) (fun x s h hs hk => by
    cases x with
    | normal => exact prngM_frame hf h1 h2 h3 n _ s h hs hk
    | exit j =>
      simp only [AExit.rng] at hk ⊢
      split at hk
      · rename_i hj; rw [if_pos hj]; exact prngM_frame hf h1 h2 h3 n _ s h hs hk
      · rename_i hj
        rw [if_neg hj]
        split at hk
        · rename_i ho; rw [if_pos ho]; exact ⟨hs, hk⟩
        · rename_i ho; rw [if_neg ho]; exact ⟨hs, hk⟩
    | ret => exact ⟨hs, hk⟩) (hp.2.2 i k v hi)⟩

theorem pexec_frame {Cd : Nat → CallT} {C : CallP} (hC : ∀ f args fl h (K K' : AV → Heap → Prop), (∀ v h, K v h → K' v h) → C f args fl h K → C f args fl h K') {W : List Nat} {s0 : Slots} : ∀ (c : ACode) (fl : Nat → Bool) s h (K : AExit → Slots → Heap → Prop), (∀ t, t ∈ wrs c → t ∈ W) → Frm W s0 s → pexec Cd C c fl s h K → pexec Cd C c fl s h fun x s' h' => Frm W s0 s' ∧ K x s' h' := by
  have mono : ∀ (c : ACode) (fl : Nat → Bool) s h (K K' : AExit → Slots → Heap → Prop), (∀ x s h, K x s h → K' x s h) → pexec Cd C c fl s h K → pexec Cd C c fl s h K' := fun c => pexec_mono (fun k => ⟨k, rfl⟩) hC c
  intro c
  induction c with
  | skip => intro fl s h K hW hs hp; exact ⟨hs, hp⟩
  | ops l => intro fl s h K hW hs hp; exact prunOps_frame hC l _ _ _ _ hW hs hp
  | opsD l =>
    intro fl s h K hW hs hp
    obtain ⟨n, s', h', e, k⟩ := hp
    exact ⟨n, s', h', e, fun t ht => by rw [runOps_frame _ _ _ _ _ _ e (fun h => ht (hW t h))]; exact hs t ht, k⟩
  | rng isMap src it nx more pair out nb pre asg body ih =>
    intro fl s h K hW hs hp
    simp only [wrs, List.mem_append, List.mem_cons, List.not_mem_nil, or_false] at hW
    simp only [pexec] at hp ⊢
    have hf : ∀ (fl' : Nat → Bool) s h (K K' : AExit → Slots → Heap → Prop), Frm W s0 s → (∀ x s h, Frm W s0 s → K x s h → K' x s h) → (prunOps C h.length fl' ⟨[], none⟩ asg s h fun s' h' => pexec Cd C body fl' s' h' K) → prunOps C h.length fl' ⟨[], none⟩ asg s h fun s' h' => pexec Cd C body fl' s' h' K' := fun fl' s h K K' hs hk hp =>
      prunOps_mono hC _ _ _ _ _ _ (fun s h hq => mono _ _ _ _ _ _ (fun x s h hh => hk x s h hh.1 hh.2) (ih fl' s h K (fun t ht => hW t (.inr ht)) hq.1 hq.2)) (prunOps_frame hC asg _ _ _ _ (fun t ht => hW t (.inl (.inl (.inr ht)))) hs hp)
    refine prunOps_mono hC _ _ _ _ _ _ (fun s h hq => ?_) (prunOps_frame hC pre _ _ _ _ (fun t ht => hW t (.inl (.inl (.inl ht)))) hs hp)
    obtain ⟨hs, hq⟩ := hq
    split at hq
    · rename_i hM
      obtain ⟨id, l, h1, h2, h3⟩ := hq
      rw [if_pos hM]
      exact ⟨id, l, h1, h2, prngM_frame (hf _) (hW _ (by simp)) (hW _ (by simp)) (hW _ (by simp)) _ _ _ _ (hs.upd (hW _ (by simp))) h3⟩
    · rename_i hM
      obtain ⟨t, h1, h3⟩ := hq
      rw [if_neg hM]
      exact ⟨t, h1, prngS_frame (hf _) (hW _ (by simp)) (hW _ (by simp)) _ _ _ (hs.upd (hW _ (by simp))) h3⟩
  | seq a b iha ihb =>
    intro fl s h K hW hs hp
    simp only [wrs, List.mem_append] at hW
    refine mono a fl s h _ _ (fun x s h hq => ?_) (iha fl s h _ (fun t ht => hW t (.inl ht)) hs hp)
    obtain ⟨hs, hq⟩ := hq
    cases x with
    | normal => exact ihb fl s h K (fun t ht => hW t (.inr ht)) hs hq
    | exit id => exact ⟨hs, hq⟩
    | ret => exact ⟨hs, hq⟩
  | cond c a b iha ihb =>
    intro fl s h K hW hs hp
    simp only [wrs, List.mem_append] at hW
    obtain ⟨t, ht, h1, h2⟩ := hp
    exact ⟨t, ht, fun e => iha fl s h K (fun t ht => hW t (.inl ht)) hs (h1 e), fun e => ihb fl s h K (fun t ht => hW t (.inr ht)) hs (h2 e)⟩
  | block id a iha =>
    intro fl s h K hW hs hp
    refine mono a fl s h _ _ (fun x s h hq => ?_) (iha fl s h _ hW hs hp)
    obtain ⟨hs, hq⟩ := hq
    cases x with
    | normal => exact ⟨hs, hq⟩
    | exit j =>
      simp only [AExit.inBlk] at hq ⊢
      split at hq
      · rename_i hj; rw [if_pos hj]; exact ⟨hs, hq⟩
      · rename_i hj; rw [if_neg hj]; exact ⟨hs, hq⟩
    | ret => exact ⟨hs, hq⟩
  | loop a iha =>
    intro fl s h K hW hs hp
    intro I hI
    refine hp (fun s h => Frm W s0 s → I s h) (fun s h hb hs => hI s h (mono a fl s h _ _ (fun x s h hq => ?_) (iha fl s h _ hW hs hb))) hs
    obtain ⟨hs, hq⟩ := hq
    cases x with
    | normal => exact hq hs
    | exit id => exact ⟨hs, hq⟩
    | ret => exact ⟨hs, hq⟩
  | exit id => intro fl s h K hW hs hp; exact ⟨hs, hp⟩
  | scope a iha => intro fl s h K hW hs hp; exact iha fl s h K hW hs hp
  | ret => intro fl s h K hW hs hp; exact ⟨hs, hp⟩
  | bad => intro fl s h K hW hs hp; exact hp.elim

section
variable {X : XT} {F : FuncId → Option AFunc} {fl : Nat → Bool} {s : Slots} {h : Heap}

theorem AW.frame {c : ACode} {K : AExit → Slots → Heap → Prop} (hc : AW X F fl c s h fun x s' h' => (∀ t, t ∉ wrs c → s' t = s t) → K x s' h') : AW X F fl c s h K := by
  obtain ⟨x, nd⟩ := X
  cases nd with
  | false =>
    obtain ⟨n, x, s', h', e, k⟩ := hc
    exact ⟨n, x, s', h', e, k fun t ht => exec_frame c s h x s' h' e ht⟩
  | true =>
    exact pexec_mono (fun k => ⟨k, rfl⟩) pcall_mono _ _ _ _ _ _ (fun x s h hq => hq.2 hq.1) (pexec_frame pcall_mono (W := wrs c) (s0 := s) c fl s h _ (fun _ h => h) Frm.refl hc)

theorem AW_while {c : ACode} {K : AExit → Slots → Heap → Prop} (I : Nat → Slots → Heap → Prop) (n0 : Nat) (h0 : I n0 s h) (round : ∀ n s' h', I n s' h' → (∀ t, t ∉ wrs c → s' t = s t) → AW X F fl c s' h' (AExit.then (fun s2 h2 => ∃ m, m < n ∧ I m s2 h2) K)) : AW X F fl (.loop c) s h K := by
  refine AW_loop (fun n s' h' => I n s' h' ∧ ∀ t, t ∉ wrs c → s' t = s t) n0 ⟨h0, fun _ _ => rfl⟩ fun n s' h' ⟨hI, hs⟩ => ?_
  refine AW.frame ((round n s' h' hI hs).mono fun x s2 h2 k hf => ?_)
  cases x with
  | normal =>
    obtain ⟨m, hm, hI2⟩ := k
    exact ⟨m, hm, hI2, fun t ht => by rw [hf t ht, hs t ht]⟩
  | exit id => exact k
  | ret => exact k

def rangeCode (B Cn tc ti tl tn : Nat) (body : ACode) : ACode :=
  .block B (.loop (.seq (.ops [⟨some tc, .bin .lss (.tmp ti) (.tmp tl), none, true⟩])
    (.seq (.cond (.tmp tc) (.skip) (.exit B))
    (.seq (.block Cn body)
    (.ops [⟨some tn, .bin .add (.tmp ti) (.av (.val (.int .i64 1))), none, true⟩, ⟨some ti, .mv (.tmp tn), none, true⟩])))))

theorem AW_range {B Cn tc ti tl tn : Nat} {body : ACode} {K : AExit → Slots → Heap → Prop} (N : Nat) (hN : N < 9223372036854775807) (hti : s ti = I64 (0 : Nat)) (htl : s tl = I64 N) (h1 : tl ∉ wrs body) (h2 : ti ∉ wrs body) (h3 : tc ≠ ti ∧ tc ≠ tl ∧ tn ≠ ti ∧ tn ≠ tl ∧ ti ≠ tl)
    (I : Nat → Slots → Heap → Prop) (h0 : I 0 s h)
    (round : ∀ k s' h', k < N → I k s' h' → s' ti = I64 k → s' tl = I64 N → (∀ t, t ∉ wrs body → t ≠ tc → t ≠ ti → t ≠ tn → s' t = s t) →
      AW X F fl body (upd s' tc (BV true)) h' (AExit.inBlk Cn (AExit.then (fun s2 h2 => I (k + 1) (upd (upd s2 tn (I64 (k + 1 : Nat))) ti (I64 (k + 1 : Nat))) h2) (AExit.inBlk B K))))
    (done : ∀ s' h', I N s' h' → (∀ t, t ∉ wrs body → t ≠ tc → t ≠ ti → t ≠ tn → s' t = s t) → K .normal (upd s' tc (BV false)) h') : AW X F fl (rangeCode B Cn tc ti tl tn body) s h K := by
  obtain ⟨c1, c2, c3, c4, c5⟩ := h3
  refine AW_block.2 ?_
  refine AW_while (fun n s' h' => ∃ k, n = N - k ∧ k ≤ N ∧ I k s' h' ∧ s' ti = I64 k ∧ s' tl = I64 N) N ⟨0, by omega, Nat.zero_le _, h0, hti, htl⟩ fun n s' h' hI hs => ?_
  obtain ⟨k, rfl, hk, hIk, hik, hlk⟩ := hI
  have hst : ∀ t, t ∉ wrs body → t ≠ tc → t ≠ ti → t ≠ tn → s' t = s t := fun t q1 q2 q3 q4 => hs t (by simp [wrs, q1, q2, q3, q4])
  rw [AW_seq, AW_ops]
  refine AO_iso ?_
  refine ⟨BV (decide (k < N)), h', by simp [opEval, ev_tmp, hik, hlk, binV], ?_⟩
  dsimp only
  rw [AO_nil, then_normal, AW_seq, AW_cond]
  refine ⟨decide (k < N), by simp [ev_tmp, put_some, upd_at], fun ht => ?_, fun hf => ?_⟩
  · have hlt : k < N := by simpa using ht
    rw [AW_skip, then_normal, AW_seq, AW_block, ht, put_some]
    refine (AW.frame ((round k s' h' hlt hIk hik hlk hst).mono fun x s2 h2' kk hfr => ?_))
    have e1 : s2 ti = I64 k := by rw [hfr ti (by simpa [wrs] using h2), upd_at, if_neg (Ne.symm c1)]; exact hik
    have e2 : s2 tl = I64 N := by rw [hfr tl (by simpa [wrs] using h1), upd_at, if_neg (Ne.symm c2)]; exact hlk
    have go : I (k + 1) (upd (upd s2 tn (I64 (k + 1 : Nat))) ti (I64 (k + 1 : Nat))) h2' → AW X F fl (.ops [⟨some tn, .bin .add (.tmp ti) (.av (.val (.int .i64 1))), none, true⟩, ⟨some ti, .mv (.tmp tn), none, true⟩]) s2 h2'
        (AExit.then (fun s2 h2 => ∃ m, m < N - k ∧ ∃ k, m = N - k ∧ k ≤ N ∧ I k s2 h2 ∧ s2 ti = I64 k ∧ s2 tl = I64 N) (AExit.inBlk B K)) := by
      intro hI2
      rw [AW_ops]
      refine AO_iso ⟨I64 (k + 1 : Nat), h2', ?_, AO_iso ⟨I64 (k + 1 : Nat), h2', ?_, ?_⟩⟩
      · have w1 : IntKind.i64.wrap ((k : Int) + 1) = ((k + 1 : Nat) : Int) := by rw [IntWalk.i64_in _ (by omega)]; omega
        simp [opEval, ev_tmp, ev_av, e1, binV, w1]
      · simp [opEval, ev_tmp, put_some, upd_at]
      · dsimp only
        rw [AO_nil, then_normal]
        exact ⟨N - (k + 1), by omega, k + 1, rfl, by omega, hI2, by simp [put_some, upd_at], by simp [put_some, upd_at, Ne.symm c4, Ne.symm c5, e2]⟩
    cases x with
    | normal => exact go kk
    | exit j =>
      rw [inBlk_exit] at kk ⊢
      split at kk
      · rename_i hj; rw [if_pos hj]; exact go kk
      · rename_i hj; rw [if_neg hj]; exact kk
    | ret => exact kk
  · have hge : k = N := by
      have : ¬ k < N := by simpa using hf
      omega
    subst hge
    rw [AW_exit, then_exit, then_exit, inBlk_exit, if_pos rfl, hf, put_some]
    exact done s' h' hIk hst

theorem AW.named {c : ACode} {K : AExit → Slots → Heap → Prop} (hh : ∀ S, S = s → AW X F fl c S h K) : AW X F fl c s h K := hh s rfl
theorem AW_for {B Cn tc ti tl tn : Nat} {body : ACode} {K : AExit → Slots → Heap → Prop} (N : Nat) (hN : N < 9223372036854775807) (hti : s ti = I64 (0 : Nat)) (htl : s tl = I64 N) (h1 : (wrs body).contains tl = false) (h2 : (wrs body).contains ti = false) (h3 : tc ≠ ti ∧ tc ≠ tl ∧ tn ≠ ti ∧ tn ≠ tl ∧ ti ≠ tl)
    (I : Nat → Slots → Heap → Prop) (h0 : I 0 s h)
    (round : ∀ k s' h', k < N → I k s' h' → s' ti = I64 k → s' tl = I64 N → (∀ t, (wrs body ++ [tc, ti, tn]).contains t = false → s' t = s t) →
      AW X F fl body (upd s' tc (BV true)) h' (AExit.inBlk Cn (AExit.then (fun s2 h2 => I (k + 1) (upd (upd s2 tn (I64 (k + 1 : Nat))) ti (I64 (k + 1 : Nat))) h2) (AExit.inBlk B K))))
    (done : ∀ s' h', I N s' h' → (∀ t, (wrs body ++ [tc, ti, tn]).contains t = false → s' t = s t) → K .normal (upd s' tc (BV false)) h') : AW X F fl (rangeCode B Cn tc ti tl tn body) s h K := by
  have hc : ∀ (l : List Nat) t, l.contains t = false → t ∉ l := fun l t h hm => by
    have := List.contains_iff_mem.2 hm
    rw [h] at this; cases this
  have hcc : ∀ (s' : Slots), (∀ t, t ∉ wrs body → t ≠ tc → t ≠ ti → t ≠ tn → s' t = s t) → ∀ t, (wrs body ++ [tc, ti, tn]).contains t = false → s' t = s t := fun s' hs t ht => by
    have := hc _ _ ht
    simp only [List.mem_append, List.mem_cons, List.not_mem_nil, or_false, not_or] at this
    exact hs t this.1 this.2.1 this.2.2.1 this.2.2.2
  exact AW_range N hN hti htl (hc _ _ h1) (hc _ _ h2) h3 I h0 (fun k s' h' a b c d e => round k s' h' a b c d (hcc s' e)) (fun s' h' a b => done s' h' a (hcc s' b))

/-! ### Loops over a string, over a map -/
def RS (X : XT) (F : FuncId → Option AFunc) (fl : Nat → Bool) (asg : List AOper) (body : ACode) (nx more out nb : Nat) (K : AExit → Slots → Heap → Prop) : List (Nat × Nat) → Slots → Heap → Prop
  | [], s, h => K .normal (rngEnd nx more s) h
  | (p, c) :: r, s, h => AO X F h.length fl ⟨[], none⟩ asg (rngSetS nx more p c s) h fun s' h' => AW X F fl body s' h' (AExit.rng out nb (RS X F fl asg body nx more out nb K r) K)
def RM (X : XT) (F : FuncId → Option AFunc) (fl : Nat → Bool) (asg : List AOper) (body : ACode) (nx more pair out nb : Nat) (K : AExit → Slots → Heap → Prop) : Nat → List AV → Slots → Heap → Prop
  | 0, rem, s, h => rem = [] ∧ K .normal (rngEnd nx more s) h
  | n + 1, rem, s, h => rem.length = n + 1 ∧ ∀ (i : Nat) (k v : AV), rem[i]? = some (.tuple [k, v]) →
    AO X F h.length fl ⟨[], none⟩ asg (rngSetM nx more pair k v s) h fun s' h' => AW X F fl body s' h' (AExit.rng out nb (RM X F fl asg body nx more pair out nb K n (rem.eraseIdx i)) K)

theorem frm_it {W : List Nat} {s s' : Slots} (h : Frm W s s') {it : Nat} (hit : it ∉ W) {i0 : Nat} (hs : s it = .ptr i0 0) : s' it = .ptr i0 0 := (h it hit).trans hs

theorem AW_rngS {src : Opd} {it nx more pair out nb : Nat} {pre asg : List AOper} {body : ACode} {K : AExit → Slots → Heap → Prop} (hit : it ∉ asg.filterMap (·.dst) ∧ it ∉ wrs body ∧ it ≠ nx ∧ it ≠ more)
    (hp : AO X F h.length fl ⟨[], none⟩ pre s h fun s' h' => ∃ t, src.ev s' = .val (.string t) ∧ RS X F fl asg body nx more out nb K (runes t) (upd s' it (.ptr h'.length 0)) (h' ++ [none])) : AW X F fl (.rng false src it nx more pair out nb pre asg body) s h K := by
  obtain ⟨t1, t2, t3, t4⟩ := hit
  obtain ⟨x, nd⟩ := X
  cases nd with
  | true =>
    show pexec _ _ _ _ _ _ _
    simp only [pexec, Bool.false_eq_true, if_false]
    have key : ∀ (i0 : Nat) (l : List (Nat × Nat)) (s : Slots) (h : Heap), s it = .ptr i0 0 → RS ⟨x, true⟩ F fl asg body nx more out nb K l s h → prngS (fun s h K => prunOps (pcall x F) h.length fl ⟨[], none⟩ asg s h fun s' h' => pexec (call x F) (pcall x F) body fl s' h' K) it i0 nx more out nb K l s h := by
      intro i0 l
      induction l with
      | nil => intro s h hs hr; exact ⟨by rw [hs]; simp [isIt], hr⟩
      | cons pc l ih =>
        obtain ⟨p, c⟩ := pc
        intro s h hs hr
        refine ⟨by rw [hs]; simp [isIt], ?_⟩
        have hs1 : rngSetS nx more p c s it = .ptr i0 0 := by simp only [rngSetS, upd_at, if_neg t4, if_neg t3, hs]
        refine prunOps_mono pcall_mono _ _ _ _ _ _ (fun s' h' hq => ?_) (prunOps_frame pcall_mono (W := asg.filterMap (·.dst)) (s0 := rngSetS nx more p c s) asg _ _ _ _ (fun _ h => h) Frm.refl hr)
        obtain ⟨hf, hq⟩ := hq
        have hs2 := frm_it hf t1 hs1
        refine pexec_mono (fun k => ⟨k, rfl⟩) pcall_mono _ _ _ _ _ _ (fun x s2 h2 hq => ?_) (pexec_frame pcall_mono (W := wrs body) (s0 := s') body fl s' h' _ (fun _ h => h) Frm.refl hq)
        obtain ⟨hf2, hq⟩ := hq
        have hs3 := frm_it hf2 t2 hs2
        cases x with
        | normal => exact ih s2 h2 hs3 hq
        | exit j =>
          simp only [AExit.rng] at hq ⊢
          split at hq
          · rename_i hj; rw [if_pos hj]; exact ih s2 h2 hs3 hq
          · rename_i hj; rw [if_neg hj]; exact hq
        | ret => exact hq
    refine prunOps_mono pcall_mono _ _ _ _ _ _ (fun s' h' hq => ?_) hp
    obtain ⟨t, h1, h2⟩ := hq
    exact ⟨t, h1, key _ _ _ _ (by rw [upd_at, if_pos rfl]) h2⟩
  | false =>
    have key : ∀ (i0 : Nat) (l : List (Nat × Nat)) (s : Slots) (h : Heap), s it = .ptr i0 0 → RS ⟨x, false⟩ F fl asg body nx more out nb K l s h → ∃ n y s' h', rngS (fun s h => match runOps (call x F n) h.length fl ⟨[], none⟩ asg s h with
        | some (s', h') => exec (call x F n) n fl body s' h'
        | none => none) it i0 nx more out nb l s h = some (y, s', h') ∧ K y s' h' := by
      intro i0 l
      induction l with
      | nil => intro s h hs hr; exact ⟨0, .normal, _, h, by simp [rngS, hs, isIt], hr⟩
      | cons pc l ih =>
        obtain ⟨p, c⟩ := pc
        intro s h hs hr
        have hs1 : rngSetS nx more p c s it = .ptr i0 0 := by simp only [rngSetS, upd_at, if_neg t4, if_neg t3, hs]
        obtain ⟨n1, s1, h1, e1, n2, y, s2, h2, e2, hq⟩ := hr
        have hs2 : s1 it = .ptr i0 0 := (runOps_frame _ _ _ _ _ _ e1 t1).trans hs1
        have hs3 : s2 it = .ptr i0 0 := (exec_frame _ _ _ _ _ _ e2 t2).trans hs2
        have one : ∀ n, n1 ≤ n → n2 ≤ n → (match runOps (call x F n) h.length fl ⟨[], none⟩ asg (rngSetS nx more p c s) h with
            | some (s', h') => exec (call x F n) n fl body s' h'
            | none => none) = some (y, s2, h2) := fun n q1 q2 => by
          rw [runOps_mono (call_mono q1) _ _ _ _ _ e1]
          exact exec_mono (call_mono q2) q2 _ _ _ _ e2
        have go : RS ⟨x, false⟩ F fl asg body nx more out nb K l s2 h2 → (∀ n r, n1 ≤ n → n2 ≤ n → rngS (fun s h => match runOps (call x F n) h.length fl ⟨[], none⟩ asg s h with
            | some (s', h') => exec (call x F n) n fl body s' h'
            | none => none) it i0 nx more out nb l s2 h2 = some r → rngS (fun s h => match runOps (call x F n) h.length fl ⟨[], none⟩ asg s h with
            | some (s', h') => exec (call x F n) n fl body s' h'
            | none => none) it i0 nx more out nb ((p, c) :: l) s h = some r) → ∃ n y s' h', rngS (fun s h => match runOps (call x F n) h.length fl ⟨[], none⟩ asg s h with
            | some (s', h') => exec (call x F n) n fl body s' h'
            | none => none) it i0 nx more out nb ((p, c) :: l) s h = some (y, s', h') ∧ K y s' h' := by
          intro hr2 hstep
          obtain ⟨n3, y3, s3, h3, e3, k3⟩ := ih s2 h2 hs3 hr2
          have hm : n3 ≤ max n1 (max n2 n3) := by omega
          refine ⟨max n1 (max n2 n3), y3, s3, h3, hstep _ _ (by omega) (by omega) (rngS_mono (fun s h r he => ?_) _ _ _ _ e3), k3⟩
          split at he
          · rename_i s4 h4 e4
            rw [runOps_mono (call_mono hm) _ _ _ _ _ e4]
            exact exec_mono (call_mono hm) hm _ _ _ _ he
          · cases he
        cases y with
        | normal => exact go hq fun n r q1 q2 hr => by simp only [rngS, hs, isIt, beq_self_eq_true, if_true]; rw [one n q1 q2]; exact hr
        | exit j =>
          simp only [AExit.rng] at hq
          split at hq
          · rename_i hj; exact go hq fun n r q1 q2 hr => by simp only [rngS, hs, isIt, beq_self_eq_true, if_true]; rw [one n q1 q2]; simp only; rw [if_pos hj]; exact hr
          · rename_i hj
            split at hq
            · rename_i ho
              exact ⟨max n1 n2, .normal, s2, h2, by simp only [rngS, hs, isIt, beq_self_eq_true, if_true]; rw [one _ (by omega) (by omega)]; simp only; rw [if_neg hj, if_pos ho], hq⟩
            · rename_i ho
              exact ⟨max n1 n2, .exit j, s2, h2, by simp only [rngS, hs, isIt, beq_self_eq_true, if_true]; rw [one _ (by omega) (by omega)]; simp only; rw [if_neg hj, if_neg ho], hq⟩
        | ret => exact ⟨max n1 n2, .ret, s2, h2, by simp only [rngS, hs, isIt, beq_self_eq_true, if_true]; rw [one _ (by omega) (by omega)], hq⟩
    obtain ⟨n1, s1, h1, e1, t, hsrc, hr⟩ := hp
    obtain ⟨n2, y, s2, h2, e2, k⟩ := key h1.length _ _ _ (by rw [upd_at, if_pos rfl]) hr
    refine ⟨max n1 n2, y, s2, h2, ?_, k⟩
    have m1 : n1 ≤ max n1 n2 := by omega
    have m2 : n2 ≤ max n1 n2 := by omega
    simp only [exec]
    rw [runOps_mono (call_mono m1) _ _ _ _ _ e1]
    simp only [Bool.false_eq_true, if_false, hsrc]
    refine rngS_mono (fun s h r he => ?_) _ _ _ _ e2
    split at he
    · rename_i s4 h4 e4
      rw [runOps_mono (call_mono m2) _ _ _ _ _ e4]
      exact exec_mono (call_mono m2) m2 _ _ _ _ he
    · cases he

theorem AW_rngM0 {src : Opd} {it nx more pair out nb : Nat} {pre asg : List AOper} {body : ACode} {K : AExit → Slots → Heap → Prop}
    (hp : AO X F h.length fl ⟨[], none⟩ pre s h fun s' h' => ∃ id, src.ev s' = .mp id ∧ blk h' id = some [] ∧ K .normal (rngEnd nx more (upd s' it (.ptr h'.length 0))) (h' ++ [none])) : AW X F fl (.rng true src it nx more pair out nb pre asg body) s h K := by
  obtain ⟨x, nd⟩ := X
  cases nd with
  | true =>
    show pexec _ _ _ _ _ _ _
    simp only [pexec, if_true]
    refine prunOps_mono pcall_mono _ _ _ _ _ _ (fun s' h' hq => ?_) hp
    obtain ⟨id, h1, h2, h3⟩ := hq
    exact ⟨id, [], h1, h2, by rw [upd_at, if_pos rfl]; simp [isIt], rfl, h3⟩
  | false =>
    obtain ⟨n1, s1, h1, e1, id, hsrc, hb, k⟩ := hp
    refine ⟨n1, .normal, _, _, ?_, k⟩
    simp only [exec]
    rw [e1]
    simp only [if_true, hsrc, hb]
theorem AW_rngM {x : CallT} {src : Opd} {it nx more pair out nb : Nat} {pre asg : List AOper} {body : ACode} {K : AExit → Slots → Heap → Prop} (hit : it ∉ asg.filterMap (·.dst) ∧ it ∉ wrs body ∧ it ≠ nx ∧ it ≠ more ∧ it ≠ pair)
    (hp : AO (ndX x) F h.length fl ⟨[], none⟩ pre s h fun s' h' => ∃ id l, src.ev s' = .mp id ∧ blk h' id = some l ∧ RM (ndX x) F (fun i => fl i && !(i == id)) asg body nx more pair out nb K l.length l (upd s' it (.ptr h'.length 0)) (h' ++ [none])) : AW (ndX x) F fl (.rng true src it nx more pair out nb pre asg body) s h K := by
  obtain ⟨t1, t2, t3, t4, t5⟩ := hit
  show pexec _ _ _ _ _ _ _
  simp only [pexec, if_true]
  have key : ∀ (fl' : Nat → Bool) (i0 : Nat) (n : Nat) (rem : List AV) (s : Slots) (h : Heap), s it = .ptr i0 0 → RM (ndX x) F fl' asg body nx more pair out nb K n rem s h → prngM (fun s h K => prunOps (pcall x F) h.length fl' ⟨[], none⟩ asg s h fun s' h' => pexec (call x F) (pcall x F) body fl' s' h' K) it i0 nx more pair out nb K n rem s h := by
    intro fl' i0 n
    induction n with
    | zero => intro rem s h hs hr; exact ⟨by rw [hs]; simp [isIt], hr⟩
    | succ n ih =>
      intro rem s h hs hr
      refine ⟨by rw [hs]; simp [isIt], hr.1, fun i k v hi => ?_⟩
      have hr2 := hr.2 i k v hi
      have hs1 : rngSetM nx more pair k v s it = .ptr i0 0 := by simp only [rngSetM, upd_at, if_neg t5, if_neg t4, if_neg t3, hs]
      refine prunOps_mono pcall_mono _ _ _ _ _ _ (fun s' h' hq => ?_) (prunOps_frame pcall_mono (W := asg.filterMap (·.dst)) (s0 := rngSetM nx more pair k v s) asg _ _ _ _ (fun _ h => h) Frm.refl hr2)
      obtain ⟨hf, hq⟩ := hq
      have hs2 := frm_it hf t1 hs1
      refine pexec_mono (fun k => ⟨k, rfl⟩) pcall_mono _ _ _ _ _ _ (fun x s2 h2 hq => ?_) (pexec_frame pcall_mono (W := wrs body) (s0 := s') body fl' s' h' _ (fun _ h => h) Frm.refl hq)
      obtain ⟨hf2, hq⟩ := hq
      have hs3 := frm_it hf2 t2 hs2
      cases x with
      | normal => exact ih _ s2 h2 hs3 hq
      | exit j =>
        simp only [AExit.rng] at hq ⊢
        split at hq
        · rename_i hj; rw [if_pos hj]; exact ih _ s2 h2 hs3 hq
        · rename_i hj; rw [if_neg hj]; exact hq
      | ret => exact hq
  refine prunOps_mono pcall_mono _ _ _ _ _ _ (fun s' h' hq => ?_) hp
  obtain ⟨id, l, h1, h2, h3⟩ := hq
  exact ⟨id, l, h1, h2, key _ _ _ _ _ _ (by rw [upd_at, if_pos rfl]) h3⟩
end
end Go.Proofs.Ytfmllmcjinjfaaa

namespace Go.Proofs.Ytfmllmcjinjfaaa
open Go Go.RowKit
set_option linter.unusedVariables false
set_option linter.unusedSimpArgs false
section
variable {X : XT} {F : FuncId → Option AFunc} {top : Option (Nat × Option (List Nat))} {fl : Nat → Bool} {s : Slots} {h : Heap} {K : AV → Heap → Prop}

theorem A1_mv {x : Opd} : A1 X F top fl (.mv x) s h K ↔ K (x.ev s) h := by
  simp only [A1, opEval, Option.some.injEq, Prod.mk.injEq]
  exact ⟨fun ⟨_, _, ⟨e1, e2⟩, k⟩ => by subst e1; subst e2; exact k, fun k => ⟨_, _, ⟨rfl, rfl⟩, k⟩⟩
theorem A1_pick {c a b : Opd} : A1 X F top fl (.pick c a b) s h K ↔ ∃ t, c.ev s = .val (.bool t) ∧ K (if t = true then a.ev s else b.ev s) h := by
  simp only [A1, opEval]
  constructor
  · rintro ⟨v, h', e, k⟩
    split at e
    · rename_i t ht
      simp only [Option.some.injEq, Prod.mk.injEq] at e
      obtain ⟨rfl, rfl⟩ := e
      exact ⟨t, ht, k⟩
    · cases e
  · rintro ⟨t, ht, k⟩
    exact ⟨_, _, by rw [ht], k⟩
theorem A1_box {n : Nat} {x : Opd} : A1 X F top fl (.box n x) s h K ↔ ((x.ev s).cells.length = n ∧ (x.ev s).cells.all AV.isCell = true) ∧ K (.ptr h.length 0) (h ++ [some (x.ev s).cells]) := by
  simp only [A1, opEval]
  constructor
  · rintro ⟨v, h', e, k⟩
    split at e
    · simp only [Option.some.injEq, Prod.mk.injEq] at e
      obtain ⟨rfl, rfl⟩ := e
      exact ⟨by assumption, k⟩
    · cases e
  · rintro ⟨hc, k⟩
    exact ⟨_, _, by rw [if_pos hc], k⟩
theorem A1_zero {cs : List AV} : A1 X F top fl (.zero cs) s h K ↔ K (.ptr h.length 0) (h ++ [some cs]) := by
  simp only [A1, opEval, Option.some.injEq, Prod.mk.injEq]
  exact ⟨fun ⟨_, _, ⟨e1, e2⟩, k⟩ => by subst e1; subst e2; exact k, fun k => ⟨_, _, ⟨rfl, rfl⟩, k⟩⟩
theorem A1_build {z : List AV} {ps : List (Nat × Nat × Opd)} : A1 X F top fl (.build z ps) s h K ↔ ∃ cs, fillA z (ps.map fun p => (p.1, p.2.1, p.2.2.ev s)) = some cs ∧ K (.agg cs) h := by
  simp only [A1, opEval]
  constructor
  · rintro ⟨v, h', e, k⟩
    split at e
    · rename_i cs hcs
      simp only [Option.some.injEq, Prod.mk.injEq] at e
      obtain ⟨rfl, rfl⟩ := e
      exact ⟨cs, hcs, k⟩
    · cases e
  · rintro ⟨cs, hcs, k⟩
    exact ⟨_, _, by rw [hcs], k⟩
theorem A1_lits {k len : Nat} {z : List AV} {ps : List (Nat × Nat × Opd)} : A1 X F top fl (.lits k len z ps) s h K ↔ ∃ cs, fillA z (ps.map fun p => (p.1, p.2.1, p.2.2.ev s)) = some cs ∧ cs.all AV.isCell = true ∧ K (.slice h.length 0 len len true k) (h ++ [some cs]) := by
  simp only [A1, opEval]
  constructor
  · rintro ⟨v, h', e, kk⟩
    split at e
    · rename_i cs hcs
      split at e
      · rename_i ha
        simp only [Option.some.injEq, Prod.mk.injEq] at e
        obtain ⟨rfl, rfl⟩ := e
        exact ⟨cs, hcs, ha, kk⟩
      · cases e
    · cases e
  · rintro ⟨cs, hcs, ha, kk⟩
    exact ⟨_, _, by rw [hcs]; simp only; rw [if_pos ha], kk⟩
def ldA (h : Heap) (id off : Nat) : Option Nat → Option AV
  | none => rd1 h id off
  | some n => match rd h id off n with
    | some cs => some (.agg cs)
    | none => none
theorem A1_load {n : Option Nat} {x : Opd} : A1 X F top fl (.load n x) s h K ↔ ∃ id off v, x.ev s = .ptr id off ∧ shallowOk top id = true ∧ ldA h id off n = some v ∧ K v h := by
  simp only [A1, opEval]
  constructor
  · rintro ⟨v, h', e, k⟩
    split at e
    · rename_i id off hp
      split at e
      · rename_i hs
        split at e
        · rename_i n
          split at e
          · rename_i cs hcs
            simp only [Option.some.injEq, Prod.mk.injEq] at e
            obtain ⟨rfl, rfl⟩ := e
            exact ⟨id, off, _, hp, hs, by simp only [ldA, hcs], k⟩
          · cases e
        · split at e
          · rename_i u hu
            simp only [Option.some.injEq, Prod.mk.injEq] at e
            obtain ⟨rfl, rfl⟩ := e
            exact ⟨id, off, _, hp, hs, hu, k⟩
          · cases e
      · cases e
    · cases e
  · rintro ⟨id, off, v, hp, hs, hv, k⟩
    cases n with
    | none => exact ⟨v, h, by rw [hp]; simp only; rw [if_pos hs]; simp only [ldA] at hv; simp only [hv], k⟩
    | some n =>
      simp only [ldA] at hv
      split at hv
      · rename_i cs hcs
        injection hv with hv
        exact ⟨v, h, by rw [hp]; simp only; rw [if_pos hs, hcs]; simp only [hv], k⟩
      · cases hv
theorem shallow_none {id : Nat} : (shallowOk none id = true) = True := by simp [shallowOk]
theorem A1_store {n : Nat} {a v : Opd} : A1 X F top fl (.store n a v) s h K ↔ ∃ id off h', a.ev s = .ptr id off ∧ ((v.ev s).cells.length = n ∧ (v.ev s).cells.all AV.isCell = true) ∧ wr fl h id off (v.ev s).cells = some h' ∧ K .no h' := by
  simp only [A1, opEval]
  constructor
  · rintro ⟨u, h', e, k⟩
    split at e
    · rename_i id off hp
      split at e
      · rename_i hc
        split at e
        · rename_i h1 hw
          simp only [Option.some.injEq, Prod.mk.injEq] at e
          obtain ⟨rfl, rfl⟩ := e
          exact ⟨id, off, h1, hp, hc, hw, k⟩
        · cases e
      · cases e
    · cases e
  · rintro ⟨id, off, h1, hp, hc, hw, k⟩
    exact ⟨_, h1, by rw [hp]; simp only; rw [if_pos hc, hw], k⟩
def nilOkA : AV → Bool
  | .ptr _ _ => true
  | .func _ _ => true
  | .bfunc _ _ _ => true
  | _ => false
theorem nilOk_ptr {id off : Nat} : nilOkA (.ptr id off) = true := rfl
theorem nilOk_func {f : FuncId} {cs : List AV} : nilOkA (.func f cs) = true := rfl
theorem A1_nilCheckI {x : Opd} : A1 X F top fl (.nilCheck x) s h K ↔ nilOkA (x.ev s) = true ∧ K (x.ev s) h := by
  simp only [A1, opEval]
  constructor
  · rintro ⟨v, h', e, k⟩
    split at e
    · rename_i id off hp
      simp only [Option.some.injEq, Prod.mk.injEq] at e
      obtain ⟨rfl, rfl⟩ := e
      exact ⟨by rw [hp]; rfl, by rw [hp]; exact k⟩
    · rename_i f cs hp
      simp only [Option.some.injEq, Prod.mk.injEq] at e
      obtain ⟨rfl, rfl⟩ := e
      exact ⟨by rw [hp]; rfl, by rw [hp]; exact k⟩
    · rename_i f a cs hp
      simp only [Option.some.injEq, Prod.mk.injEq] at e
      obtain ⟨rfl, rfl⟩ := e
      exact ⟨by rw [hp]; rfl, by rw [hp]; exact k⟩
    · cases e
  · rintro ⟨hn, k⟩
    cases hx : x.ev s with
    | ptr id off => rw [hx] at k; exact ⟨_, _, rfl, k⟩
    | func f cs => rw [hx] at k; exact ⟨_, _, rfl, k⟩
    | bfunc f a cs => rw [hx] at k; exact ⟨_, _, rfl, k⟩
    | _ => rw [hx] at hn; cases hn
theorem A1_bin {op : BinOp} {x y : Opd} : A1 X F top fl (.bin op x y) s h K ↔ ∃ a b v, x.ev s = .val a ∧ y.ev s = .val b ∧ binV op a b = some v ∧ K (.val v) h := by
  simp only [A1, opEval]
  constructor
  · rintro ⟨v, h', e, k⟩
    split at e
    · rename_i a b ha hb
      split at e
      · rename_i u hu
        simp only [Option.some.injEq, Prod.mk.injEq] at e
        obtain ⟨rfl, rfl⟩ := e
        exact ⟨a, b, u, ha, hb, hu, k⟩
      · cases e
    · cases e
  · rintro ⟨a, b, v, ha, hb, hv, k⟩
    exact ⟨_, h, by rw [ha, hb]; simp only [hv], k⟩
theorem A1_eqNil {neg : Bool} {kd : Nat} {x : Opd} : A1 X F top fl (.eqNil neg kd x) s h K ↔ ∃ b, nilness kd (x.ev s) = some b ∧ K (BV (if neg = true then !b else b)) h := by
  simp only [A1, opEval]
  constructor
  · rintro ⟨v, h', e, k⟩
    split at e
    · rename_i b hb
      simp only [Option.some.injEq, Prod.mk.injEq] at e
      obtain ⟨rfl, rfl⟩ := e
      exact ⟨b, hb, k⟩
    · cases e
  · rintro ⟨b, hb, k⟩
    exact ⟨_, h, by rw [hb], k⟩
theorem A1_eqBool {neg : Bool} {x y : Opd} : A1 X F top fl (.eqBool neg x y) s h K ↔ ∃ a b, x.ev s = BV a ∧ y.ev s = BV b ∧ K (BV (if neg = true then !(a == b) else a == b)) h := by
  simp only [A1, opEval]
  constructor
  · rintro ⟨v, h', e, k⟩
    split at e
    · rename_i a b ha hb
      simp only [Option.some.injEq, Prod.mk.injEq] at e
      obtain ⟨rfl, rfl⟩ := e
      exact ⟨a, b, ha, hb, k⟩
    · cases e
  · rintro ⟨a, b, ha, hb, k⟩
    exact ⟨_, h, by rw [ha, hb], k⟩
theorem A1_eqAgg {neg : Bool} {ks : List Nat} {x y : Opd} : A1 X F top fl (.eqAgg neg ks x y) s h K ↔ ∃ a b t, x.ev s = .agg a ∧ y.ev s = .agg b ∧ sameCells ks a b = some t ∧ K (BV (if neg = true then !t else t)) h := by
  simp only [A1, opEval]
  constructor
  · rintro ⟨v, h', e, k⟩
    split at e
    · rename_i a b ha hb
      split at e
      · rename_i t ht
        simp only [Option.some.injEq, Prod.mk.injEq] at e
        obtain ⟨rfl, rfl⟩ := e
        exact ⟨a, b, t, ha, hb, ht, k⟩
      · cases e
    · cases e
  · rintro ⟨a, b, t, ha, hb, ht, k⟩
    exact ⟨_, h, by rw [ha, hb]; simp only [ht], k⟩
theorem A1_un {op : UnOp} {x : Opd} : A1 X F top fl (.un op x) s h K ↔ ∃ a v, x.ev s = .val a ∧ unV op a = some v ∧ K (.val v) h := by
  simp only [A1, opEval]
  constructor
  · rintro ⟨v, h', e, k⟩
    split at e
    · rename_i a ha
      split at e
      · rename_i u hu
        simp only [Option.some.injEq, Prod.mk.injEq] at e
        obtain ⟨rfl, rfl⟩ := e
        exact ⟨a, u, ha, hu, k⟩
      · cases e
    · cases e
  · rintro ⟨a, v, ha, hv, k⟩
    exact ⟨_, h, by rw [ha]; simp only [hv], k⟩
theorem A1_conv {kd : IntKind} {x : Opd} : A1 X F top fl (.conv kd x) s h K ↔ ∃ k' n, x.ev s = .val (.int k' n) ∧ K (.val (.int kd (kd.wrap n))) h := by
  simp only [A1, opEval]
  constructor
  · rintro ⟨v, h', e, k⟩
    split at e
    · rename_i k' n ha
      simp only [Option.some.injEq, Prod.mk.injEq] at e
      obtain ⟨rfl, rfl⟩ := e
      exact ⟨k', n, ha, k⟩
    · cases e
  · rintro ⟨k', n, ha, k⟩
    exact ⟨_, h, by rw [ha], k⟩
theorem A1_field {off : Nat} {n : Option Nat} {x : Opd} : A1 X F top fl (.field off n x) s h K ↔ ∃ cs v, x.ev s = .agg cs ∧ partA cs off n = some v ∧ K v h := by
  simp only [A1, opEval]
  constructor
  · rintro ⟨v, h', e, k⟩
    split at e
    · rename_i cs ha
      split at e
      · rename_i u hu
        simp only [Option.some.injEq, Prod.mk.injEq] at e
        obtain ⟨rfl, rfl⟩ := e
        exact ⟨cs, u, ha, hu, k⟩
      · cases e
    · cases e
  · rintro ⟨cs, v, ha, hv, k⟩
    exact ⟨_, h, by rw [ha]; simp only [hv], k⟩
theorem A1_fieldAddr {off : Nat} {x : Opd} : A1 X F top fl (.fieldAddr off x) s h K ↔ ∃ id o, x.ev s = .ptr id o ∧ K (.ptr id (o + off)) h := by
  simp only [A1, opEval]
  constructor
  · rintro ⟨v, h', e, k⟩
    split at e
    · rename_i id o ha
      simp only [Option.some.injEq, Prod.mk.injEq] at e
      obtain ⟨rfl, rfl⟩ := e
      exact ⟨id, o, ha, k⟩
    · cases e
  · rintro ⟨id, o, ha, k⟩
    exact ⟨_, h, by rw [ha], k⟩
theorem A1_indexAddr {kk : Nat} {x i : Opd} : A1 X F top fl (.indexAddr kk x i) s h K ↔ ∃ id off len lb ex k' j, x.ev s = .slice id off len lb ex k' ∧ natOfA (i.ev s) = some j ∧ j < len ∧ K (.ptr id (off + j * kk)) h := by
  simp only [A1, opEval]
  constructor
  · rintro ⟨v, h', e, k⟩
    split at e
    · rename_i id off len lb ex k' j ha hj
      split at e
      · rename_i hlt
        simp only [Option.some.injEq, Prod.mk.injEq] at e
        obtain ⟨rfl, rfl⟩ := e
        exact ⟨id, off, len, lb, ex, k', j, ha, hj, hlt, k⟩
      · cases e
    · cases e
  · rintro ⟨id, off, len, lb, ex, k', j, ha, hj, hlt, k⟩
    exact ⟨_, h, by rw [ha, hj]; simp only; rw [if_pos hlt], k⟩
theorem A1_indexArr {kk len : Nat} {x i : Opd} : A1 X F top fl (.indexArr kk len x i) s h K ↔ ∃ id off j, x.ev s = .ptr id off ∧ natOfA (i.ev s) = some j ∧ j < len ∧ K (.ptr id (off + j * kk)) h := by
  simp only [A1, opEval]
  constructor
  · rintro ⟨v, h', e, k⟩
    split at e
    · rename_i id off j ha hj
      split at e
      · rename_i hlt
        simp only [Option.some.injEq, Prod.mk.injEq] at e
        obtain ⟨rfl, rfl⟩ := e
        exact ⟨id, off, j, ha, hj, hlt, k⟩
      · cases e
    · cases e
  · rintro ⟨id, off, j, ha, hj, hlt, k⟩
    exact ⟨_, h, by rw [ha, hj]; simp only; rw [if_pos hlt], k⟩
theorem A1_index {kk len : Nat} {n : Option Nat} {x i : Opd} : A1 X F top fl (.index kk len n x i) s h K ↔ ∃ cs j v, x.ev s = .agg cs ∧ natOfA (i.ev s) = some j ∧ j < len ∧ partA cs (j * kk) n = some v ∧ K v h := by
  simp only [A1, opEval]
  constructor
  · rintro ⟨v, h', e, k⟩
    split at e
    · rename_i cs j ha hj
      split at e
      · rename_i hlt
        split at e
        · rename_i u hu
          simp only [Option.some.injEq, Prod.mk.injEq] at e
          obtain ⟨rfl, rfl⟩ := e
          exact ⟨cs, j, u, ha, hj, hlt, hu, k⟩
        · cases e
      · cases e
    · cases e
  · rintro ⟨cs, j, v, ha, hj, hlt, hv, k⟩
    exact ⟨_, h, by rw [ha, hj]; simp only; rw [if_pos hlt, hv], k⟩
theorem A1_slice {kk : Nat} {x : Opd} {lo hi mx : Option Opd} : A1 X F top fl (.slice kk x lo hi mx) s h K ↔ ∃ v, sliceA kk (x.ev s) (lo.map (·.ev s)) (hi.map (·.ev s)) (mx.map (·.ev s)) = some v ∧ K v h := by
  simp only [A1, opEval]
  constructor
  · rintro ⟨v, h', e, k⟩
    split at e
    · rename_i u hu
      simp only [Option.some.injEq, Prod.mk.injEq] at e
      obtain ⟨rfl, rfl⟩ := e
      exact ⟨u, hu, k⟩
    · cases e
  · rintro ⟨v, hv, k⟩
    exact ⟨_, h, by rw [hv], k⟩
theorem A1_mkSlice {kk bytes : Nat} {z : List AV} {l c : Opd} : A1 X F top fl (.mkSlice kk bytes z l c) s h K ↔ ∃ a b, natOfA (l.ev s) = some a ∧ natOfA (c.ev s) = some b ∧ (a ≤ b ∧ b * bytes ≤ reach) ∧ K (.slice h.length 0 a a (a == b) kk) (h ++ [some (List.replicate a z).flatten]) := by
  simp only [A1, opEval]
  constructor
  · rintro ⟨v, h', e, k⟩
    split at e
    · rename_i a b ha hb
      split at e
      · rename_i hc
        simp only [Option.some.injEq, Prod.mk.injEq] at e
        obtain ⟨rfl, rfl⟩ := e
        exact ⟨a, b, ha, hb, hc, k⟩
      · cases e
    · cases e
  · rintro ⟨a, b, ha, hb, hc, k⟩
    exact ⟨_, _, by rw [ha, hb]; simp only; rw [if_pos hc], k⟩
theorem A1_extract {i : Nat} {x : Opd} : A1 X F top fl (.extract i x) s h K ↔ ∃ vs v, x.ev s = .tuple vs ∧ vs[i]? = some v ∧ K v h := by
  simp only [A1, opEval]
  constructor
  · rintro ⟨v, h', e, k⟩
    split at e
    · rename_i vs ha
      split at e
      · rename_i u hu
        simp only [Option.some.injEq, Prod.mk.injEq] at e
        obtain ⟨rfl, rfl⟩ := e
        exact ⟨vs, u, ha, hu, k⟩
      · cases e
    · cases e
  · rintro ⟨vs, v, ha, hv, k⟩
    exact ⟨_, h, by rw [ha]; simp only [hv], k⟩
theorem A1_func {f : FuncId} {caps : List Opd} : A1 X F top fl (.func f caps) s h K ↔ K (.func f (caps.map (·.ev s))) h := by
  simp only [A1, opEval, Option.some.injEq, Prod.mk.injEq]
  exact ⟨fun ⟨_, _, ⟨e1, e2⟩, k⟩ => by subst e1; subst e2; exact k, fun k => ⟨_, _, ⟨rfl, rfl⟩, k⟩⟩
theorem A1_call {f : Opd} {args : List Opd} : A1 X F top fl (.call f args) s h K ↔ ∃ g vs, callee (f.ev s) (args.map (·.ev s)) = some (g, vs) ∧ AC X F g vs fl h K := Iff.rfl
theorem callee_func {f : FuncId} {caps args : List AV} : callee (.func f caps) args = some (f, args ++ caps) := rfl
theorem callee_bfunc {f : FuncId} {first caps args : List AV} : callee (.bfunc f first caps) args = some (f, first ++ args ++ caps) := rfl
theorem A1_append {kk bytes : Nat} {x y : Opd} : A1 X F top fl (.append kk bytes x y) s h K ↔ ∃ n cs v h', rowOf h kk (y.ev s) = some (n, cs) ∧ appendA fl h kk bytes (x.ev s) n cs = some (v, h') ∧ K v h' := by
  simp only [A1, opEval]
  constructor
  · rintro ⟨v, h', e, k⟩
    split at e
    · rename_i n cs hr
      exact ⟨n, cs, v, h', hr, e, k⟩
    · cases e
  · rintro ⟨n, cs, v, h', hr, e, k⟩
    exact ⟨v, h', by rw [hr]; exact e, k⟩
def lenA : AV → Option Nat
  | .val (.slice none 0 0) => some 0
  | .hole => some 0
  | .slice _ _ n _ _ _ => some n
  | _ => none
theorem A1_len {x : Opd} : A1 X F top fl (.len x) s h K ↔ ∃ n, lenA (x.ev s) = some n ∧ K (I64 (n : Nat)) h := by
  simp only [A1, opEval]
  constructor
  · rintro ⟨v, h', e, k⟩
    split at e
    · rename_i ha
      simp only [Option.some.injEq, Prod.mk.injEq] at e
      obtain ⟨rfl, rfl⟩ := e
      exact ⟨0, by rw [ha]; rfl, k⟩
    · rename_i ha
      simp only [Option.some.injEq, Prod.mk.injEq] at e
      obtain ⟨rfl, rfl⟩ := e
      exact ⟨0, by rw [ha]; rfl, k⟩
    · rename_i ha
      simp only [Option.some.injEq, Prod.mk.injEq] at e
      obtain ⟨rfl, rfl⟩ := e
      exact ⟨_, by rw [ha]; rfl, k⟩
    · cases e
  · rintro ⟨n, e, k⟩
    unfold lenA at e
    split at e <;> first | (cases e; done) | skip
    all_goals
      rename_i ha
      injection e with e
      subst e
      exact ⟨_, h, by rw [ha]; try rfl, k⟩
theorem A1_copy {kk : Nat} {x y : Opd} {id off len lb : Nat} {ex : Bool} {k' : Nat} (hx : x.ev s = .slice id off len lb ex k') : A1 X F top fl (.copy kk x y) s h K ↔ ∃ n cs h', rowOf h kk (y.ev s) = some (n, cs) ∧ wr fl h id off (cs.take (min n len * kk)) = some h' ∧ K (I64 (min n len : Nat)) h' := by
  simp only [A1, opEval, hx]
  cases hr : rowOf h kk (y.ev s) with
  | none =>
    constructor
    · rintro ⟨v, h', e, k⟩; cases e
    · rintro ⟨n, cs, h1, e, _⟩; cases e
  | some p =>
    obtain ⟨n, cs⟩ := p
    simp only
    constructor
    · rintro ⟨v, h', e, k⟩
      split at e
      · rename_i h1 hw
        simp only [Option.some.injEq, Prod.mk.injEq] at e
        obtain ⟨rfl, rfl⟩ := e
        exact ⟨n, cs, h1, rfl, hw, k⟩
      · cases e
    · rintro ⟨n', cs', h1, e, hw, k⟩
      simp only [Option.some.injEq, Prod.mk.injEq] at e
      obtain ⟨rfl, rfl⟩ := e
      exact ⟨_, h1, by rw [hw], k⟩
theorem A1_minmax {mx : Bool} {x : Opd} {xs : List Opd} : A1 X F top fl (.minmax mx x xs) s h K ↔ ∃ v, bestA mx (x.ev s) (xs.map (·.ev s)) = some v ∧ K v h := by
  simp only [A1, opEval]
  constructor
  · rintro ⟨v, h', e, k⟩
    split at e
    · rename_i u hu
      simp only [Option.some.injEq, Prod.mk.injEq] at e
      obtain ⟨rfl, rfl⟩ := e
      exact ⟨u, hu, k⟩
    · cases e
  · rintro ⟨v, hv, k⟩
    exact ⟨_, h, by rw [hv], k⟩

def WantK : Option Bool → Prop → Prop → Prop
  | some b, p, q => (b = true → p) ∧ (b = false → q)
  | none, _, _ => False
def wantB : AV → Bool → Option Bool
  | .val (.bool b), w => some (b == w)
  | .val _, _ => some false
  | .tuple [], _ => some false
  | _, _ => none
theorem wantB_bool {b w : Bool} : wantB (BV b) w = some (b == w) := rfl
theorem wantK_some {b : Bool} {p q : Prop} : WantK (some b) p q ↔ (b = true → p) ∧ (b = false → q) := Iff.rfl
theorem wantK_true {p q : Prop} : WantK (some true) p q ↔ p := by simp [WantK]

section
variable {base : Nat} {d : Seen} {l : List AOper} {K : Slots → Heap → Prop}
theorem AO_consG {o : AOper} : AO X F base fl d (o :: l) s h K ↔ WantK (wantedA o s) (A1 X F (if o.iso then none else some (base, d.pr)) (lessen fl o (forbs fl d o l s h)) o.op s h fun v h' => AO X F base fl (d.with o (forbs fl d o l s h) s) l (put s o.dst v) h' K) (AO X F base fl d l (put s o.dst .no) h K) := by
  constructor
  · obtain ⟨x, nd⟩ := X
    cases nd with
    | false =>
      rintro ⟨n, s', h', e, k⟩
      simp only [runOps] at e
      split at e
      · rename_i hw
        split at e
        · rename_i v h1 hr
          rw [hw]
          refine wantK_true.2 ?_
          obtain ⟨dst, op, gd, iso⟩ := o
          cases op
          case call f args =>
            simp only [runOp] at hr
            split at hr
            · rename_i g vs hg
              exact ⟨g, vs, hg, n, v, h1, hr, n, s', h', e, k⟩
            · cases hr
          all_goals exact ⟨v, h1, hr, n, s', h', e, k⟩
        · cases e
      · rename_i hw
        rw [hw]
        exact ⟨(fun h => by cases h), fun _ => ⟨n, s', h', e, k⟩⟩
      · cases e
    | true =>
      intro hp
      have hp : prunOps (pcall x F) base fl d (o :: l) s h K := hp
      simp only [prunOps] at hp
      split at hp
      · rename_i hw
        rw [hw]
        refine wantK_true.2 ?_
        obtain ⟨dst, op, gd, iso⟩ := o
        cases op
        case call f args =>
          simp only [prunOp] at hp
          split at hp
          · rename_i g vs hg
            exact ⟨g, vs, hg, hp⟩
          · exact hp.elim
        all_goals exact hp
      · rename_i hw
        rw [hw]
        exact ⟨(fun h => by cases h), fun _ => hp⟩
      · exact hp.elim
  · intro hk
    cases hw : wantedA o s with
    | none => rw [hw] at hk; exact hk.elim
    | some b =>
      rw [hw] at hk
      cases b with
      | true => exact AO_one hw (hk.1 rfl)
      | false => exact AO_skip hw (hk.2 rfl)
theorem AO_cons {dst : Option Nat} {op : AOp} : AO X F base fl d (⟨dst, op, none, true⟩ :: l) s h K ↔ A1 X F none fl op s h fun v h' => AO X F base fl d l (put s dst v) h' K := by
  rw [AO_consG, show wantedA ⟨dst, op, none, true⟩ s = some true from rfl, wantK_true]
  simp [lessen, Seen.with]
theorem AO_consW {dst : Option Nat} {op : AOp} {t : Nat} {w : Bool} : AO X F base fl d (⟨dst, op, some (t, w), true⟩ :: l) s h K ↔ WantK (wantB (s t) w) (A1 X F none fl op s h fun v h' => AO X F base fl d l (put s dst v) h' K) (AO X F base fl d l (put s dst .no) h K) := by
  have : wantedA ⟨dst, op, some (t, w), true⟩ s = wantB (s t) w := by
    unfold wantedA wantB
    simp only
    cases s t with
    | val v => cases v <;> rfl
    | tuple l => cases l <;> rfl
    | _ => rfl
  rw [AO_consG, this]
  simp [lessen, Seen.with]
end

/-! ### What goes on, held back -/
def GoO (X : XT) (F : FuncId → Option AFunc) (base : Nat) (fl : Nat → Bool) (d : Seen) (l : List AOper) (s : Slots) (dst : Option Nat) (K : Slots → Heap → Prop) (v : AV) (h' : Heap) : Prop := AO X F base fl d l (put s dst v) h' K
def GoC (X : XT) (F : FuncId → Option AFunc) (fl : Nat → Bool) (c : ACode) (K : AExit → Slots → Heap → Prop) (s : Slots) (h : Heap) : Prop := AW X F fl c s h K
section
variable {base : Nat} {d : Seen} {l : List AOper} {K : Slots → Heap → Prop} {dst : Option Nat} {v : AV} {h' : Heap} {c : ACode} {KK : AExit → Slots → Heap → Prop}
theorem goO : GoO X F base fl d l s dst K v h' ↔ AO X F base fl d l (put s dst v) h' K := Iff.rfl
theorem goC : GoC X F fl c KK s h ↔ AW X F fl c s h KK := Iff.rfl
theorem AO_next {op : AOp} : AO X F base fl d (⟨dst, op, none, true⟩ :: l) s h K ↔ A1 X F none fl op s h (GoO X F base fl d l s dst K) := AO_cons
theorem AO_nextW {op : AOp} {t : Nat} {w : Bool} : AO X F base fl d (⟨dst, op, some (t, w), true⟩ :: l) s h K ↔ WantK (wantB (s t) w) (A1 X F none fl op s h (GoO X F base fl d l s dst K)) (GoO X F base fl d l s dst K .no h) := AO_consW
theorem AW_next {a b : ACode} : AW X F fl (.seq a b) s h KK ↔ AW X F fl a s h (AExit.then (GoC X F fl b KK) KK) := AW_seq
end

/-! ### Numbers -/
theorem bin_lss {a b : Int} : binV .lss (.int .i64 a) (.int .i64 b) = some (.bool (decide (a < b))) := by simp [binV]
theorem bin_leq {a b : Int} : binV .leq (.int .i64 a) (.int .i64 b) = some (.bool (decide (a ≤ b))) := by simp [binV]
theorem bin_gtr {a b : Int} : binV .gtr (.int .i64 a) (.int .i64 b) = some (.bool (decide (b < a))) := by simp [binV]
theorem bin_geq {a b : Int} : binV .geq (.int .i64 a) (.int .i64 b) = some (.bool (decide (b ≤ a))) := by simp [binV]
theorem bin_eql {a b : Int} : binV .eql (.int .i64 a) (.int .i64 b) = some (.bool (decide (a = b))) := by simp [binV]
theorem bin_neq {a b : Int} : binV .neq (.int .i64 a) (.int .i64 b) = some (.bool (!decide (a = b))) := by simp [binV]
theorem bin_add {a b : Int} : binV .add (.int .i64 a) (.int .i64 b) = some (.int .i64 (IntKind.i64.wrap (a + b))) := by simp [binV]
theorem bin_sub {a b : Int} : binV .sub (.int .i64 a) (.int .i64 b) = some (.int .i64 (IntKind.i64.wrap (a - b))) := by simp [binV]
theorem bin_mul {a b : Int} : binV .mul (.int .i64 a) (.int .i64 b) = some (.int .i64 (IntKind.i64.wrap (a * b))) := by simp [binV]
theorem cell_val {v : Value} : (AV.val v).isCell = true := rfl
theorem cell_ptr {a b : Nat} : (AV.ptr a b).isCell = true := rfl
theorem cell_slice {a b c d : Nat} {e : Bool} {k : Nat} : (AV.slice a b c d e k).isCell = true := rfl
theorem cell_func {f : FuncId} {c : List AV} : (AV.func f c).isCell = true := rfl
theorem cell_hole : AV.hole.isCell = true := rfl
theorem cells_agg {l : List AV} : (AV.agg l).cells = l := rfl
theorem cells_cell {v : AV} (h : v.isCell = true) : v.cells = [v] := by cases v <;> first | rfl | (simp [AV.isCell] at h)
theorem cells_val {v : Value} : (AV.val v).cells = [.val v] := rfl
theorem cells_ptr {a b : Nat} : (AV.ptr a b).cells = [.ptr a b] := rfl
theorem cells_slice {a b c d : Nat} {e : Bool} {k : Nat} : (AV.slice a b c d e k).cells = [.slice a b c d e k] := rfl
theorem cells_func {f : FuncId} {c : List AV} : (AV.func f c).cells = [.func f c] := rfl
theorem cells_hole : AV.hole.cells = [.hole] := rfl
theorem un_not {a : Bool} : unV .not (.bool a) = some (.bool !a) := by simp [unV]
theorem natOf_nat {n : Nat} : natOfA (I64 (n : Nat)) = some n := by simp [natOfA, intOfA]
end
end Go.Proofs.Ytfmllmcjinjfaaa

namespace Go.Proofs.Ytfmllmcjinjfaaa
open Go Go.RowKit
set_option linter.unusedVariables false
set_option linter.unusedSimpArgs false

def Sl (h : Heap) (k : Nat) (v : AV) (cs : List AV) (n : Nat) : Prop := cs.length = n * k ∧
  ((n = 0 ∧ (v = .nil ∨ v = .hole)) ∨ ∃ id off lb ex row, v = .slice id off n lb ex k ∧ n ≤ lb ∧ blk h id = some row ∧ off + n * k ≤ row.length ∧ (row.drop off).take (n * k) = cs)

theorem Sl.len {h : Heap} {k n : Nat} {v : AV} {cs : List AV} (hs : Sl h k v cs n) : lenA v = some n := by
  obtain ⟨_, ⟨rfl, rfl | rfl⟩ | ⟨id, off, lb, ex, row, rfl, _⟩⟩ := hs <;> rfl
theorem Sl.ext {h : Heap} {k n : Nat} {v : AV} {cs : List AV} (e : Heap) (hs : Sl h k v cs n) : Sl (h ++ e) k v cs n := by
  obtain ⟨h0, h1 | ⟨id, off, lb, ex, row, h1, h2, h3, h4⟩⟩ := hs
  · exact ⟨h0, .inl h1⟩
  · exact ⟨h0, .inr ⟨id, off, lb, ex, row, h1, h2, blk_ext e h3, h4⟩⟩
theorem Sl.row {h : Heap} {k n : Nat} {v : AV} {cs : List AV} (hs : Sl h k v cs n) : rowOf h k v = some (n, cs) := by
  obtain ⟨h0, ⟨rfl, hv⟩ | ⟨id, off, lb, ex, row, rfl, h2, h3, h4, h5⟩⟩ := hs
  · have : cs = [] := List.eq_nil_of_length_eq_zero (by simpa using h0)
    subst this
    rcases hv with rfl | rfl <;> rfl
  · simp only [rowOf, rd, h3, h4, if_true, h5]
theorem Sl.cong {h h' : Heap} {k n : Nat} {v : AV} {cs : List AV} (hs : Sl h k v cs n) (hb : ∀ id off lb ex row, v = .slice id off n lb ex k → blk h id = some row → blk h' id = some row) : Sl h' k v cs n := by
  obtain ⟨h0, h1 | ⟨id, off, lb, ex, row, h1, h2, h3, h4⟩⟩ := hs
  · exact ⟨h0, .inl h1⟩
  · exact ⟨h0, .inr ⟨id, off, lb, ex, row, h1, h2, hb id off lb ex row h1 h3, h4⟩⟩
theorem Sl.at {h : Heap} {k n : Nat} {v : AV} {cs : List AV} (hs : Sl h k v cs n) {j : Nat} (hj : j < n) : ∃ id off lb ex, v = .slice id off n lb ex k ∧ n ≤ lb ∧ ∀ i (hi : i < k) (hc : j * k + i < cs.length), rd1 h id (off + j * k + i) = some cs[j * k + i] := by
  obtain ⟨h0, ⟨rfl, hv⟩ | ⟨id, off, lb, ex, row, rfl, h2, h3, h4, h5⟩⟩ := hs
  · omega
  · refine ⟨id, off, lb, ex, rfl, h2, fun i hi hc => ?_⟩
    simp only [rd1, h3]
    have hlt : j * k + i < n * k := by rw [← h0]; exact hc
    have e : cs[j * k + i]? = some cs[j * k + i] := List.getElem?_eq_getElem hc
    rw [← e, ← h5, List.getElem?_take, if_pos hlt, List.getElem?_drop, Nat.add_assoc]
theorem Sl.at1 {h : Heap} {n : Nat} {v : AV} {cs : List AV} (hs : Sl h 1 v cs n) {j : Nat} (hj : j < cs.length) : ∃ id off lb ex, v = .slice id off n lb ex 1 ∧ n ≤ lb ∧ rd1 h id (off + j) = some cs[j] := by
  have h0 := hs.1
  obtain ⟨id, off, lb, ex, h1, h2, h3⟩ := hs.at (j := j) (by omega)
  refine ⟨id, off, lb, ex, h1, h2, ?_⟩
  have := h3 0 (by omega) (by omega)
  simpa using this
theorem Sl.cell {h : Heap} {k n : Nat} {v : AV} {cs : List AV} (hs : Sl h k v cs n) : v.isCell = true := by
  obtain ⟨_, ⟨rfl, rfl | rfl⟩ | ⟨id, off, lb, ex, row, rfl, _⟩⟩ := hs <;> rfl
theorem rd1_ext {h : Heap} {id off : Nat} {v : AV} (e : Heap) (hr : rd1 h id off = some v) : rd1 (h ++ e) id off = some v := by
  unfold rd1 at hr ⊢
  split at hr
  · rename_i l hl; rw [blk_ext e hl]; exact hr
  · cases hr
def IL (h : Heap) (v : AV) (l : List Int) : Prop := Sl h 1 v (l.map I64) l.length
def BL (h : Heap) (v : AV) (l : List Bool) : Prop := Sl h 1 v (l.map BV) l.length
def LL (h : Heap) (v : AV) (ls : List (List Int)) : Prop := ∃ vs : List AV, vs.length = ls.length ∧ Sl h 1 v vs ls.length ∧ ∀ i (hi : i < ls.length) (hv : i < vs.length), IL h vs[i] ls[i]
theorem IL.ext {h : Heap} {v : AV} {l : List Int} (e : Heap) (hs : IL h v l) : IL (h ++ e) v l := Sl.ext e hs
theorem BL.ext {h : Heap} {v : AV} {l : List Bool} (e : Heap) (hs : BL h v l) : BL (h ++ e) v l := Sl.ext e hs
theorem LL.ext {h : Heap} {v : AV} {l : List (List Int)} (e : Heap) (hs : LL h v l) : LL (h ++ e) v l :=
  let ⟨vs, h1, h2, h3⟩ := hs; ⟨vs, h1, h2.ext e, fun i hi hv => (h3 i hi hv).ext e⟩
theorem IL.at {h : Heap} {v : AV} {l : List Int} (hs : IL h v l) {j : Nat} (hj : j < l.length) : ∃ id off lb ex, v = .slice id off l.length lb ex 1 ∧ l.length ≤ lb ∧ rd1 h id (off + j) = some (I64 l[j]) := by
  obtain ⟨id, off, lb, ex, h1, h2, h3⟩ := Sl.at1 hs (j := j) (by simpa using hj)
  exact ⟨id, off, lb, ex, h1, h2, by simpa using h3⟩
theorem BL.at {h : Heap} {v : AV} {l : List Bool} (hs : BL h v l) {j : Nat} (hj : j < l.length) : ∃ id off lb ex, v = .slice id off l.length lb ex 1 ∧ l.length ≤ lb ∧ rd1 h id (off + j) = some (BV l[j]) := by
  obtain ⟨id, off, lb, ex, h1, h2, h3⟩ := Sl.at1 hs (j := j) (by simpa using hj)
  exact ⟨id, off, lb, ex, h1, h2, by simpa using h3⟩
theorem LL.at {h : Heap} {v : AV} {l : List (List Int)} (hs : LL h v l) {j : Nat} (hj : j < l.length) : ∃ id off lb ex u, v = .slice id off l.length lb ex 1 ∧ l.length ≤ lb ∧ rd1 h id (off + j) = some u ∧ IL h u l[j] := by
  obtain ⟨vs, h1, h2, h3⟩ := hs
  obtain ⟨id, off, lb, ex, h4, h5, h6⟩ := Sl.at1 h2 (j := j) (by omega)
  exact ⟨id, off, lb, ex, _, h4, h5, h6, h3 j hj (by omega)⟩

theorem LL.len {h : Heap} {v : AV} {l : List (List Int)} (hs : LL h v l) : lenA v = some l.length := by obtain ⟨vs, _, h2, _⟩ := hs; exact h2.len
theorem LL.cell {h : Heap} {v : AV} {l : List (List Int)} (hs : LL h v l) : v.isCell = true := by obtain ⟨vs, _, h2, _⟩ := hs; exact h2.cell
theorem IL.len {h : Heap} {v : AV} {l : List Int} (hs : IL h v l) : lenA v = some l.length := Sl.len hs
theorem IL.cell {h : Heap} {v : AV} {l : List Int} (hs : IL h v l) : v.isCell = true := Sl.cell hs
theorem BL.len {h : Heap} {v : AV} {l : List Bool} (hs : BL h v l) : lenA v = some l.length := Sl.len hs
theorem BL.cell {h : Heap} {v : AV} {l : List Bool} (hs : BL h v l) : v.isCell = true := Sl.cell hs
theorem IL.atE {h : Heap} {v : AV} {l : List Int} (hs : IL h v l) {j : Nat} (hj : j < l.length) : ∃ id off lb ex, v = .slice id off l.length lb ex 1 ∧ ∀ e, rd1 (h ++ e) id (off + j) = some (I64 l[j]) := by
  obtain ⟨id, off, lb, ex, h1, h2, h3⟩ := hs.at hj
  exact ⟨id, off, lb, ex, h1, fun e => rd1_ext e h3⟩
theorem BL.atE {h : Heap} {v : AV} {l : List Bool} (hs : BL h v l) {j : Nat} (hj : j < l.length) : ∃ id off lb ex, v = .slice id off l.length lb ex 1 ∧ ∀ e, rd1 (h ++ e) id (off + j) = some (BV l[j]) := by
  obtain ⟨id, off, lb, ex, h1, h2, h3⟩ := hs.at hj
  exact ⟨id, off, lb, ex, h1, fun e => rd1_ext e h3⟩
theorem LL.atE {h : Heap} {v : AV} {l : List (List Int)} (hs : LL h v l) {j : Nat} (hj : j < l.length) : ∃ id off lb ex u, v = .slice id off l.length lb ex 1 ∧ (∀ e, rd1 (h ++ e) id (off + j) = some u) ∧ IL h u l[j] := by
  obtain ⟨id, off, lb, ex, u, h1, h2, h3, h4⟩ := hs.at hj
  exact ⟨id, off, lb, ex, u, h1, fun e => rd1_ext e h3, h4⟩
/-! ### From a law's arguments -/
theorem AHas.sl {h : Heap} {by_ : Nat} {e : Ty} {v : AV} {l : List e.val} (hh : AHas h (.slice by_ e) [v] l) : ∃ cs, Sl h e.size v cs l.length ∧ ∀ i (hi : i < l.length), AHas h e ((cs.drop (i * e.size)).take e.size) l[i] := by
  rcases hh with ⟨hv, rfl⟩ | ⟨id, row, hv, h1, h2, h3, h4⟩
  · refine ⟨[], ⟨by simp, .inl ⟨rfl, ?_⟩⟩, fun i hi => absurd hi (by simp)⟩
    rcases hv with hv | hv <;> (injection hv with hv _; subst hv)
    · exact .inl rfl
    · exact .inr rfl
  · injection hv with hv _
    subst hv
    exact ⟨row, ⟨h2, .inr ⟨id, 0, l.length, false, row, rfl, Nat.le_refl _, h1, by omega, by rw [List.drop_zero, List.take_of_length_le (by omega)]⟩⟩, h4⟩
theorem AHas.il {h : Heap} {by_ : Nat} {v : AV} {l : List Int} (hh : AHas h (.slice by_ (.int .i64)) [v] l) : IL h v l := by
  obtain ⟨cs, h1, h2⟩ := hh.sl
  have e : cs = l.map I64 := by
    have hl := h1.1
    simp at hl
    apply List.ext_getElem (by simp [hl])
    intro i hi hi'
    have := (h2 i (by omega)).1
    simp only [Ty.size, Nat.mul_one] at this
    rw [List.drop_eq_getElem_cons hi] at this
    simp only [List.take_succ_cons, List.take_zero, List.cons.injEq, and_true] at this
    simpa using this
  subst e
  exact h1
/-! ### Memory, block by block -/
theorem blk_at0 {h e : Heap} : blk (h ++ e) h.length = blk e 0 := blk_congr (by rw [List.getElem?_append_right (Nat.le_refl _), Nat.sub_self])
theorem blk_atK {h e : Heap} {k : Nat} : blk (h ++ e) (h.length + k) = blk e k := blk_congr (by rw [List.getElem?_append_right (by omega)]; congr 1; omega)
theorem rd1_n0 {h e : Heap} {off : Nat} : rd1 (h ++ e) h.length off = rd1 e 0 off := by unfold rd1; rw [blk_at0]
theorem rd1_nK {h e : Heap} {k off : Nat} : rd1 (h ++ e) (h.length + k) off = rd1 e k off := by unfold rd1; rw [blk_atK]
theorem rd1_c0 {l : List AV} {e : Heap} {off : Nat} : rd1 (some l :: e) 0 off = l[off]? := rfl
theorem rd1_cS {b : Option (List AV)} {e : Heap} {k off : Nat} : rd1 (b :: e) (k + 1) off = rd1 e k off := rfl
theorem rd_n0 {h e : Heap} {off n : Nat} : rd (h ++ e) h.length off n = rd e 0 off n := by unfold rd; rw [blk_at0]
theorem rd_nK {h e : Heap} {k off n : Nat} : rd (h ++ e) (h.length + k) off n = rd e k off n := by unfold rd; rw [blk_atK]
theorem rd_c0 {l : List AV} {e : Heap} {off n : Nat} : rd (some l :: e) 0 off n = if off + n ≤ l.length then some ((l.drop off).take n) else none := rfl
theorem rd_cS {b : Option (List AV)} {e : Heap} {k off n : Nat} : rd (b :: e) (k + 1) off n = rd e k off n := rfl
theorem rd1_of {h : Heap} {id off : Nat} {l : List AV} (hb : blk h id = some l) : rd1 h id off = l[off]? := by simp [rd1, hb]
theorem rd_of {h : Heap} {id off n : Nat} {l : List AV} (hb : blk h id = some l) (hn : off + n ≤ l.length) : rd h id off n = some ((l.drop off).take n) := by simp [rd, hb, hn]
theorem wr_of {fl : Nat → Bool} {h : Heap} {id off : Nat} {l vs : List AV} (hb : blk h id = some l) (hf : fl id = true) (hn : off + vs.length ≤ l.length) : wr fl h id off vs = some (h.set id (some (l.take off ++ vs ++ l.drop (off + vs.length)))) := by simp [wr, hb, hf, hn]
theorem append_full {fl : Nat → Bool} {h : Heap} {k bytes n0 n : Nat} {x : AV} {old cs : List AV} (hx : Sl h k x old n0) (hex : x = .nil ∨ ∃ id off, x = .slice id off n0 n0 true k) (hn : cs.length = n * k) (hb : (n0 + n) * bytes ≤ reach) :
    ∃ v e, appendA fl h k bytes x n cs = some (v, h ++ e) ∧ Sl (h ++ e) k v (old ++ cs) (n0 + n) ∧ (v = .nil ∨ ∃ id off ex, v = .slice id off (n0 + n) (n0 + n) ex k ∧ (ex = true ∨ h.length ≤ id)) := by
  by_cases h0 : n = 0
  · subst h0
    have : cs = [] := List.eq_nil_of_length_eq_zero (by simpa using hn)
    subst this
    rcases hex with rfl | ⟨id, off, rfl⟩
    · exact ⟨.nil, [], by rw [List.append_nil]; rfl, by simpa using hx, .inl rfl⟩
    · exact ⟨_, [], by rw [List.append_nil]; rfl, by simpa using hx, .inr ⟨id, off, true, rfl, .inl rfl⟩⟩
  · rcases hex with rfl | ⟨id, off, rfl⟩
    · obtain ⟨h1, ⟨rfl, _⟩ | ⟨id, off, lb, ex, row, h2, _⟩⟩ := hx
      · have : old = [] := List.eq_nil_of_length_eq_zero (by simpa using h1)
        subst this
        refine ⟨.slice h.length 0 n n false k, [some cs], ?_, ⟨by simpa using hn, .inr ⟨h.length, 0, n, false, cs, by simp, by omega, blk_app_new, by simp; omega, by rw [List.drop_zero, List.take_of_length_le (by simp; omega)]; rfl⟩⟩, .inr ⟨h.length, 0, false, by simp, .inr (Nat.le_refl _)⟩⟩
        simp only [Nat.zero_add] at hb
        unfold appendA
        rw [if_neg h0]
        simp only
        rw [if_pos hb]
      · cases h2
    · obtain ⟨h1, ⟨rfl, h2⟩ | ⟨id', off', lb, ex, row, h2, h3, h4, h5, h6⟩⟩ := hx
      · rcases h2 with h2 | h2 <;> cases h2
      · injection h2 with e1 e2 e3 e4 e5 e6
        subst e1; subst e2; subst e4; subst e5
        have hlen : (old ++ cs).length = (n0 + n) * k := by rw [List.length_append, h1, hn, Nat.add_mul]
        refine ⟨.slice h.length 0 (n0 + n) (n0 + n) false k, [some (old ++ cs)], ?_, ⟨hlen, .inr ⟨h.length, 0, n0 + n, false, old ++ cs, rfl, Nat.le_refl _, blk_app_new, by rw [hlen]; omega, by rw [List.drop_zero, List.take_of_length_le (by rw [hlen]; omega)]⟩⟩, .inr ⟨h.length, 0, false, rfl, .inr (Nat.le_refl _)⟩⟩
        have hr : rd h id off (n0 * k) = some old := by rw [rd_of h4 h5, h6]
        unfold appendA
        rw [if_neg h0]
        simp only
        rw [if_pos ⟨trivial, hb⟩, if_neg (by omega), hr]
        rfl
end Go.Proofs.Ytfmllmcjinjfaaa

namespace Go.Proofs.Ytfmllmcjinjfaaa
open Go Go.RowKit
set_option linter.unusedVariables false
set_option linter.unusedSimpArgs false

theorem blk_set_same {h : Heap} {id : Nat} {l : List AV} (hi : id < h.length) : blk (h.set id (some l)) id = some l := by rw [blk_get, List.getElem?_set]; simp [hi]
theorem blk_set_ne {h : Heap} {id i : Nat} {b : Option (List AV)} (hi : i ≠ id) : blk (h.set id b) i = blk h i := blk_congr (by rw [List.getElem?_set, if_neg (Ne.symm hi)])

theorem wr_ex {fl : Nat → Bool} {h : Heap} {id off : Nat} {l vs : List AV} (hb : blk h id = some l) (hf : fl id = true) (hn : off + vs.length ≤ l.length) :
    ∃ h1, wr fl h id off vs = some h1 ∧ blk h1 id = some (l.take off ++ vs ++ l.drop (off + vs.length)) ∧ (∀ i, i ≠ id → blk h1 i = blk h i) ∧ h1.length = h.length :=
  ⟨_, wr_of hb hf hn, blk_set_same (blk_lt hb), fun i hi => blk_set_ne hi, by simp⟩
def OL (h : Heap) (k : Nat) (v : AV) (cs : List AV) (n : Nat) : Prop := cs.length = n * k ∧
  ((v = .nil ∧ n = 0) ∨ ∃ id lb row, v = .slice id 0 n lb false k ∧ n ≤ lb ∧ lb * k ≤ row.length ∧ blk h id = some row ∧ row.take (n * k) = cs)
theorem OL.nil {h : Heap} {k : Nat} : OL h k .nil [] 0 := ⟨by simp, .inl ⟨rfl, rfl⟩⟩
theorem OL.sl {h : Heap} {k n : Nat} {v : AV} {cs : List AV} (ho : OL h k v cs n) : Sl h k v cs n := by
  obtain ⟨h1, ⟨rfl, h2⟩ | ⟨id, lb, row, rfl, h2, h3, h4, h5⟩⟩ := ho
  · exact ⟨h1, .inl ⟨h2, .inl rfl⟩⟩
  · have : n * k ≤ lb * k := Nat.mul_le_mul_right _ h2
    exact ⟨h1, .inr ⟨id, 0, lb, false, row, rfl, h2, h4, by omega, by rw [List.drop_zero]; exact h5⟩⟩
theorem OL.len {h : Heap} {k n : Nat} {v : AV} {cs : List AV} (ho : OL h k v cs n) : lenA v = some n := ho.sl.len
theorem OL.keep {h h' : Heap} {k n : Nat} {v : AV} {cs : List AV} (ho : OL h k v cs n) (hk : ∀ i row, i ∈ idOf v → blk h i = some row → blk h' i = some row) : OL h' k v cs n := by
  obtain ⟨h1, h2 | ⟨id, lb, row, rfl, h2, h3, h4, h5⟩⟩ := ho
  · exact ⟨h1, .inl h2⟩
  · exact ⟨h1, .inr ⟨id, lb, row, rfl, h2, h3, hk id row (by simp [idOf]) h4, h5⟩⟩
theorem OL.lt {h : Heap} {k n : Nat} {v : AV} {cs : List AV} (ho : OL h k v cs n) : ∀ i ∈ idOf v, i < h.length := by
  obtain ⟨h1, ⟨rfl, _⟩ | ⟨id, lb, row, rfl, h2, h3, h4, h5⟩⟩ := ho
  · intro i hi; simp [idOf] at hi
  · intro i hi; simp [idOf] at hi; subst hi; exact blk_lt h4

theorem append_ol {fl : Nat → Bool} {h : Heap} {k bytes n m : Nat} {v : AV} {cs new : List AV} (ho : OL h k v cs n) (hfl : ∀ i ∈ idOf v, fl i = true) (hm : 0 < m) (hn : new.length = m * k) (hb : (n + m) * bytes ≤ reach) :
    ∃ v' h1, appendA fl h k bytes v m new = some (v', h1) ∧ OL h1 k v' (cs ++ new) (n + m) ∧ (∀ i row, i ∉ idOf v → blk h i = some row → blk h1 i = some row) ∧ (∀ i ∈ idOf v', i ∈ idOf v ∨ h.length ≤ i) ∧ h.length ≤ h1.length := by
  have hm0 : ¬ m = 0 := by omega
  obtain ⟨h1, ⟨rfl, rfl⟩ | ⟨id, lb, row, rfl, h2, h3, h4, h5⟩⟩ := ho
  · have : cs = [] := List.eq_nil_of_length_eq_zero (by simpa using h1)
    subst this
    refine ⟨.slice h.length 0 m m false k, h ++ [some new], ?_, ⟨by simpa using hn, .inr ⟨h.length, m, new, by simp, by omega, by omega, blk_app_new, by rw [Nat.zero_add, List.take_of_length_le (by omega)]; rfl⟩⟩, fun i row _ hr => blk_ext _ hr, fun i hi => ?_, by simp⟩
    · unfold appendA
      rw [if_neg hm0]
      simp only
      rw [if_pos (by simpa using hb)]
    · simp [idOf] at hi; exact .inr (by omega)
  · have hid := hfl id (by simp [idOf])
    have hlen : (cs ++ new).length = (n + m) * k := by rw [List.length_append, h1, hn, Nat.add_mul]
    by_cases hroom : n + m ≤ lb
    · have hmul : (n + m) * k ≤ lb * k := Nat.mul_le_mul_right _ hroom
      rw [Nat.add_mul] at hmul
      obtain ⟨g, e1, e2, e3, e4⟩ := wr_ex (fl := fl) (off := 0 + n * k) (vs := new) h4 hid (by omega)
      refine ⟨.slice id 0 (n + m) lb false k, g, ?_, ⟨hlen, .inr ⟨id, lb, _, rfl, hroom, ?_, e2, ?_⟩⟩, fun i row' hi hr => by rw [e3 i (by simpa [idOf] using hi)]; exact hr, fun i hi => .inl (by simpa [idOf] using hi), by omega⟩
      · unfold appendA
        rw [if_neg hm0]
        simp only
        rw [if_pos ⟨trivial, hb⟩, if_pos hroom, e1]
      · simp; omega
      · rw [Nat.zero_add, h5, List.take_append_of_le_length (by rw [hlen, Nat.add_mul]; omega), List.take_of_length_le (by rw [hlen]; omega)]
    · refine ⟨.slice h.length 0 (n + m) (n + m) false k, kill h id ++ [some (cs ++ new)], ?_, ⟨hlen, .inr ⟨h.length, n + m, cs ++ new, rfl, Nat.le_refl _, by rw [hlen]; omega, ?_, by rw [List.take_of_length_le (by rw [hlen]; omega)]⟩⟩, fun i row' hi hr => ?_, fun i hi => ?_, by simp [kill]⟩
      · have hnk : n * k ≤ lb * k := Nat.mul_le_mul_right _ h2
        have hr : rd h id 0 (n * k) = some cs := by rw [rd_of h4 (by omega), List.drop_zero, h5]
        unfold appendA
        rw [if_neg hm0]
        simp only
        rw [if_pos ⟨trivial, hb⟩, if_neg hroom, hr]
        simp only [Bool.false_eq_true, if_false]
        rw [if_pos hid]
      · have : (kill h id).length = h.length := by simp [kill]
        rw [← this]; exact blk_app_new
      · have hi' : i ≠ id := by simpa [idOf] using hi
        refine blk_ext _ ?_
        unfold kill
        rw [blk_set_ne hi']; exact hr
      · simp [idOf] at hi; exact .inr (by omega)
def Keep (h h' : Heap) (S : List Nat) : Prop := h.length ≤ h'.length ∧ ∀ i row, i ∉ S → blk h i = some row → blk h' i = some row
theorem Keep.refl {h : Heap} (S : List Nat) : Keep h h S := ⟨Nat.le_refl _, fun i row _ h => h⟩
theorem Keep.trans {h h1 h2 : Heap} {S S' : List Nat} (a : Keep h h1 S) (b : Keep h1 h2 S') (hs : ∀ i ∈ S', i ∈ S ∨ h.length ≤ i) : Keep h h2 S :=
  ⟨Nat.le_trans a.1 b.1, fun i row hi hr => b.2 i row (fun hm => (hs i hm).elim hi fun hl => by have := blk_lt hr; omega) (a.2 i row hi hr)⟩
theorem Keep.mono {h h1 : Heap} {S S' : List Nat} (a : Keep h h1 S) (hs : ∀ i ∈ S, i ∈ S' ∨ h.length ≤ i) : Keep h h1 S' :=
  ⟨a.1, fun i row hi hr => a.2 i row (fun hm => (hs i hm).elim hi fun hl => by have := blk_lt hr; omega) hr⟩
theorem Keep.then {h h1 h2 : Heap} {S S' T : List Nat} (a : Keep h h1 S) (b : Keep h1 h2 S') (q1 : ∀ i ∈ S, i ∈ T ∨ h.length ≤ i) (q2 : ∀ i ∈ S', i ∈ T ∨ h.length ≤ i) : Keep h h2 T := (a.mono q1).trans b q2
theorem Keep.ext {h : Heap} (S : List Nat) (e : Heap) : Keep h (h ++ e) S := ⟨by simp, fun i row _ hr => blk_ext e hr⟩
theorem Keep.get {h h' : Heap} {S : List Nat} (a : Keep h h' S) {i : Nat} {row : List AV} (hi : i ∉ S) (hr : blk h i = some row) : blk h' i = some row := a.2 i row hi hr
theorem Keep.rd1 {h h' : Heap} {S : List Nat} (a : Keep h h' S) {id off : Nat} {v : AV} (hi : id ∉ S) (hr : rd1 h id off = some v) : rd1 h' id off = some v := by
  unfold Go.Proofs.Ytfmllmcjinjfaaa.rd1 at hr ⊢
  split at hr
  · rename_i l hl; rw [a.2 id l hi hl]; exact hr
  · cases hr
theorem Keep.rd {h h' : Heap} {S : List Nat} (a : Keep h h' S) {id off n : Nat} {v : List AV} (hi : id ∉ S) (hr : rd h id off n = some v) : rd h' id off n = some v := by
  unfold Go.Proofs.Ytfmllmcjinjfaaa.rd at hr ⊢
  split at hr
  · rename_i l hl; rw [a.2 id l hi hl]; exact hr
  · cases hr
theorem Sl.keep {h h' : Heap} {S : List Nat} {k n : Nat} {v : AV} {cs : List AV} (hs : Sl h k v cs n) (a : Keep h h' S) (hi : ∀ i ∈ idOf v, i ∉ S) : Sl h' k v cs n :=
  hs.cong fun id off lb ex row e hr => a.2 id row (hi id (by rw [e]; simp [idOf])) hr
theorem IL.keep {h h' : Heap} {S : List Nat} {v : AV} {l : List Int} (hs : IL h v l) (a : Keep h h' S) (hi : ∀ i ∈ idOf v, i ∉ S) : IL h' v l := Sl.keep hs a hi
theorem BL.keep {h h' : Heap} {S : List Nat} {v : AV} {l : List Bool} (hs : BL h v l) (a : Keep h h' S) (hi : ∀ i ∈ idOf v, i ∉ S) : BL h' v l := Sl.keep hs a hi
theorem LL.keep {h h' : Heap} {S : List Nat} {v : AV} {ls : List (List Int)} (hs : LL h v ls) (a : Keep h h' S) (hi : ∀ i, i < h.length → i ∉ S) : LL h' v ls :=
  have lt : ∀ {k n : Nat} {v : AV} {cs : List AV}, Sl h k v cs n → ∀ i ∈ idOf v, i < h.length := fun hs i hi => by
    obtain ⟨h1, ⟨_, rfl | rfl⟩ | ⟨id, off, lb, ex, row, rfl, h2, h3, h4⟩⟩ := hs
    · simp [idOf] at hi
    · simp [idOf] at hi
    · simp [idOf] at hi; subst hi; exact blk_lt h3
  let ⟨vs, h1, h2, h3⟩ := hs; ⟨vs, h1, h2.keep a fun i hm => hi i (lt h2 i hm), fun i p q => (h3 i p q).keep a fun j hm => hi j (lt (h3 i p q) j hm)⟩
theorem OL.keepK {h h' : Heap} {S : List Nat} {k n : Nat} {v : AV} {cs : List AV} (ho : OL h k v cs n) (a : Keep h h' S) (hi : ∀ i ∈ idOf v, i ∉ S) : OL h' k v cs n := ho.keep fun i row hm hr => a.2 i row (hi i hm) hr
theorem Sl.lt {h : Heap} {k n : Nat} {v : AV} {cs : List AV} (hs : Sl h k v cs n) : ∀ i ∈ idOf v, i < h.length := by
  obtain ⟨h1, ⟨_, rfl | rfl⟩ | ⟨id, off, lb, ex, row, rfl, h2, h3, h4⟩⟩ := hs
  · intro i hi; simp [idOf] at hi
  · intro i hi; simp [idOf] at hi
  · intro i hi; simp [idOf] at hi; subst hi; exact blk_lt h3

theorem BL.allE {h : Heap} {v : AV} {l : List Bool} (hs : BL h v l) (h0 : 0 < l.length) : ∃ id off lb ex, v = .slice id off l.length lb ex 1 ∧ ∀ j (hj : j < l.length) e, rd1 (h ++ e) id (off + j) = some (BV l[j]) := by
  obtain ⟨id, off, lb, ex, rfl, _⟩ := hs.at h0
  refine ⟨id, off, lb, ex, rfl, fun j hj e => ?_⟩
  obtain ⟨id', off', lb', ex', q, hr⟩ := hs.atE hj
  injection q with q1 q2 _ q4 q5 _
  subst q1; subst q2
  exact hr e
theorem IL.allE {h : Heap} {v : AV} {l : List Int} (hs : IL h v l) (h0 : 0 < l.length) : ∃ id off lb ex, v = .slice id off l.length lb ex 1 ∧ ∀ j (hj : j < l.length) e, rd1 (h ++ e) id (off + j) = some (I64 l[j]) := by
  obtain ⟨id, off, lb, ex, rfl, _⟩ := hs.at h0
  refine ⟨id, off, lb, ex, rfl, fun j hj e => ?_⟩
  obtain ⟨id', off', lb', ex', q, hr⟩ := hs.atE hj
  injection q with q1 q2 _ q4 q5 _
  subst q1; subst q2
  exact hr e
def New (h h' : Heap) (k : Nat) (v : AV) (cs : List AV) (n : Nat) : Prop := OL h' k v cs n ∧ (∀ i ∈ idOf v, h.length ≤ i) ∧ Keep h h' []
theorem New.nil (h : Heap) {h' : Heap} {k : Nat} (a : Keep h h' []) : New h h' k .nil [] 0 := ⟨OL.nil, by simp [idOf], a⟩
theorem New.push {fl : Nat → Bool} {h h' : Heap} {k bytes n : Nat} {v : AV} {cs : List AV} (hn : New h h' k v cs n) (hf : ∀ i, h.length ≤ i → fl i = true) (hb : (n + 1) * bytes ≤ reach) (x : List AV) (hx : x.length = k) :
    ∃ v2 h2, rowOf (h' ++ [some x]) k (.slice h'.length 0 1 1 true k) = some (1, x) ∧ appendA fl (h' ++ [some x]) k bytes v 1 x = some (v2, h2) ∧ New h h2 k v2 (cs ++ x) (n + 1) := by
  obtain ⟨ho, hv, hkp⟩ := hn
  obtain ⟨v2, h2, hap, ho2, hk2, hti2, hl2⟩ := append_ol (fl := fl) (bytes := bytes) (m := 1) (new := x) (OL.keepK (h' := h' ++ [some x]) ho (Keep.ext [] _) (by simp)) (fun i hi => hf i (hv i hi)) (by omega) (by omega) hb
  have hkl := hkp.1
  simp only [List.length_append, List.length_cons, List.length_nil] at hl2 hti2
  refine ⟨v2, h2, ?_, hap, ho2, fun i hi => (hti2 i hi).elim (hv i) (fun q => by omega), by omega, fun i row _ hr => hk2 i row (fun q => by have := hv i q; have := blk_lt hr; omega) (blk_ext _ (hkp.2 i row (by simp) hr))⟩
  subst hx; simp [rowOf, rd_n0, rd_c0]
theorem New.sl {h h' : Heap} {k n : Nat} {v : AV} {cs : List AV} (hn : New h h' k v cs n) : Sl h' k v cs n := hn.1.sl
theorem New.kp {h h' : Heap} {k n : Nat} {v : AV} {cs : List AV} (hn : New h h' k v cs n) : Keep h h' [] := hn.2.2
theorem New.next {h h' h2 : Heap} {k n : Nat} {v : AV} {cs : List AV} {S : List Nat} (hn : New h h' k v cs n) (a : Keep h' h2 S) (hi : ∀ i ∈ S, i ∉ idOf v ∧ h.length ≤ i) : New h h2 k v cs n :=
  ⟨hn.1.keepK a (fun i hv hs => (hi i hs).1 hv), hn.2.1, hn.2.2.then a (fun i hi => .inl hi) fun i q => .inr (hi i q).2⟩
def NewI (h h' : Heap) (v : AV) (l : List Int) : Prop := New h h' 1 v (l.map I64) l.length
theorem NewI.il {h h' : Heap} {v : AV} {l : List Int} (hn : NewI h h' v l) : IL h' v l := hn.sl
end Go.Proofs.Ytfmllmcjinjfaaa
