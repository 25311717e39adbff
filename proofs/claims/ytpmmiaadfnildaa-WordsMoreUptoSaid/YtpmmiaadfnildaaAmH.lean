/-
  AM and the program's machine: append.
-/
import Derived.Test.YtpmmiaadfnildaaAmG
import Derived.Laws.AppendOwn
namespace Go.Proofs.Ytpmmiaadfnildaa
open Go
set_option linter.unusedVariables false
set_option linter.unusedSimpArgs false
section
variable {n0 B0 : Nat} {P : Program} {m : Map} {h : Heap} {w : World} {fl : Nat → Bool}
variable {ρ : Operand → Value} {s : Slots} {x y z : Operand} {x' y' z' : Opd} {d : Option Tmp} {ty : TypeId} {pos : String} {af : Array Edge} {gd : Option (Nat × Bool)}

theorem Rels.drew (r : Rels n0 B0 m h w) : Rels n0 B0 m h w.drew :=
  ⟨⟨r.rel.base, r.rel.lt, r.rel.cell, r.rel.one, r.rel.own, r.rel.ro, r.rel.inj⟩, r.dom, r.n0⟩
theorem Post.drew {m' : Map} {h' : Heap} {w' : World} (p : Post n0 B0 fl m h w.drew m' h' w') : Post n0 B0 fl m h w m' h' w' :=
  ⟨p.rels, p.len, p.keep, p.os, p.tape, p.output, p.size, p.frame, p.fresh, p.unt, p.dead, p.new⟩

theorem blk_set_none {h : Heap} {id i : Nat} {l : List AV} (hb : blk (kill h id) i = some l) : i ≠ id ∧ blk h i = some l := by
  rw [blk_get, kill, List.getElem?_set] at hb
  split at hb
  · split at hb <;> cases hb
  · rename_i hne
    exact ⟨fun e => hne e.symm, blk_get.2 hb⟩

/-- A block whose number is given up for a new one. -/
theorem post_steal (r : Rels n0 B0 m h w) (hfl : ∀ id, fl id = true → n0 ≤ id) {id : Nat} {l : List AV} {b : Base} (hid : fl id = true) (hl : blk h id = some l) (hb : m id = some b)
    {c : Array Value} {e : TypeId} (hc : w.heap[b.b]? = some (.cells c e (0, 0))) (l' : List AV) (hone : ∀ x ∈ l', x.isCell = true) (o : Nat) (hll : o + l'.length ≤ b.room) (arr : Array Value) (hsz : arr.size = c.size)
    (hcs : ∀ (i : Nat) x, l'[i]? = some x → ∃ y, arr[b.off + o + i]? = some y ∧ VR m x y) (w' : World) (hw : w' = w.setRow b.b arr) :
    Post n0 B0 fl m h w (mset m h.length ⟨b.b, b.off + o, b.room - o⟩) (kill h id ++ [some l']) w' := by
  subst hw
  have hlt := blk_lt hl
  have hn := hfl id hid
  have hkl : (kill h id).length = h.length := by simp [kill]
  have hheap : ∀ k, k ≠ b.b → (w.setRow b.b arr).heap[k]? = w.heap[k]? := fun k hk => by
    simp [World.setRow, Array.getElem?_modify, Ne.symm hk]
  have hat : (w.setRow b.b arr).heap[b.b]? = some (.cells arr e (0, 0)) := by
    simp [World.setRow, Array.getElem?_modify, hc]
  have hsize : (w.setRow b.b arr).heap.size = w.heap.size := by simp [World.setRow]
  have hcell : ∀ k o, k ≠ b.b → (w.setRow b.b arr).cell? ⟨k, o, none⟩ = w.cell? ⟨k, o, none⟩ := fun k o hk => by
    simp only [World.cell?, hheap k hk]
  have hm : ∀ i bi, m i = some bi → mset m h.length ⟨b.b, b.off + o, b.room - o⟩ i = some bi := fun i bi hb => by
    have := r.dom i bi hb
    simp only [mset]; rw [if_neg (by omega)]; exact hb
  have hold : ∀ i bi, i < h.length → mset m h.length ⟨b.b, b.off + o, b.room - o⟩ i = some bi → m i = some bi := fun i bi hi hb => by
    simp only [mset] at hb; rw [if_neg (by omega)] at hb; exact hb
  have hnew : ∀ bi, mset m h.length ⟨b.b, b.off + o, b.room - o⟩ h.length = some bi → bi = ⟨b.b, b.off + o, b.room - o⟩ := fun bi hb => by simp [mset] at hb; exact hb.symm
  have hcase : ∀ i li, blk (kill h id ++ [some l']) i = some li → (i < h.length ∧ i ≠ id ∧ blk h i = some li) ∨ (i = h.length ∧ li = l') := fun i li hli => by
    by_cases hi : i < h.length
    · rw [blk_app_lt _ (by rw [hkl]; exact hi)] at hli
      obtain ⟨h1, h2⟩ := blk_set_none hli
      exact .inl ⟨hi, h1, h2⟩
    · have := blk_lt hli
      simp [hkl] at this
      obtain rfl : i = h.length := by omega
      rw [← hkl, blk_app_new] at hli
      exact .inr ⟨rfl, by injection hli with hli; exact hli.symm⟩
  obtain ⟨hB0, hlr, c', e', hc', hroom⟩ := r.rel.own id l b hn hl hb
  rw [hc] at hc'
  injection hc' with hc'; injection hc' with h1 h2 h3; subst h1
  have hfar : ∀ i li bi, i ≠ id → blk h i = some li → m i = some bi → bi.b ≠ b.b := fun i li bi hne hli hbi he => by
    by_cases hi : n0 ≤ i
    · exact hne (r.rel.inj i id li l bi b hi hn hli hl hbi hb he)
    · have h1 := r.rel.ro i bi (by omega) hbi
      omega
  refine ⟨⟨⟨by rw [hsize]; exact r.rel.base, ?_, ?_, ?_, ?_, ?_, ?_⟩, ?_, by simp [hkl]; have := r.n0; omega⟩, by simp [hkl], ?_, rfl, rfl, rfl, by rw [hsize]; exact Nat.le_refl _, ?_, ?_, ?_, ?_, fun i h1 h2 => by
    obtain rfl : i = h.length := by simp [hkl] at h2; omega
    simp [mset]⟩
  · intro i bi hbi
    rw [hsize]
    by_cases hi : i = h.length
    · subst hi; rw [hnew bi hbi]; exact r.rel.lt id b hb
    · have : mset m h.length ⟨b.b, b.off + o, b.room - o⟩ i = m i := by simp [mset, hi]
      rw [this] at hbi
      exact r.rel.lt i bi hbi
  · intro i li bi hli hbi j v hv
    rcases hcase i li hli with ⟨hi, hne, hli⟩ | ⟨rfl, rfl⟩
    · have hbi := hold i bi hi hbi
      rw [hcell _ _ (hfar i li bi hne hli hbi)]
      obtain ⟨v', h1, h2⟩ := r.rel.cell i li bi hli hbi j v hv
      exact ⟨v', h1, h2.mono hm⟩
    · obtain rfl := hnew bi hbi
      obtain ⟨y, hy, hr⟩ := hcs j v hv
      exact ⟨y, by simp [World.cell?, hat, hy], hr.mono hm⟩
  · intro i li bi hli hbi
    rcases hcase i li hli with ⟨hi, hne, hli⟩ | ⟨rfl, rfl⟩
    · exact r.rel.one i li bi hli (hold i bi hi hbi)
    · exact hone
  · intro i li bi hi hli hbi
    rcases hcase i li hli with ⟨hil, hne, hli⟩ | ⟨rfl, rfl⟩
    · have hbi := hold i bi hil hbi
      obtain ⟨h1, h2, c', e', h3, h4⟩ := r.rel.own i li bi hi hli hbi
      exact ⟨h1, h2, c', e', by rw [hheap _ (hfar i li bi hne hli hbi)]; exact h3, h4⟩
    · obtain rfl := hnew bi hbi
      exact ⟨hB0, by simp only; omega, arr, e, hat, by simp only; omega⟩
  · intro i bi hi hbi
    have := r.n0
    exact r.rel.ro i bi hi (hold i bi (by omega) hbi)
  · intro i j li lj bi bj hi hj hli hlj hbi hbj he
    rcases hcase i li hli with ⟨h1, h1', h2⟩ | ⟨h1, h2⟩ <;> rcases hcase j lj hlj with ⟨h3, h3', h4⟩ | ⟨h3, h4⟩
    · exact r.rel.inj i j li lj bi bj hi hj h2 h4 (hold _ _ h1 hbi) (hold _ _ h3 hbj) he
    · subst h3; subst h4
      rw [hnew bj hbj] at he
      exact absurd he (hfar i li bi h1' h2 (hold _ _ h1 hbi))
    · subst h1; subst h2
      rw [hnew bi hbi] at he
      exact absurd he.symm (hfar j lj bj h3' h4 (hold _ _ h3 hbj))
    · rw [h1, h3]
  · intro i bi hbi
    by_cases hi : i = h.length
    · subst hi; simp [hkl]
    · have : mset m h.length ⟨b.b, b.off + o, b.room - o⟩ i = m i := by simp [mset, hi]
      rw [this] at hbi
      have := r.dom i bi hbi
      simp [hkl]; omega
  · intro i hi
    simp only [mset]; rw [if_neg (by omega)]
  · intro x hx hnx
    exact hheap x (fun hxb => hnx id l b hid hl hb hxb.symm)
  · intro i bi hi hbi
    by_cases hi' : i = h.length
    · subst hi'; rw [hnew bi hbi]; exact .inr ⟨id, l, b, hid, hl, hb, rfl⟩
    · have : mset m h.length ⟨b.b, b.off + o, b.room - o⟩ i = m i := by simp [mset, hi']
      rw [this] at hbi
      have := r.dom i bi hbi
      omega
  · intro i hi hh
    rw [List.getElem?_append_left (by rw [hkl]; exact hi), kill, List.getElem?_set]
    split
    · rename_i he; subst he
      rcases hh with hh | hh
      · rw [hb] at hh; cases hh
      · rw [hid] at hh; cases hh
    · rfl
  · intro i hi hbi
    rw [blk_app_lt _ (by rw [hkl]; exact hi)]
    cases hc' : blk (kill h id) i with
    | none => rfl
    | some li =>
      obtain ⟨_, h1⟩ := blk_set_none hc'
      rw [h1] at hbi; cases hbi

/-- A block given up. -/
theorem post_kill (r : Rels n0 B0 m h w) {id : Nat} (hid : fl id = true) (hm : m id ≠ none) : Post n0 B0 fl m h w m (kill h id) w := by
  have hkl : (kill h id).length = h.length := by simp [kill]
  refine ⟨⟨⟨r.rel.base, r.rel.lt, fun i li bi hli => r.rel.cell i li bi (blk_set_none hli).2, fun i li bi hli => r.rel.one i li bi (blk_set_none hli).2, fun i li bi hi hli => r.rel.own i li bi hi (blk_set_none hli).2, r.rel.ro,
    fun i j li lj bi bj hi hj hli hlj => r.rel.inj i j li lj bi bj hi hj (blk_set_none hli).2 (blk_set_none hlj).2⟩, by rw [hkl]; exact r.dom, by rw [hkl]; exact r.n0⟩, by rw [hkl]; exact Nat.le_refl _, fun _ _ => rfl, rfl, rfl, rfl, Nat.le_refl _, fun _ _ _ => rfl, ?_, ?_, ?_, fun i h1 h2 => absurd h2 (by rw [hkl]; omega)⟩
  · intro i bi hi hbi
    have := r.dom i bi hbi
    omega
  · intro i hi hh
    rw [kill, List.getElem?_set]
    split
    · rename_i he; subst he
      rcases hh with hh | hh
      · exact absurd hh hm
      · rw [hid] at hh; cases hh
    · rfl
  · intro i hi hbi
    cases hc' : blk (kill h id) i with
    | none => rfl
    | some li =>
      obtain ⟨_, h1⟩ := blk_set_none hc'
      rw [h1] at hbi; cases hbi

theorem grownCap_ge (w : World) (need old : Nat) (e : TypeId) : need ≤ grownCap w need old e := by
  simp only [grownCap, Question.cut]; omega

theorem run_append_room {t e : TypeId} {i : TypeInfo} (hu : P.underlying t = some (.slice e)) (hi : P.info? e = some i) {b : Addr} {sLen sCap n c : Nat} {a : Addr} {news : List Value} {w' : World}
    (hl : news.length = n * i.size) (hnews : ∀ (j : Nat) v, news[j]? = some v → w.cell? (a.add j) = some v) (hg : sLen + n ≤ sCap) (hst : (storeCells (b.add (sLen * i.size)) news).run P w = .ok () w') :
    (Builtin.append_ #[t, t] ty #[.slice (some b) sLen sCap, .slice (some a) n c]).run P w = .ok (.slice (some b) (sLen + n) sCap) w' := by
  have hf := run_firstCells_some (P := P) w i.size n a n c news hl hnews
  simp [Builtin.append_, run_under hu, sizeOf, typeInfo, hi, Builtin.lenOf, hg, hf, hst]

theorem sim_append (r : Rels n0 B0 m h w) (hfl : ∀ id, fl id = true → n0 ≤ id) {t : TypeId} {k bytes : Nat} {zs : List AV} (ht : elemT P t = some (k, bytes, zs)) (hx : VR m (x'.ev s) (ρ x)) (hy : VR m (y'.ev s) (ρ y)) {v : AV} {h' : Heap} {top} (he : opEval top fl s h (.append k bytes x' y') = some (v, h')) :
    Sim P n0 B0 fl m h w ρ ⟨d, .call { callee := .builtin .append, args := #[x, y], argTypes := #[t, t] }, ty, pos, af, gd⟩ v h' := by
  obtain ⟨e, i, hu, hi, hk, hby, hk0, hb0, hz, hzl⟩ := elemT_spec ht
  have hsz : sizeT P e = some k := by simp [sizeT, hi, hk]
  obtain ⟨zv, hz0, hzz⟩ : ∃ zv, i.zero = some zv ∧ zv.cells.size = k := by
    unfold zeroT at hz
    rw [hi] at hz
    simp only at hz
    split at hz
    · rename_i v hv
      unfold plains at hz
      split at hz
      · injection hz with hz
        refine ⟨v, hv, ?_⟩
        rw [← hzl, ← hz]; simp
      · cases hz
    · cases hz
  have hrun : ∀ (f : Result Value), (Builtin.append_ #[t, t] ty #[ρ x, ρ y]).run P w = f → (execOp ρ ⟨d, .call { callee := .builtin .append, args := #[x, y], argTypes := #[t, t] }, ty, pos, af, gd⟩).run P w = f.andThen fun v w' => .ok (.value v) w' := by
    intro f hf
    rw [exec_builtin (f := Builtin.append_ #[t, t] ty #[ρ x, ρ y]) (by simp [builtin]), hf]
  simp only [opEval] at he
  split at he
  · rename_i n cs hrow
    have hrow' := rowOf_spec r.rel hrow hy
    unfold appendA at he
    split at he
    · rename_i hn0
      subst hn0
      have hy0 : ρ y = .slice none 0 0 ∨ ∃ ad c, ρ y = .slice (some ad) 0 c := by
        rcases hrow' with ⟨_, _, h1 | h1⟩ | ⟨ad, c, vs, h1, _⟩
        · exact .inl h1
        · exact .inr h1
        · exact .inr ⟨ad, c, h1⟩
      have hld : ∀ ad : Addr, (loadCells ad 0).run P w = .ok #[] w := fun ad => by
        simpa using run_loadCells_list (P := P) w ad [] (fun j v hj => by simp at hj)
      split at he
      · rename_i hp
        rw [hp] at hx
        injection he with he; injection he with he1 he2; subst he1; subst he2
        refine sim_pure r (v' := .slice none 0 0) ?_ (by rw [hp]; exact .val rfl)
        rw [hrun (.ok (.slice none 0 0) w) ?_]
        · rfl
        · rcases hy0 with hy0 | ⟨ad, c, hy0⟩ <;>
          simp [Builtin.append_, run_under hu, run_sizeOf_of hsz, Builtin.lenOf, hx.lit, hy0, Builtin.firstCells, hld]
      · rename_i hp
        injection he with he; injection he with he1 he2; subst he1; subst he2
        have hx0 := hx
        rw [hp] at hx
        generalize hqx : ρ x = xv at hx hrun hx0
        cases hx with
        | hole =>
          rename_i ad c
          refine sim_pure r (v' := .slice (some ad) 0 c) ?_ hx0
          rw [hrun (.ok (.slice (some ad) 0 c) w) ?_]
          · rfl
          · rcases hy0 with hy0 | ⟨ad', c', hy0⟩ <;>
            simp [Builtin.append_, run_under hu, run_sizeOf_of hsz, Builtin.lenOf, hy0, Builtin.firstCells, hld, storeCells]
      · rename_i id off len lb ex k' hp
        injection he with he; injection he with he1 he2; subst he1; subst he2
        have hx0 := hx
        rw [hp] at hx
        generalize hqx : ρ x = xv at hx hrun hx0
        cases hx with
        | slice hb ho hh1 hh2 hh3 hh4 =>
          rename_i b o c
          refine sim_pure r (v' := .slice (some ⟨b.b, b.off + o, none⟩) len c) ?_ hx0
          have hle : len ≤ c := Nat.le_trans hh1 hh2
          rw [hrun (.ok (.slice (some ⟨b.b, b.off + o, none⟩) len c) w) ?_]
          · rfl
          · rcases hy0 with hy0 | ⟨ad, c, hy0⟩ <;>
            simp [Builtin.append_, run_under hu, run_sizeOf_of hsz, Builtin.lenOf, hy0, Builtin.firstCells, hld, hle, storeCells]
      · cases he
    · rename_i hn0
      rcases hrow' with ⟨h0, _⟩ | ⟨ad, cy, vs, hyv, hvl, hvc, hvr, hvo⟩
      · exact absurd h0 hn0
      · rw [hyv] at hrun
        split at he
        · -- a nil slice
          rename_i hp
          rw [hp] at hx
          split at he
          · rename_i hreach
            unfold reach at hreach
            injection he with he; injection he with he1 he2; subst he1; subst he2
            have hnb : n ≤ n * bytes := Nat.le_mul_of_pos_right _ hb0
            have hap := run_append_nil (P := P) w t ty e i zv hu hi hz0 ad n cy vs (by rw [hk]; exact hvl) hvc (by omega) (by omega) (by rw [hby]; omega)
            have hg := grownCap_ge w n 0 e
            rw [hx.lit] at hrun
            have hpa := post_alloc (fl := fl) r.drew cs (vs.toArray ++ Builtin.zeroCells zv.cells (grownCap w n 0 e - n)) e (grownCap w n 0 e * k) hvo
              (by rw [hvr.1, hvl]; exact Nat.mul_le_mul_right _ hg)
              (by
                have : n * k + (grownCap w n 0 e - n) * k = grownCap w n 0 e * k := by rw [← Nat.add_mul]; congr 1; omega
                simp [Builtin.zeroCells, hzz, hvl]; omega)
              (fun j a ha => by
                obtain ⟨y, hy, hr⟩ := hvr.get ha
                refine ⟨y, ?_, hr⟩
                have hlt := (List.getElem?_eq_some_iff.1 hy).1
                rw [Array.getElem?_append_left (by simpa using hlt)]
                simpa using hy)
            refine ⟨.slice (some ⟨w.heap.size, 0, none⟩) n (grownCap w n 0 e), _, _, .inl ?_, hpa.drew, VR.slice (b := ⟨w.heap.size, 0, grownCap w n 0 e * k⟩) (o := 0) (by simp [mset]) (fun _ => rfl) (Nat.le_refl _) hg (by simp) (by simp)⟩
            rw [hrun _ hap]; rfl
          · cases he
        · rename_i id off len lb ex k' hp
          have hx0 := hx
          rw [hp] at hx
          generalize hqx : ρ x = xv at hx hrun hx0
          cases hx with
          | slice hb ho hh1 hh2 hh3 hh4 =>
            rename_i b o c
            split at he
            · rename_i hcond
              obtain ⟨hkk, hreach⟩ := hcond
              have hkk := hkk.symm
              subst hkk
              unfold reach at hreach
              have hnb : len + n ≤ (len + n) * bytes := Nat.le_mul_of_pos_right _ hb0
              split at he
              · -- room enough, for sure
                rename_i hroom
                split at he
                · rename_i h1 hw
                  injection he with he; injection he with he1 he2; subst he1; subst he2
                  have := ho (by omega)
                  subst this
                  obtain ⟨w', h2, h3⟩ := sim_wr (P := P) r hfl hb hvr hvo hw
                  have hap := run_append_room (P := P) (w := w) (ty := ty) (b := ⟨b.b, b.off + o, none⟩) (sLen := len) (sCap := c) (n := n) (c := cy) (a := ad) (news := vs) (w' := w') hu hi (by rw [hk]; exact hvl) hvc (by omega) (by rw [add_spot, hk, Nat.add_assoc]; exact h2)
                  refine ⟨.slice (some ⟨b.b, b.off + o, none⟩) (len + n) c, w', m, .inl ?_, h3, .slice hb (fun _ => rfl) hroom hh2 hh3 hh4⟩
                  rw [hrun _ hap]; rfl
                · cases he
              · rename_i hroom
                split at he
                · rename_i old hold
                  -- what was there
                  obtain ⟨l, us, hl, hol, hul, huc, hur, huo⟩ : ∃ l us, blk h id = some l ∧ old.length = len * k ∧ us.length = len * k ∧ (∀ (j : Nat) v, us[j]? = some v → w.cell? ((⟨b.b, b.off + o, none⟩ : Addr).add j) = some v) ∧ VRs m old us ∧ ∀ x ∈ old, x.isCell = true := by
                    unfold rd at hold
                    split at hold
                    · rename_i l hl
                      split at hold
                      · rename_i hn
                        injection hold with hold
                        by_cases hl0 : lb = 0
                        · obtain rfl : len = 0 := by omega
                          simp at hold
                          subst hold
                          exact ⟨l, [], hl, by simp, by simp, fun j v hj => by simp at hj, .nil, fun x hx => by simp at hx⟩
                        · have := ho hl0
                          subst this
                          obtain ⟨us, h5, h6, h7⟩ := rel_cells r.rel hl hb hn
                          subst hold
                          exact ⟨l, us, hl, by simp; omega, h5, h6, h7, fun x hx => r.rel.one id l b hl hb x (List.mem_of_mem_drop (List.mem_of_mem_take hx))⟩
                      · cases hold
                    · cases hold
                  have hoc : ∀ x ∈ old ++ cs, x.isCell = true := fun x hx => by
                    rcases List.mem_append.1 hx with hx | hx
                    · exact huo x hx
                    · exact hvo x hx
                  have hgrow : c < len + n → ∃ w', Yield ((execOp ρ ⟨d, .call { callee := .builtin .append, args := #[x, y], argTypes := #[t, t] }, ty, pos, af, gd⟩).run P w) (.slice (some ⟨w.heap.size, 0, none⟩) (len + n) (grownCap w (len + n) c e)) w' ∧
                      ∀ hh : Heap, Rels n0 B0 m hh w → Post n0 B0 fl m hh w (mset m hh.length ⟨w.heap.size, 0, grownCap w (len + n) c e * k⟩) (hh ++ [some (old ++ cs)]) w' := by
                    intro hlt
                    have hap := run_append_grow (P := P) w t ty e i zv hu hi hz0 ⟨b.b, b.off + o, none⟩ len c us (by rw [hk]; exact hul) huc ad n cy vs (by rw [hk]; exact hvl) hvc hlt (by omega) (growslice_fits hlt (by rw [hby]; omega))
                    have hg := grownCap_ge w (len + n) c e
                    refine ⟨w.drew.alloc (.cells (us.toArray ++ vs.toArray ++ Builtin.zeroCells zv.cells (grownCap w (len + n) c e - (len + n))) e), .inl ?_, fun hh hr => ?_⟩
                    · rw [hrun _ hap]; rfl
                    · have hrr := hur.append hvr
                      have hpa := post_alloc (fl := fl) hr.drew (old ++ cs) (us.toArray ++ vs.toArray ++ Builtin.zeroCells zv.cells (grownCap w (len + n) c e - (len + n))) e (grownCap w (len + n) c e * k) hoc
                        (by
                          have := Nat.mul_le_mul_right k hg
                          rw [Nat.add_mul] at this
                          rw [List.length_append, hol, hvr.1, hvl]; exact this)
                        (by
                          have : (len + n) * k + (grownCap w (len + n) c e - (len + n)) * k = grownCap w (len + n) c e * k := by rw [← Nat.add_mul]; congr 1; omega
                          rw [Nat.add_mul] at this
                          simp [Builtin.zeroCells, hzz, hvl, hul]; omega)
                        (fun j a ha => by
                          obtain ⟨y, hy, hr⟩ := hrr.get ha
                          refine ⟨y, ?_, hr⟩
                          have hlt := (List.getElem?_eq_some_iff.1 hy).1
                          rw [Array.getElem?_append_left (by simpa using hlt)]
                          simpa using hy)
                      exact hpa.drew
                  split at he
                  · -- no room, for sure
                    rename_i hex
                    injection he with he; injection he with he1 he2; subst he1; subst he2
                    have hceq := hh3 hex
                    obtain ⟨w', hy1, hp1⟩ := hgrow (by omega)
                    exact ⟨_, w', _, hy1, hp1 h r, VR.slice (b := ⟨w.heap.size, 0, grownCap w (len + n) c e * k⟩) (o := 0) (by simp [mset]) (fun _ => rfl) (Nat.le_refl _) (grownCap_ge _ _ _ _) (by simp) (by simp)⟩
                  · split at he
                    · rename_i hid
                      injection he with he; injection he with he1 he2; subst he1; subst he2
                      by_cases hlt : c < len + n
                      · obtain ⟨w', hy1, hp1⟩ := hgrow hlt
                        have pk := post_kill (fl := fl) r hid (by rw [hb]; simp)
                        have hkl : (kill h id).length = h.length := by simp [kill]
                        have pa := hp1 (kill h id) pk.rels
                        rw [hkl] at pa
                        exact ⟨_, w', _, hy1, pk.trans r.dom pa, VR.slice (b := ⟨w.heap.size, 0, grownCap w (len + n) c e * k⟩) (o := 0) (by simp [mset]) (fun _ => rfl) (Nat.le_refl _) (grownCap_ge _ _ _ _) (by simp) (by simp)⟩
                      · -- in place
                        obtain ⟨h1, h2, cur, e', h3, h4⟩ := r.rel.own id l b (hfl id hid) hl hb
                        have hcy := hvr.1
                        have hmc : (len + n) * k ≤ c * k := Nat.mul_le_mul_right _ (by omega)
                        rw [Nat.add_mul] at hmc
                        have hone : ∀ v ∈ vs, v.oneCell' = true := fun v hv => by
                          obtain ⟨i, hi, rfl⟩ := List.getElem_of_mem hv
                          have hi' : i < cs.length := by rw [hvr.1]; exact hi
                          exact (hvr.2 i _ _ (List.getElem?_eq_getElem hi') (List.getElem?_eq_getElem hi)).oneCell (hvo _ (List.getElem_mem _))
                        have hst := run_storeCells_at P b.b (b.off + o + len * k) e' vs 0 cur w h3 (by omega) hone
                        simp only [Nat.add_zero] at hst
                        have hap := run_append_room (P := P) (w := w) (ty := ty) (b := ⟨b.b, b.off + o, none⟩) (sLen := len) (sCap := c) (n := n) (c := cy) (a := ad) (news := vs) hu hi (by rw [hk]; exact hvl) hvc (by omega) (by rw [add_spot, hk]; exact hst)
                        have ps := post_steal (fl := fl) r hfl hid hl hb h3 (old ++ cs) hoc o (by rw [List.length_append, hol, hcy, hvl]; omega) _ (by
                          have e2 : (List.take (b.off + o + len * k) cur.toList).length = b.off + o + len * k := by simp; omega
                          have : (cur.toList.take (b.off + o + len * k) ++ vs ++ cur.toList.drop (b.off + o + len * k + vs.length)).toArray.size = cur.size := by simp; omega
                          exact this) (fun j a ha => by
                          have e2 : (List.take (b.off + o + len * k) cur.toList).length = b.off + o + len * k := by simp; omega
                          by_cases hj : j < len * k
                          · rw [List.getElem?_append_left (by omega)] at ha
                            obtain ⟨y, hy, hr⟩ := hur.get ha
                            have hcell := huc j y hy
                            rw [add_spot] at hcell
                            refine ⟨y, ?_, hr⟩
                            rw [List.getElem?_toArray, splice_get, e2, if_pos (by omega), List.getElem?_take, if_pos (by omega)]
                            simpa [World.cell?, h3] using hcell
                          · rw [List.getElem?_append_right (by omega), hol] at ha
                            obtain ⟨y, hy, hr⟩ := hvr.get ha
                            refine ⟨y, ?_, hr⟩
                            have hlt2 := (List.getElem?_eq_some_iff.1 hy).1
                            rw [List.getElem?_toArray, splice_get, e2, if_neg (by omega), if_pos (by omega), show b.off + o + j - (b.off + o + len * k) = j - len * k by omega]
                            exact hy) _ rfl
                        refine ⟨.slice (some ⟨b.b, b.off + o, none⟩) (len + n) c, _, _, .inl ?_, ps, ?_⟩
                        · rw [hrun _ hap]; rfl
                        · have := VR.slice (m := mset m h.length ⟨b.b, b.off + o, b.room - o⟩) (id := h.length) (off := 0) (len := len + n) (lb := len + n) (ex := false) (k := k) (b := ⟨b.b, b.off + o, b.room - o⟩) (o := 0) (c := c) (by simp [mset]) (fun _ => rfl) (Nat.le_refl _) (by omega) (by simp) (by simp only; omega)
                          simpa using this
                    · cases he
                · cases he
            · cases he
        · cases he
  · cases he
end
end Go.Proofs.Ytpmmiaadfnildaa
