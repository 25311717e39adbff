/-
  AM and the program's machine: a new block, a store; the laws of each operation.
-/
import Derived.Test.YtpmmiaadfnildaaAmB
namespace Go.Proofs.Ytpmmiaadfnildaa
open Go
set_option linter.unusedVariables false
set_option linter.unusedSimpArgs false
section
variable {n0 B0 : Nat} {P : Program} {m : Map} {h : Heap} {w : World} {fl : Nat → Bool}

def mset (m : Map) (id : Nat) (b : Base) : Map := fun i => if i = id then some b else m i

theorem blk_app_lt {h : Heap} {id : Nat} (e : Heap) (hi : id < h.length) : blk (h ++ e) id = blk h id := blk_congr (by rw [List.getElem?_append_left hi])
theorem blk_app_new {h : Heap} {l : List AV} : blk (h ++ [some l]) h.length = some l := by rw [blk_get]; simp

/-- A new block, its first cells those of cs. -/
theorem post_alloc (r : Rels n0 B0 m h w) (cs : List AV) (arr : Array Value) (e : TypeId) (room : Nat) (hone : ∀ x ∈ cs, x.isCell = true) (hroom : cs.length ≤ room) (hsz : room ≤ arr.size)
    (hcs : ∀ (i : Nat) x, cs[i]? = some x → ∃ y, arr[i]? = some y ∧ VR m x y) :
    Post n0 B0 fl m h w (mset m h.length ⟨w.heap.size, 0, room⟩) (h ++ [some cs]) (w.alloc (.cells arr e)) := by
  have hm : ∀ id b, m id = some b → mset m h.length ⟨w.heap.size, 0, room⟩ id = some b := fun id b hb => by
    have := r.dom id b hb
    simp only [mset]; rw [if_neg (by omega)]; exact hb
  have hold : ∀ id b, id < h.length → mset m h.length ⟨w.heap.size, 0, room⟩ id = some b → m id = some b := fun id b hi hb => by
    simp only [mset] at hb; rw [if_neg (by omega)] at hb; exact hb
  have hnew : ∀ b, mset m h.length ⟨w.heap.size, 0, room⟩ h.length = some b → b = ⟨w.heap.size, 0, room⟩ := fun b hb => by simp [mset] at hb; exact hb.symm
  have hcase : ∀ id l, blk (h ++ [some cs]) id = some l → (id < h.length ∧ blk h id = some l) ∨ (id = h.length ∧ l = cs) := fun id l hl => by
    by_cases hi : id < h.length
    · rw [blk_app_lt _ hi] at hl; exact .inl ⟨hi, hl⟩
    · have := blk_lt hl
      simp at this
      obtain rfl : id = h.length := by omega
      rw [blk_app_new] at hl; exact .inr ⟨rfl, by injection hl with hl; exact hl.symm⟩
  have hheap : ∀ k, k < w.heap.size → (w.alloc (.cells arr e)).heap[k]? = w.heap[k]? := fun k hk => by
    show (w.heap.push _)[k]? = _
    rw [Array.getElem?_push_lt hk, Array.getElem?_eq_getElem hk]
  refine ⟨⟨⟨by have := r.rel.base; simp; omega, ?_, ?_, ?_, ?_, ?_, ?_⟩, ?_, by simp; have := r.n0; omega⟩, by simp, ?_, rfl, rfl, rfl, by simp, fun x hx _ => hheap x hx, ?_, ?_, ?_, ?_⟩
  · intro id b hb
    by_cases hi : id = h.length
    · subst hi; rw [hnew b hb]; simp
    · have : mset m h.length ⟨w.heap.size, 0, room⟩ id = m id := by simp [mset, hi]
      rw [this] at hb
      have := r.rel.lt id b hb
      simp; omega
  · intro id l b hl hb i v hv
    rcases hcase id l hl with ⟨hi, hl⟩ | ⟨rfl, rfl⟩
    · have hb := hold id b hi hb
      obtain ⟨v', h1, h2⟩ := r.rel.cell id l b hl hb i v hv
      exact ⟨v', by rw [World.cell?_alloc_lt _ _ _ (r.rel.lt id b hb)]; exact h1, h2.mono hm⟩
    · obtain rfl := hnew b hb
      obtain ⟨y, hy, hr⟩ := hcs i v hv
      exact ⟨y, by simp [hy], hr.mono hm⟩
  · intro id l b hl hb
    rcases hcase id l hl with ⟨hi, hl⟩ | ⟨rfl, rfl⟩
    · exact r.rel.one id l b hl (hold id b hi hb)
    · exact hone
  · intro id l b hid hl hb
    rcases hcase id l hl with ⟨hi, hl⟩ | ⟨rfl, rfl⟩
    · have hb := hold id b hi hb
      obtain ⟨h1, h2, c, e', h3, h4⟩ := r.rel.own id l b hid hl hb
      exact ⟨h1, h2, c, e', by rw [hheap _ (r.rel.lt id b hb)]; exact h3, h4⟩
    · obtain rfl := hnew b hb
      exact ⟨r.rel.base, hroom, arr, e, by show (w.heap.push _)[w.heap.size]? = _; simp, by simpa using hsz⟩
  · intro id b hid hb
    have := r.n0
    exact r.rel.ro id b hid (hold id b (by omega) hb)
  · intro i j li lj bi bj hi hj hli hlj hbi hbj he
    rcases hcase i li hli with ⟨h1, h2⟩ | ⟨h1, h2⟩ <;> rcases hcase j lj hlj with ⟨h3, h4⟩ | ⟨h3, h4⟩
    · exact r.rel.inj i j li lj bi bj hi hj h2 h4 (hold _ _ h1 hbi) (hold _ _ h3 hbj) he
    · subst h3; subst h4
      rw [hnew bj hbj] at he
      have := r.rel.lt i bi (hold _ _ h1 hbi)
      simp at he; omega
    · subst h1; subst h2
      rw [hnew bi hbi] at he
      have := r.rel.lt j bj (hold _ _ h3 hbj)
      simp at he; omega
    · rw [h1, h3]
  · intro id b hb
    by_cases hi : id = h.length
    · subst hi; simp
    · have : mset m h.length ⟨w.heap.size, 0, room⟩ id = m id := by simp [mset, hi]
      rw [this] at hb
      have := r.dom id b hb
      simp; omega
  · intro id hid
    simp only [mset]; rw [if_neg (by omega)]
  · intro id b hid hb
    by_cases hi : id = h.length
    · subst hi; rw [hnew b hb]; exact .inl (Nat.le_refl _)
    · have : mset m h.length ⟨w.heap.size, 0, room⟩ id = m id := by simp [mset, hi]
      rw [this] at hb
      have := r.dom id b hb
      omega
  · intro id hid _
    rw [List.getElem?_append_left hid]
  · intro id hid hb
    rw [blk_app_lt _ hid]; exact hb
  · intro id h1 h2
    obtain rfl : id = h.length := by simp at h2; omega
    simp [mset]

/-- A block's cells rewritten within its room. -/
theorem post_write (r : Rels n0 B0 m h w) (hfl : ∀ id, fl id = true → n0 ≤ id) {id : Nat} {l : List AV} {b : Base} (hid : fl id = true) (hl : blk h id = some l) (hb : m id = some b)
    {c : Array Value} {e : TypeId} (hc : w.heap[b.b]? = some (.cells c e (0, 0))) (l' : List AV) (hone : ∀ x ∈ l', x.isCell = true) (hll : l'.length ≤ b.room) (arr : Array Value) (hsz : arr.size = c.size)
    (hcs : ∀ (i : Nat) x, l'[i]? = some x → ∃ y, arr[b.off + i]? = some y ∧ VR m x y) (w' : World) (hw : w' = w.setRow b.b arr) :
    Post n0 B0 fl m h w m (h.set id (some l')) w' := by
  subst hw
  have hlt := blk_lt hl
  have hheap : ∀ k, k ≠ b.b → (w.setRow b.b arr).heap[k]? = w.heap[k]? := fun k hk => by
    simp [World.setRow, Array.getElem?_modify, Ne.symm hk]
  have hat : (w.setRow b.b arr).heap[b.b]? = some (.cells arr e (0, 0)) := by
    simp [World.setRow, Array.getElem?_modify, hc]
  have hsize : (w.setRow b.b arr).heap.size = w.heap.size := by simp [World.setRow]
  have hcell : ∀ k o, k ≠ b.b → (w.setRow b.b arr).cell? ⟨k, o, none⟩ = w.cell? ⟨k, o, none⟩ := fun k o hk => by
    simp only [World.cell?, hheap k hk]
  have hcase : ∀ i li, blk (h.set id (some l')) i = some li → (i ≠ id ∧ blk h i = some li) ∨ (i = id ∧ li = l') := fun i li hli => by
    rw [blk_get, List.getElem?_set] at hli
    split at hli
    · rename_i he
      subst he
      injection hli with hli; injection hli with hli
      exact .inr ⟨rfl, hli.symm⟩
    · rename_i he
      exact .inl ⟨fun h => he h.symm, blk_get.2 hli⟩
  have hn := hfl id hid
  have hfar : ∀ i li bi, i ≠ id → blk h i = some li → m i = some bi → bi.b ≠ b.b := fun i li bi hne hli hbi he => by
    by_cases hi : n0 ≤ i
    · exact hne (r.rel.inj i id li l bi b hi hn hli hl hbi hb he)
    · have h1 := r.rel.ro i bi (by omega) hbi
      have h2 := (r.rel.own id l b hn hl hb).1
      omega
  refine ⟨⟨⟨by rw [hsize]; exact r.rel.base, fun i bi hbi => by rw [hsize]; exact r.rel.lt i bi hbi, ?_, ?_, ?_, r.rel.ro, ?_⟩, ?_, by simpa using r.n0⟩, by simp, fun _ _ => rfl, rfl, rfl, rfl, by rw [hsize]; exact Nat.le_refl _, ?_, ?_, ?_, ?_, fun id h1 h2 => absurd h2 (by simp; omega)⟩
  · intro i li bi hli hbi j v hv
    rcases hcase i li hli with ⟨hne, hli⟩ | ⟨rfl, rfl⟩
    · rw [hcell _ _ (hfar i li bi hne hli hbi)]
      exact r.rel.cell i li bi hli hbi j v hv
    · obtain rfl : bi = b := by rw [hb] at hbi; injection hbi with hbi; exact hbi.symm
      obtain ⟨y, hy, hr⟩ := hcs j v hv
      exact ⟨y, by simp [World.cell?, hat, hy], hr⟩
  · intro i li bi hli hbi
    rcases hcase i li hli with ⟨hne, hli⟩ | ⟨rfl, rfl⟩
    · exact r.rel.one i li bi hli hbi
    · exact hone
  · intro i li bi hi hli hbi
    rcases hcase i li hli with ⟨hne, hli⟩ | ⟨rfl, rfl⟩
    · obtain ⟨h1, h2, c', e', h3, h4⟩ := r.rel.own i li bi hi hli hbi
      exact ⟨h1, h2, c', e', by rw [hheap _ (hfar i li bi hne hli hbi)]; exact h3, h4⟩
    · obtain rfl : bi = b := by rw [hb] at hbi; injection hbi with hbi; exact hbi.symm
      obtain ⟨h1, h2, c', e', h3, h4⟩ := r.rel.own i l bi hi hl hb
      rw [hc] at h3
      injection h3 with h3; injection h3 with h3 h5 h6; subst h3
      exact ⟨h1, hll, arr, e, hat, by rw [hsz]; exact h4⟩
  · intro i j li lj bi bj hi hj hli hlj hbi hbj he
    have alive : ∀ i li, blk (h.set id (some l')) i = some li → ∃ l0, blk h i = some l0 := fun i li hli => by
      rcases hcase i li hli with ⟨_, h1⟩ | ⟨rfl, _⟩
      · exact ⟨_, h1⟩
      · exact ⟨_, hl⟩
    obtain ⟨l1, h1⟩ := alive i li hli
    obtain ⟨l2, h2⟩ := alive j lj hlj
    exact r.rel.inj i j l1 l2 bi bj hi hj h1 h2 hbi hbj he
  · intro i bi hbi; simpa using r.dom i bi hbi
  · intro x hx hn
    exact hheap x (fun hxb => hn id l b hid hl hb hxb.symm)
  · intro i bi hi hbi
    have := r.dom i bi hbi
    omega
  · intro i hi hh
    rw [List.getElem?_set]
    split
    · rename_i he; subst he
      rcases hh with hh | hh
      · rw [hb] at hh; cases hh
      · rw [hid] at hh; cases hh
    · rfl
  · intro i hi hbi
    cases hc' : blk (h.set id (some l')) i with
    | none => rfl
    | some li =>
      rcases hcase i li hc' with ⟨_, h1⟩ | ⟨rfl, _⟩
      · rw [h1] at hbi; cases hbi
      · rw [hl] at hbi; cases hbi

/-- A row of stores. -/
theorem sim_wr (r : Rels n0 B0 m h w) (hfl : ∀ id, fl id = true → n0 ≤ id) {id off : Nat} {b : Base} (hb : m id = some b) {vs : List AV} {us : List Value} (hv : VRs m vs us) (hone' : ∀ v ∈ vs, v.isCell = true) {h' : Heap} (hw : wr fl h id off vs = some h') :
    ∃ w', (storeCells ⟨b.b, b.off + off, none⟩ us).run P w = .ok () w' ∧ Post n0 B0 fl m h w m h' w' := by
  unfold wr at hw
  split at hw
  · rename_i l hl
    split at hw
    · rename_i hcond
      obtain ⟨hid, hlen⟩ := hcond
      injection hw with hw; subst hw
      obtain ⟨h1, h2, c, e, h3, h4⟩ := r.rel.own id l b (hfl id hid) hl hb
      have hone : ∀ v ∈ us, v.oneCell' = true := fun v hv' => by
        obtain ⟨i, hi, rfl⟩ := List.getElem_of_mem hv'
        have hi' : i < vs.length := by rw [hv.1]; exact hi
        exact (hv.2 i _ _ (List.getElem?_eq_getElem hi') (List.getElem?_eq_getElem hi)).oneCell (hone' _ (List.getElem_mem _))
      have hst := run_storeCells_at P b.b (b.off + off) e us 0 c w h3 (by rw [← hv.1]; omega) hone
      simp only [Nat.add_zero] at hst
      refine ⟨_, hst, post_write r hfl hid hl hb h3 _ (fun x hx => ?_) ?_ _ ?_ ?_ _ rfl⟩
      · simp only [List.mem_append] at hx
        rcases hx with (hx | hx) | hx
        · exact r.rel.one id l b hl hb x (List.mem_of_mem_take hx)
        · exact hone' x hx
        · exact r.rel.one id l b hl hb x (List.mem_of_mem_drop hx)
      · simp; omega
      · have := hv.1; simp; omega
      · intro i x hx
        have hus := hv.1
        by_cases hi1 : i < off
        · rw [List.append_assoc, List.getElem?_append_left (by simp; omega), List.getElem?_take, if_pos hi1] at hx
          obtain ⟨y, hy, hr⟩ := r.rel.cell id l b hl hb i x hx
          refine ⟨y, ?_, hr⟩
          rw [List.getElem?_toArray, List.append_assoc, List.getElem?_append_left (by simp; omega), List.getElem?_take, if_pos (by omega)]
          simpa [World.cell?, h3] using hy
        · by_cases hi2 : i < off + vs.length
          · rw [List.append_assoc, List.getElem?_append_right (by simp; omega), List.getElem?_append_left (by simp; omega)] at hx
            have e1 : (l.take off).length = off := by simp; omega
            rw [e1] at hx
            obtain ⟨y, hy, hr⟩ := hv.get hx
            refine ⟨y, ?_, hr⟩
            have e2 : (c.toList.take (b.off + off)).length = b.off + off := by simp; omega
            rw [List.getElem?_toArray, List.append_assoc, List.getElem?_append_right (by rw [e2]; omega), List.getElem?_append_left (by rw [e2]; omega), e2, show b.off + i - (b.off + off) = i - off by omega]
            exact hy
          · rw [List.append_assoc, List.getElem?_append_right (by simp; omega), List.getElem?_append_right (by simp; omega)] at hx
            have e1 : (l.take off).length = off := by simp; omega
            rw [e1, List.getElem?_drop, show off + vs.length + (i - off - vs.length) = i by omega] at hx
            obtain ⟨y, hy, hr⟩ := r.rel.cell id l b hl hb i x hx
            refine ⟨y, ?_, hr⟩
            have e2 : (c.toList.take (b.off + off)).length = b.off + off := by simp; omega
            rw [List.getElem?_toArray, List.append_assoc, List.getElem?_append_right (by rw [e2]; omega), List.getElem?_append_right (by rw [e2]; omega), e2, List.getElem?_drop, show b.off + off + us.length + (b.off + i - (b.off + off) - us.length) = b.off + i by omega]
            simpa [World.cell?, h3] using hy
    · cases hw
  · cases hw
end
end Go.Proofs.Ytpmmiaadfnildaa
