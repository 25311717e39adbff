/-
  From a law's arguments to AM's: 'am_walk'.
-/
import Derived.Test.YtfmllmcjinjfaaaMrW1
import Derived.Test.YtfmllmcjinjfaaaMrW3
namespace Go.Proofs.Ytfmllmcjinjfaaa
open Go Go.RowKit
set_option linter.unusedVariables false
set_option linter.unusedSimpArgs false

def AHas (h : Heap) : (t : Ty) → List AV → t.val → Prop
  | .int k, cs, n => cs = [.val (.int k n)] ∧ (Lit.int k n).wf = true
  | .bool, cs, b => cs = [.val (.bool b)]
  | .str, cs, s => cs = [.val (.string s)] ∧ s.size ≤ maxLen
  | .unit, cs, _ => cs = []
  | .prod a b, cs, x => ∃ c d, cs = c ++ d ∧ AHas h a c x.1 ∧ AHas h b d x.2
  | .slice _ e, cs, l => ((cs = [.nil] ∨ cs = [.hole]) ∧ l = []) ∨ ∃ id row, cs = [.slice id 0 l.length l.length false e.size] ∧ blk h id = some row ∧ row.length = l.length * e.size ∧ l.length ≤ maxLen ∧
      ∀ i (hi : i < l.length), AHas h e ((row.drop (i * e.size)).take e.size) l[i]

theorem blk_ext {h : Heap} {id : Nat} {l : List AV} (e : Heap) (hb : blk h id = some l) : blk (h ++ e) id = some l := by rw [blk_app_lt _ (blk_lt hb)]; exact hb

theorem AHas.ext {h : Heap} (e : Heap) : ∀ {t : Ty} {cs : List AV} {x : t.val}, AHas h t cs x → AHas (h ++ e) t cs x
  | .int k, _, _, hh => hh
  | .bool, _, _, hh => hh
  | .str, _, _, hh => hh
  | .unit, _, _, hh => hh
  | .prod a b, _, _, hh => by
    obtain ⟨c, d, rfl, h1, h2⟩ := hh
    exact ⟨c, d, rfl, h1.ext e, h2.ext e⟩
  | .slice by_ el, _, l, hh => by
    rcases hh with hh | ⟨id, row, rfl, h1, h2, h3, h4⟩
    · exact .inl hh
    · exact .inr ⟨id, row, rfl, blk_ext e h1, h2, h3, fun i hi => (h4 i hi).ext e⟩
theorem AHas.size {h : Heap} : ∀ {t : Ty} {cs : List AV} {x : t.val}, AHas h t cs x → cs.length = t.size ∧ ∀ v ∈ cs, v.isCell = true
  | .int k, _, _, hh => by obtain ⟨rfl, _⟩ := hh; exact ⟨rfl, fun v hv => by simp at hv; subst hv; rfl⟩
  | .bool, _, _, hh => by simp only [AHas] at hh; subst hh; exact ⟨rfl, fun v hv => by simp at hv; subst hv; rfl⟩
  | .str, _, _, hh => by obtain ⟨rfl, _⟩ := hh; exact ⟨rfl, fun v hv => by simp at hv; subst hv; rfl⟩
  | .unit, _, _, hh => by simp only [AHas] at hh; subst hh; exact ⟨rfl, fun v hv => by simp at hv⟩
  | .prod a b, _, _, hh => by
    obtain ⟨c, d, rfl, h1, h2⟩ := hh
    refine ⟨by simp [h1.size.1, h2.size.1], fun v hv => ?_⟩
    rcases List.mem_append.1 hv with hv | hv
    · exact h1.size.2 v hv
    · exact h2.size.2 v hv
  | .slice by_ el, _, l, hh => by
    rcases hh with ⟨rfl | rfl, _⟩ | ⟨id, row, rfl, _⟩
    · exact ⟨rfl, fun v hv => by simp at hv; subst hv; rfl⟩
    · exact ⟨rfl, fun v hv => by simp at hv; subst hv; rfl⟩
    · exact ⟨rfl, fun v hv => by simp at hv; subst hv; rfl⟩

theorem add_ro {B0 : Nat} {m : Map} {h : Heap} {w : World} (r : Rels h.length B0 m h w) {b : Base} (hb : b.b < B0) (hk : b.mp = false) {row : List AV} (hone : ∀ v ∈ row, v.isCell = true) (hc : ∀ (i : Nat) v, row[i]? = some v → ∃ v', w.cell? ⟨b.b, b.off + i, none⟩ = some v' ∧ VR m v v') :
    Rels (h ++ [some row]).length B0 (mset m h.length b) (h ++ [some row]) w ∧ ∀ id c, m id = some c → mset m h.length b id = some c := by
  have hm : ∀ id c, m id = some c → mset m h.length b id = some c := fun id c hc => by
    have := r.dom id c hc
    simp only [mset]; rw [if_neg (by omega)]; exact hc
  have hcase : ∀ id l, blk (h ++ [some row]) id = some l → (id < h.length ∧ blk h id = some l) ∨ (id = h.length ∧ l = row) := fun id l hl => by
    by_cases hi : id < h.length
    · rw [blk_app_lt _ hi] at hl; exact .inl ⟨hi, hl⟩
    · have := blk_lt hl
      simp at this
      obtain rfl : id = h.length := by omega
      rw [blk_app_new] at hl; exact .inr ⟨rfl, by injection hl with hl; exact hl.symm⟩
  have hold : ∀ id c, id < h.length → mset m h.length b id = some c → m id = some c := fun id c hi hc => by
    simp only [mset] at hc; rw [if_neg (by omega)] at hc; exact hc
  have hnew : ∀ c, mset m h.length b h.length = some c → c = b := fun c hc => by simp [mset] at hc; exact hc.symm
  have hdom : ∀ id c, mset m h.length b id = some c → id < h.length + 1 := fun id c hc => by
    by_cases hi : id = h.length
    · omega
    · have : mset m h.length b id = m id := by simp [mset, hi]
      rw [this] at hc
      have := r.dom id c hc; omega
  refine ⟨⟨⟨r.rel.base, ?_, ?_, ?_, ?_, ?_, ?_, ?_⟩, by simpa using hdom, Nat.le_refl _⟩, hm⟩
  · intro id c hc'
    by_cases hi : id = h.length
    · subst hi; rw [hnew c hc']; exact Nat.lt_of_lt_of_le hb r.rel.base
    · exact r.rel.lt id c (hold id c (by have := hdom id c hc'; omega) hc')
  · intro id l c hl hc' i v hv
    rcases hcase id l hl with ⟨h1, h2⟩ | ⟨rfl, rfl⟩
    · obtain ⟨v', h3, h4⟩ := r.rel.cell id l c h2 ⟨hold id c h1 hc'.1, hc'.2⟩ i v hv
      exact ⟨v', h3, h4.mono hm⟩
    · rw [hnew c hc'.1]
      obtain ⟨v', h3, h4⟩ := hc i v hv
      exact ⟨v', h3, h4.mono hm⟩
  · intro id l c hl hc'
    rcases hcase id l hl with ⟨h1, h2⟩ | ⟨rfl, rfl⟩
    · exact r.rel.one id l c h2 ⟨hold id c h1 hc'.1, hc'.2⟩
    · exact hone
  · intro id l c hid hl
    have := blk_lt hl
    omega
  · intro id c hid hc'
    by_cases hi : id = h.length
    · subst hi; rw [hnew c hc']; exact hb
    · exact r.rel.ro id c (by have := hdom id c hc'; omega) (hold id c (by have := hdom id c hc'; omega) hc')
  · intro i j li lj bi bj hi hj hli
    have := blk_lt hli
    omega
  · intro id l c hl hc'
    rcases hcase id l hl with ⟨h1, h2⟩ | ⟨rfl, rfl⟩
    · obtain ⟨h3, _⟩ := r.rel.mp id l c h2 ⟨hold id c h1 hc'.1, hc'.2⟩
      omega
    · have h3 := hc'.2
      rw [hnew c hc'.1, hk] at h3; cases h3

theorem build_val {B0 : Nat} {w : World} : ∀ (t : Ty) (h : Heap) (m : Map), Rels h.length B0 m h w → ∀ (cs : List Value) (x : t.val), Has w B0 t cs x →
    ∃ cs' e m', (∀ id b, m id = some b → m' id = some b) ∧ Rels (h ++ e).length B0 m' (h ++ e) w ∧ AHas (h ++ e) t cs' x ∧ VRs m' cs' cs
  | .int k, h, m, r, cs, x, hh => by
    obtain ⟨rfl, hw⟩ := hh
    exact ⟨[.val (.int k x)], [], m, fun _ _ h => h, by simpa using r, ⟨rfl, hw⟩, .cons (.val rfl) .nil⟩
  | .bool, h, m, r, cs, x, hh => by
    simp only [Has] at hh; subst hh
    exact ⟨[.val (.bool x)], [], m, fun _ _ h => h, by simpa using r, rfl, .cons (.val rfl) .nil⟩
  | .str, h, m, r, cs, x, hh => by
    obtain ⟨rfl, hw⟩ := hh
    exact ⟨[.val (.string x)], [], m, fun _ _ h => h, by simpa using r, ⟨rfl, hw⟩, .cons (.val rfl) .nil⟩
  | .unit, h, m, r, cs, x, hh => by
    simp only [Has] at hh; subst hh
    exact ⟨[], [], m, fun _ _ h => h, by simpa using r, rfl, .nil⟩
  | .prod a b, h, m, r, cs, x, hh => by
    obtain ⟨c, d, rfl, h1, h2⟩ := hh
    obtain ⟨c', e1, m1, hm1, r1, a1, v1⟩ := build_val a h m r c x.1 h1
    obtain ⟨d', e2, m2, hm2, r2, a2, v2⟩ := build_val b (h ++ e1) m1 r1 d x.2 h2
    refine ⟨c' ++ d', e1 ++ e2, m2, fun id b h => hm2 id b (hm1 id b h), by rw [← List.append_assoc]; exact r2, ⟨c', d', rfl, ?_, ?_⟩, (v1.mono hm2).append v2⟩
    · rw [← List.append_assoc]; exact a1.ext e2
    · rw [← List.append_assoc]; exact a2
  | .slice by_ el, h, m, r, cs, l, hh => by
    obtain ⟨A, cap, rfl, h1, h2, h3, h4⟩ := hh
    cases A with
    | none =>
      obtain rfl : cap = 0 := h3 rfl
      have hl : l = [] := List.eq_nil_of_length_eq_zero (by omega)
      subst hl
      exact ⟨[.nil], [], m, fun _ _ h => h, by simpa using r, .inl ⟨.inl rfl, rfl⟩, .cons (.val rfl) .nil⟩
    | some ad =>
      -- the elements, one by one
      have key : ∀ (n : Nat) (hn : n ≤ l.length), l ≠ [] → ∀ (b off : Nat), (∀ i (h : i < l.length), ∃ ecs : List Value, ecs.length = el.size ∧ (∀ j, j < el.size → w.cell? ⟨b, off + i * el.size + j, none⟩ = ecs[j]?) ∧ Has w B0 el ecs l[i]) →
          ∃ (row : List AV) (e : Heap) (m' : Map), (∀ id b, m id = some b → m' id = some b) ∧ Rels (h ++ e).length B0 m' (h ++ e) w ∧ row.length = n * el.size ∧ (∀ v ∈ row, v.isCell = true) ∧ (∀ i (hi : i < n), AHas (h ++ e) el ((row.drop (i * el.size)).take el.size) l[i]) ∧
            ∀ (i : Nat) v, row[i]? = some v → ∃ v', w.cell? ⟨b, off + i, none⟩ = some v' ∧ VR m' v v' := by
        intro n
        induction n with
        | zero => intro hn _ b off _; exact ⟨[], [], m, fun _ _ h => h, by simpa using r, by simp, fun v hv => by simp at hv, fun i hi => absurd hi (by omega), fun i v hv => by simp at hv⟩
        | succ n ih =>
          intro hn hne b off hall
          obtain ⟨row, e, m', hm', r', hl', ho', ha', hc'⟩ := ih (by omega) hne b off hall
          obtain ⟨ecs, he1, he2, he3⟩ := hall n (by omega)
          obtain ⟨c', e1, m1, hm1, r1, a1, v1⟩ := build_val el (h ++ e) m' r' ecs l[n] he3
          have hsz := a1.size
          refine ⟨row ++ c', e ++ e1, m1, fun id b h => hm1 id b (hm' id b h), by rw [← List.append_assoc]; exact r1, by rw [List.length_append, hl', hsz.1, Nat.add_mul]; omega, fun v hv => ?_, fun i hi => ?_, fun i v hv => ?_⟩
          · rcases List.mem_append.1 hv with hv | hv
            · exact ho' v hv
            · exact hsz.2 v hv
          · rw [← List.append_assoc]
            by_cases hin : i < n
            · have hle : i * el.size + el.size ≤ row.length := by
                rw [hl']
                have : (i + 1) * el.size ≤ n * el.size := Nat.mul_le_mul_right _ (by omega)
                rw [Nat.add_mul] at this; omega
              rw [List.drop_append_of_le_length (by omega), List.take_append_of_le_length (by rw [List.length_drop]; omega)]
              exact (ha' i hin).ext e1
            · obtain rfl : i = n := by omega
              rw [← hl', List.drop_append_of_le_length (Nat.le_refl _), List.drop_length, List.nil_append, List.take_of_length_le (by omega)]
              exact a1
          · by_cases hir : i < row.length
            · rw [List.getElem?_append_left hir] at hv
              obtain ⟨v', h5, h6⟩ := hc' i v hv
              exact ⟨v', h5, h6.mono hm1⟩
            · rw [List.getElem?_append_right (by omega)] at hv
              obtain ⟨u, hu, hr⟩ := v1.get hv
              have hlt := (List.getElem?_eq_some_iff.1 hu).1
              refine ⟨u, ?_, hr⟩
              have := he2 (i - row.length) (by omega)
              rw [hu] at this
              rw [← this]
              congr 2
              rw [hl']; omega
      obtain ⟨ab, ao, asp⟩ := ad
      by_cases hne : l = []
      · subst hne
        exact ⟨[.hole], [], m, fun _ _ h => h, by simpa using r, .inl ⟨.inr rfl, rfl⟩, .cons .hole .nil⟩
      · obtain ⟨b, off, hA, hb, hall⟩ := h4 hne
        injection hA with hA
        injection hA with e1 e2 e3
        subst e1; subst e2; subst e3
        obtain ⟨row, e, m', hm', r', hl', ho', ha', hc'⟩ := key l.length (Nat.le_refl _) hne _ _ hall
        obtain ⟨r2, hm2⟩ := add_ro r' (b := ⟨ab, ao, cap * el.size, false⟩) hb rfl ho' hc'
        refine ⟨[.slice (h ++ e).length 0 l.length l.length false el.size], e ++ [some row], mset m' (h ++ e).length ⟨ab, ao, cap * el.size, false⟩, fun id b h => hm2 id b (hm' id b h), by rw [← List.append_assoc]; exact r2, .inr ⟨(h ++ e).length, row, rfl, ?_, hl', Nat.le_trans h1 h2, fun i hi => ?_⟩, .cons ?_ .nil⟩
        · rw [← List.append_assoc]; exact blk_app_new
        · rw [← List.append_assoc]; exact (ha' i hi).ext _
        · have := VR.slice (m := mset m' (h ++ e).length ⟨ab, ao, cap * el.size, false⟩) (id := (h ++ e).length) (off := 0) (len := l.length) (lb := l.length) (ex := false) (k := el.size) (b := ⟨ab, ao, cap * el.size, false⟩) (o := 0) (c := cap) (⟨by simp [mset], rfl⟩) (fun _ => rfl) (Nat.le_refl _) h1 (by simp) (by simp)
          simpa using this

def aArg (st : Bool) (cs : List AV) : AV := match st with | true => .agg cs | false => cs.headD .no
def AArgs (Q : (t : Ty) → t.val → Prop) (h : Heap) : List (Bool × Ty) → List AV → Prop
  | [], al => al = []
  | p :: r, al => ∃ cs x al', al = aArg p.1 cs :: al' ∧ AHas h p.2 cs x ∧ Q p.2 x ∧ AArgs Q h r al'
def tysOk : List (Bool × Ty) → Bool
  | [] => true
  | p :: r => (p.1 || p.2.size == 1) && tysOk r

theorem AArgs.ext {Q : (t : Ty) → t.val → Prop} {h : Heap} (e : Heap) : ∀ {tys : List (Bool × Ty)} {al : List AV}, AArgs Q h tys al → AArgs Q (h ++ e) tys al
  | [], _, hh => hh
  | p :: r, _, hh => by
    obtain ⟨cs, x, al', rfl, h1, h2, h3⟩ := hh
    exact ⟨cs, x, al', rfl, h1.ext e, h2, h3.ext e⟩

theorem build_args {Q : (t : Ty) → t.val → Prop} {B0 : Nat} {w : World} : ∀ (tys : List (Bool × Ty)), tysOk tys = true → ∀ (h : Heap) (m : Map), Rels h.length B0 m h w → ∀ (vs : List Value), ArgsHoldQ Q w B0 tys vs →
    ∃ al e m', (∀ id b, m id = some b → m' id = some b) ∧ Rels (h ++ e).length B0 m' (h ++ e) w ∧ AArgs Q (h ++ e) tys al ∧ VRs m' al vs
  | [], _, h, m, r, vs, hh => by
    simp only [ArgsHoldQ] at hh; subst hh
    exact ⟨[], [], m, fun _ _ h => h, by simpa using r, rfl, .nil⟩
  | p :: tys, hok, h, m, r, vs, hh => by
    obtain ⟨cs, x, vs', rfl, h1, h2, h3⟩ := hh
    simp only [tysOk, Bool.and_eq_true] at hok
    obtain ⟨cs', e1, m1, hm1, r1, a1, v1⟩ := build_val p.2 h m r cs x h1
    obtain ⟨al, e2, m2, hm2, r2, a2, v2⟩ := build_args tys hok.2 (h ++ e1) m1 r1 vs' h3
    refine ⟨aArg p.1 cs' :: al, e1 ++ e2, m2, fun id b h => hm2 id b (hm1 id b h), by rw [← List.append_assoc]; exact r2, ⟨cs', x, al, rfl, ?_, h2, ?_⟩, .cons ?_ v2⟩
    · rw [← List.append_assoc]; exact a1.ext e2
    · rw [← List.append_assoc]; exact a2
    · have v1 := v1.mono hm2
      unfold aArg argVal
      cases hst : p.1 with
      | true => exact VRs.agg (by simpa using v1)
      | false =>
        have hsz := a1.size.1
        rw [hst] at hok
        simp at hok
        rw [hok.1] at hsz
        match cs', cs, v1, hsz with
        | [a], [b], v1, _ => exact v1.2 0 a b rfl rfl
        | [a], [], v1, _ => have := v1.1; simp at this
        | [a], _ :: _ :: _, v1, _ => have := v1.1; simp at this
        | [], _, _, hsz => simp at hsz
        | _ :: _ :: _, _, _, hsz => simp at hsz

theorem rels_nil (W : World) : Rels ([] : Heap).length W.heap.size (fun _ => none) [] W :=
  ⟨⟨Nat.le_refl _, (fun id b hb => by cases hb), (fun id l b hl hb => by cases hb.1), (fun id l b hl hb => by cases hb.1), (fun id l b h0 hl hb => by cases hb.1), (fun id b h0 hb => by cases hb), (fun i j li lj bi bj h1 h2 h3 h4 h5 => by cases h5), (fun id l b hl hb => by cases hb.1)⟩, (fun id b hb => by cases hb), Nat.le_refl _⟩

theorem am_walk {P : Program} (hmix : P.follows .mixedOrders = true) {X : CallT} (hX : CallOk P X) {F : FuncId → Option AFunc} (hF : ∀ f af, F f = some af → cFunc P f = some af) {f : FuncId} {tys : List (Bool × Ty)} {Q : (t : Ty) → t.val → Prop} (hok : tysOk tys = true)
    (main : ∀ (h : Heap) (al : List AV), AArgs Q h tys al → ∃ n h', call X F n f al (fun i => decide (h.length ≤ i)) h = some (.val (.bool true), h')) (W : World) (args : Array Value) (hargs : ArgsHoldQ Q W W.heap.size tys args.toList) :
    Calls P f args W fun e W' => e = .returned (.bool true) ∧ Below W.heap.size W W' := by
  have r0 : Rels ([] : Heap).length W.heap.size (fun _ => none) [] W := rels_nil W
  obtain ⟨al, e, m, _, r, ha, hv⟩ := build_args tys hok [] (fun _ => none) r0 args.toList hargs
  simp only [List.nil_append] at r ha
  obtain ⟨n, h', hc⟩ := main e al ha
  refine (am_calls hmix hX hF hc r hv).mono fun e' W' hp => ?_
  obtain ⟨v', m', rfl, hv', hb⟩ := hp
  exact ⟨by rw [hv'.lit], hb⟩

theorem Rels.below {n0 B0 : Nat} {m : Map} {h : Heap} {w w' : World} (r : Rels n0 B0 m h w) (hb : Below w.heap.size w w') : Rels n0 B0 m h w' := by
  have hs : ∀ k, k < w.heap.size → w'.heap[k]? = w.heap[k]? := hb.block
  refine ⟨⟨Nat.le_trans r.rel.base hb.size, fun id b h => Nat.lt_of_lt_of_le (r.rel.lt id b h) hb.size, fun id l b hl hbm i v hv => ?_, r.rel.one, fun id l b h0 hl hbm => ?_, r.rel.ro, r.rel.inj, fun id l b hl hbm => ?_⟩, r.dom, r.n0⟩
  · obtain ⟨v', h1, h2⟩ := r.rel.cell id l b hl hbm i v hv
    refine ⟨v', ?_, h2⟩
    simp only [World.cell?, hs b.b (r.rel.lt id b hbm.1)] at h1 ⊢
    exact h1
  · obtain ⟨h1, h2, c, e, h3, h4⟩ := r.rel.own id l b h0 hl hbm
    exact ⟨h1, h2, c, e, by rw [hs b.b (r.rel.lt id b hbm.1)]; exact h3, h4⟩
  · obtain ⟨h1, h2, es, ck, h3, h4⟩ := r.rel.mp id l b hl hbm
    exact ⟨h1, h2, es, ck, by rw [hs b.b (r.rel.lt id b hbm.1)]; exact h3, h4⟩
theorem Post.below {n0 B0 : Nat} {fl : Nat → Bool} {m : Map} {h : Heap} {w w' : World} (r : Rels n0 B0 m h w) (hb : Below w.heap.size w w') : Post n0 B0 fl m h w m h w' :=
  ⟨r.below hb, Nat.le_refl _, fun _ _ => rfl, hb.os, hb.tape, hb.output, hb.size, fun x hx _ => hb.block x hx, fun id b h1 h2 => absurd (r.dom id b h2) (by omega), fun _ _ _ => rfl, fun _ _ h => h, fun id h1 h2 => absurd h2 (by omega)⟩

end Go.Proofs.Ytfmllmcjinjfaaa
