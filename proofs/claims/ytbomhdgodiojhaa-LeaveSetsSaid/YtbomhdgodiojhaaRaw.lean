/-
  Slices as rows of cells: what is read ('Raw'), how it stands to data ('Has'), and append onto a row of the call's own out of it.
-/
import Derived.Test.YtbomhdgodiojhaaBase
import Derived.Maps.AppendAt
import Derived.Deep.AppendLies
import Derived.RegionTactic
import Derived.OwnWalk
import Derived.Lib.QuietBelow
namespace Go.Proofs.Ytbomhdgodiojhaa
open Go.RowKit Go.Sort
set_option linter.unusedVariables false
set_option linter.unusedSimpArgs false

/-- The slice value '.slice A n _' has the cells xs (size cells an element), all below block B. -/
def Raw (w : World) (B size : Nat) (A : Option Addr) (n : Nat) (xs : List Value) : Prop :=
  xs.length = n * size ∧ (∀ u ∈ xs, u.oneCell' = true) ∧ (0 < n → ∃ b off, A = some ⟨b, off, none⟩ ∧ b < B ∧ ∀ j, j < xs.length → w.cell? ⟨b, off + j, none⟩ = xs[j]?)

def chunk (size : Nat) (xs : List Value) (i : Nat) : List Value := (xs.drop (i * size)).take size

section
variable {w w' : World} {B B' size n : Nat} {A : Option Addr} {xs : List Value}
theorem Raw.keep (h : Raw w B size A n xs) (hk : ∀ p : Addr, p.block < B → w'.cell? p = w.cell? p) (hB : B ≤ B') : Raw w' B' size A n xs :=
  ⟨h.1, h.2.1, fun hn => by
    obtain ⟨b, off, e, hb, hc⟩ := h.2.2 hn
    exact ⟨b, off, e, Nat.lt_of_lt_of_le hb hB, fun j hj => (hk _ hb).trans (hc j hj)⟩⟩
theorem Raw.below (h : Raw w B size A n xs) (hb : Below B w w') (hB : B ≤ B') : Raw w' B' size A n xs := h.keep (fun _ hp => hb.cell hp) hB
theorem Raw.nil_ : Raw w B size A 0 [] := ⟨by simp, by simp, fun h => absurd h (by omega)⟩

theorem Has.oneCells : ∀ {t : Ty} {cs : List Value} {x : t.val}, Has w B t cs x → ∀ u ∈ cs, u.oneCell' = true
  | .int _, _, _, h => by
    obtain ⟨rfl, _⟩ := h
    intro u hu; simp at hu; subst hu; rfl
  | .bool, _, _, h => by
    simp only [Has] at h; subst h
    intro u hu; simp at hu; subst hu; rfl
  | .str, _, _, h => by
    obtain ⟨rfl, _⟩ := h
    intro u hu; simp at hu; subst hu; rfl
  | .unit, _, _, h => by
    simp only [Has] at h; subst h
    intro u hu; cases hu
  | .prod a b, _, _, h => by
    obtain ⟨c, d, rfl, hc, hd⟩ := h
    intro u hu
    rcases List.mem_append.1 hu with hu | hu
    · exact hc.oneCells u hu
    · exact hd.oneCells u hu
  | .slice _ e, _, _, h => by
    obtain ⟨A, cap, rfl, _⟩ := h
    intro u hu; simp at hu; subst hu; rfl

theorem chunk_length (h : xs.length = n * size) {i : Nat} (hi : i < n) : (chunk size xs i).length = size := by
  unfold chunk
  rw [List.length_take, List.length_drop, h]
  have : (i + 1) * size ≤ n * size := Nat.mul_le_mul_right _ hi
  rw [Nat.add_mul, Nat.one_mul] at this
  omega
theorem chunk_get {i j : Nat} (hj : j < size) : (chunk size xs i)[j]? = xs[i * size + j]? := by
  unfold chunk
  rw [List.getElem?_take, if_pos hj, List.getElem?_drop]

theorem Has.raw {by_ cap : Nat} {e : Ty} {l : List e.val} (h : Has w B (.slice by_ e) [.slice A n cap] l) :
    n = l.length ∧ n ≤ cap ∧ cap ≤ maxLen ∧ (A = none → cap = 0) ∧ ∃ xs, Raw w B e.size A n xs ∧ ∀ i (hi : i < l.length), Has w B e (chunk e.size xs i) l[i] := by
  obtain ⟨A', cap', he, h1, h2, h3, h4⟩ := h
  simp only [List.cons.injEq, Value.slice.injEq, and_true] at he
  obtain ⟨rfl, rfl, rfl⟩ := he
  refine ⟨rfl, h1, h2, h3, ?_⟩
  by_cases hn : l = []
  · subst hn
    exact ⟨[], Raw.nil_, fun i hi => absurd hi (by simp)⟩
  · obtain ⟨b, off, rfl, hb, hc⟩ := h4 hn
    have key : ∀ m, m ≤ l.length → ∃ xs : List Value, xs.length = m * e.size ∧ (∀ j, j < xs.length → w.cell? ⟨b, off + j, none⟩ = xs[j]?) ∧ (∀ u ∈ xs, u.oneCell' = true) ∧ ∀ i (hi : i < l.length), i < m → Has w B e (chunk e.size xs i) l[i] := by
      intro m
      induction m with
      | zero => intro _; exact ⟨[], by simp, by simp, by simp, fun i hi h => absurd h (by omega)⟩
      | succ m ih =>
        intro hm
        obtain ⟨xs, hl, hx, ho, hh⟩ := ih (by omega)
        obtain ⟨ecs, hel, hec, hhe⟩ := hc m (by omega)
        refine ⟨xs ++ ecs, by rw [List.length_append, hl, hel, Nat.add_mul, Nat.one_mul], fun j hj => ?_, fun u hu => ?_, fun i hi him => ?_⟩
        · by_cases hjl : j < xs.length
          · rw [List.getElem?_append_left hjl]; exact hx j hjl
          · rw [List.getElem?_append_right (by omega)]
            rw [List.length_append] at hj
            have := hec (j - xs.length) (by omega)
            rw [← this, hl]
            congr 2
            omega
        · rcases List.mem_append.1 hu with hu | hu
          · exact ho u hu
          · exact hhe.oneCells u hu
        · by_cases hi2 : i < m
          · have h0 := hh i hi hi2
            have e0 : chunk e.size (xs ++ ecs) i = chunk e.size xs i := by
              apply List.ext_getElem?
              intro j
              by_cases hj : j < e.size
              · rw [chunk_get hj, chunk_get hj]
                have : (i + 1) * e.size ≤ m * e.size := Nat.mul_le_mul_right _ hi2
                rw [Nat.add_mul, Nat.one_mul] at this
                rw [List.getElem?_append_left (by omega)]
              · unfold chunk
                simp [List.getElem?_take, hj]
            rw [e0]; exact h0
          · have : i = m := by omega
            subst this
            have e0 : chunk e.size (xs ++ ecs) i = ecs := by
              unfold chunk
              rw [← hl, List.drop_left, ← hel, List.take_length]
            rw [e0]; exact hhe
    obtain ⟨xs, h5, h6, h7, h8⟩ := key l.length (Nat.le_refl _)
    exact ⟨xs, ⟨h5, h7, fun _ => ⟨b, off, rfl, hb, h6⟩⟩, fun i hi => h8 i hi hi⟩

theorem Raw.has {by_ cap : Nat} {e : Ty} {l : List e.val} (hr : Raw w B e.size A l.length xs) (h1 : l.length ≤ cap) (h2 : cap ≤ maxLen) (h3 : A = none → cap = 0)
    (hh : ∀ i (hi : i < l.length), Has w B e (chunk e.size xs i) l[i]) : Has w B (.slice by_ e) [.slice A l.length cap] l := by
  refine ⟨A, cap, rfl, h1, h2, h3, fun hn => ?_⟩
  obtain ⟨b, off, rfl, hb, hc⟩ := hr.2.2 (List.length_pos_iff.2 hn)
  refine ⟨b, off, rfl, hb, fun i hi => ⟨chunk e.size xs i, chunk_length hr.1 hi, fun j hj => ?_, hh i hi⟩⟩
  rw [chunk_get hj, Nat.add_assoc]
  refine hc _ ?_
  have : (i + 1) * e.size ≤ l.length * e.size := Nat.mul_le_mul_right _ hi
  rw [Nat.add_mul, Nat.one_mul] at this
  rw [hr.1]
  omega

theorem Raw.of_own {base : Nat} {e : TypeId} {c : Nat} (h : w.ownsRow base e size (.slice A n c) n xs) (h1 : ∀ u ∈ xs, u.oneCell' = true) : Raw w w.heap.size size A n xs := by
  refine ⟨h.1, h1, fun hn => ?_⟩
  obtain ⟨g, cap, hv, _, hlt⟩ := h.form hn
  have hA : A = some ⟨g, 0, none⟩ := by injection hv
  subst hA
  refine ⟨g, 0, rfl, hlt, fun j hj => ?_⟩
  have := h.cells (g := g) rfl j (xs[j]) (List.getElem?_eq_getElem hj)
  rw [List.getElem?_eq_getElem hj, ← this]
  congr 1
  unfold Addr.add
  split <;> simp_all

/-- The shape of an owned slice value. -/
theorem own_shape {base : Nat} {e : TypeId} {v : Value} (h : w.ownsRow base e size v n xs) : ∃ A c, v = .slice A n c ∧ n ≤ c ∧ c ≤ maxLen ∧ (A = none → c = 0) := by
  rcases h.2 with ⟨rfl, rfl⟩ | ⟨g, cap, cur, rfl, _, _, hn, hc, _⟩
  · exact ⟨none, 0, rfl, by simp, by simp [maxLen], fun _ => rfl⟩
  · exact ⟨_, cap, rfl, hn, hc, fun h => by cases h⟩
end

/-! ### Blocks that are known whole -/
def Blk (w : World) (g : Nat) (t : TypeId) (cs : Array Value) : Prop := w.heap[g]? = some (.cells cs t (0, 0))
section
variable {w w' : World} {g : Nat} {t : TypeId} {cs : Array Value}
theorem Blk.lt (h : Blk w g t cs) : g < w.heap.size := by
  rcases Nat.lt_or_ge g w.heap.size with hlt | hge
  · exact hlt
  · unfold Blk at h; rw [Array.getElem?_eq_none hge] at h; cases h
theorem Blk.cell (h : Blk w g t cs) (i : Nat) : w.cell? ⟨g, i, none⟩ = cs[i]? := by
  unfold Blk at h
  simp [World.cell?, h]
theorem Blk.frozen (h : Blk w g t cs) (i : Nat) : w.frozen? ⟨g, i, none⟩ = false := by
  unfold Blk at h
  simp [World.frozen?, h]
theorem Blk.new (w : World) (t : TypeId) (cs : Array Value) : Blk (w.alloc (.cells cs t)) w.heap.size t cs := heap_alloc_new w _
theorem Blk.alloc (h : Blk w g t cs) (o : Obj) : Blk (w.alloc o) g t cs := (Below.heap_alloc w o g h.lt).trans h
theorem Blk.set_ (h : Blk w g t cs) (i : Nat) (u : Value) : Blk (w.setCell ⟨g, i, none⟩ u) g t (cs.setIfInBounds i u) := by
  unfold Blk at h ⊢
  simp [World.setCell, Array.getElem?_modify, h]
theorem Blk.far (h : Blk w g t cs) {p : Addr} (hp : g ≠ p.block) (u : Value) : Blk (w.setCell p u) g t cs := (Below.heap_setCell w p u g hp).trans h
theorem Blk.below {B : Nat} (h : Blk w g t cs) (hb : Below B w w') (hg : g < B) : Blk w' g t cs := (hb.block g hg).trans h
theorem Blk.grown {row : Option Nat} (h : Blk w g t cs) (hb : w.grownBy w' row) (hg : some g ≠ row) : Blk w' g t cs := (hb.block g h.lt hg).trans h
theorem Blk.drew (h : Blk w g t cs) : Blk w.drew g t cs := h
theorem Blk.drewN (h : Blk w g t cs) (n : Nat) : Blk (w.drewN n) g t cs := h
end
theorem grown_of_below {a w : World} (h : Below a.heap.size a w) (row : Option Nat) : a.grownBy w row := ⟨h.os, h.tape, h.output, h.size, fun i hi _ => h.block i hi⟩
theorem own_base {w : World} {base base' size n : Nat} {e : TypeId} {v : Value} {xs : List Value} (h : w.ownsRow base e size v n xs) (hb : base' ≤ base) : w.ownsRow base' e size v n xs := by
  obtain ⟨h0, h1⟩ := h
  refine ⟨h0, ?_⟩
  rcases h1 with h1 | ⟨g, cap, cur, h2, h3, h4⟩
  · exact .inl h1
  · exact .inr ⟨g, cap, cur, h2, Nat.le_trans hb h3, h4⟩
theorem own_drewN {w : World} {base size n : Nat} {e : TypeId} {v : Value} {xs : List Value} (h : w.ownsRow base e size v n xs) (q : Nat) : (w.drewN q).ownsRow base e size v n xs := h
theorem Raw.drewN {w : World} {B size n : Nat} {A : Option Addr} {xs : List Value} (h : Raw w B size A n xs) (q : Nat) : Raw (w.drewN q) B size A n xs := h
theorem own_below {w w' : World} {base size n : Nat} {e : TypeId} {v : Value} {xs : List Value} (h : w.ownsRow base e size v n xs) (hb : Below w.heap.size w w') : w'.ownsRow base e size v n xs :=
  h.kept (grown_of_below hb none) (by cases v.ownBlock <;> simp)

section
variable {P : Program} (w : World)
theorem run_append_nil (base : Nat) (t ty e : TypeId) (i : TypeInfo) (size : Nat) (ht : P.underlying t = some (.slice e)) (hi : P.info? e = some i)
    (v : Value) (n : Nat) (xs : List Value) (hown : w.ownsRow base e size v n xs) (c : Nat) : (Builtin.append_ #[t, t] ty #[v, .slice none 0 c]).run P w = .ok v w := by
  rcases hown.2 with ⟨rfl, rfl⟩ | ⟨g, cap, cur, rfl, _, _, hnc, _⟩
  · simp [Builtin.append_, run_underlying ht, sizeOf, typeInfo, hi, Builtin.lenOf, Builtin.firstCells]
  · simp [Builtin.append_, run_underlying ht, sizeOf, typeInfo, hi, Builtin.lenOf, Builtin.firstCells, hnc, storeCells]

theorem run_append_raw (base : Nat) (t ty e : TypeId) (i : TypeInfo) (z : Value) (size bytes : Nat) (ht : P.underlying t = some (.slice e)) (hi : P.info? e = some i) (hz : i.zero = some z)
    (hsize : i.size = size) (hby : i.bytes = bytes) (hzs : z.cells.size = size) (hsz : 0 < size)
    (v : Value) (n : Nat) (xs : List Value) (hown : w.ownsRow base e size v n xs)
    (B : Nat) (A : Option Addr) (m c : Nat) (news : List Value) (hr : Raw w B size A m news)
    (h63 : n + m ≤ maxLen) (hbytes : (n + m) * bytes ≤ 140737488355328) (hbase : base ≤ w.heap.size) :
    ∃ v' w', (Builtin.append_ #[t, t] ty #[v, .slice A m c]).run P w = .ok v' w' ∧ w'.ownsRow base e size v' (n + m) (xs ++ news) ∧ w.grownBy w' v.ownBlock ∧
      (v'.ownBlock = v.ownBlock ∨ v'.ownBlock = some w.heap.size) := by
  rcases A with _ | ad
  · have hm : m = 0 := by
      rcases Nat.eq_zero_or_pos m with h0 | h0
      · exact h0
      · obtain ⟨b, off, h, _⟩ := hr.2.2 h0
        cases h
    subst hm
    have hn : news = [] := List.eq_nil_of_length_eq_zero (by simpa using hr.1)
    subst hn
    exact ⟨v, w, run_append_nil w base t ty e i size ht hi v n xs hown c, by simpa using hown, World.grownBy.refl w _, .inl rfl⟩
  · have hcells : ∀ j u, news[j]? = some u → w.cell? (ad.add j) = some u := by
      intro j u hu
      have hj : j < news.length := (List.getElem?_eq_some_iff.1 hu).1
      rcases Nat.eq_zero_or_pos m with h0 | h0
      · have := hr.1; rw [h0] at this; omega
      · obtain ⟨b, off, h, _, hc⟩ := hr.2.2 h0
        injection h with h
        subst h
        rw [← hu, ← hc j hj]
        congr 1
        unfold Addr.add
        split <;> simp_all
    obtain ⟨v', w', hrun, h2, h3, _, h5⟩ := run_append_own_at (P := P) w base t ty e i z size bytes ht hi hz hsize hby hzs hsz v n xs hown ad m c news hr.1 hcells hr.2.1 h63 hbytes hbase
    exact ⟨v', w', hrun, h2, h3, h5⟩

theorem wp_append_raw {o : Oper} {a : Act} {K : Act → World → Prop} {Q : Exit → Act → World → Prop} (s x : Operand) (t : TypeId)
    (ho : o.op = .call { callee := .builtin .append, args := #[s, x], argTypes := #[t, t] })
    (base : Nat) (e : TypeId) (i : TypeInfo) (z : Value) (size bytes : Nat) (ht : P.underlying t = some (.slice e)) (hi : P.info? e = some i) (hz : i.zero = some z)
    (hsize : i.size = size) (hby : i.bytes = bytes) (hzs : z.cells.size = size) (hsz : 0 < size)
    (v : Value) (n : Nat) (xs : List Value) (hs : a.eval s = v) (hown : w.ownsRow base e size v n xs)
    (B : Nat) (A : Option Addr) (m c : Nat) (news : List Value) (hx : a.eval x = .slice A m c) (hr : Raw w B size A m news)
    (h63 : n + m ≤ maxLen) (hbytes : (n + m) * bytes ≤ 140737488355328) (hbase : base ≤ w.heap.size)
    (h : ∀ v' w', w'.ownsRow base e size v' (n + m) (xs ++ news) → w.grownBy w' v.ownBlock → (v'.ownBlock = v.ownBlock ∨ v'.ownBlock = some w.heap.size) → K (a.put o.dst v') w') : o.wp P a w K Q := by
  obtain ⟨v', w', hrun, h2, h3, h4⟩ := run_append_raw (P := P) w base t o.type e i z size bytes ht hi hz hsize hby hzs hsz v n xs hown B A m c news hr h63 hbytes hbase
  unfold Oper.wp execOp
  simp only [ho, resolve, invoke, builtin, Sem.run_bind, Sem.run_pure, Result.andThen_ok, List.map_toArray, List.map_cons, List.map_nil, hs, hx, hrun]
  exact h v' w' h2 h3 h4

theorem wpList_append_raw {ops : Array Oper} {rest : List Oper} {o : Oper} {a : Act} {Q : Exit → Act → World → Prop} (hgd : o.guard = none) (s x : Operand) (t : TypeId)
    (ho : o.op = .call { callee := .builtin .append, args := #[s, x], argTypes := #[t, t] })
    (base : Nat) (e : TypeId) (i : TypeInfo) (z : Value) (size bytes : Nat) (ht : P.underlying t = some (.slice e)) (hi : P.info? e = some i) (hz : i.zero = some z)
    (hsize : i.size = size) (hby : i.bytes = bytes) (hzs : z.cells.size = size) (hsz : 0 < size)
    (v : Value) (n : Nat) (xs : List Value) (hs : a.eval s = v) (hown : w.ownsRow base e size v n xs)
    (B : Nat) (A : Option Addr) (m c : Nat) (news : List Value) (hx : a.eval x = .slice A m c) (hr : Raw w B size A m news)
    (h63 : n + m ≤ maxLen) (hbytes : (n + m) * bytes ≤ 140737488355328) (hbase : base ≤ w.heap.size)
    (h : ∀ v' w', w'.ownsRow base e size v' (n + m) (xs ++ news) → w.grownBy w' v.ownBlock → (v'.ownBlock = v.ownBlock ∨ v'.ownBlock = some w.heap.size) → wpList P ops Q rest (a.put o.dst v') w') : wpList P ops Q (o :: rest) a w :=
  wpList_plain hgd fun _ hK => wp_append_raw w s x t ho base e i z size bytes ht hi hz hsize hby hzs hsz v n xs hs hown B A m c news hx hr h63 hbytes hbase fun v' w' h2 h3 h4 => hK _ _ (h v' w' h2 h3 h4)
end
end Go.Proofs.Ytbomhdgodiojhaa
