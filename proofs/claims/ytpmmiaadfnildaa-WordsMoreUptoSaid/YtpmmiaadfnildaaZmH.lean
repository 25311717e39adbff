/-
  ZM: one operation is sound.
-/
import Derived.Test.YtpmmiaadfnildaaZmG
namespace Go.Proofs.Ytpmmiaadfnildaa
open Go Go.RowKit
set_option linter.unusedVariables false
set_option linter.unusedSimpArgs false
variable {fl L : Nat → Bool} {w : Wd} {S : ZS} {s : Slots} {X : CallT} {F : FuncId → Option AFunc}

theorem copy_spec (r : ZRel fl L w) {z : ZV} {a : AV} (hz : ZR w z a) {k n : Nat} {new : List (List ZV)} {cells : List AV} (hc : ZRs w new.flatten cells) (hk : ∀ x ∈ new, x.length = k) {H' : ZH} (ha : copyZ L w.H k new z = some (n, H')) :
    (a = .nil ∧ n = 0 ∧ H' = w.H) ∨ ∃ id off len lb ex h' w', a = .slice id off len lb ex k ∧ n = min new.length len ∧ wr fl w.h id off (cells.take (n * k)) = some h' ∧ w'.h = h' ∧ w'.H = H' ∧ ZRel fl L w' ∧ Ext w w' := by
  unfold copyZ at ha
  split at ha
  · injection ha with ha; injection ha with e1 e2; exact .inl ⟨hz.val_inv, e1.symm, e2.symm⟩
  · rename_i i g off len ex
    split at ha
    · rename_i g' k' rows hb
      split at ha
      · rename_i hcond
        obtain ⟨rfl, rfl, hle, hL, hpos⟩ := hcond
        injection ha with ha; injection ha with e1 e2; subst e1; subst e2
        obtain ⟨g0, gB⟩ := r.grow _ _ _ _ hb
        cases hz with
        | fr hf => cases hf
        | own p1 p2 p3 p4 =>
          rcases (p2 _ _ _ hb).2 rfl with ⟨_, _, _, h, _⟩ | ⟨id, b, lb, ex', row, m1, rfl, m2, m3, m4, m5, m6⟩
          · omega
          · rcases gB with ⟨n1, n2⟩ | ⟨id', b', row', n1, n2, n3, n4⟩
            · rw [m1] at n1; cases n1
            · rw [m1] at n1; injection n1 with n1; injection n1 with t1 t2; subst t1; subst t2
              rw [m4] at n2; injection n2 with n2; subst n2
              obtain ⟨m, hm⟩ : ∃ m, m = min new.length len := ⟨_, rfl⟩
              rw [← hm]
              have hcl : cells.length = new.length * k' := by rw [← hc.1, zflat_len hk]
              have hmk : m * k' ≤ new.length * k' := Nat.mul_le_mul_right _ (by omega)
              have hmk2 : m * k' ≤ lb * k' := Nat.mul_le_mul_right _ (by omega)
              have htl : (cells.take (m * k')).length = m * k' := by rw [List.length_take]; omega
              have hfit : b + off * k' + (cells.take (m * k')).length ≤ row.length := by omega
              have hfl := r.wr _ _ m1 hL
              have hid := (r.nfr _ _ m1).2
              have hom : (off + m) * k' ≤ rows.length * k' := Nat.mul_le_mul_right _ (by omega)
              have hom2 := Nat.add_mul off m k'
              have hnl : (rows.take off ++ new.take m ++ rows.drop (off + m)).length = rows.length := by simp; omega
              have hnew : ∀ x ∈ rows.take off ++ new.take m ++ rows.drop (off + m), x.length = k' := fun x hx => by
                simp only [List.mem_append] at hx
                rcases hx with (hx | hx) | hx
                · exact g0 x (List.mem_of_mem_take hx)
                · exact hk x (List.mem_of_mem_take hx)
                · exact g0 x (List.mem_of_mem_drop hx)
              have hflat : (rows.take off ++ new.take m ++ rows.drop (off + m)).flatten = setAt rows.flatten (off * k') (new.flatten.take (m * k')) := by
                unfold setAt
                have : (new.flatten.take (m * k')).length = m * k' := by rw [List.length_take, zflat_len hk]; omega
                rw [this, ← Nat.add_mul, zflat_take g0, zflat_take hk, zflat_drop g0]
                simp
              obtain ⟨w', e1, e2, e3, e4, e5⟩ := upd_blk r (lt_of_get hb) hL (.grow g' k' (rows.take off ++ new.take m ++ rows.drop (off + m))) (id, b) (w.h.set id (some (row.take (b + off * k') ++ cells.take (m * k') ++ row.drop (b + off * k' + (cells.take (m * k')).length)))) _
                (fun j hj hne => blk_set_ne (hne _ m1)) (by simp) ⟨by simpa using hid, .inl ⟨_, m1, rfl⟩⟩ (blk_set_same hid)
                (.inr ⟨g', k', rows, g', _, hb, rfl, hnew, by rw [hnl, zsplice_len hfit]; exact n3, fun w' e' => by
                  rw [hnl, hflat, zsplice_seg (by show b ≤ _; omega) (by show _ ≤ b + _; rw [htl]; omega) (by show b + _ ≤ _; exact n3)]
                  show ZRs w' _ (((row.drop b).take (rows.length * k')).take (b + off * k' - b) ++ cells.take (m * k') ++ ((row.drop b).take (rows.length * k')).drop (b + off * k' - b + (cells.take (m * k')).length))
                  rw [Nat.add_sub_cancel_left]
                  exact setAt_spec (n4.ext e') ((hc.take _).ext e') _, .inr ⟨rfl, m1, hnl, row, m4, zsplice_len hfit⟩⟩)
              exact .inr ⟨id, b + off * k', len, lb, ex', _, w', rfl, hm, wr_of m4 hfl hfit, e1, e2, e4, e5⟩
      · cases ha
    · cases ha
  · cases ha
theorem chunk_all {k : Nat} : ∀ {n : Nat} {cs : List ZV}, cs.length = n * k → (∀ r ∈ chunk n k cs, r.length = k) ∧ (chunk n k cs).flatten = cs ∧ (chunk n k cs).length = n
  | 0, cs, h => by
    have : cs = [] := List.eq_nil_of_length_eq_zero (by simpa using h)
    subst this; exact ⟨by simp [chunk], rfl, rfl⟩
  | n + 1, cs, h => by
    rw [Nat.add_mul] at h
    obtain ⟨h1, h2, h3⟩ := chunk_all (k := k) (n := n) (cs := cs.drop k) (by rw [List.length_drop]; omega)
    refine ⟨fun r hr => ?_, by simp [chunk, h2], by simp [chunk, h3]⟩
    simp only [chunk, List.mem_cons] at hr
    rcases hr with rfl | hr
    · rw [List.length_take]; omega
    · exact h1 r hr
theorem pure_fr {z : ZV} {a : AV} (h : ZR w z a) (hp : pureZ z = true) : FR w.Fr w.h z a := by
  cases h with
  | fr hf => exact hf
  | func h1 h2 =>
    simp only [pureZ, List.isEmpty_iff] at hp
    subst hp
    rename_i f ys
    have : ys = [] := List.eq_nil_of_length_eq_zero (by simpa using h1.symm)
    subst this
    exact .func f
  | _ => simp [pureZ] at hp

set_option maxHeartbeats 1000000 in
theorem z1_sound (r : ZRel fl L w) (hS : ∀ t, ZR w (S t) (s t)) {op : AOp} {top ztop : Option (Nat × Option (List Nat))} (ht : ∀ z id off, ZR w z (.ptr id off) → topZ ztop z = true → shallowOk top id = true) {gl : Bool} {K : ZV → ZH → Prop} (hk : z1 L ztop gl S w.H K op) :
    A1 X F top fl op s w.h (PK fl L w K) := by
  cases op with
  | mv x =>
    obtain ⟨z, h1, k⟩ := hk
    exact A1_mv.2 (PK.same r (zev_spec hS h1) k)
  | pick c a b =>
    obtain ⟨t, x, y, h1, h2, h3, k⟩ := hk
    refine A1_pick.2 ⟨t, (zev_spec hS h1).val_inv, PK.same r ?_ k⟩
    cases t
    · exact zev_spec hS h3
    · exact zev_spec hS h2
  | box n x =>
    obtain ⟨z, h1, h2, h3, k⟩ := hk
    have hz := (zev_spec hS h1)
    have hc := hz.cells
    obtain ⟨w', e1, e2, e3, e4, e5, e6⟩ := alloc_own r (.box z.cells) (x.ev s).cells (.inl ⟨_, rfl, hc⟩)
    exact A1_box.2 ⟨⟨by rw [← hc.1]; exact h2, by rw [← hc.allCell]; exact h3⟩, _, w', e1, e5, e6, .ptr (cs := z.cells) (by rw [e2]; simp) e3, by rw [e2]; exact k⟩
  | zero cs =>
    obtain ⟨zs, h1, k⟩ := hk
    obtain ⟨w', e1, e2, e3, e4, e5, e6⟩ := alloc_own r (.box zs) cs (.inl ⟨_, rfl, zcs_spec h1⟩)
    exact A1_zero.2 ⟨_, w', e1, e5, e6, .ptr (cs := zs) (by rw [e2]; simp) e3, by rw [e2]; exact k⟩
  | build z ps =>
    obtain ⟨zs, qs, cs, h1, h2, h3, k⟩ := hk
    obtain ⟨i1, i2⟩ := zparts_spec hS h2
    obtain ⟨bs, h4, h5⟩ := fillZ_spec (zcs_spec h1) i1 i2 h3
    exact A1_build.2 ⟨bs, h4, PK.same r h5.toAgg k⟩
  | lits k len z ps =>
    obtain ⟨zs, qs, cs, h1, h2, h3, h4, h5, kk⟩ := hk
    obtain ⟨i1, i2⟩ := zparts_spec hS h2
    obtain ⟨bs, h6, h7⟩ := fillZ_spec (zcs_spec h1) i1 i2 h3
    obtain ⟨c1, c2, c3⟩ := chunk_all h4
    refine A1_lits.2 ⟨bs, h6, by rw [← h7.allCell]; exact h5, ?_⟩
    cases gl with
    | true =>
      simp only [if_true] at kk
      obtain ⟨w', e1, e2, e3, e4, e5⟩ := new_own r (rows := chunk len k cs) (by rw [c2]; exact h7) c1 c3 true true (fun h => h)
      exact ⟨_, w', e1, e3, e4, e5, by rw [e2]; exact kk⟩
    | false =>
      simp only [Bool.false_eq_true, if_false] at kk
      obtain ⟨hp, kk⟩ := kk
      obtain ⟨w', e1, e2, e3, e4, e5, e6⟩ := alloc_fr r bs
      refine ⟨_, w', e1, e5, e6, .fr ?_, by rw [e2]; exact kk⟩
      have hlen : (chunk len k cs).length * k = bs.length := by rw [c3, ← h4, h7.1]
      have := FR.ofRows (Fr := w'.Fr) (h := w'.h) (ex := true) (rows := chunk len k cs) (id := w.h.length) (off := 0) (lb := (chunk len k cs).length) (ex' := true) (row := bs) (k := k) e4 (by rw [e1]; exact blk_app_new) (by omega) (Nat.le_refl _) (fun _ => ⟨rfl, rfl⟩) c1 (fun i z hz => ?_)
      · rw [c3] at this; exact this
      · rw [c2] at hz
        obtain ⟨c, t1, t2⟩ := h7.get hz
        exact ⟨c, by rw [Nat.zero_add]; exact t1, pure_fr (t2.ext e6) (List.all_eq_true.1 hp z (List.mem_of_getElem? hz))⟩
  | load n x =>
    obtain ⟨z, v, h1, h2, h3, k⟩ := hk
    have hz := zev_spec hS h1
    obtain ⟨id, off, u, e1, e2, e3⟩ := ld_spec r hz h3
    rw [e1] at hz
    exact A1_load.2 ⟨id, off, u, e1, ht z id off hz h2, e2, PK.same r e3 k⟩
  | store n a v =>
    obtain ⟨p, z, H', h1, h2, h3, h4, h5, k⟩ := hk
    have hz := (zev_spec hS h2).cells
    obtain ⟨id, off, h', w', e1, e2, e3, e4, e5, e6⟩ := st_spec r (zev_spec hS h1) hz h5
    exact A1_store.2 ⟨id, off, h', e1, ⟨by rw [← hz.1]; exact h3, by rw [← hz.allCell]; exact h4⟩, e2, _, w', e3, e5, e6, ZRs.nil.toTuple, by rw [e4]; exact k⟩
  | nilCheck x =>
    obtain ⟨z, h1, h2, k⟩ := hk
    exact A1_nilCheckI.2 ⟨nilOk_spec (zev_spec hS h1) h2, PK.same r (zev_spec hS h1) k⟩
  | bin op x y =>
    obtain ⟨a, b, v, h1, h2, h3, k⟩ := hk
    exact A1_bin.2 ⟨a, b, v, (zev_spec hS h1).val_inv, (zev_spec hS h2).val_inv, h3, PK.same r (.fr (.val _)) k⟩
  | eqNil neg kd x =>
    obtain ⟨z, b, h1, h2, k⟩ := hk
    exact A1_eqNil.2 ⟨b, nil_spec r (zev_spec hS h1) h2, PK.same r (.fr (.val _)) k⟩
  | eqBool neg x y =>
    obtain ⟨a, b, h1, h2, k⟩ := hk
    exact A1_eqBool.2 ⟨a, b, (zev_spec hS h1).val_inv, (zev_spec hS h2).val_inv, PK.same r (.fr (.val _)) k⟩
  | eqAgg neg ks x y =>
    obtain ⟨a, b, t, h1, h2, h3, k⟩ := hk
    obtain ⟨a', e1, e2⟩ := (zev_spec hS h1).agg_inv
    obtain ⟨b', e3, e4⟩ := (zev_spec hS h2).agg_inv
    exact A1_eqAgg.2 ⟨a', b', t, e1, e3, sameZ_spec e2 e4 h3, PK.same r (.fr (.val _)) k⟩
  | un op x =>
    obtain ⟨a, v, h1, h2, k⟩ := hk
    exact A1_un.2 ⟨a, v, (zev_spec hS h1).val_inv, h2, PK.same r (.fr (.val _)) k⟩
  | conv kd x =>
    obtain ⟨k', n, h1, k⟩ := hk
    exact A1_conv.2 ⟨k', n, (zev_spec hS h1).val_inv, PK.same r (.fr (.val _)) k⟩
  | field off n x =>
    obtain ⟨cs, v, h1, h2, k⟩ := hk
    obtain ⟨a, e1, e2⟩ := (zev_spec hS h1).agg_inv
    obtain ⟨u, e3, e4⟩ := partZ_spec e2 h2
    exact A1_field.2 ⟨a, u, e1, e3, PK.same r e4 k⟩
  | fieldAddr off x =>
    obtain ⟨z, v, h1, h2, k⟩ := hk
    obtain ⟨id, o, e1, e2⟩ := add_spec (zev_spec hS h1) h2
    exact A1_fieldAddr.2 ⟨id, o, e1, PK.same r e2 k⟩
  | indexAddr kk x i =>
    obtain ⟨z, y, j, v, h1, h2, h3, h4, k⟩ := hk
    obtain ⟨id, off, len, lb, ex, e1, e2, e3⟩ := elem_spec r (zev_spec hS h1) h4
    exact A1_indexAddr.2 ⟨id, off, len, lb, ex, kk, j, e1, natZ_spec (zev_spec hS h2) h3, e2, PK.same r e3 k⟩
  | indexArr kk len x i =>
    obtain ⟨z, y, j, v, h1, h2, h3, h4, h5, k⟩ := hk
    obtain ⟨id, o, e1, e2⟩ := add_spec (zev_spec hS h1) h5
    exact A1_indexArr.2 ⟨id, o, j, e1, natZ_spec (zev_spec hS h2) h3, h4, PK.same r e2 k⟩
  | index kk len n x i =>
    obtain ⟨cs, y, j, v, h1, h2, h3, h4, h5, k⟩ := hk
    obtain ⟨a, e1, e2⟩ := (zev_spec hS h1).agg_inv
    obtain ⟨u, e3, e4⟩ := partZ_spec e2 h5
    exact A1_index.2 ⟨a, j, u, e1, natZ_spec (zev_spec hS h2) h3, h4, e3, PK.same r e4 k⟩
  | indexStr x i =>
    obtain ⟨t, y, j, b, h1, h2, h3, h4, k⟩ := hk
    exact ⟨_, _, by simp only [opEval]; rw [(zev_spec hS h1).val_inv, natZ_spec (zev_spec hS h2) h3]; simp only [h4], PK.same r (.fr (.val _)) k⟩
  | slice kk x lo hi mx =>
    obtain ⟨z, n, l, u, m, v, h1, h2, h3, h4, h5, h6, k⟩ := hk
    obtain ⟨b, e1, e2⟩ := cut_spec r hS (zev_spec hS h1) h2 h3 h4 h5 h6
    exact A1_slice.2 ⟨b, e1, PK.same r e2 k⟩
  | mkSlice kk bytes z l c =>
    obtain ⟨x, y, a, b, zs, h1, h2, h3, h4, h5, h6, h7, h8, k⟩ := hk
    have hz := zcs_spec (w := w) h5
    have hf : ∀ n, ZRs w (List.replicate n zs).flatten (List.replicate n z).flatten := fun n => by
      induction n with
      | zero => exact .nil
      | succ n ih => rw [List.replicate_succ, List.replicate_succ, List.flatten_cons, List.flatten_cons]; exact hz.append ih
    obtain ⟨w', e1, e2, e3, e4, e5⟩ := new_own r (rows := List.replicate a zs) (hf a) (k := kk) (fun x hx => by rw [List.eq_of_mem_replicate hx]; exact h6) (n := a) (by simp) (a == b) (a == b) (fun h => h)
    exact A1_mkSlice.2 ⟨a, b, natZ_spec (zev_spec hS h1) h3, natZ_spec (zev_spec hS h2) h4, ⟨h7, h8⟩, _, w', e1, e3, e4, e5, by rw [e2]; exact k⟩
  | extract i x =>
    obtain ⟨vs, v, h1, h2, k⟩ := hk
    obtain ⟨a, e1, e2⟩ := (zev_spec hS h1).tuple_inv
    obtain ⟨u, e3, e4⟩ := e2.get h2
    exact A1_extract.2 ⟨a, u, e1, e3, PK.same r e4 k⟩
  | func f caps =>
    obtain ⟨zs, h1, k⟩ := hk
    exact A1_func.2 (PK.same r (zevs_spec hS h1).toFunc k)
  | call f args => exact hk.elim
  | append kk bytes x y =>
    obtain ⟨z, u, new, v, H', h1, h2, h3, h4, k⟩ := hk
    obtain ⟨cells, e1, e2, e3⟩ := rows_spec r (zev_spec hS h2) h3
    obtain ⟨a', h', w', t1, t2, t3, t4, t5, t6⟩ := app_spec r (zev_spec hS h1) e2 e3 h4
    exact A1_append.2 ⟨_, _, a', h', e1, t1, _, w', t2, t4, t5, t6, by rw [t3]; exact k⟩
  | len x =>
    obtain ⟨z, n, h1, h2, k⟩ := hk
    exact A1_len.2 ⟨n, len_spec r (zev_spec hS h1) h2, PK.same r (.fr (.val _)) k⟩
  | lenStr x =>
    obtain ⟨t, h1, k⟩ := hk
    exact ⟨_, _, by simp only [opEval]; rw [(zev_spec hS h1).val_inv], PK.same r (.fr (.val _)) k⟩
  | copy kk x y =>
    obtain ⟨z, u, new, n, H', h1, h2, h3, h4, k⟩ := hk
    obtain ⟨cells, e1, e2, e3⟩ := rows_spec r (zev_spec hS h2) h3
    rcases copy_spec r (zev_spec hS h1) e2 e3 h4 with ⟨t1, rfl, rfl⟩ | ⟨id, off, len, lb, ex, h', w', t1, rfl, t2, t3, t4, t5, t6⟩
    · exact ⟨_, _, by simp only [opEval]; rw [t1, e1]; rfl, PK.same r (.fr (.val _)) k⟩
    · exact (A1_copy t1).2 ⟨_, _, h', e1, t2, _, w', t3, t5, t6, .fr (.val _), by rw [t4]; exact k⟩
  | clear kk z x => exact hk.elim
  | minmax mx x xs =>
    obtain ⟨z, zs, v, h1, h2, h3, k⟩ := hk
    obtain ⟨b, e1, e2⟩ := bestZ_spec (zev_spec hS h1) (zevs_spec hS h2) h3
    exact A1_minmax.2 ⟨b, e1, PK.same r e2 k⟩
  | bad => exact hk.elim
end Go.Proofs.Ytpmmiaadfnildaa
