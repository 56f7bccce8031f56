/- The abstract machine, 10: loads, stores, addresses. -/
import Derived.Test.YtpbbgkmpjcddbaaA9
set_option linter.all false
namespace Go.AM

theorem add_off (b o n : Nat) : (⟨b, o, none⟩ : Addr).add n = ⟨b, o + n, none⟩ := by
  unfold Addr.add
  split
  · rename_i h; subst h; rfl
  · rfl

theorem run_load_some {P : Program} {w : World} {a : Addr} {v : Value} (h : w.cell? a = some v) : (load a).run P w = .ok v w := by simp [h]

/-- A value of a type is loaded, whose cells are told. -/
theorem loadVar_part {P : Program} {g : Gh} {w : World} {t : TypeId} {cs : List PV} {b base off : Nat} {x : PV} (h : partOf P t cs off = some x)
    (hc : ∀ j (hj : j < cs.length), ∃ v, w.cell? ⟨b, base + j, none⟩ = some v ∧ Rel g w cs[j] v) : ∃ v, (loadVar t ⟨b, base + off, none⟩).run P w = .ok v w ∧ Rel g w x v := by
  unfold partOf at h
  split at h
  · rename_i n ha hn
    split at h
    · rename_i hle
      injection h with h
      subst h
      have hf : ∀ j, j < n → w.cell? ((⟨b, base + off, none⟩ : Addr).add j) = some ((w.cell? ⟨b, base + (off + j), none⟩).getD undef) := by
        intro j hj
        obtain ⟨v, hv, _⟩ := hc (off + j) (by omega)
        rw [add_off, Nat.add_assoc, hv]; rfl
      refine ⟨.agg (((List.range n).map fun j => (w.cell? ⟨b, base + (off + j), none⟩).getD undef).toArray), by simp only [loadVar, Sem.run_bind, run_agg ha, Result.andThen_ok, if_true, run_size hn, run_loadCells w _ n _ hf, Sem.run_pure], ?_⟩
      refine RelL.agg ⟨by simp; omega, fun i hi hv => ?_⟩
      simp only [List.length_take, List.length_drop] at hi
      obtain ⟨v, hv, hr⟩ := hc (off + i) (by omega)
      simp only [List.getElem_take, List.getElem_drop, List.getElem_map, List.getElem_range, hv]
      exact hr
    · cases h
  · rename_i n ha hn
    obtain ⟨hlt, e⟩ := List.getElem?_eq_some_iff.1 h
    obtain ⟨v, hv, hr⟩ := hc off hlt
    exact ⟨v, by simp only [loadVar, Sem.run_bind, run_agg ha, Result.andThen_ok, Bool.false_eq_true, if_false, run_load_some hv], by rw [← e]; exact hr⟩
  · cases h

/-- The like of an aggregate's cells. -/
theorem part_part {P : Program} {g : Gh} {w : World} {t : TypeId} {cs : List PV} {us : Array Value} {off : Nat} {x : PV} (h : partOf P t cs off = some x)
    (hr : RelL g w cs us.toList) : ∃ v, (part t us off).run P w = .ok v w ∧ Rel g w x v := by
  have hl : us.size = cs.length := by simpa using hr.1
  unfold partOf at h
  split at h
  · rename_i n ha hn
    split at h
    · rename_i hle
      injection h with h
      subst h
      refine ⟨.agg (us.extract off (off + n)), by simp only [part, Sem.run_bind, run_agg ha, Result.andThen_ok, if_true, run_size hn, Sem.run_pure], ?_⟩
      refine .agg _ _ (by simp; omega) fun i hi hv => ?_
      simp only [List.length_take, List.length_drop] at hi
      have := hr.2 (off + i) (by omega) (by simpa using (by omega : off + i < us.size))
      simpa using this
    · cases h
  · rename_i n ha hn
    obtain ⟨hlt, e⟩ := List.getElem?_eq_some_iff.1 h
    have hu : us[off]? = some (us[off]'(by omega)) := Array.getElem?_eq_getElem (by omega)
    refine ⟨us[off]'(by omega), by simp only [part, Sem.run_bind, run_agg ha, Result.andThen_ok, Bool.false_eq_true, if_false, hu, Sem.run_pure], ?_⟩
    have := hr.2 off hlt (by simpa using (by omega : off < us.size))
    rw [← e]
    simpa using this
  · cases h

theorem takeC_sound {P : Program} {vs : Array Value} {w : World} {id : Nat} : ∀ {n off : Nat} {st st1 : St} {cs : List PV} {g : Gh}, Inv P g st vs w → st.takeC id off n = some (cs, st1) →
    ∃ g' us, Inv P g' st1 vs w ∧ Ext g g' w w ∧ RelL g' w cs us ∧ g'.rho = g.rho ∧ st1.n = st.n ∧ us.length = n ∧ ∀ j (hj : j < us.length), realAt g vs w (.cell id (off + j)) = some us[j] := by
  intro n
  induction n with
  | zero =>
    intro off st st1 cs g h he
    injection he with he
    injection he with h1 h2
    subst h1; subst h2
    exact ⟨g, [], h, Ext.refl _ _, ⟨rfl, fun i hi => by simp at hi⟩, rfl, rfl, rfl, fun j hj => by simp at hj⟩
  | succ n ih =>
    intro off st st1 cs g h he
    simp only [St.takeC] at he
    split at he
    · rename_i x st2 hu
      split at he
      · rename_i xs st3 ht
        injection he with he
        injection he with h1 h2
        subst h1; subst h2
        obtain ⟨g1, v, i1, i2, i3, i4, i5, i6⟩ := useP_sound h hu
        obtain ⟨g2, us, j1, j2, j3, j4, j5, j6, j7⟩ := ih i1 ht
        refine ⟨g2, v :: us, j1, i2.trans j2, ⟨by simp [j3.1], ?_⟩, j4.trans i5, j5.trans i6, by simp [j6], ?_⟩
        · intro i hi hv
          cases i with
          | zero => exact i4.ext j2
          | succ i => exact j3.2 i (by simpa using hi) (by simpa using hv)
        · intro j hj
          cases j with
          | zero => simpa using i3
          | succ j =>
            have := j7 j (by simpa using hj)
            simp only [realAt, i5] at this ⊢
            rw [show off + (j + 1) = off + 1 + j by omega]
            simpa using this
      · cases he
    · cases he

theorem run_loadCells_at {P : Program} {w : World} {b off : Nat} {us : List Value} (h : ∀ j (hj : j < us.length), w.cell? ⟨b, off + j, none⟩ = some us[j]) : (loadCells ⟨b, off, none⟩ us.length).run P w = .ok us.toArray w := by
  refine run_loadCells_list w _ us fun j v hj => ?_
  obtain ⟨h1, h2⟩ := List.getElem?_eq_some_iff.1 hj
  rw [add_off, h j h1, h2]

theorem load_ok {P : Program} {o : Oper} {st st' : St} {g : Gh} {vs : Array Value} {w : World} (h : Inv P g st vs w) {t : TypeId} {x : Operand} (ho : o.op = .load t x) (he : evLoad P st t x o.dst = some st') (hd : ∀ t, o.dst = some t → ∀ id off, Plc.cell id off ≠ .tmp t) : OpOk P o vs w g st' := by
  have hrun : ∀ {v w'} {b q}, evalV vs x = .pointer (some ⟨b, q, none⟩) → (loadVar t ⟨b, q, none⟩).run P w = .ok v w' → (execOp (evalV vs) o).run P w = .ok (.value v) w' := by
    intro v w' b q h1 h2
    simp [execOp, ho, Instr.loadAt, Instr.sureAddr, h1, h2]
  unfold evLoad at he
  split at he
  · rename_i id off hp
    obtain ⟨p, hs⟩ := peek_slot h hp
    have hs : Rel g w _ _ := hs
    generalize hev : evalV vs x = u at hs
    cases hs with
    | ptr _ _ b hb =>
      split at he
      · rename_i n ha hn
        split at he
        · rename_i cs st1 ht
          obtain ⟨g1, us, i1, i2, i3, i4, i5, i6, i7⟩ := takeC_sound h ht
          have hc : ∀ j (hj : j < us.length), w.cell? ⟨b, off + j, none⟩ = some us[j] := by
            intro j hj
            have := i7 j hj
            simpa only [realAt, hb] using this
          refine .rel (v := .agg us.toArray) i1 i2 (hrun hev ?_) he (RelL.agg i3)
          subst i6
          simp only [loadVar, Sem.run_bind, run_agg ha, Result.andThen_ok, if_true, run_size hn, run_loadCells_at hc, Sem.run_pure]
        · cases he
      · rename_i n ha hn
        have hload : ∀ {v}, realAt g vs w (.cell id off) = some v → (execOp (evalV vs) o).run P w = .ok (.value v) w := by
          intro v hv
          simp only [realAt, hb] at hv
          exact hrun hev (by simp only [loadVar, Sem.run_bind, run_agg ha, Result.andThen_ok, Bool.false_eq_true, if_false, run_load_some hv])
        split at he
        · rename_i fl n xs hc
          obtain ⟨v, hv, hsl⟩ := contentAt_real h hc
          split at he
          · rename_i hown
            exact ⟨_, v, w, g, hload hv, .inl rfl, setD_alias h he (fun t ht => hd t ht id off) hc hown hv, Ext.refl _ _, fun _ => .refl _ _⟩
          · rename_i hown
            exact .rel h (Ext.refl _ _) (hload hv) he (slot_rel hsl (by simpa [PV.isOwn] using hown) rfl (by simp))
        · cases he
        · cases he
        · cases he
        · rename_i y n1 n2 n3 n4 hc
          obtain ⟨v, hv, hsl⟩ := contentAt_real h hc
          refine .rel h (Ext.refl _ _) (hload hv) he (slot_rel hsl ?_ ?_ ?_)
          · cases y with
            | sl fl n xs => exact absurd rfl (n1 fl n xs)
            | _ => rfl
          · cases y with
            | alias q => exact absurd rfl (n3 q)
            | elem q k off => exact absurd rfl (n4 q k off)
            | _ => rfl
          · rintro rfl; exact n2 rfl
        · cases he
      · cases he
  · rename_i q k off hp
    obtain ⟨p, hs⟩ := peek_slot h hp
    obtain ⟨fl, xs, b, cap, k1, k2, k3, k4, k5⟩ := hs
    split at he
    · rename_i cs hec
      simp only [elemCells, k1, k2, if_true] at hec
      split at he
      · rename_i y hpart
        obtain ⟨v0, hv0, hok⟩ := own_at h k1 k2
        rw [k3] at hv0
        injection hv0 with hv0
        subst hv0
        rcases hok with ⟨_, hn⟩ | ⟨_, b', cap', hbv, hb⟩
        · cases hn
        · injection hbv with e1 _ _
          injection e1 with e1
          injection e1 with e1 _
          subst e1
          obtain ⟨hlt, hxe⟩ := List.getElem?_eq_some_iff.1 hec
          obtain ⟨v, hv, hr⟩ := loadVar_part (b := b) (base := k * P.cellsOf fl.e) hpart (fun j hj => by
            obtain ⟨v, e1, e2⟩ := hb.el.2 k j hlt (by rw [hxe]; exact hj)
            refine ⟨v, by simpa using e1, ?_⟩
            subst hxe
            exact e2)
          exact .rel h (Ext.refl _ _) (hrun k5 hv) he hr
      · cases he
    · cases he
  · rename_i cs off hp
    obtain ⟨p, hs⟩ := peek_slot h hp
    have hs : Rel g w _ _ := hs
    generalize hev : evalV vs x = u at hs
    cases hs with
    | elemv _ _ b o' vals hfp hrel =>
      split at he
      · rename_i y hpart
        obtain ⟨v, hv, hr⟩ := loadVar_part (g := g) (w := w) (b := b) (base := o') hpart (fun j hj => ⟨_, (hfp j hj).2, hrel j hj⟩)
        exact .rel h (Ext.refl _ _) (hrun hev hv) he hr
      · cases he
  · cases he

theorem one_val {g : Gh} {w : World} {x : PV} {v : Value} (h : Rel g w x v) (ho : x.one = true) : (∀ cs, v ≠ .agg cs) ∧ ∀ cs, v ≠ .tuple cs := by
  cases h with
  | lit v => cases v <;> simp [PV.one] at ho ⊢
  | agg => simp [PV.one] at ho
  | tup => simp [PV.one] at ho
  | _ => exact ⟨fun _ e => (by cases e), fun _ e => (by cases e)⟩

theorem run_store1 {P : Program} {w : World} {b off : Nat} {u v : Value} (hc : w.cell? ⟨b, off, none⟩ = some u) (hf : w.frozen? ⟨b, off, none⟩ = false) (h1 : ∀ cs, v ≠ .agg cs) (h2 : ∀ cs, v ≠ .tuple cs) :
    (store ⟨b, off, none⟩ v).run P w = .ok () (w.setCell ⟨b, off, none⟩ v) := by
  cases v with
  | agg cs => exact absurd rfl (h1 cs)
  | tuple cs => exact absurd rfl (h2 cs)
  | _ => simp [store, Sem.run, hc, hf]

theorem unfz_frozen {w : World} {b : Nat} {c : Array Value} {ty : TypeId} {fz : Nat × Nat} (h : w.heap[b]? = some (.cells c ty fz)) (hz : Unfz fz c.size) {i : Nat} (hi : i < c.size) : w.frozen? ⟨b, i, none⟩ = false := by
  obtain ⟨lo, hi'⟩ := fz
  simp only [World.frozen?, h]
  have := hz i hi
  simp only at this
  by_cases h1 : lo ≤ i <;> by_cases h2 : i < hi' <;> simp [h1, h2]
  exact this ⟨h1, h2⟩

theorem putC_sound {P : Program} {vs : Array Value} {g : Gh} {id b : Nat} (hb : g.rho[id]? = some b) : ∀ {xs : List PV} {us : List Value} {i off0 : Nat} {st st' : St} {w : World}, Inv P g st vs w → RelL g w xs us → st.putC id (off0 + i) xs = some st' →
    ∃ w', (storeCells ⟨b, off0, none⟩ us i).run P w = .ok () w' ∧ Inv P g st' vs w' ∧ Ext g g w w' := by
  intro xs
  induction xs with
  | nil =>
    intro us i off0 st st' w h hr he
    injection he with he
    subst he
    have : us = [] := List.eq_nil_of_length_eq_zero hr.1
    subst this
    exact ⟨w, by simp [storeCells], h, Ext.refl _ _⟩
  | cons x xs ih =>
    intro us i off0 st st' w h hr he
    cases us with
    | nil => have := hr.1; simp at this
    | cons u us =>
      simp only [St.putC, nrmB_eq] at he
      split at he
      · rename_i y hc
        split at he
        · rename_i hone
          have hru : Rel g w x u := hr.2 0 (by simp) (by simp)
          obtain ⟨n1, n2⟩ := one_val hru hone
          have hc0 := hc
          simp only [contentAt] at hc
          split at hc
          · rename_i ty cs hσ
            obtain ⟨c, fz, hblk, hz, hcs, hx⟩ := h.box id ty cs b hσ hb
            have hlt : off0 + i < cs.length := (List.getElem?_eq_some_iff.1 hc).1
            obtain ⟨k1, k2⟩ := h.storeRel (off := off0 + i) hσ hb hru.plain hru
            obtain ⟨w', r1, r2, r3⟩ := ih (i := i + 1) (off0 := off0) k1 ⟨by simpa using hr.1, fun j hj hv => (hr.2 (j + 1) (by simpa using hj) (by simpa using hv)).ext k2⟩ he
            refine ⟨w', ?_, r2, k2.trans r3⟩
            have hcell : w.cell? ⟨b, off0 + i, none⟩ = some (c[off0 + i]'(by omega)) := by
              simp only [World.cell?, hblk]
              simp [show off0 + i < c.size by omega]
            simp only [storeCells, Sem.run_bind, add_off, run_store1 hcell (unfz_frozen hblk hz (by omega)) n1 n2, Result.andThen_ok]
            exact r1
          · cases hc
        · cases he
      · cases he

theorem putE_sound {P : Program} {vs : Array Value} {g : Gh} {p : Plc} {b k : Nat} : ∀ {xs : List PV} {us : List Value} {i off0 : Nat} {st st' : St} {w : World} {e : TypeId} {ys : List (List PV)} {cap : Nat}, Inv P g st vs w → contentAt st p = some (.sl (.excl e) false ys) →
    realAt g vs w p = some (.slice (some ⟨b, 0, none⟩) ys.length cap) → RelL g w xs us → st.putE p k (off0 + i) xs = some st' →
    ∃ w', (storeCells ⟨b, k * P.cellsOf e + off0, none⟩ us i).run P w = .ok () w' ∧ Inv P g st' vs w' ∧ Ext g g w w' := by
  intro xs
  induction xs with
  | nil =>
    intro us i off0 st st' w e ys cap h hc hv hr he
    injection he with he
    subst he
    have : us = [] := List.eq_nil_of_length_eq_zero hr.1
    subst this
    exact ⟨w, by simp [storeCells], h, Ext.refl _ _⟩
  | cons x xs ih =>
    intro us i off0 st st' w e ys cap h hc hv hr he
    cases us with
    | nil => have := hr.1; simp at this
    | cons u us =>
      simp only [St.putE, hc] at he
      split at he
      · rename_i c hk
        split at he
        · rename_i hh
          obtain ⟨hoff, hone⟩ := hh
          rw [nrm_eq] at he
          obtain ⟨hlt, hke⟩ := List.getElem?_eq_some_iff.1 hk
          subst hke
          have hru : Rel g w x u := hr.2 0 (by simp) (by simp)
          obtain ⟨n1, n2⟩ := one_val hru hone
          obtain ⟨k1, k2⟩ := h.elemStore hc hv hlt hoff hru
          have hc' : contentAt (st.putP p (.sl (.excl e) false (ys.set k (ys[k].set (off0 + i) x)))) p = some (.sl (.excl e) false (ys.set k (ys[k].set (off0 + i) x))) := contentAt_put_self hc
          have hv' : realAt g vs (w.setCell ⟨b, k * P.cellsOf e + (off0 + i), none⟩ u) p = some (.slice (some ⟨b, 0, none⟩) (ys.set k (ys[k].set (off0 + i) x)).length cap) := by
            obtain ⟨v2, e1, e2⟩ := own_at k1 hc' rfl
            rw [List.length_set, ← hv]
            cases p with
            | tmp t => rfl
            | cell id off =>
              obtain ⟨v3, e3, hok⟩ := own_at h hc rfl
              rw [hv] at e3
              injection e3 with e3
              subst e3
              rcases hok with ⟨_, hn⟩ | ⟨_, b', cap', hbv, hb⟩
              · cases hn
              · injection hbv with f1 _ _
                injection f1 with f1
                injection f1 with f1 _
                subst f1
                simp only [realAt] at hv ⊢
                cases hrho : g.rho[id]? with
                | none => rfl
                | some b0 =>
                  have := h.rown id b0 hrho
                  have hne : b0 ≠ b := by rintro rfl; rw [hb.ow] at this; cases this
                  exact cell_of_heap (heap_setCell_ne _ _ _ _ hne) off
          obtain ⟨w', r1, r2, r3⟩ := ih (i := i + 1) (off0 := off0) k1 hc' hv' ⟨by simpa using hr.1, fun j hj hv => (hr.2 (j + 1) (by simpa using hj) (by simpa using hv)).ext k2⟩ he
          refine ⟨w', ?_, r2, k2.trans r3⟩
          obtain ⟨v3, e3, hok⟩ := own_at h hc rfl
          rw [hv] at e3
          injection e3 with e3
          subst e3
          rcases hok with ⟨_, hn⟩ | ⟨_, b', cap', hbv, hb⟩
          · cases hn
          · injection hbv with f1 _ f2
            injection f1 with f1
            injection f1 with f1 _
            subst f1
            obtain ⟨cc, fz, hblk, hsz, hz⟩ := hb.blk
            obtain ⟨v4, e4, _⟩ := hb.el.2 k (off0 + i) hlt hoff
            have hcell : w.cell? ⟨b, k * P.cellsOf e + (off0 + i), none⟩ = some v4 := by
              rw [show k * P.cellsOf e + (off0 + i) = 0 + k * P.cellsOf (Flag.excl e).e + (off0 + i) by simp [Flag.e]]
              exact e4
            have hin : k * P.cellsOf e + (off0 + i) < cc.size := by
              simp only [World.cell?, hblk] at hcell
              simp only [Option.isSome_none, Bool.false_eq_true, if_false] at hcell
              exact (Array.getElem?_eq_some_iff.1 hcell).1
            simp only [storeCells, Sem.run_bind, add_off, Nat.add_assoc, run_store1 hcell (unfz_frozen hblk hz hin) n1 n2, Result.andThen_ok]
            exact r1
        · cases he
      · cases he

end Go.AM
