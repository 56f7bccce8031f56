/- The abstract machine, 6: sharing, handing into a box, writing what one owns. -/
import Derived.Test.YtpbbgkmpjcddbaaA5
set_option linter.all false
namespace Go.AM

theorem Chg.trans {A : Own → Prop} {g g1 g2 : Gh} {w w1 w2 : World} (h : Chg A g g1 w w1) (k : Chg A g1 g2 w1 w2) : Chg A g g2 w w2 where
  ext := h.ext.trans k.ext
  heap b o ho hA hb := (k.heap b o (h.ow b o ho hA) hA (Nat.lt_of_lt_of_le hb h.ext.size)).trans (h.heap b o ho hA hb)
  ow b o ho hA := k.ow b o (h.ow b o ho hA) hA
  fp b o i ho hA hf := h.fp b o i ho hA (k.fp b o i (h.ow b o ho hA) hA hf)

/-- What a place owns turns, the value that stands there does not. -/
theorem Inv.putOwn {P : Program} {st : St} {g g' : Gh} {vs : Array Value} {w w' : World} (h : Inv P g st vs w) {p : Plc} {fl fl' : Flag} {n : Bool} {xs xs' : List (List PV)}
    (hc : contentAt st p = some (.sl fl n xs)) (ho : fl.isOwn = true) (ho' : fl'.isOwn = true) (he : fl'.e = fl.e) (hl : xs'.length = xs.length)
    (hC : Chg (fun o => o = .plc p) g g' w w') (hr : g'.rho = g.rho)
    (hnew : ∀ v, realAt g vs w p = some v → OwnOk P g' w' p fl'.isExcl fl'.e n xs' v)
    (hrown : ∀ (id b : Nat), g'.rho[id]? = some b → g'.ow b = some (.box id))
    (holt : ∀ b o, g'.ow b = some o → b < w'.heap.size)
    (hflt : ∀ b i, g'.FP b i → b < w'.heap.size)
    (hfbox : ∀ b i id, g'.ow b = some (.box id) → ¬ g'.FP b i) : Inv P g' (st.putP p (.sl fl' n xs')) vs w' := by
  have hreal : ∀ q, realAt g' vs w' q = realAt g vs w q := by
    intro q
    cases q with
    | tmp u => rfl
    | cell id off => exact realAt_cell_same h hC hr (by simp)
  have hself : contentAt (st.putP p (.sl fl' n xs')) p = some (.sl fl' n xs') := contentAt_put_self hc
  have hcon : ∀ q, q ≠ p → contentAt (st.putP p (.sl fl' n xs')) q = contentAt st q := fun q hq => contentAt_put_ne hq
  have hts : ∀ t, p ≠ .tmp t → (st.putP p (.sl fl' n xs')).get t = st.get t := by
    intro t ht
    cases p with
    | tmp u => simp [St.putP, St.get, lkp_upd_ne _ _ (show u ≠ t from fun e => ht (by rw [e]))]
    | cell id off => rfl
  obtain ⟨v0, hv0, hok0⟩ := own_at h hc ho
  refine h.step hC ?_ ?_ ?_ ?_ ?_ hrown holt hflt hfbox
  · cases p <;> simp [St.putP, h.size]
  · intro t x hx
    by_cases ht : p = .tmp t
    · subst ht
      have hx' : contentAt (st.putP (.tmp t) (.sl fl' n xs')) (.tmp t) = some x := hx
      rw [hself] at hx'
      injection hx' with hx'
      subst hx'
      exact .inr (.inr ⟨v0, hv0, slot_own ho' (hnew v0 hv0)⟩)
    · rw [hts t ht] at hx
      have hAt : ∀ o, o = Own.plc p → o ≠ .plc (.tmp t) := by rintro o rfl e; injection e with e; exact ht e
      cases x with
      | alias q =>
        obtain ⟨v, hv, ⟨fl1, n1, xs1, k1, k2⟩, k3⟩ := h.slot t _ hx
        refine .inr (.inr ⟨v, hv, ?_, (hreal q).trans k3⟩)
        by_cases e : q = p
        · subst e; exact ⟨fl', n, xs', hself, ho'⟩
        · exact ⟨fl1, n1, xs1, (hcon q e).trans k1, k2⟩
      | elem q k off =>
        obtain ⟨v, hv, fl1, xs1, b, cap, k1, k2, k3, k4, k5⟩ := h.slot t _ hx
        refine .inr (.inr ⟨v, hv, ?_⟩)
        by_cases e : q = p
        · subst e
          rw [hc] at k1
          injection k1 with k1
          injection k1 with e1 e2 e3
          subst e1; subst e2; subst e3
          exact ⟨fl', xs', b, cap, hself, ho', (hreal q).trans (by rw [hl]; exact k3), by omega, by rw [he]; exact k5⟩
        · exact ⟨fl1, xs1, b, cap, (hcon q e).trans k1, k2, (hreal q).trans k3, k4, k5⟩
      | _ =>
        refine .inr (.inl ⟨hx, rfl, fun _ e => hAt _ e rfl, fun q hq => ?_⟩)
        rcases hq with hq | ⟨_, _, hq⟩ <;> cases hq
  · rw [hr]; cases p <;> simp [St.putP, h.rlen]
  · intro id ty cs b h1 h2
    rw [hr] at h2
    cases p with
    | tmp u => exact .inl ⟨h1, h2, by simp, fun off x hx hxo e => by cases e⟩
    | cell id0 off0 =>
      by_cases e : id0 = id
      · subst e
        simp only [contentAt] at hc
        split at hc
        · rename_i ty0 cs0 hσ
          simp only [St.putP, List.getElem?_modify, if_pos, hσ, Option.map_eq_map, Option.map_some, setBx, Option.some.injEq, Bx.cells.injEq] at h1
          obtain ⟨rfl, rfl⟩ := h1
          obtain ⟨c, fz, hb, hz, hs, hx⟩ := h.box id0 ty0 cs0 b hσ h2
          have hown := h.rown id0 b h2
          refine .inr ⟨c, fz, (hC.heap b _ hown (by simp) (h.olt b _ hown)).trans hb, hz, by simp [hs], fun off x hox => ?_⟩
          by_cases eo : off0 = off
          · subst eo
            have hlt : off0 < cs0.length := (List.getElem?_eq_some_iff.1 hc).1
            rw [List.getElem?_set_self hlt] at hox
            injection hox with hox
            subst hox
            have : c[off0]? = some v0 := by
              simp only [realAt, h2, World.cell?, hb] at hv0
              simpa using hv0
            exact ⟨rfl, v0, this, slot_own ho' (hnew v0 hv0)⟩
          · rw [List.getElem?_set_ne eo] at hox
            obtain ⟨k1, v, k2, k3⟩ := hx off x hox
            refine ⟨k1, v, k2, k3.chg hC (fun _ e => by injection e with e; injection e with _ e; exact eo e.symm) ?_⟩
            rintro q (rfl | ⟨_, _, rfl⟩) <;> simp [PV.noAl] at k1
        · cases hc
      · have h1' : st.σ[id]? = some (Bx.cells ty cs) := by
          simp only [St.putP, List.getElem?_modify] at h1
          cases hh : st.σ[id]? with
          | none => simp [hh] at h1
          | some z => simpa [hh, e] using h1
        exact .inl ⟨h1', h2, by simp, fun off x hx hxo e' => by injection e' with e'; injection e' with e' _; exact e e'.symm⟩
  · intro id es b h1 h2
    rw [hr] at h2
    cases p with
    | tmp u => exact .inl ⟨h1, h2, by simp⟩
    | cell id0 off0 =>
      have h1' : st.σ[id]? = some (Bx.mp es) := by
        simp only [St.putP, List.getElem?_modify] at h1
        cases hh : st.σ[id]? with
        | none => simp [hh] at h1
        | some z =>
          rw [hh] at h1
          by_cases e : id0 = id
          · simp only [e, if_true, Option.map_eq_map, Option.map_some, Option.some.injEq] at h1
            cases z with
            | cells ty cs => simp [setBx] at h1
            | mp es' => simpa [setBx] using h1
          · simpa [e] using h1
      exact .inl ⟨h1', h2, by simp⟩

/-- What a place owns is shared: views of it may be. -/
theorem Inv.share {P : Program} {st : St} {g : Gh} {vs : Array Value} {w : World} (h : Inv P g st vs w) {p : Plc} {fl : Flag} {xs : List (List PV)}
    (hc : contentAt st p = some (.sl fl false xs)) (ho : fl.isOwn = true) : ∃ g' v, Inv P g' (st.putP p (.sl (.own fl.e) false xs)) vs w ∧ Ext g g' w w ∧ realAt g' vs w p = some v ∧ Rel g' w (.sl .view false xs) v ∧
      g'.rho = g.rho := by
  obtain ⟨v, hv, hok⟩ := own_at h hc ho
  rcases hok with ⟨rfl, rfl⟩ | ⟨_, b, cap, rfl, hb⟩
  · exact ⟨g, _, h.putOwn hc ho rfl rfl rfl (Chg.refl _ g w) rfl (fun v' hv' => by rw [hv] at hv'; injection hv' with hv'; exact .inl ⟨rfl, hv'.symm⟩) h.rown h.olt h.flt h.fbox, Ext.refl _ _, hv, .slz, rfl⟩
  · obtain ⟨c, fz, hblk, hsz, hz⟩ := hb.blk
    have hlt : b < w.heap.size := (Array.getElem?_eq_some_iff.1 hblk).1
    let g' : Gh := { g with FP := fun b' i => g.FP b' i ∨ (b' = b ∧ i < xs.length * P.cellsOf fl.e) }
    have hE : Ext g g' w w :=
      { rho := List.prefix_rfl, fp := fun _ _ h => .inl h, fpc := fun _ _ _ => rfl, keep := fun _ _ _ => rfl, size := Nat.le_refl _, frame := fun _ h => h, noframe := fun _ h => h, none_ := fun _ _ h => h
        fnew := fun b' i hf hb' => by
          rcases hb' with hb' | ⟨rfl, _⟩
          · exact hb'
          · rw [hb.ow] at hf; cases hf
        os := rfl, tape := rfl, output := rfl }
    have hC : Chg (fun o => o = .plc p) g g' w w :=
      ⟨hE, fun _ _ _ _ _ => rfl, fun _ _ h _ => h, fun b' o i hb' hn hf => by
        rcases hf with hf | ⟨rfl, _⟩
        · exact hf
        · rw [hb.ow] at hb'; injection hb' with hb'; exact absurd hb'.symm hn⟩
    have hel : ∀ i j (hi : i < xs.length) (hj : j < P.cellsOf fl.e), g'.FP b (0 + i * P.cellsOf fl.e + j) := by
      intro i j hi hj
      refine .inr ⟨rfl, ?_⟩
      have : (i + 1) * P.cellsOf fl.e ≤ xs.length * P.cellsOf fl.e := Nat.mul_le_mul_right _ hi
      rw [Nat.succ_mul] at this
      omega
    have hreal : realAt g' vs w p = some (.slice (some ⟨b, 0, none⟩) xs.length cap) := hv
    refine ⟨g', _, ?_, hE, hreal, ?_, rfl⟩
    · refine h.putOwn hc ho rfl rfl rfl hC rfl ?_ h.rown h.olt ?_ ?_
      · intro v' hv'
        rw [hv] at hv'
        injection hv' with hv'
        subst hv'
        refine .inr ⟨rfl, b, cap, rfl, hb.hcap, hb.blk, hb.ow, hb.el.mono hE (fun _ => rfl), (fun e => by cases e), fun i hi hf => ?_⟩
        have hi' : xs.length * P.cellsOf fl.e ≤ i := hi
        rcases hf with hf | ⟨_, hf⟩
        · exact hb.fr i hi' hf
        · omega
      · intro b' i hf
        rcases hf with hf | ⟨rfl, _⟩
        · exact h.flt b' i hf
        · exact hlt
      · intro b' i id hid hf
        rcases hf with hf | ⟨rfl, _⟩
        · exact h.fbox b' i id hid hf
        · rw [hb.ow] at hid; cases hid
    · refine .slv xs b 0 cap (P.cellsOf fl.e) (fun i j => (w.cell? ⟨b, 0 + i * P.cellsOf fl.e + j, none⟩).getD undef) hb.hcap hb.el.1 ?_ ?_
      · intro i j hi hj
        refine ⟨hel i j hi hj, ?_⟩
        obtain ⟨v, k1, _⟩ := hb.el.2 i j hi (by rw [hb.el.1 i hi]; exact hj)
        show _ = some ((w.cell? ⟨b, 0 + i * P.cellsOf fl.e + j, none⟩).getD undef)
        rw [k1]; rfl
      · intro i j hi hj
        obtain ⟨v, k1, k2⟩ := hb.el.2 i j hi hj
        show Rel g' w _ ((w.cell? ⟨b, 0 + i * P.cellsOf fl.e + j, none⟩).getD undef)
        rw [k1]
        exact k2.ext hE

/-- Ownership goes from a place into a box's cell. -/
theorem Inv.moveCell {P : Program} {st : St} {g : Gh} {vs : Array Value} {w : World} (h : Inv P g st vs w) {id off b0 : Nat} {ty : TypeId} {cs : List PV} (hσ : st.σ[id]? = some (Bx.cells ty cs)) (hoff : off < cs.length)
    (hrho : g.rho[id]? = some b0) {p : Plc} (hpd : p ≠ .cell id off) {fl : Flag} {n : Bool} {xs : List (List PV)}
    (hc : contentAt st p = some (.sl fl n xs)) (ho : fl.isOwn = true) {v : Value} (hv : realAt g vs w p = some v) :
    ∃ g', Inv P g' ((st.setP p .dead).setP (.cell id off) (.sl fl n xs)) vs (w.setCell ⟨b0, off, none⟩ v) ∧ Ext g g' w (w.setCell ⟨b0, off, none⟩ v) := by
  obtain ⟨v', hv', hok⟩ := own_at h hc ho
  rw [hv] at hv'
  injection hv' with hv'
  subst hv'
  have h1 := h.forgetP hc
  have hσ1 : ∃ cs1, (st.setP p .dead).σ[id]? = some (Bx.cells ty cs1) := by
    cases p with
    | tmp t => rw [cellAt_setP_tmp]; exact ⟨cs, hσ⟩
    | cell id' off' =>
      rw [σ_setP_cell, List.getElem?_modify, hσ]
      by_cases e : id' = id
      · simp [e, setBx]
      · simp [e]
  obtain ⟨cs1, hσ1⟩ := hσ1
  rcases hok with ⟨rfl, rfl⟩ | ⟨rfl, b, cap, rfl, hb⟩
  · obtain ⟨k1, k2⟩ := h1.storeSlot (off := off) hσ1 hrho (x := .sl fl n []) rfl (fun _ _ => slot_own ho (.inl ⟨rfl, rfl⟩))
    exact ⟨g, k1, k2⟩
  · have hbox := h.rown id b0 hrho
    have hne : b ≠ b0 := by rintro rfl; rw [hb.ow] at hbox; cases hbox
    obtain ⟨k1, k2, k3⟩ := setOw_rown (q := .cell id off) h hb.ow
    have hC1 := chg_setOw (w := w) (q := .cell id off) hb.ow (A := fun o => o = .plc p ∨ o = .plc (.cell id off) ∨ o = .box id) (.inl rfl)
    have hbox' : (g.setOw b (.plc (.cell id off))).ow b0 = some (.box id) := k1 id b0 hrho
    have hC := hC1.trans (chg_setCell (w := w) (off := off) hbox' (by simp) (k3 b0 off id hbox') (.slice (some ⟨b, 0, none⟩) xs.length cap) (A := fun o => o = .plc p ∨ o = .plc (.cell id off) ∨ o = .box id) (.inr (.inr rfl)))
    refine ⟨g.setOw b (.plc (.cell id off)), ?_, hC.ext⟩
    refine h1.setCell hσ1 hrho hC rfl ?_ (fun id' hid e => by rcases e with e | e | e <;> cases e; exact hid rfl) (fun c fz hh => heap_setCell_self w b0 off _ hh) rfl ?_ k1
      (fun b' o hb' => by rw [size_setCell]; exact k2 b' o hb') (fun b' i hb' => by rw [size_setCell]; exact h.flt b' i hb') k3
    · intro r y hr hy hyo e
      rcases e with e | e | e
      · injection e with e
        subst e
        rw [contentAt_set_self hc] at hy
        injection hy with hy
        subst hy
        cases hyo
      · injection e with e
        exact hr e
      · cases e
    · refine slot_own ho (.inr ⟨rfl, b, cap, rfl, ?_⟩)
      obtain ⟨c, fz, hblk, hsz, hz⟩ := hb.blk
      have hh : (w.setCell ⟨b0, off, none⟩ (.slice (some ⟨b, 0, none⟩) xs.length cap)).heap[b]? = w.heap[b]? := heap_setCell_ne _ _ _ _ hne
      exact ⟨hb.hcap, ⟨c, fz, hh.trans hblk, hsz, hz⟩, by simp [Gh.setOw], hb.el.mono hC.ext (cell_of_heap hh), hb.ex_, hb.fr⟩

/-- The cells of a block, some of them overwritten. -/
def overw (c : Array Value) (off : Nat) : List Value → Array Value
  | [] => c
  | v :: vs => overw (c.setIfInBounds off v) (off + 1) vs

theorem overw_size (vs : List Value) : ∀ (c : Array Value) (off : Nat), (overw c off vs).size = c.size := by
  induction vs with
  | nil => intro c off; rfl
  | cons v vs ih => intro c off; simp [overw, ih]

theorem overw_get (vs : List Value) : ∀ (c : Array Value) (off : Nat), off + vs.length ≤ c.size → ∀ i, (overw c off vs)[i]? = if off ≤ i ∧ i < off + vs.length then vs[i - off]? else c[i]? := by
  induction vs with
  | nil => intro c off _ i; rw [if_neg (fun h => by simp only [List.length_nil] at h; omega)]; rfl
  | cons v vs ih =>
    intro c off hs i
    simp only [List.length_cons] at hs
    rw [overw, ih _ _ (by simp; omega)]
    by_cases h1 : off + 1 ≤ i ∧ i < off + 1 + vs.length
    · rw [if_pos h1, if_pos (by simp; omega)]
      rw [show i - off = (i - (off + 1)) + 1 by omega, List.getElem?_cons_succ]
    · rw [if_neg h1]
      by_cases h2 : i = off
      · subst h2
        rw [if_pos (by simp), Array.getElem?_setIfInBounds_self_of_lt (by omega), Nat.sub_self]
        rfl
      · rw [if_neg (by simp; omega), Array.getElem?_setIfInBounds_ne (by omega)]

/-- A block's cells overwritten. -/
def wblit (w : World) (b off : Nat) : List Value → World
  | [] => w
  | v :: vs => wblit (w.setCell ⟨b, off, none⟩ v) b (off + 1) vs

theorem wblit_facts (b : Nat) (vs : List Value) : ∀ (w : World) (off : Nat), (wblit w b off vs).os = w.os ∧ (wblit w b off vs).tape = w.tape ∧ (wblit w b off vs).output = w.output ∧
    (wblit w b off vs).heap.size = w.heap.size ∧ (∀ k, k ≠ b → (wblit w b off vs).heap[k]? = w.heap[k]?) ∧
    ∀ c ty fz, w.heap[b]? = some (.cells c ty fz) → (wblit w b off vs).heap[b]? = some (.cells (overw c off vs) ty fz) := by
  induction vs with
  | nil => intro w off; exact ⟨rfl, rfl, rfl, rfl, fun _ _ => rfl, fun _ _ _ h => h⟩
  | cons v vs ih =>
    intro w off
    obtain ⟨h1, h2, h3, h4, h5, h6⟩ := ih (w.setCell ⟨b, off, none⟩ v) (off + 1)
    exact ⟨h1, h2, h3, h4.trans (size_setCell ..), fun k hk => (h5 k hk).trans (heap_setCell_ne _ _ _ _ hk), fun c ty fz hb => h6 _ _ _ (heap_setCell_self w b off v hb)⟩

/-- Cells of a block are overwritten that has an owner, and that nobody protects there. -/
theorem chg_blit {g : Gh} {w : World} {b off : Nat} {vs : List Value} {o : Own} (ho : g.ow b = some o) (hf : o ≠ .frame) {c : Array Value} {ty : TypeId} {fz : Nat × Nat}
    (hb : w.heap[b]? = some (.cells c ty fz)) (hs : off + vs.length ≤ c.size) (hp : ∀ i, off ≤ i → i < off + vs.length → ¬ g.FP b i) {A : Own → Prop} (hA : A o) :
    Chg A g g w (wblit w b off vs) := by
  obtain ⟨h1, h2, h3, h4, h5, h6⟩ := wblit_facts b vs w off
  refine ⟨⟨List.prefix_rfl, fun _ _ h => h, ?_, ?_, Nat.le_of_eq h4.symm, fun _ h => h, fun _ h => h, fun _ _ h => h, fun _ _ _ h => h, h1, h2, h3⟩, ?_, fun _ _ h _ => h, fun _ _ _ _ _ h => h⟩
  · intro b' i hi
    by_cases e : b' = b
    · subst e
      simp only [World.cell?, hb, h6 c ty fz hb]
      simp only [Option.isSome_none, Bool.false_eq_true, if_false]
      rw [overw_get vs c off hs, if_neg (fun hh => hp i hh.1 hh.2 hi)]
    · exact cell_of_heap (h5 b' e) i
  · intro b' _ hb'
    refine h5 b' ?_
    rintro rfl
    rw [ho] at hb'
    rcases hb' with hb' | hb'
    · cases hb'
    · injection hb' with hb'; exact hf hb'
  · intro b' o' h1' h2' _
    refine h5 b' ?_
    rintro rfl
    rw [ho] at h1'; injection h1' with h1'; subst h1'; exact h2' hA

/-- Elements are laid behind a slice of one's own, where there is room: the new slice is a tmp's. -/
theorem Inv.appendIn {P : Program} {st : St} {g : Gh} {vs : Array Value} {w : World} (h : Inv P g st vs w) {d : Nat} (hd : d < st.n) {p : Plc} (hpd : p ≠ .tmp d) {fl : Flag} {xs ys : List (List PV)}
    (hc : contentAt st p = some (.sl fl false xs)) (ho : fl.isOwn = true) {b cap : Nat} (hb : OwnBlk P g w p fl.isExcl fl.e xs b cap)
    (hroom : xs.length + ys.length ≤ cap) {us : List Value} (hul : us.length = ys.length * P.cellsOf fl.e) (hyl : ∀ i, (h : i < ys.length) → ys[i].length = P.cellsOf fl.e)
    (hyr : ∀ i j (hi : i < ys.length) (hj : j < ys[i].length), ∃ v, us[i * P.cellsOf fl.e + j]? = some v ∧ Rel g w ys[i][j] v) :
    ∃ g', Inv P g' ((st.setP p .dead).setP (.tmp d) (.sl fl false (xs ++ ys))) (vs.setIfInBounds d (.slice (some ⟨b, 0, none⟩) (xs.length + ys.length) cap)) (wblit w b (xs.length * P.cellsOf fl.e) us) ∧
      Ext g g' w (wblit w b (xs.length * P.cellsOf fl.e) us) := by
  obtain ⟨c, fz, hblk, hsz, hz⟩ := hb.blk
  have hmul : (xs.length + ys.length) * P.cellsOf fl.e ≤ cap * P.cellsOf fl.e := Nat.mul_le_mul_right _ hroom
  rw [Nat.add_mul] at hmul
  have hs : xs.length * P.cellsOf fl.e + us.length ≤ c.size := by rw [hul, hsz]; exact hmul
  have hCb : Chg (fun o => o = .plc p ∨ o = .plc (.tmp d)) g g w (wblit w b (xs.length * P.cellsOf fl.e) us) :=
    chg_blit hb.ow (by simp) hblk hs (fun i hi _ => hb.fr i hi) (.inl rfl)
  obtain ⟨f1, f2, f3, f4, f5, f6⟩ := wblit_facts b us w (xs.length * P.cellsOf fl.e)
  have hnb := f6 c _ fz hblk
  have hC := hCb.trans (chg_setOw (w := wblit w b (xs.length * P.cellsOf fl.e) us) (q := .tmp d) hb.ow (A := fun o => o = .plc p ∨ o = .plc (.tmp d)) (.inl rfl))
  have h1 := h.forgetP hc
  obtain ⟨k1, k2, k3⟩ := setOw_rown (q := .tmp d) h hb.ow
  refine ⟨g.setOw b (.plc (.tmp d)), ?_, hC.ext⟩
  have hlen : (xs ++ ys).length = xs.length + ys.length := List.length_append
  refine h1.setTmp (by rw [tsLen_setP]; exact hd) hC rfl ?_ (fun id e => by rcases e with e | e <;> cases e) (slot_own ho (.inr ⟨rfl, b, cap, by rw [hlen], by rw [hlen]; exact hroom, ⟨_, fz, hnb, by rw [overw_size]; exact hsz, by rw [overw_size]; exact hz⟩, by simp [Gh.setOw], ⟨?_, ?_⟩, ?_, ?_⟩)) k1
    (fun b' o hb' => by rw [f4]; exact k2 b' o hb') (fun b' i hb' => by rw [f4]; exact h.flt b' i hb') k3
  · intro r y hr hy hyo e
    rcases e with e | e
    · injection e with e
      subst e
      rw [contentAt_set_self hc] at hy
      injection hy with hy
      subst hy
      cases hyo
    · injection e with e
      exact hr e
  · intro i hi
    rw [hlen] at hi
    rcases Nat.lt_or_ge i xs.length with hx | hx
    · rw [List.getElem_append_left hx]; exact hb.el.1 i hx
    · rw [List.getElem_append_right hx]; exact hyl _ _
  · intro i j hi hj
    rw [hlen] at hi
    have hcell : ∀ k, (wblit w b (xs.length * P.cellsOf fl.e) us).cell? ⟨b, k, none⟩ = (overw c (xs.length * P.cellsOf fl.e) us)[k]? := by
      intro k
      simp only [World.cell?, hnb]
      simp
    rcases Nat.lt_or_ge i xs.length with hx | hx
    · simp only [List.getElem_append_left hx] at hj ⊢
      obtain ⟨v, e1, e2⟩ := hb.el.2 i j hx hj
      refine ⟨v, ?_, e2.ext hC.ext⟩
      rw [hcell, overw_get us c _ hs, if_neg]
      · simp only [World.cell?, hblk] at e1
        simpa using e1
      · have := hb.el.1 i hx
        have h3 : (i + 1) * P.cellsOf fl.e ≤ xs.length * P.cellsOf fl.e := Nat.mul_le_mul_right _ hx
        rw [Nat.succ_mul] at h3
        omega
    · simp only [List.getElem_append_right hx] at hj ⊢
      have hi' : i - xs.length < ys.length := by omega
      obtain ⟨v, e1, e2⟩ := hyr (i - xs.length) j hi' hj
      refine ⟨v, ?_, e2.ext hC.ext⟩
      have hj' : j < P.cellsOf fl.e := by rw [← hyl _ hi']; exact hj
      have e3 : i * P.cellsOf fl.e = xs.length * P.cellsOf fl.e + (i - xs.length) * P.cellsOf fl.e := by rw [← Nat.add_mul]; congr 1; omega
      have e4 : (i - xs.length + 1) * P.cellsOf fl.e ≤ ys.length * P.cellsOf fl.e := Nat.mul_le_mul_right _ hi'
      rw [Nat.succ_mul] at e4
      rw [hcell, overw_get us c _ hs, if_pos (by rw [hul]; omega), ← e1]
      congr 1
      omega
  · intro he i hf
    exact hb.ex_ he i hf
  · intro i hi hf
    rw [hlen, Nat.add_mul] at hi
    exact hb.fr i (by omega) hf

/-- An element's cell is overwritten, in a slice that none but its owner reads. -/
theorem Inv.elemStore {P : Program} {st : St} {g : Gh} {vs : Array Value} {w : World} (h : Inv P g st vs w) {p : Plc} {e : TypeId} {xs : List (List PV)}
    (hc : contentAt st p = some (.sl (.excl e) false xs)) {b cap : Nat} (hv : realAt g vs w p = some (.slice (some ⟨b, 0, none⟩) xs.length cap)) {k off : Nat} (hk : k < xs.length) (hoff : off < xs[k].length) {x : PV} {v : Value}
    (hx : Rel g w x v) : Inv P g (st.putP p (.sl (.excl e) false (xs.set k (xs[k].set off x)))) vs (w.setCell ⟨b, k * P.cellsOf e + off, none⟩ v) ∧ Ext g g w (w.setCell ⟨b, k * P.cellsOf e + off, none⟩ v) := by
  obtain ⟨v', hv', hok⟩ := own_at h hc rfl
  rw [hv] at hv'
  injection hv' with hv'
  subst hv'
  rcases hok with ⟨_, hn⟩ | ⟨_, b', cap', hbv, hb⟩
  · cases hn
  · injection hbv with e1 _ e2
    injection e1 with e1
    injection e1 with e1 _
    subst e1; subst e2
    have hb : OwnBlk P g w p true e xs b cap := hb
    have hC := chg_setCell (w := w) (off := k * P.cellsOf e + off) hb.ow (by simp) (hb.ex_ rfl _) v (A := fun o => o = .plc p) rfl
    obtain ⟨c, fz, hblk, hsz, hz⟩ := hb.blk
    refine ⟨?_, hC.ext⟩
    refine h.putOwn hc rfl rfl rfl (by simp) hC rfl ?_ h.rown (fun b' o hb' => by rw [size_setCell]; exact h.olt b' o hb') (fun b' i hb' => by rw [size_setCell]; exact h.flt b' i hb') h.fbox
    intro v' hv'
    rw [hv] at hv'
    injection hv' with hv'
    subst hv'
    have hnb := heap_setCell_self w b (k * P.cellsOf e + off) v hblk
    refine .inr ⟨rfl, b, cap, by simp, by simpa using hb.hcap, ⟨_, fz, hnb, by rw [Array.size_setIfInBounds]; exact hsz, by simpa using hz⟩, hb.ow, ⟨?_, ?_⟩, hb.ex_, fun i hi => hb.ex_ rfl i⟩
    · intro i hi
      simp only [List.length_set] at hi
      by_cases e' : k = i
      · subst e'; simp [hb.el.1 k hk]; rfl
      · rw [List.getElem_set_ne e']; exact hb.el.1 i hi
    · intro i j hi hj
      simp only [List.length_set] at hi
      have hcell : ∀ q, (w.setCell ⟨b, k * P.cellsOf e + off, none⟩ v).cell? ⟨b, q, none⟩ = (c.setIfInBounds (k * P.cellsOf e + off) v)[q]? := by
        intro q
        simp only [World.cell?, hnb]
        simp
      have hoff' : off < P.cellsOf e := by rw [← hb.el.1 k hk]; exact hoff
      have hin : k * P.cellsOf e + off < c.size := by
        have : (k + 1) * P.cellsOf e ≤ cap * P.cellsOf e := Nat.mul_le_mul_right _ (Nat.le_trans hk hb.hcap)
        rw [Nat.succ_mul] at this
        omega
      by_cases e' : k = i
      · subst e'
        simp only [List.getElem_set_self, List.length_set] at hj ⊢
        by_cases eo : off = j
        · subst eo
          refine ⟨v, ?_, by simpa using hx.ext hC.ext⟩
          rw [hcell]
          simp only [Flag.e, Nat.zero_add]
          rw [Array.getElem?_setIfInBounds_self_of_lt hin]
        · obtain ⟨u, d1, d2⟩ := hb.el.2 k j hk hj
          refine ⟨u, ?_, by rw [List.getElem_set_ne eo]; exact d2.ext hC.ext⟩
          rw [hcell]
          simp only [Flag.e, Nat.zero_add] at d1 ⊢
          rw [Array.getElem?_setIfInBounds_ne (by omega)]
          simp only [World.cell?, hblk] at d1
          simpa using d1
      · rw [List.getElem_set_ne e'] at hj
        obtain ⟨u, d1, d2⟩ := hb.el.2 i j hi hj
        refine ⟨u, ?_, by simp only [List.getElem_set_ne e']; exact d2.ext hC.ext⟩
        rw [hcell]
        simp only [Flag.e, Nat.zero_add] at d1 ⊢
        have hj' : j < P.cellsOf e := by rw [← hb.el.1 i hi]; exact hj
        rw [Array.getElem?_setIfInBounds_ne]
        · simp only [World.cell?, hblk] at d1
          simpa using d1
        · intro e3
          have := Nat.lt_or_gt_of_ne e'
          rcases this with h5 | h5
          · have h6 : (k + 1) * P.cellsOf e ≤ i * P.cellsOf e := Nat.mul_le_mul_right _ h5
            rw [Nat.succ_mul] at h6
            omega
          · have h6 : (i + 1) * P.cellsOf e ≤ k * P.cellsOf e := Nat.mul_le_mul_right _ h5
            rw [Nat.succ_mul] at h6
            omega

end Go.AM
