/- The abstract machine, 4: boxes, blocks of one's own. -/
import Derived.Test.YtpbbgkmpjcddbaaA3
set_option linter.all false
namespace Go.AM

theorem own_at {P : Program} {st : St} {g : Gh} {vs : Array Value} {w : World} (h : Inv P g st vs w) {p : Plc} {fl : Flag} {n : Bool} {xs : List (List PV)}
    (hc : contentAt st p = some (.sl fl n xs)) (ho : fl.isOwn = true) : ∃ v, realAt g vs w p = some v ∧ OwnOk P g w p fl.isExcl fl.e n xs v := by
  have key : ∀ v, Slot P st g vs w p (.sl fl n xs) v → OwnOk P g w p fl.isExcl fl.e n xs v := by
    intro v hs
    cases fl with
    | view => simp [Flag.isOwn] at ho
    | own e => exact hs
    | excl e => exact hs
  cases p with
  | tmp t =>
    obtain ⟨v, hv, hs⟩ := h.slot t _ hc
    exact ⟨v, hv, key v hs⟩
  | cell id off =>
    simp only [contentAt] at hc
    split at hc
    · rename_i ty cs hσ
      have hid : id < g.rho.length := by rw [h.rlen]; exact (List.getElem?_eq_some_iff.1 hσ).1
      obtain ⟨c, fz, hb, _, _, hx⟩ := h.box id ty cs _ hσ (List.getElem?_eq_getElem hid)
      obtain ⟨_, v, hv, hs⟩ := hx off _ hc
      refine ⟨v, ?_, key v hs⟩
      simp only [realAt, List.getElem?_eq_getElem hid, World.cell?, hb]
      simpa using hv
    · cases hc

theorem σ_setP_cell {st : St} {id off : Nat} {x : PV} : (st.setP (.cell id off) x).σ = st.σ.modify id (setBx off x) := by
  unfold St.setP; split <;> rfl

/-- A box's cell is set. -/
theorem Inv.setCell {P : Program} {A : Own → Prop} {st : St} {g g' : Gh} {vs : Array Value} {w w' : World} (h : Inv P g st vs w) {id off b : Nat} {ty : TypeId} {cs : List PV} {x : PV} {v : Value}
    (hσ : st.σ[id]? = some (Bx.cells ty cs)) (hrho : g.rho[id]? = some b) (hC : Chg A g g' w w') (hr : g'.rho = g.rho)
    (hA : ∀ r y, r ≠ .cell id off → contentAt st r = some y → y.isOwn = true → ¬ A (.plc r)) (hAb : ∀ id', id' ≠ id → ¬ A (.box id'))
    (hw : ∀ c fz, w.heap[b]? = some (.cells c ty fz) → w'.heap[b]? = some (.cells (c.setIfInBounds off v) ty fz)) (hn : x.noAl = true)
    (hx : Slot P (st.setP (.cell id off) x) g' vs w' (.cell id off) x v)
    (hrown : ∀ (id b : Nat), g'.rho[id]? = some b → g'.ow b = some (.box id))
    (holt : ∀ b o, g'.ow b = some o → b < w'.heap.size)
    (hflt : ∀ b i, g'.FP b i → b < w'.heap.size)
    (hfbox : ∀ b i id, g'.ow b = some (.box id) → ¬ g'.FP b i) : Inv P g' (st.setP (.cell id off) x) vs w' := by
  have hid : id < st.σ.length := (List.getElem?_eq_some_iff.1 hσ).1
  obtain ⟨c, fz, hb, hz, hcs, hcx⟩ := h.box id ty cs b hσ hrho
  have hreal : ∀ q, q ≠ .cell id off → realAt g' vs w' q = realAt g vs w q := by
    intro q hq
    cases q with
    | tmp u => rfl
    | cell id' off' =>
      by_cases e : id' = id
      · subst e
        have ho : off ≠ off' := fun e => hq (by rw [e])
        simp only [realAt, hr, hrho, World.cell?, hb, hw c fz hb]
        simp [ho]
      · exact realAt_cell_same h hC hr (hAb id' e)
  refine h.step hC (by rw [tsLen_setP]; exact h.size) ?_ (by rw [hr, σ_setP_cell]; simp [h.rlen]) ?_ ?_ hrown holt hflt hfbox
  · intro t y hy
    rcases set_slot h hy (p := .cell id off) (by intro e; cases e) with h1 | ⟨h1, h2⟩
    · exact .inl h1
    · refine .inr (.inl ⟨h1, rfl, fun ho => hA (.tmp t) y (by intro e; cases e) h1 ho, fun q hq => ?_⟩)
      obtain ⟨hne, fl, n, xs, k1, k2, k3⟩ := h2 q hq
      exact ⟨k2.trans k1.symm, hreal q hne⟩
  · intro id' ty' cs' b' h1 h2
    rw [σ_setP_cell, List.getElem?_modify] at h1
    rw [hr] at h2
    by_cases e : id = id'
    · subst e
      rw [hσ] at h1
      simp only [if_pos, Option.map_eq_map, Option.map_some, setBx, Option.some.injEq, Bx.cells.injEq] at h1
      obtain ⟨rfl, rfl⟩ := h1
      rw [hrho] at h2
      injection h2 with h2
      subst h2
      refine .inr ⟨_, fz, hw c fz hb, by simpa using hz, by simp [hcs], fun o y hy => ?_⟩
      by_cases eo : off = o
      · subst eo
        have hlt : off < cs.length := by simpa using (List.getElem?_eq_some_iff.1 hy).1
        rw [List.getElem?_set_self hlt] at hy
        injection hy with hy
        subst hy
        exact ⟨hn, v, by rw [Array.getElem?_setIfInBounds_self_of_lt (by omega)], hx⟩
      · rw [List.getElem?_set_ne eo] at hy
        obtain ⟨k1, u, k2, k3⟩ := hcx o y hy
        refine ⟨k1, u, by rw [Array.getElem?_setIfInBounds_ne eo]; exact k2, k3.chg hC (fun ho => hA (.cell id o) y (by intro e; injection e with _ e; exact eo e.symm) (by simp only [contentAt, hσ]; exact hy) ho) ?_⟩
        rintro q (rfl | ⟨_, _, rfl⟩) <;> simp [PV.noAl] at k1
    · have h1' : st.σ[id']? = some (Bx.cells ty' cs') := by
        cases hh : st.σ[id']? with
        | none => simp [hh] at h1
        | some z => simpa [hh, e] using h1
      exact .inl ⟨h1', h2, hAb id' (fun e' => e e'.symm), fun o y hy ho => hA (.cell id' o) y (by intro e'; injection e' with e' _; exact e e'.symm) (by simp only [contentAt, h1']; exact hy) ho⟩
  · intro id' es b' h1 h2
    rw [σ_setP_cell, List.getElem?_modify] at h1
    rw [hr] at h2
    by_cases e : id = id'
    · subst e
      rw [hσ] at h1
      simp [setBx] at h1
    · have h1' : st.σ[id']? = some (Bx.mp es) := by
        cases hh : st.σ[id']? with
        | none => simp [hh] at h1
        | some z => simpa [hh, e] using h1
      exact .inl ⟨h1', h2, hAb id' (fun e' => e e'.symm)⟩

theorem heap_setCell_ne (w : World) (a : Addr) (u : Value) (k : Nat) (h : k ≠ a.block) : (w.setCell a u).heap[k]? = w.heap[k]? := by
  simp only [World.setCell, Array.getElem?_modify]
  rw [if_neg (by omega)]
theorem heap_setCell_self (w : World) (b off : Nat) (u : Value) {c : Array Value} {ty : TypeId} {fz : Nat × Nat} (h : w.heap[b]? = some (.cells c ty fz)) :
    (w.setCell ⟨b, off, none⟩ u).heap[b]? = some (.cells (c.setIfInBounds off u) ty fz) := by
  simp only [World.setCell, Array.getElem?_modify, if_pos, h]
  simp
theorem size_setCell (w : World) (a : Addr) (u : Value) : (w.setCell a u).heap.size = w.heap.size := by simp [World.setCell]

/-- A store into a block that has an owner other than a frame, and that nobody protects at that cell. -/
theorem ext_setCell {g : Gh} {w : World} {b off : Nat} {o : Own} (ho : g.ow b = some o) (hf : o ≠ .frame) (hp : ¬ g.FP b off) (u : Value) : Ext g g w (w.setCell ⟨b, off, none⟩ u) where
  rho := List.prefix_rfl
  fp _ _ h := h
  fpc b' i hi := by
    by_cases e : b' = b
    · subst e
      have : i ≠ off := fun e => hp (e ▸ hi)
      simp only [World.cell?, World.setCell, Array.getElem?_modify]
      cases hh : w.heap[b']? with
      | none => simp
      | some z => cases z <;> simp [this.symm]
    · exact cell_of_heap (heap_setCell_ne _ _ _ _ e) i
  keep b' _ hb := heap_setCell_ne _ _ _ _ (by
    rintro rfl
    rw [ho] at hb
    rcases hb with hb | hb
    · cases hb
    · injection hb with hb; exact hf hb)
  size := Nat.le_of_eq (size_setCell ..).symm
  frame _ h := h
  noframe _ h := h
  none_ _ _ h := h
  fnew _ _ _ h := h
  os := rfl
  tape := rfl
  output := rfl

theorem chg_setCell {g : Gh} {w : World} {b off : Nat} {o : Own} (ho : g.ow b = some o) (hf : o ≠ .frame) (hp : ¬ g.FP b off) (u : Value) {A : Own → Prop} (hA : A o) :
    Chg A g g w (w.setCell ⟨b, off, none⟩ u) :=
  ⟨ext_setCell ho hf hp u, fun b' o' h1 h2 _ => heap_setCell_ne _ _ _ _ (by rintro rfl; rw [ho] at h1; injection h1 with h1; subst h1; exact h2 hA), fun _ _ h _ => h, fun _ _ _ _ _ h => h⟩

/-- A frozen value is stored into a box. -/
theorem Inv.storeRel {P : Program} {st : St} {g : Gh} {vs : Array Value} {w : World} (h : Inv P g st vs w) {id off b : Nat} {ty : TypeId} {cs : List PV} {x : PV} {v : Value}
    (hσ : st.σ[id]? = some (Bx.cells ty cs)) (hrho : g.rho[id]? = some b) (hp : x.plain = true) (hx : Rel g w x v) :
    Inv P g (st.setP (.cell id off) x) vs (w.setCell ⟨b, off, none⟩ v) ∧ Ext g g w (w.setCell ⟨b, off, none⟩ v) := by
  have ho := h.rown id b hrho
  have hE := ext_setCell (w := w) (off := off) ho (by simp) (h.fbox b off id ho) v
  refine ⟨?_, hE⟩
  refine h.setCell (A := fun o => o = .box id ∨ o = .plc (.cell id off)) hσ hrho (chg_setCell ho (by simp) (h.fbox b off id ho) v (.inl rfl)) rfl
    (fun r y hr _ _ e => by rcases e with e | e <;> cases e; exact hr rfl) (fun id' hid e => by rcases e with e | e <;> cases e; exact hid rfl)
    (fun c fz hb => heap_setCell_self w b off v hb) (by cases x <;> first | rfl | simp [PV.plain] at hp) (slot_of_rel (hx.ext hE) hp) h.rown
    (fun b' o hb => by rw [size_setCell]; exact h.olt b' o hb) (fun b' i hb => by rw [size_setCell]; exact h.flt b' i hb) h.fbox

/-- A value that is of no place, or owns nothing there is, is stored into a box. -/
theorem Inv.storeSlot {P : Program} {st : St} {g : Gh} {vs : Array Value} {w : World} (h : Inv P g st vs w) {id off b : Nat} {ty : TypeId} {cs : List PV} {x : PV} {v : Value}
    (hσ : st.σ[id]? = some (Bx.cells ty cs)) (hrho : g.rho[id]? = some b) (hn : x.noAl = true) (hx : ∀ st' w', Slot P st' g vs w' (.cell id off) x v) :
    Inv P g (st.setP (.cell id off) x) vs (w.setCell ⟨b, off, none⟩ v) ∧ Ext g g w (w.setCell ⟨b, off, none⟩ v) := by
  have ho := h.rown id b hrho
  have hE := ext_setCell (w := w) (off := off) ho (by simp) (h.fbox b off id ho) v
  refine ⟨?_, hE⟩
  exact h.setCell (A := fun o => o = .box id ∨ o = .plc (.cell id off)) hσ hrho (chg_setCell ho (by simp) (h.fbox b off id ho) v (.inl rfl)) rfl
    (fun r y hr _ _ e => by rcases e with e | e <;> cases e; exact hr rfl) (fun id' hid e => by rcases e with e | e <;> cases e; exact hid rfl)
    (fun c fz hb => heap_setCell_self w b off v hb) hn (hx _ _) h.rown
    (fun b' o hb => by rw [size_setCell]; exact h.olt b' o hb) (fun b' i hb => by rw [size_setCell]; exact h.flt b' i hb) h.fbox

theorem setIf_self {α : Type} (c : Array α) (i : Nat) (v : α) (h : c[i]? = some v) : c.setIfInBounds i v = c := by
  apply Array.ext_getElem?
  intro j
  by_cases e : i = j
  · subst e
    obtain ⟨h1, h2⟩ := Array.getElem?_eq_some_iff.1 h
    simp [h1, h2]
  · simp [e]

/-- A place is forgotten. -/
theorem Inv.forgetP {P : Program} {st : St} {g : Gh} {vs : Array Value} {w : World} (h : Inv P g st vs w) {p : Plc} {y : PV} (hc : contentAt st p = some y) :
    Inv P g (st.setP p .dead) vs w := by
  cases p with
  | tmp d => exact h.forget (get_lt hc)
  | cell id off =>
    simp only [contentAt] at hc
    split at hc
    · rename_i ty cs hσ
      have hid : id < g.rho.length := by rw [h.rlen]; exact (List.getElem?_eq_some_iff.1 hσ).1
      have hrho := List.getElem?_eq_getElem hid
      obtain ⟨c, fz, hb, _, hcs, hx⟩ := h.box id ty cs _ hσ hrho
      have hoff : off < c.size := by rw [hcs]; exact (List.getElem?_eq_some_iff.1 hc).1
      refine h.setCell (A := fun _ => False) (v := c[off]) hσ hrho (Chg.refl _ g w) rfl (fun _ _ _ _ _ => not_false) (fun _ _ => not_false) ?_ rfl trivial h.rown h.olt h.flt h.fbox
      intro c' fz' hb'
      rw [hb] at hb'
      injection hb' with hb'
      injection hb' with e1 _ e2
      subst e1; subst e2
      rw [setIf_self _ _ _ (Array.getElem?_eq_getElem hoff)]
      exact hb
    · cases hc

end Go.AM
