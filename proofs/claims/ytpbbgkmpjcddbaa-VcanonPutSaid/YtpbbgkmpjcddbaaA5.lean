/- The abstract machine, 5: new blocks, ownership that is handed on, sharing, writing what one owns. -/
import Derived.Test.YtpbbgkmpjcddbaaA4
set_option linter.all false
namespace Go.AM

def Gh.setOw (g : Gh) (b : Nat) (o : Own) : Gh := { g with ow := fun c => if c = b then some o else g.ow c }

theorem heap_alloc_lt (w : World) (o : Obj) (k : Nat) (h : k < w.heap.size) : (w.alloc o).heap[k]? = w.heap[k]? := by
  show (w.heap.push o)[k]? = _
  rw [Array.getElem?_push, if_neg (by omega)]
theorem heap_alloc_new (w : World) (o : Obj) : (w.alloc o).heap[w.heap.size]? = some o := by
  show (w.heap.push o)[w.heap.size]? = _
  simp
theorem size_alloc (w : World) (o : Obj) : (w.alloc o).heap.size = w.heap.size + 1 := by
  show (w.heap.push o).size = _
  simp

theorem ow_new {P : Program} {st : St} {g : Gh} {vs : Array Value} {w : World} (h : Inv P g st vs w) : g.ow w.heap.size = none := by
  cases e : g.ow w.heap.size with
  | none => rfl
  | some o => exact absurd (h.olt _ _ e) (by omega)

theorem FP_new {P : Program} {st : St} {g : Gh} {vs : Array Value} {w : World} (h : Inv P g st vs w) (i : Nat) : ¬ g.FP w.heap.size i := fun e => absurd (h.flt _ _ e) (by omega)

/-- A new block that nobody had. -/
theorem chg_alloc {P : Program} {st : St} {g g' : Gh} {vs : Array Value} {w : World} (h : Inv P g st vs w) (A : Own → Prop) (o : Obj) (ob : Own) (hob : ob ≠ .frame)
    (hr : g.rho <+: g'.rho) (hf : g'.FP = g.FP) (ho : ∀ b, g'.ow b = if b = w.heap.size then some ob else g.ow b) : Chg A g g' w (w.alloc o) where
  ext :=
    { rho := hr
      fp := fun b i hb => by rw [hf]; exact hb
      fpc := fun b i hb => cell_of_heap (heap_alloc_lt _ _ _ (h.flt b i hb)) i
      keep := fun b hb _ => heap_alloc_lt _ _ _ hb
      size := by rw [size_alloc]; omega
      frame := fun b hb => by rw [ho, if_neg (by have := h.olt b _ hb; omega)]; exact hb
      noframe := fun b hb => by rw [ho]; split; (intro e; injection e with e; exact hob e); exact hb
      none_ := fun b hb hn => by rw [ho, if_neg (by omega)]; exact hn
      fnew := fun b i _ hb => by rw [hf] at hb; exact hb
      os := rfl
      tape := rfl
      output := rfl }
  heap b _ _ _ hb := heap_alloc_lt _ _ _ hb
  ow b o' hb _ := by rw [ho, if_neg (by have := h.olt b _ hb; omega)]; exact hb
  fp b _ i _ _ hb := by rw [hf] at hb; exact hb

/-- A new box. -/
theorem Inv.newBox {P : Program} {st : St} {g : Gh} {vs : Array Value} {w : World} (h : Inv P g st vs w) {ty : TypeId} {cs : List PV} {c : Array Value}
    (hlen : c.size = cs.length) (hc : ∀ (i : Nat) (x : PV), cs[i]? = some x → ∃ v, c[i]? = some v ∧ (x = .dead ∨ (x.plain = true ∧ Rel g w x v))) :
    Inv P { rho := g.rho ++ [w.heap.size], FP := g.FP, ow := (g.setOw w.heap.size (.box st.σ.length)).ow } { st with σ := st.σ ++ [.cells ty cs] } vs (w.alloc (.cells c ty)) ∧
    Ext g { rho := g.rho ++ [w.heap.size], FP := g.FP, ow := (g.setOw w.heap.size (.box st.σ.length)).ow } w (w.alloc (.cells c ty)) := by
  have hC := chg_alloc h (g' := { rho := g.rho ++ [w.heap.size], FP := g.FP, ow := (g.setOw w.heap.size (.box st.σ.length)).ow }) (fun _ => False) (.cells c ty) (.box st.σ.length) (by simp) ⟨_, rfl⟩ rfl (fun b => rfl)
  refine ⟨?_, hC.ext⟩
  have hrl := h.rlen
  refine h.step hC h.size ?_ (by simp [hrl]) ?_ ?_ ?_ ?_ ?_ ?_
  · intro t x hx
    refine .inr (.inl ⟨hx, rfl, fun _ => not_false, fun q hq => ?_⟩)
    obtain ⟨fl, n, xs, h1, _⟩ := alias_content h hx hq
    cases q with
    | tmp u => exact ⟨rfl, rfl⟩
    | cell id off =>
      simp only [contentAt] at h1
      split at h1
      · rename_i ty' cs' hσ
        have hid : id < st.σ.length := (List.getElem?_eq_some_iff.1 hσ).1
        have hlt : g.rho[id]'(by omega) < w.heap.size := h.olt _ _ (h.rown id _ (List.getElem?_eq_getElem (by omega)))
        refine ⟨by simp only [contentAt]; rw [List.getElem?_append_left hid], ?_⟩
        simp only [realAt]
        rw [List.getElem?_append_left (by omega), List.getElem?_eq_getElem (by omega)]
        exact cell_of_heap (heap_alloc_lt _ _ _ hlt) off
      · cases h1
  · intro id ty' cs' b h1 h2
    rcases Nat.lt_or_ge id st.σ.length with hid | hid
    · rw [List.getElem?_append_left hid] at h1
      rw [List.getElem?_append_left (by omega)] at h2
      exact .inl ⟨h1, h2, not_false, fun _ _ _ _ => not_false⟩
    · have e : id = st.σ.length := by have := (List.getElem?_eq_some_iff.1 h1).1; simp at this; omega
      subst e
      rw [List.getElem?_append_right (by omega)] at h1
      rw [List.getElem?_append_right (by omega), hrl] at h2
      simp only [Nat.sub_self, List.getElem?_cons_zero, Option.some.injEq, Bx.cells.injEq] at h1 h2
      obtain ⟨rfl, rfl⟩ := h1
      subst h2
      refine .inr ⟨c, (0, 0), heap_alloc_new _ _, fun i _ h => by omega, hlen, fun off x hx => ?_⟩
      obtain ⟨v, hv, hR⟩ := hc off x hx
      rcases hR with rfl | ⟨hp, hR⟩
      · exact ⟨rfl, v, hv, trivial⟩
      · exact ⟨by cases x <;> first | rfl | simp [PV.plain] at hp, v, hv, slot_of_rel (hR.ext hC.ext) hp⟩
  · intro id es b h1 h2
    rcases Nat.lt_or_ge id st.σ.length with hid | hid
    · rw [List.getElem?_append_left hid] at h1
      rw [List.getElem?_append_left (by omega)] at h2
      exact .inl ⟨h1, h2, not_false⟩
    · have e : id = st.σ.length := by have := (List.getElem?_eq_some_iff.1 h1).1; simp at this; omega
      subst e
      rw [List.getElem?_append_right (by omega)] at h1
      simp at h1
  · intro id b hb
    show (if b = w.heap.size then some (Own.box st.σ.length) else g.ow b) = _
    rcases Nat.lt_or_ge id g.rho.length with hid | hid
    · rw [List.getElem?_append_left hid] at hb
      have := h.rown id b hb
      rw [if_neg (by have := h.olt b _ this; omega)]; exact this
    · rw [List.getElem?_append_right hid] at hb
      have e : id = g.rho.length := by have := (List.getElem?_eq_some_iff.1 hb).1; simp at this; omega
      subst e
      simp only [Nat.sub_self, List.getElem?_cons_zero, Option.some.injEq] at hb
      rw [if_pos hb.symm, hrl]
  · intro b o hb
    rw [size_alloc]
    have hb' : (if b = w.heap.size then some (Own.box st.σ.length) else g.ow b) = some o := hb
    split at hb'
    · omega
    · have := h.olt b o hb'; omega
  · intro b i hb
    rw [size_alloc]
    have := h.flt b i hb; omega
  · intro b i id hb
    have hb' : (if b = w.heap.size then some (Own.box st.σ.length) else g.ow b) = some (.box id) := hb
    split at hb'
    · rename_i e; subst e; exact FP_new h i
    · exact h.fbox b i id hb'

theorem slot_own {P : Program} {st : St} {g : Gh} {vs : Array Value} {w : World} {p : Plc} {fl : Flag} {n : Bool} {xs : List (List PV)} {v : Value} (ho : fl.isOwn = true)
    (h : OwnOk P g w p fl.isExcl fl.e n xs v) : Slot P st g vs w p (.sl fl n xs) v := by
  cases fl with
  | view => simp [Flag.isOwn] at ho
  | own e => exact h
  | excl e => exact h

/-- A new block of one's own, held by a tmp. -/
theorem Inv.newOwn {P : Program} {st : St} {g : Gh} {vs : Array Value} {w : World} (h : Inv P g st vs w) {d : Nat} (hd : d < st.n) {e : TypeId} {fl : Flag} (hfl : fl.isOwn = true) (hfe : fl.e = e) {xs : List (List PV)} {c : Array Value} {cap : Nat} {fz : Nat × Nat}
    (hcap : xs.length ≤ cap) (hsz : c.size = cap * P.cellsOf e) (hfz : Unfz fz c.size)
    (hlen : ∀ i, (h : i < xs.length) → xs[i].length = P.cellsOf e)
    (hrel : ∀ i j (hi : i < xs.length) (hj : j < xs[i].length), ∃ v, c[i * P.cellsOf e + j]? = some v ∧ Rel g w xs[i][j] v) :
    Inv P (g.setOw w.heap.size (.plc (.tmp d))) (st.setP (.tmp d) (.sl fl false xs)) (vs.setIfInBounds d (.slice (some ⟨w.heap.size, 0, none⟩) xs.length cap)) (w.alloc (.cells c e fz)) ∧
    Ext g (g.setOw w.heap.size (.plc (.tmp d))) w (w.alloc (.cells c e fz)) := by
  have hC := chg_alloc h (g' := g.setOw w.heap.size (.plc (.tmp d))) (fun o => o = .plc (.tmp d)) (.cells c e fz) (.plc (.tmp d)) (by simp) List.prefix_rfl rfl (fun b => rfl)
  refine ⟨?_, hC.ext⟩
  refine h.setTmp hd hC rfl (fun r y hr _ _ e => hr (by injection e)) (fun id e => by cases e) ?_ ?_ ?_ ?_ ?_
  · refine slot_own hfl (.inr ⟨rfl, _, cap, rfl, ?_⟩)
    rw [hfe]
    refine ⟨hcap, ⟨c, fz, heap_alloc_new _ _, hsz, hfz⟩, by simp [Gh.setOw], ⟨hlen, fun i j hi hj => ?_⟩, fun _ i => FP_new h i, fun i _ => FP_new h i⟩
    obtain ⟨v, hv, hR⟩ := hrel i j hi hj
    refine ⟨v, ?_, hR.ext hC.ext⟩
    simp only [World.cell?, heap_alloc_new, Nat.zero_add]
    simpa using hv
  · intro id b hb
    have := h.rown id b hb
    show (if b = w.heap.size then _ else g.ow b) = _
    rw [if_neg (by have := h.olt b _ this; omega)]; exact this
  · intro b o hb
    rw [size_alloc]
    have hb' : (if b = w.heap.size then some (Own.plc (.tmp d)) else g.ow b) = some o := hb
    split at hb'
    · omega
    · have := h.olt b o hb'; omega
  · intro b i hb
    rw [size_alloc]
    have := h.flt b i hb; omega
  · intro b i id hb
    have hb' : (if b = w.heap.size then some (Own.plc (.tmp d)) else g.ow b) = some (.box id) := hb
    split at hb'
    · cases hb'
    · exact h.fbox b i id hb'

theorem chg_setOw {g : Gh} {w : World} {b : Nat} {p q : Plc} (ho : g.ow b = some (.plc p)) {A : Own → Prop} (hA : A (.plc p)) : Chg A g (g.setOw b (.plc q)) w w where
  ext :=
    { rho := List.prefix_rfl
      fp := fun _ _ h => h
      fpc := fun _ _ _ => rfl
      keep := fun _ _ _ => rfl
      size := Nat.le_refl _
      frame := fun c hc => by
        show (if c = b then _ else g.ow c) = _
        rw [if_neg (by rintro rfl; rw [ho] at hc; cases hc)]; exact hc
      noframe := fun c hc => by
        show (if c = b then some (Own.plc q) else g.ow c) ≠ _
        split
        · simp
        · exact hc
      none_ := fun c _ hc => by
        show (if c = b then _ else g.ow c) = _
        rw [if_neg (by rintro rfl; rw [ho] at hc; cases hc)]; exact hc
      fnew := fun _ _ _ h => h
      os := rfl
      tape := rfl
      output := rfl }
  heap _ _ _ _ _ := rfl
  ow c o hc hn := by
    show (if c = b then _ else g.ow c) = _
    rw [if_neg (by rintro rfl; rw [ho] at hc; injection hc with hc; subst hc; exact hn hA)]; exact hc
  fp _ _ _ _ _ h := h

theorem OwnBlk.rename {P : Program} {g : Gh} {w : World} {p q : Plc} {ex : Bool} {e : TypeId} {xs : List (List PV)} {b cap : Nat} (h : OwnBlk P g w p ex e xs b cap) :
    OwnBlk P (g.setOw b (.plc q)) w q ex e xs b cap :=
  ⟨h.hcap, h.blk, by simp [Gh.setOw], ⟨h.el.1, fun i j hi hj => let ⟨v, h1, h2⟩ := h.el.2 i j hi hj; ⟨v, h1, Rel.mono (g := g) (g' := g.setOw b (.plc q)) (w := w) (w' := w) List.prefix_rfl (fun _ _ h => h) (fun _ _ _ => rfl) h2⟩⟩, h.ex_, h.fr⟩

theorem setOw_rown {P : Program} {st : St} {g : Gh} {vs : Array Value} {w : World} (h : Inv P g st vs w) {b : Nat} {p q : Plc} (ho : g.ow b = some (.plc p)) :
    (∀ (id c : Nat), (g.setOw b (.plc q)).rho[id]? = some c → (g.setOw b (.plc q)).ow c = some (.box id)) ∧
    (∀ c o, (g.setOw b (.plc q)).ow c = some o → c < w.heap.size) ∧ (∀ c i id, (g.setOw b (.plc q)).ow c = some (.box id) → ¬ (g.setOw b (.plc q)).FP c i) := by
  refine ⟨fun id c hc => ?_, fun c o hc => ?_, fun c i id hc => ?_⟩
  · have := h.rown id c hc
    show (if c = b then _ else g.ow c) = _
    rw [if_neg (by rintro rfl; rw [ho] at this; cases this)]; exact this
  · have hc' : (if c = b then some (Own.plc q) else g.ow c) = some o := hc
    split at hc'
    · rename_i e; subst e; exact h.olt c _ ho
    · exact h.olt c o hc'
  · have hc' : (if c = b then some (Own.plc q) else g.ow c) = some (.box id) := hc
    split at hc'
    · cases hc'
    · exact h.fbox c i id hc'

/-- Ownership goes from a place to a tmp. -/
theorem Inv.moveTmp {P : Program} {st : St} {g : Gh} {vs : Array Value} {w : World} (h : Inv P g st vs w) {d : Nat} (hd : d < st.n) {p : Plc} (hpd : p ≠ .tmp d) {fl : Flag} {n : Bool} {xs : List (List PV)}
    (hc : contentAt st p = some (.sl fl n xs)) (ho : fl.isOwn = true) {v : Value} (hv : realAt g vs w p = some v) :
    ∃ g', Inv P g' ((st.setP p .dead).setP (.tmp d) (.sl fl n xs)) (vs.setIfInBounds d v) w ∧ Ext g g' w w := by
  obtain ⟨v', hv', hok⟩ := own_at h hc ho
  rw [hv] at hv'
  injection hv' with hv'
  subst hv'
  have h1 := h.forgetP hc
  have hd1 : d < (st.setP p .dead).n := by rw [tsLen_setP]; exact hd
  rcases hok with ⟨rfl, rfl⟩ | ⟨rfl, b, cap, rfl, hb⟩
  · exact ⟨g, h1.setPlain hd1 (slot_own ho (.inl ⟨rfl, rfl⟩)), Ext.refl _ _⟩
  · obtain ⟨k1, k2, k3⟩ := setOw_rown (q := .tmp d) h hb.ow
    have hC := chg_setOw (w := w) (q := .tmp d) hb.ow (A := fun o => o = .plc p ∨ o = .plc (.tmp d)) (.inl rfl)
    refine ⟨g.setOw b (.plc (.tmp d)), ?_, hC.ext⟩
    refine h1.setTmp hd1 hC rfl ?_ (fun id e => by rcases e with e | e <;> cases e) (slot_own ho (.inr ⟨rfl, b, cap, rfl, hb.rename⟩)) k1 k2 h.flt k3
    intro r y hr hy hyo e
    rcases e with e | e
    · injection e with e
      subst e
      rw [contentAt_set_self hc] at hy
      injection hy with hy
      subst hy
      cases hyo
    · injection e with e
      exact hr e

end Go.AM
