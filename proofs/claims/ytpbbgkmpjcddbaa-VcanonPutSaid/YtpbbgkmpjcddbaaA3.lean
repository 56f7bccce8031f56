/- The abstract machine, 3: the laws of its moves. -/
import Derived.Test.YtpbbgkmpjcddbaaA2
set_option linter.all false
namespace Go.AM

theorem realAt_tmp_ne {g g' : Gh} {vs : Array Value} {w w' : World} {d t : Nat} {v : Value} (h : t ≠ d) : realAt g' (vs.setIfInBounds d v) w' (.tmp t) = realAt g vs w (.tmp t) := by
  simp only [realAt]
  rw [Array.getElem?_setIfInBounds_ne (by omega)]

theorem cellAt_setP_tmp {st : St} {d : Nat} {x : PV} : (st.setP (.tmp d) x).σ = st.σ := by
  unfold St.setP; split <;> rfl
theorem tsLen_setP {st : St} {p : Plc} {x : PV} : (st.setP p x).n = st.n := by
  unfold St.setP
  cases p <;> split <;> rfl
theorem get_setP_tmp {st : St} {d : Nat} {x : PV} (h : d < st.n) : (st.setP (.tmp d) x).get d = some x := by
  unfold St.setP
  split <;> simp [St.putP, St.kill, St.get, h, lkp_upd_self]

theorem realAt_cell_same {A : Own → Prop} {P : Program} {st : St} {g g' : Gh} {vs vs' : Array Value} {w w' : World} (h : Inv P g st vs w) (hC : Chg A g g' w w') (hr : g'.rho = g.rho)
    {id off : Nat} (hA : ¬ A (.box id)) : realAt g' vs' w' (.cell id off) = realAt g vs w (.cell id off) := by
  simp only [realAt, hr]
  cases hb : g.rho[id]? with
  | none => rfl
  | some b =>
    have ho := h.rown id b hb
    exact cell_of_heap (hC.heap b _ ho hA (h.olt b _ ho)) off

/-- A tmp is set; the world may have turned in what 'A' names, where nobody else has his own. -/
theorem Inv.setTmp {P : Program} {A : Own → Prop} {st : St} {g g' : Gh} {vs : Array Value} {w w' : World} (h : Inv P g st vs w) {d : Nat} {x : PV} {v : Value} (hd : d < st.n)
    (hC : Chg A g g' w w') (hr : g'.rho = g.rho)
    (hA : ∀ r y, r ≠ .tmp d → contentAt st r = some y → y.isOwn = true → ¬ A (.plc r)) (hAb : ∀ id, ¬ A (.box id))
    (hx : Slot P (st.setP (.tmp d) x) g' (vs.setIfInBounds d v) w' (.tmp d) x v)
    (hrown : ∀ (id b : Nat), g'.rho[id]? = some b → g'.ow b = some (.box id))
    (holt : ∀ b o, g'.ow b = some o → b < w'.heap.size)
    (hflt : ∀ b i, g'.FP b i → b < w'.heap.size)
    (hfbox : ∀ b i id, g'.ow b = some (.box id) → ¬ g'.FP b i) : Inv P g' (st.setP (.tmp d) x) (vs.setIfInBounds d v) w' := by
  have hsz := h.size
  refine h.step hC (by simp [tsLen_setP, hsz]) ?_ (by rw [cellAt_setP_tmp, hr]; exact h.rlen) ?_ ?_ hrown holt hflt hfbox
  · intro t y hy
    by_cases ht : t = d
    · subst ht
      rw [get_setP_tmp hd] at hy
      injection hy with hy
      subst hy
      exact .inr (.inr ⟨v, by rw [Array.getElem?_setIfInBounds_self_of_lt (by omega)], hx⟩)
    · rcases set_slot h hy (p := .tmp d) (by intro e; injection e with e; exact ht e.symm) with h1 | ⟨h1, h2⟩
      · exact .inl h1
      · refine .inr (.inl ⟨h1, Array.getElem?_setIfInBounds_ne (by omega), fun ho => hA (.tmp t) y (by intro e; injection e with e; exact ht e) h1 ho, fun q hq => ?_⟩)
        obtain ⟨hne, fl, n, xs, k1, k2, k3⟩ := h2 q hq
        refine ⟨k2.trans k1.symm, ?_⟩
        cases q with
        | tmp u => exact realAt_tmp_ne (by rintro rfl; exact hne rfl)
        | cell id off => exact realAt_cell_same h hC hr (hAb id)
  · intro id ty cs b h1 h2
    rw [cellAt_setP_tmp] at h1
    rw [hr] at h2
    exact .inl ⟨h1, h2, hAb id, fun off y hy ho => hA (.cell id off) y (by intro e; cases e) (by simp only [contentAt, h1]; exact hy) ho⟩
  · intro id es b h1 h2
    rw [cellAt_setP_tmp] at h1
    rw [hr] at h2
    exact .inl ⟨h1, h2, hAb id⟩

/-- Nothing turned but a tmp. -/
theorem Inv.setPlain {P : Program} {st : St} {g : Gh} {vs : Array Value} {w : World} (h : Inv P g st vs w) {d : Nat} {x : PV} {v : Value} (hd : d < st.n)
    (hx : Slot P (st.setP (.tmp d) x) g (vs.setIfInBounds d v) w (.tmp d) x v) : Inv P g (st.setP (.tmp d) x) (vs.setIfInBounds d v) w :=
  h.setTmp (A := fun _ => False) hd (Chg.refl _ g w) rfl (fun _ _ _ _ _ => not_false) (fun _ => not_false) hx h.rown h.olt h.flt h.fbox

/-- What a tree says alone, of no place. -/
def PV.plain : PV → Bool
  | .alias _ => false
  | .elem _ _ _ => false
  | .dead => false
  | .sl fl n _ => !fl.isOwn || n
  | _ => true

theorem slot_of_rel {P : Program} {st : St} {g : Gh} {vs : Array Value} {w : World} {p : Plc} {x : PV} {v : Value} (h : Rel g w x v) (hp : x.plain = true) : Slot P st g vs w p x v := by
  cases x with
  | sl fl n xs =>
    cases fl with
    | view => exact h
    | own e =>
      have hn : n = true := by simpa [PV.plain, Flag.isOwn] using hp
      subst hn
      cases h with
      | slnil => exact .inl ⟨rfl, rfl⟩
    | excl e =>
      have hn : n = true := by simpa [PV.plain, Flag.isOwn] using hp
      subst hn
      cases h with
      | slnil => exact .inl ⟨rfl, rfl⟩
  | alias _ => simp [PV.plain] at hp
  | elem _ _ _ => simp [PV.plain] at hp
  | dead => trivial
  | _ => exact h

theorem Inv.setRel {P : Program} {st : St} {g : Gh} {vs : Array Value} {w : World} (h : Inv P g st vs w) {d : Nat} {x : PV} {v : Value} (hd : d < st.n)
    (hp : x.plain = true) (hx : Rel g w x v) : Inv P g (st.setP (.tmp d) x) (vs.setIfInBounds d v) w :=
  h.setPlain hd (slot_of_rel hx hp)

theorem Inv.setAlias {P : Program} {st : St} {g : Gh} {vs : Array Value} {w : World} (h : Inv P g st vs w) {d : Nat} {q : Plc} {v : Value} (hd : d < st.n)
    (hq : q ≠ .tmp d) {fl : Flag} {n : Bool} {xs : List (List PV)} (hc : contentAt st q = some (.sl fl n xs)) (ho : fl.isOwn = true) (hv : realAt g vs w q = some v) :
    Inv P g (st.setP (.tmp d) (.alias q)) (vs.setIfInBounds d v) w := by
  refine h.setPlain hd ⟨⟨fl, n, xs, contentAt_set_ne hq hc rfl, ho⟩, ?_⟩
  rw [← hv]
  cases q with
  | tmp u => exact realAt_tmp_ne (by rintro rfl; exact hq rfl)
  | cell id off => rfl

theorem Inv.setElem {P : Program} {st : St} {g : Gh} {vs : Array Value} {w : World} (h : Inv P g st vs w) {d : Nat} {q : Plc} {v : Value} {k off : Nat} (hd : d < st.n)
    (hq : q ≠ .tmp d) {p : Plc} (hs : Slot P st g vs w p (.elem q k off) v) :
    Inv P g (st.setP (.tmp d) (.elem q k off)) (vs.setIfInBounds d v) w := by
  obtain ⟨fl, xs, b, cap, h1, h2, h3, h4⟩ := hs
  refine h.setPlain hd ⟨fl, xs, b, cap, contentAt_set_ne hq h1 rfl, h2, ?_, h4⟩
  rw [← h3]
  cases q with
  | tmp u => exact realAt_tmp_ne (by rintro rfl; exact hq rfl)
  | cell id off => rfl

theorem Inv.setDead {P : Program} {st : St} {g : Gh} {vs : Array Value} {w : World} (h : Inv P g st vs w) {d : Nat} {v : Value} (hd : d < st.n) :
    Inv P g (st.setP (.tmp d) .dead) (vs.setIfInBounds d v) w := h.setPlain hd trivial

/-- A tmp is forgotten: the value stays. -/
theorem Inv.forget {P : Program} {st : St} {g : Gh} {vs : Array Value} {w : World} (h : Inv P g st vs w) {d : Nat} (hd : d < st.n) :
    Inv P g (st.setP (.tmp d) .dead) vs w := by
  have := h.setDead (v := vs[d]'(by have := h.size; omega)) hd
  rwa [show vs.setIfInBounds d (vs[d]'(by have := h.size; omega)) = vs by simp [Array.setIfInBounds]] at this

end Go.AM
