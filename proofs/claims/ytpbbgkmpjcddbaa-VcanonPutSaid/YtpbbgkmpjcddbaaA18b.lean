/- The abstract machine, 18b: a part of the tmps alone, and the whole again. -/
import Derived.Test.YtpbbgkmpjcddbaaA18a
set_option linter.all false
namespace Go.AM

/-- Which owners a part doesn't see. -/
def hd (K : Nat → Bool) : Own → Bool
  | .plc (.tmp t) => !K t
  | _ => false
def pO (K : Nat → Bool) : Option Own → Option Own
  | some o => if hd K o then some .frame else some o
  | none => none
def jO (K : Nat → Bool) (o oc : Option Own) : Option Own :=
  match o with
  | some o => if hd K o then some o else oc
  | none => oc
def Gh.part (g : Gh) (K : Nat → Bool) : Gh := { rho := g.rho, FP := g.FP, ow := fun b => pO K (g.ow b) }
def Gh.join (g gc : Gh) (K : Nat → Bool) : Gh := { rho := gc.rho, FP := gc.FP, ow := fun b => jO K (g.ow b) (gc.ow b) }

/-- The name of a place that a value bears. -/
def PV.root : PV → Option Plc
  | .alias q => some q
  | .elem q _ _ => some q
  | _ => none
theorem root_noAl {x : PV} (h : x.root = none) : x.noAl = true := by cases x <;> first | rfl | cases h
theorem noAl_root {x : PV} (h : x.noAl = true) : x.root = none := by cases x <;> first | rfl | cases h

theorem pO_hid {K : Nat → Bool} {o : Own} (h : hd K o = true) : pO K (some o) = some .frame := by simp [pO, h]
theorem pO_see {K : Nat → Bool} {o : Own} (h : hd K o = false) : pO K (some o) = some o := by simp [pO, h]

theorem Rel.part {g : Gh} {w : World} {K : Nat → Bool} {x : PV} {v : Value} (h : Rel g w x v) : Rel (g.part K) w x v := h.gh rfl rfl

theorem OwnOk.part {P : Program} {g : Gh} {w : World} {p : Plc} {ex : Bool} {e : TypeId} {n : Bool} {xs : List (List PV)} {v : Value} {K : Nat → Bool} (h : OwnOk P g w p ex e n xs v)
    (hp : hd K (.plc p) = false) : OwnOk P (g.part K) w p ex e n xs v :=
  h.gh rfl rfl fun b hb => by
    show pO K (g.ow b) = _
    rw [hb]; exact pO_see hp

/-- A slot of a part: its name's place, if it bears one, is of the part and holds what it held. -/
theorem Slot.part {P : Program} {st st' : St} {g : Gh} {vs : Array Value} {w : World} {p : Plc} {x : PV} {v : Value} {K : Nat → Bool} (h : Slot P st g vs w p x v)
    (hp : x.isOwn = true → hd K (.plc p) = false) (hal : ∀ q, x.root = some q → contentAt st' q = contentAt st q) : Slot P st' (g.part K) vs w p x v := by
  have hr : ∀ q, realAt (g.part K) vs w q = realAt g vs w q := fun q => by cases q <;> rfl
  cases x with
  | sl fl n xs =>
    cases fl with
    | view => exact Rel.part h
    | own e => exact OwnOk.part h (hp rfl)
    | excl e => exact OwnOk.part h (hp rfl)
  | alias q =>
    simp only [Slot] at h ⊢
    rw [hal q rfl, hr]; exact h
  | elem q k off =>
    simp only [Slot] at h ⊢
    rw [hal q rfl, hr]; exact h
  | dead => trivial
  | _ => exact Rel.part h

theorem Inv.part {P : Program} {st : St} {g : Gh} {vs : Array Value} {w : World} (h : Inv P g st vs w) (K : Nat → Bool) {ts' : List (Nat × PV)}
    (hts : ∀ t, t < st.n → lkp ts' t = .dead ∨
      (lkp ts' t = lkp st.ts t ∧ ((lkp st.ts t).isOwn = true → K t = true) ∧ ∀ s, (lkp st.ts t).root = some (.tmp s) → lkp ts' s = lkp st.ts s) ∨
      ∃ v, vs[t]? = some v ∧ Rel g w (lkp ts' t) v ∧ (lkp ts' t).plain = true) : Inv P (g.part K) { ts := ts', n := st.n, σ := st.σ } vs w where
  size := h.size
  slot t x hx := by
    have ht : t < st.n := (get_lt hx :)
    have hxe : x = lkp ts' t := by
      simp only [St.get] at hx
      rw [if_pos ht] at hx
      exact (Option.some.inj hx).symm
    subst hxe
    rcases hts t ht with h1 | ⟨h1, h2, h3⟩ | ⟨v, h1, h2, h3⟩
    · rw [h1]
      exact ⟨vs[t]'(by have := h.size; omega), Array.getElem?_eq_getElem (by have := h.size; omega), trivial⟩
    · obtain ⟨v, hv, hs⟩ := h.slot t (lkp st.ts t) (by simp only [St.get]; rw [if_pos ht])
      rw [h1]
      refine ⟨v, hv, hs.part (fun ho => by simp [hd, h2 ho]) fun q hq => ?_⟩
      cases q with
      | tmp s =>
        have := h3 s hq
        simp only [contentAt, St.get]
        rw [this]
      | cell id off => rfl
    · exact ⟨v, h1, slot_of_rel h2.part h3⟩
  rlen := h.rlen
  box id ty cs b h1 h2 := by
    obtain ⟨c, fz, k1, k2, k3, k4⟩ := h.box id ty cs b h1 h2
    refine ⟨c, fz, k1, k2, k3, fun off x hx => ?_⟩
    obtain ⟨j1, v, j2, j3⟩ := k4 off x hx
    exact ⟨j1, v, j2, j3.part (fun _ => rfl) fun q hq => by rw [noAl_root j1] at hq; cases hq⟩
  bmap := h.bmap
  rown id b hb := by
    show pO K (g.ow b) = _
    rw [h.rown id b hb]; rfl
  olt b o hb := by
    have hb : pO K (g.ow b) = some o := hb
    cases e : g.ow b with
    | none => rw [e] at hb; cases hb
    | some o' => exact h.olt b o' e
  flt := h.flt
  fbox b i id hb := by
    have hb : pO K (g.ow b) = some (.box id) := hb
    refine h.fbox b i id ?_
    cases e : g.ow b with
    | none => rw [e] at hb; cases hb
    | some o' =>
      rw [e] at hb
      cases hh : hd K o' with
      | true => rw [pO_hid hh] at hb; cases hb
      | false => rw [pO_see hh] at hb; exact hb

theorem Inv.join {P : Program} {st : St} {g gc : Gh} {vs vs' : Array Value} {w w' : World} (h : Inv P g st vs w) {K : Nat → Bool} {tc tj : List (Nat × PV)} {σ' : List Bx}
    (hc : Inv P gc { ts := tc, n := st.n, σ := σ' } vs' w') (hE : Ext (g.part K) gc w w')
    (hj : ∀ t, t < st.n → lkp tj t = .dead ∨
      (lkp tj t = lkp tc t ∧ ∀ s, (lkp tc t).root = some (.tmp s) → lkp tj s = lkp tc s) ∨
      (lkp tj t = lkp st.ts t ∧ vs'[t]? = vs[t]? ∧ ((lkp st.ts t).isOwn = true → K t = false) ∧ ∀ q, (lkp st.ts t).root = some q →
        match q with
        | .tmp s => lkp tj s = lkp st.ts s ∧ vs'[s]? = vs[s]?
        | .cell _ _ => σ' = st.σ ∧ BoxKeep g w w')) :
    Inv P (g.join gc K) { ts := tj, n := st.n, σ := σ' } vs' w' ∧ Ext g (g.join gc K) w w' := by
  -- what was hidden
  have hfr : ∀ {b o}, g.ow b = some o → hd K o = true → (g.part K).ow b = some .frame := by
    intro b o hb ho
    show pO K (g.ow b) = _
    rw [hb]; exact pO_hid ho
  have hin : ∀ {b o}, gc.ow b = some o → o ≠ .frame → (g.join gc K).ow b = some o := by
    intro b o hb ho
    show jO K (g.ow b) (gc.ow b) = _
    cases e : g.ow b with
    | none => exact hb
    | some o' =>
      cases hh : hd K o' with
      | false => simp only [jO, hh, Bool.false_eq_true, if_false]; exact hb
      | true =>
        have := hE.frame b (hfr e hh)
        rw [hb] at this
        injection this with this
        exact absurd this ho
  have hExt : Ext g (g.join gc K) w w' :=
    { rho := hE.rho, fp := hE.fp, fpc := hE.fpc
      keep := fun b hb ho => hE.keep b hb (by
        rcases ho with ho | ho
        · left; show pO K (g.ow b) = _; rw [ho]; rfl
        · right; show pO K (g.ow b) = _; rw [ho]; rfl)
      size := hE.size
      frame := fun b hb => by
        have := hE.frame b (by show pO K (g.ow b) = _; rw [hb]; rfl)
        show jO K (g.ow b) (gc.ow b) = _
        rw [hb]; exact this
      noframe := fun b hb => by
        show jO K (g.ow b) (gc.ow b) ≠ _
        cases e : g.ow b with
        | none => exact hE.noframe b (by show pO K (g.ow b) ≠ _; rw [e]; simp [pO])
        | some o' =>
          cases hh : hd K o' with
          | true =>
            simp only [jO, hh, if_true]
            intro e'; injection e' with e'; subst e'; exact hb e
          | false =>
            simp only [jO, hh, Bool.false_eq_true, if_false]
            refine hE.noframe b ?_
            show pO K (g.ow b) ≠ _
            rw [e, pO_see hh]
            intro e'; injection e' with e'; subst e'; exact hb e
      none_ := fun b hb hn => by
        have := hE.none_ b hb (by show pO K (g.ow b) = _; rw [hn]; rfl)
        show jO K (g.ow b) (gc.ow b) = _
        rw [hn]; exact this
      fnew := fun b i hb hf => hE.fnew b i (by show pO K (g.ow b) = _; rw [hb]; rfl) hf
      os := hE.os, tape := hE.tape, output := hE.output }
  refine ⟨?_, hExt⟩
  exact
  { size := hc.size
    slot := fun t x hx => by
      have ht : t < st.n := (get_lt hx :)
      have hxe : x = lkp tj t := by
        simp only [St.get] at hx
        rw [if_pos ht] at hx
        exact (Option.some.inj hx).symm
      subst hxe
      have hsz : vs'.size = st.n := hc.size
      rcases hj t ht with h1 | ⟨h1, h2⟩ | ⟨h1, h2, h3, h4⟩
      · rw [h1]
        exact ⟨vs'[t]'(by omega), Array.getElem?_eq_getElem (by omega), trivial⟩
      · obtain ⟨v, hv, hs⟩ := hc.slot t (lkp tc t) (by simp only [St.get]; rw [if_pos ht])
        rw [h1]
        refine ⟨v, hv, ?_⟩
        have hcon : ∀ q, (lkp tc t).root = some q → contentAt { ts := tj, n := st.n, σ := σ' } q = contentAt { ts := tc, n := st.n, σ := σ' } q ∧ realAt (g.join gc K) vs' w' q = realAt gc vs' w' q := by
          intro q hq
          cases q with
          | tmp s =>
            refine ⟨?_, rfl⟩
            simp only [contentAt, St.get]
            rw [h2 s hq]
          | cell id off => exact ⟨rfl, rfl⟩
        generalize hy : lkp tc t = y at hs hcon
        cases y with
        | sl fl n xs =>
          cases fl with
          | view => exact Rel.gh hs rfl rfl
          | own e => exact OwnOk.gh hs rfl rfl fun b hb => hin hb (by simp)
          | excl e => exact OwnOk.gh hs rfl rfl fun b hb => hin hb (by simp)
        | alias q =>
          obtain ⟨k1, k2⟩ := hcon q rfl
          simp only [Slot] at hs ⊢
          rw [k1, k2]; exact hs
        | elem q k off =>
          obtain ⟨k1, k2⟩ := hcon q rfl
          simp only [Slot] at hs ⊢
          rw [k1, k2]; exact hs
        | dead => trivial
        | _ => exact Rel.gh hs rfl rfl
      · obtain ⟨v, hv, hs⟩ := h.slot t (lkp st.ts t) (by simp only [St.get]; rw [if_pos ht])
        rw [h1]
        refine ⟨v, h2.trans hv, ?_⟩
        have hown : ∀ {ex e n xs u}, K t = false → OwnOk P g w (.tmp t) ex e n xs u → OwnOk P (g.join gc K) w' (.tmp t) ex e n xs u := by
          rintro ex e n xs u hK (hh | ⟨hn, b, cap, hv', hb⟩)
          · exact .inl hh
          · have hhd : hd K (.plc (.tmp t)) = true := by simp [hd, hK]
            have hfb := hfr hb.ow hhd
            obtain ⟨c, fz, k1, k2, k3⟩ := hb.blk
            have hblt : b < w.heap.size := (Array.getElem?_eq_some_iff.1 k1).1
            have hh := hE.keep b hblt (.inr hfb)
            refine .inr ⟨hn, b, cap, hv', hb.hcap, ⟨c, fz, hh.trans k1, k2, k3⟩, ?_, ?_, fun he i hf => hb.ex_ he i (hE.fnew b i hfb hf), fun i hi hf => hb.fr i hi (hE.fnew b i hfb hf)⟩
            · show jO K (g.ow b) (gc.ow b) = _
              rw [hb.ow]; simp only [jO, hhd, if_true]
            · exact hb.el.mono hExt (cell_of_heap hh)
        have hcon : ∀ q fl n xs, (lkp st.ts t).root = some q → contentAt st q = some (.sl fl n xs) → contentAt { ts := tj, n := st.n, σ := σ' } q = some (.sl fl n xs) ∧ realAt (g.join gc K) vs' w' q = realAt g vs w q := by
          intro q fl n xs hq hcn
          have := h4 q hq
          cases q with
          | tmp s =>
            obtain ⟨k1, k2⟩ := this
            have hs' : s < st.n := get_lt hcn
            refine ⟨?_, k2⟩
            simp only [contentAt, St.get] at hcn ⊢
            rw [if_pos hs'] at hcn ⊢
            rw [k1]; exact hcn
          | cell id off =>
            obtain ⟨k1, k2⟩ := this
            subst k1
            refine ⟨hcn, ?_⟩
            simp only [contentAt] at hcn
            split at hcn
            · rename_i ty cs hσ
              have hid : id < g.rho.length := by rw [h.rlen]; exact (List.getElem?_eq_some_iff.1 hσ).1
              have hr : g.rho[id]? = some g.rho[id] := List.getElem?_eq_getElem hid
              have hr' : gc.rho[id]? = some g.rho[id] := prefix_get hE.rho hr
              show (match gc.rho[id]? with | some b => w'.cell? ⟨b, off, none⟩ | none => none) = (match g.rho[id]? with | some b => w.cell? ⟨b, off, none⟩ | none => none)
              rw [hr, hr']
              exact cell_of_heap (k2 id _ hr) off
            · cases hcn
        generalize hy : lkp st.ts t = y at hs hcon h3
        cases y with
        | sl fl n xs =>
          cases fl with
          | view => exact Rel.ext hExt hs
          | own e => exact hown (h3 rfl) hs
          | excl e => exact hown (h3 rfl) hs
        | alias q =>
          obtain ⟨⟨fl, n, xs, k1, k2⟩, k3⟩ := hs
          obtain ⟨j1, j2⟩ := hcon q fl n xs rfl k1
          exact ⟨⟨fl, n, xs, j1, k2⟩, j2.trans k3⟩
        | elem q k off =>
          obtain ⟨fl, xs, b, cap, k1, k2, k3, k4⟩ := hs
          obtain ⟨j1, j2⟩ := hcon q fl false xs rfl k1
          exact ⟨fl, xs, b, cap, j1, k2, j2.trans k3, k4⟩
        | dead => trivial
        | _ => exact Rel.ext hExt hs
    rlen := hc.rlen
    box := fun id ty cs b h1 h2 => by
      obtain ⟨c, fz, k1, k2, k3, k4⟩ := hc.box id ty cs b h1 h2
      refine ⟨c, fz, k1, k2, k3, fun off x hx => ?_⟩
      obtain ⟨j1, v, j2, j3⟩ := k4 off x hx
      exact ⟨j1, v, j2, j3.gh j1 rfl rfl fun b hb => hin hb (by simp)⟩
    bmap := hc.bmap
    rown := fun id b hb => hin (hc.rown id b hb) (by simp)
    olt := fun b o hb => by
      have hb : jO K (g.ow b) (gc.ow b) = some o := hb
      cases e : g.ow b with
      | none => rw [e] at hb; exact hc.olt b o hb
      | some o' =>
        cases hh : hd K o' with
        | true => exact Nat.lt_of_lt_of_le (h.olt b _ e) hE.size
        | false => rw [e] at hb; simp only [jO, hh, Bool.false_eq_true, if_false] at hb; exact hc.olt b o hb
    flt := hc.flt
    fbox := fun b i id hb => by
      have hb : jO K (g.ow b) (gc.ow b) = some (.box id) := hb
      refine hc.fbox b i id ?_
      cases e : g.ow b with
      | none => rw [e] at hb; exact hb
      | some o' =>
        cases hh : hd K o' with
        | true =>
          rw [e] at hb
          simp only [jO, hh, if_true] at hb
          injection hb with hb
          subst hb
          cases hh
        | false => rw [e] at hb; simp only [jO, hh, Bool.false_eq_true, if_false] at hb; exact hb }

end Go.AM
