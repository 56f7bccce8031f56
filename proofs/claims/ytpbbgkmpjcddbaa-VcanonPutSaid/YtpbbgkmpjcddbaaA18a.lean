/- The abstract machine, 18a: stores made shorter; what needs no box needs none of anybody's. -/
import Derived.Test.YtpbbgkmpjcddbaaA18
set_option linter.all false
namespace Go.AM

/-! ### Stores made shorter -/
theorem noRefs_get {n : Nat} : ∀ {cs : List PV}, noRefs n cs = true → ∀ i (hi : i < cs.length), noRef n cs[i] = true := by
  intro cs
  induction cs with
  | nil => intro _ i hi; simp at hi
  | cons x xs ih =>
    intro h i hi
    simp only [noRefs, Bool.and_eq_true] at h
    cases i with
    | zero => exact h.1
    | succ i => exact ih h.2 i (by simpa using hi)
theorem noRefss_get {n : Nat} : ∀ {xs : List (List PV)}, noRefss n xs = true → ∀ i j (hi : i < xs.length) (hj : j < xs[i].length), noRef n xs[i][j] = true := by
  intro xs
  induction xs with
  | nil => intro _ i j hi; simp at hi
  | cons x xs ih =>
    intro h i j hi hj
    simp only [noRefss, Bool.and_eq_true] at h
    cases i with
    | zero => exact noRefs_get h.1 j hj
    | succ i => exact ih h.2 i j (by simpa using hi) hj

def Gh.cut (g : Gh) (n : Nat) : Gh := { g with rho := g.rho.take n }

theorem Rel.cut {g : Gh} {w : World} {n : Nat} {x : PV} {v : Value} (h : Rel g w x v) : noRef n x = true → Rel (g.cut n) w x v := by
  induction h with
  | lit v => intro _; exact .lit v
  | ptr id off b h =>
    intro hn
    simp only [noRef, decide_eq_true_eq] at hn
    refine .ptr id off b ?_
    show (g.rho.take n)[id]? = some b
    rw [List.getElem?_take_of_lt hn]; exact h
  | nilp => intro _; exact .nilp
  | slnil fl => intro _; exact .slnil fl
  | slz => intro _; exact .slz
  | slv xs b o cap s vals hcap hlen hfp hrel ih =>
    intro hn
    simp only [noRef] at hn
    exact .slv xs b o cap s vals hcap hlen hfp (fun i j hi hj => ih i j hi hj (noRefss_get hn i j hi hj))
  | agg cs vs hlen hrel ih => intro hn; simp only [noRef] at hn; exact .agg cs vs hlen (fun i hi hv => ih i hi hv (noRefs_get hn i hi))
  | tup cs vs hlen hrel ih => intro hn; simp only [noRef] at hn; exact .tup cs vs hlen (fun i hi hv => ih i hi hv (noRefs_get hn i hi))
  | ifc t x v h ih => intro hn; simp only [noRef] at hn; exact .ifc t x v (ih hn)
  | fn f fs cs vf vc h1 h2 _ _ i1 i2 =>
    intro hn
    simp only [noRef, Bool.and_eq_true] at hn
    exact .fn f fs cs vf vc h1 h2 (fun i hi hv => i1 i hi hv (noRefs_get hn.1 i hi)) (fun i hi hv => i2 i hi hv (noRefs_get hn.2 i hi))
  | map id b h =>
    intro hn
    simp only [noRef, decide_eq_true_eq] at hn
    refine .map id b ?_
    show (g.rho.take n)[id]? = some b
    rw [List.getElem?_take_of_lt hn]; exact h
  | elemv cs off b o vals hfp hrel ih => intro hn; simp only [noRef] at hn; exact .elemv cs off b o vals hfp (fun j hj => ih j hj (noRefs_get hn j hj))

theorem OwnOk.cut {P : Program} {g : Gh} {w : World} {p : Plc} {ex : Bool} {e : TypeId} {n : Bool} {xs : List (List PV)} {v : Value} {k : Nat} (h : OwnOk P g w p ex e n xs v) (hn : noRefss k xs = true) : OwnOk P (g.cut k) w p ex e n xs v := by
  rcases h with h | ⟨hn', b, cap, hv, hb⟩
  · exact .inl h
  · refine .inr ⟨hn', b, cap, hv, hb.hcap, hb.blk, hb.ow, ⟨hb.el.1, fun i j hi hj => ?_⟩, hb.ex_, hb.fr⟩
    obtain ⟨u, h1, h2⟩ := hb.el.2 i j hi hj
    exact ⟨u, h1, h2.cut (noRefss_get hn i j hi hj)⟩

theorem Slot.cut {P : Program} {st st' : St} {g : Gh} {vs vs' : Array Value} {w : World} {p : Plc} {x : PV} {v : Value} {k : Nat} (h : Slot P st g vs w p x v) (hn : noRef k x = true) : Slot P st' (g.cut k) vs' w p x v := by
  cases x with
  | sl fl n xs =>
    simp only [noRef] at hn
    cases fl with
    | view => exact Rel.cut h (by simpa only [noRef] using hn)
    | own e => exact OwnOk.cut h hn
    | excl e => exact OwnOk.cut h hn
  | alias _ => simp [noRef] at hn
  | elem _ _ _ => simp [noRef] at hn
  | dead => trivial
  | _ => exact Rel.cut h hn


def hidO : Option Own → Option Own
  | some (.box _) => some .frame
  | some (.plc (.cell _ _)) => some .frame
  | o => o
def Gh.hide (g : Gh) : Gh := { rho := [], FP := g.FP, ow := fun b => hidO (g.ow b) }
def unO (o oc : Option Own) : Option Own :=
  match o with
  | some (.box id) => some (.box id)
  | some (.plc (.cell id off)) => some (.plc (.cell id off))
  | _ => oc
def Gh.unhide (g gc : Gh) : Gh := { rho := g.rho, FP := gc.FP, ow := fun b => unO (g.ow b) (gc.ow b) }

theorem Inv.hide {P : Program} {args : List PV} {σ : List Bx} {g : Gh} {us : Array Value} {w : World} (h : Inv P g { ts := number 0 args, n := args.length, σ } us w)
    (hn : noRefs 0 args = true) : Inv P g.hide { ts := number 0 args, n := args.length, σ := [] } us w where
  size := h.size
  slot t x hx := by
    have ht : t < args.length := get_lt hx
    obtain ⟨v, hv, hs⟩ := h.slot t x hx
    have hxa : x = args[t] := by
      simp only [St.get] at hx
      rw [if_pos ht, lkp_number, if_pos (by omega), Nat.sub_zero, List.getD_eq_getElem?_getD, List.getElem?_eq_getElem ht] at hx
      exact (Option.some.inj hx).symm
    have hr : noRef 0 x = true := by rw [hxa]; exact noRefs_get hn t ht
    have hna : x.noAl = true := by cases x <;> first | rfl | simp [noRef] at hr
    have h1 : Slot P { ts := number 0 args, n := args.length, σ := [] } (g.cut 0) us w (.tmp t) x v := hs.cut hr
    refine ⟨v, hv, h1.gh hna rfl rfl fun b hb => ?_⟩
    show hidO (g.ow b) = _
    have hb : g.ow b = _ := hb
    rw [hb]; rfl
  rlen := rfl
  box id ty cs b h1 h2 := by cases h2
  bmap id es b h1 h2 := by cases h2
  rown id b hb := by cases hb
  olt b o hb := by
    have hb : hidO (g.ow b) = some o := hb
    cases e : g.ow b with
    | none => rw [e] at hb; cases hb
    | some o' => exact h.olt b o' e
  flt := h.flt
  fbox b i id hb := by
    have hb : hidO (g.ow b) = some (.box id) := hb
    cases e : g.ow b with
    | none => rw [e] at hb; cases hb
    | some o' =>
      rw [e] at hb
      cases o' with
      | box id' => cases hb
      | frame => cases hb
      | plc p => cases p <;> cases hb

theorem Inv.unhide {P : Program} {args : List PV} {σ : List Bx} {g gc : Gh} {us : Array Value} {w w' : World} (h : Inv P g { ts := number 0 args, n := args.length, σ } us w)
    {r : PV} {rv : Value} (hc : Inv P gc { ts := [(0, r)], n := 1, σ := [] } #[rv] w') (hr : r.noAl = true) (hE : Ext g.hide gc w w') :
    Inv P (g.unhide gc) { ts := [(0, r)], n := 1, σ } #[rv] w' ∧ Ext g (g.unhide gc) w w' := by
  have hrho : gc.rho = [] := List.eq_nil_of_length_eq_zero hc.rlen
  have hfr : ∀ {b o}, g.ow b = some o → ((∃ id, o = .box id) ∨ ∃ id off, o = .plc (.cell id off)) → g.hide.ow b = some .frame := by
    intro b o hb ho
    show hidO (g.ow b) = _
    rcases ho with ⟨id, rfl⟩ | ⟨id, off, rfl⟩ <;> (rw [hb]; rfl)
  have hExt : Ext g (g.unhide gc) w w' :=
    { rho := List.prefix_rfl, fp := hE.fp, fpc := hE.fpc
      keep := fun b hb ho => hE.keep b hb (by
        rcases ho with ho | ho
        · left; show hidO (g.ow b) = _; rw [ho]; rfl
        · right; show hidO (g.ow b) = _; rw [ho]; rfl)
      size := hE.size
      frame := fun b hb => by
        have := hE.frame b (by show hidO (g.ow b) = _; rw [hb]; rfl)
        show unO (g.ow b) (gc.ow b) = _
        rw [hb, this]; rfl
      noframe := fun b hb => by
        show unO (g.ow b) (gc.ow b) ≠ _
        cases e : g.ow b with
        | none =>
          have := hE.noframe b (by show hidO (g.ow b) ≠ _; rw [e]; simp [hidO])
          simpa [unO] using this
        | some o =>
          cases o with
          | box id => simp [unO]
          | frame => exact absurd e hb
          | plc p =>
            cases p with
            | cell id off => simp [unO]
            | tmp t =>
              have := hE.noframe b (by show hidO (g.ow b) ≠ _; rw [e]; simp [hidO])
              simpa [unO] using this
      none_ := fun b hb hn => by
        have := hE.none_ b hb (by show hidO (g.ow b) = _; rw [hn]; rfl)
        show unO (g.ow b) (gc.ow b) = _
        rw [hn, this]; rfl
      fnew := fun b i hb hf => hE.fnew b i (by show hidO (g.ow b) = _; rw [hb]; rfl) hf
      os := hE.os, tape := hE.tape, output := hE.output }
  have hkeep : ∀ {b o}, g.ow b = some o → ((∃ id, o = .box id) ∨ ∃ id off, o = .plc (.cell id off)) → w'.heap[b]? = w.heap[b]? := fun {b o} hb ho =>
    hE.keep b (h.olt b o hb) (.inr (hfr hb ho))
  refine ⟨?_, hExt⟩
  exact
  { size := rfl
    slot := fun t x hx => by
      have ht : t < 1 := get_lt hx
      have h0 : t = 0 := by omega
      subst h0
      have hxr : x = r := by simpa [St.get, lkp] using hx.symm
      subst hxr
      obtain ⟨v, hv, hs⟩ := hc.slot 0 x (by simp [St.get, lkp])
      refine ⟨v, hv, ?_⟩
      have hR : ∀ {y u}, Rel gc w' y u → Rel (g.unhide gc) w' y u := fun hh => Rel.mono (g := gc) (g' := g.unhide gc) (w := w') (w' := w') (by rw [hrho]; exact List.nil_prefix) (fun _ _ hh => hh) (fun _ _ _ => rfl) hh
      have hO : ∀ {ex e n xs}, OwnOk P gc w' (.tmp 0) ex e n xs v → OwnOk P (g.unhide gc) w' (.tmp 0) ex e n xs v := by
        rintro ex e n xs (hk | ⟨hn, b, cap, hval, hb⟩)
        · exact .inl hk
        · refine .inr ⟨hn, b, cap, hval, hb.hcap, hb.blk, ?_, ⟨hb.el.1, fun i j hi hj => let ⟨u, k1, k2⟩ := hb.el.2 i j hi hj; ⟨u, k1, hR k2⟩⟩, hb.ex_, hb.fr⟩
          show unO (g.ow b) (gc.ow b) = _
          rw [hb.ow]
          cases e : g.ow b with
          | none => rfl
          | some o =>
            have hno : ¬ ((∃ id, o = .box id) ∨ ∃ id off, o = .plc (.cell id off)) := fun ho => by
              have := hE.frame b (hfr e ho)
              rw [hb.ow] at this; cases this
            cases o with
            | box id => exact absurd (.inl ⟨id, rfl⟩) hno
            | frame => rfl
            | plc p =>
              cases p with
              | tmp t => rfl
              | cell id off => exact absurd (.inr ⟨id, off, rfl⟩) hno
      cases x with
      | sl fl n xs =>
        cases fl with
        | view => exact hR hs
        | own e => exact hO hs
        | excl e => exact hO hs
      | alias _ => simp [PV.noAl] at hr
      | elem _ _ _ => simp [PV.noAl] at hr
      | dead => trivial
      | _ => exact hR hs
    rlen := h.rlen
    box := fun id ty cs b h1 h2 => by
      obtain ⟨c, fz, k1, k2, k3, k4⟩ := h.box id ty cs b h1 h2
      have hb := h.rown id b h2
      refine ⟨c, fz, (hkeep hb (.inl ⟨id, rfl⟩)).trans k1, k2, k3, fun off x hx => ?_⟩
      obtain ⟨j1, v, j2, j3⟩ := k4 off x hx
      refine ⟨j1, v, j2, ?_⟩
      have hO : ∀ {ex e n xs}, OwnOk P g w (.cell id off) ex e n xs v → OwnOk P (g.unhide gc) w' (.cell id off) ex e n xs v := by
        rintro ex e n xs (hk | ⟨hn, b2, cap, hval, hb2⟩)
        · exact .inl hk
        · have hh := hkeep hb2.ow (.inr ⟨id, off, rfl⟩)
          have hf2 := hfr hb2.ow (.inr ⟨id, off, rfl⟩)
          obtain ⟨c2, fz2, l1, l2, l3⟩ := hb2.blk
          refine .inr ⟨hn, b2, cap, hval, hb2.hcap, ⟨c2, fz2, hh.trans l1, l2, l3⟩, ?_, hb2.el.mono hExt (cell_of_heap hh), fun he i hf => hb2.ex_ he i (hE.fnew b2 i hf2 hf), fun i hi hf => hb2.fr i hi (hE.fnew b2 i hf2 hf)⟩
          show unO (g.ow b2) (gc.ow b2) = _
          rw [hb2.ow]; rfl
      cases x with
      | sl fl n xs =>
        cases fl with
        | view => exact Rel.ext hExt j3
        | own e => exact hO j3
        | excl e => exact hO j3
      | alias _ => simp [PV.noAl] at j1
      | elem _ _ _ => simp [PV.noAl] at j1
      | dead => trivial
      | _ => exact Rel.ext hExt j3
    bmap := fun id es b h1 h2 => by
      obtain ⟨en, ck, k1, k2⟩ := h.bmap id es b h1 h2
      exact ⟨en, ck, (hkeep (h.rown id b h2) (.inl ⟨id, rfl⟩)).trans k1, k2⟩
    rown := fun id b hb => by
      show unO (g.ow b) (gc.ow b) = _
      rw [h.rown id b hb]; rfl
    olt := fun b o hb => by
      have hb : unO (g.ow b) (gc.ow b) = some o := hb
      unfold unO at hb
      split at hb
      · rename_i e; exact Nat.lt_of_lt_of_le (h.olt b _ e) hE.size
      · rename_i e; exact Nat.lt_of_lt_of_le (h.olt b _ e) hE.size
      · exact hc.olt b o hb
    flt := hc.flt
    fbox := fun b i id hb hf => by
      have hb : unO (g.ow b) (gc.ow b) = some (.box id) := hb
      unfold unO at hb
      split at hb
      · rename_i e
        exact h.fbox b i _ e (hE.fnew b i (hfr e (.inl ⟨_, rfl⟩)) hf)
      · cases hb
      · exact hc.fbox b i id hb hf }

/-- What a function does with no boxes about it does so whatever boxes there are. -/
theorem AbsCall.frame {P : Program} {f : FuncId} {args : List PV} {r : PV} (h : AbsCall P f args [] r []) (ha : noRefs 0 args = true) (hr : r.noAl = true) (σ : List Bx) : AbsCall P f args σ r σ := by
  intro g us w hi
  refine (h g.hide us w (hi.hide ha)).mono ?_
  rintro e w' ⟨rv, gc, rfl, h1, h2⟩
  obtain ⟨k1, k2⟩ := hi.unhide h1 hr h2
  exact ⟨rv, _, rfl, k1, k2⟩


end Go.AM
