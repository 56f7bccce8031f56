/- The abstract machine, 17: a callee's world, and the caller's again. -/
import Derived.Test.YtpbbgkmpjcddbaaA16
set_option linter.all false
namespace Go.AM

def toC (N : Nat) : Option Own → Option Own
  | some (.plc (.tmp t)) => if N ≤ t then some (.plc (.tmp (t - N))) else some .frame
  | o => o
def Gh.callee (g : Gh) (N : Nat) : Gh := { rho := g.rho, FP := g.FP, ow := fun b => toC N (g.ow b) }
def shO (N : Nat) : Option Own → Option Own
  | some (.plc (.tmp t)) => some (.plc (.tmp (N + t)))
  | o => o
def bkO (N : Nat) (o oc : Option Own) : Option Own :=
  match o with
  | some (.plc (.tmp t)) => if t < N then some (.plc (.tmp t)) else shO N oc
  | _ => shO N oc
def Gh.back (g gc : Gh) (N : Nat) : Gh := { rho := gc.rho, FP := gc.FP, ow := fun b => bkO N (g.ow b) (gc.ow b) }

theorem lkp_number : ∀ (xs : List PV) (k t : Nat), lkp (number k xs) t = if k ≤ t ∧ t < k + xs.length then xs.getD (t - k) .dead else .dead := by
  intro xs
  induction xs with
  | nil => intro k t; rw [if_neg (by simp)]; rfl
  | cons x xs ih =>
    intro k t
    simp only [number, lkp, List.length_cons]
    by_cases e : k = t
    · subst e; simp [Nat.beq_refl]
    · simp only [beq_ne e, ih]
      by_cases h : k + 1 ≤ t ∧ t < k + 1 + xs.length
      · rw [if_pos h, if_pos (by omega), show t - k = (t - (k + 1)) + 1 by omega, List.getD_cons_succ]
      · rw [if_neg h, if_neg (by omega)]

theorem getArgs_length (ts : List (Nat × PV)) : ∀ (k t : Nat), (getArgs ts t k).length = k := by
  intro k
  induction k with
  | zero => intro t; rfl
  | succ k ih => intro t; simp [getArgs, ih]
theorem getArgs_get (ts : List (Nat × PV)) : ∀ (k t i : Nat) (h : i < (getArgs ts t k).length), (getArgs ts t k)[i] = lkp ts (t + i) := by
  intro k
  induction k with
  | zero => intro t i h; simp [getArgs] at h
  | succ k ih =>
    intro t i h
    cases i with
    | zero => rfl
    | succ i =>
      simp only [getArgs, List.getElem_cons_succ]
      rw [ih]
      congr 1
      omega

theorem Rel.gh {g g' : Gh} {w : World} {x : PV} {v : Value} (h : Rel g w x v) (hr : g'.rho = g.rho) (hf : g'.FP = g.FP) : Rel g' w x v :=
  h.mono (by rw [hr]; exact List.prefix_rfl) (fun b i hb => by rw [hf]; exact hb) (fun _ _ _ => rfl)
theorem Elems.gh {g g' : Gh} {w : World} {b o s : Nat} {xs : List (List PV)} (h : Elems g w b o s xs) (hr : g'.rho = g.rho) (hf : g'.FP = g.FP) : Elems g' w b o s xs :=
  ⟨h.1, fun i j hi hj => let ⟨v, h1, h2⟩ := h.2 i j hi hj; ⟨v, h1, h2.gh hr hf⟩⟩
theorem OwnOk.gh {P : Program} {g g' : Gh} {w : World} {p p' : Plc} {ex : Bool} {e : TypeId} {n : Bool} {xs : List (List PV)} {v : Value} (h : OwnOk P g w p ex e n xs v) (hr : g'.rho = g.rho) (hf : g'.FP = g.FP)
    (ho : ∀ b, g.ow b = some (.plc p) → g'.ow b = some (.plc p')) : OwnOk P g' w p' ex e n xs v := by
  rcases h with h | ⟨hn, b, cap, hv, hb⟩
  · exact .inl h
  · exact .inr ⟨hn, b, cap, hv, hb.hcap, hb.blk, ho b hb.ow, hb.el.gh hr hf, fun he i => by rw [hf]; exact hb.ex_ he i, fun i hi => by rw [hf]; exact hb.fr i hi⟩
/-- A slot without a name of a place, under another owner's name. -/
theorem Slot.gh {P : Program} {st st' : St} {g g' : Gh} {vs vs' : Array Value} {w : World} {p p' : Plc} {x : PV} {v : Value} (h : Slot P st g vs w p x v) (hn : x.noAl = true) (hr : g'.rho = g.rho) (hf : g'.FP = g.FP)
    (ho : ∀ b, g.ow b = some (.plc p) → g'.ow b = some (.plc p')) : Slot P st' g' vs' w p' x v := by
  cases x with
  | sl fl n xs =>
    cases fl with
    | view => exact Rel.gh h hr hf
    | own e => exact OwnOk.gh h hr hf ho
    | excl e => exact OwnOk.gh h hr hf ho
  | alias _ => simp [PV.noAl] at hn
  | elem _ _ _ => simp [PV.noAl] at hn
  | dead => trivial
  | _ => exact Rel.gh h hr hf

/-- The state in which a callee begins. -/
theorem Inv.enter {P : Program} {st : St} {g : Gh} {vs : Array Value} {w : World} (h : Inv P g st vs w) {N k : Nat} (hn : st.n = N + k) (hal : (getArgs st.ts N k).all PV.noAl = true) {us : Array Value} (hus : us.size = k) (hu : ∀ (i : Nat) (hi : i < k), us[i]? = vs[N + i]?) :
    Inv P (g.callee N) { ts := number 0 (getArgs st.ts N k), n := k, σ := st.σ } us w where
  size := hus
  slot t x hx := by
    have ht := get_lt hx
    simp only [St.get] at hx
    have ht' : t < k := ht
    rw [if_pos ht'] at hx
    injection hx with hx
    rw [lkp_number, if_pos (by rw [getArgs_length]; omega), Nat.sub_zero, List.getD_eq_getElem?_getD, List.getElem?_eq_getElem (by rw [getArgs_length]; exact ht'), Option.getD_some, getArgs_get] at hx
    have hget : st.get (N + t) = some (lkp st.ts (N + t)) := by simp only [St.get]; rw [if_pos (by omega)]
    obtain ⟨v, hv, hs⟩ := h.slot _ _ hget
    have hno : (lkp st.ts (N + t)).noAl = true := by
      have := List.all_eq_true.1 hal _ (List.getElem_mem (show t < (getArgs st.ts N k).length by rw [getArgs_length]; exact ht'))
      rwa [getArgs_get] at this
    refine ⟨v, (hu t ht').trans hv, ?_⟩
    rw [← hx]
    refine hs.gh hno rfl rfl fun b hb => ?_
    show toC N (g.ow b) = _
    rw [hb]
    simp only [toC]
    rw [if_pos (by omega), Nat.add_sub_cancel_left]
  rlen := h.rlen
  box id ty cs b h1 h2 := by
    obtain ⟨c, fz, k1, k2, k3, k4⟩ := h.box id ty cs b h1 h2
    refine ⟨c, fz, k1, k2, k3, fun off x hx => ?_⟩
    obtain ⟨j1, v, j2, j3⟩ := k4 off x hx
    refine ⟨j1, v, j2, j3.gh j1 rfl rfl fun b hb => ?_⟩
    show toC N (g.ow b) = _
    rw [hb]; rfl
  bmap := h.bmap
  rown id b hb := by
    show toC N (g.ow b) = _
    rw [h.rown id b hb]; rfl
  olt b o hb := by
    have hb : toC N (g.ow b) = some o := hb
    cases e : g.ow b with
    | none => rw [e] at hb; cases hb
    | some o' => exact h.olt b o' e
  flt := h.flt
  fbox b i id hb := by
    have hb : toC N (g.ow b) = some (.box id) := hb
    refine h.fbox b i id ?_
    cases e : g.ow b with
    | none => rw [e] at hb; cases hb
    | some o' =>
      rw [e] at hb
      cases o' with
      | box id' => exact hb
      | frame => cases hb
      | plc p =>
        cases p with
        | tmp t => simp only [toC] at hb; split at hb <;> cases hb
        | cell id' off => cases hb

theorem lkp_cutC (N : Nat) (l : List (Nat × PV)) (t : Nat) : lkp (cutC N l) t = if t < N then fixC N (lkp l t) else .dead := by
  induction l with
  | nil => simp only [cutC, lkp]; split <;> rfl
  | cons p r ih =>
    obtain ⟨k, x⟩ := p
    simp only [cutC]
    by_cases hk : k < N
    · rw [if_pos hk]
      simp only [lkp]
      by_cases e : k = t
      · subst e; simp [Nat.beq_refl, hk]
      · simp only [beq_ne e]; exact ih
    · rw [if_neg hk, ih]
      by_cases e : k = t
      · subst e; rw [if_neg hk, if_neg hk]
      · simp only [lkp, beq_ne e]

theorem toC_frame {N : Nat} {o : Option Own} (h : o = some .frame) : toC N o = some .frame := by subst h; rfl

/-- Behind a call. -/
theorem Inv.leave {P : Program} {st : St} {g gc : Gh} {vs : Array Value} {w w' : World} (h : Inv P g st vs w) {N : Nat} (hN : N ≤ st.n) {r : PV} {rv : Value} {σ : List Bx} (hr : r.noAl = true)
    (hc : Inv P gc { ts := [(0, r)], n := 1, σ } #[rv] w') (hE : Ext (g.callee N) gc w w') {us : Array Value} (hus : us.size = N) (hu : ∀ t, t < N → us[t]? = vs[t]?) :
    Inv P (g.back gc N) { ts := (N, r) :: cutC N st.ts, n := N + 1, σ } (us.push rv) w' ∧ Ext g (g.back gc N) w w' := by
  -- owners of one's own tmps are frames to the callee
  have hfr : ∀ {b t}, g.ow b = some (.plc (.tmp t)) → t < N → (g.callee N).ow b = some .frame := by
    intro b t hb ht
    show toC N (g.ow b) = _
    rw [hb]; simp only [toC]; rw [if_neg (by omega)]
  have hnt : ∀ {b o}, gc.ow b = some o → o ≠ .frame → ∀ t, g.ow b = some (.plc (.tmp t)) → ¬ t < N := by
    intro b o hb ho t ht hlt
    have := hE.frame b (hfr ht hlt)
    rw [hb] at this
    injection this with this
    exact ho this
  have hbk : ∀ {b o}, gc.ow b = some o → o ≠ .frame → (g.back gc N).ow b = shO N (some o) := by
    intro b o hb ho
    show bkO N (g.ow b) (gc.ow b) = _
    rw [hb]
    unfold bkO
    split
    · rename_i t ht
      rw [if_neg (hnt hb ho t ht)]
    · rfl
  have hExt : Ext g (g.back gc N) w w' :=
    { rho := hE.rho, fp := hE.fp, fpc := hE.fpc
      keep := fun b hb ho => hE.keep b hb (by
        rcases ho with ho | ho
        · left; show toC N (g.ow b) = _; rw [ho]; rfl
        · right; exact toC_frame ho)
      size := hE.size
      frame := fun b hb => by
        have := hE.frame b (toC_frame hb)
        show bkO N (g.ow b) (gc.ow b) = _
        rw [hb, this]; rfl
      noframe := fun b hb => by
        show bkO N (g.ow b) (gc.ow b) ≠ _
        unfold bkO
        split
        · rename_i t ht
          split
          · simp
          · rename_i hlt
            have h1 : (g.callee N).ow b ≠ some .frame := by
              show toC N (g.ow b) ≠ _
              rw [ht]; simp only [toC]; rw [if_pos (by omega)]; simp
            have := hE.noframe b h1
            cases e : gc.ow b with
            | none => simp [shO]
            | some o =>
              rw [e] at this
              cases o with
              | box id => simp [shO]
              | frame => exact absurd rfl this
              | plc p => cases p <;> simp [shO]
        · rename_i hnot
          have h1 : (g.callee N).ow b ≠ some .frame := by
            show toC N (g.ow b) ≠ _
            cases e : g.ow b with
            | none => simp [toC]
            | some o =>
              cases o with
              | box id => simp [toC]
              | frame => exact absurd e hb
              | plc p =>
                cases p with
                | tmp t => exact absurd e (hnot t)
                | cell id off => simp [toC]
          have := hE.noframe b h1
          cases e : gc.ow b with
          | none => simp [shO]
          | some o =>
            rw [e] at this
            cases o with
            | box id => simp [shO]
            | frame => exact absurd rfl this
            | plc p => cases p <;> simp [shO]
      none_ := fun b hb hn => by
        have := hE.none_ b hb (by show toC N (g.ow b) = _; rw [hn]; rfl)
        show bkO N (g.ow b) (gc.ow b) = _
        rw [hn, this]; rfl
      fnew := fun b i hb hf => hE.fnew b i (toC_frame hb) hf
      os := hE.os, tape := hE.tape, output := hE.output }
  refine ⟨?_, hExt⟩
  have hg : ∀ t, t < N → St.get { ts := (N, r) :: cutC N st.ts, n := N + 1, σ } t = (st.get t).map (fixC N) := by
    intro t ht
    simp only [St.get, if_pos (show t < N + 1 by omega), if_pos (show t < st.n by omega), lkp, beq_ne (show N ≠ t by omega), lkp_cutC, if_pos ht, Option.map_some]
  exact
  { size := by simp [hus]
    slot := fun t x hx => by
      have ht : t < N + 1 := get_lt hx
      rcases Nat.lt_or_ge t N with hlt | hge
      · rw [hg t hlt] at hx
        simp only [Option.map_eq_some_iff] at hx
        obtain ⟨y, hy, rfl⟩ := hx
        obtain ⟨v, hv, hs⟩ := h.slot t y hy
        have hvv : (us.push rv)[t]? = some v := by
          rw [Array.getElem?_push, if_neg (by omega), hu t hlt, hv]
        refine ⟨v, hvv, ?_⟩
        have hown : ∀ {ex e n xs u}, OwnOk P g w (.tmp t) ex e n xs u → OwnOk P (g.back gc N) w' (.tmp t) ex e n xs u := by
          rintro ex e n xs u (hh | ⟨hn, b, cap, hv', hb⟩)
          · exact .inl hh
          · have hfb := hfr hb.ow hlt
            obtain ⟨c, fz, k1, k2, k3⟩ := hb.blk
            have hblt : b < w.heap.size := (Array.getElem?_eq_some_iff.1 k1).1
            have hh := hE.keep b hblt (.inr hfb)
            refine .inr ⟨hn, b, cap, hv', hb.hcap, ⟨c, fz, hh.trans k1, k2, k3⟩, ?_, ?_, fun he i hf => hb.ex_ he i (hE.fnew b i hfb hf), fun i hi hf => hb.fr i hi (hE.fnew b i hfb hf)⟩
            · show bkO N (g.ow b) (gc.ow b) = _
              rw [hb.ow]; simp only [bkO]; rw [if_pos hlt]
            · exact hb.el.mono hExt (cell_of_heap hh)
        have hal : ∀ s, s < N → ∀ fl n xs, contentAt st (.tmp s) = some (.sl fl n xs) → contentAt { ts := (N, r) :: cutC N st.ts, n := N + 1, σ } (.tmp s) = some (.sl fl n xs) ∧ realAt (g.back gc N) (us.push rv) w' (.tmp s) = realAt g vs w (.tmp s) := by
          intro s hs fl n xs hcn
          have hcn : st.get s = some (.sl fl n xs) := hcn
          constructor
          · show St.get _ s = _
            rw [hg s hs, hcn]; rfl
          · show (us.push rv)[s]? = vs[s]?
            rw [Array.getElem?_push, if_neg (by omega), hu s hs]
        cases y with
        | sl fl n xs =>
          cases fl with
          | view => exact Rel.ext hExt hs
          | own e => exact hown hs
          | excl e => exact hown hs
        | alias q =>
          cases q with
          | tmp s =>
            by_cases hsn : s < N
            · simp only [fixC, if_pos hsn]
              obtain ⟨⟨fl, n, xs, k1, k2⟩, k3⟩ := hs
              obtain ⟨j1, j2⟩ := hal s hsn fl n xs k1
              exact ⟨⟨fl, n, xs, j1, k2⟩, j2.trans k3⟩
            · simp only [fixC, if_neg hsn]; trivial
          | cell id off => trivial
        | elem q k off =>
          cases q with
          | tmp s =>
            by_cases hsn : s < N
            · simp only [fixC, if_pos hsn]
              obtain ⟨fl, xs, b, cap, k1, k2, k3, k4⟩ := hs
              obtain ⟨j1, j2⟩ := hal s hsn fl false xs k1
              exact ⟨fl, xs, b, cap, j1, k2, j2.trans k3, k4⟩
            · simp only [fixC, if_neg hsn]; trivial
          | cell id off' => trivial
        | dead => trivial
        | _ => exact Rel.ext hExt hs
      · have e : t = N := by omega
        subst e
        simp only [St.get, if_pos (show t < t + 1 by omega), lkp, Nat.beq_refl, Option.some.injEq] at hx
        subst hx
        obtain ⟨v, hv, hs⟩ := hc.slot 0 r (by simp [St.get, lkp])
        have : v = rv := by simpa using hv.symm
        subst this
        refine ⟨v, by rw [← hus]; simp, hs.gh hr rfl rfl fun b hb => ?_⟩
        rw [hbk hb (by simp)]; rfl
    rlen := hc.rlen
    box := fun id ty cs b h1 h2 => by
      obtain ⟨c, fz, k1, k2, k3, k4⟩ := hc.box id ty cs b h1 h2
      refine ⟨c, fz, k1, k2, k3, fun off x hx => ?_⟩
      obtain ⟨j1, v, j2, j3⟩ := k4 off x hx
      refine ⟨j1, v, j2, j3.gh j1 rfl rfl fun b hb => ?_⟩
      rw [hbk hb (by simp)]; rfl
    bmap := hc.bmap
    rown := fun id b hb => by rw [hbk (hc.rown id b hb) (by simp)]; rfl
    olt := fun b o hb => by
      have hb : bkO N (g.ow b) (gc.ow b) = some o := hb
      cases e : gc.ow b with
      | some o' => exact hc.olt b o' e
      | none =>
        rw [e] at hb
        unfold bkO at hb
        split at hb
        · rename_i t ht
          exact Nat.lt_of_lt_of_le (h.olt b _ ht) hE.size
        · cases hb
    flt := hc.flt
    fbox := fun b i id hb => by
      have hb : bkO N (g.ow b) (gc.ow b) = some (.box id) := hb
      refine hc.fbox b i id ?_
      have hsh : shO N (gc.ow b) = some (.box id) := by
        unfold bkO at hb
        split at hb
        · split at hb
          · cases hb
          · exact hb
        · exact hb
      cases e : gc.ow b with
      | none => rw [e] at hsh; cases hsh
      | some o' =>
        rw [e] at hsh
        cases o' with
        | box id' => exact hsh
        | frame => cases hsh
        | plc p => cases p <;> cases hsh }

end Go.AM
