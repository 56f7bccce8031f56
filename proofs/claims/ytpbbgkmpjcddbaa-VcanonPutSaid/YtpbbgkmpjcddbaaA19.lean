/- The abstract machine, 19: functions, and calls so deep. -/
import Derived.Test.YtpbbgkmpjcddbaaA18d
set_option linter.all false
namespace Go.AM

theorem Inv.trunc {P : Program} {g : Gh} {r : PV} {rv : Value} {σ : List Bx} {w : World} {n : Nat} (h : Inv P g { ts := [(0, r)], n := 1, σ } #[rv] w) :
    ∃ g', Inv P g' { ts := [(0, r)], n := 1, σ := trunc n r σ } #[rv] w ∧ ∀ g0, g0.rho.length = n → Ext g0 g w w → Ext g0 g' w w := by
  unfold AM.trunc
  split
  · rename_i hc
    simp only [Bool.and_eq_true] at hc
    obtain ⟨h1, h2⟩ := hc
    have hσ : ∀ (id : Nat) (bx : Bx), (σ.take n)[id]? = some bx → σ[id]? = some bx ∧ noRefB n bx = true := by
      intro id bx hx
      have hm := List.all_eq_true.1 h2 bx (List.mem_of_getElem? hx)
      refine ⟨?_, hm⟩
      rw [List.getElem?_take] at hx
      split at hx
      · exact hx
      · cases hx
    have hρ : ∀ (id b : Nat), (g.cut n).rho[id]? = some b → g.rho[id]? = some b := by
      intro id b hb
      have hb : (g.rho.take n)[id]? = some b := hb
      rw [List.getElem?_take] at hb
      split at hb
      · exact hb
      · cases hb
    refine ⟨g.cut n, ⟨h.size, ?_, ?_, ?_, ?_, ?_, h.olt, h.flt, h.fbox⟩, ?_⟩
    · intro t x hx
      have hx' : St.get { ts := [(0, r)], n := 1, σ } t = some x := hx
      have ht : t < 1 := get_lt hx
      have h0 : t = 0 := by omega
      subst h0
      have hr : x = r := by
        simp only [St.get, lkp, Nat.beq_refl] at hx'
        simpa using hx'.symm
      subst hr
      obtain ⟨v, hv, hs⟩ := h.slot 0 x hx'
      exact ⟨v, hv, hs.cut h1⟩
    · show (g.rho.take n).length = (σ.take n).length
      have : g.rho.length = σ.length := h.rlen
      simp [this]
    · intro id ty cs b hx hb
      obtain ⟨k1, k2⟩ := hσ id _ hx
      obtain ⟨c, fz, j1, j2, j3, j4⟩ := h.box id ty cs b k1 (hρ id b hb)
      refine ⟨c, fz, j1, j2, j3, fun off x hox => ?_⟩
      obtain ⟨l1, v, l2, l3⟩ := j4 off x hox
      simp only [noRefB] at k2
      obtain ⟨m1, m2⟩ := List.getElem?_eq_some_iff.1 hox
      exact ⟨l1, v, l2, l3.cut (by have := noRefs_get k2 off m1; rwa [m2] at this)⟩
    · intro id es b hx hb
      obtain ⟨k1, k2⟩ := hσ id _ hx
      exact h.bmap id es b k1 (hρ id b hb)
    · intro id b hb; exact h.rown id b (hρ id b hb)
    · intro g0 hlen hE
      refine ⟨?_, hE.fp, hE.fpc, hE.keep, hE.size, hE.frame, hE.noframe, hE.none_, hE.fnew, hE.os, hE.tape, hE.output⟩
      show g0.rho <+: g.rho.take n
      obtain ⟨t, ht⟩ := hE.rho
      rw [← ht, ← hlen]
      simp
  · exact ⟨g, h, fun _ _ hE => hE⟩

/-! ### What is left behind a body -/
def isTmp : Own → Prop
  | .plc (.tmp _) => True
  | _ => False

theorem Inv.only {P : Program} {st : St} {g g' : Gh} {vs : Array Value} {w : World} (h : Inv P g st vs w) (hC : Chg isTmp g g' w w) (hr : g'.rho = g.rho) {r : PV} {rv : Value} (hs : Slot P { ts := [(0, r)], n := 1, σ := st.σ } g' #[rv] w (.tmp 0) r rv)
    (hrown : ∀ (id b : Nat), g'.rho[id]? = some b → g'.ow b = some (.box id))
    (holt : ∀ b o, g'.ow b = some o → b < w.heap.size)
    (hflt : ∀ b i, g'.FP b i → b < w.heap.size)
    (hfbox : ∀ b i id, g'.ow b = some (.box id) → ¬ g'.FP b i) : Inv P g' { ts := [(0, r)], n := 1, σ := st.σ } #[rv] w := by
  refine h.step hC rfl ?_ (by rw [hr]; exact h.rlen) ?_ ?_ hrown holt hflt hfbox
  · intro t x hx
    have ht : t < 1 := get_lt hx
    have h0 : t = 0 := by omega
    subst h0
    simp only [St.get, lkp, Nat.beq_refl] at hx
    have hxr : x = r := by simpa using hx.symm
    subst hxr
    exact .inr (.inr ⟨rv, by simp, hs⟩)
  · intro id ty cs b h1 h2
    exact .inl ⟨h1, by rw [← hr]; exact h2, fun hh => hh, fun _ _ _ _ hh => hh⟩
  · intro id es b h1 h2
    exact .inl ⟨h1, by rw [← hr]; exact h2, fun hh => hh⟩

theorem Inv.result {P : Program} {st : St} {g : Gh} {vs : Array Value} {w : World} (h : Inv P g st vs w) {r : PV} {rv : Value} (hr : Rel g w r rv) : Inv P g { ts := [(0, r)], n := 1, σ := st.σ } #[rv] w :=
  h.only (Chg.refl _ g w) rfl (slot_of_rel hr hr.plain) h.rown h.olt h.flt h.fbox

theorem Inv.resultOwn {P : Program} {st : St} {g : Gh} {vs : Array Value} {w : World} (h : Inv P g st vs w) {t : Nat} {fl : Flag} {n : Bool} {xs : List (List PV)} (hx : st.get t = some (.sl fl n xs)) (ho : fl.isOwn = true) :
    ∃ g' rv, vs[t]? = some rv ∧ Inv P g' { ts := [(0, .sl fl n xs)], n := 1, σ := st.σ } #[rv] w ∧ Ext g g' w w := by
  obtain ⟨v, hv, hs⟩ := h.slot t _ hx
  have key : ∀ {ex : Bool} {e : TypeId}, OwnOk P g w (.tmp t) ex e n xs v → (∀ g', OwnOk P g' w (.tmp 0) ex e n xs v → Slot P { ts := [(0, PV.sl fl n xs)], n := 1, σ := st.σ } g' #[v] w (.tmp 0) (.sl fl n xs) v) →
      ∃ g' rv, vs[t]? = some rv ∧ Inv P g' { ts := [(0, .sl fl n xs)], n := 1, σ := st.σ } #[rv] w ∧ Ext g g' w w := by
    intro ex e hok hslot
    rcases hok with hk | ⟨hn, b, cap, hval, hb⟩
    · exact ⟨g, v, hv, h.only (Chg.refl _ g w) rfl (hslot g (.inl hk)) h.rown h.olt h.flt h.fbox, Ext.refl _ _⟩
    · have hC := chg_setOw (w := w) (q := .tmp 0) hb.ow (A := isTmp) trivial
      obtain ⟨k1, k2, k3⟩ := setOw_rown (q := .tmp 0) h hb.ow
      exact ⟨_, v, hv, h.only hC rfl (hslot _ (.inr ⟨hn, b, cap, hval, hb.rename⟩)) k1 k2 h.flt k3, hC.ext⟩
  cases fl with
  | view => cases ho
  | own e => exact key hs fun g' hk => hk
  | excl e => exact key hs fun g' hk => hk

/-! ### Results -/
def resultAt (tmps : Array Value) : ResultVar → Sem Value
  | .tmp t => pure (tmps.getD t undef)
  | .cell a t => do loadVar t (← asAddr (tmps.getD a undef))

theorem retVar_sound {P : Program} {st st1 : St} {g : Gh} {vs : Array Value} {w : World} (h : Inv P g st vs w) {r : ResultVar} {x : PV} (he : retVar P st r = some (x, st1)) :
    ∃ g' v, (resultAt vs r).run P w = .ok v w ∧ Inv P g' st1 vs w ∧ Ext g g' w w ∧ Rel g' w x v ∧ st1.σ.length = st.σ.length := by
  have hlen : ∀ {g1 : Gh}, Inv P g1 st1 vs w → g1.rho = g.rho → st1.σ.length = st.σ.length := fun i1 i2 => by rw [← i1.rlen, ← h.rlen, i2]
  unfold retVar at he
  split at he
  · rename_i t
    obtain ⟨g', i1, i2, i3, i4, i5⟩ := use_sound h he
    refine ⟨g', _, ?_, i1, i2, i3, hlen i1 i4⟩
    simp only [resultAt, Sem.run_pure, evalV]
  · rename_i a t
    split at he
    · rename_i id off hg
      obtain ⟨p, hp, hs⟩ := h.slot a _ hg
      have hs : Rel g w _ _ := hs
      cases hs with
      | ptr _ _ b hb =>
        have hasA : (asAddr (vs.getD a undef)).run P w = .ok ⟨b, off, none⟩ w := by
          have : vs.getD a undef = .pointer (some ⟨b, off, none⟩) := by
            simp only [Array.getD_eq_getD_getElem?, hp, Option.getD_some]
          rw [this]; rfl
        split at he
        · rename_i n ha hn
          split at he
          · rename_i cs st2 ht
            injection he with he; injection he with e1 e2; subst e1; subst e2
            obtain ⟨g1, us, i1, i2, i3, i4, i5, i6, i7⟩ := takeC_sound h ht
            have hc : ∀ j (hj : j < us.length), w.cell? ⟨b, off + j, none⟩ = some us[j] := by
              intro j hj
              have := i7 j hj
              simpa only [realAt, hb] using this
            refine ⟨g1, .agg us.toArray, ?_, i1, i2, RelL.agg i3, hlen i1 i4⟩
            subst i6
            simp only [resultAt, loadVar, Sem.run_bind, hasA, run_agg ha, Result.andThen_ok, if_true, run_size hn, run_loadCells_at hc, Sem.run_pure]
          · cases he
        · rename_i n ha hn
          obtain ⟨g1, v, i1, i2, i3, i4, i5, i6⟩ := useP_sound h he
          simp only [realAt, hb] at i3
          refine ⟨g1, v, ?_, i1, i2, i4, hlen i1 i5⟩
          simp only [resultAt, loadVar, Sem.run_bind, hasA, run_agg ha, Result.andThen_ok, Bool.false_eq_true, if_false, run_load_some i3]
        · cases he
    · cases he

theorem retVars_sound {P : Program} {vs : Array Value} {w : World} : ∀ {rs : List ResultVar} {st st1 : St} {g : Gh} {xs : List PV}, Inv P g st vs w → retVars P rs st = some (xs, st1) →
    ∃ g' us, (rs.mapM (resultAt vs)).run P w = .ok us w ∧ Inv P g' st1 vs w ∧ Ext g g' w w ∧ RelL g' w xs us ∧ us.length = rs.length ∧ st1.σ.length = st.σ.length := by
  intro rs
  induction rs with
  | nil =>
    intro st st1 g xs h he
    injection he with he; injection he with e1 e2; subst e1; subst e2
    exact ⟨g, [], by simp [Sem.run_pure], h, Ext.refl _ _, ⟨rfl, fun i hi => by simp at hi⟩, rfl, rfl⟩
  | cons r rs ih =>
    intro st st1 g xs h he
    simp only [retVars] at he
    split at he
    · rename_i x st2 hx
      split at he
      · rename_i ys st3 hy
        injection he with he; injection he with e1 e2; subst e1; subst e2
        obtain ⟨g1, v, i1, i2, i3, i4, i5⟩ := retVar_sound h hx
        obtain ⟨g2, us, j1, j2, j3, j4, j5, j6⟩ := ih i2 hy
        refine ⟨g2, v :: us, ?_, j2, i3.trans j3, ⟨by simp [j4.1], ?_⟩, by simp [j5], j6.trans i5⟩
        · simp only [List.mapM_cons, Sem.run_bind, i1, Result.andThen_ok, j1, Sem.run_pure]
        · intro i hi hv
          cases i with
          | zero => exact i4.ext j3
          | succ i => exact j4.2 i (by simpa using hi) (by simpa using hv)
      · cases he
    · cases he

theorem results_eq (fn : Func) (vs : Array Value) : results fn vs = (do
    let us ← fn.results.mapM (resultAt vs)
    pure (if h : us.size = 1 then us[0] else .tuple us)) := by
  unfold results
  congr 1

theorem run_results {P : Program} {fn : Func} {vs : Array Value} {w : World} {us : List Value} (h : (fn.results.toList.mapM (resultAt vs)).run P w = .ok us w) :
    (results fn vs).run P w = .ok (if h : us.toArray.size = 1 then us.toArray[0] else .tuple us.toArray) w := by
  rw [results_eq]
  have : (fn.results.mapM (resultAt vs)).run P w = .ok us.toArray w := by
    rw [Array.mapM_eq_mapM_toList]
    show ((List.toArray <$> fn.results.toList.mapM (resultAt vs)) : Sem _).run P w = _
    rw [map_eq_pure_bind]
    simp only [Sem.run_bind, h, Result.andThen_ok, Sem.run_pure]
  simp only [Sem.run_bind, this, Result.andThen_ok, Sem.run_pure]

theorem retAll_sound {P : Program} {fn : Func} {st st1 : St} {g : Gh} {vs : Array Value} {w : World} (h : Inv P g st vs w) {r : PV} (he : retAll P fn.results.toList st = some (r, st1)) :
    ∃ g' v, (results fn vs).run P w = .ok v w ∧ Inv P g' { ts := [(0, r)], n := 1, σ := st1.σ } #[v] w ∧ Ext g g' w w := by
  have hone : ∀ {rv : ResultVar} {v : Value}, fn.results.toList = [rv] → (resultAt vs rv).run P w = .ok v w → (results fn vs).run P w = .ok v w := by
    intro rv v h1 h2
    have := run_results (fn := fn) (vs := vs) (us := [v]) (P := P) (w := w) (by rw [h1]; simp only [List.mapM_cons, List.mapM_nil, Sem.run_bind, h2, Result.andThen_ok, Sem.run_pure])
    rw [this]; rfl
  have hvar : ∀ {rv : ResultVar}, fn.results.toList = [rv] → retVar P st rv = some (r, st1) → ∃ g' v, (results fn vs).run P w = .ok v w ∧ Inv P g' { ts := [(0, r)], n := 1, σ := st1.σ } #[v] w ∧ Ext g g' w w := by
    intro rv h1 h2
    obtain ⟨g1, v, i1, i2, i3, i4, i5⟩ := retVar_sound h h2
    exact ⟨g1, v, hone h1 i1, i2.result i4, i3⟩
  unfold retAll at he
  split at he
  · rename_i t hrs
    split at he
    · rename_i fl n xs hg
      injection he with he; injection he with e1 e2; subst e1; subst e2
      by_cases ho : fl.isOwn = true
      · obtain ⟨g1, v, i1, i2, i3⟩ := h.resultOwn hg ho
        refine ⟨g1, v, hone hrs ?_, i2, i3⟩
        simp only [resultAt, Sem.run_pure, Array.getD_eq_getD_getElem?, i1, Option.getD_some]
      · obtain ⟨v, hv, hs⟩ := h.slot t _ hg
        refine ⟨g, v, hone hrs ?_, h.result (slot_rel hs (by simpa [PV.isOwn] using ho) rfl (by rintro ⟨⟩)), Ext.refl _ _⟩
        simp only [resultAt, Sem.run_pure, Array.getD_eq_getD_getElem?, hv, Option.getD_some]
    · exact hvar hrs he
  · rename_i rv hnot hrs
    exact hvar hrs he
  · rename_i rs hn1 hn2
    split at he
    · rename_i xs st2 hx
      injection he with he; injection he with e1 e2; subst e1; subst e2
      obtain ⟨g1, us, i1, i2, i3, i4, i5, i6⟩ := retVars_sound h hx
      have hne : ¬ us.toArray.size = 1 := by
        intro e
        have e : us.length = 1 := by simpa using e
        rw [i5] at e
        obtain ⟨rv, hrv⟩ := List.length_eq_one_iff.1 e
        exact hn2 rv hrv
      have hrun := run_results i1
      rw [dif_neg hne] at hrun
      exact ⟨g1, .tuple us.toArray, hrun, i2.result (.tup xs us.toArray (by simpa using i4.1) fun i hi hv => by simpa using i4.2 i hi (by simpa using hv)), i3⟩
    · cases he

/-! ### Functions -/
theorem evFn_sound {C : Ctx} (hW : WF C.P) (hC : SoundC C.P C.call) {hint : FuncId → Nat → Option Hint} {n : Nat} {f : FuncId} {args : List PV} {σ : List Bx} {r : PV} {σ' : List Bx}
    (he : evFn C hint n f args σ = some (r, σ')) : (∃ fn, C.P.funcs[f]? = some fn ∧ fn.body.isSome = true) ∧ AbsCall C.P f args σ r σ' := by
  unfold evFn at he
  split at he
  · rename_i fn hfn
    split at he
    · rename_i c hbody
      refine ⟨⟨fn, hfn, by rw [hbody]; rfl⟩, fun g us w h => ?_⟩
      have hsz : us.size = args.length := h.size
      have h1 := h.grow (fun t ht => by
        have ht : args.length ≤ t := ht
        show lkp (number 0 args) t = .dead
        rw [lkp_number, if_neg (by omega)]) (fn.ntmps - args.length)
      have fin : ∀ {x : Exit} {st : St}, (x = .ret ∨ x = .normal) → evCode { C with live := hint f, res := resOf fn } n c { ts := number 0 args, n := args.length + (fn.ntmps - args.length), σ } = some (x, st) →
          (match retAll C.P fn.results.toList st with | some (r, st1) => some (r, trunc σ.length r st1.σ) | none => none) = some (r, σ') →
          Calls C.P f us w fun e w' => ∃ rv gc, e = .returned rv ∧ Inv C.P gc { ts := [(0, r)], n := 1, σ := σ' } #[rv] w' ∧ Ext g gc w w' := by
        intro x st hx hcode hret
        have hwp := evCode_sound (C := { C with live := hint f, res := resOf fn }) hW hC n c (a := { tmps := us ++ Array.replicate (fn.ntmps - args.length) undef, defers := [] }) (w := w) h1 hcode
        refine calls_of_wp hfn hbody ?_
        rw [hsz]
        refine wp_mono hwp fun e a' w' hq => ?_
        obtain ⟨rfl, g', i1, i2, i3⟩ := hq
        split at hret
        · rename_i r' st1 hra
          injection hret with hret; injection hret with e1 e2; subst e1; subst e2
          obtain ⟨g2, v, j1, j2, j3⟩ := retAll_sound i1 hra
          obtain ⟨g3, k1, k2⟩ := j2.trunc (n := σ.length)
          have hgr : g.rho.length = σ.length := h.rlen
          have hE2 := i2.trans j3
          have hE3 : Ext g g3 w w' := by
            have hpre : g.rho <+: g3.rho := by
              -- the cut keeps what the caller had
              have := k2 { g2 with rho := g2.rho.take σ.length } (by
                show (g2.rho.take σ.length).length = _
                have h2 : g2.rho.length = st1.σ.length := j2.rlen
                have h3 : g.rho.length ≤ g2.rho.length := hE2.rho.length_le
                simp; omega) ⟨List.take_prefix _ _, fun _ _ h => h, fun _ _ _ => rfl, fun _ _ _ => rfl, Nat.le_refl _, fun _ h => h, fun _ h => h, fun _ _ h => h, fun _ _ _ h => h, rfl, rfl, rfl⟩
              obtain ⟨t, ht⟩ := hE2.rho
              have ht2 : g2.rho.take σ.length = g.rho := by rw [← ht, ← hgr]; simp
              have h5 := this.rho
              rw [show ({ g2 with rho := g2.rho.take σ.length } : Gh).rho = g.rho from ht2] at h5
              exact h5
            have k3 := k2 { g2 with rho := g2.rho.take σ.length } (by
                show (g2.rho.take σ.length).length = _
                have h3 : g.rho.length ≤ g2.rho.length := hE2.rho.length_le
                simp; omega) ⟨List.take_prefix _ _, fun _ _ h => h, fun _ _ _ => rfl, fun _ _ _ => rfl, Nat.le_refl _, fun _ h => h, fun _ h => h, fun _ _ h => h, fun _ _ _ h => h, rfl, rfl, rfl⟩
            exact ⟨hpre, fun b i hb => k3.fp b i (hE2.fp b i hb), hE2.fpc, hE2.keep, hE2.size, fun b hb => k3.frame b (hE2.frame b hb), fun b hb => k3.noframe b (hE2.noframe b hb), fun b hb hn => k3.none_ b (Nat.lt_of_lt_of_le hb hE2.size) (hE2.none_ b hb hn),
              fun b i hb hf => hE2.fnew b i hb (k3.fnew b i (hE2.frame b hb) hf), hE2.os, hE2.tape, hE2.output⟩
          have hend : a'.defers = [] := i3
          rcases hx with rfl | rfl
          · exact ⟨hend, v, j1, v, g3, rfl, k1, hE3⟩
          · exact ⟨hend, v, j1, v, g3, rfl, k1, hE3⟩
        · cases hret
      split at he
      · rename_i st hcode; exact fin (.inl rfl) hcode he
      · rename_i st hcode; exact fin (.inr rfl) hcode he
      · cases he
    · cases he
  · cases he

theorem ev_sound {P : Program} (hW : WF P) (mv : FuncId → Nat → Bool) (hint : FuncId → Nat → Option Hint) (n : Nat) : ∀ (k : Nat), SoundC P (ev P mv hint n k) := by
  intro k
  induction k with
  | zero => intro f args σ r σ' he; cases he
  | succ k ih =>
    intro f args σ r σ' he
    exact evFn_sound (C := { P, mv, res := fun _ => false, live := fun _ => none, call := ev P mv hint n k }) hW ih he

end Go.AM
