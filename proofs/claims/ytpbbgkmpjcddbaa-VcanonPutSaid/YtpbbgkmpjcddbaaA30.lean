/- The abstract machine, 29: functions without boxes, whatever boxes there are. -/
import Derived.Test.YtpbbgkmpjcddbaaA28
import Derived.Test.YtpbbgkmpjcddbaaA22
set_option linter.all false
namespace Go.AM

theorem AbsCall.frameK {P : Program} {f : FuncId} {args : List PV} {r : PV} (h : AbsCall P f args [] r []) (ha : noRefs 0 args = true) (hr : r.noAl = true) (k : Prop) (σ : List Bx) : AbsK P k f args σ r σ := by
  intro g us w hi
  refine (h g.hide us w (hi.hide ha)).mono ?_
  rintro e w' ⟨rv, gc, rfl, h1, h2⟩
  obtain ⟨k1, k2⟩ := hi.unhide h1 hr h2
  refine ⟨rv, _, rfl, k1, k2, fun _ id b hb => ?_⟩
  have ho := hi.rown id b hb
  exact h2.keep b (hi.olt b _ ho) (.inr (by show hidO (g.ow b) = _; rw [ho]; rfl))

/-- A function that needs no box, known in any store. -/
def Knows (P : Program) (f : FuncId) (args : List PV) (r : PV) : Prop := (∃ fn, P.funcs[f]? = some fn ∧ fn.body.isSome = true) ∧ AbsCall P f args [] r []
theorem Knows.call {P : Program} {f : FuncId} {args : List PV} {r : PV} (h : Knows P f args r) (ha : noRefs 0 args = true) (hr : r.noAl = true) (kp : Bool) (σ : List Bx) : CallK P kp f args σ r σ := ⟨h.1, h.2.frameK ha hr _ σ⟩
theorem Knows.of {C : Ctx} (hW : WF C.P) {f : FuncId} {fn : Func} (hfn : C.P.funcs[f]? = some fn) {cs : List CI} {args : List PV} {r : PV} {ps : List Prop}
    (he : fnH C fn false cs args [] = some (r, [], ps)) (hp : allP ps) : Knows C.P f args r := fnH_sound hW hfn he hp
theorem callK_of {P : Program} {f : FuncId} {args : List PV} {σ σ' : List Bx} {r : PV} (h : (∃ fn, P.funcs[f]? = some fn ∧ fn.body.isSome = true) ∧ AbsCall P f args σ r σ') : CallK P false f args σ r σ' :=
  ⟨h.1, fun g us w hi => (h.2 g us w hi).mono fun e w' ⟨rv, gc, h1, h2, h3⟩ => ⟨rv, gc, h1, h2, h3, fun hf => by cases hf⟩⟩

/-! ### Typed values -/
/-- Whole numbers as elements. -/
def eI (k : IntKind) (l : List Int) : List (List PV) := l.map fun z => [.lit (.int k z)]
theorem eI_noRef (n : Nat) (k : IntKind) (l : List Int) : noRefss n (eI k l) = true := by
  induction l with
  | nil => rfl
  | cons z r ih => simp only [eI, List.map_cons, noRefss, noRefs, noRef, Bool.and_self, Bool.true_and]; exact ih

def nthI {α : Type} (l : List α) (i : Int) : Option α := if 0 ≤ i then l[i.toNat]? else none
theorem nth_map {α : Type} {l : List α} {i : Int} {x : α} (e : α → List PV) (h : nthI l i = some x) : nthPV (l.map e) i = some (e x) := by
  unfold nthI at h
  split at h
  · rename_i h0
    obtain ⟨h1, h2⟩ := List.getElem?_eq_some_iff.1 h
    unfold nthPV
    rw [if_pos ⟨h0, by rw [List.length_map]; omega⟩]
    simp [h1, h2]
  · cases h
end Go.AM

/- The abstract machine, 31: a call in a larger store: its boxes have other numbers there. -/
namespace Go.AM

mutual
def PV.ren (f : Nat → Nat) : PV → PV
  | .lit v => .lit v
  | .ptr id off => .ptr (f id) off
  | .nilp => .nilp
  | .sl fl n xs => .sl fl n (renss f xs)
  | .agg cs => .agg (rens f cs)
  | .tup cs => .tup (rens f cs)
  | .ifc t x => .ifc t (PV.ren f x)
  | .fn k a b => .fn k (rens f a) (rens f b)
  | .map id => .map (f id)
  | .alias p => .alias p
  | .elem p k off => .elem p k off
  | .elemv cs off => .elemv (rens f cs) off
  | .dead => .dead
def rens (f : Nat → Nat) : List PV → List PV
  | [] => []
  | x :: r => PV.ren f x :: rens f r
def renss (f : Nat → Nat) : List (List PV) → List (List PV)
  | [] => []
  | x :: r => rens f x :: renss f r
end
def renB (f : Nat → Nat) : Bx → Bx
  | .cells t cs => .cells t (rens f cs)
  | .mp es => .mp es

theorem rens_map (f : Nat → Nat) : ∀ cs : List PV, rens f cs = cs.map (PV.ren f)
  | [] => rfl
  | x :: r => by simp only [rens, List.map_cons, rens_map f r]
theorem renss_map (f : Nat → Nat) : ∀ xs : List (List PV), renss f xs = xs.map (rens f)
  | [] => rfl
  | x :: r => by simp only [renss, List.map_cons, renss_map f r]
theorem rens_len (f : Nat → Nat) (cs : List PV) : (rens f cs).length = cs.length := by rw [rens_map, List.length_map]
theorem renss_len (f : Nat → Nat) (xs : List (List PV)) : (renss f xs).length = xs.length := by rw [renss_map, List.length_map]
theorem rens_get (f : Nat → Nat) (cs : List PV) (i : Nat) (h : i < (rens f cs).length) : (rens f cs)[i] = PV.ren f (cs[i]'(rens_len f cs ▸ h)) := by
  simp only [rens_map, List.getElem_map]
theorem rens_get? (f : Nat → Nat) (cs : List PV) (i : Nat) : (rens f cs)[i]? = (cs[i]?).map (PV.ren f) := by
  rw [rens_map, List.getElem?_map]
theorem renss_get (f : Nat → Nat) (xs : List (List PV)) (i : Nat) (h : i < (renss f xs).length) : (renss f xs)[i] = rens f (xs[i]'(renss_len f xs ▸ h)) := by
  simp only [renss_map, List.getElem_map]

/-- Up: what the call says of a value, said with the caller's numbers. -/
theorem Rel.up {f : Nat → Nat} {g g' : Gh} {w w' : World} (hr : ∀ id b, g.rho[id]? = some b → g'.rho[f id]? = some b) (hf : ∀ b i, g.FP b i → g'.FP b i)
    (hc : ∀ b i, g.FP b i → w'.cell? ⟨b, i, none⟩ = w.cell? ⟨b, i, none⟩) {x : PV} {v : Value} (h : Rel g w x v) : Rel g' w' (x.ren f) v := by
  induction h with
  | lit v => exact .lit v
  | ptr id off b h => exact .ptr (f id) off b (hr _ _ h)
  | nilp => exact .nilp
  | slnil fl => exact .slnil fl
  | slz => exact .slz
  | slv xs b o cap s vals hcap hlen hfp hrel ih =>
    have hl := renss_len f xs
    have := Rel.slv (g := g') (w := w') (renss f xs) b o cap s vals (by omega) (fun i h => by rw [renss_get, rens_len]; exact hlen i (by omega))
      (fun i j hi hj => ⟨hf _ _ (hfp i j (by omega) hj).1, (hc _ _ (hfp i j (by omega) hj).1).trans (hfp i j (by omega) hj).2⟩)
      (fun i j hi hj => by
        have e := renss_get f xs i hi
        have hj' : j < (rens f (xs[i]'(by omega))).length := by rw [← e]; exact hj
        have e2 : ((renss f xs)[i])[j] = (rens f (xs[i]'(by omega)))[j] := by simp only [e]
        rw [e2, rens_get]
        exact ih i j (by omega) (by rw [rens_len] at hj'; exact hj'))
    rw [hl] at this
    exact this
  | agg cs vs hlen hrel ih => exact .agg _ vs (by rw [rens_len]; exact hlen) (fun i hi hv => by rw [rens_get]; exact ih i (by rw [rens_len] at hi; exact hi) hv)
  | tup cs vs hlen hrel ih => exact .tup _ vs (by rw [rens_len]; exact hlen) (fun i hi hv => by rw [rens_get]; exact ih i (by rw [rens_len] at hi; exact hi) hv)
  | ifc t x v h ih => exact .ifc t _ v ih
  | fn k fs cs vf vc h1 h2 _ _ i1 i2 =>
    exact .fn k _ _ vf vc (by rw [rens_len]; exact h1) (by rw [rens_len]; exact h2) (fun i hi hv => by rw [rens_get]; exact i1 i (by rw [rens_len] at hi; exact hi) hv) (fun i hi hv => by rw [rens_get]; exact i2 i (by rw [rens_len] at hi; exact hi) hv)
  | map id b h => exact .map (f id) b (hr _ _ h)
  | elemv cs off b o vals hfp hrel ih =>
    exact .elemv _ off b o vals (fun j hj => by rw [rens_len] at hj; exact ⟨hf _ _ (hfp j hj).1, (hc _ _ (hfp j hj).1).trans (hfp j hj).2⟩) (fun j hj => by rw [rens_get]; exact ih j (by rw [rens_len] at hj; exact hj))

/-- Down: what the caller knows of a value, said with the call's numbers. -/
theorem Rel.down {f : Nat → Nat} {n : Nat} {g g' : Gh} {w : World} (hr : ∀ id b, id < n → g.rho[f id]? = some b → g'.rho[id]? = some b) (hf : g'.FP = g.FP) {y : PV} {v : Value} (h : Rel g w y v) :
    ∀ x, y = PV.ren f x → noRef n x = true → Rel g' w x v := by
  induction h with
  | lit v => intro x e hn; cases x <;> simp only [PV.ren] at e <;> first | (injection e with e; subst e; exact .lit _) | cases e
  | ptr id off b h =>
    intro x e hn
    cases x <;> simp only [PV.ren] at e <;> first | (injection e with e1 e2; subst e1; subst e2; simp only [noRef, decide_eq_true_eq] at hn; exact .ptr _ _ b (hr _ _ hn h)) | cases e
  | nilp => intro x e hn; cases x <;> simp only [PV.ren] at e <;> first | exact .nilp | cases e
  | slnil fl =>
    intro x e hn
    cases x <;> simp only [PV.ren] at e <;> try cases e
    rename_i fl' n' xs
    injection e with e1 e2 e3
    subst e1; subst e2
    cases xs with
    | nil => exact .slnil _
    | cons a r => simp only [renss] at e3; cases e3
  | slz =>
    intro x e hn
    cases x <;> simp only [PV.ren] at e <;> try cases e
    rename_i fl' n' xs
    injection e with e1 e2 e3
    subst e1; subst e2
    cases xs with
    | nil => exact .slz
    | cons a r => simp only [renss] at e3; cases e3
  | slv ys b o cap s vals hcap hlen hfp hrel ih =>
    intro x e hn
    cases x <;> simp only [PV.ren] at e <;> try cases e
    rename_i xs
    simp only [noRef] at hn
    have hl := renss_len f xs
    rw [hl]
    refine .slv xs b o cap s vals (by omega) (fun i h => ?_) (fun i j hi hj => ?_) (fun i j hi hj => ?_)
    · have := hlen i (by omega)
      rw [renss_get, rens_len] at this
      exact this
    · rw [hf]; exact hfp i j (by omega) hj
    · have e1 := renss_get f xs i (by omega)
      have hj2 : j < ((renss f xs)[i]'(by omega)).length := by rw [e1, rens_len]; exact hj
      refine ih i j (by omega) hj2 _ ?_ (noRefss_get hn i j hi hj)
      have e2 : ((renss f xs)[i]'(by omega))[j] = (rens f xs[i])[j]'(by rw [rens_len]; exact hj) := by simp only [e1]
      rw [e2, rens_get]
  | agg ys vs hlen hrel ih =>
    intro x e hn
    cases x <;> simp only [PV.ren] at e <;> try cases e
    simp only [noRef] at hn
    refine .agg _ vs (by rw [rens_len] at hlen; exact hlen) (fun i hi hv => ih i (by rw [rens_len]; exact hi) hv _ (rens_get f _ i _) (noRefs_get hn i hi))
  | tup ys vs hlen hrel ih =>
    intro x e hn
    cases x <;> simp only [PV.ren] at e <;> try cases e
    simp only [noRef] at hn
    refine .tup _ vs (by rw [rens_len] at hlen; exact hlen) (fun i hi hv => ih i (by rw [rens_len]; exact hi) hv _ (rens_get f _ i _) (noRefs_get hn i hi))
  | ifc t y v h ih =>
    intro x e hn
    cases x <;> simp only [PV.ren] at e <;> try cases e
    simp only [noRef] at hn
    exact .ifc _ _ v (ih _ rfl hn)
  | fn k fs cs vf vc h1 h2 _ _ i1 i2 =>
    intro x e hn
    cases x <;> simp only [PV.ren] at e <;> try cases e
    simp only [noRef, Bool.and_eq_true] at hn
    exact .fn _ _ _ vf vc (by rw [rens_len] at h1; exact h1) (by rw [rens_len] at h2; exact h2) (fun i hi hv => i1 i (by rw [rens_len]; exact hi) hv _ (rens_get f _ i _) (noRefs_get hn.1 i hi))
      (fun i hi hv => i2 i (by rw [rens_len]; exact hi) hv _ (rens_get f _ i _) (noRefs_get hn.2 i hi))
  | map id b h =>
    intro x e hn
    cases x <;> simp only [PV.ren] at e <;> first | (injection e with e1; subst e1; simp only [noRef, decide_eq_true_eq] at hn; exact .map _ b (hr _ _ hn h)) | cases e
  | elemv ys off b o vals hfp hrel ih =>
    intro x e hn
    cases x <;> simp only [PV.ren] at e <;> try cases e
    simp only [noRef] at hn
    exact .elemv _ _ b o vals (fun j hj => by rw [hf]; exact hfp j (by rw [rens_len]; exact hj)) (fun j hj => ih j (by rw [rens_len]; exact hj) _ (rens_get f _ j _) (noRefs_get hn j hj))

/-! ### Part of a store, under other numbers -/
def hidden (inv : Nat → Option Nat) : Option Own → Bool
  | some (.box id) => (inv id).isNone
  | some (.plc (.cell id _)) => (inv id).isNone
  | _ => false
def downO (inv : Nat → Option Nat) : Option Own → Option Own
  | some (.box id) => some (.box ((inv id).getD 0))
  | some (.plc (.cell id off)) => some (.plc (.cell ((inv id).getD 0) off))
  | o => o
def renO (f : Nat → Nat) : Option Own → Option Own
  | some (.box id) => some (.box (f id))
  | some (.plc (.cell id off)) => some (.plc (.cell (f id) off))
  | o => o
def hidE (inv : Nat → Option Nat) (o : Option Own) : Option Own := if hidden inv o = true then some .frame else downO inv o
def unE (f : Nat → Nat) (inv : Nat → Option Nat) (o oc : Option Own) : Option Own := if hidden inv o = true then o else renO f oc
def Gh.pick (f : Nat → Nat) (inv : Nat → Option Nat) (n : Nat) (g : Gh) : Gh := { rho := (List.range n).map (fun j => g.rho.getD (f j) 0), FP := g.FP, ow := fun b => hidE inv (g.ow b) }
def Gh.unpick (f : Nat → Nat) (inv : Nat → Option Nat) (g gc : Gh) : Gh := { rho := g.rho, FP := gc.FP, ow := fun b => unE f inv (g.ow b) (gc.ow b) }

theorem renO_frame {f : Nat → Nat} {o : Option Own} (h : renO f o = some .frame) : o = some .frame := by
  cases o with
  | none => cases h
  | some o => cases o with
    | box => cases h
    | frame => rfl
    | plc p => cases p <;> cases h
theorem downO_frame {f : Nat → Option Nat} {o : Option Own} (h : downO f o = some .frame) : o = some .frame := by
  cases o with
  | none => cases h
  | some o => cases o with
    | box => cases h
    | frame => rfl
    | plc p => cases p <;> cases h
theorem hidE_frame {inv : Nat → Option Nat} {o : Option Own} (h : hidE inv o = some .frame) : hidden inv o = true ∨ o = some .frame := by
  unfold hidE at h
  split at h
  · exact .inl ‹_›
  · exact .inr (downO_frame h)
theorem pick_rho {f : Nat → Nat} {inv : Nat → Option Nat} {n : Nat} {g : Gh} {j b : Nat} (h : (g.pick f inv n).rho[j]? = some b) : j < n ∧ g.rho.getD (f j) 0 = b := by
  have h : ((List.range n).map (fun j => g.rho.getD (f j) 0))[j]? = some b := h
  rw [List.getElem?_map] at h
  by_cases hj : j < n
  · rw [List.getElem?_range hj] at h
    exact ⟨hj, Option.some.inj h⟩
  · rw [List.getElem?_eq_none (by simpa using hj)] at h
    cases h
theorem rho_pick {f : Nat → Nat} {inv : Nat → Option Nat} {n : Nat} {g : Gh} {j b : Nat} (hj : j < n) (h : g.rho[f j]? = some b) : (g.pick f inv n).rho[j]? = some b := by
  show ((List.range n).map (fun j => g.rho.getD (f j) 0))[j]? = some b
  rw [List.getElem?_map, List.getElem?_range hj]
  simp only [Option.map_some, List.getD_eq_getElem?_getD, h, Option.getD_some]

theorem OwnOk.down {P : Program} {f : Nat → Nat} {k : Nat} {g g' : Gh} {w : World} {p p' : Plc} {ex : Bool} {e : TypeId} {n : Bool} {xs : List (List PV)} {v : Value}
    (hr : ∀ id b, id < k → g.rho[f id]? = some b → g'.rho[id]? = some b) (hf : g'.FP = g.FP) (ho : ∀ b, g.ow b = some (.plc p) → g'.ow b = some (.plc p'))
    (h : OwnOk P g w p ex e n (renss f xs) v) (hn : noRefss k xs = true) : OwnOk P g' w p' ex e n xs v := by
  rcases h with ⟨h1, h2⟩ | ⟨hn', b, cap, hv, hb⟩
  · refine .inl ⟨?_, h2⟩
    cases xs with
    | nil => rfl
    | cons a r => cases h1
  · have hl := renss_len f xs
    refine .inr ⟨hn', b, cap, by rw [hv, hl], by have := hb.hcap; omega, hb.blk, ho b hb.ow, ⟨fun i hi => ?_, fun i j hi hj => ?_⟩, fun he i => by rw [hf]; exact hb.ex_ he i, fun i hi => by rw [hf]; exact hb.fr i (by rw [hl]; exact hi)⟩
    · have := hb.el.1 i (by omega)
      rw [renss_get, rens_len] at this
      exact this
    · have e1 := renss_get f xs i (by omega)
      obtain ⟨u, h1, h2⟩ := hb.el.2 i j (by omega) (by rw [e1, rens_len]; exact hj)
      refine ⟨u, h1, h2.down hr hf _ ?_ (noRefss_get hn i j hi hj)⟩
      have e2 : ((renss f xs)[i]'(by omega))[j]'(by rw [e1, rens_len]; exact hj) = (rens f xs[i])[j]'(by rw [rens_len]; exact hj) := by simp only [e1]
      rw [e2, rens_get]
theorem OwnOk.up {P : Program} {f : Nat → Nat} {g g' : Gh} {w : World} {p p' : Plc} {ex : Bool} {e : TypeId} {n : Bool} {xs : List (List PV)} {v : Value}
    (hr : ∀ id b, g.rho[id]? = some b → g'.rho[f id]? = some b) (hf : g'.FP = g.FP) (ho : ∀ b, g.ow b = some (.plc p) → g'.ow b = some (.plc p'))
    (h : OwnOk P g w p ex e n xs v) : OwnOk P g' w p' ex e n (renss f xs) v := by
  have hl := renss_len f xs
  rcases h with ⟨h1, h2⟩ | ⟨hn', b, cap, hv, hb⟩
  · exact .inl ⟨by rw [h1]; rfl, h2⟩
  · refine .inr ⟨hn', b, cap, by rw [hv, hl], by have := hb.hcap; omega, hb.blk, ho b hb.ow, ⟨fun i hi => ?_, fun i j hi hj => ?_⟩, fun he i => by rw [hf]; exact hb.ex_ he i, fun i hi => by rw [hf]; exact hb.fr i (by rw [hl] at hi; exact hi)⟩
    · rw [renss_get, rens_len]; exact hb.el.1 i (by omega)
    · have e1 := renss_get f xs i hi
      have hj' : j < xs[i].length := by rw [e1, rens_len] at hj; exact hj
      obtain ⟨u, h1, h2⟩ := hb.el.2 i j (by omega) hj'
      refine ⟨u, h1, ?_⟩
      have e2 : ((renss f xs)[i])[j] = (rens f (xs[i]'(by omega)))[j]'(by rw [rens_len]; exact hj') := by simp only [e1]
      rw [e2, rens_get]
      exact h2.up hr (fun b i hb => by rw [hf]; exact hb) (fun _ _ _ => rfl)
theorem Slot.down {P : Program} {f : Nat → Nat} {k : Nat} {st st' : St} {g g' : Gh} {vs vs' : Array Value} {w : World} {p p' : Plc} {x : PV} {v : Value}
    (hr : ∀ id b, id < k → g.rho[f id]? = some b → g'.rho[id]? = some b) (hf : g'.FP = g.FP) (ho : ∀ b, g.ow b = some (.plc p) → g'.ow b = some (.plc p'))
    (h : Slot P st g vs w p (x.ren f) v) (hn : noRef k x = true) : Slot P st' g' vs' w p' x v := by
  cases x with
  | sl fl n xs =>
    cases fl with
    | view => exact Rel.down (y := PV.ren f (.sl .view n xs)) hr hf h _ rfl hn
    | own e => exact OwnOk.down hr hf ho h (by simpa only [noRef] using hn)
    | excl e => exact OwnOk.down hr hf ho h (by simpa only [noRef] using hn)
  | alias _ => simp [noRef] at hn
  | elem _ _ _ => simp [noRef] at hn
  | dead => trivial
  | lit _ => exact Rel.down (y := PV.ren f (.lit _)) hr hf h _ rfl hn
  | ptr a b => exact Rel.down (y := PV.ren f (.ptr a b)) hr hf h _ rfl hn
  | nilp => exact Rel.down (y := PV.ren f .nilp) hr hf h _ rfl hn
  | agg a => exact Rel.down (y := PV.ren f (.agg a)) hr hf h _ rfl hn
  | tup a => exact Rel.down (y := PV.ren f (.tup a)) hr hf h _ rfl hn
  | ifc a b => exact Rel.down (y := PV.ren f (.ifc a b)) hr hf h _ rfl hn
  | fn a b c => exact Rel.down (y := PV.ren f (.fn a b c)) hr hf h _ rfl hn
  | map a => exact Rel.down (y := PV.ren f (.map a)) hr hf h _ rfl hn
  | elemv a b => exact Rel.down (y := PV.ren f (.elemv a b)) hr hf h _ rfl hn
theorem Slot.up {P : Program} {f : Nat → Nat} {st st' : St} {g g' : Gh} {vs vs' : Array Value} {w : World} {p p' : Plc} {x : PV} {v : Value}
    (hr : ∀ id b, g.rho[id]? = some b → g'.rho[f id]? = some b) (hf : g'.FP = g.FP) (ho : ∀ b, g.ow b = some (.plc p) → g'.ow b = some (.plc p'))
    (h : Slot P st g vs w p x v) (hn : x.noAl = true) : Slot P st' g' vs' w p' (x.ren f) v := by
  have hR : ∀ {y u}, Rel g w y u → Rel g' w (y.ren f) u := fun hh => hh.up hr (fun b i hb => by rw [hf]; exact hb) (fun _ _ _ => rfl)
  cases x with
  | sl fl n xs =>
    cases fl with
    | view => exact hR (y := .sl .view n xs) h
    | own e => exact OwnOk.up hr hf ho h
    | excl e => exact OwnOk.up hr hf ho h
  | alias _ => simp [PV.noAl] at hn
  | elem _ _ _ => simp [PV.noAl] at hn
  | dead => trivial
  | lit a => exact hR (y := .lit a) h
  | ptr a b => exact hR (y := .ptr a b) h
  | nilp => exact hR (y := .nilp) h
  | agg a => exact hR (y := .agg a) h
  | tup a => exact hR (y := .tup a) h
  | ifc a b => exact hR (y := .ifc a b) h
  | fn a b c => exact hR (y := .fn a b c) h
  | map a => exact hR (y := .map a) h
  | elemv a b => exact hR (y := .elemv a b) h
theorem ren_noAl {f : Nat → Nat} {x : PV} (h : x.noAl = true) : (x.ren f).noAl = true := by
  cases x <;> first | rfl | cases h

/-- Some boxes of a store, and their numbers there. -/
structure Emb (f : Nat → Nat) (inv : Nat → Option Nat) (n : Nat) (σ0 σ : List Bx) : Prop where
  fi : ∀ j, j < n → inv (f j) = some j
  iv : ∀ id j, inv id = some j → j < n ∧ f j = id
  len : σ0.length = n
  at_ : ∀ j bx, σ0[j]? = some bx → σ[f j]? = some (renB f bx)

theorem Inv.pick {P : Program} {f : Nat → Nat} {inv : Nat → Option Nat} {n : Nat} {args : List PV} {σ0 σ : List Bx} {g : Gh} {us : Array Value} {w : World} (hm : Emb f inv n σ0 σ)
    (h : Inv P g { ts := number 0 (rens f args), n := (rens f args).length, σ } us w) (hn : noRefs n args = true) (hb : ∀ bx ∈ σ0, noRefB n bx = true) :
    Inv P (g.pick f inv n) { ts := number 0 args, n := args.length, σ := σ0 } us w := by
  have hlt : ∀ j, j < n → ∃ b, g.rho[f j]? = some b := fun j hj => by
    have h1 : j < σ0.length := by rw [hm.len]; exact hj
    have h2 := hm.at_ j _ (List.getElem?_eq_getElem h1)
    have h3 := (List.getElem?_eq_some_iff.1 h2).1
    exact ⟨_, List.getElem?_eq_getElem (by rw [h.rlen]; exact h3)⟩
  have hup : ∀ j b, (g.pick f inv n).rho[j]? = some b → j < n ∧ g.rho[f j]? = some b := fun j b hj => by
    obtain ⟨k1, k2⟩ := pick_rho hj
    obtain ⟨b', hb'⟩ := hlt j k1
    rw [List.getD_eq_getElem?_getD, hb'] at k2
    simp only [Option.getD_some] at k2
    exact ⟨k1, by rw [hb', k2]⟩
  have hdn : ∀ id b, id < n → g.rho[f id]? = some b → (g.pick f inv n).rho[id]? = some b := fun id b h1 h2 => rho_pick h1 h2
  refine { size := by rw [h.size]; exact rens_len f args, slot := fun t x hx => ?_, rlen := by show ((List.range n).map _).length = _; rw [List.length_map, List.length_range]; exact hm.len.symm, box := fun id ty cs b h1 h2 => ?_, bmap := fun id es b h1 h2 => ?_, rown := fun id b hb2 => ?_, olt := fun b o hb2 => ?_, flt := h.flt, fbox := fun b i id hb2 => ?_ }
  · have ht : t < args.length := get_lt hx
    have hxa : x = args[t] := by
      simp only [St.get] at hx
      rw [if_pos ht, lkp_number, if_pos (by omega), Nat.sub_zero, List.getD_eq_getElem?_getD, List.getElem?_eq_getElem ht] at hx
      exact (Option.some.inj hx).symm
    have ht' : t < (rens f args).length := by rw [rens_len]; exact ht
    have hg : ({ ts := number 0 (rens f args), n := (rens f args).length, σ } : St).get t = some (x.ren f) := by
      simp only [St.get]
      rw [if_pos ht', lkp_number, if_pos (by omega), Nat.sub_zero, List.getD_eq_getElem?_getD, List.getElem?_eq_getElem ht', Option.getD_some, rens_get, hxa]
    obtain ⟨v, hv, hs⟩ := h.slot t _ hg
    refine ⟨v, hv, hs.down hdn rfl (fun b hb => ?_) (by rw [hxa]; exact noRefs_get hn t ht)⟩
    show hidE inv (g.ow b) = _
    rw [hb]; rfl
  · obtain ⟨k1, k2⟩ := hup id b h2
    obtain ⟨c, fz, j1, j2, j3, j4⟩ := h.box (f id) ty (rens f cs) b (hm.at_ id _ h1) k2
    refine ⟨c, fz, j1, j2, by rw [j3, rens_len], fun off x hx => ?_⟩
    obtain ⟨l1, v, l2, l3⟩ := j4 off (x.ren f) (by rw [rens_get?, hx]; rfl)
    have hnx : noRef n x = true := by
      have := hb _ (List.mem_of_getElem? h1)
      simp only [noRefB] at this
      obtain ⟨ho, rfl⟩ := List.getElem?_eq_some_iff.1 hx
      exact noRefs_get this off ho
    refine ⟨by cases x <;> first | rfl | simp [noRef] at hnx, v, l2, l3.down hdn rfl (fun b2 hb2 => ?_) hnx⟩
    show hidE inv (g.ow b2) = _
    rw [hb2]
    simp only [hidE, hidden, hm.fi id k1, Option.isNone_some, Bool.false_eq_true, if_false, downO, Option.getD_some]
  · obtain ⟨k1, k2⟩ := hup id b h2
    exact h.bmap (f id) es b (hm.at_ id _ h1) k2
  · obtain ⟨k1, k2⟩ := hup id b hb2
    show hidE inv (g.ow b) = _
    rw [h.rown _ _ k2]
    simp only [hidE, hidden, hm.fi id k1, Option.isNone_some, Bool.false_eq_true, if_false, downO, Option.getD_some]
  · have hb2 : hidE inv (g.ow b) = some o := hb2
    cases e : g.ow b with
    | none => rw [e] at hb2; simp [hidE, hidden, downO] at hb2
    | some o' => exact h.olt b o' e
  · have hb2 : hidE inv (g.ow b) = some (.box id) := hb2
    unfold hidE at hb2
    split at hb2
    · cases hb2
    · cases e : g.ow b with
      | none => rw [e] at hb2; cases hb2
      | some o' =>
        rw [e] at hb2
        cases o' with
        | box id' => exact h.fbox b i id' e
        | frame => cases hb2
        | plc p => cases p <;> cases hb2

theorem Inv.unpick {P : Program} {f : Nat → Nat} {inv : Nat → Option Nat} {n : Nat} {args : List PV} {σ0 σ σ0' σ' : List Bx} {g gc : Gh} {us : Array Value} {w w' : World} (hm : Emb f inv n σ0 σ)
    (h : Inv P g { ts := number 0 args, n := args.length, σ } us w) {r : PV} {rv : Value} (hc : Inv P gc { ts := [(0, r)], n := 1, σ := σ0' } #[rv] w') (hr : r.noAl = true) (hE : Ext (g.pick f inv n) gc w w')
    (hm' : Emb f inv n σ0' σ') (hlen : σ'.length = σ.length) (hoth : ∀ id, inv id = none → σ'[id]? = σ[id]?) :
    Inv P (g.unpick f inv gc) { ts := [(0, r.ren f)], n := 1, σ := σ' } #[rv] w' ∧ Ext g (g.unpick f inv gc) w w' := by
  have hlt : ∀ j, j < n → ∃ b, g.rho[f j]? = some b := fun j hj => by
    have h1 : j < σ0.length := by rw [hm.len]; exact hj
    have h2 := hm.at_ j _ (List.getElem?_eq_getElem h1)
    have h3 := (List.getElem?_eq_some_iff.1 h2).1
    exact ⟨_, List.getElem?_eq_getElem (by rw [h.rlen]; exact h3)⟩
  have hrho : gc.rho = (g.pick f inv n).rho := by
    refine (List.IsPrefix.eq_of_length hE.rho ?_).symm
    rw [hc.rlen, hm'.len]
    show ((List.range n).map _).length = n
    rw [List.length_map, List.length_range]
  have hup : ∀ j b, gc.rho[j]? = some b → g.rho[f j]? = some b := fun j b hj => by
    rw [hrho] at hj
    obtain ⟨k1, k2⟩ := pick_rho hj
    obtain ⟨b', hb'⟩ := hlt j k1
    rw [List.getD_eq_getElem?_getD, hb'] at k2
    simp only [Option.getD_some] at k2
    rw [hb', k2]
  have hdn : ∀ id j b, inv id = some j → g.rho[id]? = some b → gc.rho[j]? = some b := fun id j b h1 h2 => by
    obtain ⟨k1, k2⟩ := hm.iv id j h1
    rw [hrho]
    exact rho_pick k1 (by rw [k2]; exact h2)
  have hfr : ∀ {b}, hidden inv (g.ow b) = true → (g.pick f inv n).ow b = some .frame := fun {b} hb => by
    show hidE inv (g.ow b) = _
    simp only [hidE, hb, if_true]
  have hvis : ∀ {b o}, gc.ow b = some o → o ≠ .frame → hidden inv (g.ow b) = false := fun {b o} hb ho => by
    cases e : hidden inv (g.ow b) with
    | false => rfl
    | true =>
      have := hE.frame b (hfr e)
      rw [hb] at this
      exact absurd (Option.some.inj this) ho
  have hun : ∀ {b o}, gc.ow b = some o → o ≠ .frame → (g.unpick f inv gc).ow b = renO f (some o) := fun {b o} hb ho => by
    show unE f inv (g.ow b) (gc.ow b) = _
    simp only [unE, hvis hb ho, Bool.false_eq_true, if_false, hb]
  have hExt : Ext g (g.unpick f inv gc) w w' :=
    { rho := List.prefix_rfl, fp := hE.fp, fpc := hE.fpc
      keep := fun b hb ho => hE.keep b hb (by
        rcases ho with ho | ho
        · left; show hidE inv (g.ow b) = _; rw [ho]; rfl
        · right; show hidE inv (g.ow b) = _; rw [ho]; rfl)
      size := hE.size
      frame := fun b hb => by
        have := hE.frame b (by show hidE inv (g.ow b) = _; rw [hb]; rfl)
        show unE f inv (g.ow b) (gc.ow b) = _
        rw [hb, this]; rfl
      noframe := fun b hb hf => by
        have hf : unE f inv (g.ow b) (gc.ow b) = some .frame := hf
        unfold unE at hf
        split at hf
        · exact hb hf
        · rename_i hh
          refine hE.noframe b (fun he => ?_) (renO_frame hf)
          have he : hidE inv (g.ow b) = some .frame := he
          rcases hidE_frame he with k | k
          · exact hh k
          · exact hb k
      none_ := fun b hb hn => by
        have := hE.none_ b hb (by show hidE inv (g.ow b) = _; rw [hn]; rfl)
        show unE f inv (g.ow b) (gc.ow b) = _
        rw [hn, this]; rfl
      fnew := fun b i hb hf => hE.fnew b i (by show hidE inv (g.ow b) = _; rw [hb]; rfl) hf
      os := hE.os, tape := hE.tape, output := hE.output }
  have hkeep : ∀ {b o}, g.ow b = some o → hidden inv (some o) = true → w'.heap[b]? = w.heap[b]? := fun {b o} hb ho =>
    hE.keep b (h.olt b o hb) (.inr (hfr (by rw [hb]; exact ho)))
  refine ⟨?_, hExt⟩
  refine { size := rfl, slot := fun t x hx => ?_, rlen := by rw [hlen]; exact h.rlen, box := fun id ty cs b h1 h2 => ?_, bmap := fun id es b h1 h2 => ?_, rown := fun id b hb => ?_, olt := fun b o hb => ?_, flt := hc.flt, fbox := fun b i id hb hf => ?_ }
  · have ht : t < 1 := get_lt hx
    have h0 : t = 0 := by omega
    subst h0
    have hxr : x = r.ren f := by simpa [St.get, lkp] using hx.symm
    subst hxr
    obtain ⟨v, hv, hs⟩ := hc.slot 0 r (by simp [St.get, lkp])
    exact ⟨v, hv, hs.up hup rfl (fun b hb => (hun (o := .plc (.tmp 0)) hb (by simp)).trans rfl) hr⟩
  · cases hi : inv id with
    | none =>
      have h1' : σ[id]? = some (Bx.cells ty cs) := by rw [← hoth id hi]; exact h1
      have hhid : hidden inv (some (.box id)) = true := by simp [hidden, hi]
      obtain ⟨c, fz, k1, k2, k3, k4⟩ := h.box id ty cs b h1' h2
      have hb := h.rown id b h2
      refine ⟨c, fz, (hkeep hb hhid).trans k1, k2, k3, fun off x hx => ?_⟩
      obtain ⟨j1, v, j2, j3⟩ := k4 off x hx
      refine ⟨j1, v, j2, ?_⟩
      have hhc : hidden inv (some (.plc (.cell id off))) = true := by simp [hidden, hi]
      have hO : ∀ {ex e n xs}, OwnOk P g w (.cell id off) ex e n xs v → OwnOk P (g.unpick f inv gc) w' (.cell id off) ex e n xs v := by
        rintro ex e n xs (hk | ⟨hn, b2, cap, hval, hb2⟩)
        · exact .inl hk
        · have hh := hkeep hb2.ow hhc
          have hf2 := hfr (b := b2) (by rw [hb2.ow]; exact hhc)
          obtain ⟨c2, fz2, l1, l2, l3⟩ := hb2.blk
          refine .inr ⟨hn, b2, cap, hval, hb2.hcap, ⟨c2, fz2, hh.trans l1, l2, l3⟩, ?_, hb2.el.mono hExt (cell_of_heap hh), fun he i hf => hb2.ex_ he i (hE.fnew b2 i hf2 hf), fun i hi hf => hb2.fr i hi (hE.fnew b2 i hf2 hf)⟩
          show unE f inv (g.ow b2) (gc.ow b2) = _
          rw [hb2.ow]
          simp only [unE, hhc, if_true]
      cases x with
      | sl fl n xs =>
        cases fl with
        | view => exact Rel.ext hExt j3
        | own e => exact hO j3
        | excl e => exact hO j3
      | alias _ => simp [PV.noAl] at j1
      | elem _ _ _ => simp [PV.noAl] at j1
      | dead => trivial
      | _ => exact Rel.ext hExt j3
    | some j =>
      obtain ⟨k1, k2⟩ := hm'.iv id j hi
      have hj : j < σ0'.length := by rw [hm'.len]; exact k1
      have e1 := hm'.at_ j _ (List.getElem?_eq_getElem hj)
      rw [k2, h1] at e1
      have e2 := List.getElem?_eq_getElem hj
      have hbc := hdn id j b hi h2
      cases hbx : σ0'[j] with
      | mp es => rw [hbx] at e1; cases e1
      | cells ty' cs0 =>
        rw [hbx] at e1 e2
        injection e1 with e1
        injection e1 with e3 e4
        subst e3; subst e4
        obtain ⟨c, fz, l1, l2, l3, l4⟩ := hc.box j ty cs0 b e2 hbc
        refine ⟨c, fz, l1, l2, by rw [l3, rens_len], fun off x hx => ?_⟩
        rw [rens_get?] at hx
        cases hx0 : cs0[off]? with
        | none => rw [hx0] at hx; cases hx
        | some x0 =>
          rw [hx0] at hx
          injection hx with hx
          subst hx
          obtain ⟨o1, v, o2, o3⟩ := l4 off x0 hx0
          refine ⟨ren_noAl o1, v, o2, o3.up hup rfl (fun b2 hb2 => ?_) o1⟩
          rw [hun hb2 (by simp)]
          simp only [renO, k2]
  · cases hi : inv id with
    | none =>
      have h1' : σ[id]? = some (Bx.mp es) := by rw [← hoth id hi]; exact h1
      have hhid : hidden inv (some (.box id)) = true := by simp [hidden, hi]
      obtain ⟨en, ck, k1, k2⟩ := h.bmap id es b h1' h2
      exact ⟨en, ck, (hkeep (h.rown id b h2) hhid).trans k1, k2⟩
    | some j =>
      obtain ⟨k1, k2⟩ := hm'.iv id j hi
      have hj : j < σ0'.length := by rw [hm'.len]; exact k1
      have e1 := hm'.at_ j _ (List.getElem?_eq_getElem hj)
      rw [k2, h1] at e1
      have e2 := List.getElem?_eq_getElem hj
      cases hbx : σ0'[j] with
      | cells ty' cs0 => rw [hbx] at e1; cases e1
      | mp es0 =>
        rw [hbx] at e1 e2
        injection e1 with e1
        injection e1 with e3
        subst e3
        exact hc.bmap j es b e2 (hdn id j b hi h2)
  · cases hi : inv id with
    | none =>
      show unE f inv (g.ow b) (gc.ow b) = _
      rw [h.rown id b hb]
      simp [unE, hidden, hi]
    | some j =>
      have := hc.rown j b (hdn id j b hi hb)
      rw [hun this (by simp)]
      simp only [renO, (hm.iv id j hi).2]
  · have hb : unE f inv (g.ow b) (gc.ow b) = some o := hb
    unfold unE at hb
    split at hb
    · exact Nat.lt_of_lt_of_le (h.olt b _ hb) hE.size
    · cases e : gc.ow b with
      | none => rw [e] at hb; cases hb
      | some o' => exact hc.olt b o' e
  · have hb : unE f inv (g.ow b) (gc.ow b) = some (.box id) := hb
    unfold unE at hb
    split at hb
    · rename_i hh
      exact h.fbox b i _ hb (hE.fnew b i (hfr hh) hf)
    · cases e : gc.ow b with
      | none => rw [e] at hb; cases hb
      | some o' =>
        rw [e] at hb
        cases o' with
        | box id' => exact hc.fbox b i id' e hf
        | frame => cases hb
        | plc p => cases p <;> cases hb

theorem AbsCall.embed {P : Program} {k : FuncId} {f : Nat → Nat} {inv : Nat → Option Nat} {n : Nat} {args : List PV} {σ0 σ σ0' σ' : List Bx} {r : PV} (h : AbsCall P k args σ0 r σ0')
    (hm : Emb f inv n σ0 σ) (hm' : Emb f inv n σ0' σ') (hlen : σ'.length = σ.length) (hoth : ∀ id, inv id = none → σ'[id]? = σ[id]?)
    (hn : noRefs n args = true) (hb : ∀ bx ∈ σ0, noRefB n bx = true) (hr : r.noAl = true) : AbsCall P k (rens f args) σ (r.ren f) σ' := by
  intro g us w hi
  refine (h (g.pick f inv n) us w (hi.pick hm hn hb)).mono ?_
  rintro e w' ⟨rv, gc, rfl, h1, h2⟩
  obtain ⟨k1, k2⟩ := hi.unpick hm h1 hr h2 hm' hlen hoth
  exact ⟨rv, _, rfl, k1, k2⟩
/-! ### The same, with lists that the kernel reads -/
def fmOf (m : List Nat) (j : Nat) : Nat := m.getD j 0
def idxN : List Nat → Nat → Nat → Option Nat
  | [], _, _ => none
  | a :: r, id, k => match Nat.beq a id with
    | true => some k
    | false => idxN r id (k + 1)
def inOf (m : List Nat) (id : Nat) : Option Nat := idxN m id 0
theorem idxN_some : ∀ (m : List Nat) (id k j : Nat), idxN m id k = some j → k ≤ j ∧ m[j - k]? = some id
  | [], _, _, _, h => by cases h
  | a :: r, id, k, j, h => by
    unfold idxN at h
    split at h
    · rename_i e
      injection h with h
      subst h
      rw [Nat.sub_self]
      exact ⟨Nat.le_refl _, by rw [Nat.eq_of_beq_eq_true e]; rfl⟩
    · obtain ⟨h1, h2⟩ := idxN_some r id (k + 1) j h
      refine ⟨by omega, ?_⟩
      obtain ⟨d, hd⟩ : ∃ d, j - k = d + 1 := ⟨j - k - 1, by omega⟩
      rw [hd, List.getElem?_cons_succ]
      have : j - (k + 1) = d := by omega
      rw [this] at h2
      exact h2
def embOk (m : List Nat) : Bool := (List.range m.length).all fun j => inOf m (fmOf m j) == some j
theorem emb_of {m : List Nat} {σ0 σ : List Bx} (h1 : embOk m = true) (h2 : σ0.length = m.length) (h3 : σ0.map (fun b => some (renB (fmOf m) b)) = m.map (fun id => σ[id]?)) : Emb (fmOf m) (inOf m) m.length σ0 σ where
  fi j hj := by
    have := List.all_eq_true.1 h1 j (List.mem_range.2 hj)
    simpa using this
  iv id j h := by
    obtain ⟨k1, k2⟩ := idxN_some m id 0 j h
    rw [Nat.sub_zero] at k2
    exact ⟨(List.getElem?_eq_some_iff.1 k2).1, by simp only [fmOf, List.getD_eq_getElem?_getD, k2, Option.getD_some]⟩
  len := h2
  at_ j bx h := by
    have hj : j < m.length := by rw [← h2]; exact (List.getElem?_eq_some_iff.1 h).1
    have e1 : (σ0.map (fun b => some (renB (fmOf m) b)))[j]? = some (some (renB (fmOf m) bx)) := by rw [List.getElem?_map, h]; rfl
    rw [h3, List.getElem?_map, List.getElem?_eq_getElem hj] at e1
    have e2 : σ[m[j]]? = some (renB (fmOf m) bx) := Option.some.inj e1
    rw [← e2]
    simp only [fmOf, List.getD_eq_getElem?_getD, List.getElem?_eq_getElem hj, Option.getD_some]
/-- The other boxes stand as they stood. -/
def otherOf (m : List Nat) (σ : List Bx) : List (Option Bx) := (List.range σ.length).map fun id => match inOf m id with
  | none => σ[id]?
  | some _ => none
theorem other_of {m : List Nat} {σ σ' : List Bx} (h1 : σ'.length = σ.length) (h2 : otherOf m σ' = otherOf m σ) (id : Nat) (hi : inOf m id = none) : σ'[id]? = σ[id]? := by
  by_cases hl : id < σ.length
  · have e : (otherOf m σ')[id]? = (otherOf m σ)[id]? := by rw [h2]
    simp only [otherOf, List.getElem?_map, h1, List.getElem?_range hl, Option.map_some, hi] at e
    exact Option.some.inj e
  · rw [List.getElem?_eq_none (by omega), List.getElem?_eq_none (by omega)]
/-- A call with boxes, known in a small store, in a larger one. -/
theorem callK_emb {P : Program} {k : FuncId} {args0 args : List PV} {σ0 σ σ0' σ' : List Bx} {r0 r : PV} (h : (∃ fn, P.funcs[k]? = some fn ∧ fn.body.isSome = true) ∧ AbsCall P k args0 σ0 r0 σ0') (m : List Nat)
    (h1 : embOk m = true) (h2 : σ0.length = m.length) (h3 : σ0'.length = m.length) (h4 : σ'.length = σ.length)
    (h5 : σ0.map (fun b => some (renB (fmOf m) b)) = m.map (fun id => σ[id]?)) (h6 : σ0'.map (fun b => some (renB (fmOf m) b)) = m.map (fun id => σ'[id]?)) (h7 : otherOf m σ' = otherOf m σ)
    (h8 : noRefs m.length args0 = true) (h9 : σ0.all (noRefB m.length) = true) (h10 : r0.noAl = true) (ha : rens (fmOf m) args0 = args) (hr : r0.ren (fmOf m) = r) : CallK P false k args σ r σ' := by
  refine callK_of ⟨h.1, ?_⟩
  rw [← ha, ← hr]
  exact h.2.embed (emb_of h1 h2 h5) (emb_of h1 h3 h6) h4 (other_of h4 h7) h8 (fun bx hb => List.all_eq_true.1 h9 bx hb) h10
/-! ### A result that is nil -/
theorem Inv.res {P : Program} {gc : Gh} {σ : List Bx} {r r' : PV} {rv : Value} {w : World} (h : Inv P gc { ts := [(0, r)], n := 1, σ } #[rv] w)
    (hs : ∀ v, Slot P { ts := [(0, r)], n := 1, σ } gc #[rv] w (.tmp 0) r v → Slot P { ts := [(0, r')], n := 1, σ } gc #[rv] w (.tmp 0) r' v) : Inv P gc { ts := [(0, r')], n := 1, σ } #[rv] w where
  size := h.size
  slot t x hx := by
    have ht : t < 1 := get_lt hx
    have h0 : t = 0 := by omega
    subst h0
    have hxr : x = r' := by simpa [St.get, lkp] using hx.symm
    subst hxr
    obtain ⟨v, hv, h1⟩ := h.slot 0 r (by simp [St.get, lkp])
    exact ⟨v, hv, hs v h1⟩
  rlen := h.rlen
  box id ty cs b h1 h2 := by
    obtain ⟨c, fz, k1, k2, k3, k4⟩ := h.box id ty cs b h1 h2
    refine ⟨c, fz, k1, k2, k3, fun off x hx => ?_⟩
    obtain ⟨j1, v, j2, j3⟩ := k4 off x hx
    exact ⟨j1, v, j2, j3.gh j1 rfl rfl (fun _ h => h)⟩
  bmap := h.bmap
  rown := h.rown
  olt := h.olt
  flt := h.flt
  fbox := h.fbox
theorem AbsCall.renil {P : Program} {f : FuncId} {args : List PV} {σ σ' : List Bx} {e0 : TypeId} (h : AbsCall P f args σ (.sl (.excl e0) true []) σ') (fl : Flag) : AbsCall P f args σ (.sl fl false []) σ' := by
  intro g us w hi
  refine (h g us w hi).mono ?_
  rintro e w' ⟨rv, gc, rfl, h1, h2⟩
  refine ⟨rv, gc, rfl, h1.res fun v hs => ?_, h2⟩
  have hs : OwnOk P gc w' (.tmp 0) true e0 true [] v := hs
  rcases hs with ⟨_, rfl⟩ | ⟨hf, _⟩
  · cases fl with
    | view => exact Rel.slz
    | own e => exact .inl ⟨rfl, rfl⟩
    | excl e => exact .inl ⟨rfl, rfl⟩
  · cases hf
theorem Knows.renil {P : Program} {f : FuncId} {args : List PV} {e0 : TypeId} (h : Knows P f args (.sl (.excl e0) true [])) (fl : Flag) : Knows P f args (.sl fl false []) := ⟨h.1, h.2.renil fl⟩
/-- A function with boxes of its callers', known in a store. -/
def KnowsS (P : Program) (f : FuncId) (args : List PV) (σ : List Bx) (r : PV) (σ' : List Bx) : Prop := (∃ fn, P.funcs[f]? = some fn ∧ fn.body.isSome = true) ∧ AbsCall P f args σ r σ'
theorem KnowsS.renil {P : Program} {f : FuncId} {args : List PV} {σ σ' : List Bx} {e0 : TypeId} (h : KnowsS P f args σ (.sl (.excl e0) true []) σ') (fl : Flag) : KnowsS P f args σ (.sl fl false []) σ' := ⟨h.1, h.2.renil fl⟩
theorem KnowsS.of {C : Ctx} (hW : WF C.P) {f : FuncId} {fn : Func} (hfn : C.P.funcs[f]? = some fn) {cs : List CI} {args : List PV} {σ σ' : List Bx} {r : PV} {ps : List Prop}
    (he : fnH C fn false cs args σ = some (r, σ', ps)) (hp : allP ps) : KnowsS C.P f args σ r σ' := fnH_sound hW hfn he hp
/-! ### What has no boxes in it bears no numbers -/
mutual
theorem ren_nr (f : Nat → Nat) : ∀ x : PV, noRef 0 x = true → x.ren f = x
  | .lit _, _ => rfl
  | .ptr _ _, h => by simp [noRef] at h
  | .nilp, _ => rfl
  | .sl _ _ xs, h => by simp only [noRef] at h; simp only [PV.ren, renss_nr f xs h]
  | .agg cs, h => by simp only [noRef] at h; simp only [PV.ren, rens_nr f cs h]
  | .tup cs, h => by simp only [noRef] at h; simp only [PV.ren, rens_nr f cs h]
  | .ifc _ x, h => by simp only [noRef] at h; simp only [PV.ren, ren_nr f x h]
  | .fn _ a b, h => by simp only [noRef, Bool.and_eq_true] at h; simp only [PV.ren, rens_nr f a h.1, rens_nr f b h.2]
  | .map _, h => by simp [noRef] at h
  | .alias _, _ => rfl
  | .elem _ _ _, _ => rfl
  | .elemv cs _, h => by simp only [noRef] at h; simp only [PV.ren, rens_nr f cs h]
  | .dead, _ => rfl
theorem rens_nr (f : Nat → Nat) : ∀ cs : List PV, noRefs 0 cs = true → rens f cs = cs
  | [], _ => rfl
  | x :: r, h => by simp only [noRefs, Bool.and_eq_true] at h; simp only [rens, ren_nr f x h.1, rens_nr f r h.2]
theorem renss_nr (f : Nat → Nat) : ∀ xs : List (List PV), noRefss 0 xs = true → renss f xs = xs
  | [], _ => rfl
  | x :: r, h => by simp only [noRefss, Bool.and_eq_true] at h; simp only [renss, rens_nr f x h.1, renss_nr f r h.2]
end
theorem ren_res (f : Nat → Nat) {fl : Flag} {n : Bool} (xs : List (List PV)) (h : noRefss 0 xs = true) : (PV.sl fl n xs).ren f = .sl fl n xs := ren_nr f _ (by simpa only [noRef] using h)
/-- Tmps forgotten ahead of some code. -/
theorem RunsB.drop {P : Program} {base : Nat} {c : Code} {st st2 : St} {x : Exit} {st' : St} (keep : List Nat) (e : st2 = { st with ts := keepL keep st.ts keep }) (h : RunsB P base c st2 x st') : RunsB P base c st x st' := by
  subst e
  intro g a w hi
  exact h g a w (hi.keep keep)
/-- A slice of integers that came in, nil or not. -/
theorem IsRow.relV {k : IntKind} {w : World} {a : Option Addr} {len cap : Nat} {zs : List Int} (h : IsRow k w a len cap zs) :
    Rel (g0 w) w (.sl .view false (eI k (zs.take len))) (.slice a len cap) ∧ (∀ n ∈ zs.take len, (Lit.int k n).wf = true) := by
  have h2 := h.rel
  rcases h with ⟨rfl, rfl, rfl, rfl⟩ | ⟨x, rfl, _⟩
  · exact ⟨.slz, h2.2⟩
  · exact h2
end Go.AM

/- The abstract machine, 32: a slice that nobody else reads, taken as one that others may read. -/
namespace Go.AM

def PV.weak : PV → PV
  | .sl (.excl e) n xs => .sl (.own e) n xs
  | x => x
def weakL (t : Nat) : List (Nat × PV) → List (Nat × PV)
  | [] => []
  | (k, x) :: r => (k, match Nat.beq k t with
    | true => x.weak
    | false => x) :: weakL t r
theorem lkp_weakL (t u : Nat) : ∀ ts : List (Nat × PV), lkp (weakL t ts) u = lkp ts u ∨ lkp (weakL t ts) u = (lkp ts u).weak
  | [] => .inl rfl
  | (k, x) :: r => by
    have ih := lkp_weakL t u r
    simp only [weakL, lkp]
    cases e : Nat.beq k u with
    | false => exact ih
    | true =>
      simp only
      cases Nat.beq k t with
      | true => exact .inr rfl
      | false => exact .inl rfl
theorem Inv.weak {P : Program} {st : St} {g : Gh} {vs : Array Value} {w : World} (h : Inv P g st vs w) (t : Nat) : Inv P g { st with ts := weakL t st.ts } vs w := by
  have hc : ∀ q fl n xs, contentAt st q = some (.sl fl n xs) → fl.isOwn = true → ∃ fl', contentAt { st with ts := weakL t st.ts } q = some (.sl fl' n xs) ∧ fl'.isOwn = true ∧ fl'.e = fl.e := by
    intro q fl n xs hq ho
    cases q with
    | cell id off => exact ⟨fl, hq, ho, rfl⟩
    | tmp u =>
      simp only [contentAt, St.get] at hq ⊢
      split at hq
      · rename_i hu
        rw [if_pos hu]
        have hq := Option.some.inj hq
        rcases lkp_weakL t u st.ts with e | e
        · exact ⟨fl, by rw [e, hq], ho, rfl⟩
        · rw [e, hq]
          cases fl with
          | view => cases ho
          | own e => exact ⟨.own e, rfl, rfl, rfl⟩
          | excl e => exact ⟨.own e, rfl, rfl, rfl⟩
      · cases hq
  have hs : ∀ p x v, Slot P st g vs w p x v → Slot P { st with ts := weakL t st.ts } g vs w p x v := by
    intro p x v hx
    cases x with
    | sl fl n xs => cases fl <;> exact hx
    | alias q =>
      obtain ⟨⟨fl, n, xs, h1, h2⟩, h3⟩ := hx
      obtain ⟨fl', k1, k2, _⟩ := hc q fl n xs h1 h2
      exact ⟨⟨fl', n, xs, k1, k2⟩, h3⟩
    | elem q k off =>
      obtain ⟨fl, xs, b, cap, h1, h2, h3, h4, h5⟩ := hx
      obtain ⟨fl', k1, k2, k3⟩ := hc q fl false xs h1 h2
      exact ⟨fl', xs, b, cap, k1, k2, h3, h4, by rw [k3]; exact h5⟩
    | _ => exact hx
  refine { size := h.size, slot := fun u x hx => ?_, rlen := h.rlen, box := fun id ty cs b h1 h2 => ?_, bmap := h.bmap, rown := h.rown, olt := h.olt, flt := h.flt, fbox := h.fbox }
  · have hu : u < st.n := (get_lt hx :)
    simp only [St.get] at hx
    rw [if_pos hu] at hx
    have hx := Option.some.inj hx
    obtain ⟨v, hv, h1⟩ := h.slot u (lkp st.ts u) (by simp only [St.get]; rw [if_pos hu])
    refine ⟨v, hv, ?_⟩
    rcases lkp_weakL t u st.ts with e | e
    · rw [← hx, e]; exact hs _ _ _ h1
    · rw [← hx, e]
      generalize lkp st.ts u = y at h1
      cases y with
      | sl fl n xs =>
        cases fl with
        | excl e =>
          rcases h1 with h1 | ⟨k1, b, cap, k2, k3⟩
          · exact .inl h1
          · exact .inr ⟨k1, b, cap, k2, k3.hcap, k3.blk, k3.ow, k3.el, fun h => by (cases h), k3.fr⟩
        | view => exact hs _ _ _ h1
        | own e => exact hs _ _ _ h1
      | _ => exact hs _ _ _ h1
  · obtain ⟨c, fz, k1, k2, k3, k4⟩ := h.box id ty cs b h1 h2
    refine ⟨c, fz, k1, k2, k3, fun off x hx => ?_⟩
    obtain ⟨j1, v, j2, j3⟩ := k4 off x hx
    exact ⟨j1, v, j2, hs _ _ _ j3⟩
/-- A slice weakened ahead of some code. -/
theorem RunsB.weak {P : Program} {base : Nat} {c : Code} {st st2 : St} {x : Exit} {st' : St} (t : Nat) (e : st2 = { st with ts := weakL t st.ts }) (h : RunsB P base c st2 x st') : RunsB P base c st x st' := by
  subst e
  intro g a w hi
  exact h g a w (hi.weak t)
end Go.AM

/- The abstract machine, 30: words of the printed models and walks. -/
namespace Go.AM

/-! ### Code within code -/
def sub : List Nat → Code → Code
  | [], c => c
  | 0 :: p, .seq a _ => sub p a
  | _ :: p, .seq _ b => sub p b
  | _ :: p, .block _ c => sub p c
  | _ :: p, .loop c => sub p c
  | 0 :: p, .cond _ a _ => sub p a
  | _ :: p, .cond _ _ b => sub p b
  | _, c => c
def fbody (f : Func) : Code := f.body.getD .skip

/-! ### Joints of models -/
def FU : Nat := 1125899906842624
def guardO {α : Type} (p : Prop) [Decidable p] (k : Option α) : Option α := if p then k else none
theorem guardO_some {α : Type} {p : Prop} [Decidable p] {k : Option α} {r : α} (h : guardO p k = some r) : p ∧ k = some r := by
  unfold guardO at h
  split at h
  · exact ⟨‹_›, h⟩
  · cases h
theorem ite_some {α : Type} {p : Prop} [Decidable p] {a b : Option α} {r : α} (h : (if p then a else b) = some r) : (p ∧ a = some r) ∨ (¬ p ∧ b = some r) := by
  split at h
  · exact .inl ⟨‹_›, h⟩
  · exact .inr ⟨‹_›, h⟩
theorem and_t {a b : Bool} (h : a = true) (k : b = true) : (a && b) = true := by rw [h, k]; rfl
theorem not_t {b : Bool} (h : b = false) : (!b) = true := by rw [h]; rfl
theorem not_f {b : Bool} (h : b = true) : (!b) = false := by rw [h]; rfl
theorem bne_f {a b : Int} (h : a = b) : (a != b) = false := by rw [h]; simp

/-! ### Numbers -/
def w64 (n : Int) : Int := IntKind.i64.wrap n
def w8 (n : Int) : Int := IntKind.u8.wrap n
def wu16 (n : Int) : Int := IntKind.u16.wrap n
def wu32 (n : Int) : Int := IntKind.u32.wrap n
def wu64 (n : Int) : Int := IntKind.u64.wrap n
def wi32 (n : Int) : Int := IntKind.i32.wrap n
def wi8 (n : Int) : Int := IntKind.i8.wrap n
def bAnd (k : IntKind) (a b : Int) : Int := k.wrap (BitVec.ofInt k.bits a &&& BitVec.ofInt k.bits b).toNat
def bOr (k : IntKind) (a b : Int) : Int := k.wrap (BitVec.ofInt k.bits a ||| BitVec.ofInt k.bits b).toNat
def bXor (k : IntKind) (a b : Int) : Int := k.wrap (BitVec.ofInt k.bits a ^^^ BitVec.ofInt k.bits b).toNat
def bAndnot (k : IntKind) (a b : Int) : Int := k.wrap (BitVec.ofInt k.bits a &&& ~~~BitVec.ofInt k.bits b).toNat
def bShl (k : IntKind) (a b : Int) : Int := k.wrap (a * 2 ^ (min b.toNat k.bits))
def bShr (k : IntKind) (a b : Int) : Int := a.fdiv (2 ^ (min b.toNat k.bits))
def minI (x y : Int) : Int := if y < x then y else x
def maxI (x y : Int) : Int := if y > x then y else x
def i2f (n : Int) : Nat := FloatKind.f64.nearest n
def f2i (k : IntKind) (x : Nat) : Option Int :=
  match (FloatKind.f64.decode x).toInt .zero with
  | some n => if k.min ≤ n ∧ n ≤ k.max then some n else none
  | none => none
def feq (a b : Nat) : Bool := FloatKind.f64.format.order a b == some .eq
def ceq (a b c d : Nat) : Bool := feq a c && feq b d
def fadd (a b : Nat) : Option Nat := FloatKind.f64.format.add a b
def fsub (a b : Nat) : Option Nat := FloatKind.f64.format.sub a b
def fmul (a b : Nat) : Option Nat := FloatKind.f64.format.mul a b

/-! ### Elements -/
/-- A long array's cells. -/
def aI (k : IntKind) (l : List Int) : List PV := l.map fun z => .lit (.int k z)
def eB (l : List Bool) : List (List PV) := l.map fun z => [.lit (.bool z)]
def eC (k : FloatKind) (l : List (Nat × Nat)) : List (List PV) := l.map fun z => [.lit (.complex k z.1 z.2)]
def eF (k : FloatKind) (l : List Nat) : List (List PV) := l.map fun z => [.lit (.float k z)]
def eS (l : List ByteArray) : List (List PV) := l.map fun z => [.lit (.string z)]
def eL {α : Type} (e : List α → List (List PV)) (l : List (List α)) : List (List PV) := l.map fun z => [.sl .view false (e z)]

theorem map_noRef {α : Type} {n : Nat} {c : α → List PV} (h : ∀ x, noRefs n (c x) = true) (l : List α) : noRefss n (l.map c) = true := by
  induction l with
  | nil => rfl
  | cons x r ih => simp only [List.map_cons, noRefss, h, ih, Bool.and_self]
theorem eB_noRef (n : Nat) (l : List Bool) : noRefss n (eB l) = true := map_noRef (fun _ => rfl) l
theorem eC_noRef (n : Nat) (k : FloatKind) (l : List (Nat × Nat)) : noRefss n (eC k l) = true := map_noRef (fun _ => rfl) l
theorem eF_noRef (n : Nat) (k : FloatKind) (l : List Nat) : noRefss n (eF k l) = true := map_noRef (fun _ => rfl) l
theorem eS_noRef (n : Nat) (l : List ByteArray) : noRefss n (eS l) = true := map_noRef (fun _ => rfl) l
theorem eL_noRef {α : Type} {n : Nat} {e : List α → List (List PV)} (h : ∀ l, noRefss n (e l) = true) (l : List (List α)) : noRefss n (eL e l) = true :=
  map_noRef (fun x => by simp only [noRefs, noRef, h, Bool.and_self]) l
theorem all_map {α : Type} {c : α → List PV} {p : List PV → Bool} (h : ∀ x, p (c x) = true) (l : List α) : (l.map c).all p = true := by
  simp [h]
theorem first_map {α : Type} {n : Nat} {c : α → List PV} (h : ∀ x, ((c x).length == n) = true) (l : List α) : firstLen n (l.map c) = true := by
  cases l with
  | nil => rfl
  | cons x r => exact h x
theorem len_map {α : Type} {c : α → List PV} {l : List α} {b m : Nat} (h : l.length * b ≤ m) : (l.map c).length * b ≤ m := by simpa using h
theorem len_val {α : Type} (c : α → List PV) (l : List α) : Value.int .i64 (↑(List.length (l.map c)) : Int) = .int .i64 (l.length : Int) := by rw [List.length_map]
theorem len_map2 {α β : Type} {c : α → List PV} {c' : β → List PV} {l : List α} {l' : List β} {b m : Nat} (h : (l.length + l'.length) * b ≤ m) : ((l.map c).length + (l'.map c').length) * b ≤ m := by simpa using h
theorem set_map {α : Type} (c : α → List PV) (l : List α) (k : Nat) (x : α) : (l.map c).set k (c x) = (l.set k x).map c := by
  rw [List.map_set]

theorem nthI_lt {α : Type} {l : List α} {i : Int} {x : α} (h : nthI l i = some x) : 0 ≤ i ∧ i < l.length := by
  unfold nthI at h
  split at h
  · have := (List.getElem?_eq_some_iff.1 h).1; omega
  · cases h

def sliceI {α : Type} (l : List α) (lo hi : Int) : Option (List α) := if 0 ≤ lo ∧ lo ≤ hi ∧ hi ≤ l.length then some ((l.drop lo.toNat).take (hi.toNat - lo.toNat)) else none
theorem sl_b {α : Type} {c : α → List PV} {l m : List α} {lo hi : Int} (h : sliceI l lo hi = some m) : 0 ≤ lo ∧ lo ≤ hi ∧ hi ≤ (↑(List.length (l.map c)) : Int) := by
  unfold sliceI at h
  split at h
  · simpa using ‹_›
  · cases h
theorem sl_e {α : Type} {c : α → List PV} {l m : List α} {lo hi : Int} (h : sliceI l lo hi = some m) : ((l.map c).drop lo.toNat).take (hi.toNat - lo.toNat) = m.map c := by
  unfold sliceI at h
  split at h
  · injection h with h; subst h; rw [List.map_take, List.map_drop]
  · cases h
/-- The same where the upper bound is the length. -/
theorem sl_b' {α : Type} {c : α → List PV} {l m : List α} {lo : Int} (h : sliceI l lo (l.length : Int) = some m) : 0 ≤ lo ∧ lo ≤ (↑(List.length (l.map c)) : Int) ∧ (↑(List.length (l.map c)) : Int) ≤ (↑(List.length (l.map c)) : Int) := by
  have := sl_b (c := c) h
  simpa using this
theorem sl_e' {α : Type} {c : α → List PV} {l m : List α} {lo : Int} (h : sliceI l lo (l.length : Int) = some m) : ((l.map c).drop lo.toNat).take (Int.toNat (↑(List.length (l.map c)) : Int) - lo.toNat) = m.map c := by
  have := sl_e (c := c) h
  simpa using this

theorem part_of {α : Type} {P : Program} {e : TypeId} {cs : List PV} {l : List α} {i : Int} {x : α} {c : α → PV} (h1 : aggT P e = some false) (h2 : szOf P e = some 1) (h : nthI l i = some x) (hc : cs = l.map c) : partOf P e cs (i.toNat * 1) = some (c x) := by
  subst hc
  unfold partOf
  rw [h1, h2]
  simp only [Nat.mul_one]
  unfold nthI at h
  split at h
  · simp [h]
  · cases h
theorem box_of {α : Type} {pre post : List PV} {l : List α} {i : Int} {x : α} (c : α → PV) (h : nthI l i = some x) : (pre ++ (l.map c ++ post))[pre.length + i.toNat * 1]? = some (c x) := by
  have h1 := nthI_lt h
  unfold nthI at h
  split at h
  · rw [List.getElem?_append_right (by omega), Nat.mul_one, Nat.add_sub_cancel_left, List.getElem?_append_left (by simp; omega)]
    simp [h]
  · cases h

/-! ### What asks nothing of the memory -/
theorem det_feql (P : Program) (t : TypeId) (x y : Operand) (a b : Nat) : det P (do eqGuard .eql t x y (.float .f64 a) (.float .f64 b); binOp .eql t (.float .f64 a) (.float .f64 b)) = some (.bool (feq a b)) := rfl
theorem det_fneq (P : Program) (t : TypeId) (x y : Operand) (a b : Nat) : det P (do eqGuard .neq t x y (.float .f64 a) (.float .f64 b); binOp .neq t (.float .f64 a) (.float .f64 b)) = some (.bool (!feq a b)) := rfl
theorem det_bind {α β : Type} (P : Program) (s : Sem α) (f : α → Sem β) : det P (s >>= f) = (match det P s with | some a => det P (f a) | none => none) := by
  induction s with
  | pure a => rfl
  | program k ih => exact ih P
  | _ => rfl
theorem det_pure {α : Type} (P : Program) (a : α) : det P (pure a) = some a := rfl
theorem det_ite {α : Type} (P : Program) (c : Prop) [Decidable c] (a b : Sem α) : det P (if c then a else b) = if c then det P a else det P b := by split <;> rfl
theorem det_prog (P : Program) : det P program = some P := rfl
theorem det_und {P : Program} {t : TypeId} {d : TypeDesc} (h : P.underlying t = some d) : det P (underlying t) = some d := by
  simp only [underlying, det_bind, det_prog, h, det_pure]
theorem det_beql {P : Program} {t : TypeId} (h : P.underlying t = some .bool) (x y : Operand) (a b : Bool) : det P (do eqGuard .eql t x y (.bool a) (.bool b); binOp .eql t (.bool a) (.bool b)) = some (.bool (a == b))  := by
  obtain ⟨n, h3⟩ : ∃ n, Op.maxDepth = n + 1 := ⟨9999, rfl⟩
  have e : det P (eqGuard .eql t x y (.bool a) (.bool b)) = some () := rfl
  rw [det_bind, e]
  simp [binOp, Op.equal, h3, Op.equalIn, det_bind, det_und h, det_pure]
theorem det_bneq {P : Program} {t : TypeId} (h : P.underlying t = some .bool) (x y : Operand) (a b : Bool) : det P (do eqGuard .neq t x y (.bool a) (.bool b); binOp .neq t (.bool a) (.bool b)) = some (.bool (a != b))  := by
  obtain ⟨n, h3⟩ : ∃ n, Op.maxDepth = n + 1 := ⟨9999, rfl⟩
  have e : det P (eqGuard .neq t x y (.bool a) (.bool b)) = some () := rfl
  rw [det_bind, e]
  simp [binOp, Op.equal, h3, Op.equalIn, det_bind, det_und h, det_pure, bne]
/-- A byte of a string. -/
def strI (s : ByteArray) (i : Int) : Option Int := if 0 ≤ i then (s[i.toNat]?).map (fun b => (b.toNat : Int)) else none
theorem strI_lo {s : ByteArray} {i v : Int} (h : strI s i = some v) : 0 ≤ i := by
  unfold strI at h
  split at h
  · assumption
  · cases h
theorem strI_ex {s : ByteArray} {i v : Int} (h : strI s i = some v) : ∃ b, s[i.toNat]? = some b ∧ (PV.lit (.int .u8 v)) = .lit (.int .u8 b.toNat) := by
  unfold strI at h
  split at h
  · cases hb : s[i.toNat]? with
    | none => rw [hb] at h; cases h
    | some b => rw [hb] at h; injection h with h; exact ⟨b, rfl, by rw [← h]⟩
  · cases h
theorem det_arith {P : Program} {op : BinOp} {k : FloatKind} {a b c : Nat} (h : (match op with | .add => some (k.format.add a b) | .sub => some (k.format.sub a b) | .mul => some (k.format.mul a b) | _ => none) = some (some c)) :
    det P (Op.floatArith op k a b) = some (.float k c) := by
  cases op <;> simp only at h <;> first | cases h | (injection h with h; simp only [Op.floatArith]; rw [det_bind]; simp only [h, det_pure])
theorem det_fadd {P : Program} {t : TypeId} {x y : Operand} {a b c : Nat} (h : fadd a b = some c) : det P (do eqGuard .add t x y (.float .f64 a) (.float .f64 b); binOp .add t (.float .f64 a) (.float .f64 b)) = some (.float .f64 c) :=
  det_arith (op := .add) (k := .f64) (by simpa [fadd] using h)
theorem det_fsub {P : Program} {t : TypeId} {x y : Operand} {a b c : Nat} (h : fsub a b = some c) : det P (do eqGuard .sub t x y (.float .f64 a) (.float .f64 b); binOp .sub t (.float .f64 a) (.float .f64 b)) = some (.float .f64 c) :=
  det_arith (op := .sub) (k := .f64) (by simpa [fsub] using h)
theorem det_fmul {P : Program} {t : TypeId} {x y : Operand} {a b c : Nat} (h : fmul a b = some c) : det P (do eqGuard .mul t x y (.float .f64 a) (.float .f64 b); binOp .mul t (.float .f64 a) (.float .f64 b)) = some (.float .f64 c) :=
  det_arith (op := .mul) (k := .f64) (by simpa [fmul] using h)
theorem det_ceql (P : Program) (t : TypeId) (x y : Operand) (a b c d : Nat) : det P (do eqGuard .eql t x y (.complex .f64 a b) (.complex .f64 c d); binOp .eql t (.complex .f64 a b) (.complex .f64 c d)) = some (.bool (ceq a b c d)) := rfl
theorem det_cneq (P : Program) (t : TypeId) (x y : Operand) (a b c d : Nat) : det P (do eqGuard .neq t x y (.complex .f64 a b) (.complex .f64 c d); binOp .neq t (.complex .f64 a b) (.complex .f64 c d)) = some (.bool (!ceq a b c d)) := rfl
theorem det_carith {P : Program} {op : BinOp} {a b c : Nat} (h : det P (Op.floatArith op .f64 a b) = some (.float .f64 c)) : det P (Op.Complex.arith op .f64 a b) = some c := by
  unfold Op.Complex.arith
  rw [det_bind, h]
  rfl
theorem det_cadd {P : Program} {t : TypeId} {x y : Operand} {a b c d r i : Nat} (h1 : fadd a c = some r) (h2 : fadd b d = some i) : det P (do eqGuard .add t x y (.complex .f64 a b) (.complex .f64 c d); binOp .add t (.complex .f64 a b) (.complex .f64 c d)) = some (.complex .f64 r i) := by
  show det P ((Op.Complex.arith .add .f64 a c) >>= fun r => (Op.Complex.arith .add .f64 b d) >>= fun i => pure (Value.complex .f64 r i)) = _
  rw [det_bind, det_carith (det_arith (op := .add) (k := .f64) (by simpa [fadd] using h1))]
  simp only
  rw [det_bind, det_carith (det_arith (op := .add) (k := .f64) (by simpa [fadd] using h2))]
  rfl
theorem det_i2f {P : Program} {s d : TypeId} {k ks : IntKind} {n : Int} (h1 : P.underlying s = some (.int ks)) (h2 : P.underlying d = some (.float .f64)) : det P (convert s d (.int k n)) = some (.float .f64 (i2f n)) := by
  simp only [convert, det_bind, det_und h1, det_und h2]
  rfl
theorem det_f2i {P : Program} {s d : TypeId} {k : IntKind} {x : Nat} {n : Int} (h1 : P.underlying s = some (.float .f64)) (h2 : P.underlying d = some (.int k)) (h : f2i k x = some n) : det P (convert s d (.float .f64 x)) = some (.int k n) := by
  simp only [convert, det_bind, det_und h1, det_und h2]
  unfold f2i at h
  simp only [Conv.floatToInt]
  split at h
  · rename_i m hm
    rw [hm]
    split at h
    · rename_i hb
      injection h with h; subst h
      simp only [if_pos hb]
      rfl
    · cases h
  · cases h
theorem det_min (P : Program) (tys : Array TypeId) (ty : TypeId) (cs : Array Bool) (k : IntKind) (a b : Int) : det P (builtin .min tys ty cs #[.int k a, .int k b]) = some (.value (.int k (minI a b))) := rfl
theorem det_max (P : Program) (tys : Array TypeId) (ty : TypeId) (cs : Array Bool) (k : IntKind) (a b : Int) : det P (builtin .max tys ty cs #[.int k a, .int k b]) = some (.value (.int k (maxI a b))) := rfl

/-! ### Nil arguments -/
def deNil : PV → PV
  | .sl _ true [] => .sl .view false []
  | x => x
end Go.AM
