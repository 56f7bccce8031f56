/- The abstract machine, 29: functions without boxes, whatever boxes there are. -/
import Derived.Test.YtpbbgkmpjcddbaaA28
import Derived.Test.YtpbbgkmpjcddbaaA22
set_option linter.all false
namespace Go.AM

theorem AbsCall.frameK {P : Program} {f : FuncId} {args : List PV} {r : PV} (h : AbsCall P f args [] r []) (ha : noRefs 0 args = true) (hr : r.noAl = true) (k : Prop) (σ : List Bx) : AbsK P k f args σ r σ := by
  intro g us w hi
  refine (h g.hide us w (hi.hide ha)).mono ?_
  rintro e w' ⟨rv, gc, rfl, h1, h2⟩
  obtain ⟨k1, k2⟩ := hi.unhide h1 hr h2
  refine ⟨rv, _, rfl, k1, k2, fun _ id b hb => ?_⟩
  have ho := hi.rown id b hb
  exact h2.keep b (hi.olt b _ ho) (.inr (by show hidO (g.ow b) = _; rw [ho]; rfl))

/-- A function that needs no box, known in any store. -/
def Knows (P : Program) (f : FuncId) (args : List PV) (r : PV) : Prop := (∃ fn, P.funcs[f]? = some fn ∧ fn.body.isSome = true) ∧ AbsCall P f args [] r []
theorem Knows.call {P : Program} {f : FuncId} {args : List PV} {r : PV} (h : Knows P f args r) (ha : noRefs 0 args = true) (hr : r.noAl = true) (kp : Bool) (σ : List Bx) : CallK P kp f args σ r σ := ⟨h.1, h.2.frameK ha hr _ σ⟩
theorem Knows.of {C : Ctx} (hW : WF C.P) {f : FuncId} {fn : Func} (hfn : C.P.funcs[f]? = some fn) {cs : List CI} {args : List PV} {r : PV} {ps : List Prop}
    (he : fnH C fn false cs args [] = some (r, [], ps)) (hp : allP ps) : Knows C.P f args r := fnH_sound hW hfn he hp
theorem callK_of {P : Program} {f : FuncId} {args : List PV} {σ σ' : List Bx} {r : PV} (h : (∃ fn, P.funcs[f]? = some fn ∧ fn.body.isSome = true) ∧ AbsCall P f args σ r σ') : CallK P false f args σ r σ' :=
  ⟨h.1, fun g us w hi => (h.2 g us w hi).mono fun e w' ⟨rv, gc, h1, h2, h3⟩ => ⟨rv, gc, h1, h2, h3, fun hf => by cases hf⟩⟩

/-! ### Typed values -/
/-- Whole numbers as elements. -/
def eI (k : IntKind) (l : List Int) : List (List PV) := l.map fun z => [.lit (.int k z)]
theorem eI_noRef (n : Nat) (k : IntKind) (l : List Int) : noRefss n (eI k l) = true := by
  induction l with
  | nil => rfl
  | cons z r ih => simp only [eI, List.map_cons, noRefss, noRefs, noRef, Bool.and_self, Bool.true_and]; exact ih

def nthI {α : Type} (l : List α) (i : Int) : Option α := if 0 ≤ i then l[i.toNat]? else none
theorem nth_map {α : Type} {l : List α} {i : Int} {x : α} (e : α → List PV) (h : nthI l i = some x) : nthPV (l.map e) i = some (e x) := by
  unfold nthI at h
  split at h
  · rename_i h0
    obtain ⟨h1, h2⟩ := List.getElem?_eq_some_iff.1 h
    unfold nthPV
    rw [if_pos ⟨h0, by rw [List.length_map]; omega⟩]
    simp [h1, h2]
  · cases h
end Go.AM
