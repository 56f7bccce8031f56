/- The abstract machine, 20: what needs no box needs none of anybody's; oracles out of parts. -/
import Derived.Test.YtpbbgkmpjcddbaaA19
set_option linter.all false
namespace Go.AM

/-! ### Oracles -/
abbrev Orc := FuncId → List PV → List Bx → Option (PV × List Bx)
def Orc.none : Orc := fun _ _ _ => .none
/-- One more function is known. -/
def Orc.and (O : Orc) (f : FuncId) (s : List PV → List Bx → Option (PV × List Bx)) : Orc := fun g args σ => if Nat.beq g f then s args σ else O g args σ

theorem SoundC.none (P : Program) : SoundC P Orc.none := fun _ _ _ _ _ h => by cases h
theorem SoundC.and {P : Program} {O : Orc} (h : SoundC P O) {f : FuncId} {fn : Func} (hf : P.funcs[f]? = some fn) (hb : fn.body.isSome = true) {s : List PV → List Bx → Option (PV × List Bx)}
    (hs : ∀ args σ r σ', s args σ = some (r, σ') → AbsCall P f args σ r σ') : SoundC P (O.and f s) := by
  intro g args σ r σ' he
  unfold Orc.and at he
  cases hg : Nat.beq g f with
  | true =>
    rw [hg, if_pos rfl] at he
    have e : g = f := Nat.eq_of_beq_eq_true hg
    subst e
    exact ⟨⟨fn, hf, hb⟩, hs _ _ _ _ he⟩
  | false =>
    rw [hg, if_neg (by simp)] at he
    exact h _ _ _ _ _ he

/-- A function's body under an oracle. -/
theorem AbsCall.of_ev {P : Program} (hW : WF P) {O : Orc} (hO : SoundC P O) {mv : FuncId → Nat → Bool} {hint : FuncId → Nat → Option Hint} {n : Nat} {f : FuncId} {args : List PV} {σ : List Bx} {r : PV} {σ' : List Bx}
    (he : evFn { P, mv, res := fun _ => false, live := fun _ => .none, call := O } hint n f args σ = some (r, σ')) : AbsCall P f args σ r σ' :=
  (evFn_sound (C := { P, mv, res := fun _ => false, live := fun _ => .none, call := O }) hW hO he).2

end Go.AM
