/- The model of VcanonTwice answers true. -/
import Derived.Test.YtpbbgkmpjcddbaaMVcanonTwice
import Derived.Test.YtpbbgkmpjcddbaaPcan8
set_option linter.all false
namespace Go.AM.M
open Go.AM
theorem vcanonTwice_true (l ss : List Int) (hl : ∀ z ∈ l, (Lit.int .u8 z).wf = true) : lontarlaw10_VcanonTwice l ss = some true := by
  obtain ⟨x, h1, h2⟩ := some_eq l hl
  have h3 : (ss.take 60).length ≤ 60 := by simp; omega
  unfold lontarlaw10_VcanonTwice
  rw [awake10, Option.bind_some, if_pos rfl, h1, Option.bind_some, slice60, Option.bind_some]
  generalize ss.take 60 = t at *
  have key : ∃ r, loopM (lontarlaw10_VcanonTwice_L0 x t) FU 0 = some r ∧ (match r with | .x2 _ _ => True | _ => False) := by
    refine loop_end (I := fun (v : Int) => 0 ≤ v ∧ v ≤ 2) (μ := fun (v : Int) => (2 - v).toNat) ?_ FU 0 (by omega) (by simp [FU])
    intro v ⟨h0, h1⟩
    by_cases hv : v < 2
    · obtain ⟨y, hy, hl⟩ : ∃ y, nthI [x, t] v = some y ∧ y.length ≤ 60 := by
        have : v = 0 ∨ v = 1 := by omega
        rcases this with rfl | rfl
        · exact ⟨x, rfl, h2⟩
        · exact ⟨t, rfl, h3⟩
      have k1 := (canG_len y).1
      have k2 : ¬ ((canG none y).length : Int) > (y.length : Int) := by omega
      have e1 := all_eq y (by omega)
      have e2 := all_eq (canG none y) (by omega)
      rw [(canG_twice y).1] at e2
      have e3 := units_same (canG none y) (by omega)
      refine .inl ⟨v + 1, ?_, by omega, by omega⟩
      have hl2 : (([x, t].length : Nat) : Int) = 2 := rfl
      simp only [lontarlaw10_VcanonTwice_L0, hl2, if_pos hv, hy, Option.bind_some, e1, if_neg k2, e2, e3, if_true, w64_id (n := v + 1) (by omega) (by omega)]
    · refine .inr ⟨.x2 v (decide (v < 2)), ?_, trivial⟩
      have hl2 : (([x, t].length : Nat) : Int) = 2 := rfl
      simp only [lontarlaw10_VcanonTwice_L0, hl2, if_neg hv]
  obtain ⟨r, k1, k2⟩ := key
  rw [k1]
  cases r <;> first | rfl | cases k2
end Go.AM.M
