/- The model of VcanonBack answers true. -/
import Derived.Test.YtpbbgkmpjcddbaaMVcanonBack
import Derived.Test.YtpbbgkmpjcddbaaPcan8
set_option linter.all false
namespace Go.AM.M
open Go.AM
theorem vcanonBack_true (l : List Int) (hl : ∀ z ∈ l, (Lit.int .u8 z).wf = true) : lontarlaw10_VcanonBack l = some true := by
  obtain ⟨x, h1, h2⟩ := some_eq l hl
  have k := apart_long x
  have c := (canG_len x).1
  unfold lontarlaw10_VcanonBack
  rw [awake10, Option.bind_some, if_pos rfl, h1, Option.bind_some, apart_eq x (by omega), Option.bind_some, all_eq _ (by omega), Option.bind_some, all_eq x (by omega), Option.bind_some, (canG_apart x).1, units_same _ (by omega), Option.bind_some, if_pos rfl, Option.bind_some]
  have : ((x.flatMap apT).length : Int) ≥ (x.length : Int) := by omega
  rw [decide_eq_true this]
end Go.AM.M
