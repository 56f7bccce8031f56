/- The model of VcanonAll answers true. -/
import Derived.Test.YtpbbgkmpjcddbaaMVcanonAll
import Derived.Test.YtpbbgkmpjcddbaaPcan5
set_option linter.all false
namespace Go.AM.M
open Go.AM
theorem vcanonAll_true (l ss : List Int) (hl : ∀ z ∈ l, (Lit.int .u8 z).wf = true) : lontarlaw10_VcanonAll l ss = some true := by
  obtain ⟨x, h1, h2⟩ := some_eq l hl
  have h3 : (ss.take 60).length ≤ 60 := by simp; omega
  have k1 := (canG_len x).1
  have k2 := (canG_len (ss.take 60)).1
  unfold lontarlaw10_VcanonAll
  rw [awake10, Option.bind_some, if_pos rfl, h1, Option.bind_some, slice60, Option.bind_some, all_eq x (by omega), Option.bind_some, canon_eq x (by omega), Option.bind_some, units_same _ (by omega), Option.bind_some, if_pos rfl,
    all_eq _ (by omega), Option.bind_some, canon_eq _ (by omega), Option.bind_some, units_same _ (by omega), Option.bind_some]
end Go.AM.M
