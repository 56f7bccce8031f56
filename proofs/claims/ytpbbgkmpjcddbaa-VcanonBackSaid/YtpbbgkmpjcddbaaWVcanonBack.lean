/- The law VcanonBack returns true at every input. -/
import Derived.Test.YtpbbgkmpjcddbaaYVcanonBack
import Derived.Test.YtpbbgkmpjcddbaaPVcanonBack
set_option linter.all false
namespace Go.Proofs.Ytpbbgkmpjcddbaa
open Go.AM Go.AM.M
theorem w_VcanonBack (a0 : List Int) (w0 : ∀ z ∈ a0, (Lit.int .u8 z).wf = true) : AbsCall Try.prog 19 [.sl .view false (eI .u8 a0)] [] (.lit (.bool true)) [] :=
  (knows_lontarlaw10_VcanonBack a0 (vcanonBack_true a0 w0)).2
end Go.Proofs.Ytpbbgkmpjcddbaa
