/- The law VcanonPut returns true at every input. -/
import Derived.Test.YtpbbgkmpjcddbaaYVcanonPut
import Derived.Test.YtpbbgkmpjcddbaaPVcanonPut
set_option linter.all false
namespace Go.Proofs.Ytpbbgkmpjcddbaa
open Go.AM Go.AM.M
theorem w_VcanonPut (a0 : List Int) (w0 : ∀ z ∈ a0, (Lit.int .u8 z).wf = true) : AbsCall Try.prog 22 [.sl .view false (eI .u8 a0)] [] (.lit (.bool true)) [] :=
  (knows_lontarlaw10_VcanonPut a0 (vcanonPut_true a0 w0)).2
end Go.Proofs.Ytpbbgkmpjcddbaa
