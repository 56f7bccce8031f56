/- The law VcanonParts returns true at every input. -/
import Derived.Test.YtpbbgkmpjcddbaaYVcanonParts
import Derived.Test.YtpbbgkmpjcddbaaPVcanonParts
set_option linter.all false
namespace Go.Proofs.Ytpbbgkmpjcddbaa
open Go.AM Go.AM.M
theorem w_VcanonParts (a0 : List Int) (a1 : List Int) (w0 : ∀ z ∈ a0, (Lit.int .u8 z).wf = true) (w1 : ∀ z ∈ a1, (Lit.int .u8 z).wf = true) : AbsCall Try.prog 21 [.sl .view false (eI .u8 a0), .sl .view false (eI .u8 a1)] [] (.lit (.bool true)) [] :=
  (knows_lontarlaw10_VcanonParts a0 a1 (vcanonParts_true a0 a1 w0 w1)).2
end Go.Proofs.Ytpbbgkmpjcddbaa
