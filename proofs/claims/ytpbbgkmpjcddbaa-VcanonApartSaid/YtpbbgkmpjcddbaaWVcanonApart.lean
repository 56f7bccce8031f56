/- The law VcanonApart returns true at every input. -/
import Derived.Test.YtpbbgkmpjcddbaaYVcanonApart
import Derived.Test.YtpbbgkmpjcddbaaPVcanonApart
set_option linter.all false
namespace Go.Proofs.Ytpbbgkmpjcddbaa
open Go.AM Go.AM.M
theorem w_VcanonApart (a0 : List Int) (a1 : List Int) (w0 : ∀ z ∈ a0, (Lit.int .u8 z).wf = true) (w1 : ∀ z ∈ a1, (Lit.int .i64 z).wf = true) : AbsCall Try.prog 18 [.sl .view false (eI .u8 a0), .sl .view false (eI .i64 a1)] [] (.lit (.bool true)) [] :=
  (knows_lontarlaw10_VcanonApart a0 a1 (vcanonApart_true a0 a1 w0)).2
end Go.Proofs.Ytpbbgkmpjcddbaa
