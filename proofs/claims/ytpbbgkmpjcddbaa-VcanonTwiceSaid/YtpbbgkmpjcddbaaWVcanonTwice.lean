/- The law VcanonTwice returns true at every input. -/
import Derived.Test.YtpbbgkmpjcddbaaYVcanonTwice
import Derived.Test.YtpbbgkmpjcddbaaPVcanonTwice
set_option linter.all false
namespace Go.Proofs.Ytpbbgkmpjcddbaa
open Go.AM Go.AM.M
theorem w_VcanonTwice (a0 : List Int) (a1 : List Int) (w0 : ∀ z ∈ a0, (Lit.int .u8 z).wf = true) (w1 : ∀ z ∈ a1, (Lit.int .i64 z).wf = true) : AbsCall Try.prog 17 [.sl .view false (eI .u8 a0), .sl .view false (eI .i64 a1)] [] (.lit (.bool true)) [] :=
  (knows_lontarlaw10_VcanonTwice a0 a1 (vcanonTwice_true a0 a1 w0)).2
end Go.Proofs.Ytpbbgkmpjcddbaa
