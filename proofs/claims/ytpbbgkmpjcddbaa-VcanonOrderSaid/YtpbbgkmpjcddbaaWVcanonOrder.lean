/- The law VcanonOrder returns true at every input. -/
import Derived.Test.YtpbbgkmpjcddbaaYVcanonOrder
import Derived.Test.YtpbbgkmpjcddbaaPVcanonOrder
set_option linter.all false
namespace Go.Proofs.Ytpbbgkmpjcddbaa
open Go.AM Go.AM.M
theorem w_VcanonOrder (a0 : Int) (a1 : Int) (a2 : Int) (w0 : (Lit.int .u8 a0).wf = true) (w1 : (Lit.int .u8 a1).wf = true) (w2 : (Lit.int .u8 a2).wf = true) : AbsCall Try.prog 20 [.lit (.int .u8 a0), .lit (.int .u8 a1), .lit (.int .u8 a2)] [] (.lit (.bool true)) [] :=
  (knows_lontarlaw10_VcanonOrder a0 a1 a2 (vcanonOrder_true a0 a1 a2 w0 w1 w2)).2
end Go.Proofs.Ytpbbgkmpjcddbaa
