/- The law VietSplit returns true at every input. -/
import Derived.Test.YtpbbgkmpjcddbaaYVietSplit
import Derived.Test.YtpbbgkmpjcddbaaPVietSplit
set_option linter.all false
namespace Go.Proofs.Ytpbbgkmpjcddbaa
open Go.AM Go.AM.M
theorem w_VietSplit (a0 : Int) (a1 : Int) (w0 : (Lit.int .i64 a0).wf = true) (w1 : (Lit.int .u16 a1).wf = true) : AbsCall Try.prog 10 [.lit (.int .i64 a0), .lit (.int .u16 a1)] [] (.lit (.bool true)) [] :=
  (knows_lontarlaw09_VietSplit a0 a1 (vietSplit_true a0 a1 w0 w1)).2
end Go.Proofs.Ytpbbgkmpjcddbaa
