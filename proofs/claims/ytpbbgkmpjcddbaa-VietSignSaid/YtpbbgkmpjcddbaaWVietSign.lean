/- The law VietSign returns true at every input. -/
import Derived.Test.YtpbbgkmpjcddbaaYVietSign
import Derived.Test.YtpbbgkmpjcddbaaPVietSign
set_option linter.all false
namespace Go.Proofs.Ytpbbgkmpjcddbaa
open Go.AM Go.AM.M
theorem w_VietSign (a0 : Int) (a1 : Int) (w0 : (Lit.int .i64 a0).wf = true) (w1 : (Lit.int .u8 a1).wf = true) : AbsCall Try.prog 15 [.lit (.int .i64 a0), .lit (.int .u8 a1)] [] (.lit (.bool true)) [] :=
  (knows_lontarlaw09_VietSign a0 a1 (vietSign_true a0 a1 )).2
end Go.Proofs.Ytpbbgkmpjcddbaa
