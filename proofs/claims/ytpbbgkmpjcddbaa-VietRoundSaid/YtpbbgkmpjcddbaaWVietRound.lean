/- The law VietRound returns true at every input. -/
import Derived.Test.YtpbbgkmpjcddbaaYVietRound
import Derived.Test.YtpbbgkmpjcddbaaPVietRound
set_option linter.all false
namespace Go.Proofs.Ytpbbgkmpjcddbaa
open Go.AM Go.AM.M
theorem w_VietRound (a0 : Int) (a1 : Int) (w0 : (Lit.int .u8 a0).wf = true) (w1 : (Lit.int .u8 a1).wf = true) : AbsCall Try.prog 13 [.lit (.int .u8 a0), .lit (.int .u8 a1)] [] (.lit (.bool true)) [] :=
  (knows_lontarlaw09_VietRound a0 a1 (vietRound_true a0 a1 w0 w1)).2
end Go.Proofs.Ytpbbgkmpjcddbaa
