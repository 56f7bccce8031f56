/- The law VietAll returns true at every input. -/
import Derived.Test.YtpbbgkmpjcddbaaYVietAll
import Derived.Test.YtpbbgkmpjcddbaaPVietAll
set_option linter.all false
namespace Go.Proofs.Ytpbbgkmpjcddbaa
open Go.AM Go.AM.M
theorem w_VietAll (a0 : Int) (w0 : (Lit.int .u8 a0).wf = true) : AbsCall Try.prog 9 [.lit (.int .u8 a0)] [] (.lit (.bool true)) [] :=
  (knows_lontarlaw09_VietAll a0 (vietAll_true a0 w0)).2
end Go.Proofs.Ytpbbgkmpjcddbaa
