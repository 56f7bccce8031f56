/- The law VisciiRules returns true at every input. -/
import Derived.Test.YtpbbgkmpjcddbaaYVisciiRules
import Derived.Test.YtpbbgkmpjcddbaaPVisciiRules
set_option linter.all false
namespace Go.Proofs.Ytpbbgkmpjcddbaa
open Go.AM Go.AM.M
theorem w_VisciiRules (a0 : Int) (w0 : (Lit.int .u8 a0).wf = true) : AbsCall Try.prog 5 [.lit (.int .u8 a0)] [] (.lit (.bool true)) [] :=
  (knows_lontarlaw11_VisciiRules a0 (visciiRules_true a0 w0)).2
end Go.Proofs.Ytpbbgkmpjcddbaa
