/- The law VietJoin returns true at every input. -/
import Derived.Test.YtpbbgkmpjcddbaaYVietJoin
import Derived.Test.YtpbbgkmpjcddbaaPVietJoin
set_option linter.all false
namespace Go.Proofs.Ytpbbgkmpjcddbaa
open Go.AM Go.AM.M
theorem w_VietJoin (a0 : Int) (a1 : Int) (a2 : Int) (a3 : Nat) (a4 : Nat) (w0 : (Lit.int .u8 a0).wf = true) (w1 : (Lit.int .u8 a1).wf = true) (w2 : (Lit.int .u8 a2).wf = true) (w3 : (Lit.float .f64 a3).wf = true) (w4 : (Lit.float .f64 a4).wf = true) : AbsCall Try.prog 11 [.lit (.int .u8 a0), .lit (.int .u8 a1), .lit (.int .u8 a2), .lit (.float .f64 a3), .lit (.float .f64 a4)] [] (.lit (.bool true)) [] :=
  (knows_lontarlaw09_VietJoin a0 a1 a2 a3 a4 (vietJoin_true a0 a1 a2 a3 a4 w0)).2
end Go.Proofs.Ytpbbgkmpjcddbaa
