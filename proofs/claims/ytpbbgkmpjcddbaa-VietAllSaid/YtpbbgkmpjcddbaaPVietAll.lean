/- The model of VietAll answers true at every byte. -/
import Derived.Test.YtpbbgkmpjcddbaaMVietAll
import Derived.Test.YtpbbgkmpjcddbaaP0
set_option linter.all false
namespace Go.AM.M
open Go.AM
theorem vietAll_k : ((List.range 256).all fun n => decide (lontarlaw09_VietAll n = some true)) = true := by kernel_rfl
theorem vietAll_true (n : Int) (h : (Lit.int .u8 n).wf = true) : lontarlaw09_VietAll n = some true :=
  of_decide_eq_true (upto (p := fun n => decide (lontarlaw09_VietAll n = some true)) vietAll_k (wf_u8 h).1 (wf_u8 h).2)
end Go.AM.M
