/- The model of VisciiRules answers true at every byte. -/
import Derived.Test.YtpbbgkmpjcddbaaMVisciiRules
import Derived.Test.YtpbbgkmpjcddbaaP0
set_option linter.all false
namespace Go.AM.M
open Go.AM
theorem visciiRules_k : ((List.range 256).all fun n => decide (lontarlaw11_VisciiRules n = some true)) = true := by kernel_rfl
theorem visciiRules_true (n : Int) (h : (Lit.int .u8 n).wf = true) : lontarlaw11_VisciiRules n = some true :=
  of_decide_eq_true (upto (p := fun n => decide (lontarlaw11_VisciiRules n = some true)) visciiRules_k (wf_u8 h).1 (wf_u8 h).2)
end Go.AM.M
