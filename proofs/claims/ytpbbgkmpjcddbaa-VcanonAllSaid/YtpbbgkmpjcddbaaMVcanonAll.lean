/- Models, printed by wip/gen.py. -/
import Derived.Test.YtpbbgkmpjcddbaaMd
set_option linter.all false
namespace Go.AM.M
open Go.AM



/-- lontar/lontarlaw10.VcanonAll -/
def lontarlaw10_VcanonAll (l : (List Int)) (ss : (List Int)) : Option Bool :=
  (lontarlaw10_awake).bind fun q =>
  if q = true then
    (lontarlaw10_Some l).bind fun q1 =>
    (sliceI ss (0 : Int) (minI (ss.length : Int) 60)).bind fun v =>
    (vcanon_All q1).bind fun q2 =>
    (lontarlaw10_canon q1).bind fun q3 =>
    (lontarlaw01_Units q2 q3).bind fun q4 =>
    if q4 = true then
      (vcanon_All v).bind fun q5 =>
      (lontarlaw10_canon v).bind fun q6 =>
      (lontarlaw01_Units q5 q6).bind fun q7 =>
      some q7
    else
      some false
  else
    some false
end Go.AM.M
