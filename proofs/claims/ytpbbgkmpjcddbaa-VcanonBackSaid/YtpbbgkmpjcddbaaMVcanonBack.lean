/- Models, printed by wip/gen.py. -/
import Derived.Test.YtpbbgkmpjcddbaaMd
set_option linter.all false
namespace Go.AM.M
open Go.AM



/-- lontar/lontarlaw10.VcanonBack -/
def lontarlaw10_VcanonBack (l : (List Int)) : Option Bool :=
  (lontarlaw10_awake).bind fun q =>
  if q = true then
    (lontarlaw10_Some l).bind fun q1 =>
    (vcanon_Apart q1).bind fun q2 =>
    (vcanon_All q2).bind fun q3 =>
    (vcanon_All q1).bind fun q4 =>
    (lontarlaw01_Units q3 q4).bind fun q5 =>
    if q5 = true then
      (vcanon_Apart q1).bind fun q6 =>
      some (decide ((q6.length : Int) ≥ (q1.length : Int)))
    else
      some false
  else
    some false
end Go.AM.M
