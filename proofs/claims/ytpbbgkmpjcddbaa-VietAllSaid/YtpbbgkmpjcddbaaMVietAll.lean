/- Models, printed by wip/gen.py. -/
import Derived.Test.YtpbbgkmpjcddbaaMa
set_option linter.all false
namespace Go.AM.M
open Go.AM



/-- lontar/lontarlaw09.VietAll -/
def lontarlaw09_VietAll (n : Int) : Option Bool :=
  (lontarlaw09_awake).bind fun q =>
  if q = true then
    (viet_All).bind fun q1 =>
    if (q1.1.length : Int) = 148 then
      if (q1.2.length : Int) = 148 then
        (lontarlaw09_Letter (w64 n)).bind fun q2 =>
        if q2.2.2 = true then
          (nthI q1.1 n).bind fun x_ =>
          if GVietLetter.eq x_ q2.1 = true then
            (nthI q1.2 n).bind fun x_1 =>
            some (x_1 == q2.2.1)
          else
            some false
        else
          some true
      else
        some false
    else
      some false
  else
    some false
end Go.AM.M
