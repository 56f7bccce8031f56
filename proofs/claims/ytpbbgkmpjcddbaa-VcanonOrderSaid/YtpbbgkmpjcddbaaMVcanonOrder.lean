/- Models, printed by wip/gen.py. -/
import Derived.Test.YtpbbgkmpjcddbaaMd
set_option linter.all false
namespace Go.AM.M
open Go.AM



/-- lontar/lontarlaw10.VcanonOrder -/
def lontarlaw10_VcanonOrder (n : Int) (a : Int) (b : Int) : Option Bool :=
  (lontarlaw10_awake).bind fun q =>
  if q = true then
    (lontarlaw09_Letter ((w64 n).tmod 148)).bind fun q1 =>
    (nthI [774, 770, 795] (a.tmod 3)).bind fun x_ =>
    (nthI [768, 769, 777, 771, 803] (b.tmod 5)).bind fun x_1 =>
    (vcanon_All [q1.2.1, x_, x_1]).bind fun q2 =>
    (vcanon_All [q1.2.1, x_1, x_]).bind fun q3 =>
    (viet_Split q1.2.1).bind fun q4 =>
    (viet_Sign x_).bind fun q5 =>
    (viet_Sign x_1).bind fun q6 =>
    (viet_Add q4.1 q5.1).bind fun q7 =>
    (viet_Add q7.1 q6.1).bind fun q8 =>
    if q4.2 = true then
      if q7.2 = true then
        if q8.2 = true then
          (viet_Add q4.1 q6.1).bind fun q9 =>
          if q9.2 = true then
            if (q2.length : Int) = 1 then
              (lontarlaw01_Units q2 q3).bind fun q10 =>
              some q10
            else
              some false
          else
            if (q2.length : Int) = 1 then
              some (decide ((q3.length : Int) ≥ 1))
            else
              some false
        else
          if (q2.length : Int) > 1 then
            some (decide ((q3.length : Int) > 1))
          else
            some false
      else
        if (q2.length : Int) > 1 then
          some (decide ((q3.length : Int) > 1))
        else
          some false
    else
      if (q2.length : Int) > 1 then
        some (decide ((q3.length : Int) > 1))
      else
        some false
  else
    some false
end Go.AM.M
