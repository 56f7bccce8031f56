/- Models, printed by wip/gen.py. -/
import Derived.Test.YtpbbgkmpjcddbaaMa
set_option linter.all false
namespace Go.AM.M
open Go.AM



/-- lontar/lontarlaw09.VietRound -/
def lontarlaw09_VietRound (n : Int) (m : Int) : Option Bool :=
  (lontarlaw09_awake).bind fun q =>
  if q = true then
    (viet_All).bind fun q1 =>
    if (q1.1.length : Int) = (q1.2.length : Int) then
      if (q1.1.length : Int) = 0 then
        some false
      else
        guardO (¬ (q1.1.length : Int) = 0) <|
        guardO (¬ (q1.1.length : Int) = 0) <|
        (nthI q1.1 ((w64 n).tmod (q1.1.length : Int))).bind fun x_ =>
        (viet_Join x_).bind fun q2 =>
        (nthI q1.2 ((w64 n).tmod (q1.1.length : Int))).bind fun x_1 =>
        (viet_Split x_1).bind fun q3 =>
        if q2.2 = true then
          if q3.2 = true then
            (nthI q1.2 ((w64 n).tmod (q1.1.length : Int))).bind fun x_2 =>
            if q2.1 = x_2 then
              (nthI q1.1 ((w64 n).tmod (q1.1.length : Int))).bind fun x_3 =>
              if GVietLetter.eq q3.1 x_3 = true then
                (nthI q1.2 ((w64 n).tmod (q1.1.length : Int))).bind fun x_4 =>
                (nthI q1.2 ((w64 m).tmod (q1.1.length : Int))).bind fun x_5 =>
                if ((x_4 == x_5) == (((w64 n).tmod (q1.1.length : Int)) == ((w64 m).tmod (q1.1.length : Int)))) = true then
                  if ((w64 n).tmod (q1.1.length : Int)) ≥ (w64 ((q1.1.length : Int).tdiv 2)) then
                    some true
                  else
                    (nthI q1.2 ((w64 n).tmod (q1.1.length : Int))).bind fun x_6 =>
                    (viet_Upper x_6).bind fun q4 =>
                    (nthI q1.2 (w64 (((w64 n).tmod (q1.1.length : Int)) + (w64 ((q1.1.length : Int).tdiv 2))))).bind fun x_7 =>
                    some (q4 == x_7)
                else
                  some false
              else
                some false
            else
              some false
          else
            some false
        else
          some false
    else
      some false
  else
    some false
end Go.AM.M
