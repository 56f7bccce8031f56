/- Models, printed by wip/gen.py. -/
import Derived.Test.YtpbbgkmpjcddbaaMd
set_option linter.all false
namespace Go.AM.M
open Go.AM



/-- lontar/lontarlaw10.VcanonParts -/
def lontarlaw10_VcanonParts (a : (List Int)) (b : (List Int)) : Option Bool :=
  (lontarlaw10_awake).bind fun q =>
  if q = true then
    (lontarlaw10_Some a).bind fun q1 =>
    (lontarlaw10_Some b).bind fun q2 =>
    guardO ((List.length [120] + List.length q2) * 8 ≤ 2 ^ 46) <|
    guardO ((List.length q1) * 8 ≤ 2 ^ 46) <|
    guardO ((List.length q1 + List.length ([120] ++ q2)) * 8 ≤ 2 ^ 46) <|
    (vcanon_All (q1 ++ ([120] ++ q2))).bind fun q3 =>
    (vcanon_All q1).bind fun q4 =>
    (vcanon_All ([120] ++ q2)).bind fun q5 =>
    guardO ((List.length q4 + List.length q5) * 8 ≤ 2 ^ 46) <|
    (lontarlaw01_Units q3 (q4 ++ q5)).bind fun q6 =>
    some q6
  else
    some false
end Go.AM.M
