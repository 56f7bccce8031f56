/- Models, printed by wip/gen.py. -/
import Derived.Test.YtpbbgkmpjcddbaaMd
set_option linter.all false
namespace Go.AM.M
open Go.AM



inductive lontarlaw10_VcanonTwice_L0_R where
  | x0
  | x1
  | x2 (v1 : Int) (v2 : Bool)

def lontarlaw10_VcanonTwice_L0 (q1 : (List Int)) (v : (List Int)) (vv : Int) : Option ((Int) ⊕ (lontarlaw10_VcanonTwice_L0_R)) :=
  match vv with
  | v1 =>
    if v1 < ([q1, v].length : Int) then
      (nthI [q1, v] v1).bind fun x_ =>
      (vcanon_All x_).bind fun q2 =>
      if (q2.length : Int) > (x_.length : Int) then
        some (.inr (.x0))
      else
        (vcanon_All q2).bind fun q3 =>
        (lontarlaw01_Units q3 q2).bind fun q4 =>
        if q4 = true then
          some (.inl (w64 (v1 + 1)))
        else
          some (.inr (.x1))
    else
      some (.inr (.x2 v1 (decide (v1 < ([q1, v].length : Int)))))

/-- lontar/lontarlaw10.VcanonTwice -/
def lontarlaw10_VcanonTwice (l : (List Int)) (ss : (List Int)) : Option Bool :=
  (lontarlaw10_awake).bind fun q =>
  if q = true then
    (lontarlaw10_Some l).bind fun q1 =>
    (sliceI ss (0 : Int) (minI (ss.length : Int) 60)).bind fun v =>
    (loopM (lontarlaw10_VcanonTwice_L0 q1 v) FU 0).bind fun l14 =>
    match l14 with
    | .x0 =>
      some false
    | .x1 =>
      some false
    | .x2 v1 v2 =>
      some true
  else
    some false
end Go.AM.M
