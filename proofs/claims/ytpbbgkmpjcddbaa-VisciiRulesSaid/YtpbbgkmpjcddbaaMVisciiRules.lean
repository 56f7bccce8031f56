/- Models, printed by wip/gen.py. -/
import Derived.Test.YtpbbgkmpjcddbaaMb
set_option linter.all false
namespace Go.AM.M
open Go.AM



def lontarlaw11_VisciiRules_L0 (q1 : (List Int)) (vv : (List GApiRule) × Int) : Option (((List GApiRule) × Int) ⊕ ((List GApiRule) × Int × Bool)) :=
  match vv with
  | (want, v) =>
    if v < (q1.length : Int) then
      (nthI q1 v).bind fun x_ =>
      guardO ((List.length want + List.length [(⟨[v], [x_]⟩ : GApiRule)]) * 48 ≤ 2 ^ 46) <|
      some (.inl ((want ++ [(⟨[v], [x_]⟩ : GApiRule)]), (w64 (v + 1))))
    else
      some (.inr (want, v, (decide (v < (q1.length : Int)))))

/-- lontar/lontarlaw11.VisciiRules -/
def lontarlaw11_VisciiRules (n : Int) : Option Bool :=
  (lontarlaw11_awake).bind fun q =>
  if q = true then
    (lontarlaw11_Table).bind fun q1 =>
    (loopM (lontarlaw11_VisciiRules_L0 q1) FU ([], 0)).bind fun l10 =>
    match l10 with
    | (want, v, v1) =>
      (viscii_Rules).bind fun q2 =>
      (lontarlaw03_Same q2 want).bind fun q3 =>
      if q3 = true then
        if (q2.length : Int) = 256 then
          (nthI q2 n).bind fun x_ =>
          (nthI x_.in' 0).bind fun x_1 =>
          some (x_1 == (w64 n))
        else
          some false
      else
        some false
  else
    some false
end Go.AM.M
