/- Models, printed by wip/gen.py. -/
import Derived.Test.YtpbbgkmpjcddbaaMd
set_option linter.all false
namespace Go.AM.M
open Go.AM



def lontarlaw10_VcanonApart_L0 (q1 : (List Int)) (v : (List Int)) (vv : (List Int) × Int) : Option (((List Int) × Int) ⊕ ((List Int) × Int × Bool)) :=
  match vv with
  | (want, v1) =>
    if v1 < ((q1 ++ v).length : Int) then
      (nthI (q1 ++ v) v1).bind fun x_ =>
      (lontarlaw09_Split x_).bind fun q2 =>
      if q2.2 = true then
        if feq q2.1.sign.1 4616189618054758400 = true then
          guardO ((List.length want + List.length [x_]) * 8 ≤ 2 ^ 46) <|
          some (.inl ((want ++ [x_]), (w64 (v1 + 1))))
        else
          guardO ((List.length want + List.length [q2.1.base]) * 8 ≤ 2 ^ 46) <|
          (f2i .i64 q2.1.sign.1).bind fun v2 =>
          if v2 > 0 then
            (nthI [0, 774, 770, 795] v2).bind fun x_1 =>
            guardO ((List.length (want ++ [q2.1.base]) + List.length [x_1]) * 8 ≤ 2 ^ 46) <|
            (f2i .i64 q2.1.sign.2).bind fun v3 =>
            if v3 > 0 then
              (nthI [0, 768, 769, 777, 771, 803] v3).bind fun x_2 =>
              guardO ((List.length ((want ++ [q2.1.base]) ++ [x_1]) + List.length [x_2]) * 8 ≤ 2 ^ 46) <|
              some (.inl ((((want ++ [q2.1.base]) ++ [x_1]) ++ [x_2]), (w64 (v1 + 1))))
            else
              some (.inl (((want ++ [q2.1.base]) ++ [x_1]), (w64 (v1 + 1))))
          else
            (f2i .i64 q2.1.sign.2).bind fun v3 =>
            if v3 > 0 then
              (nthI [0, 768, 769, 777, 771, 803] v3).bind fun x_1 =>
              guardO ((List.length (want ++ [q2.1.base]) + List.length [x_1]) * 8 ≤ 2 ^ 46) <|
              some (.inl (((want ++ [q2.1.base]) ++ [x_1]), (w64 (v1 + 1))))
            else
              some (.inl ((want ++ [q2.1.base]), (w64 (v1 + 1))))
      else
        guardO ((List.length want + List.length [x_]) * 8 ≤ 2 ^ 46) <|
        some (.inl ((want ++ [x_]), (w64 (v1 + 1))))
    else
      some (.inr (want, v1, (decide (v1 < ((q1 ++ v).length : Int)))))

/-- lontar/lontarlaw10.VcanonApart -/
def lontarlaw10_VcanonApart (l : (List Int)) (ss : (List Int)) : Option Bool :=
  (lontarlaw10_awake).bind fun q =>
  if q = true then
    (lontarlaw10_Some l).bind fun q1 =>
    (sliceI ss (0 : Int) (minI (ss.length : Int) 30)).bind fun v =>
    guardO ((List.length q1 + List.length v) * 8 ≤ 2 ^ 46) <|
    (loopM (lontarlaw10_VcanonApart_L0 q1 v) FU ([], 0)).bind fun l53 =>
    match l53 with
    | (want, v1, v2) =>
      (vcanon_Apart (q1 ++ v)).bind fun q2 =>
      (lontarlaw01_Units q2 want).bind fun q3 =>
      some q3
  else
    some false
end Go.AM.M
