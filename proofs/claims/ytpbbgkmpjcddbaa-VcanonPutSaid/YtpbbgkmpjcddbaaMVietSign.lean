/- Models, printed by wip/gen.py. -/
import Derived.Test.YtpbbgkmpjcddbaaMa
set_option linter.all false
namespace Go.AM.M
open Go.AM



def lontarlaw09_VietSign_L1 (q1 : ((List Int) × (List (Nat × Nat)))) (x_ : Int) (vv : Nat × Nat × Bool × Int) : Option ((Nat × Nat × Bool × Int) ⊕ (Nat × Nat × Bool × Int × Bool)) :=
  match vv with
  | (want_re, want_im, is, v1) =>
    if v1 < (q1.1.length : Int) then
      (nthI q1.1 v1).bind fun x_1 =>
      if x_1 = x_ then
        (nthI q1.2 v1).bind fun x_2 =>
        some (.inl (x_2.1, x_2.2, true, (w64 (v1 + 1))))
      else
        some (.inl (want_re, want_im, is, (w64 (v1 + 1))))
    else
      some (.inr (want_re, want_im, is, v1, (decide (v1 < (q1.1.length : Int)))))

inductive lontarlaw09_VietSign_L0_R where
  | x0
  | x1
  | x2 (v : Int) (v1 : Bool)

def lontarlaw09_VietSign_L0 (s : Int) (n : Int) (q1 : ((List Int) × (List (Nat × Nat)))) (vv : Int) : Option ((Int) ⊕ (lontarlaw09_VietSign_L0_R)) :=
  match vv with
  | v =>
    if v < ([s, (w64 (768 + (w64 (n.tmod 48))))].length : Int) then
      (nthI [s, (w64 (768 + (w64 (n.tmod 48))))] v).bind fun x_ =>
      (viet_Sign x_).bind fun q2 =>
      (loopM (lontarlaw09_VietSign_L1 q1 x_) FU (0, 0, false, 0)).bind fun l47 =>
      match l47 with
      | (want_re, want_im, is, v1, v2) =>
        if ceq q2.1.1 q2.1.2 want_re want_im = true then
          if (q2.2 != is) = true then
            some (.inr (.x0))
          else
            some (.inl (w64 (v + 1)))
        else
          some (.inr (.x1))
    else
      some (.inr (.x2 v (decide (v < ([s, (w64 (768 + (w64 (n.tmod 48))))].length : Int)))))

/-- lontar/lontarlaw09.VietSign -/
def lontarlaw09_VietSign (s : Int) (n : Int) : Option Bool :=
  (lontarlaw09_awake).bind fun q =>
  if q = true then
    (lontarlaw09_Marks).bind fun q1 =>
    (loopM (lontarlaw09_VietSign_L0 s n q1) FU 0).bind fun l50 =>
    match l50 with
    | .x0 =>
      some false
    | .x1 =>
      some false
    | .x2 v v1 =>
      some true
  else
    some false
end Go.AM.M
