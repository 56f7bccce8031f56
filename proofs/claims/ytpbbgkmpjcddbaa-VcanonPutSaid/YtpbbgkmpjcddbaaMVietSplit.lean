/- Models, printed by wip/gen.py. -/
import Derived.Test.YtpbbgkmpjcddbaaMa
set_option linter.all false
namespace Go.AM.M
open Go.AM



inductive lontarlaw09_VietSplit_L0_R where
  | x0 (m : Int) (m_re : Nat) (m_im : Nat) (m1 : Int) (m_re1 : Nat) (m_im1 : Nat)
  | x1 (m : Int) (m_re : Nat) (m_im : Nat) (m1 : Int) (m_re1 : Nat) (m_im1 : Nat)
  | x2 (v : Int) (v1 : Bool)

def lontarlaw09_VietSplit_L0 (s : Int) (n : Int) (vv : Int) : Option ((Int) ⊕ (lontarlaw09_VietSplit_L0_R)) :=
  match vv with
  | v =>
    if v < ([s, (w64 (n.tmod 544)), (w64 (7824 + (w64 (n.tmod 112))))].length : Int) then
      (nthI [s, (w64 (n.tmod 544)), (w64 (7824 + (w64 (n.tmod 112))))] v).bind fun x_ =>
      (viet_Split x_).bind fun q1 =>
      (lontarlaw09_Split x_).bind fun q2 =>
      if GVietLetter.eq q1.1 q2.1 = true then
        if (q1.2 != q2.2) = true then
          some (.inr (.x0 q1.1.base q1.1.sign.1 q1.1.sign.2 q2.1.base q2.1.sign.1 q2.1.sign.2))
        else
          some (.inl (w64 (v + 1)))
      else
        some (.inr (.x1 q1.1.base q1.1.sign.1 q1.1.sign.2 q2.1.base q2.1.sign.1 q2.1.sign.2))
    else
      some (.inr (.x2 v (decide (v < ([s, (w64 (n.tmod 544)), (w64 (7824 + (w64 (n.tmod 112))))].length : Int)))))

/-- lontar/lontarlaw09.VietSplit -/
def lontarlaw09_VietSplit (s : Int) (n : Int) : Option Bool :=
  (lontarlaw09_awake).bind fun q =>
  if q = true then
    (loopM (lontarlaw09_VietSplit_L0 s n) FU 0).bind fun l14 =>
    match l14 with
    | .x0 m m_re m_im m1 m_re1 m_im1 =>
      some false
    | .x1 m m_re m_im m1 m_re1 m_im1 =>
      some false
    | .x2 v v1 =>
      some true
  else
    some false
end Go.AM.M
