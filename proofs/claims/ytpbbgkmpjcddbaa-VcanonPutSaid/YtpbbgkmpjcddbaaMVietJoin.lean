/- Models, printed by wip/gen.py. -/
import Derived.Test.YtpbbgkmpjcddbaaMa
set_option linter.all false
namespace Go.AM.M
open Go.AM



inductive lontarlaw09_VietJoin_L0_R where
  | x0
  | x1
  | x2 (v : Int) (v1 : Bool)

def lontarlaw09_VietJoin_L0 (mark : Int) (tone : Int) (re : Nat) (im : Nat) (c : Int) (vv : Int) : Option ((Int) ⊕ (lontarlaw09_VietJoin_L0_R)) :=
  match vv with
  | v =>
    if v < ([((i2f (mark.tmod 6)), (i2f (tone.tmod 7))), (re, (i2f (tone.tmod 7))), ((i2f (mark.tmod 6)), im), (re, im)].length : Int) then
      (nthI [((i2f (mark.tmod 6)), (i2f (tone.tmod 7))), (re, (i2f (tone.tmod 7))), ((i2f (mark.tmod 6)), im), (re, im)] v).bind fun x_ =>
      (viet_Join (⟨(w64 c), x_⟩ : GVietLetter)).bind fun q1 =>
      (lontarlaw09_Join (w64 c) x_.1 x_.2).bind fun q2 =>
      if q1.1 = q2.1 then
        if (q1.2 != q2.2) = true then
          some (.inr (.x0))
        else
          some (.inl (w64 (v + 1)))
      else
        some (.inr (.x1))
    else
      some (.inr (.x2 v (decide (v < ([((i2f (mark.tmod 6)), (i2f (tone.tmod 7))), (re, (i2f (tone.tmod 7))), ((i2f (mark.tmod 6)), im), (re, im)].length : Int)))))

/-- lontar/lontarlaw09.VietJoin -/
def lontarlaw09_VietJoin (base : Int) (mark : Int) (tone : Int) (re : Nat) (im : Nat) : Option Bool :=
  (lontarlaw09_awake).bind fun q =>
  if q = true then
    (strI (ByteArray.mk #[97, 101, 105, 111, 117, 121, 100, 65, 69, 73, 79, 85, 89, 68, 120, 122]) (base.tmod 16)).bind fun c =>
    (loopM (lontarlaw09_VietJoin_L0 mark tone re im c) FU 0).bind fun l14 =>
    match l14 with
    | .x0 =>
      some false
    | .x1 =>
      some false
    | .x2 v v1 =>
      some true
  else
    some false
end Go.AM.M
