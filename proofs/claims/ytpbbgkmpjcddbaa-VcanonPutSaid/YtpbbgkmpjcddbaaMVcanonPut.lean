/- Models, printed by wip/gen.py. -/
import Derived.Test.YtpbbgkmpjcddbaaMd
set_option linter.all false
namespace Go.AM.M
open Go.AM



inductive lontarlaw10_VcanonPut_L0_R where
  | x0 (m : Int) (m_re : Nat) (m_im : Nat) (m1 : Bool) (m2 : Int) (m_re1 : Nat) (m_im1 : Nat)
  | x1 (m : Int) (m_re : Nat) (m_im : Nat) (m1 : Bool) (m2 : Int) (m_re1 : Nat) (m_im1 : Nat)
  | x2 (m : Int) (m_re : Nat) (m_im : Nat) (m1 : Bool) (m2 : Int) (m_re1 : Nat) (m_im1 : Nat)
  | x3 (m : Int) (m_re : Nat) (m_im : Nat) (m1 : Bool) (m2 : Int) (m_re1 : Nat) (m_im1 : Nat)
  | x4 (m : Int) (m_re : Nat) (m_im : Nat) (m1 : Bool) (m2 : Int) (m_re1 : Nat) (m_im1 : Nat)
  | x5 (m : Int) (m_re : Nat) (m_im : Nat) (m1 : Bool) (m2 : Int) (m_re1 : Nat) (m_im1 : Nat)
  | x6 (m : Int) (m_re : Nat) (m_im : Nat) (m1 : Bool) (m2 : Int) (m_re1 : Nat) (m_im1 : Nat)
  | x7 (m : Int) (m_re : Nat) (m_im : Nat) (m1 : Bool) (m2 : Int) (m_re1 : Nat) (m_im1 : Nat)
  | x8 (m : Int) (m_re : Nat) (m_im : Nat) (m1 : Bool) (m2 : Int) (m_re1 : Nat) (m_im1 : Nat)
  | x9 (out_ : List Int) (v : Int) (v1 : Bool) (m : Int) (m_re : Nat) (m_im : Nat) (m1 : Bool)

def lontarlaw10_VcanonPut_L0 (q1 : (List Int)) (vv : (List Int) × Int × Int × Nat × Nat × Bool) : Option (((List Int) × Int × Int × Nat × Nat × Bool) ⊕ (lontarlaw10_VcanonPut_L0_R)) :=
  match vv with
  | (out_, v, m, m_re, m_im, m1) =>
    if v < (q1.length : Int) then
      (nthI q1 v).bind fun x_ =>
      (vcanon_Canon_Put (⟨m, (m_re, m_im), m1⟩ : GVcanonCanon) x_).bind fun q2 =>
      guardO ((List.length out_ + List.length q2.1) * 8 ≤ 2 ^ 46) <|
      (sliceI q1 (0 : Int) (w64 (v + 1))).bind fun v1 =>
      (lontarlaw10_canon v1).bind fun q3 =>
      (viet_Split x_).bind fun q4 =>
      if q4.2 = true then
        (vcanon_Canon_Held q2.2).bind fun q5 =>
        if (w64 (((out_ ++ q2.1).length : Int) + q5.1)) = (q3.length : Int) then
          (sliceI q3 (0 : Int) ((out_ ++ q2.1).length : Int)).bind fun v2 =>
          (lontarlaw01_Units (out_ ++ q2.1) v2).bind fun q6 =>
          if q6 = true then
            (vcanon_Canon_Held q5.2).bind fun q7 =>
            if q7.1 = 1 then
              (vcanon_Canon_Held q7.2).bind fun q8 =>
              if q8.1 > 1 then
                some (.inr (.x0 q8.2.letter_base q8.2.letter_sign.1 q8.2.letter_sign.2 q8.2.is q4.1.base q4.1.sign.1 q4.1.sign.2))
              else
                some (.inl ((out_ ++ q2.1), (w64 (v + 1)), q8.2.letter_base, q8.2.letter_sign.1, q8.2.letter_sign.2, q8.2.is))
            else
              some (.inr (.x1 q7.2.letter_base q7.2.letter_sign.1 q7.2.letter_sign.2 q7.2.is q4.1.base q4.1.sign.1 q4.1.sign.2))
          else
            some (.inr (.x2 q5.2.letter_base q5.2.letter_sign.1 q5.2.letter_sign.2 q5.2.is q4.1.base q4.1.sign.1 q4.1.sign.2))
        else
          some (.inr (.x3 q5.2.letter_base q5.2.letter_sign.1 q5.2.letter_sign.2 q5.2.is q4.1.base q4.1.sign.1 q4.1.sign.2))
      else
        (vcanon_Canon_Held q2.2).bind fun q5 =>
        (vcanon_Canon_Held q5.2).bind fun q6 =>
        if (w64 (((out_ ++ q2.1).length : Int) + q6.1)) = (q3.length : Int) then
          (sliceI q3 (0 : Int) ((out_ ++ q2.1).length : Int)).bind fun v2 =>
          (lontarlaw01_Units (out_ ++ q2.1) v2).bind fun q7 =>
          if q7 = true then
            if q5.1 = 1 then
              (vcanon_Canon_Held q6.2).bind fun q8 =>
              if q8.1 > 1 then
                some (.inr (.x4 q8.2.letter_base q8.2.letter_sign.1 q8.2.letter_sign.2 q8.2.is q4.1.base q4.1.sign.1 q4.1.sign.2))
              else
                some (.inl ((out_ ++ q2.1), (w64 (v + 1)), q8.2.letter_base, q8.2.letter_sign.1, q8.2.letter_sign.2, q8.2.is))
            else
              (vcanon_Canon_Held q6.2).bind fun q8 =>
              if q8.1 = 0 then
                (vcanon_Canon_Held q8.2).bind fun q9 =>
                if q9.1 > 1 then
                  some (.inr (.x5 q9.2.letter_base q9.2.letter_sign.1 q9.2.letter_sign.2 q9.2.is q4.1.base q4.1.sign.1 q4.1.sign.2))
                else
                  some (.inl ((out_ ++ q2.1), (w64 (v + 1)), q9.2.letter_base, q9.2.letter_sign.1, q9.2.letter_sign.2, q9.2.is))
              else
                some (.inr (.x6 q8.2.letter_base q8.2.letter_sign.1 q8.2.letter_sign.2 q8.2.is q4.1.base q4.1.sign.1 q4.1.sign.2))
          else
            some (.inr (.x7 q6.2.letter_base q6.2.letter_sign.1 q6.2.letter_sign.2 q6.2.is q4.1.base q4.1.sign.1 q4.1.sign.2))
        else
          some (.inr (.x8 q6.2.letter_base q6.2.letter_sign.1 q6.2.letter_sign.2 q6.2.is q4.1.base q4.1.sign.1 q4.1.sign.2))
    else
      some (.inr (.x9 out_ v (decide (v < (q1.length : Int))) m m_re m_im m1))

/-- lontar/lontarlaw10.VcanonPut -/
def lontarlaw10_VcanonPut (l : (List Int)) : Option Bool :=
  (lontarlaw10_awake).bind fun q =>
  if q = true then
    (lontarlaw10_Some l).bind fun q1 =>
    (loopM (lontarlaw10_VcanonPut_L0 q1) FU ([], 0, 0, 0, 0, false)).bind fun l54 =>
    match l54 with
    | .x0 m m_re m_im m1 m2 m_re1 m_im1 =>
      some false
    | .x1 m m_re m_im m1 m2 m_re1 m_im1 =>
      some false
    | .x2 m m_re m_im m1 m2 m_re1 m_im1 =>
      some false
    | .x3 m m_re m_im m1 m2 m_re1 m_im1 =>
      some false
    | .x4 m m_re m_im m1 m2 m_re1 m_im1 =>
      some false
    | .x5 m m_re m_im m1 m2 m_re1 m_im1 =>
      some false
    | .x6 m m_re m_im m1 m2 m_re1 m_im1 =>
      some false
    | .x7 m m_re m_im m1 m2 m_re1 m_im1 =>
      some false
    | .x8 m m_re m_im m1 m2 m_re1 m_im1 =>
      some false
    | .x9 out_ v v1 m m_re m_im m1 =>
      (vcanon_Canon_End (⟨m, (m_re, m_im), m1⟩ : GVcanonCanon)).bind fun q2 =>
      guardO ((List.length out_ + List.length q2.1) * 8 ≤ 2 ^ 46) <|
      (lontarlaw10_canon q1).bind fun q3 =>
      (lontarlaw01_Units (out_ ++ q2.1) q3).bind fun q4 =>
      if q4 = true then
        (vcanon_Canon_Held q2.2).bind fun q5 =>
        if q5.1 = 0 then
          (vcanon_Canon_End q5.2).bind fun q6 =>
          some ((q6.1.length : Int) == 0)
        else
          some false
      else
        some false
  else
    some false
end Go.AM.M
