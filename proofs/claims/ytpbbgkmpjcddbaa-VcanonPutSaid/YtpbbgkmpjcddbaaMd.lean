/- Models, printed by wip/gen.py. -/
import Derived.Test.YtpbbgkmpjcddbaaMa
set_option linter.all false
namespace Go.AM.M
open Go.AM

structure GVcanonCanon where
  letter_base : Int
  letter_sign : (Nat × Nat)
  is : Bool
  deriving Inhabited
def GVcanonCanon.c (v : GVcanonCanon) : List PV := [(.lit (.int .i64 v.letter_base)), (.lit (.complex .f64 v.letter_sign.1 v.letter_sign.2)), (.lit (.bool v.is))]
theorem GVcanonCanon.nr (n : Nat) (v : GVcanonCanon) : noRefs n v.c = true := by
  simp [GVcanonCanon.c, noRefs, noRef, eI_noRef, eB_noRef, eC_noRef, eF_noRef, eS_noRef]
def GVcanonCanon.eq (a b : GVcanonCanon) : Bool := a.letter_base == b.letter_base && ceq a.letter_sign.1 a.letter_sign.2 b.letter_sign.1 b.letter_sign.2 && a.is == b.is

inductive lontarlaw10_sign_L0_R where
  | x0 (v_re : Nat) (v_im : Nat)
  | x1 (v : Int) (v1 : Bool)

def lontarlaw10_sign_L0 (s : Int) (q : ((List Int) × (List (Nat × Nat)))) (vv : Int) : Option ((Int) ⊕ (lontarlaw10_sign_L0_R)) :=
  match vv with
  | v =>
    if v < (q.1.length : Int) then
      (nthI q.1 v).bind fun x_ =>
      if x_ = s then
        (nthI q.2 v).bind fun x_1 =>
        some (.inr (.x0 x_1.1 x_1.2))
      else
        some (.inl (w64 (v + 1)))
    else
      some (.inr (.x1 v (decide (v < (q.1.length : Int)))))

/-- lontar/lontarlaw10.sign -/
def lontarlaw10_sign (s : Int) : Option ((Nat × Nat) × Bool) :=
  (lontarlaw09_Marks).bind fun q =>
  (loopM (lontarlaw10_sign_L0 s q) FU 0).bind fun l9 =>
  match l9 with
  | .x0 v_re v_im =>
    some ((v_re, v_im), true)
  | .x1 v v1 =>
    some ((0, 0), false)

/-- (*lontar/vcanon.Canon).Held -/
def vcanon_Canon_Held (c : GVcanonCanon) : Option (Int × GVcanonCanon) :=
  if c.is = true then
    some (1, c)
  else
    some (0, c)

/-- (*lontar/vcanon.Canon).End -/
def vcanon_Canon_End (c : GVcanonCanon) : Option ((List Int) × GVcanonCanon) :=
  if c.is = true then
    (viet_Join (⟨c.letter_base, c.letter_sign⟩ : GVietLetter)).bind fun q =>
    some ([q.1], (⟨c.letter_base, c.letter_sign, false⟩ : GVcanonCanon))
  else
    some ([], c)

/-- (*lontar/vcanon.Canon).Put -/
def vcanon_Canon_Put (c : GVcanonCanon) (s : Int) : Option ((List Int) × GVcanonCanon) :=
  (viet_Sign s).bind fun q =>
  if q.2 = true then
    if c.is = true then
      (viet_Add (⟨c.letter_base, c.letter_sign⟩ : GVietLetter) q.1).bind fun q1 =>
      if q1.2 = true then
        some ([], (⟨q1.1.base, q1.1.sign, c.is⟩ : GVcanonCanon))
      else
        (vcanon_Canon_End c).bind fun q2 =>
        (viet_Split s).bind fun q3 =>
        if q3.2 = true then
          some (q2.1, (⟨q3.1.base, q3.1.sign, true⟩ : GVcanonCanon))
        else
          guardO ((List.length q2.1 + List.length [s]) * 8 ≤ 2 ^ 46) <|
          some ((q2.1 ++ [s]), q2.2)
    else
      (vcanon_Canon_End c).bind fun q1 =>
      (viet_Split s).bind fun q2 =>
      if q2.2 = true then
        some (q1.1, (⟨q2.1.base, q2.1.sign, true⟩ : GVcanonCanon))
      else
        guardO ((List.length q1.1 + List.length [s]) * 8 ≤ 2 ^ 46) <|
        some ((q1.1 ++ [s]), q1.2)
  else
    (vcanon_Canon_End c).bind fun q1 =>
    (viet_Split s).bind fun q2 =>
    if q2.2 = true then
      some (q1.1, (⟨q2.1.base, q2.1.sign, true⟩ : GVcanonCanon))
    else
      guardO ((List.length q1.1 + List.length [s]) * 8 ≤ 2 ^ 46) <|
      some ((q1.1 ++ [s]), q1.2)

def vcanon_All_L0 (ss : (List Int)) (vv : (List Int) × Int × Int × Nat × Nat × Bool) : Option (((List Int) × Int × Int × Nat × Nat × Bool) ⊕ ((List Int) × Int × Bool × Int × Nat × Nat × Bool)) :=
  match vv with
  | (out_, v, m, m_re, m_im, m1) =>
    if v < (ss.length : Int) then
      (nthI ss v).bind fun x_ =>
      (vcanon_Canon_Put (⟨m, (m_re, m_im), m1⟩ : GVcanonCanon) x_).bind fun q =>
      guardO ((List.length out_ + List.length q.1) * 8 ≤ 2 ^ 46) <|
      some (.inl ((out_ ++ q.1), (w64 (v + 1)), q.2.letter_base, q.2.letter_sign.1, q.2.letter_sign.2, q.2.is))
    else
      some (.inr (out_, v, (decide (v < (ss.length : Int))), m, m_re, m_im, m1))

/-- lontar/vcanon.All -/
def vcanon_All (ss : (List Int)) : Option (List Int) :=
  (loopM (vcanon_All_L0 ss) FU ([], 0, 0, 0, 0, false)).bind fun l9 =>
  match l9 with
  | (out_, v, v1, m, m_re, m_im, m1) =>
    (vcanon_Canon_End (⟨m, (m_re, m_im), m1⟩ : GVcanonCanon)).bind fun q =>
    guardO ((List.length out_ + List.length q.1) * 8 ≤ 2 ^ 46) <|
    some (out_ ++ q.1)

inductive lontarlaw10_canon_L1_R where
  | x0 (k1 : Int) (z_re : Nat) (z_im : Nat) (v : Bool) (m_re : Nat) (m_im : Nat)
  | x1 (k1 : Int) (z_re : Nat) (z_im : Nat) (v : Bool) (m_re : Nat) (m_im : Nat)
  | x2 (k1 : Int) (z_re : Nat) (z_im : Nat) (m_re : Nat) (m_im : Nat)
  | x3 (k1 : Int) (z_re : Nat) (z_im : Nat) (m_re : Nat) (m_im : Nat)
  | x4 (k1 : Int) (v : Bool) (m_re : Nat) (m_im : Nat)

def lontarlaw10_canon_L1 (ss : (List Int)) (q : (GVietLetter × Bool)) (vv : Int × Nat × Nat) : Option ((Int × Nat × Nat) ⊕ (lontarlaw10_canon_L1_R)) :=
  match vv with
  | (k1, m_re, m_im) =>
    if k1 < (ss.length : Int) then
      (nthI ss k1).bind fun x_1 =>
      (lontarlaw10_sign x_1).bind fun q1 =>
      if q1.2 = true then
        (fmul m_re q1.1.1).bind fun v =>
        if feq v 0 = true then
          (fmul m_im q1.1.2).bind fun v1 =>
          if feq v1 0 = true then
            (fadd m_re q1.1.1).bind fun re =>
            (fadd m_im q1.1.2).bind fun im =>
            (fadd m_re q1.1.1).bind fun re1 =>
            (fadd m_im q1.1.2).bind fun im1 =>
            (lontarlaw09_Join q.1.base re im1).bind fun q2 =>
            if q2.2 = true then
              (fadd m_re q1.1.1).bind fun re2 =>
              (fadd m_im q1.1.2).bind fun im2 =>
              some (.inl ((w64 (k1 + 1)), re2, im2))
            else
              some (.inr (.x0 k1 q1.1.1 q1.1.2 (!q2.2) m_re m_im))
          else
            some (.inr (.x1 k1 q1.1.1 q1.1.2 (!(feq v1 0)) m_re m_im))
        else
          some (.inr (.x2 k1 q1.1.1 q1.1.2 m_re m_im))
      else
        some (.inr (.x3 k1 q1.1.1 q1.1.2 m_re m_im))
    else
      some (.inr (.x4 k1 (decide (k1 < (ss.length : Int))) m_re m_im))

def lontarlaw10_canon_L0 (ss : (List Int)) (vv : (List Int) × Int) : Option (((List Int) × Int) ⊕ ((List Int) × Int × Bool)) :=
  match vv with
  | (out_, k) =>
    if k < (ss.length : Int) then
      (nthI ss k).bind fun x_ =>
      (lontarlaw09_Split x_).bind fun q =>
      if q.2 = true then
        (loopM (lontarlaw10_canon_L1 ss q) FU ((w64 (k + 1)), q.1.sign.1, q.1.sign.2)).bind fun l110 =>
        match l110 with
        | .x0 k1 z_re z_im v m_re m_im =>
          (lontarlaw09_Join q.1.base m_re m_im).bind fun q1 =>
          guardO ((List.length out_ + List.length [q1.1]) * 8 ≤ 2 ^ 46) <|
          some (.inl ((out_ ++ [q1.1]), k1))
        | .x1 k1 z_re z_im v m_re m_im =>
          (lontarlaw09_Join q.1.base m_re m_im).bind fun q1 =>
          guardO ((List.length out_ + List.length [q1.1]) * 8 ≤ 2 ^ 46) <|
          some (.inl ((out_ ++ [q1.1]), k1))
        | .x2 k1 z_re z_im m_re m_im =>
          (lontarlaw09_Join q.1.base m_re m_im).bind fun q1 =>
          guardO ((List.length out_ + List.length [q1.1]) * 8 ≤ 2 ^ 46) <|
          some (.inl ((out_ ++ [q1.1]), k1))
        | .x3 k1 z_re z_im m_re m_im =>
          (lontarlaw09_Join q.1.base m_re m_im).bind fun q1 =>
          guardO ((List.length out_ + List.length [q1.1]) * 8 ≤ 2 ^ 46) <|
          some (.inl ((out_ ++ [q1.1]), k1))
        | .x4 k1 v m_re m_im =>
          (lontarlaw09_Join q.1.base m_re m_im).bind fun q1 =>
          guardO ((List.length out_ + List.length [q1.1]) * 8 ≤ 2 ^ 46) <|
          some (.inl ((out_ ++ [q1.1]), k1))
      else
        (nthI ss (w64 ((w64 (k + 1)) - 1))).bind fun x_1 =>
        guardO ((List.length out_ + List.length [x_1]) * 8 ≤ 2 ^ 46) <|
        some (.inl ((out_ ++ [x_1]), (w64 (k + 1))))
    else
      some (.inr (out_, k, (decide (k < (ss.length : Int)))))

/-- lontar/lontarlaw10.canon -/
def lontarlaw10_canon (ss : (List Int)) : Option (List Int) :=
  (loopM (lontarlaw10_canon_L0 ss) FU ([], 0)).bind fun l117 =>
  match l117 with
  | (out_, k, v) =>
    some out_

def lontarlaw10_Some_L0 (q : ((List Int) × (List (Nat × Nat)))) (v : (List Int)) (vv : (List Int) × Int) : Option (((List Int) × Int) ⊕ ((List Int) × Int × Bool)) :=
  match vv with
  | (out_, v1) =>
    if v1 < (v.length : Int) then
      (nthI v v1).bind fun x_ =>
      (lontarlaw09_Letter ((w64 x_).tmod 148)).bind fun q1 =>
      if x_ > 190 then
        (nthI q.1 (x_.tmod 8)).bind fun x_1 =>
        if x_ < 6 then
          guardO ((List.length out_ + List.length [(w64 (120 + (w64 x_)))]) * 8 ≤ 2 ^ 46) <|
          some (.inl ((out_ ++ [(w64 (120 + (w64 x_)))]), (w64 (v1 + 1))))
        else
          guardO ((List.length out_ + List.length [x_1]) * 8 ≤ 2 ^ 46) <|
          some (.inl ((out_ ++ [x_1]), (w64 (v1 + 1))))
      else
        if x_ < 6 then
          guardO ((List.length out_ + List.length [(w64 (120 + (w64 x_)))]) * 8 ≤ 2 ^ 46) <|
          some (.inl ((out_ ++ [(w64 (120 + (w64 x_)))]), (w64 (v1 + 1))))
        else
          guardO ((List.length out_ + List.length [q1.2.1]) * 8 ≤ 2 ^ 46) <|
          some (.inl ((out_ ++ [q1.2.1]), (w64 (v1 + 1))))
    else
      some (.inr (out_, v1, (decide (v1 < (v.length : Int)))))

/-- lontar/lontarlaw10.Some -/
def lontarlaw10_Some (l : (List Int)) : Option (List Int) :=
  (lontarlaw09_Marks).bind fun q =>
  (sliceI l (0 : Int) (minI (l.length : Int) 60)).bind fun v =>
  (loopM (lontarlaw10_Some_L0 q v) FU ([], 0)).bind fun l33 =>
  match l33 with
  | (out_, v1, v2) =>
    some out_

def vcanon_Apart_L0 (ss : (List Int)) (vv : (List Int) × Int) : Option (((List Int) × Int) ⊕ ((List Int) × Int × Bool)) :=
  match vv with
  | (out_, v) =>
    if v < (ss.length : Int) then
      (nthI ss v).bind fun x_ =>
      (viet_Split x_).bind fun q =>
      (f2i .i64 q.1.sign.1).bind fun v1 =>
      (f2i .i64 q.1.sign.2).bind fun v2 =>
      if q.2 = true then
        if v1 = 4 then
          guardO ((List.length out_ + List.length [x_]) * 8 ≤ 2 ^ 46) <|
          some (.inl ((out_ ++ [x_]), (w64 (v + 1))))
        else
          guardO ((List.length out_ + List.length [q.1.base]) * 8 ≤ 2 ^ 46) <|
          if v1 > 0 then
            guardO (0 ≤ v1 ∧ v1 < 4) <|
            (nthI [0, 774, 770, 795] v1).bind fun v3 =>
            guardO ((List.length (out_ ++ [q.1.base]) + List.length [v3]) * 8 ≤ 2 ^ 46) <|
            if v2 > 0 then
              guardO (0 ≤ v2 ∧ v2 < 6) <|
              (nthI [0, 768, 769, 777, 771, 803] v2).bind fun v4 =>
              guardO ((List.length ((out_ ++ [q.1.base]) ++ [v3]) + List.length [v4]) * 8 ≤ 2 ^ 46) <|
              some (.inl ((((out_ ++ [q.1.base]) ++ [v3]) ++ [v4]), (w64 (v + 1))))
            else
              some (.inl (((out_ ++ [q.1.base]) ++ [v3]), (w64 (v + 1))))
          else
            if v2 > 0 then
              guardO (0 ≤ v2 ∧ v2 < 6) <|
              (nthI [0, 768, 769, 777, 771, 803] v2).bind fun v3 =>
              guardO ((List.length (out_ ++ [q.1.base]) + List.length [v3]) * 8 ≤ 2 ^ 46) <|
              some (.inl (((out_ ++ [q.1.base]) ++ [v3]), (w64 (v + 1))))
            else
              some (.inl ((out_ ++ [q.1.base]), (w64 (v + 1))))
      else
        guardO ((List.length out_ + List.length [x_]) * 8 ≤ 2 ^ 46) <|
        some (.inl ((out_ ++ [x_]), (w64 (v + 1))))
    else
      some (.inr (out_, v, (decide (v < (ss.length : Int)))))

/-- lontar/vcanon.Apart -/
def vcanon_Apart (ss : (List Int)) : Option (List Int) :=
  (loopM (vcanon_Apart_L0 ss) FU ([], 0)).bind fun l61 =>
  match l61 with
  | (out_, v, v1) =>
    some out_

/-- lontar/lontarlaw10.awake -/
def lontarlaw10_awake : Option Bool :=
  (vcanon_All [101, 769, 770]).bind fun q =>
  (vcanon_All [120, 769]).bind fun q1 =>
  (vcanon_Apart [7871, 273]).bind fun q2 =>
  if (q.length : Int) = 1 then
    (nthI q 0).bind fun x_ =>
    if x_ = 7871 then
      if (q1.length : Int) = 2 then
        if (q2.length : Int) = 4 then
          (nthI q2 0).bind fun x_1 =>
          if x_1 = 101 then
            (nthI q2 1).bind fun x_2 =>
            if x_2 = 770 then
              (nthI q2 2).bind fun x_3 =>
              if x_3 = 769 then
                (nthI q2 3).bind fun x_4 =>
                some (x_4 == 273)
              else
                some false
            else
              some false
          else
            some false
        else
          some false
      else
        some false
    else
      some false
  else
    some false
end Go.AM.M
