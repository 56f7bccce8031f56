/- Models, printed by wip/gen.py. -/
import Derived.Test.YtpbbgkmpjcddbaaA30
set_option linter.all false
namespace Go.AM.M
open Go.AM

structure GApiRule where
  in' : (List Int)
  out' : (List Int)
  deriving Inhabited
def GApiRule.c (v : GApiRule) : List PV := [(.sl .view false (eI .i64 v.in')), (.sl .view false (eI .i64 v.out'))]
theorem GApiRule.nr (n : Nat) (v : GApiRule) : noRefs n v.c = true := by
  simp [GApiRule.c, noRefs, noRef, eI_noRef, eB_noRef, eC_noRef, eF_noRef, eS_noRef]
structure GVietRow where
  base : Int
  mark : Int
  scalar_e0 : Int
  scalar_e1 : Int
  scalar_e2 : Int
  scalar_e3 : Int
  scalar_e4 : Int
  scalar_e5 : Int
  deriving Inhabited
def GVietRow.c (v : GVietRow) : List PV := [(.lit (.int .i64 v.base)), (.lit (.int .i64 v.mark)), (.lit (.int .i64 v.scalar_e0)), (.lit (.int .i64 v.scalar_e1)), (.lit (.int .i64 v.scalar_e2)), (.lit (.int .i64 v.scalar_e3)), (.lit (.int .i64 v.scalar_e4)), (.lit (.int .i64 v.scalar_e5))]
theorem GVietRow.nr (n : Nat) (v : GVietRow) : noRefs n v.c = true := by
  simp [GVietRow.c, noRefs, noRef, eI_noRef, eB_noRef, eC_noRef, eF_noRef, eS_noRef]
def GVietRow.eq (a b : GVietRow) : Bool := a.base == b.base && a.mark == b.mark && a.scalar_e0 == b.scalar_e0 && a.scalar_e1 == b.scalar_e1 && a.scalar_e2 == b.scalar_e2 && a.scalar_e3 == b.scalar_e3 && a.scalar_e4 == b.scalar_e4 && a.scalar_e5 == b.scalar_e5
structure GVietLetter where
  base : Int
  sign : (Nat × Nat)
  deriving Inhabited
def GVietLetter.c (v : GVietLetter) : List PV := [(.lit (.int .i64 v.base)), (.lit (.complex .f64 v.sign.1 v.sign.2))]
theorem GVietLetter.nr (n : Nat) (v : GVietLetter) : noRefs n v.c = true := by
  simp [GVietLetter.c, noRefs, noRef, eI_noRef, eB_noRef, eC_noRef, eF_noRef, eS_noRef]
def GVietLetter.eq (a b : GVietLetter) : Bool := a.base == b.base && ceq a.sign.1 a.sign.2 b.sign.1 b.sign.2
structure GLontarlaw09Row where
  base : Int
  mark : Int
  all : (List Int)
  deriving Inhabited
def GLontarlaw09Row.c (v : GLontarlaw09Row) : List PV := [(.lit (.int .i64 v.base)), (.lit (.int .i64 v.mark)), (.sl .view false (eI .i64 v.all))]
theorem GLontarlaw09Row.nr (n : Nat) (v : GLontarlaw09Row) : noRefs n v.c = true := by
  simp [GLontarlaw09Row.c, noRefs, noRef, eI_noRef, eB_noRef, eC_noRef, eF_noRef, eS_noRef]

inductive lontarlaw01_Units_L0_R where
  | x0
  | x1 (v : Int) (v1 : Bool)

def lontarlaw01_Units_L0 (a : (List Int)) (b : (List Int)) (vv : Int) : Option ((Int) ⊕ (lontarlaw01_Units_L0_R)) :=
  match vv with
  | v =>
    if v < (a.length : Int) then
      (nthI a v).bind fun x_ =>
      (nthI b v).bind fun x_1 =>
      if x_ = x_1 then
        some (.inl (w64 (v + 1)))
      else
        some (.inr (.x0))
    else
      some (.inr (.x1 v (decide (v < (a.length : Int)))))

/-- lontar/lontarlaw01.Units -/
def lontarlaw01_Units (a : (List Int)) (b : (List Int)) : Option Bool :=
  if (a.length : Int) = (b.length : Int) then
    (loopM (lontarlaw01_Units_L0 a b) FU 0).bind fun l10 =>
    match l10 with
    | .x0 =>
      some false
    | .x1 v v1 =>
      some true
  else
    some false

inductive lontarlaw03_Same_L0_R where
  | x0
  | x1
  | x2 (v : Int) (v1 : Bool)

def lontarlaw03_Same_L0 (a : (List GApiRule)) (b : (List GApiRule)) (vv : Int) : Option ((Int) ⊕ (lontarlaw03_Same_L0_R)) :=
  match vv with
  | v =>
    if v < (a.length : Int) then
      (nthI a v).bind fun x_ =>
      (nthI b v).bind fun x_1 =>
      (lontarlaw01_Units x_.in' x_1.in').bind fun q =>
      if q = true then
        (nthI a v).bind fun x_2 =>
        (nthI b v).bind fun x_3 =>
        (lontarlaw01_Units x_2.out' x_3.out').bind fun q1 =>
        if q1 = true then
          some (.inl (w64 (v + 1)))
        else
          some (.inr (.x0))
      else
        some (.inr (.x1))
    else
      some (.inr (.x2 v (decide (v < (a.length : Int)))))

/-- lontar/lontarlaw03.Same -/
def lontarlaw03_Same (a : (List GApiRule)) (b : (List GApiRule)) : Option Bool :=
  if (a.length : Int) = (b.length : Int) then
    (loopM (lontarlaw03_Same_L0 a b) FU 0).bind fun l22 =>
    match l22 with
    | .x0 =>
      some false
    | .x1 =>
      some false
    | .x2 v v1 =>
      some true
  else
    some false

/-- lontar/viet.Upper -/
def viet_Upper (s : Int) : Option Int :=
  if s < 256 then
    some (w64 (s - 32))
  else
    some (w64 (s - 1))

/-- lontar/lontarlaw09.upper -/
def lontarlaw09_upper (s : Int) : Option Int :=
  if s < 256 then
    some (w64 (s - 32))
  else
    some (w64 (s - 1))

/-- lontar/viet.rows -/
def viet_rows : Option (List GVietRow) :=
  some [(⟨97, 0, 97, 224, 225, 7843, 227, 7841⟩ : GVietRow), (⟨97, 1, 259, 7857, 7855, 7859, 7861, 7863⟩ : GVietRow), (⟨97, 2, 226, 7847, 7845, 7849, 7851, 7853⟩ : GVietRow), (⟨101, 0, 101, 232, 233, 7867, 7869, 7865⟩ : GVietRow), (⟨101, 2, 234, 7873, 7871, 7875, 7877, 7879⟩ : GVietRow), (⟨105, 0, 105, 236, 237, 7881, 297, 7883⟩ : GVietRow), (⟨111, 0, 111, 242, 243, 7887, 245, 7885⟩ : GVietRow), (⟨111, 2, 244, 7891, 7889, 7893, 7895, 7897⟩ : GVietRow), (⟨111, 3, 417, 7901, 7899, 7903, 7905, 7907⟩ : GVietRow), (⟨117, 0, 117, 249, 250, 7911, 361, 7909⟩ : GVietRow), (⟨117, 3, 432, 7915, 7913, 7917, 7919, 7921⟩ : GVietRow), (⟨121, 0, 121, 7923, 253, 7927, 7929, 7925⟩ : GVietRow), (⟨100, 0, 100, 0, 0, 0, 0, 0⟩ : GVietRow), (⟨100, 4, 273, 0, 0, 0, 0, 0⟩ : GVietRow)]

def viet_All_L2 (x_ : Bool) (x_1 : GVietRow) (vv : (List GVietLetter) × (List Int) × Int) : Option (((List GVietLetter) × (List Int) × Int) ⊕ ((List GVietLetter) × (List Int) × Int × Bool)) :=
  match vv with
  | (ls2, ss2, v2) =>
    if v2 < 6 then
      (nthI [x_1.scalar_e0, x_1.scalar_e1, x_1.scalar_e2, x_1.scalar_e3, x_1.scalar_e4, x_1.scalar_e5] v2).bind fun v3 =>
      if v3 = 0 then
        some (.inl (ls2, ss2, (w64 (v2 + 1))))
      else
        if x_ = true then
          (viet_Upper x_1.base).bind fun q1 =>
          (viet_Upper v3).bind fun q2 =>
          guardO ((List.length ls2 + List.length [(⟨q1, ((i2f x_1.mark), (i2f v2))⟩ : GVietLetter)]) * 24 ≤ 2 ^ 46) <|
          guardO ((List.length ss2 + List.length [q2]) * 8 ≤ 2 ^ 46) <|
          some (.inl ((ls2 ++ [(⟨q1, ((i2f x_1.mark), (i2f v2))⟩ : GVietLetter)]), (ss2 ++ [q2]), (w64 (v2 + 1))))
        else
          guardO ((List.length ls2 + List.length [(⟨x_1.base, ((i2f x_1.mark), (i2f v2))⟩ : GVietLetter)]) * 24 ≤ 2 ^ 46) <|
          guardO ((List.length ss2 + List.length [v3]) * 8 ≤ 2 ^ 46) <|
          some (.inl ((ls2 ++ [(⟨x_1.base, ((i2f x_1.mark), (i2f v2))⟩ : GVietLetter)]), (ss2 ++ [v3]), (w64 (v2 + 1))))
    else
      some (.inr (ls2, ss2, v2, (decide (v2 < 6))))

def viet_All_L1 (x_ : Bool) (q : (List GVietRow)) (vv : (List GVietLetter) × (List Int) × Int) : Option (((List GVietLetter) × (List Int) × Int) ⊕ ((List GVietLetter) × (List Int) × Int × Bool)) :=
  match vv with
  | (ls1, ss1, v1) =>
    if v1 < (q.length : Int) then
      (nthI q v1).bind fun x_1 =>
      (loopM (viet_All_L2 x_ x_1) FU (ls1, ss1, 0)).bind fun l471 =>
      match l471 with
      | (ls2, ss2, v2, v3) =>
        some (.inl (ls2, ss2, (w64 (v1 + 1))))
    else
      some (.inr (ls1, ss1, v1, (decide (v1 < (q.length : Int)))))

def viet_All_L0 (vv : (List GVietLetter) × (List Int) × Int) : Option (((List GVietLetter) × (List Int) × Int) ⊕ ((List GVietLetter) × (List Int) × Int × Bool)) :=
  match vv with
  | (ls, ss, v) =>
    if v < ([false, true].length : Int) then
      (nthI [false, true] v).bind fun x_ =>
      (viet_rows).bind fun q =>
      (loopM (viet_All_L1 x_ q) FU (ls, ss, 0)).bind fun l472 =>
      match l472 with
      | (ls1, ss1, v1, v2) =>
        some (.inl (ls1, ss1, (w64 (v + 1))))
    else
      some (.inr (ls, ss, v, (decide (v < ([false, true].length : Int)))))

/-- lontar/viet.All -/
def viet_All : Option ((List GVietLetter) × (List Int)) :=
  (loopM (viet_All_L0) FU ([], [], 0)).bind fun l473 =>
  match l473 with
  | (ls, ss, v, v1) =>
    some (ls, ss)

inductive viet_Join_L0_R where
  | x0 (v : Int) (m : Int) (m_re : Nat) (m_im : Nat)
  | x1 (v : Int) (v1 : Bool)

def viet_Join_L0 (l : GVietLetter) (q : ((List GVietLetter) × (List Int))) (vv : Int) : Option ((Int) ⊕ (viet_Join_L0_R)) :=
  match vv with
  | v =>
    if v < (q.1.length : Int) then
      (nthI q.1 v).bind fun x_ =>
      if GVietLetter.eq x_ l = true then
        (nthI q.2 v).bind fun x_1 =>
        some (.inr (.x0 x_1 x_.base x_.sign.1 x_.sign.2))
      else
        some (.inl (w64 (v + 1)))
    else
      some (.inr (.x1 v (decide (v < (q.1.length : Int)))))

/-- lontar/viet.Join -/
def viet_Join (l : GVietLetter) : Option (Int × Bool) :=
  (viet_All).bind fun q =>
  (loopM (viet_Join_L0 l q) FU 0).bind fun l9 =>
  match l9 with
  | .x0 v m m_re m_im =>
    some (v, true)
  | .x1 v v1 =>
    some (0, false)

inductive viet_Split_L0_R where
  | x0 (m : Int) (m_re : Nat) (m_im : Nat)
  | x1 (v : Int) (v1 : Bool)

def viet_Split_L0 (s : Int) (q : ((List GVietLetter) × (List Int))) (vv : Int) : Option ((Int) ⊕ (viet_Split_L0_R)) :=
  match vv with
  | v =>
    if v < (q.2.length : Int) then
      (nthI q.2 v).bind fun x_ =>
      if x_ = s then
        (nthI q.1 v).bind fun x_1 =>
        some (.inr (.x0 x_1.base x_1.sign.1 x_1.sign.2))
      else
        some (.inl (w64 (v + 1)))
    else
      some (.inr (.x1 v (decide (v < (q.2.length : Int)))))

/-- lontar/viet.Split -/
def viet_Split (s : Int) : Option (GVietLetter × Bool) :=
  (viet_All).bind fun q =>
  (loopM (viet_Split_L0 s q) FU 0).bind fun l9 =>
  match l9 with
  | .x0 m m_re m_im =>
    some ((⟨m, (m_re, m_im)⟩ : GVietLetter), true)
  | .x1 v v1 =>
    some ((⟨0, (0, 0)⟩ : GVietLetter), false)

/-- lontar/viet.Sign -/
def viet_Sign (s : Int) : Option ((Nat × Nat) × Bool) :=
  if s = 774 then
    some ((4607182418800017408, 0), true)
  else
    if s = 770 then
      some ((4611686018427387904, 0), true)
    else
      if s = 795 then
        some ((4613937818241073152, 0), true)
      else
        if s = 768 then
          some ((0, 4607182418800017408), true)
        else
          if s = 769 then
            some ((0, 4611686018427387904), true)
          else
            if s = 777 then
              some ((0, 4613937818241073152), true)
            else
              if s = 771 then
                some ((0, 4616189618054758400), true)
              else
                if s = 803 then
                  some ((0, 4617315517961601024), true)
                else
                  some ((0, 0), false)

/-- lontar/viet.Add -/
def viet_Add (l : GVietLetter) (sign : (Nat × Nat)) : Option (GVietLetter × Bool) :=
  if feq l.sign.1 0 = true then
    if feq l.sign.2 0 = true then
      (fadd l.sign.1 sign.1).bind fun re =>
      (fadd l.sign.2 sign.2).bind fun im =>
      (viet_Join (⟨l.base, (re, im)⟩ : GVietLetter)).bind fun q =>
      if q.2 = true then
        some ((⟨l.base, (re, im)⟩ : GVietLetter), true)
      else
        some (l, false)
    else
      if feq sign.2 0 = true then
        (fadd l.sign.1 sign.1).bind fun re =>
        (fadd l.sign.2 sign.2).bind fun im =>
        (viet_Join (⟨l.base, (re, im)⟩ : GVietLetter)).bind fun q =>
        if q.2 = true then
          some ((⟨l.base, (re, im)⟩ : GVietLetter), true)
        else
          some (l, false)
      else
        some (l, false)
  else
    if feq sign.1 0 = true then
      if feq l.sign.2 0 = true then
        (fadd l.sign.1 sign.1).bind fun re =>
        (fadd l.sign.2 sign.2).bind fun im =>
        (viet_Join (⟨l.base, (re, im)⟩ : GVietLetter)).bind fun q =>
        if q.2 = true then
          some ((⟨l.base, (re, im)⟩ : GVietLetter), true)
        else
          some (l, false)
      else
        if feq sign.2 0 = true then
          (fadd l.sign.1 sign.1).bind fun re =>
          (fadd l.sign.2 sign.2).bind fun im =>
          (viet_Join (⟨l.base, (re, im)⟩ : GVietLetter)).bind fun q =>
          if q.2 = true then
            some ((⟨l.base, (re, im)⟩ : GVietLetter), true)
          else
            some (l, false)
        else
          some (l, false)
    else
      some (l, false)

/-- lontar/lontarlaw09.Rows -/
def lontarlaw09_Rows : Option (List GLontarlaw09Row) :=
  some [(⟨97, 0, [97, 224, 225, 7843, 227, 7841]⟩ : GLontarlaw09Row), (⟨97, 1, [259, 7857, 7855, 7859, 7861, 7863]⟩ : GLontarlaw09Row), (⟨97, 2, [226, 7847, 7845, 7849, 7851, 7853]⟩ : GLontarlaw09Row), (⟨101, 0, [101, 232, 233, 7867, 7869, 7865]⟩ : GLontarlaw09Row), (⟨101, 2, [234, 7873, 7871, 7875, 7877, 7879]⟩ : GLontarlaw09Row), (⟨105, 0, [105, 236, 237, 7881, 297, 7883]⟩ : GLontarlaw09Row), (⟨111, 0, [111, 242, 243, 7887, 245, 7885]⟩ : GLontarlaw09Row), (⟨111, 2, [244, 7891, 7889, 7893, 7895, 7897]⟩ : GLontarlaw09Row), (⟨111, 3, [417, 7901, 7899, 7903, 7905, 7907]⟩ : GLontarlaw09Row), (⟨117, 0, [117, 249, 250, 7911, 361, 7909]⟩ : GLontarlaw09Row), (⟨117, 3, [432, 7915, 7913, 7917, 7919, 7921]⟩ : GLontarlaw09Row), (⟨121, 0, [121, 7923, 253, 7927, 7929, 7925]⟩ : GLontarlaw09Row), (⟨100, 0, [100]⟩ : GLontarlaw09Row), (⟨100, 4, [273]⟩ : GLontarlaw09Row)]

inductive lontarlaw09_Letter_L2_R where
  | x0 (v1 : Int) (m : Int) (m_re : Nat) (m_im : Nat)
  | x1 (v1 : Int) (m_re : Nat) (m_im : Nat)
  | x2 (k2 : Int) (v1 : Int) (v2 : Bool)

def lontarlaw09_Letter_L2 (n : Int) (great : Int) (x_ : GLontarlaw09Row) (vv : Int × Int) : Option ((Int × Int) ⊕ (lontarlaw09_Letter_L2_R)) :=
  match vv with
  | (k2, v1) =>
    if v1 < (x_.all.length : Int) then
      (nthI x_.all v1).bind fun x_1 =>
      if k2 = n then
        if great = 1 then
          (lontarlaw09_upper x_.base).bind fun q1 =>
          (lontarlaw09_upper x_1).bind fun q2 =>
          some (.inr (.x0 q2 q1 (i2f x_.mark) (i2f v1)))
        else
          some (.inr (.x1 x_1 (i2f x_.mark) (i2f v1)))
      else
        some (.inl ((w64 (k2 + 1)), (w64 (v1 + 1))))
    else
      some (.inr (.x2 k2 v1 (decide (v1 < (x_.all.length : Int)))))

inductive lontarlaw09_Letter_L1_R where
  | x0 (v : Int) (m : Int) (m_re : Nat) (m_im : Nat) (m1 : Int) (m2 : Int) (m3 : List Int)
  | x1 (v : Int) (m : Int) (m_re : Nat) (m_im : Nat) (m1 : Int) (m2 : Int) (m3 : List Int)
  | x2 (k1 : Int) (v : Int) (v1 : Bool)

def lontarlaw09_Letter_L1 (n : Int) (great : Int) (q : (List GLontarlaw09Row)) (vv : Int × Int) : Option ((Int × Int) ⊕ (lontarlaw09_Letter_L1_R)) :=
  match vv with
  | (k1, v) =>
    if v < (q.length : Int) then
      (nthI q v).bind fun x_ =>
      (loopM (lontarlaw09_Letter_L2 n great x_) FU (k1, 0)).bind fun l214 =>
      match l214 with
      | .x0 v1 m m_re m_im =>
        some (.inr (.x0 v1 m m_re m_im x_.base x_.mark x_.all))
      | .x1 v1 m_re m_im =>
        some (.inr (.x1 v1 x_.base m_re m_im x_.base x_.mark x_.all))
      | .x2 k2 v1 v2 =>
        some (.inl (k2, (w64 (v + 1))))
    else
      some (.inr (.x2 k1 v (decide (v < (q.length : Int)))))

inductive lontarlaw09_Letter_L0_R where
  | x0 (v : Int) (m : Int) (m_re : Nat) (m_im : Nat) (m1 : Int) (m2 : Int) (m3 : List Int)
  | x1 (v : Int) (m : Int) (m_re : Nat) (m_im : Nat) (m1 : Int) (m2 : Int) (m3 : List Int)
  | x2 (k : Int) (great : Int) (v : Bool)

def lontarlaw09_Letter_L0 (n : Int) (vv : Int × Int) : Option ((Int × Int) ⊕ (lontarlaw09_Letter_L0_R)) :=
  match vv with
  | (k, great) =>
    if great < 2 then
      (lontarlaw09_Rows).bind fun q =>
      (loopM (lontarlaw09_Letter_L1 n great q) FU (k, 0)).bind fun l215 =>
      match l215 with
      | .x0 v m m_re m_im m1 m2 m3 =>
        some (.inr (.x0 v m m_re m_im m1 m2 m3))
      | .x1 v m m_re m_im m1 m2 m3 =>
        some (.inr (.x1 v m m_re m_im m1 m2 m3))
      | .x2 k1 v v1 =>
        some (.inl (k1, (w64 (great + 1))))
    else
      some (.inr (.x2 k great (decide (great < 2))))

/-- lontar/lontarlaw09.Letter -/
def lontarlaw09_Letter (n : Int) : Option (GVietLetter × Int × Bool) :=
  (loopM (lontarlaw09_Letter_L0 n) FU (0, 0)).bind fun l216 =>
  match l216 with
  | .x0 v m m_re m_im m1 m2 m3 =>
    some ((⟨m, (m_re, m_im)⟩ : GVietLetter), v, true)
  | .x1 v m m_re m_im m1 m2 m3 =>
    some ((⟨m, (m_re, m_im)⟩ : GVietLetter), v, true)
  | .x2 k great v =>
    some ((⟨0, (0, 0)⟩ : GVietLetter), 0, false)

inductive lontarlaw09_Split_L0_R where
  | x0 (m : Int) (m_re : Nat) (m_im : Nat) (m1 : Int) (m_re1 : Nat) (m_im1 : Nat)
  | x1 (n : Int) (v : Bool)

def lontarlaw09_Split_L0 (s : Int) (vv : Int) : Option ((Int) ⊕ (lontarlaw09_Split_L0_R)) :=
  match vv with
  | n =>
    if n < 148 then
      (lontarlaw09_Letter n).bind fun q =>
      if q.2.1 = s then
        some (.inr (.x0 q.1.base q.1.sign.1 q.1.sign.2 q.1.base q.1.sign.1 q.1.sign.2))
      else
        some (.inl (w64 (n + 1)))
    else
      some (.inr (.x1 n (decide (n < 148))))

/-- lontar/lontarlaw09.Split -/
def lontarlaw09_Split (s : Int) : Option (GVietLetter × Bool) :=
  (loopM (lontarlaw09_Split_L0 s) FU 0).bind fun l8 =>
  match l8 with
  | .x0 m m_re m_im m1 m_re1 m_im1 =>
    some ((⟨m, (m_re, m_im)⟩ : GVietLetter), true)
  | .x1 n v =>
    some ((⟨0, (0, 0)⟩ : GVietLetter), false)

inductive lontarlaw09_Join_L0_R where
  | x0 (v : Int) (m : Int) (m_re : Nat) (m_im : Nat)
  | x1 (n : Int) (v : Bool)

def lontarlaw09_Join_L0 (base : Int) (mark : Nat) (tone : Nat) (vv : Int) : Option ((Int) ⊕ (lontarlaw09_Join_L0_R)) :=
  match vv with
  | n =>
    if n < 148 then
      (lontarlaw09_Letter n).bind fun q =>
      if q.1.base = base then
        if feq q.1.sign.1 mark = true then
          if feq q.1.sign.2 tone = true then
            some (.inr (.x0 q.2.1 q.1.base q.1.sign.1 q.1.sign.2))
          else
            some (.inl (w64 (n + 1)))
        else
          some (.inl (w64 (n + 1)))
      else
        some (.inl (w64 (n + 1)))
    else
      some (.inr (.x1 n (decide (n < 148))))

/-- lontar/lontarlaw09.Join -/
def lontarlaw09_Join (base : Int) (mark : Nat) (tone : Nat) : Option (Int × Bool) :=
  (loopM (lontarlaw09_Join_L0 base mark tone) FU 0).bind fun l16 =>
  match l16 with
  | .x0 v m m_re m_im =>
    some (v, true)
  | .x1 n v =>
    some (0, false)

/-- lontar/lontarlaw09.Marks -/
def lontarlaw09_Marks : Option ((List Int) × (List (Nat × Nat))) :=
  some ([774, 770, 795, 768, 769, 777, 771, 803], [(4607182418800017408, 0), (4611686018427387904, 0), (4613937818241073152, 0), (0, 4607182418800017408), (0, 4611686018427387904), (0, 4613937818241073152), (0, 4616189618054758400), (0, 4617315517961601024)])

/-- lontar/lontarlaw09.awake -/
def lontarlaw09_awake : Option Bool :=
  (viet_Split 7871).bind fun q =>
  (viet_Join (⟨69, (4611686018427387904, 4611686018427387904)⟩ : GVietLetter)).bind fun q1 =>
  (viet_Add (⟨117, (0, 0)⟩ : GVietLetter) (4613937818241073152, 0)).bind fun q2 =>
  (viet_Add q2.1 (4607182418800017408, 0)).bind fun q3 =>
  if q.2 = true then
    if q.1.base = 101 then
      if ceq q.1.sign.1 q.1.sign.2 4611686018427387904 4611686018427387904 = true then
        if q1.2 = true then
          if q1.1 = 7870 then
            if q2.2 = true then
              if ceq q2.1.sign.1 q2.1.sign.2 4613937818241073152 0 = true then
                some (!q3.2)
              else
                some false
            else
              some false
          else
            some false
        else
          some false
      else
        some false
    else
      some false
  else
    some false
end Go.AM.M
