/- Models, printed by wip/gen.py. -/
import Derived.Test.YtpbbgkmpjcddbaaMa
set_option linter.all false
namespace Go.AM.M
open Go.AM



/-- lontar/viscii.high -/
def viscii_high : Option (List Int) :=
  some [7840, 7854, 7856, 7862, 7844, 7846, 7848, 7852, 7868, 7864, 7870, 7872, 7874, 7876, 7878, 7888, 7890, 7892, 7894, 7896, 7906, 7898, 7900, 7902, 7882, 7886, 7884, 7880, 7910, 360, 7908, 7922, 213, 7855, 7857, 7863, 7845, 7847, 7849, 7853, 7869, 7865, 7871, 7873, 7875, 7877, 7879, 7889, 7891, 7893, 7895, 7904, 416, 7897, 7901, 7903, 7883, 7920, 7912, 7914, 7916, 417, 7899, 431, 192, 193, 194, 195, 7842, 258, 7859, 7861, 200, 201, 202, 7866, 204, 205, 296, 7923, 272, 7913, 210, 211, 212, 7841, 7927, 7915, 7917, 217, 218, 7929, 7925, 221, 7905, 432, 224, 225, 226, 227, 7843, 259, 7919, 7851, 232, 233, 234, 7867, 236, 237, 297, 7881, 273, 7921, 242, 243, 244, 245, 7887, 7885, 7909, 249, 250, 361, 7911, 253, 7907, 7918]

/-- lontar/viscii.Decode -/
def viscii_Decode (c : Int) : Option Int :=
  if c = 2 then
    some 7858
  else
    if c = 5 then
      some 7860
    else
      if c = 6 then
        some 7850
      else
        if c = 20 then
          some 7926
        else
          if c = 25 then
            some 7928
          else
            if c = 30 then
              some 7924
            else
              if c < 128 then
                some (w64 c)
              else
                (viscii_high).bind fun q =>
                guardO (0 ≤ (w8 (c - 128)) ∧ (w8 (c - 128)) < 128) <|
                (nthI q (w8 (c - 128))).bind fun v =>
                some v

inductive viscii_Encode_L0_R where
  | x0 (v : Int)
  | x1 (v : Int) (v1 : Bool)

def viscii_Encode_L0 (s : Int) (vv : Int) : Option ((Int) ⊕ (viscii_Encode_L0_R)) :=
  match vv with
  | v =>
    if v < 256 then
      (viscii_Decode (w8 v)).bind fun q =>
      if q = s then
        some (.inr (.x0 (w8 v)))
      else
        some (.inl (w64 (v + 1)))
    else
      some (.inr (.x1 v (decide (v < 256))))

/-- lontar/viscii.Encode -/
def viscii_Encode (s : Int) : Option (Int × Bool) :=
  (loopM (viscii_Encode_L0 s) FU 0).bind fun l8 =>
  match l8 with
  | .x0 v =>
    some (v, true)
  | .x1 v v1 =>
    some (0, false)

def viscii_Rules_L0 (vv : (List GApiRule) × Int) : Option (((List GApiRule) × Int) ⊕ ((List GApiRule) × Int × Bool)) :=
  match vv with
  | (out_, v) =>
    if v < 256 then
      (viscii_Decode (w8 v)).bind fun q =>
      guardO ((List.length out_ + List.length [(⟨[v], [q]⟩ : GApiRule)]) * 48 ≤ 2 ^ 46) <|
      some (.inl ((out_ ++ [(⟨[v], [q]⟩ : GApiRule)]), (w64 (v + 1))))
    else
      some (.inr (out_, v, (decide (v < 256))))

/-- lontar/viscii.Rules -/
def viscii_Rules : Option (List GApiRule) :=
  (loopM (viscii_Rules_L0) FU ([], 0)).bind fun l8 =>
  match l8 with
  | (out_, v, v1) =>
    some out_

def lontarlaw11_Table_L0 (vv : (List Int) × Int) : Option (((List Int) × Int) ⊕ ((List Int) × Int × Bool)) :=
  match vv with
  | (out_, c) =>
    if c < 128 then
      guardO ((List.length out_ + List.length [c]) * 8 ≤ 2 ^ 46) <|
      some (.inl ((out_ ++ [c]), (w64 (c + 1))))
    else
      some (.inr (out_, c, (decide (c < 128))))

/-- lontar/lontarlaw11.Table -/
def lontarlaw11_Table : Option (List Int) :=
  (loopM (lontarlaw11_Table_L0) FU ([], 0)).bind fun l8 =>
  match l8 with
  | (out_, c, v) =>
    (nthI out_ 2).bind fun x_ =>
    (nthI (out_.set 2 7858) 5).bind fun x_1 =>
    (nthI ((out_.set 2 7858).set 5 7860) 6).bind fun x_2 =>
    (nthI (((out_.set 2 7858).set 5 7860).set 6 7850) 20).bind fun x_3 =>
    (nthI ((((out_.set 2 7858).set 5 7860).set 6 7850).set 20 7926) 25).bind fun x_4 =>
    (nthI (((((out_.set 2 7858).set 5 7860).set 6 7850).set 20 7926).set 25 7928) 30).bind fun x_5 =>
    guardO ((List.length ((((((out_.set 2 7858).set 5 7860).set 6 7850).set 20 7926).set 25 7928).set 30 7924) + List.length [7840, 7854, 7856, 7862, 7844, 7846, 7848, 7852, 7868, 7864, 7870, 7872, 7874, 7876, 7878, 7888, 7890, 7892, 7894, 7896, 7906, 7898, 7900, 7902, 7882, 7886, 7884, 7880, 7910, 360, 7908, 7922]) * 8 ≤ 2 ^ 46) <|
    guardO ((List.length (((((((out_.set 2 7858).set 5 7860).set 6 7850).set 20 7926).set 25 7928).set 30 7924) ++ [7840, 7854, 7856, 7862, 7844, 7846, 7848, 7852, 7868, 7864, 7870, 7872, 7874, 7876, 7878, 7888, 7890, 7892, 7894, 7896, 7906, 7898, 7900, 7902, 7882, 7886, 7884, 7880, 7910, 360, 7908, 7922]) + List.length [213, 7855, 7857, 7863, 7845, 7847, 7849, 7853, 7869, 7865, 7871, 7873, 7875, 7877, 7879, 7889, 7891, 7893, 7895, 7904, 416, 7897, 7901, 7903, 7883, 7920, 7912, 7914, 7916, 417, 7899, 431]) * 8 ≤ 2 ^ 46) <|
    guardO ((List.length ((((((((out_.set 2 7858).set 5 7860).set 6 7850).set 20 7926).set 25 7928).set 30 7924) ++ [7840, 7854, 7856, 7862, 7844, 7846, 7848, 7852, 7868, 7864, 7870, 7872, 7874, 7876, 7878, 7888, 7890, 7892, 7894, 7896, 7906, 7898, 7900, 7902, 7882, 7886, 7884, 7880, 7910, 360, 7908, 7922]) ++ [213, 7855, 7857, 7863, 7845, 7847, 7849, 7853, 7869, 7865, 7871, 7873, 7875, 7877, 7879, 7889, 7891, 7893, 7895, 7904, 416, 7897, 7901, 7903, 7883, 7920, 7912, 7914, 7916, 417, 7899, 431]) + List.length [192, 193, 194, 195, 7842, 258, 7859, 7861, 200, 201, 202, 7866, 204, 205, 296, 7923, 272, 7913, 210, 211, 212, 7841, 7927, 7915, 7917, 217, 218, 7929, 7925, 221, 7905, 432]) * 8 ≤ 2 ^ 46) <|
    guardO ((List.length (((((((((out_.set 2 7858).set 5 7860).set 6 7850).set 20 7926).set 25 7928).set 30 7924) ++ [7840, 7854, 7856, 7862, 7844, 7846, 7848, 7852, 7868, 7864, 7870, 7872, 7874, 7876, 7878, 7888, 7890, 7892, 7894, 7896, 7906, 7898, 7900, 7902, 7882, 7886, 7884, 7880, 7910, 360, 7908, 7922]) ++ [213, 7855, 7857, 7863, 7845, 7847, 7849, 7853, 7869, 7865, 7871, 7873, 7875, 7877, 7879, 7889, 7891, 7893, 7895, 7904, 416, 7897, 7901, 7903, 7883, 7920, 7912, 7914, 7916, 417, 7899, 431]) ++ [192, 193, 194, 195, 7842, 258, 7859, 7861, 200, 201, 202, 7866, 204, 205, 296, 7923, 272, 7913, 210, 211, 212, 7841, 7927, 7915, 7917, 217, 218, 7929, 7925, 221, 7905, 432]) + List.length [224, 225, 226, 227, 7843, 259, 7919, 7851, 232, 233, 234, 7867, 236, 237, 297, 7881, 273, 7921, 242, 243, 244, 245, 7887, 7885, 7909, 249, 250, 361, 7911, 253, 7907, 7918]) * 8 ≤ 2 ^ 46) <|
    some ((((((((((out_.set 2 7858).set 5 7860).set 6 7850).set 20 7926).set 25 7928).set 30 7924) ++ [7840, 7854, 7856, 7862, 7844, 7846, 7848, 7852, 7868, 7864, 7870, 7872, 7874, 7876, 7878, 7888, 7890, 7892, 7894, 7896, 7906, 7898, 7900, 7902, 7882, 7886, 7884, 7880, 7910, 360, 7908, 7922]) ++ [213, 7855, 7857, 7863, 7845, 7847, 7849, 7853, 7869, 7865, 7871, 7873, 7875, 7877, 7879, 7889, 7891, 7893, 7895, 7904, 416, 7897, 7901, 7903, 7883, 7920, 7912, 7914, 7916, 417, 7899, 431]) ++ [192, 193, 194, 195, 7842, 258, 7859, 7861, 200, 201, 202, 7866, 204, 205, 296, 7923, 272, 7913, 210, 211, 212, 7841, 7927, 7915, 7917, 217, 218, 7929, 7925, 221, 7905, 432]) ++ [224, 225, 226, 227, 7843, 259, 7919, 7851, 232, 233, 234, 7867, 236, 237, 297, 7881, 273, 7921, 242, 243, 244, 245, 7887, 7885, 7909, 249, 250, 361, 7911, 253, 7907, 7918])

/-- lontar/lontarlaw11.awake -/
def lontarlaw11_awake : Option Bool :=
  (viscii_Encode 7871).bind fun q =>
  (viscii_Encode 2).bind fun q1 =>
  (viscii_Decode 128).bind fun q2 =>
  if q2 = 7840 then
    (viscii_Decode 255).bind fun q3 =>
    if q3 = 7918 then
      (viscii_Decode 97).bind fun q4 =>
      if q4 = 97 then
        if q.2 = true then
          if q.1 = 170 then
            if q1.2 = true then
              some false
            else
              (viscii_Rules).bind fun q5 =>
              some ((q5.length : Int) == 256)
          else
            some false
        else
          some false
      else
        some false
    else
      some false
  else
    some false
end Go.AM.M
