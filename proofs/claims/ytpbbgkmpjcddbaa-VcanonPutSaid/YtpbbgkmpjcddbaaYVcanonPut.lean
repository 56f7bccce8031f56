/- Walks, printed by wip/gen.py. -/
import Derived.Test.YtpbbgkmpjcddbaaMVcanonPut
import Derived.Test.YtpbbgkmpjcddbaaYd
set_option linter.all false
namespace Go.Proofs.Ytpbbgkmpjcddbaa
open Go.AM Go.AM.M

def h22 : Nat → Option Hint
| 0 => some { keep := [0] }
| 1 => some { keep := [0, 13] }
| 2 => some { keep := [2] }
| 3 => some { keep := [0, 3] }
| 4 => some { keep := [0, 3, 4], nils := [((.tmp 4), 3)] }
| 5 => some { keep := [3, 4, 5] }
| 6 => some { keep := [3, 4, 5, 18, 19, 20] }
| 7 => some { keep := [3, 4, 5, 18, 19, 20, 21] }
| 8 => some { keep := [3, 4, 5, 6, 7, 18, 19, 20] }
| 9 => some { keep := [3, 4, 5, 6, 7, 18, 19, 20] }
| 10 => some { keep := [3, 4, 5, 7, 8, 18, 19, 20] }
| 11 => some { keep := [3, 4, 5, 8, 10, 18, 19, 20] }
| 12 => some { keep := [3, 4, 5, 8, 10, 11, 18, 19, 20] }
| 13 => some { keep := [3, 4, 5, 18, 19, 20, 84] }
| 14 => some { keep := [2] }
| 15 => some { keep := [3, 4, 5, 18, 19, 20], cut := some 1 }
| 16 => some { keep := [3, 4, 5] }
| 17 => some { keep := [2] }
| _ => none

noncomputable def C22 : Ctx := { P := Try.prog, mv := fun _ _ => false, res := resOf Try.f22, live := h22, call := fun _ _ _ => none }

def S_lontarlaw10_VcanonPut_L0 (q1 : (List Int)) (vv : (List Int) × Int × Int × Nat × Nat × Bool) : St :=
  match vv with
  | (out_, v, m, m_re, m_im, m1) => { ts := [(3, (.ptr 0 0)), (4, (.sl (.own 3) false (eI .i64 out_))), (5, (.sl (.own 3) false (eI .i64 q1))), (18, (.alias (.tmp 5))), (19, (.lit (.int .i64 (q1.length : Int)))), (20, (.lit (.int .i64 v)))], n := 105, σ := [.cells 72 [(.lit (.int .i64 m)), (.lit (.complex .f64 m_re m_im)), (.lit (.bool m1))]] }

def X_lontarlaw10_VcanonPut_L0_0 (q1 : (List Int)) (m : Int) (m_re : Nat) (m_im : Nat) (m1 : Bool) (m2 : Int) (m_re1 : Nat) (m_im1 : Nat) : St := { ts := [(2, (.lit (.bool false)))], n := 105, σ := [.cells 72 [(.lit (.int .i64 m)), (.lit (.complex .f64 m_re m_im)), (.lit (.bool m1))], .cells 38 [(.lit (.int .i64 m2)), (.lit (.complex .f64 m_re1 m_im1))]] }

def X_lontarlaw10_VcanonPut_L0_1 (q1 : (List Int)) (m : Int) (m_re : Nat) (m_im : Nat) (m1 : Bool) (m2 : Int) (m_re1 : Nat) (m_im1 : Nat) : St := { ts := [(2, (.lit (.bool false)))], n := 105, σ := [.cells 72 [(.lit (.int .i64 m)), (.lit (.complex .f64 m_re m_im)), (.lit (.bool m1))], .cells 38 [(.lit (.int .i64 m2)), (.lit (.complex .f64 m_re1 m_im1))]] }

def X_lontarlaw10_VcanonPut_L0_2 (q1 : (List Int)) (m : Int) (m_re : Nat) (m_im : Nat) (m1 : Bool) (m2 : Int) (m_re1 : Nat) (m_im1 : Nat) : St := { ts := [(2, (.lit (.bool false)))], n := 105, σ := [.cells 72 [(.lit (.int .i64 m)), (.lit (.complex .f64 m_re m_im)), (.lit (.bool m1))], .cells 38 [(.lit (.int .i64 m2)), (.lit (.complex .f64 m_re1 m_im1))]] }

def X_lontarlaw10_VcanonPut_L0_3 (q1 : (List Int)) (m : Int) (m_re : Nat) (m_im : Nat) (m1 : Bool) (m2 : Int) (m_re1 : Nat) (m_im1 : Nat) : St := { ts := [(2, (.lit (.bool false)))], n := 105, σ := [.cells 72 [(.lit (.int .i64 m)), (.lit (.complex .f64 m_re m_im)), (.lit (.bool m1))], .cells 38 [(.lit (.int .i64 m2)), (.lit (.complex .f64 m_re1 m_im1))]] }

def X_lontarlaw10_VcanonPut_L0_4 (q1 : (List Int)) (m : Int) (m_re : Nat) (m_im : Nat) (m1 : Bool) (m2 : Int) (m_re1 : Nat) (m_im1 : Nat) : St := { ts := [(2, (.lit (.bool false)))], n := 105, σ := [.cells 72 [(.lit (.int .i64 m)), (.lit (.complex .f64 m_re m_im)), (.lit (.bool m1))], .cells 38 [(.lit (.int .i64 m2)), (.lit (.complex .f64 m_re1 m_im1))]] }

def X_lontarlaw10_VcanonPut_L0_5 (q1 : (List Int)) (m : Int) (m_re : Nat) (m_im : Nat) (m1 : Bool) (m2 : Int) (m_re1 : Nat) (m_im1 : Nat) : St := { ts := [(2, (.lit (.bool false)))], n := 105, σ := [.cells 72 [(.lit (.int .i64 m)), (.lit (.complex .f64 m_re m_im)), (.lit (.bool m1))], .cells 38 [(.lit (.int .i64 m2)), (.lit (.complex .f64 m_re1 m_im1))]] }

def X_lontarlaw10_VcanonPut_L0_6 (q1 : (List Int)) (m : Int) (m_re : Nat) (m_im : Nat) (m1 : Bool) (m2 : Int) (m_re1 : Nat) (m_im1 : Nat) : St := { ts := [(2, (.lit (.bool false)))], n := 105, σ := [.cells 72 [(.lit (.int .i64 m)), (.lit (.complex .f64 m_re m_im)), (.lit (.bool m1))], .cells 38 [(.lit (.int .i64 m2)), (.lit (.complex .f64 m_re1 m_im1))]] }

def X_lontarlaw10_VcanonPut_L0_7 (q1 : (List Int)) (m : Int) (m_re : Nat) (m_im : Nat) (m1 : Bool) (m2 : Int) (m_re1 : Nat) (m_im1 : Nat) : St := { ts := [(2, (.lit (.bool false)))], n := 105, σ := [.cells 72 [(.lit (.int .i64 m)), (.lit (.complex .f64 m_re m_im)), (.lit (.bool m1))], .cells 38 [(.lit (.int .i64 m2)), (.lit (.complex .f64 m_re1 m_im1))]] }

def X_lontarlaw10_VcanonPut_L0_8 (q1 : (List Int)) (m : Int) (m_re : Nat) (m_im : Nat) (m1 : Bool) (m2 : Int) (m_re1 : Nat) (m_im1 : Nat) : St := { ts := [(2, (.lit (.bool false)))], n := 105, σ := [.cells 72 [(.lit (.int .i64 m)), (.lit (.complex .f64 m_re m_im)), (.lit (.bool m1))], .cells 38 [(.lit (.int .i64 m2)), (.lit (.complex .f64 m_re1 m_im1))]] }

def X_lontarlaw10_VcanonPut_L0_9 (q1 : (List Int)) (out_ : List Int) (v : Int) (v1 : Bool) (m : Int) (m_re : Nat) (m_im : Nat) (m1 : Bool) : St := { ts := [(3, (.ptr 0 0)), (4, (.sl (.own 3) false (eI .i64 out_))), (5, (.sl (.own 3) false (eI .i64 q1))), (18, (.alias (.tmp 5))), (19, (.lit (.int .i64 (q1.length : Int)))), (20, (.lit (.int .i64 v))), (21, (.lit (.bool v1)))], n := 105, σ := [.cells 72 [(.lit (.int .i64 m)), (.lit (.complex .f64 m_re m_im)), (.lit (.bool m1))]] }

def E_lontarlaw10_VcanonPut_L0 (q1 : (List Int)) (vv : lontarlaw10_VcanonPut_L0_R) : Exit × St :=
  match vv with
  | .x0 m m_re m_im m1 m2 m_re1 m_im1 => (.ret, X_lontarlaw10_VcanonPut_L0_0 q1 m m_re m_im m1 m2 m_re1 m_im1)
  | .x1 m m_re m_im m1 m2 m_re1 m_im1 => (.ret, X_lontarlaw10_VcanonPut_L0_1 q1 m m_re m_im m1 m2 m_re1 m_im1)
  | .x2 m m_re m_im m1 m2 m_re1 m_im1 => (.ret, X_lontarlaw10_VcanonPut_L0_2 q1 m m_re m_im m1 m2 m_re1 m_im1)
  | .x3 m m_re m_im m1 m2 m_re1 m_im1 => (.ret, X_lontarlaw10_VcanonPut_L0_3 q1 m m_re m_im m1 m2 m_re1 m_im1)
  | .x4 m m_re m_im m1 m2 m_re1 m_im1 => (.ret, X_lontarlaw10_VcanonPut_L0_4 q1 m m_re m_im m1 m2 m_re1 m_im1)
  | .x5 m m_re m_im m1 m2 m_re1 m_im1 => (.ret, X_lontarlaw10_VcanonPut_L0_5 q1 m m_re m_im m1 m2 m_re1 m_im1)
  | .x6 m m_re m_im m1 m2 m_re1 m_im1 => (.ret, X_lontarlaw10_VcanonPut_L0_6 q1 m m_re m_im m1 m2 m_re1 m_im1)
  | .x7 m m_re m_im m1 m2 m_re1 m_im1 => (.ret, X_lontarlaw10_VcanonPut_L0_7 q1 m m_re m_im m1 m2 m_re1 m_im1)
  | .x8 m m_re m_im m1 m2 m_re1 m_im1 => (.ret, X_lontarlaw10_VcanonPut_L0_8 q1 m m_re m_im m1 m2 m_re1 m_im1)
  | .x9 out_ v v1 m m_re m_im m1 => (.exit 0, X_lontarlaw10_VcanonPut_L0_9 q1 out_ v v1 m m_re m_im m1)

set_option maxRecDepth 100000 in
theorem body_lontarlaw10_VcanonPut_L0 (q1 : (List Int)) (vv : (List Int) × Int × Int × Nat × Nat × Bool) (x) (h : lontarlaw10_VcanonPut_L0 q1 vv = some x) : RunsB Try.prog 0 (sub [1, 1, 1, 1, 1, 0, 1, 0, 0] (fbody Try.f22)) (S_lontarlaw10_VcanonPut_L0 q1 vv) (sideX (E_lontarlaw10_VcanonPut_L0 q1) x) (sideS (S_lontarlaw10_VcanonPut_L0 q1) (E_lontarlaw10_VcanonPut_L0 q1) x) := by
  obtain ⟨out_, v, m, m_re, m_im, m1⟩ := vv
  unfold lontarlaw10_VcanonPut_L0 at h
  dsimp only at h
  rcases ite_some h with ⟨hc41, h⟩ | ⟨hc41, h⟩
  · obtain ⟨x_, h_x_, h⟩ := Option.bind_eq_some_iff.1 h
    obtain ⟨q2, h_q2, h⟩ := Option.bind_eq_some_iff.1 h
    obtain ⟨hg42, h⟩ := guardO_some h
    obtain ⟨v1, h_v1, h⟩ := Option.bind_eq_some_iff.1 h
    obtain ⟨q3, h_q3, h⟩ := Option.bind_eq_some_iff.1 h
    obtain ⟨q4, h_q4, h⟩ := Option.bind_eq_some_iff.1 h
    rcases ite_some h with ⟨hc43, h⟩ | ⟨hc43, h⟩
    · obtain ⟨q5, h_q5, h⟩ := Option.bind_eq_some_iff.1 h
      rcases ite_some h with ⟨hc44, h⟩ | ⟨hc44, h⟩
      · obtain ⟨v2, h_v2, h⟩ := Option.bind_eq_some_iff.1 h
        obtain ⟨q6, h_q6, h⟩ := Option.bind_eq_some_iff.1 h
        rcases ite_some h with ⟨hc45, h⟩ | ⟨hc45, h⟩
        · obtain ⟨q7, h_q7, h⟩ := Option.bind_eq_some_iff.1 h
          rcases ite_some h with ⟨hc46, h⟩ | ⟨hc46, h⟩
          · obtain ⟨q8, h_q8, h⟩ := Option.bind_eq_some_iff.1 h
            rcases ite_some h with ⟨hc47, h⟩ | ⟨hc47, h⟩
            · injection h with h; subst h
              exact codeH_sound (C := C22) (base := 0) wf _ (cs := [.b true, .reg 8 [(1, { it := .cs [(.lit (.int .i64 x_))] }), (2, { it := .cs [(.lit (.int .i64 x_))] })], .reg 9 [(3, { it := .res (.sl (.excl 3) false (eI .i64 q2.1)) [.cells 72 [(.lit (.int .i64 q2.2.letter_base)), (.lit (.complex .f64 q2.2.letter_sign.1 q2.2.letter_sign.2)), (.lit (.bool q2.2.is))]] [] }), (4, { it := .sl (eI .i64 (out_ ++ q2.1)) })], .reg 10 [(3, { it := .sl (eI .i64 v1) }), (4, { it := .res (.sl (.excl 3) false (eI .i64 q3)) [.cells 72 [(.lit (.int .i64 q2.2.letter_base)), (.lit (.complex .f64 q2.2.letter_sign.1 q2.2.letter_sign.2)), (.lit (.bool q2.2.is))]] [] })], .reg 11 [(1, { it := .res (.tup [(.agg [(.lit (.int .i64 q4.1.base)), (.lit (.complex .f64 q4.1.sign.1 q4.1.sign.2))]), (.lit (.bool q4.2))]) [.cells 72 [(.lit (.int .i64 q2.2.letter_base)), (.lit (.complex .f64 q2.2.letter_sign.1 q2.2.letter_sign.2)), (.lit (.bool q2.2.is))]] [] })], .reg 12 [(2, { w := some true }), (3, { w := some true }), (4, { w := some true }), (5, { it := .b true })], .reg 13 [(1, { it := .val (.int .i64 ((out_ ++ q2.1).length : Int)) }), (3, { it := .res (.lit (.int .i64 q5.1)) [.cells 72 [(.lit (.int .i64 q5.2.letter_base)), (.lit (.complex .f64 q5.2.letter_sign.1 q5.2.letter_sign.2)), (.lit (.bool q5.2.is))], .cells 38 [(.lit (.int .i64 q4.1.base)), (.lit (.complex .f64 q4.1.sign.1 q4.1.sign.2))]] [] }), (6, { it := .val (.int .i64 (q3.length : Int)) }), (9, { w := some false }), (10, { w := some false }), (11, { w := some false }), (12, { it := .val (.int .i64 ((out_ ++ q2.1).length : Int)), w := some false }), (13, { it := .sl (eI .i64 v2), w := some false }), (14, { it := .res (.lit (.bool q6)) [.cells 72 [(.lit (.int .i64 q5.2.letter_base)), (.lit (.complex .f64 q5.2.letter_sign.1 q5.2.letter_sign.2)), (.lit (.bool q5.2.is))], .cells 38 [(.lit (.int .i64 q4.1.base)), (.lit (.complex .f64 q4.1.sign.1 q4.1.sign.2))]] [], w := some false }), (15, { w := some false }), (16, { it := .b false }), (18, { w := some false }), (19, { w := some false }), (20, { w := some true }), (21, { it := .res (.lit (.int .i64 q7.1)) [.cells 72 [(.lit (.int .i64 q7.2.letter_base)), (.lit (.complex .f64 q7.2.letter_sign.1 q7.2.letter_sign.2)), (.lit (.bool q7.2.is))], .cells 38 [(.lit (.int .i64 q4.1.base)), (.lit (.complex .f64 q4.1.sign.1 q4.1.sign.2))]] [], w := some true }), (22, { w := some true }), (23, { it := .b true, w := some false }), (24, { it := .b false }), (26, { w := some false }), (27, { w := some false }), (28, { w := some false }), (29, { w := some false }), (30, { w := some false }), (31, { w := some false }), (32, { it := .b false, w := some false }), (33, { it := .b false }), (35, { w := some false }), (36, { it := .res (.lit (.int .i64 q8.1)) [.cells 72 [(.lit (.int .i64 q8.2.letter_base)), (.lit (.complex .f64 q8.2.letter_sign.1 q8.2.letter_sign.2)), (.lit (.bool q8.2.is))], .cells 38 [(.lit (.int .i64 q4.1.base)), (.lit (.complex .f64 q4.1.sign.1 q4.1.sign.2))]] [], w := some false }), (37, { w := some false }), (38, { it := .b false })], .b true]) (cs' := []) (ps := [(decide (v < (q1.length : Int))) = true,
                  nthPV (eI .i64 q1) v = some [(.lit (.int .i64 x_))],
                  (eI .i64 q1)[v.toNat]? = some [(.lit (.int .i64 x_))],
                  CallK Try.prog false 46 [(.ptr 0 0), (.lit (.int .i64 x_))] [.cells 72 [(.lit (.int .i64 m)), (.lit (.complex .f64 m_re m_im)), (.lit (.bool m1))]] (.sl (.excl 3) false (eI .i64 q2.1)) [.cells 72 [(.lit (.int .i64 q2.2.letter_base)), (.lit (.complex .f64 q2.2.letter_sign.1 q2.2.letter_sign.2)), (.lit (.bool q2.2.is))]],
                  (List.length (eI .i64 out_) + List.length (eI .i64 q2.1)) * 8 ≤ 2 ^ 46,
                  (eI .i64 q2.1).all (fun c => c.length = 1 && c.all PV.one) = true,
                  (eI .i64 out_) ++ (eI .i64 q2.1) = (eI .i64 (out_ ++ q2.1)),
                  0 ≤ (0 : Int) ∧ (0 : Int) ≤ (w64 (v + 1)) ∧ (w64 (v + 1)) ≤ (↑(List.length (eI .i64 q1)) : Int),
                  ((eI .i64 q1).drop (0 : Int).toNat).take ((w64 (v + 1)).toNat - (0 : Int).toNat) = (eI .i64 v1),
                  firstLen 1 (eI .i64 v1) = true,
                  CallK Try.prog false 44 [(.sl .view false (eI .i64 v1))] [.cells 72 [(.lit (.int .i64 q2.2.letter_base)), (.lit (.complex .f64 q2.2.letter_sign.1 q2.2.letter_sign.2)), (.lit (.bool q2.2.is))]] (.sl (.excl 3) false (eI .i64 q3)) [.cells 72 [(.lit (.int .i64 q2.2.letter_base)), (.lit (.complex .f64 q2.2.letter_sign.1 q2.2.letter_sign.2)), (.lit (.bool q2.2.is))]],
                  CallK Try.prog false 32 [(.lit (.int .i64 x_))] [.cells 72 [(.lit (.int .i64 q2.2.letter_base)), (.lit (.complex .f64 q2.2.letter_sign.1 q2.2.letter_sign.2)), (.lit (.bool q2.2.is))]] (.tup [(.agg [(.lit (.int .i64 q4.1.base)), (.lit (.complex .f64 q4.1.sign.1 q4.1.sign.2))]), (.lit (.bool q4.2))]) [.cells 72 [(.lit (.int .i64 q2.2.letter_base)), (.lit (.complex .f64 q2.2.letter_sign.1 q2.2.letter_sign.2)), (.lit (.bool q2.2.is))]],
                  q4.2 = true,
                  q4.2 = true,
                  q4.2 = true,
                  q4.2 = true,
                  Value.int .i64 (↑(List.length (eI .i64 (out_ ++ q2.1))) : Int) = .int .i64 ((out_ ++ q2.1).length : Int),
                  CallK Try.prog false 47 [(.ptr 0 0)] [.cells 72 [(.lit (.int .i64 q2.2.letter_base)), (.lit (.complex .f64 q2.2.letter_sign.1 q2.2.letter_sign.2)), (.lit (.bool q2.2.is))], .cells 38 [(.lit (.int .i64 q4.1.base)), (.lit (.complex .f64 q4.1.sign.1 q4.1.sign.2))]] (.lit (.int .i64 q5.1)) [.cells 72 [(.lit (.int .i64 q5.2.letter_base)), (.lit (.complex .f64 q5.2.letter_sign.1 q5.2.letter_sign.2)), (.lit (.bool q5.2.is))], .cells 38 [(.lit (.int .i64 q4.1.base)), (.lit (.complex .f64 q4.1.sign.1 q4.1.sign.2))]],
                  Value.int .i64 (↑(List.length (eI .i64 q3)) : Int) = .int .i64 (q3.length : Int),
                  ((w64 (((out_ ++ q2.1).length : Int) + q5.1)) != (q3.length : Int)) = false,
                  ((w64 (((out_ ++ q2.1).length : Int) + q5.1)) != (q3.length : Int)) = false,
                  ((w64 (((out_ ++ q2.1).length : Int) + q5.1)) != (q3.length : Int)) = false,
                  ((w64 (((out_ ++ q2.1).length : Int) + q5.1)) != (q3.length : Int)) = false,
                  Value.int .i64 (↑(List.length (eI .i64 (out_ ++ q2.1))) : Int) = .int .i64 ((out_ ++ q2.1).length : Int),
                  ((w64 (((out_ ++ q2.1).length : Int) + q5.1)) != (q3.length : Int)) = false,
                  0 ≤ (0 : Int) ∧ (0 : Int) ≤ ((out_ ++ q2.1).length : Int) ∧ ((out_ ++ q2.1).length : Int) ≤ (↑(List.length (eI .i64 q3)) : Int),
                  ((eI .i64 q3).drop (0 : Int).toNat).take (((out_ ++ q2.1).length : Int).toNat - (0 : Int).toNat) = (eI .i64 v2),
                  firstLen 1 (eI .i64 v2) = true,
                  ((w64 (((out_ ++ q2.1).length : Int) + q5.1)) != (q3.length : Int)) = false,
                  CallK Try.prog false 42 [(.sl .view false (eI .i64 (out_ ++ q2.1))), (.sl .view false (eI .i64 v2))] [.cells 72 [(.lit (.int .i64 q5.2.letter_base)), (.lit (.complex .f64 q5.2.letter_sign.1 q5.2.letter_sign.2)), (.lit (.bool q5.2.is))], .cells 38 [(.lit (.int .i64 q4.1.base)), (.lit (.complex .f64 q4.1.sign.1 q4.1.sign.2))]] (.lit (.bool q6)) [.cells 72 [(.lit (.int .i64 q5.2.letter_base)), (.lit (.complex .f64 q5.2.letter_sign.1 q5.2.letter_sign.2)), (.lit (.bool q5.2.is))], .cells 38 [(.lit (.int .i64 q4.1.base)), (.lit (.complex .f64 q4.1.sign.1 q4.1.sign.2))]],
                  ((w64 (((out_ ++ q2.1).length : Int) + q5.1)) != (q3.length : Int)) = false,
                  ((w64 (((out_ ++ q2.1).length : Int) + q5.1)) != (q3.length : Int)) = false,
                  (!q6) = false,
                  (!q6) = false,
                  q4.2 = true,
                  q4.2 = true,
                  CallK Try.prog false 47 [(.ptr 0 0)] [.cells 72 [(.lit (.int .i64 q5.2.letter_base)), (.lit (.complex .f64 q5.2.letter_sign.1 q5.2.letter_sign.2)), (.lit (.bool q5.2.is))], .cells 38 [(.lit (.int .i64 q4.1.base)), (.lit (.complex .f64 q4.1.sign.1 q4.1.sign.2))]] (.lit (.int .i64 q7.1)) [.cells 72 [(.lit (.int .i64 q7.2.letter_base)), (.lit (.complex .f64 q7.2.letter_sign.1 q7.2.letter_sign.2)), (.lit (.bool q7.2.is))], .cells 38 [(.lit (.int .i64 q4.1.base)), (.lit (.complex .f64 q4.1.sign.1 q4.1.sign.2))]],
                  q4.2 = true,
                  (!q6) = false,
                  q4.2 = true,
                  (!q6) = false,
                  (q7.1 != 1) = false,
                  (q7.1 != 1) = false,
                  (q7.1 != 1) = false,
                  false = false,
                  false = false,
                  false = false,
                  (q7.1 != 1) = false,
                  false = false,
                  (q7.1 != 1) = false,
                  false = false,
                  false = false,
                  CallK Try.prog false 47 [(.ptr 0 0)] [.cells 72 [(.lit (.int .i64 q7.2.letter_base)), (.lit (.complex .f64 q7.2.letter_sign.1 q7.2.letter_sign.2)), (.lit (.bool q7.2.is))], .cells 38 [(.lit (.int .i64 q4.1.base)), (.lit (.complex .f64 q4.1.sign.1 q4.1.sign.2))]] (.lit (.int .i64 q8.1)) [.cells 72 [(.lit (.int .i64 q8.2.letter_base)), (.lit (.complex .f64 q8.2.letter_sign.1 q8.2.letter_sign.2)), (.lit (.bool q8.2.is))], .cells 38 [(.lit (.int .i64 q4.1.base)), (.lit (.complex .f64 q4.1.sign.1 q4.1.sign.2))]],
                  false = false,
                  false = false,
                  (decide (q8.1 > 1)) = true]) (by kernel_rfl)
                ⟨(decide_eq_true hc41), (nth_map _ h_x_), (nthPV_eq (nth_map _ h_x_)).2, (callK_emb (knows_vcanon_Canon_Put (⟨m, (m_re, m_im), m1⟩ : GVcanonCanon) x_ h_q2) [0] rfl rfl rfl rfl rfl rfl rfl rfl rfl rfl rfl (ren_res _ _ ((map_noRef (fun _ => rfl) _)))), (len_map2 hg42), (all_map (fun _ => rfl) _), (List.map_append).symm, (sl_b h_v1), (sl_e h_v1), (first_map (fun _ => rfl) _), (call_lontarlaw10_canon h_q3 _ _), (call_viet_Split h_q4 _ _), hc43, hc43, hc43, hc43, (len_val _ _), (callK_emb (knows_vcanon_Canon_Held q2.2 h_q5) [0] rfl rfl rfl rfl rfl rfl rfl rfl rfl rfl rfl rfl), (len_val _ _), (bne_f hc44), (bne_f hc44), (bne_f hc44), (bne_f hc44), (len_val _ _), (bne_f hc44), (sl_b h_v2), (sl_e h_v2), (first_map (fun _ => rfl) _), (bne_f hc44), (call_lontarlaw01_Units h_q6 _ _), (bne_f hc44), (bne_f hc44), (not_f hc45), (not_f hc45), hc43, hc43, (callK_emb (knows_vcanon_Canon_Held q5.2 h_q7) [0] rfl rfl rfl rfl rfl rfl rfl rfl rfl rfl rfl rfl), hc43, (not_f hc45), hc43, (not_f hc45), (bne_f hc46), (bne_f hc46), (bne_f hc46), rfl, rfl, rfl, (bne_f hc46), rfl, (bne_f hc46), rfl, rfl, (callK_emb (knows_vcanon_Canon_Held q7.2 h_q8) [0] rfl rfl rfl rfl rfl rfl rfl rfl rfl rfl rfl rfl), rfl, rfl, (decide_eq_true hc47), trivial⟩
            · injection h with h; subst h
              exact codeH_sound (C := C22) (base := 0) wf _ (cs := [.b true, .reg 8 [(1, { it := .cs [(.lit (.int .i64 x_))] }), (2, { it := .cs [(.lit (.int .i64 x_))] })], .reg 9 [(3, { it := .res (.sl (.excl 3) false (eI .i64 q2.1)) [.cells 72 [(.lit (.int .i64 q2.2.letter_base)), (.lit (.complex .f64 q2.2.letter_sign.1 q2.2.letter_sign.2)), (.lit (.bool q2.2.is))]] [] }), (4, { it := .sl (eI .i64 (out_ ++ q2.1)) })], .reg 10 [(3, { it := .sl (eI .i64 v1) }), (4, { it := .res (.sl (.excl 3) false (eI .i64 q3)) [.cells 72 [(.lit (.int .i64 q2.2.letter_base)), (.lit (.complex .f64 q2.2.letter_sign.1 q2.2.letter_sign.2)), (.lit (.bool q2.2.is))]] [] })], .reg 11 [(1, { it := .res (.tup [(.agg [(.lit (.int .i64 q4.1.base)), (.lit (.complex .f64 q4.1.sign.1 q4.1.sign.2))]), (.lit (.bool q4.2))]) [.cells 72 [(.lit (.int .i64 q2.2.letter_base)), (.lit (.complex .f64 q2.2.letter_sign.1 q2.2.letter_sign.2)), (.lit (.bool q2.2.is))]] [] })], .reg 12 [(2, { w := some true }), (3, { w := some true }), (4, { w := some true }), (5, { it := .b true })], .reg 13 [(1, { it := .val (.int .i64 ((out_ ++ q2.1).length : Int)) }), (3, { it := .res (.lit (.int .i64 q5.1)) [.cells 72 [(.lit (.int .i64 q5.2.letter_base)), (.lit (.complex .f64 q5.2.letter_sign.1 q5.2.letter_sign.2)), (.lit (.bool q5.2.is))], .cells 38 [(.lit (.int .i64 q4.1.base)), (.lit (.complex .f64 q4.1.sign.1 q4.1.sign.2))]] [] }), (6, { it := .val (.int .i64 (q3.length : Int)) }), (9, { w := some false }), (10, { w := some false }), (11, { w := some false }), (12, { it := .val (.int .i64 ((out_ ++ q2.1).length : Int)), w := some false }), (13, { it := .sl (eI .i64 v2), w := some false }), (14, { it := .res (.lit (.bool q6)) [.cells 72 [(.lit (.int .i64 q5.2.letter_base)), (.lit (.complex .f64 q5.2.letter_sign.1 q5.2.letter_sign.2)), (.lit (.bool q5.2.is))], .cells 38 [(.lit (.int .i64 q4.1.base)), (.lit (.complex .f64 q4.1.sign.1 q4.1.sign.2))]] [], w := some false }), (15, { w := some false }), (16, { it := .b false }), (18, { w := some false }), (19, { w := some false }), (20, { w := some true }), (21, { it := .res (.lit (.int .i64 q7.1)) [.cells 72 [(.lit (.int .i64 q7.2.letter_base)), (.lit (.complex .f64 q7.2.letter_sign.1 q7.2.letter_sign.2)), (.lit (.bool q7.2.is))], .cells 38 [(.lit (.int .i64 q4.1.base)), (.lit (.complex .f64 q4.1.sign.1 q4.1.sign.2))]] [], w := some true }), (22, { w := some true }), (23, { it := .b true, w := some false }), (24, { it := .b false }), (26, { w := some false }), (27, { w := some false }), (28, { w := some false }), (29, { w := some false }), (30, { w := some false }), (31, { w := some false }), (32, { it := .b false, w := some false }), (33, { it := .b false }), (35, { w := some false }), (36, { it := .res (.lit (.int .i64 q8.1)) [.cells 72 [(.lit (.int .i64 q8.2.letter_base)), (.lit (.complex .f64 q8.2.letter_sign.1 q8.2.letter_sign.2)), (.lit (.bool q8.2.is))], .cells 38 [(.lit (.int .i64 q4.1.base)), (.lit (.complex .f64 q4.1.sign.1 q4.1.sign.2))]] [], w := some false }), (37, { w := some false }), (38, { it := .b false })], .b false]) (cs' := []) (ps := [(decide (v < (q1.length : Int))) = true,
                  nthPV (eI .i64 q1) v = some [(.lit (.int .i64 x_))],
                  (eI .i64 q1)[v.toNat]? = some [(.lit (.int .i64 x_))],
                  CallK Try.prog false 46 [(.ptr 0 0), (.lit (.int .i64 x_))] [.cells 72 [(.lit (.int .i64 m)), (.lit (.complex .f64 m_re m_im)), (.lit (.bool m1))]] (.sl (.excl 3) false (eI .i64 q2.1)) [.cells 72 [(.lit (.int .i64 q2.2.letter_base)), (.lit (.complex .f64 q2.2.letter_sign.1 q2.2.letter_sign.2)), (.lit (.bool q2.2.is))]],
                  (List.length (eI .i64 out_) + List.length (eI .i64 q2.1)) * 8 ≤ 2 ^ 46,
                  (eI .i64 q2.1).all (fun c => c.length = 1 && c.all PV.one) = true,
                  (eI .i64 out_) ++ (eI .i64 q2.1) = (eI .i64 (out_ ++ q2.1)),
                  0 ≤ (0 : Int) ∧ (0 : Int) ≤ (w64 (v + 1)) ∧ (w64 (v + 1)) ≤ (↑(List.length (eI .i64 q1)) : Int),
                  ((eI .i64 q1).drop (0 : Int).toNat).take ((w64 (v + 1)).toNat - (0 : Int).toNat) = (eI .i64 v1),
                  firstLen 1 (eI .i64 v1) = true,
                  CallK Try.prog false 44 [(.sl .view false (eI .i64 v1))] [.cells 72 [(.lit (.int .i64 q2.2.letter_base)), (.lit (.complex .f64 q2.2.letter_sign.1 q2.2.letter_sign.2)), (.lit (.bool q2.2.is))]] (.sl (.excl 3) false (eI .i64 q3)) [.cells 72 [(.lit (.int .i64 q2.2.letter_base)), (.lit (.complex .f64 q2.2.letter_sign.1 q2.2.letter_sign.2)), (.lit (.bool q2.2.is))]],
                  CallK Try.prog false 32 [(.lit (.int .i64 x_))] [.cells 72 [(.lit (.int .i64 q2.2.letter_base)), (.lit (.complex .f64 q2.2.letter_sign.1 q2.2.letter_sign.2)), (.lit (.bool q2.2.is))]] (.tup [(.agg [(.lit (.int .i64 q4.1.base)), (.lit (.complex .f64 q4.1.sign.1 q4.1.sign.2))]), (.lit (.bool q4.2))]) [.cells 72 [(.lit (.int .i64 q2.2.letter_base)), (.lit (.complex .f64 q2.2.letter_sign.1 q2.2.letter_sign.2)), (.lit (.bool q2.2.is))]],
                  q4.2 = true,
                  q4.2 = true,
                  q4.2 = true,
                  q4.2 = true,
                  Value.int .i64 (↑(List.length (eI .i64 (out_ ++ q2.1))) : Int) = .int .i64 ((out_ ++ q2.1).length : Int),
                  CallK Try.prog false 47 [(.ptr 0 0)] [.cells 72 [(.lit (.int .i64 q2.2.letter_base)), (.lit (.complex .f64 q2.2.letter_sign.1 q2.2.letter_sign.2)), (.lit (.bool q2.2.is))], .cells 38 [(.lit (.int .i64 q4.1.base)), (.lit (.complex .f64 q4.1.sign.1 q4.1.sign.2))]] (.lit (.int .i64 q5.1)) [.cells 72 [(.lit (.int .i64 q5.2.letter_base)), (.lit (.complex .f64 q5.2.letter_sign.1 q5.2.letter_sign.2)), (.lit (.bool q5.2.is))], .cells 38 [(.lit (.int .i64 q4.1.base)), (.lit (.complex .f64 q4.1.sign.1 q4.1.sign.2))]],
                  Value.int .i64 (↑(List.length (eI .i64 q3)) : Int) = .int .i64 (q3.length : Int),
                  ((w64 (((out_ ++ q2.1).length : Int) + q5.1)) != (q3.length : Int)) = false,
                  ((w64 (((out_ ++ q2.1).length : Int) + q5.1)) != (q3.length : Int)) = false,
                  ((w64 (((out_ ++ q2.1).length : Int) + q5.1)) != (q3.length : Int)) = false,
                  ((w64 (((out_ ++ q2.1).length : Int) + q5.1)) != (q3.length : Int)) = false,
                  Value.int .i64 (↑(List.length (eI .i64 (out_ ++ q2.1))) : Int) = .int .i64 ((out_ ++ q2.1).length : Int),
                  ((w64 (((out_ ++ q2.1).length : Int) + q5.1)) != (q3.length : Int)) = false,
                  0 ≤ (0 : Int) ∧ (0 : Int) ≤ ((out_ ++ q2.1).length : Int) ∧ ((out_ ++ q2.1).length : Int) ≤ (↑(List.length (eI .i64 q3)) : Int),
                  ((eI .i64 q3).drop (0 : Int).toNat).take (((out_ ++ q2.1).length : Int).toNat - (0 : Int).toNat) = (eI .i64 v2),
                  firstLen 1 (eI .i64 v2) = true,
                  ((w64 (((out_ ++ q2.1).length : Int) + q5.1)) != (q3.length : Int)) = false,
                  CallK Try.prog false 42 [(.sl .view false (eI .i64 (out_ ++ q2.1))), (.sl .view false (eI .i64 v2))] [.cells 72 [(.lit (.int .i64 q5.2.letter_base)), (.lit (.complex .f64 q5.2.letter_sign.1 q5.2.letter_sign.2)), (.lit (.bool q5.2.is))], .cells 38 [(.lit (.int .i64 q4.1.base)), (.lit (.complex .f64 q4.1.sign.1 q4.1.sign.2))]] (.lit (.bool q6)) [.cells 72 [(.lit (.int .i64 q5.2.letter_base)), (.lit (.complex .f64 q5.2.letter_sign.1 q5.2.letter_sign.2)), (.lit (.bool q5.2.is))], .cells 38 [(.lit (.int .i64 q4.1.base)), (.lit (.complex .f64 q4.1.sign.1 q4.1.sign.2))]],
                  ((w64 (((out_ ++ q2.1).length : Int) + q5.1)) != (q3.length : Int)) = false,
                  ((w64 (((out_ ++ q2.1).length : Int) + q5.1)) != (q3.length : Int)) = false,
                  (!q6) = false,
                  (!q6) = false,
                  q4.2 = true,
                  q4.2 = true,
                  CallK Try.prog false 47 [(.ptr 0 0)] [.cells 72 [(.lit (.int .i64 q5.2.letter_base)), (.lit (.complex .f64 q5.2.letter_sign.1 q5.2.letter_sign.2)), (.lit (.bool q5.2.is))], .cells 38 [(.lit (.int .i64 q4.1.base)), (.lit (.complex .f64 q4.1.sign.1 q4.1.sign.2))]] (.lit (.int .i64 q7.1)) [.cells 72 [(.lit (.int .i64 q7.2.letter_base)), (.lit (.complex .f64 q7.2.letter_sign.1 q7.2.letter_sign.2)), (.lit (.bool q7.2.is))], .cells 38 [(.lit (.int .i64 q4.1.base)), (.lit (.complex .f64 q4.1.sign.1 q4.1.sign.2))]],
                  q4.2 = true,
                  (!q6) = false,
                  q4.2 = true,
                  (!q6) = false,
                  (q7.1 != 1) = false,
                  (q7.1 != 1) = false,
                  (q7.1 != 1) = false,
                  false = false,
                  false = false,
                  false = false,
                  (q7.1 != 1) = false,
                  false = false,
                  (q7.1 != 1) = false,
                  false = false,
                  false = false,
                  CallK Try.prog false 47 [(.ptr 0 0)] [.cells 72 [(.lit (.int .i64 q7.2.letter_base)), (.lit (.complex .f64 q7.2.letter_sign.1 q7.2.letter_sign.2)), (.lit (.bool q7.2.is))], .cells 38 [(.lit (.int .i64 q4.1.base)), (.lit (.complex .f64 q4.1.sign.1 q4.1.sign.2))]] (.lit (.int .i64 q8.1)) [.cells 72 [(.lit (.int .i64 q8.2.letter_base)), (.lit (.complex .f64 q8.2.letter_sign.1 q8.2.letter_sign.2)), (.lit (.bool q8.2.is))], .cells 38 [(.lit (.int .i64 q4.1.base)), (.lit (.complex .f64 q4.1.sign.1 q4.1.sign.2))]],
                  false = false,
                  false = false,
                  (decide (q8.1 > 1)) = false,
                  noRefss 1 (eI .i64 (out_ ++ q2.1)) = true,
                  noRefss 1 (eI .i64 q1) = true]) (by kernel_rfl)
                ⟨(decide_eq_true hc41), (nth_map _ h_x_), (nthPV_eq (nth_map _ h_x_)).2, (callK_emb (knows_vcanon_Canon_Put (⟨m, (m_re, m_im), m1⟩ : GVcanonCanon) x_ h_q2) [0] rfl rfl rfl rfl rfl rfl rfl rfl rfl rfl rfl (ren_res _ _ ((map_noRef (fun _ => rfl) _)))), (len_map2 hg42), (all_map (fun _ => rfl) _), (List.map_append).symm, (sl_b h_v1), (sl_e h_v1), (first_map (fun _ => rfl) _), (call_lontarlaw10_canon h_q3 _ _), (call_viet_Split h_q4 _ _), hc43, hc43, hc43, hc43, (len_val _ _), (callK_emb (knows_vcanon_Canon_Held q2.2 h_q5) [0] rfl rfl rfl rfl rfl rfl rfl rfl rfl rfl rfl rfl), (len_val _ _), (bne_f hc44), (bne_f hc44), (bne_f hc44), (bne_f hc44), (len_val _ _), (bne_f hc44), (sl_b h_v2), (sl_e h_v2), (first_map (fun _ => rfl) _), (bne_f hc44), (call_lontarlaw01_Units h_q6 _ _), (bne_f hc44), (bne_f hc44), (not_f hc45), (not_f hc45), hc43, hc43, (callK_emb (knows_vcanon_Canon_Held q5.2 h_q7) [0] rfl rfl rfl rfl rfl rfl rfl rfl rfl rfl rfl rfl), hc43, (not_f hc45), hc43, (not_f hc45), (bne_f hc46), (bne_f hc46), (bne_f hc46), rfl, rfl, rfl, (bne_f hc46), rfl, (bne_f hc46), rfl, rfl, (callK_emb (knows_vcanon_Canon_Held q7.2 h_q8) [0] rfl rfl rfl rfl rfl rfl rfl rfl rfl rfl rfl rfl), rfl, rfl, (decide_eq_false hc47), (map_noRef (fun _ => rfl) _), (map_noRef (fun _ => rfl) _), trivial⟩
          · injection h with h; subst h
            exact codeH_sound (C := C22) (base := 0) wf _ (cs := [.b true, .reg 8 [(1, { it := .cs [(.lit (.int .i64 x_))] }), (2, { it := .cs [(.lit (.int .i64 x_))] })], .reg 9 [(3, { it := .res (.sl (.excl 3) false (eI .i64 q2.1)) [.cells 72 [(.lit (.int .i64 q2.2.letter_base)), (.lit (.complex .f64 q2.2.letter_sign.1 q2.2.letter_sign.2)), (.lit (.bool q2.2.is))]] [] }), (4, { it := .sl (eI .i64 (out_ ++ q2.1)) })], .reg 10 [(3, { it := .sl (eI .i64 v1) }), (4, { it := .res (.sl (.excl 3) false (eI .i64 q3)) [.cells 72 [(.lit (.int .i64 q2.2.letter_base)), (.lit (.complex .f64 q2.2.letter_sign.1 q2.2.letter_sign.2)), (.lit (.bool q2.2.is))]] [] })], .reg 11 [(1, { it := .res (.tup [(.agg [(.lit (.int .i64 q4.1.base)), (.lit (.complex .f64 q4.1.sign.1 q4.1.sign.2))]), (.lit (.bool q4.2))]) [.cells 72 [(.lit (.int .i64 q2.2.letter_base)), (.lit (.complex .f64 q2.2.letter_sign.1 q2.2.letter_sign.2)), (.lit (.bool q2.2.is))]] [] })], .reg 12 [(2, { w := some true }), (3, { w := some true }), (4, { w := some true }), (5, { it := .b true })], .reg 13 [(1, { it := .val (.int .i64 ((out_ ++ q2.1).length : Int)) }), (3, { it := .res (.lit (.int .i64 q5.1)) [.cells 72 [(.lit (.int .i64 q5.2.letter_base)), (.lit (.complex .f64 q5.2.letter_sign.1 q5.2.letter_sign.2)), (.lit (.bool q5.2.is))], .cells 38 [(.lit (.int .i64 q4.1.base)), (.lit (.complex .f64 q4.1.sign.1 q4.1.sign.2))]] [] }), (6, { it := .val (.int .i64 (q3.length : Int)) }), (9, { w := some false }), (10, { w := some false }), (11, { w := some false }), (12, { it := .val (.int .i64 ((out_ ++ q2.1).length : Int)), w := some false }), (13, { it := .sl (eI .i64 v2), w := some false }), (14, { it := .res (.lit (.bool q6)) [.cells 72 [(.lit (.int .i64 q5.2.letter_base)), (.lit (.complex .f64 q5.2.letter_sign.1 q5.2.letter_sign.2)), (.lit (.bool q5.2.is))], .cells 38 [(.lit (.int .i64 q4.1.base)), (.lit (.complex .f64 q4.1.sign.1 q4.1.sign.2))]] [], w := some false }), (15, { w := some false }), (16, { it := .b false }), (18, { w := some false }), (19, { w := some false }), (20, { w := some true }), (21, { it := .res (.lit (.int .i64 q7.1)) [.cells 72 [(.lit (.int .i64 q7.2.letter_base)), (.lit (.complex .f64 q7.2.letter_sign.1 q7.2.letter_sign.2)), (.lit (.bool q7.2.is))], .cells 38 [(.lit (.int .i64 q4.1.base)), (.lit (.complex .f64 q4.1.sign.1 q4.1.sign.2))]] [], w := some true }), (22, { w := some true }), (23, { it := .b true, w := some false }), (24, { it := .b false }), (26, { w := some true }), (27, { w := some true }), (28, { w := some true }), (32, { w := some true }), (33, { it := .b true }), (35, { w := some true }), (36, { w := some true }), (37, { w := some true }), (38, { it := .b true })], .b true]) (cs' := []) (ps := [(decide (v < (q1.length : Int))) = true,
                nthPV (eI .i64 q1) v = some [(.lit (.int .i64 x_))],
                (eI .i64 q1)[v.toNat]? = some [(.lit (.int .i64 x_))],
                CallK Try.prog false 46 [(.ptr 0 0), (.lit (.int .i64 x_))] [.cells 72 [(.lit (.int .i64 m)), (.lit (.complex .f64 m_re m_im)), (.lit (.bool m1))]] (.sl (.excl 3) false (eI .i64 q2.1)) [.cells 72 [(.lit (.int .i64 q2.2.letter_base)), (.lit (.complex .f64 q2.2.letter_sign.1 q2.2.letter_sign.2)), (.lit (.bool q2.2.is))]],
                (List.length (eI .i64 out_) + List.length (eI .i64 q2.1)) * 8 ≤ 2 ^ 46,
                (eI .i64 q2.1).all (fun c => c.length = 1 && c.all PV.one) = true,
                (eI .i64 out_) ++ (eI .i64 q2.1) = (eI .i64 (out_ ++ q2.1)),
                0 ≤ (0 : Int) ∧ (0 : Int) ≤ (w64 (v + 1)) ∧ (w64 (v + 1)) ≤ (↑(List.length (eI .i64 q1)) : Int),
                ((eI .i64 q1).drop (0 : Int).toNat).take ((w64 (v + 1)).toNat - (0 : Int).toNat) = (eI .i64 v1),
                firstLen 1 (eI .i64 v1) = true,
                CallK Try.prog false 44 [(.sl .view false (eI .i64 v1))] [.cells 72 [(.lit (.int .i64 q2.2.letter_base)), (.lit (.complex .f64 q2.2.letter_sign.1 q2.2.letter_sign.2)), (.lit (.bool q2.2.is))]] (.sl (.excl 3) false (eI .i64 q3)) [.cells 72 [(.lit (.int .i64 q2.2.letter_base)), (.lit (.complex .f64 q2.2.letter_sign.1 q2.2.letter_sign.2)), (.lit (.bool q2.2.is))]],
                CallK Try.prog false 32 [(.lit (.int .i64 x_))] [.cells 72 [(.lit (.int .i64 q2.2.letter_base)), (.lit (.complex .f64 q2.2.letter_sign.1 q2.2.letter_sign.2)), (.lit (.bool q2.2.is))]] (.tup [(.agg [(.lit (.int .i64 q4.1.base)), (.lit (.complex .f64 q4.1.sign.1 q4.1.sign.2))]), (.lit (.bool q4.2))]) [.cells 72 [(.lit (.int .i64 q2.2.letter_base)), (.lit (.complex .f64 q2.2.letter_sign.1 q2.2.letter_sign.2)), (.lit (.bool q2.2.is))]],
                q4.2 = true,
                q4.2 = true,
                q4.2 = true,
                q4.2 = true,
                Value.int .i64 (↑(List.length (eI .i64 (out_ ++ q2.1))) : Int) = .int .i64 ((out_ ++ q2.1).length : Int),
                CallK Try.prog false 47 [(.ptr 0 0)] [.cells 72 [(.lit (.int .i64 q2.2.letter_base)), (.lit (.complex .f64 q2.2.letter_sign.1 q2.2.letter_sign.2)), (.lit (.bool q2.2.is))], .cells 38 [(.lit (.int .i64 q4.1.base)), (.lit (.complex .f64 q4.1.sign.1 q4.1.sign.2))]] (.lit (.int .i64 q5.1)) [.cells 72 [(.lit (.int .i64 q5.2.letter_base)), (.lit (.complex .f64 q5.2.letter_sign.1 q5.2.letter_sign.2)), (.lit (.bool q5.2.is))], .cells 38 [(.lit (.int .i64 q4.1.base)), (.lit (.complex .f64 q4.1.sign.1 q4.1.sign.2))]],
                Value.int .i64 (↑(List.length (eI .i64 q3)) : Int) = .int .i64 (q3.length : Int),
                ((w64 (((out_ ++ q2.1).length : Int) + q5.1)) != (q3.length : Int)) = false,
                ((w64 (((out_ ++ q2.1).length : Int) + q5.1)) != (q3.length : Int)) = false,
                ((w64 (((out_ ++ q2.1).length : Int) + q5.1)) != (q3.length : Int)) = false,
                ((w64 (((out_ ++ q2.1).length : Int) + q5.1)) != (q3.length : Int)) = false,
                Value.int .i64 (↑(List.length (eI .i64 (out_ ++ q2.1))) : Int) = .int .i64 ((out_ ++ q2.1).length : Int),
                ((w64 (((out_ ++ q2.1).length : Int) + q5.1)) != (q3.length : Int)) = false,
                0 ≤ (0 : Int) ∧ (0 : Int) ≤ ((out_ ++ q2.1).length : Int) ∧ ((out_ ++ q2.1).length : Int) ≤ (↑(List.length (eI .i64 q3)) : Int),
                ((eI .i64 q3).drop (0 : Int).toNat).take (((out_ ++ q2.1).length : Int).toNat - (0 : Int).toNat) = (eI .i64 v2),
                firstLen 1 (eI .i64 v2) = true,
                ((w64 (((out_ ++ q2.1).length : Int) + q5.1)) != (q3.length : Int)) = false,
                CallK Try.prog false 42 [(.sl .view false (eI .i64 (out_ ++ q2.1))), (.sl .view false (eI .i64 v2))] [.cells 72 [(.lit (.int .i64 q5.2.letter_base)), (.lit (.complex .f64 q5.2.letter_sign.1 q5.2.letter_sign.2)), (.lit (.bool q5.2.is))], .cells 38 [(.lit (.int .i64 q4.1.base)), (.lit (.complex .f64 q4.1.sign.1 q4.1.sign.2))]] (.lit (.bool q6)) [.cells 72 [(.lit (.int .i64 q5.2.letter_base)), (.lit (.complex .f64 q5.2.letter_sign.1 q5.2.letter_sign.2)), (.lit (.bool q5.2.is))], .cells 38 [(.lit (.int .i64 q4.1.base)), (.lit (.complex .f64 q4.1.sign.1 q4.1.sign.2))]],
                ((w64 (((out_ ++ q2.1).length : Int) + q5.1)) != (q3.length : Int)) = false,
                ((w64 (((out_ ++ q2.1).length : Int) + q5.1)) != (q3.length : Int)) = false,
                (!q6) = false,
                (!q6) = false,
                q4.2 = true,
                q4.2 = true,
                CallK Try.prog false 47 [(.ptr 0 0)] [.cells 72 [(.lit (.int .i64 q5.2.letter_base)), (.lit (.complex .f64 q5.2.letter_sign.1 q5.2.letter_sign.2)), (.lit (.bool q5.2.is))], .cells 38 [(.lit (.int .i64 q4.1.base)), (.lit (.complex .f64 q4.1.sign.1 q4.1.sign.2))]] (.lit (.int .i64 q7.1)) [.cells 72 [(.lit (.int .i64 q7.2.letter_base)), (.lit (.complex .f64 q7.2.letter_sign.1 q7.2.letter_sign.2)), (.lit (.bool q7.2.is))], .cells 38 [(.lit (.int .i64 q4.1.base)), (.lit (.complex .f64 q4.1.sign.1 q4.1.sign.2))]],
                q4.2 = true,
                (!q6) = false,
                q4.2 = true,
                (!q6) = false,
                (q7.1 != 1) = true,
                (q7.1 != 1) = true,
                (q7.1 != 1) = true,
                (q7.1 != 1) = true,
                (q7.1 != 1) = true,
                true = true,
                true = true,
                true = true,
                true = true,
                true = true]) (by kernel_rfl)
              ⟨(decide_eq_true hc41), (nth_map _ h_x_), (nthPV_eq (nth_map _ h_x_)).2, (callK_emb (knows_vcanon_Canon_Put (⟨m, (m_re, m_im), m1⟩ : GVcanonCanon) x_ h_q2) [0] rfl rfl rfl rfl rfl rfl rfl rfl rfl rfl rfl (ren_res _ _ ((map_noRef (fun _ => rfl) _)))), (len_map2 hg42), (all_map (fun _ => rfl) _), (List.map_append).symm, (sl_b h_v1), (sl_e h_v1), (first_map (fun _ => rfl) _), (call_lontarlaw10_canon h_q3 _ _), (call_viet_Split h_q4 _ _), hc43, hc43, hc43, hc43, (len_val _ _), (callK_emb (knows_vcanon_Canon_Held q2.2 h_q5) [0] rfl rfl rfl rfl rfl rfl rfl rfl rfl rfl rfl rfl), (len_val _ _), (bne_f hc44), (bne_f hc44), (bne_f hc44), (bne_f hc44), (len_val _ _), (bne_f hc44), (sl_b h_v2), (sl_e h_v2), (first_map (fun _ => rfl) _), (bne_f hc44), (call_lontarlaw01_Units h_q6 _ _), (bne_f hc44), (bne_f hc44), (not_f hc45), (not_f hc45), hc43, hc43, (callK_emb (knows_vcanon_Canon_Held q5.2 h_q7) [0] rfl rfl rfl rfl rfl rfl rfl rfl rfl rfl rfl rfl), hc43, (not_f hc45), hc43, (not_f hc45), (bne_iff_ne.2 hc46), (bne_iff_ne.2 hc46), (bne_iff_ne.2 hc46), (bne_iff_ne.2 hc46), (bne_iff_ne.2 hc46), rfl, rfl, rfl, rfl, rfl, trivial⟩
        · injection h with h; subst h
          exact codeH_sound (C := C22) (base := 0) wf _ (cs := [.b true, .reg 8 [(1, { it := .cs [(.lit (.int .i64 x_))] }), (2, { it := .cs [(.lit (.int .i64 x_))] })], .reg 9 [(3, { it := .res (.sl (.excl 3) false (eI .i64 q2.1)) [.cells 72 [(.lit (.int .i64 q2.2.letter_base)), (.lit (.complex .f64 q2.2.letter_sign.1 q2.2.letter_sign.2)), (.lit (.bool q2.2.is))]] [] }), (4, { it := .sl (eI .i64 (out_ ++ q2.1)) })], .reg 10 [(3, { it := .sl (eI .i64 v1) }), (4, { it := .res (.sl (.excl 3) false (eI .i64 q3)) [.cells 72 [(.lit (.int .i64 q2.2.letter_base)), (.lit (.complex .f64 q2.2.letter_sign.1 q2.2.letter_sign.2)), (.lit (.bool q2.2.is))]] [] })], .reg 11 [(1, { it := .res (.tup [(.agg [(.lit (.int .i64 q4.1.base)), (.lit (.complex .f64 q4.1.sign.1 q4.1.sign.2))]), (.lit (.bool q4.2))]) [.cells 72 [(.lit (.int .i64 q2.2.letter_base)), (.lit (.complex .f64 q2.2.letter_sign.1 q2.2.letter_sign.2)), (.lit (.bool q2.2.is))]] [] })], .reg 12 [(2, { w := some true }), (3, { w := some true }), (4, { w := some true }), (5, { it := .b true })], .reg 13 [(1, { it := .val (.int .i64 ((out_ ++ q2.1).length : Int)) }), (3, { it := .res (.lit (.int .i64 q5.1)) [.cells 72 [(.lit (.int .i64 q5.2.letter_base)), (.lit (.complex .f64 q5.2.letter_sign.1 q5.2.letter_sign.2)), (.lit (.bool q5.2.is))], .cells 38 [(.lit (.int .i64 q4.1.base)), (.lit (.complex .f64 q4.1.sign.1 q4.1.sign.2))]] [] }), (6, { it := .val (.int .i64 (q3.length : Int)) }), (9, { w := some false }), (10, { w := some false }), (11, { w := some false }), (12, { it := .val (.int .i64 ((out_ ++ q2.1).length : Int)), w := some false }), (13, { it := .sl (eI .i64 v2), w := some false }), (14, { it := .res (.lit (.bool q6)) [.cells 72 [(.lit (.int .i64 q5.2.letter_base)), (.lit (.complex .f64 q5.2.letter_sign.1 q5.2.letter_sign.2)), (.lit (.bool q5.2.is))], .cells 38 [(.lit (.int .i64 q4.1.base)), (.lit (.complex .f64 q4.1.sign.1 q4.1.sign.2))]] [], w := some false }), (15, { w := some false }), (16, { it := .b false }), (18, { w := some true }), (19, { w := some true }), (23, { w := some true }), (24, { it := .b true }), (26, { w := some true }), (27, { w := some true }), (28, { w := some true }), (32, { w := some true }), (33, { it := .b true }), (35, { w := some true }), (36, { w := some true }), (37, { w := some true }), (38, { it := .b true })], .b true]) (cs' := []) (ps := [(decide (v < (q1.length : Int))) = true,
              nthPV (eI .i64 q1) v = some [(.lit (.int .i64 x_))],
              (eI .i64 q1)[v.toNat]? = some [(.lit (.int .i64 x_))],
              CallK Try.prog false 46 [(.ptr 0 0), (.lit (.int .i64 x_))] [.cells 72 [(.lit (.int .i64 m)), (.lit (.complex .f64 m_re m_im)), (.lit (.bool m1))]] (.sl (.excl 3) false (eI .i64 q2.1)) [.cells 72 [(.lit (.int .i64 q2.2.letter_base)), (.lit (.complex .f64 q2.2.letter_sign.1 q2.2.letter_sign.2)), (.lit (.bool q2.2.is))]],
              (List.length (eI .i64 out_) + List.length (eI .i64 q2.1)) * 8 ≤ 2 ^ 46,
              (eI .i64 q2.1).all (fun c => c.length = 1 && c.all PV.one) = true,
              (eI .i64 out_) ++ (eI .i64 q2.1) = (eI .i64 (out_ ++ q2.1)),
              0 ≤ (0 : Int) ∧ (0 : Int) ≤ (w64 (v + 1)) ∧ (w64 (v + 1)) ≤ (↑(List.length (eI .i64 q1)) : Int),
              ((eI .i64 q1).drop (0 : Int).toNat).take ((w64 (v + 1)).toNat - (0 : Int).toNat) = (eI .i64 v1),
              firstLen 1 (eI .i64 v1) = true,
              CallK Try.prog false 44 [(.sl .view false (eI .i64 v1))] [.cells 72 [(.lit (.int .i64 q2.2.letter_base)), (.lit (.complex .f64 q2.2.letter_sign.1 q2.2.letter_sign.2)), (.lit (.bool q2.2.is))]] (.sl (.excl 3) false (eI .i64 q3)) [.cells 72 [(.lit (.int .i64 q2.2.letter_base)), (.lit (.complex .f64 q2.2.letter_sign.1 q2.2.letter_sign.2)), (.lit (.bool q2.2.is))]],
              CallK Try.prog false 32 [(.lit (.int .i64 x_))] [.cells 72 [(.lit (.int .i64 q2.2.letter_base)), (.lit (.complex .f64 q2.2.letter_sign.1 q2.2.letter_sign.2)), (.lit (.bool q2.2.is))]] (.tup [(.agg [(.lit (.int .i64 q4.1.base)), (.lit (.complex .f64 q4.1.sign.1 q4.1.sign.2))]), (.lit (.bool q4.2))]) [.cells 72 [(.lit (.int .i64 q2.2.letter_base)), (.lit (.complex .f64 q2.2.letter_sign.1 q2.2.letter_sign.2)), (.lit (.bool q2.2.is))]],
              q4.2 = true,
              q4.2 = true,
              q4.2 = true,
              q4.2 = true,
              Value.int .i64 (↑(List.length (eI .i64 (out_ ++ q2.1))) : Int) = .int .i64 ((out_ ++ q2.1).length : Int),
              CallK Try.prog false 47 [(.ptr 0 0)] [.cells 72 [(.lit (.int .i64 q2.2.letter_base)), (.lit (.complex .f64 q2.2.letter_sign.1 q2.2.letter_sign.2)), (.lit (.bool q2.2.is))], .cells 38 [(.lit (.int .i64 q4.1.base)), (.lit (.complex .f64 q4.1.sign.1 q4.1.sign.2))]] (.lit (.int .i64 q5.1)) [.cells 72 [(.lit (.int .i64 q5.2.letter_base)), (.lit (.complex .f64 q5.2.letter_sign.1 q5.2.letter_sign.2)), (.lit (.bool q5.2.is))], .cells 38 [(.lit (.int .i64 q4.1.base)), (.lit (.complex .f64 q4.1.sign.1 q4.1.sign.2))]],
              Value.int .i64 (↑(List.length (eI .i64 q3)) : Int) = .int .i64 (q3.length : Int),
              ((w64 (((out_ ++ q2.1).length : Int) + q5.1)) != (q3.length : Int)) = false,
              ((w64 (((out_ ++ q2.1).length : Int) + q5.1)) != (q3.length : Int)) = false,
              ((w64 (((out_ ++ q2.1).length : Int) + q5.1)) != (q3.length : Int)) = false,
              ((w64 (((out_ ++ q2.1).length : Int) + q5.1)) != (q3.length : Int)) = false,
              Value.int .i64 (↑(List.length (eI .i64 (out_ ++ q2.1))) : Int) = .int .i64 ((out_ ++ q2.1).length : Int),
              ((w64 (((out_ ++ q2.1).length : Int) + q5.1)) != (q3.length : Int)) = false,
              0 ≤ (0 : Int) ∧ (0 : Int) ≤ ((out_ ++ q2.1).length : Int) ∧ ((out_ ++ q2.1).length : Int) ≤ (↑(List.length (eI .i64 q3)) : Int),
              ((eI .i64 q3).drop (0 : Int).toNat).take (((out_ ++ q2.1).length : Int).toNat - (0 : Int).toNat) = (eI .i64 v2),
              firstLen 1 (eI .i64 v2) = true,
              ((w64 (((out_ ++ q2.1).length : Int) + q5.1)) != (q3.length : Int)) = false,
              CallK Try.prog false 42 [(.sl .view false (eI .i64 (out_ ++ q2.1))), (.sl .view false (eI .i64 v2))] [.cells 72 [(.lit (.int .i64 q5.2.letter_base)), (.lit (.complex .f64 q5.2.letter_sign.1 q5.2.letter_sign.2)), (.lit (.bool q5.2.is))], .cells 38 [(.lit (.int .i64 q4.1.base)), (.lit (.complex .f64 q4.1.sign.1 q4.1.sign.2))]] (.lit (.bool q6)) [.cells 72 [(.lit (.int .i64 q5.2.letter_base)), (.lit (.complex .f64 q5.2.letter_sign.1 q5.2.letter_sign.2)), (.lit (.bool q5.2.is))], .cells 38 [(.lit (.int .i64 q4.1.base)), (.lit (.complex .f64 q4.1.sign.1 q4.1.sign.2))]],
              ((w64 (((out_ ++ q2.1).length : Int) + q5.1)) != (q3.length : Int)) = false,
              ((w64 (((out_ ++ q2.1).length : Int) + q5.1)) != (q3.length : Int)) = false,
              (!q6) = true,
              (!q6) = true,
              (!q6) = true,
              (!q6) = true,
              true = true,
              true = true,
              true = true,
              true = true,
              true = true,
              true = true,
              true = true,
              true = true,
              true = true,
              true = true]) (by kernel_rfl)
            ⟨(decide_eq_true hc41), (nth_map _ h_x_), (nthPV_eq (nth_map _ h_x_)).2, (callK_emb (knows_vcanon_Canon_Put (⟨m, (m_re, m_im), m1⟩ : GVcanonCanon) x_ h_q2) [0] rfl rfl rfl rfl rfl rfl rfl rfl rfl rfl rfl (ren_res _ _ ((map_noRef (fun _ => rfl) _)))), (len_map2 hg42), (all_map (fun _ => rfl) _), (List.map_append).symm, (sl_b h_v1), (sl_e h_v1), (first_map (fun _ => rfl) _), (call_lontarlaw10_canon h_q3 _ _), (call_viet_Split h_q4 _ _), hc43, hc43, hc43, hc43, (len_val _ _), (callK_emb (knows_vcanon_Canon_Held q2.2 h_q5) [0] rfl rfl rfl rfl rfl rfl rfl rfl rfl rfl rfl rfl), (len_val _ _), (bne_f hc44), (bne_f hc44), (bne_f hc44), (bne_f hc44), (len_val _ _), (bne_f hc44), (sl_b h_v2), (sl_e h_v2), (first_map (fun _ => rfl) _), (bne_f hc44), (call_lontarlaw01_Units h_q6 _ _), (bne_f hc44), (bne_f hc44), (not_t (Bool.eq_false_iff.2 hc45)), (not_t (Bool.eq_false_iff.2 hc45)), (not_t (Bool.eq_false_iff.2 hc45)), (not_t (Bool.eq_false_iff.2 hc45)), rfl, rfl, rfl, rfl, rfl, rfl, rfl, rfl, rfl, rfl, trivial⟩
      · injection h with h; subst h
        exact codeH_sound (C := C22) (base := 0) wf _ (cs := [.b true, .reg 8 [(1, { it := .cs [(.lit (.int .i64 x_))] }), (2, { it := .cs [(.lit (.int .i64 x_))] })], .reg 9 [(3, { it := .res (.sl (.excl 3) false (eI .i64 q2.1)) [.cells 72 [(.lit (.int .i64 q2.2.letter_base)), (.lit (.complex .f64 q2.2.letter_sign.1 q2.2.letter_sign.2)), (.lit (.bool q2.2.is))]] [] }), (4, { it := .sl (eI .i64 (out_ ++ q2.1)) })], .reg 10 [(3, { it := .sl (eI .i64 v1) }), (4, { it := .res (.sl (.excl 3) false (eI .i64 q3)) [.cells 72 [(.lit (.int .i64 q2.2.letter_base)), (.lit (.complex .f64 q2.2.letter_sign.1 q2.2.letter_sign.2)), (.lit (.bool q2.2.is))]] [] })], .reg 11 [(1, { it := .res (.tup [(.agg [(.lit (.int .i64 q4.1.base)), (.lit (.complex .f64 q4.1.sign.1 q4.1.sign.2))]), (.lit (.bool q4.2))]) [.cells 72 [(.lit (.int .i64 q2.2.letter_base)), (.lit (.complex .f64 q2.2.letter_sign.1 q2.2.letter_sign.2)), (.lit (.bool q2.2.is))]] [] })], .reg 12 [(2, { w := some true }), (3, { w := some true }), (4, { w := some true }), (5, { it := .b true })], .reg 13 [(1, { it := .val (.int .i64 ((out_ ++ q2.1).length : Int)) }), (3, { it := .res (.lit (.int .i64 q5.1)) [.cells 72 [(.lit (.int .i64 q5.2.letter_base)), (.lit (.complex .f64 q5.2.letter_sign.1 q5.2.letter_sign.2)), (.lit (.bool q5.2.is))], .cells 38 [(.lit (.int .i64 q4.1.base)), (.lit (.complex .f64 q4.1.sign.1 q4.1.sign.2))]] [] }), (6, { it := .val (.int .i64 (q3.length : Int)) }), (9, { w := some true }), (10, { w := some true }), (11, { w := some true }), (12, { w := some true }), (13, { w := some true }), (14, { w := some true }), (15, { w := some true }), (16, { it := .b true }), (18, { w := some true }), (19, { w := some true }), (23, { w := some true }), (24, { it := .b true }), (26, { w := some true }), (27, { w := some true }), (28, { w := some true }), (32, { w := some true }), (33, { it := .b true }), (35, { w := some true }), (36, { w := some true }), (37, { w := some true }), (38, { it := .b true })], .b true]) (cs' := []) (ps := [(decide (v < (q1.length : Int))) = true,
            nthPV (eI .i64 q1) v = some [(.lit (.int .i64 x_))],
            (eI .i64 q1)[v.toNat]? = some [(.lit (.int .i64 x_))],
            CallK Try.prog false 46 [(.ptr 0 0), (.lit (.int .i64 x_))] [.cells 72 [(.lit (.int .i64 m)), (.lit (.complex .f64 m_re m_im)), (.lit (.bool m1))]] (.sl (.excl 3) false (eI .i64 q2.1)) [.cells 72 [(.lit (.int .i64 q2.2.letter_base)), (.lit (.complex .f64 q2.2.letter_sign.1 q2.2.letter_sign.2)), (.lit (.bool q2.2.is))]],
            (List.length (eI .i64 out_) + List.length (eI .i64 q2.1)) * 8 ≤ 2 ^ 46,
            (eI .i64 q2.1).all (fun c => c.length = 1 && c.all PV.one) = true,
            (eI .i64 out_) ++ (eI .i64 q2.1) = (eI .i64 (out_ ++ q2.1)),
            0 ≤ (0 : Int) ∧ (0 : Int) ≤ (w64 (v + 1)) ∧ (w64 (v + 1)) ≤ (↑(List.length (eI .i64 q1)) : Int),
            ((eI .i64 q1).drop (0 : Int).toNat).take ((w64 (v + 1)).toNat - (0 : Int).toNat) = (eI .i64 v1),
            firstLen 1 (eI .i64 v1) = true,
            CallK Try.prog false 44 [(.sl .view false (eI .i64 v1))] [.cells 72 [(.lit (.int .i64 q2.2.letter_base)), (.lit (.complex .f64 q2.2.letter_sign.1 q2.2.letter_sign.2)), (.lit (.bool q2.2.is))]] (.sl (.excl 3) false (eI .i64 q3)) [.cells 72 [(.lit (.int .i64 q2.2.letter_base)), (.lit (.complex .f64 q2.2.letter_sign.1 q2.2.letter_sign.2)), (.lit (.bool q2.2.is))]],
            CallK Try.prog false 32 [(.lit (.int .i64 x_))] [.cells 72 [(.lit (.int .i64 q2.2.letter_base)), (.lit (.complex .f64 q2.2.letter_sign.1 q2.2.letter_sign.2)), (.lit (.bool q2.2.is))]] (.tup [(.agg [(.lit (.int .i64 q4.1.base)), (.lit (.complex .f64 q4.1.sign.1 q4.1.sign.2))]), (.lit (.bool q4.2))]) [.cells 72 [(.lit (.int .i64 q2.2.letter_base)), (.lit (.complex .f64 q2.2.letter_sign.1 q2.2.letter_sign.2)), (.lit (.bool q2.2.is))]],
            q4.2 = true,
            q4.2 = true,
            q4.2 = true,
            q4.2 = true,
            Value.int .i64 (↑(List.length (eI .i64 (out_ ++ q2.1))) : Int) = .int .i64 ((out_ ++ q2.1).length : Int),
            CallK Try.prog false 47 [(.ptr 0 0)] [.cells 72 [(.lit (.int .i64 q2.2.letter_base)), (.lit (.complex .f64 q2.2.letter_sign.1 q2.2.letter_sign.2)), (.lit (.bool q2.2.is))], .cells 38 [(.lit (.int .i64 q4.1.base)), (.lit (.complex .f64 q4.1.sign.1 q4.1.sign.2))]] (.lit (.int .i64 q5.1)) [.cells 72 [(.lit (.int .i64 q5.2.letter_base)), (.lit (.complex .f64 q5.2.letter_sign.1 q5.2.letter_sign.2)), (.lit (.bool q5.2.is))], .cells 38 [(.lit (.int .i64 q4.1.base)), (.lit (.complex .f64 q4.1.sign.1 q4.1.sign.2))]],
            Value.int .i64 (↑(List.length (eI .i64 q3)) : Int) = .int .i64 (q3.length : Int),
            ((w64 (((out_ ++ q2.1).length : Int) + q5.1)) != (q3.length : Int)) = true,
            ((w64 (((out_ ++ q2.1).length : Int) + q5.1)) != (q3.length : Int)) = true,
            ((w64 (((out_ ++ q2.1).length : Int) + q5.1)) != (q3.length : Int)) = true,
            ((w64 (((out_ ++ q2.1).length : Int) + q5.1)) != (q3.length : Int)) = true,
            ((w64 (((out_ ++ q2.1).length : Int) + q5.1)) != (q3.length : Int)) = true,
            ((w64 (((out_ ++ q2.1).length : Int) + q5.1)) != (q3.length : Int)) = true,
            ((w64 (((out_ ++ q2.1).length : Int) + q5.1)) != (q3.length : Int)) = true,
            ((w64 (((out_ ++ q2.1).length : Int) + q5.1)) != (q3.length : Int)) = true,
            true = true,
            true = true,
            true = true,
            true = true,
            true = true,
            true = true,
            true = true,
            true = true,
            true = true,
            true = true,
            true = true,
            true = true,
            true = true,
            true = true]) (by kernel_rfl)
          ⟨(decide_eq_true hc41), (nth_map _ h_x_), (nthPV_eq (nth_map _ h_x_)).2, (callK_emb (knows_vcanon_Canon_Put (⟨m, (m_re, m_im), m1⟩ : GVcanonCanon) x_ h_q2) [0] rfl rfl rfl rfl rfl rfl rfl rfl rfl rfl rfl (ren_res _ _ ((map_noRef (fun _ => rfl) _)))), (len_map2 hg42), (all_map (fun _ => rfl) _), (List.map_append).symm, (sl_b h_v1), (sl_e h_v1), (first_map (fun _ => rfl) _), (call_lontarlaw10_canon h_q3 _ _), (call_viet_Split h_q4 _ _), hc43, hc43, hc43, hc43, (len_val _ _), (callK_emb (knows_vcanon_Canon_Held q2.2 h_q5) [0] rfl rfl rfl rfl rfl rfl rfl rfl rfl rfl rfl rfl), (len_val _ _), (bne_iff_ne.2 hc44), (bne_iff_ne.2 hc44), (bne_iff_ne.2 hc44), (bne_iff_ne.2 hc44), (bne_iff_ne.2 hc44), (bne_iff_ne.2 hc44), (bne_iff_ne.2 hc44), (bne_iff_ne.2 hc44), rfl, rfl, rfl, rfl, rfl, rfl, rfl, rfl, rfl, rfl, rfl, rfl, rfl, rfl, trivial⟩
    · obtain ⟨q5, h_q5, h⟩ := Option.bind_eq_some_iff.1 h
      obtain ⟨q6, h_q6, h⟩ := Option.bind_eq_some_iff.1 h
      rcases ite_some h with ⟨hc48, h⟩ | ⟨hc48, h⟩
      · obtain ⟨v2, h_v2, h⟩ := Option.bind_eq_some_iff.1 h
        obtain ⟨q7, h_q7, h⟩ := Option.bind_eq_some_iff.1 h
        rcases ite_some h with ⟨hc49, h⟩ | ⟨hc49, h⟩
        · rcases ite_some h with ⟨hc50, h⟩ | ⟨hc50, h⟩
          · obtain ⟨q8, h_q8, h⟩ := Option.bind_eq_some_iff.1 h
            rcases ite_some h with ⟨hc51, h⟩ | ⟨hc51, h⟩
            · injection h with h; subst h
              exact codeH_sound (C := C22) (base := 0) wf _ (cs := [.b true, .reg 8 [(1, { it := .cs [(.lit (.int .i64 x_))] }), (2, { it := .cs [(.lit (.int .i64 x_))] })], .reg 9 [(3, { it := .res (.sl (.excl 3) false (eI .i64 q2.1)) [.cells 72 [(.lit (.int .i64 q2.2.letter_base)), (.lit (.complex .f64 q2.2.letter_sign.1 q2.2.letter_sign.2)), (.lit (.bool q2.2.is))]] [] }), (4, { it := .sl (eI .i64 (out_ ++ q2.1)) })], .reg 10 [(3, { it := .sl (eI .i64 v1) }), (4, { it := .res (.sl (.excl 3) false (eI .i64 q3)) [.cells 72 [(.lit (.int .i64 q2.2.letter_base)), (.lit (.complex .f64 q2.2.letter_sign.1 q2.2.letter_sign.2)), (.lit (.bool q2.2.is))]] [] })], .reg 11 [(1, { it := .res (.tup [(.agg [(.lit (.int .i64 q4.1.base)), (.lit (.complex .f64 q4.1.sign.1 q4.1.sign.2))]), (.lit (.bool q4.2))]) [.cells 72 [(.lit (.int .i64 q2.2.letter_base)), (.lit (.complex .f64 q2.2.letter_sign.1 q2.2.letter_sign.2)), (.lit (.bool q2.2.is))]] [] })], .reg 12 [(2, { w := some false }), (3, { it := .res (.lit (.int .i64 q5.1)) [.cells 72 [(.lit (.int .i64 q5.2.letter_base)), (.lit (.complex .f64 q5.2.letter_sign.1 q5.2.letter_sign.2)), (.lit (.bool q5.2.is))], .cells 38 [(.lit (.int .i64 q4.1.base)), (.lit (.complex .f64 q4.1.sign.1 q4.1.sign.2))]] [], w := some false }), (4, { w := some false }), (5, { it := .b false })], .reg 13 [(1, { it := .val (.int .i64 ((out_ ++ q2.1).length : Int)) }), (3, { it := .res (.lit (.int .i64 q6.1)) [.cells 72 [(.lit (.int .i64 q6.2.letter_base)), (.lit (.complex .f64 q6.2.letter_sign.1 q6.2.letter_sign.2)), (.lit (.bool q6.2.is))], .cells 38 [(.lit (.int .i64 q4.1.base)), (.lit (.complex .f64 q4.1.sign.1 q4.1.sign.2))]] [] }), (6, { it := .val (.int .i64 (q3.length : Int)) }), (9, { w := some false }), (10, { w := some false }), (11, { w := some false }), (12, { it := .val (.int .i64 ((out_ ++ q2.1).length : Int)), w := some false }), (13, { it := .sl (eI .i64 v2), w := some false }), (14, { it := .res (.lit (.bool q7)) [.cells 72 [(.lit (.int .i64 q6.2.letter_base)), (.lit (.complex .f64 q6.2.letter_sign.1 q6.2.letter_sign.2)), (.lit (.bool q6.2.is))], .cells 38 [(.lit (.int .i64 q4.1.base)), (.lit (.complex .f64 q4.1.sign.1 q4.1.sign.2))]] [], w := some false }), (15, { w := some false }), (16, { it := .b false }), (18, { w := some false }), (19, { w := some false }), (20, { w := some false }), (21, { w := some false }), (22, { w := some false }), (23, { it := .b false, w := some false }), (24, { it := .b false }), (26, { w := some false }), (27, { w := some false }), (28, { w := some false }), (29, { w := some false }), (30, { w := some false }), (31, { w := some false }), (32, { it := .b false, w := some false }), (33, { it := .b false }), (35, { w := some false }), (36, { it := .res (.lit (.int .i64 q8.1)) [.cells 72 [(.lit (.int .i64 q8.2.letter_base)), (.lit (.complex .f64 q8.2.letter_sign.1 q8.2.letter_sign.2)), (.lit (.bool q8.2.is))], .cells 38 [(.lit (.int .i64 q4.1.base)), (.lit (.complex .f64 q4.1.sign.1 q4.1.sign.2))]] [], w := some false }), (37, { w := some false }), (38, { it := .b false })], .b true]) (cs' := []) (ps := [(decide (v < (q1.length : Int))) = true,
                  nthPV (eI .i64 q1) v = some [(.lit (.int .i64 x_))],
                  (eI .i64 q1)[v.toNat]? = some [(.lit (.int .i64 x_))],
                  CallK Try.prog false 46 [(.ptr 0 0), (.lit (.int .i64 x_))] [.cells 72 [(.lit (.int .i64 m)), (.lit (.complex .f64 m_re m_im)), (.lit (.bool m1))]] (.sl (.excl 3) false (eI .i64 q2.1)) [.cells 72 [(.lit (.int .i64 q2.2.letter_base)), (.lit (.complex .f64 q2.2.letter_sign.1 q2.2.letter_sign.2)), (.lit (.bool q2.2.is))]],
                  (List.length (eI .i64 out_) + List.length (eI .i64 q2.1)) * 8 ≤ 2 ^ 46,
                  (eI .i64 q2.1).all (fun c => c.length = 1 && c.all PV.one) = true,
                  (eI .i64 out_) ++ (eI .i64 q2.1) = (eI .i64 (out_ ++ q2.1)),
                  0 ≤ (0 : Int) ∧ (0 : Int) ≤ (w64 (v + 1)) ∧ (w64 (v + 1)) ≤ (↑(List.length (eI .i64 q1)) : Int),
                  ((eI .i64 q1).drop (0 : Int).toNat).take ((w64 (v + 1)).toNat - (0 : Int).toNat) = (eI .i64 v1),
                  firstLen 1 (eI .i64 v1) = true,
                  CallK Try.prog false 44 [(.sl .view false (eI .i64 v1))] [.cells 72 [(.lit (.int .i64 q2.2.letter_base)), (.lit (.complex .f64 q2.2.letter_sign.1 q2.2.letter_sign.2)), (.lit (.bool q2.2.is))]] (.sl (.excl 3) false (eI .i64 q3)) [.cells 72 [(.lit (.int .i64 q2.2.letter_base)), (.lit (.complex .f64 q2.2.letter_sign.1 q2.2.letter_sign.2)), (.lit (.bool q2.2.is))]],
                  CallK Try.prog false 32 [(.lit (.int .i64 x_))] [.cells 72 [(.lit (.int .i64 q2.2.letter_base)), (.lit (.complex .f64 q2.2.letter_sign.1 q2.2.letter_sign.2)), (.lit (.bool q2.2.is))]] (.tup [(.agg [(.lit (.int .i64 q4.1.base)), (.lit (.complex .f64 q4.1.sign.1 q4.1.sign.2))]), (.lit (.bool q4.2))]) [.cells 72 [(.lit (.int .i64 q2.2.letter_base)), (.lit (.complex .f64 q2.2.letter_sign.1 q2.2.letter_sign.2)), (.lit (.bool q2.2.is))]],
                  q4.2 = false,
                  q4.2 = false,
                  CallK Try.prog false 47 [(.ptr 0 0)] [.cells 72 [(.lit (.int .i64 q2.2.letter_base)), (.lit (.complex .f64 q2.2.letter_sign.1 q2.2.letter_sign.2)), (.lit (.bool q2.2.is))], .cells 38 [(.lit (.int .i64 q4.1.base)), (.lit (.complex .f64 q4.1.sign.1 q4.1.sign.2))]] (.lit (.int .i64 q5.1)) [.cells 72 [(.lit (.int .i64 q5.2.letter_base)), (.lit (.complex .f64 q5.2.letter_sign.1 q5.2.letter_sign.2)), (.lit (.bool q5.2.is))], .cells 38 [(.lit (.int .i64 q4.1.base)), (.lit (.complex .f64 q4.1.sign.1 q4.1.sign.2))]],
                  q4.2 = false,
                  q4.2 = false,
                  Value.int .i64 (↑(List.length (eI .i64 (out_ ++ q2.1))) : Int) = .int .i64 ((out_ ++ q2.1).length : Int),
                  CallK Try.prog false 47 [(.ptr 0 0)] [.cells 72 [(.lit (.int .i64 q5.2.letter_base)), (.lit (.complex .f64 q5.2.letter_sign.1 q5.2.letter_sign.2)), (.lit (.bool q5.2.is))], .cells 38 [(.lit (.int .i64 q4.1.base)), (.lit (.complex .f64 q4.1.sign.1 q4.1.sign.2))]] (.lit (.int .i64 q6.1)) [.cells 72 [(.lit (.int .i64 q6.2.letter_base)), (.lit (.complex .f64 q6.2.letter_sign.1 q6.2.letter_sign.2)), (.lit (.bool q6.2.is))], .cells 38 [(.lit (.int .i64 q4.1.base)), (.lit (.complex .f64 q4.1.sign.1 q4.1.sign.2))]],
                  Value.int .i64 (↑(List.length (eI .i64 q3)) : Int) = .int .i64 (q3.length : Int),
                  ((w64 (((out_ ++ q2.1).length : Int) + q6.1)) != (q3.length : Int)) = false,
                  ((w64 (((out_ ++ q2.1).length : Int) + q6.1)) != (q3.length : Int)) = false,
                  ((w64 (((out_ ++ q2.1).length : Int) + q6.1)) != (q3.length : Int)) = false,
                  ((w64 (((out_ ++ q2.1).length : Int) + q6.1)) != (q3.length : Int)) = false,
                  Value.int .i64 (↑(List.length (eI .i64 (out_ ++ q2.1))) : Int) = .int .i64 ((out_ ++ q2.1).length : Int),
                  ((w64 (((out_ ++ q2.1).length : Int) + q6.1)) != (q3.length : Int)) = false,
                  0 ≤ (0 : Int) ∧ (0 : Int) ≤ ((out_ ++ q2.1).length : Int) ∧ ((out_ ++ q2.1).length : Int) ≤ (↑(List.length (eI .i64 q3)) : Int),
                  ((eI .i64 q3).drop (0 : Int).toNat).take (((out_ ++ q2.1).length : Int).toNat - (0 : Int).toNat) = (eI .i64 v2),
                  firstLen 1 (eI .i64 v2) = true,
                  ((w64 (((out_ ++ q2.1).length : Int) + q6.1)) != (q3.length : Int)) = false,
                  CallK Try.prog false 42 [(.sl .view false (eI .i64 (out_ ++ q2.1))), (.sl .view false (eI .i64 v2))] [.cells 72 [(.lit (.int .i64 q6.2.letter_base)), (.lit (.complex .f64 q6.2.letter_sign.1 q6.2.letter_sign.2)), (.lit (.bool q6.2.is))], .cells 38 [(.lit (.int .i64 q4.1.base)), (.lit (.complex .f64 q4.1.sign.1 q4.1.sign.2))]] (.lit (.bool q7)) [.cells 72 [(.lit (.int .i64 q6.2.letter_base)), (.lit (.complex .f64 q6.2.letter_sign.1 q6.2.letter_sign.2)), (.lit (.bool q6.2.is))], .cells 38 [(.lit (.int .i64 q4.1.base)), (.lit (.complex .f64 q4.1.sign.1 q4.1.sign.2))]],
                  ((w64 (((out_ ++ q2.1).length : Int) + q6.1)) != (q3.length : Int)) = false,
                  ((w64 (((out_ ++ q2.1).length : Int) + q6.1)) != (q3.length : Int)) = false,
                  (!q7) = false,
                  (!q7) = false,
                  q4.2 = false,
                  q4.2 = false,
                  q4.2 = false,
                  (!q7) = false,
                  q4.2 = false,
                  (!q7) = false,
                  false = false,
                  false = false,
                  false = false,
                  (!(q5.1 == 1)) = false,
                  (!(q5.1 == 1)) = false,
                  (!(q5.1 == 1)) = false,
                  false = false,
                  (!(q5.1 == 1)) = false,
                  false = false,
                  false = false,
                  false = false,
                  CallK Try.prog false 47 [(.ptr 0 0)] [.cells 72 [(.lit (.int .i64 q6.2.letter_base)), (.lit (.complex .f64 q6.2.letter_sign.1 q6.2.letter_sign.2)), (.lit (.bool q6.2.is))], .cells 38 [(.lit (.int .i64 q4.1.base)), (.lit (.complex .f64 q4.1.sign.1 q4.1.sign.2))]] (.lit (.int .i64 q8.1)) [.cells 72 [(.lit (.int .i64 q8.2.letter_base)), (.lit (.complex .f64 q8.2.letter_sign.1 q8.2.letter_sign.2)), (.lit (.bool q8.2.is))], .cells 38 [(.lit (.int .i64 q4.1.base)), (.lit (.complex .f64 q4.1.sign.1 q4.1.sign.2))]],
                  false = false,
                  false = false,
                  (decide (q8.1 > 1)) = true]) (by kernel_rfl)
                ⟨(decide_eq_true hc41), (nth_map _ h_x_), (nthPV_eq (nth_map _ h_x_)).2, (callK_emb (knows_vcanon_Canon_Put (⟨m, (m_re, m_im), m1⟩ : GVcanonCanon) x_ h_q2) [0] rfl rfl rfl rfl rfl rfl rfl rfl rfl rfl rfl (ren_res _ _ ((map_noRef (fun _ => rfl) _)))), (len_map2 hg42), (all_map (fun _ => rfl) _), (List.map_append).symm, (sl_b h_v1), (sl_e h_v1), (first_map (fun _ => rfl) _), (call_lontarlaw10_canon h_q3 _ _), (call_viet_Split h_q4 _ _), (Bool.eq_false_iff.2 hc43), (Bool.eq_false_iff.2 hc43), (callK_emb (knows_vcanon_Canon_Held q2.2 h_q5) [0] rfl rfl rfl rfl rfl rfl rfl rfl rfl rfl rfl rfl), (Bool.eq_false_iff.2 hc43), (Bool.eq_false_iff.2 hc43), (len_val _ _), (callK_emb (knows_vcanon_Canon_Held q5.2 h_q6) [0] rfl rfl rfl rfl rfl rfl rfl rfl rfl rfl rfl rfl), (len_val _ _), (bne_f hc48), (bne_f hc48), (bne_f hc48), (bne_f hc48), (len_val _ _), (bne_f hc48), (sl_b h_v2), (sl_e h_v2), (first_map (fun _ => rfl) _), (bne_f hc48), (call_lontarlaw01_Units h_q7 _ _), (bne_f hc48), (bne_f hc48), (not_f hc49), (not_f hc49), (Bool.eq_false_iff.2 hc43), (Bool.eq_false_iff.2 hc43), (Bool.eq_false_iff.2 hc43), (not_f hc49), (Bool.eq_false_iff.2 hc43), (not_f hc49), rfl, rfl, rfl, (not_f (beq_iff_eq.2 hc50)), (not_f (beq_iff_eq.2 hc50)), (not_f (beq_iff_eq.2 hc50)), rfl, (not_f (beq_iff_eq.2 hc50)), rfl, rfl, rfl, (callK_emb (knows_vcanon_Canon_Held q6.2 h_q8) [0] rfl rfl rfl rfl rfl rfl rfl rfl rfl rfl rfl rfl), rfl, rfl, (decide_eq_true hc51), trivial⟩
            · injection h with h; subst h
              exact codeH_sound (C := C22) (base := 0) wf _ (cs := [.b true, .reg 8 [(1, { it := .cs [(.lit (.int .i64 x_))] }), (2, { it := .cs [(.lit (.int .i64 x_))] })], .reg 9 [(3, { it := .res (.sl (.excl 3) false (eI .i64 q2.1)) [.cells 72 [(.lit (.int .i64 q2.2.letter_base)), (.lit (.complex .f64 q2.2.letter_sign.1 q2.2.letter_sign.2)), (.lit (.bool q2.2.is))]] [] }), (4, { it := .sl (eI .i64 (out_ ++ q2.1)) })], .reg 10 [(3, { it := .sl (eI .i64 v1) }), (4, { it := .res (.sl (.excl 3) false (eI .i64 q3)) [.cells 72 [(.lit (.int .i64 q2.2.letter_base)), (.lit (.complex .f64 q2.2.letter_sign.1 q2.2.letter_sign.2)), (.lit (.bool q2.2.is))]] [] })], .reg 11 [(1, { it := .res (.tup [(.agg [(.lit (.int .i64 q4.1.base)), (.lit (.complex .f64 q4.1.sign.1 q4.1.sign.2))]), (.lit (.bool q4.2))]) [.cells 72 [(.lit (.int .i64 q2.2.letter_base)), (.lit (.complex .f64 q2.2.letter_sign.1 q2.2.letter_sign.2)), (.lit (.bool q2.2.is))]] [] })], .reg 12 [(2, { w := some false }), (3, { it := .res (.lit (.int .i64 q5.1)) [.cells 72 [(.lit (.int .i64 q5.2.letter_base)), (.lit (.complex .f64 q5.2.letter_sign.1 q5.2.letter_sign.2)), (.lit (.bool q5.2.is))], .cells 38 [(.lit (.int .i64 q4.1.base)), (.lit (.complex .f64 q4.1.sign.1 q4.1.sign.2))]] [], w := some false }), (4, { w := some false }), (5, { it := .b false })], .reg 13 [(1, { it := .val (.int .i64 ((out_ ++ q2.1).length : Int)) }), (3, { it := .res (.lit (.int .i64 q6.1)) [.cells 72 [(.lit (.int .i64 q6.2.letter_base)), (.lit (.complex .f64 q6.2.letter_sign.1 q6.2.letter_sign.2)), (.lit (.bool q6.2.is))], .cells 38 [(.lit (.int .i64 q4.1.base)), (.lit (.complex .f64 q4.1.sign.1 q4.1.sign.2))]] [] }), (6, { it := .val (.int .i64 (q3.length : Int)) }), (9, { w := some false }), (10, { w := some false }), (11, { w := some false }), (12, { it := .val (.int .i64 ((out_ ++ q2.1).length : Int)), w := some false }), (13, { it := .sl (eI .i64 v2), w := some false }), (14, { it := .res (.lit (.bool q7)) [.cells 72 [(.lit (.int .i64 q6.2.letter_base)), (.lit (.complex .f64 q6.2.letter_sign.1 q6.2.letter_sign.2)), (.lit (.bool q6.2.is))], .cells 38 [(.lit (.int .i64 q4.1.base)), (.lit (.complex .f64 q4.1.sign.1 q4.1.sign.2))]] [], w := some false }), (15, { w := some false }), (16, { it := .b false }), (18, { w := some false }), (19, { w := some false }), (20, { w := some false }), (21, { w := some false }), (22, { w := some false }), (23, { it := .b false, w := some false }), (24, { it := .b false }), (26, { w := some false }), (27, { w := some false }), (28, { w := some false }), (29, { w := some false }), (30, { w := some false }), (31, { w := some false }), (32, { it := .b false, w := some false }), (33, { it := .b false }), (35, { w := some false }), (36, { it := .res (.lit (.int .i64 q8.1)) [.cells 72 [(.lit (.int .i64 q8.2.letter_base)), (.lit (.complex .f64 q8.2.letter_sign.1 q8.2.letter_sign.2)), (.lit (.bool q8.2.is))], .cells 38 [(.lit (.int .i64 q4.1.base)), (.lit (.complex .f64 q4.1.sign.1 q4.1.sign.2))]] [], w := some false }), (37, { w := some false }), (38, { it := .b false })], .b false]) (cs' := []) (ps := [(decide (v < (q1.length : Int))) = true,
                  nthPV (eI .i64 q1) v = some [(.lit (.int .i64 x_))],
                  (eI .i64 q1)[v.toNat]? = some [(.lit (.int .i64 x_))],
                  CallK Try.prog false 46 [(.ptr 0 0), (.lit (.int .i64 x_))] [.cells 72 [(.lit (.int .i64 m)), (.lit (.complex .f64 m_re m_im)), (.lit (.bool m1))]] (.sl (.excl 3) false (eI .i64 q2.1)) [.cells 72 [(.lit (.int .i64 q2.2.letter_base)), (.lit (.complex .f64 q2.2.letter_sign.1 q2.2.letter_sign.2)), (.lit (.bool q2.2.is))]],
                  (List.length (eI .i64 out_) + List.length (eI .i64 q2.1)) * 8 ≤ 2 ^ 46,
                  (eI .i64 q2.1).all (fun c => c.length = 1 && c.all PV.one) = true,
                  (eI .i64 out_) ++ (eI .i64 q2.1) = (eI .i64 (out_ ++ q2.1)),
                  0 ≤ (0 : Int) ∧ (0 : Int) ≤ (w64 (v + 1)) ∧ (w64 (v + 1)) ≤ (↑(List.length (eI .i64 q1)) : Int),
                  ((eI .i64 q1).drop (0 : Int).toNat).take ((w64 (v + 1)).toNat - (0 : Int).toNat) = (eI .i64 v1),
                  firstLen 1 (eI .i64 v1) = true,
                  CallK Try.prog false 44 [(.sl .view false (eI .i64 v1))] [.cells 72 [(.lit (.int .i64 q2.2.letter_base)), (.lit (.complex .f64 q2.2.letter_sign.1 q2.2.letter_sign.2)), (.lit (.bool q2.2.is))]] (.sl (.excl 3) false (eI .i64 q3)) [.cells 72 [(.lit (.int .i64 q2.2.letter_base)), (.lit (.complex .f64 q2.2.letter_sign.1 q2.2.letter_sign.2)), (.lit (.bool q2.2.is))]],
                  CallK Try.prog false 32 [(.lit (.int .i64 x_))] [.cells 72 [(.lit (.int .i64 q2.2.letter_base)), (.lit (.complex .f64 q2.2.letter_sign.1 q2.2.letter_sign.2)), (.lit (.bool q2.2.is))]] (.tup [(.agg [(.lit (.int .i64 q4.1.base)), (.lit (.complex .f64 q4.1.sign.1 q4.1.sign.2))]), (.lit (.bool q4.2))]) [.cells 72 [(.lit (.int .i64 q2.2.letter_base)), (.lit (.complex .f64 q2.2.letter_sign.1 q2.2.letter_sign.2)), (.lit (.bool q2.2.is))]],
                  q4.2 = false,
                  q4.2 = false,
                  CallK Try.prog false 47 [(.ptr 0 0)] [.cells 72 [(.lit (.int .i64 q2.2.letter_base)), (.lit (.complex .f64 q2.2.letter_sign.1 q2.2.letter_sign.2)), (.lit (.bool q2.2.is))], .cells 38 [(.lit (.int .i64 q4.1.base)), (.lit (.complex .f64 q4.1.sign.1 q4.1.sign.2))]] (.lit (.int .i64 q5.1)) [.cells 72 [(.lit (.int .i64 q5.2.letter_base)), (.lit (.complex .f64 q5.2.letter_sign.1 q5.2.letter_sign.2)), (.lit (.bool q5.2.is))], .cells 38 [(.lit (.int .i64 q4.1.base)), (.lit (.complex .f64 q4.1.sign.1 q4.1.sign.2))]],
                  q4.2 = false,
                  q4.2 = false,
                  Value.int .i64 (↑(List.length (eI .i64 (out_ ++ q2.1))) : Int) = .int .i64 ((out_ ++ q2.1).length : Int),
                  CallK Try.prog false 47 [(.ptr 0 0)] [.cells 72 [(.lit (.int .i64 q5.2.letter_base)), (.lit (.complex .f64 q5.2.letter_sign.1 q5.2.letter_sign.2)), (.lit (.bool q5.2.is))], .cells 38 [(.lit (.int .i64 q4.1.base)), (.lit (.complex .f64 q4.1.sign.1 q4.1.sign.2))]] (.lit (.int .i64 q6.1)) [.cells 72 [(.lit (.int .i64 q6.2.letter_base)), (.lit (.complex .f64 q6.2.letter_sign.1 q6.2.letter_sign.2)), (.lit (.bool q6.2.is))], .cells 38 [(.lit (.int .i64 q4.1.base)), (.lit (.complex .f64 q4.1.sign.1 q4.1.sign.2))]],
                  Value.int .i64 (↑(List.length (eI .i64 q3)) : Int) = .int .i64 (q3.length : Int),
                  ((w64 (((out_ ++ q2.1).length : Int) + q6.1)) != (q3.length : Int)) = false,
                  ((w64 (((out_ ++ q2.1).length : Int) + q6.1)) != (q3.length : Int)) = false,
                  ((w64 (((out_ ++ q2.1).length : Int) + q6.1)) != (q3.length : Int)) = false,
                  ((w64 (((out_ ++ q2.1).length : Int) + q6.1)) != (q3.length : Int)) = false,
                  Value.int .i64 (↑(List.length (eI .i64 (out_ ++ q2.1))) : Int) = .int .i64 ((out_ ++ q2.1).length : Int),
                  ((w64 (((out_ ++ q2.1).length : Int) + q6.1)) != (q3.length : Int)) = false,
                  0 ≤ (0 : Int) ∧ (0 : Int) ≤ ((out_ ++ q2.1).length : Int) ∧ ((out_ ++ q2.1).length : Int) ≤ (↑(List.length (eI .i64 q3)) : Int),
                  ((eI .i64 q3).drop (0 : Int).toNat).take (((out_ ++ q2.1).length : Int).toNat - (0 : Int).toNat) = (eI .i64 v2),
                  firstLen 1 (eI .i64 v2) = true,
                  ((w64 (((out_ ++ q2.1).length : Int) + q6.1)) != (q3.length : Int)) = false,
                  CallK Try.prog false 42 [(.sl .view false (eI .i64 (out_ ++ q2.1))), (.sl .view false (eI .i64 v2))] [.cells 72 [(.lit (.int .i64 q6.2.letter_base)), (.lit (.complex .f64 q6.2.letter_sign.1 q6.2.letter_sign.2)), (.lit (.bool q6.2.is))], .cells 38 [(.lit (.int .i64 q4.1.base)), (.lit (.complex .f64 q4.1.sign.1 q4.1.sign.2))]] (.lit (.bool q7)) [.cells 72 [(.lit (.int .i64 q6.2.letter_base)), (.lit (.complex .f64 q6.2.letter_sign.1 q6.2.letter_sign.2)), (.lit (.bool q6.2.is))], .cells 38 [(.lit (.int .i64 q4.1.base)), (.lit (.complex .f64 q4.1.sign.1 q4.1.sign.2))]],
                  ((w64 (((out_ ++ q2.1).length : Int) + q6.1)) != (q3.length : Int)) = false,
                  ((w64 (((out_ ++ q2.1).length : Int) + q6.1)) != (q3.length : Int)) = false,
                  (!q7) = false,
                  (!q7) = false,
                  q4.2 = false,
                  q4.2 = false,
                  q4.2 = false,
                  (!q7) = false,
                  q4.2 = false,
                  (!q7) = false,
                  false = false,
                  false = false,
                  false = false,
                  (!(q5.1 == 1)) = false,
                  (!(q5.1 == 1)) = false,
                  (!(q5.1 == 1)) = false,
                  false = false,
                  (!(q5.1 == 1)) = false,
                  false = false,
                  false = false,
                  false = false,
                  CallK Try.prog false 47 [(.ptr 0 0)] [.cells 72 [(.lit (.int .i64 q6.2.letter_base)), (.lit (.complex .f64 q6.2.letter_sign.1 q6.2.letter_sign.2)), (.lit (.bool q6.2.is))], .cells 38 [(.lit (.int .i64 q4.1.base)), (.lit (.complex .f64 q4.1.sign.1 q4.1.sign.2))]] (.lit (.int .i64 q8.1)) [.cells 72 [(.lit (.int .i64 q8.2.letter_base)), (.lit (.complex .f64 q8.2.letter_sign.1 q8.2.letter_sign.2)), (.lit (.bool q8.2.is))], .cells 38 [(.lit (.int .i64 q4.1.base)), (.lit (.complex .f64 q4.1.sign.1 q4.1.sign.2))]],
                  false = false,
                  false = false,
                  (decide (q8.1 > 1)) = false,
                  noRefss 1 (eI .i64 (out_ ++ q2.1)) = true,
                  noRefss 1 (eI .i64 q1) = true]) (by kernel_rfl)
                ⟨(decide_eq_true hc41), (nth_map _ h_x_), (nthPV_eq (nth_map _ h_x_)).2, (callK_emb (knows_vcanon_Canon_Put (⟨m, (m_re, m_im), m1⟩ : GVcanonCanon) x_ h_q2) [0] rfl rfl rfl rfl rfl rfl rfl rfl rfl rfl rfl (ren_res _ _ ((map_noRef (fun _ => rfl) _)))), (len_map2 hg42), (all_map (fun _ => rfl) _), (List.map_append).symm, (sl_b h_v1), (sl_e h_v1), (first_map (fun _ => rfl) _), (call_lontarlaw10_canon h_q3 _ _), (call_viet_Split h_q4 _ _), (Bool.eq_false_iff.2 hc43), (Bool.eq_false_iff.2 hc43), (callK_emb (knows_vcanon_Canon_Held q2.2 h_q5) [0] rfl rfl rfl rfl rfl rfl rfl rfl rfl rfl rfl rfl), (Bool.eq_false_iff.2 hc43), (Bool.eq_false_iff.2 hc43), (len_val _ _), (callK_emb (knows_vcanon_Canon_Held q5.2 h_q6) [0] rfl rfl rfl rfl rfl rfl rfl rfl rfl rfl rfl rfl), (len_val _ _), (bne_f hc48), (bne_f hc48), (bne_f hc48), (bne_f hc48), (len_val _ _), (bne_f hc48), (sl_b h_v2), (sl_e h_v2), (first_map (fun _ => rfl) _), (bne_f hc48), (call_lontarlaw01_Units h_q7 _ _), (bne_f hc48), (bne_f hc48), (not_f hc49), (not_f hc49), (Bool.eq_false_iff.2 hc43), (Bool.eq_false_iff.2 hc43), (Bool.eq_false_iff.2 hc43), (not_f hc49), (Bool.eq_false_iff.2 hc43), (not_f hc49), rfl, rfl, rfl, (not_f (beq_iff_eq.2 hc50)), (not_f (beq_iff_eq.2 hc50)), (not_f (beq_iff_eq.2 hc50)), rfl, (not_f (beq_iff_eq.2 hc50)), rfl, rfl, rfl, (callK_emb (knows_vcanon_Canon_Held q6.2 h_q8) [0] rfl rfl rfl rfl rfl rfl rfl rfl rfl rfl rfl rfl), rfl, rfl, (decide_eq_false hc51), (map_noRef (fun _ => rfl) _), (map_noRef (fun _ => rfl) _), trivial⟩
          · obtain ⟨q8, h_q8, h⟩ := Option.bind_eq_some_iff.1 h
            rcases ite_some h with ⟨hc52, h⟩ | ⟨hc52, h⟩
            · obtain ⟨q9, h_q9, h⟩ := Option.bind_eq_some_iff.1 h
              rcases ite_some h with ⟨hc53, h⟩ | ⟨hc53, h⟩
              · injection h with h; subst h
                exact codeH_sound (C := C22) (base := 0) wf _ (cs := [.b true, .reg 8 [(1, { it := .cs [(.lit (.int .i64 x_))] }), (2, { it := .cs [(.lit (.int .i64 x_))] })], .reg 9 [(3, { it := .res (.sl (.excl 3) false (eI .i64 q2.1)) [.cells 72 [(.lit (.int .i64 q2.2.letter_base)), (.lit (.complex .f64 q2.2.letter_sign.1 q2.2.letter_sign.2)), (.lit (.bool q2.2.is))]] [] }), (4, { it := .sl (eI .i64 (out_ ++ q2.1)) })], .reg 10 [(3, { it := .sl (eI .i64 v1) }), (4, { it := .res (.sl (.excl 3) false (eI .i64 q3)) [.cells 72 [(.lit (.int .i64 q2.2.letter_base)), (.lit (.complex .f64 q2.2.letter_sign.1 q2.2.letter_sign.2)), (.lit (.bool q2.2.is))]] [] })], .reg 11 [(1, { it := .res (.tup [(.agg [(.lit (.int .i64 q4.1.base)), (.lit (.complex .f64 q4.1.sign.1 q4.1.sign.2))]), (.lit (.bool q4.2))]) [.cells 72 [(.lit (.int .i64 q2.2.letter_base)), (.lit (.complex .f64 q2.2.letter_sign.1 q2.2.letter_sign.2)), (.lit (.bool q2.2.is))]] [] })], .reg 12 [(2, { w := some false }), (3, { it := .res (.lit (.int .i64 q5.1)) [.cells 72 [(.lit (.int .i64 q5.2.letter_base)), (.lit (.complex .f64 q5.2.letter_sign.1 q5.2.letter_sign.2)), (.lit (.bool q5.2.is))], .cells 38 [(.lit (.int .i64 q4.1.base)), (.lit (.complex .f64 q4.1.sign.1 q4.1.sign.2))]] [], w := some false }), (4, { w := some false }), (5, { it := .b false })], .reg 13 [(1, { it := .val (.int .i64 ((out_ ++ q2.1).length : Int)) }), (3, { it := .res (.lit (.int .i64 q6.1)) [.cells 72 [(.lit (.int .i64 q6.2.letter_base)), (.lit (.complex .f64 q6.2.letter_sign.1 q6.2.letter_sign.2)), (.lit (.bool q6.2.is))], .cells 38 [(.lit (.int .i64 q4.1.base)), (.lit (.complex .f64 q4.1.sign.1 q4.1.sign.2))]] [] }), (6, { it := .val (.int .i64 (q3.length : Int)) }), (9, { w := some false }), (10, { w := some false }), (11, { w := some false }), (12, { it := .val (.int .i64 ((out_ ++ q2.1).length : Int)), w := some false }), (13, { it := .sl (eI .i64 v2), w := some false }), (14, { it := .res (.lit (.bool q7)) [.cells 72 [(.lit (.int .i64 q6.2.letter_base)), (.lit (.complex .f64 q6.2.letter_sign.1 q6.2.letter_sign.2)), (.lit (.bool q6.2.is))], .cells 38 [(.lit (.int .i64 q4.1.base)), (.lit (.complex .f64 q4.1.sign.1 q4.1.sign.2))]] [], w := some false }), (15, { w := some false }), (16, { it := .b false }), (18, { w := some false }), (19, { w := some false }), (20, { w := some false }), (21, { w := some false }), (22, { w := some false }), (23, { it := .b false, w := some false }), (24, { it := .b false }), (26, { w := some false }), (27, { w := some false }), (28, { w := some false }), (29, { w := some true }), (30, { it := .res (.lit (.int .i64 q8.1)) [.cells 72 [(.lit (.int .i64 q8.2.letter_base)), (.lit (.complex .f64 q8.2.letter_sign.1 q8.2.letter_sign.2)), (.lit (.bool q8.2.is))], .cells 38 [(.lit (.int .i64 q4.1.base)), (.lit (.complex .f64 q4.1.sign.1 q4.1.sign.2))]] [], w := some true }), (31, { w := some true }), (32, { it := .b true, w := some false }), (33, { it := .b false }), (35, { w := some false }), (36, { it := .res (.lit (.int .i64 q9.1)) [.cells 72 [(.lit (.int .i64 q9.2.letter_base)), (.lit (.complex .f64 q9.2.letter_sign.1 q9.2.letter_sign.2)), (.lit (.bool q9.2.is))], .cells 38 [(.lit (.int .i64 q4.1.base)), (.lit (.complex .f64 q4.1.sign.1 q4.1.sign.2))]] [], w := some false }), (37, { w := some false }), (38, { it := .b false })], .b true]) (cs' := []) (ps := [(decide (v < (q1.length : Int))) = true,
                    nthPV (eI .i64 q1) v = some [(.lit (.int .i64 x_))],
                    (eI .i64 q1)[v.toNat]? = some [(.lit (.int .i64 x_))],
                    CallK Try.prog false 46 [(.ptr 0 0), (.lit (.int .i64 x_))] [.cells 72 [(.lit (.int .i64 m)), (.lit (.complex .f64 m_re m_im)), (.lit (.bool m1))]] (.sl (.excl 3) false (eI .i64 q2.1)) [.cells 72 [(.lit (.int .i64 q2.2.letter_base)), (.lit (.complex .f64 q2.2.letter_sign.1 q2.2.letter_sign.2)), (.lit (.bool q2.2.is))]],
                    (List.length (eI .i64 out_) + List.length (eI .i64 q2.1)) * 8 ≤ 2 ^ 46,
                    (eI .i64 q2.1).all (fun c => c.length = 1 && c.all PV.one) = true,
                    (eI .i64 out_) ++ (eI .i64 q2.1) = (eI .i64 (out_ ++ q2.1)),
                    0 ≤ (0 : Int) ∧ (0 : Int) ≤ (w64 (v + 1)) ∧ (w64 (v + 1)) ≤ (↑(List.length (eI .i64 q1)) : Int),
                    ((eI .i64 q1).drop (0 : Int).toNat).take ((w64 (v + 1)).toNat - (0 : Int).toNat) = (eI .i64 v1),
                    firstLen 1 (eI .i64 v1) = true,
                    CallK Try.prog false 44 [(.sl .view false (eI .i64 v1))] [.cells 72 [(.lit (.int .i64 q2.2.letter_base)), (.lit (.complex .f64 q2.2.letter_sign.1 q2.2.letter_sign.2)), (.lit (.bool q2.2.is))]] (.sl (.excl 3) false (eI .i64 q3)) [.cells 72 [(.lit (.int .i64 q2.2.letter_base)), (.lit (.complex .f64 q2.2.letter_sign.1 q2.2.letter_sign.2)), (.lit (.bool q2.2.is))]],
                    CallK Try.prog false 32 [(.lit (.int .i64 x_))] [.cells 72 [(.lit (.int .i64 q2.2.letter_base)), (.lit (.complex .f64 q2.2.letter_sign.1 q2.2.letter_sign.2)), (.lit (.bool q2.2.is))]] (.tup [(.agg [(.lit (.int .i64 q4.1.base)), (.lit (.complex .f64 q4.1.sign.1 q4.1.sign.2))]), (.lit (.bool q4.2))]) [.cells 72 [(.lit (.int .i64 q2.2.letter_base)), (.lit (.complex .f64 q2.2.letter_sign.1 q2.2.letter_sign.2)), (.lit (.bool q2.2.is))]],
                    q4.2 = false,
                    q4.2 = false,
                    CallK Try.prog false 47 [(.ptr 0 0)] [.cells 72 [(.lit (.int .i64 q2.2.letter_base)), (.lit (.complex .f64 q2.2.letter_sign.1 q2.2.letter_sign.2)), (.lit (.bool q2.2.is))], .cells 38 [(.lit (.int .i64 q4.1.base)), (.lit (.complex .f64 q4.1.sign.1 q4.1.sign.2))]] (.lit (.int .i64 q5.1)) [.cells 72 [(.lit (.int .i64 q5.2.letter_base)), (.lit (.complex .f64 q5.2.letter_sign.1 q5.2.letter_sign.2)), (.lit (.bool q5.2.is))], .cells 38 [(.lit (.int .i64 q4.1.base)), (.lit (.complex .f64 q4.1.sign.1 q4.1.sign.2))]],
                    q4.2 = false,
                    q4.2 = false,
                    Value.int .i64 (↑(List.length (eI .i64 (out_ ++ q2.1))) : Int) = .int .i64 ((out_ ++ q2.1).length : Int),
                    CallK Try.prog false 47 [(.ptr 0 0)] [.cells 72 [(.lit (.int .i64 q5.2.letter_base)), (.lit (.complex .f64 q5.2.letter_sign.1 q5.2.letter_sign.2)), (.lit (.bool q5.2.is))], .cells 38 [(.lit (.int .i64 q4.1.base)), (.lit (.complex .f64 q4.1.sign.1 q4.1.sign.2))]] (.lit (.int .i64 q6.1)) [.cells 72 [(.lit (.int .i64 q6.2.letter_base)), (.lit (.complex .f64 q6.2.letter_sign.1 q6.2.letter_sign.2)), (.lit (.bool q6.2.is))], .cells 38 [(.lit (.int .i64 q4.1.base)), (.lit (.complex .f64 q4.1.sign.1 q4.1.sign.2))]],
                    Value.int .i64 (↑(List.length (eI .i64 q3)) : Int) = .int .i64 (q3.length : Int),
                    ((w64 (((out_ ++ q2.1).length : Int) + q6.1)) != (q3.length : Int)) = false,
                    ((w64 (((out_ ++ q2.1).length : Int) + q6.1)) != (q3.length : Int)) = false,
                    ((w64 (((out_ ++ q2.1).length : Int) + q6.1)) != (q3.length : Int)) = false,
                    ((w64 (((out_ ++ q2.1).length : Int) + q6.1)) != (q3.length : Int)) = false,
                    Value.int .i64 (↑(List.length (eI .i64 (out_ ++ q2.1))) : Int) = .int .i64 ((out_ ++ q2.1).length : Int),
                    ((w64 (((out_ ++ q2.1).length : Int) + q6.1)) != (q3.length : Int)) = false,
                    0 ≤ (0 : Int) ∧ (0 : Int) ≤ ((out_ ++ q2.1).length : Int) ∧ ((out_ ++ q2.1).length : Int) ≤ (↑(List.length (eI .i64 q3)) : Int),
                    ((eI .i64 q3).drop (0 : Int).toNat).take (((out_ ++ q2.1).length : Int).toNat - (0 : Int).toNat) = (eI .i64 v2),
                    firstLen 1 (eI .i64 v2) = true,
                    ((w64 (((out_ ++ q2.1).length : Int) + q6.1)) != (q3.length : Int)) = false,
                    CallK Try.prog false 42 [(.sl .view false (eI .i64 (out_ ++ q2.1))), (.sl .view false (eI .i64 v2))] [.cells 72 [(.lit (.int .i64 q6.2.letter_base)), (.lit (.complex .f64 q6.2.letter_sign.1 q6.2.letter_sign.2)), (.lit (.bool q6.2.is))], .cells 38 [(.lit (.int .i64 q4.1.base)), (.lit (.complex .f64 q4.1.sign.1 q4.1.sign.2))]] (.lit (.bool q7)) [.cells 72 [(.lit (.int .i64 q6.2.letter_base)), (.lit (.complex .f64 q6.2.letter_sign.1 q6.2.letter_sign.2)), (.lit (.bool q6.2.is))], .cells 38 [(.lit (.int .i64 q4.1.base)), (.lit (.complex .f64 q4.1.sign.1 q4.1.sign.2))]],
                    ((w64 (((out_ ++ q2.1).length : Int) + q6.1)) != (q3.length : Int)) = false,
                    ((w64 (((out_ ++ q2.1).length : Int) + q6.1)) != (q3.length : Int)) = false,
                    (!q7) = false,
                    (!q7) = false,
                    q4.2 = false,
                    q4.2 = false,
                    q4.2 = false,
                    (!q7) = false,
                    q4.2 = false,
                    (!q7) = false,
                    false = false,
                    false = false,
                    false = false,
                    (!(q5.1 == 1)) = true,
                    (!(q5.1 == 1)) = true,
                    CallK Try.prog false 47 [(.ptr 0 0)] [.cells 72 [(.lit (.int .i64 q6.2.letter_base)), (.lit (.complex .f64 q6.2.letter_sign.1 q6.2.letter_sign.2)), (.lit (.bool q6.2.is))], .cells 38 [(.lit (.int .i64 q4.1.base)), (.lit (.complex .f64 q4.1.sign.1 q4.1.sign.2))]] (.lit (.int .i64 q8.1)) [.cells 72 [(.lit (.int .i64 q8.2.letter_base)), (.lit (.complex .f64 q8.2.letter_sign.1 q8.2.letter_sign.2)), (.lit (.bool q8.2.is))], .cells 38 [(.lit (.int .i64 q4.1.base)), (.lit (.complex .f64 q4.1.sign.1 q4.1.sign.2))]],
                    (!(q5.1 == 1)) = true,
                    false = false,
                    (!(q5.1 == 1)) = true,
                    false = false,
                    (q8.1 != 0) = false,
                    (q8.1 != 0) = false,
                    CallK Try.prog false 47 [(.ptr 0 0)] [.cells 72 [(.lit (.int .i64 q8.2.letter_base)), (.lit (.complex .f64 q8.2.letter_sign.1 q8.2.letter_sign.2)), (.lit (.bool q8.2.is))], .cells 38 [(.lit (.int .i64 q4.1.base)), (.lit (.complex .f64 q4.1.sign.1 q4.1.sign.2))]] (.lit (.int .i64 q9.1)) [.cells 72 [(.lit (.int .i64 q9.2.letter_base)), (.lit (.complex .f64 q9.2.letter_sign.1 q9.2.letter_sign.2)), (.lit (.bool q9.2.is))], .cells 38 [(.lit (.int .i64 q4.1.base)), (.lit (.complex .f64 q4.1.sign.1 q4.1.sign.2))]],
                    (q8.1 != 0) = false,
                    (q8.1 != 0) = false,
                    (decide (q9.1 > 1)) = true]) (by kernel_rfl)
                  ⟨(decide_eq_true hc41), (nth_map _ h_x_), (nthPV_eq (nth_map _ h_x_)).2, (callK_emb (knows_vcanon_Canon_Put (⟨m, (m_re, m_im), m1⟩ : GVcanonCanon) x_ h_q2) [0] rfl rfl rfl rfl rfl rfl rfl rfl rfl rfl rfl (ren_res _ _ ((map_noRef (fun _ => rfl) _)))), (len_map2 hg42), (all_map (fun _ => rfl) _), (List.map_append).symm, (sl_b h_v1), (sl_e h_v1), (first_map (fun _ => rfl) _), (call_lontarlaw10_canon h_q3 _ _), (call_viet_Split h_q4 _ _), (Bool.eq_false_iff.2 hc43), (Bool.eq_false_iff.2 hc43), (callK_emb (knows_vcanon_Canon_Held q2.2 h_q5) [0] rfl rfl rfl rfl rfl rfl rfl rfl rfl rfl rfl rfl), (Bool.eq_false_iff.2 hc43), (Bool.eq_false_iff.2 hc43), (len_val _ _), (callK_emb (knows_vcanon_Canon_Held q5.2 h_q6) [0] rfl rfl rfl rfl rfl rfl rfl rfl rfl rfl rfl rfl), (len_val _ _), (bne_f hc48), (bne_f hc48), (bne_f hc48), (bne_f hc48), (len_val _ _), (bne_f hc48), (sl_b h_v2), (sl_e h_v2), (first_map (fun _ => rfl) _), (bne_f hc48), (call_lontarlaw01_Units h_q7 _ _), (bne_f hc48), (bne_f hc48), (not_f hc49), (not_f hc49), (Bool.eq_false_iff.2 hc43), (Bool.eq_false_iff.2 hc43), (Bool.eq_false_iff.2 hc43), (not_f hc49), (Bool.eq_false_iff.2 hc43), (not_f hc49), rfl, rfl, rfl, (not_t (beq_eq_false_iff_ne.2 hc50)), (not_t (beq_eq_false_iff_ne.2 hc50)), (callK_emb (knows_vcanon_Canon_Held q6.2 h_q8) [0] rfl rfl rfl rfl rfl rfl rfl rfl rfl rfl rfl rfl), (not_t (beq_eq_false_iff_ne.2 hc50)), rfl, (not_t (beq_eq_false_iff_ne.2 hc50)), rfl, (bne_f hc52), (bne_f hc52), (callK_emb (knows_vcanon_Canon_Held q8.2 h_q9) [0] rfl rfl rfl rfl rfl rfl rfl rfl rfl rfl rfl rfl), (bne_f hc52), (bne_f hc52), (decide_eq_true hc53), trivial⟩
              · injection h with h; subst h
                exact codeH_sound (C := C22) (base := 0) wf _ (cs := [.b true, .reg 8 [(1, { it := .cs [(.lit (.int .i64 x_))] }), (2, { it := .cs [(.lit (.int .i64 x_))] })], .reg 9 [(3, { it := .res (.sl (.excl 3) false (eI .i64 q2.1)) [.cells 72 [(.lit (.int .i64 q2.2.letter_base)), (.lit (.complex .f64 q2.2.letter_sign.1 q2.2.letter_sign.2)), (.lit (.bool q2.2.is))]] [] }), (4, { it := .sl (eI .i64 (out_ ++ q2.1)) })], .reg 10 [(3, { it := .sl (eI .i64 v1) }), (4, { it := .res (.sl (.excl 3) false (eI .i64 q3)) [.cells 72 [(.lit (.int .i64 q2.2.letter_base)), (.lit (.complex .f64 q2.2.letter_sign.1 q2.2.letter_sign.2)), (.lit (.bool q2.2.is))]] [] })], .reg 11 [(1, { it := .res (.tup [(.agg [(.lit (.int .i64 q4.1.base)), (.lit (.complex .f64 q4.1.sign.1 q4.1.sign.2))]), (.lit (.bool q4.2))]) [.cells 72 [(.lit (.int .i64 q2.2.letter_base)), (.lit (.complex .f64 q2.2.letter_sign.1 q2.2.letter_sign.2)), (.lit (.bool q2.2.is))]] [] })], .reg 12 [(2, { w := some false }), (3, { it := .res (.lit (.int .i64 q5.1)) [.cells 72 [(.lit (.int .i64 q5.2.letter_base)), (.lit (.complex .f64 q5.2.letter_sign.1 q5.2.letter_sign.2)), (.lit (.bool q5.2.is))], .cells 38 [(.lit (.int .i64 q4.1.base)), (.lit (.complex .f64 q4.1.sign.1 q4.1.sign.2))]] [], w := some false }), (4, { w := some false }), (5, { it := .b false })], .reg 13 [(1, { it := .val (.int .i64 ((out_ ++ q2.1).length : Int)) }), (3, { it := .res (.lit (.int .i64 q6.1)) [.cells 72 [(.lit (.int .i64 q6.2.letter_base)), (.lit (.complex .f64 q6.2.letter_sign.1 q6.2.letter_sign.2)), (.lit (.bool q6.2.is))], .cells 38 [(.lit (.int .i64 q4.1.base)), (.lit (.complex .f64 q4.1.sign.1 q4.1.sign.2))]] [] }), (6, { it := .val (.int .i64 (q3.length : Int)) }), (9, { w := some false }), (10, { w := some false }), (11, { w := some false }), (12, { it := .val (.int .i64 ((out_ ++ q2.1).length : Int)), w := some false }), (13, { it := .sl (eI .i64 v2), w := some false }), (14, { it := .res (.lit (.bool q7)) [.cells 72 [(.lit (.int .i64 q6.2.letter_base)), (.lit (.complex .f64 q6.2.letter_sign.1 q6.2.letter_sign.2)), (.lit (.bool q6.2.is))], .cells 38 [(.lit (.int .i64 q4.1.base)), (.lit (.complex .f64 q4.1.sign.1 q4.1.sign.2))]] [], w := some false }), (15, { w := some false }), (16, { it := .b false }), (18, { w := some false }), (19, { w := some false }), (20, { w := some false }), (21, { w := some false }), (22, { w := some false }), (23, { it := .b false, w := some false }), (24, { it := .b false }), (26, { w := some false }), (27, { w := some false }), (28, { w := some false }), (29, { w := some true }), (30, { it := .res (.lit (.int .i64 q8.1)) [.cells 72 [(.lit (.int .i64 q8.2.letter_base)), (.lit (.complex .f64 q8.2.letter_sign.1 q8.2.letter_sign.2)), (.lit (.bool q8.2.is))], .cells 38 [(.lit (.int .i64 q4.1.base)), (.lit (.complex .f64 q4.1.sign.1 q4.1.sign.2))]] [], w := some true }), (31, { w := some true }), (32, { it := .b true, w := some false }), (33, { it := .b false }), (35, { w := some false }), (36, { it := .res (.lit (.int .i64 q9.1)) [.cells 72 [(.lit (.int .i64 q9.2.letter_base)), (.lit (.complex .f64 q9.2.letter_sign.1 q9.2.letter_sign.2)), (.lit (.bool q9.2.is))], .cells 38 [(.lit (.int .i64 q4.1.base)), (.lit (.complex .f64 q4.1.sign.1 q4.1.sign.2))]] [], w := some false }), (37, { w := some false }), (38, { it := .b false })], .b false]) (cs' := []) (ps := [(decide (v < (q1.length : Int))) = true,
                    nthPV (eI .i64 q1) v = some [(.lit (.int .i64 x_))],
                    (eI .i64 q1)[v.toNat]? = some [(.lit (.int .i64 x_))],
                    CallK Try.prog false 46 [(.ptr 0 0), (.lit (.int .i64 x_))] [.cells 72 [(.lit (.int .i64 m)), (.lit (.complex .f64 m_re m_im)), (.lit (.bool m1))]] (.sl (.excl 3) false (eI .i64 q2.1)) [.cells 72 [(.lit (.int .i64 q2.2.letter_base)), (.lit (.complex .f64 q2.2.letter_sign.1 q2.2.letter_sign.2)), (.lit (.bool q2.2.is))]],
                    (List.length (eI .i64 out_) + List.length (eI .i64 q2.1)) * 8 ≤ 2 ^ 46,
                    (eI .i64 q2.1).all (fun c => c.length = 1 && c.all PV.one) = true,
                    (eI .i64 out_) ++ (eI .i64 q2.1) = (eI .i64 (out_ ++ q2.1)),
                    0 ≤ (0 : Int) ∧ (0 : Int) ≤ (w64 (v + 1)) ∧ (w64 (v + 1)) ≤ (↑(List.length (eI .i64 q1)) : Int),
                    ((eI .i64 q1).drop (0 : Int).toNat).take ((w64 (v + 1)).toNat - (0 : Int).toNat) = (eI .i64 v1),
                    firstLen 1 (eI .i64 v1) = true,
                    CallK Try.prog false 44 [(.sl .view false (eI .i64 v1))] [.cells 72 [(.lit (.int .i64 q2.2.letter_base)), (.lit (.complex .f64 q2.2.letter_sign.1 q2.2.letter_sign.2)), (.lit (.bool q2.2.is))]] (.sl (.excl 3) false (eI .i64 q3)) [.cells 72 [(.lit (.int .i64 q2.2.letter_base)), (.lit (.complex .f64 q2.2.letter_sign.1 q2.2.letter_sign.2)), (.lit (.bool q2.2.is))]],
                    CallK Try.prog false 32 [(.lit (.int .i64 x_))] [.cells 72 [(.lit (.int .i64 q2.2.letter_base)), (.lit (.complex .f64 q2.2.letter_sign.1 q2.2.letter_sign.2)), (.lit (.bool q2.2.is))]] (.tup [(.agg [(.lit (.int .i64 q4.1.base)), (.lit (.complex .f64 q4.1.sign.1 q4.1.sign.2))]), (.lit (.bool q4.2))]) [.cells 72 [(.lit (.int .i64 q2.2.letter_base)), (.lit (.complex .f64 q2.2.letter_sign.1 q2.2.letter_sign.2)), (.lit (.bool q2.2.is))]],
                    q4.2 = false,
                    q4.2 = false,
                    CallK Try.prog false 47 [(.ptr 0 0)] [.cells 72 [(.lit (.int .i64 q2.2.letter_base)), (.lit (.complex .f64 q2.2.letter_sign.1 q2.2.letter_sign.2)), (.lit (.bool q2.2.is))], .cells 38 [(.lit (.int .i64 q4.1.base)), (.lit (.complex .f64 q4.1.sign.1 q4.1.sign.2))]] (.lit (.int .i64 q5.1)) [.cells 72 [(.lit (.int .i64 q5.2.letter_base)), (.lit (.complex .f64 q5.2.letter_sign.1 q5.2.letter_sign.2)), (.lit (.bool q5.2.is))], .cells 38 [(.lit (.int .i64 q4.1.base)), (.lit (.complex .f64 q4.1.sign.1 q4.1.sign.2))]],
                    q4.2 = false,
                    q4.2 = false,
                    Value.int .i64 (↑(List.length (eI .i64 (out_ ++ q2.1))) : Int) = .int .i64 ((out_ ++ q2.1).length : Int),
                    CallK Try.prog false 47 [(.ptr 0 0)] [.cells 72 [(.lit (.int .i64 q5.2.letter_base)), (.lit (.complex .f64 q5.2.letter_sign.1 q5.2.letter_sign.2)), (.lit (.bool q5.2.is))], .cells 38 [(.lit (.int .i64 q4.1.base)), (.lit (.complex .f64 q4.1.sign.1 q4.1.sign.2))]] (.lit (.int .i64 q6.1)) [.cells 72 [(.lit (.int .i64 q6.2.letter_base)), (.lit (.complex .f64 q6.2.letter_sign.1 q6.2.letter_sign.2)), (.lit (.bool q6.2.is))], .cells 38 [(.lit (.int .i64 q4.1.base)), (.lit (.complex .f64 q4.1.sign.1 q4.1.sign.2))]],
                    Value.int .i64 (↑(List.length (eI .i64 q3)) : Int) = .int .i64 (q3.length : Int),
                    ((w64 (((out_ ++ q2.1).length : Int) + q6.1)) != (q3.length : Int)) = false,
                    ((w64 (((out_ ++ q2.1).length : Int) + q6.1)) != (q3.length : Int)) = false,
                    ((w64 (((out_ ++ q2.1).length : Int) + q6.1)) != (q3.length : Int)) = false,
                    ((w64 (((out_ ++ q2.1).length : Int) + q6.1)) != (q3.length : Int)) = false,
                    Value.int .i64 (↑(List.length (eI .i64 (out_ ++ q2.1))) : Int) = .int .i64 ((out_ ++ q2.1).length : Int),
                    ((w64 (((out_ ++ q2.1).length : Int) + q6.1)) != (q3.length : Int)) = false,
                    0 ≤ (0 : Int) ∧ (0 : Int) ≤ ((out_ ++ q2.1).length : Int) ∧ ((out_ ++ q2.1).length : Int) ≤ (↑(List.length (eI .i64 q3)) : Int),
                    ((eI .i64 q3).drop (0 : Int).toNat).take (((out_ ++ q2.1).length : Int).toNat - (0 : Int).toNat) = (eI .i64 v2),
                    firstLen 1 (eI .i64 v2) = true,
                    ((w64 (((out_ ++ q2.1).length : Int) + q6.1)) != (q3.length : Int)) = false,
                    CallK Try.prog false 42 [(.sl .view false (eI .i64 (out_ ++ q2.1))), (.sl .view false (eI .i64 v2))] [.cells 72 [(.lit (.int .i64 q6.2.letter_base)), (.lit (.complex .f64 q6.2.letter_sign.1 q6.2.letter_sign.2)), (.lit (.bool q6.2.is))], .cells 38 [(.lit (.int .i64 q4.1.base)), (.lit (.complex .f64 q4.1.sign.1 q4.1.sign.2))]] (.lit (.bool q7)) [.cells 72 [(.lit (.int .i64 q6.2.letter_base)), (.lit (.complex .f64 q6.2.letter_sign.1 q6.2.letter_sign.2)), (.lit (.bool q6.2.is))], .cells 38 [(.lit (.int .i64 q4.1.base)), (.lit (.complex .f64 q4.1.sign.1 q4.1.sign.2))]],
                    ((w64 (((out_ ++ q2.1).length : Int) + q6.1)) != (q3.length : Int)) = false,
                    ((w64 (((out_ ++ q2.1).length : Int) + q6.1)) != (q3.length : Int)) = false,
                    (!q7) = false,
                    (!q7) = false,
                    q4.2 = false,
                    q4.2 = false,
                    q4.2 = false,
                    (!q7) = false,
                    q4.2 = false,
                    (!q7) = false,
                    false = false,
                    false = false,
                    false = false,
                    (!(q5.1 == 1)) = true,
                    (!(q5.1 == 1)) = true,
                    CallK Try.prog false 47 [(.ptr 0 0)] [.cells 72 [(.lit (.int .i64 q6.2.letter_base)), (.lit (.complex .f64 q6.2.letter_sign.1 q6.2.letter_sign.2)), (.lit (.bool q6.2.is))], .cells 38 [(.lit (.int .i64 q4.1.base)), (.lit (.complex .f64 q4.1.sign.1 q4.1.sign.2))]] (.lit (.int .i64 q8.1)) [.cells 72 [(.lit (.int .i64 q8.2.letter_base)), (.lit (.complex .f64 q8.2.letter_sign.1 q8.2.letter_sign.2)), (.lit (.bool q8.2.is))], .cells 38 [(.lit (.int .i64 q4.1.base)), (.lit (.complex .f64 q4.1.sign.1 q4.1.sign.2))]],
                    (!(q5.1 == 1)) = true,
                    false = false,
                    (!(q5.1 == 1)) = true,
                    false = false,
                    (q8.1 != 0) = false,
                    (q8.1 != 0) = false,
                    CallK Try.prog false 47 [(.ptr 0 0)] [.cells 72 [(.lit (.int .i64 q8.2.letter_base)), (.lit (.complex .f64 q8.2.letter_sign.1 q8.2.letter_sign.2)), (.lit (.bool q8.2.is))], .cells 38 [(.lit (.int .i64 q4.1.base)), (.lit (.complex .f64 q4.1.sign.1 q4.1.sign.2))]] (.lit (.int .i64 q9.1)) [.cells 72 [(.lit (.int .i64 q9.2.letter_base)), (.lit (.complex .f64 q9.2.letter_sign.1 q9.2.letter_sign.2)), (.lit (.bool q9.2.is))], .cells 38 [(.lit (.int .i64 q4.1.base)), (.lit (.complex .f64 q4.1.sign.1 q4.1.sign.2))]],
                    (q8.1 != 0) = false,
                    (q8.1 != 0) = false,
                    (decide (q9.1 > 1)) = false,
                    noRefss 1 (eI .i64 (out_ ++ q2.1)) = true,
                    noRefss 1 (eI .i64 q1) = true]) (by kernel_rfl)
                  ⟨(decide_eq_true hc41), (nth_map _ h_x_), (nthPV_eq (nth_map _ h_x_)).2, (callK_emb (knows_vcanon_Canon_Put (⟨m, (m_re, m_im), m1⟩ : GVcanonCanon) x_ h_q2) [0] rfl rfl rfl rfl rfl rfl rfl rfl rfl rfl rfl (ren_res _ _ ((map_noRef (fun _ => rfl) _)))), (len_map2 hg42), (all_map (fun _ => rfl) _), (List.map_append).symm, (sl_b h_v1), (sl_e h_v1), (first_map (fun _ => rfl) _), (call_lontarlaw10_canon h_q3 _ _), (call_viet_Split h_q4 _ _), (Bool.eq_false_iff.2 hc43), (Bool.eq_false_iff.2 hc43), (callK_emb (knows_vcanon_Canon_Held q2.2 h_q5) [0] rfl rfl rfl rfl rfl rfl rfl rfl rfl rfl rfl rfl), (Bool.eq_false_iff.2 hc43), (Bool.eq_false_iff.2 hc43), (len_val _ _), (callK_emb (knows_vcanon_Canon_Held q5.2 h_q6) [0] rfl rfl rfl rfl rfl rfl rfl rfl rfl rfl rfl rfl), (len_val _ _), (bne_f hc48), (bne_f hc48), (bne_f hc48), (bne_f hc48), (len_val _ _), (bne_f hc48), (sl_b h_v2), (sl_e h_v2), (first_map (fun _ => rfl) _), (bne_f hc48), (call_lontarlaw01_Units h_q7 _ _), (bne_f hc48), (bne_f hc48), (not_f hc49), (not_f hc49), (Bool.eq_false_iff.2 hc43), (Bool.eq_false_iff.2 hc43), (Bool.eq_false_iff.2 hc43), (not_f hc49), (Bool.eq_false_iff.2 hc43), (not_f hc49), rfl, rfl, rfl, (not_t (beq_eq_false_iff_ne.2 hc50)), (not_t (beq_eq_false_iff_ne.2 hc50)), (callK_emb (knows_vcanon_Canon_Held q6.2 h_q8) [0] rfl rfl rfl rfl rfl rfl rfl rfl rfl rfl rfl rfl), (not_t (beq_eq_false_iff_ne.2 hc50)), rfl, (not_t (beq_eq_false_iff_ne.2 hc50)), rfl, (bne_f hc52), (bne_f hc52), (callK_emb (knows_vcanon_Canon_Held q8.2 h_q9) [0] rfl rfl rfl rfl rfl rfl rfl rfl rfl rfl rfl rfl), (bne_f hc52), (bne_f hc52), (decide_eq_false hc53), (map_noRef (fun _ => rfl) _), (map_noRef (fun _ => rfl) _), trivial⟩
            · injection h with h; subst h
              exact codeH_sound (C := C22) (base := 0) wf _ (cs := [.b true, .reg 8 [(1, { it := .cs [(.lit (.int .i64 x_))] }), (2, { it := .cs [(.lit (.int .i64 x_))] })], .reg 9 [(3, { it := .res (.sl (.excl 3) false (eI .i64 q2.1)) [.cells 72 [(.lit (.int .i64 q2.2.letter_base)), (.lit (.complex .f64 q2.2.letter_sign.1 q2.2.letter_sign.2)), (.lit (.bool q2.2.is))]] [] }), (4, { it := .sl (eI .i64 (out_ ++ q2.1)) })], .reg 10 [(3, { it := .sl (eI .i64 v1) }), (4, { it := .res (.sl (.excl 3) false (eI .i64 q3)) [.cells 72 [(.lit (.int .i64 q2.2.letter_base)), (.lit (.complex .f64 q2.2.letter_sign.1 q2.2.letter_sign.2)), (.lit (.bool q2.2.is))]] [] })], .reg 11 [(1, { it := .res (.tup [(.agg [(.lit (.int .i64 q4.1.base)), (.lit (.complex .f64 q4.1.sign.1 q4.1.sign.2))]), (.lit (.bool q4.2))]) [.cells 72 [(.lit (.int .i64 q2.2.letter_base)), (.lit (.complex .f64 q2.2.letter_sign.1 q2.2.letter_sign.2)), (.lit (.bool q2.2.is))]] [] })], .reg 12 [(2, { w := some false }), (3, { it := .res (.lit (.int .i64 q5.1)) [.cells 72 [(.lit (.int .i64 q5.2.letter_base)), (.lit (.complex .f64 q5.2.letter_sign.1 q5.2.letter_sign.2)), (.lit (.bool q5.2.is))], .cells 38 [(.lit (.int .i64 q4.1.base)), (.lit (.complex .f64 q4.1.sign.1 q4.1.sign.2))]] [], w := some false }), (4, { w := some false }), (5, { it := .b false })], .reg 13 [(1, { it := .val (.int .i64 ((out_ ++ q2.1).length : Int)) }), (3, { it := .res (.lit (.int .i64 q6.1)) [.cells 72 [(.lit (.int .i64 q6.2.letter_base)), (.lit (.complex .f64 q6.2.letter_sign.1 q6.2.letter_sign.2)), (.lit (.bool q6.2.is))], .cells 38 [(.lit (.int .i64 q4.1.base)), (.lit (.complex .f64 q4.1.sign.1 q4.1.sign.2))]] [] }), (6, { it := .val (.int .i64 (q3.length : Int)) }), (9, { w := some false }), (10, { w := some false }), (11, { w := some false }), (12, { it := .val (.int .i64 ((out_ ++ q2.1).length : Int)), w := some false }), (13, { it := .sl (eI .i64 v2), w := some false }), (14, { it := .res (.lit (.bool q7)) [.cells 72 [(.lit (.int .i64 q6.2.letter_base)), (.lit (.complex .f64 q6.2.letter_sign.1 q6.2.letter_sign.2)), (.lit (.bool q6.2.is))], .cells 38 [(.lit (.int .i64 q4.1.base)), (.lit (.complex .f64 q4.1.sign.1 q4.1.sign.2))]] [], w := some false }), (15, { w := some false }), (16, { it := .b false }), (18, { w := some false }), (19, { w := some false }), (20, { w := some false }), (21, { w := some false }), (22, { w := some false }), (23, { it := .b false, w := some false }), (24, { it := .b false }), (26, { w := some false }), (27, { w := some false }), (28, { w := some false }), (29, { w := some true }), (30, { it := .res (.lit (.int .i64 q8.1)) [.cells 72 [(.lit (.int .i64 q8.2.letter_base)), (.lit (.complex .f64 q8.2.letter_sign.1 q8.2.letter_sign.2)), (.lit (.bool q8.2.is))], .cells 38 [(.lit (.int .i64 q4.1.base)), (.lit (.complex .f64 q4.1.sign.1 q4.1.sign.2))]] [], w := some true }), (31, { w := some true }), (32, { it := .b true, w := some false }), (33, { it := .b false }), (35, { w := some true }), (36, { w := some true }), (37, { w := some true }), (38, { it := .b true })], .b true]) (cs' := []) (ps := [(decide (v < (q1.length : Int))) = true,
                  nthPV (eI .i64 q1) v = some [(.lit (.int .i64 x_))],
                  (eI .i64 q1)[v.toNat]? = some [(.lit (.int .i64 x_))],
                  CallK Try.prog false 46 [(.ptr 0 0), (.lit (.int .i64 x_))] [.cells 72 [(.lit (.int .i64 m)), (.lit (.complex .f64 m_re m_im)), (.lit (.bool m1))]] (.sl (.excl 3) false (eI .i64 q2.1)) [.cells 72 [(.lit (.int .i64 q2.2.letter_base)), (.lit (.complex .f64 q2.2.letter_sign.1 q2.2.letter_sign.2)), (.lit (.bool q2.2.is))]],
                  (List.length (eI .i64 out_) + List.length (eI .i64 q2.1)) * 8 ≤ 2 ^ 46,
                  (eI .i64 q2.1).all (fun c => c.length = 1 && c.all PV.one) = true,
                  (eI .i64 out_) ++ (eI .i64 q2.1) = (eI .i64 (out_ ++ q2.1)),
                  0 ≤ (0 : Int) ∧ (0 : Int) ≤ (w64 (v + 1)) ∧ (w64 (v + 1)) ≤ (↑(List.length (eI .i64 q1)) : Int),
                  ((eI .i64 q1).drop (0 : Int).toNat).take ((w64 (v + 1)).toNat - (0 : Int).toNat) = (eI .i64 v1),
                  firstLen 1 (eI .i64 v1) = true,
                  CallK Try.prog false 44 [(.sl .view false (eI .i64 v1))] [.cells 72 [(.lit (.int .i64 q2.2.letter_base)), (.lit (.complex .f64 q2.2.letter_sign.1 q2.2.letter_sign.2)), (.lit (.bool q2.2.is))]] (.sl (.excl 3) false (eI .i64 q3)) [.cells 72 [(.lit (.int .i64 q2.2.letter_base)), (.lit (.complex .f64 q2.2.letter_sign.1 q2.2.letter_sign.2)), (.lit (.bool q2.2.is))]],
                  CallK Try.prog false 32 [(.lit (.int .i64 x_))] [.cells 72 [(.lit (.int .i64 q2.2.letter_base)), (.lit (.complex .f64 q2.2.letter_sign.1 q2.2.letter_sign.2)), (.lit (.bool q2.2.is))]] (.tup [(.agg [(.lit (.int .i64 q4.1.base)), (.lit (.complex .f64 q4.1.sign.1 q4.1.sign.2))]), (.lit (.bool q4.2))]) [.cells 72 [(.lit (.int .i64 q2.2.letter_base)), (.lit (.complex .f64 q2.2.letter_sign.1 q2.2.letter_sign.2)), (.lit (.bool q2.2.is))]],
                  q4.2 = false,
                  q4.2 = false,
                  CallK Try.prog false 47 [(.ptr 0 0)] [.cells 72 [(.lit (.int .i64 q2.2.letter_base)), (.lit (.complex .f64 q2.2.letter_sign.1 q2.2.letter_sign.2)), (.lit (.bool q2.2.is))], .cells 38 [(.lit (.int .i64 q4.1.base)), (.lit (.complex .f64 q4.1.sign.1 q4.1.sign.2))]] (.lit (.int .i64 q5.1)) [.cells 72 [(.lit (.int .i64 q5.2.letter_base)), (.lit (.complex .f64 q5.2.letter_sign.1 q5.2.letter_sign.2)), (.lit (.bool q5.2.is))], .cells 38 [(.lit (.int .i64 q4.1.base)), (.lit (.complex .f64 q4.1.sign.1 q4.1.sign.2))]],
                  q4.2 = false,
                  q4.2 = false,
                  Value.int .i64 (↑(List.length (eI .i64 (out_ ++ q2.1))) : Int) = .int .i64 ((out_ ++ q2.1).length : Int),
                  CallK Try.prog false 47 [(.ptr 0 0)] [.cells 72 [(.lit (.int .i64 q5.2.letter_base)), (.lit (.complex .f64 q5.2.letter_sign.1 q5.2.letter_sign.2)), (.lit (.bool q5.2.is))], .cells 38 [(.lit (.int .i64 q4.1.base)), (.lit (.complex .f64 q4.1.sign.1 q4.1.sign.2))]] (.lit (.int .i64 q6.1)) [.cells 72 [(.lit (.int .i64 q6.2.letter_base)), (.lit (.complex .f64 q6.2.letter_sign.1 q6.2.letter_sign.2)), (.lit (.bool q6.2.is))], .cells 38 [(.lit (.int .i64 q4.1.base)), (.lit (.complex .f64 q4.1.sign.1 q4.1.sign.2))]],
                  Value.int .i64 (↑(List.length (eI .i64 q3)) : Int) = .int .i64 (q3.length : Int),
                  ((w64 (((out_ ++ q2.1).length : Int) + q6.1)) != (q3.length : Int)) = false,
                  ((w64 (((out_ ++ q2.1).length : Int) + q6.1)) != (q3.length : Int)) = false,
                  ((w64 (((out_ ++ q2.1).length : Int) + q6.1)) != (q3.length : Int)) = false,
                  ((w64 (((out_ ++ q2.1).length : Int) + q6.1)) != (q3.length : Int)) = false,
                  Value.int .i64 (↑(List.length (eI .i64 (out_ ++ q2.1))) : Int) = .int .i64 ((out_ ++ q2.1).length : Int),
                  ((w64 (((out_ ++ q2.1).length : Int) + q6.1)) != (q3.length : Int)) = false,
                  0 ≤ (0 : Int) ∧ (0 : Int) ≤ ((out_ ++ q2.1).length : Int) ∧ ((out_ ++ q2.1).length : Int) ≤ (↑(List.length (eI .i64 q3)) : Int),
                  ((eI .i64 q3).drop (0 : Int).toNat).take (((out_ ++ q2.1).length : Int).toNat - (0 : Int).toNat) = (eI .i64 v2),
                  firstLen 1 (eI .i64 v2) = true,
                  ((w64 (((out_ ++ q2.1).length : Int) + q6.1)) != (q3.length : Int)) = false,
                  CallK Try.prog false 42 [(.sl .view false (eI .i64 (out_ ++ q2.1))), (.sl .view false (eI .i64 v2))] [.cells 72 [(.lit (.int .i64 q6.2.letter_base)), (.lit (.complex .f64 q6.2.letter_sign.1 q6.2.letter_sign.2)), (.lit (.bool q6.2.is))], .cells 38 [(.lit (.int .i64 q4.1.base)), (.lit (.complex .f64 q4.1.sign.1 q4.1.sign.2))]] (.lit (.bool q7)) [.cells 72 [(.lit (.int .i64 q6.2.letter_base)), (.lit (.complex .f64 q6.2.letter_sign.1 q6.2.letter_sign.2)), (.lit (.bool q6.2.is))], .cells 38 [(.lit (.int .i64 q4.1.base)), (.lit (.complex .f64 q4.1.sign.1 q4.1.sign.2))]],
                  ((w64 (((out_ ++ q2.1).length : Int) + q6.1)) != (q3.length : Int)) = false,
                  ((w64 (((out_ ++ q2.1).length : Int) + q6.1)) != (q3.length : Int)) = false,
                  (!q7) = false,
                  (!q7) = false,
                  q4.2 = false,
                  q4.2 = false,
                  q4.2 = false,
                  (!q7) = false,
                  q4.2 = false,
                  (!q7) = false,
                  false = false,
                  false = false,
                  false = false,
                  (!(q5.1 == 1)) = true,
                  (!(q5.1 == 1)) = true,
                  CallK Try.prog false 47 [(.ptr 0 0)] [.cells 72 [(.lit (.int .i64 q6.2.letter_base)), (.lit (.complex .f64 q6.2.letter_sign.1 q6.2.letter_sign.2)), (.lit (.bool q6.2.is))], .cells 38 [(.lit (.int .i64 q4.1.base)), (.lit (.complex .f64 q4.1.sign.1 q4.1.sign.2))]] (.lit (.int .i64 q8.1)) [.cells 72 [(.lit (.int .i64 q8.2.letter_base)), (.lit (.complex .f64 q8.2.letter_sign.1 q8.2.letter_sign.2)), (.lit (.bool q8.2.is))], .cells 38 [(.lit (.int .i64 q4.1.base)), (.lit (.complex .f64 q4.1.sign.1 q4.1.sign.2))]],
                  (!(q5.1 == 1)) = true,
                  false = false,
                  (!(q5.1 == 1)) = true,
                  false = false,
                  (q8.1 != 0) = true,
                  (q8.1 != 0) = true,
                  (q8.1 != 0) = true,
                  (q8.1 != 0) = true,
                  true = true]) (by kernel_rfl)
                ⟨(decide_eq_true hc41), (nth_map _ h_x_), (nthPV_eq (nth_map _ h_x_)).2, (callK_emb (knows_vcanon_Canon_Put (⟨m, (m_re, m_im), m1⟩ : GVcanonCanon) x_ h_q2) [0] rfl rfl rfl rfl rfl rfl rfl rfl rfl rfl rfl (ren_res _ _ ((map_noRef (fun _ => rfl) _)))), (len_map2 hg42), (all_map (fun _ => rfl) _), (List.map_append).symm, (sl_b h_v1), (sl_e h_v1), (first_map (fun _ => rfl) _), (call_lontarlaw10_canon h_q3 _ _), (call_viet_Split h_q4 _ _), (Bool.eq_false_iff.2 hc43), (Bool.eq_false_iff.2 hc43), (callK_emb (knows_vcanon_Canon_Held q2.2 h_q5) [0] rfl rfl rfl rfl rfl rfl rfl rfl rfl rfl rfl rfl), (Bool.eq_false_iff.2 hc43), (Bool.eq_false_iff.2 hc43), (len_val _ _), (callK_emb (knows_vcanon_Canon_Held q5.2 h_q6) [0] rfl rfl rfl rfl rfl rfl rfl rfl rfl rfl rfl rfl), (len_val _ _), (bne_f hc48), (bne_f hc48), (bne_f hc48), (bne_f hc48), (len_val _ _), (bne_f hc48), (sl_b h_v2), (sl_e h_v2), (first_map (fun _ => rfl) _), (bne_f hc48), (call_lontarlaw01_Units h_q7 _ _), (bne_f hc48), (bne_f hc48), (not_f hc49), (not_f hc49), (Bool.eq_false_iff.2 hc43), (Bool.eq_false_iff.2 hc43), (Bool.eq_false_iff.2 hc43), (not_f hc49), (Bool.eq_false_iff.2 hc43), (not_f hc49), rfl, rfl, rfl, (not_t (beq_eq_false_iff_ne.2 hc50)), (not_t (beq_eq_false_iff_ne.2 hc50)), (callK_emb (knows_vcanon_Canon_Held q6.2 h_q8) [0] rfl rfl rfl rfl rfl rfl rfl rfl rfl rfl rfl rfl), (not_t (beq_eq_false_iff_ne.2 hc50)), rfl, (not_t (beq_eq_false_iff_ne.2 hc50)), rfl, (bne_iff_ne.2 hc52), (bne_iff_ne.2 hc52), (bne_iff_ne.2 hc52), (bne_iff_ne.2 hc52), rfl, trivial⟩
        · injection h with h; subst h
          exact codeH_sound (C := C22) (base := 0) wf _ (cs := [.b true, .reg 8 [(1, { it := .cs [(.lit (.int .i64 x_))] }), (2, { it := .cs [(.lit (.int .i64 x_))] })], .reg 9 [(3, { it := .res (.sl (.excl 3) false (eI .i64 q2.1)) [.cells 72 [(.lit (.int .i64 q2.2.letter_base)), (.lit (.complex .f64 q2.2.letter_sign.1 q2.2.letter_sign.2)), (.lit (.bool q2.2.is))]] [] }), (4, { it := .sl (eI .i64 (out_ ++ q2.1)) })], .reg 10 [(3, { it := .sl (eI .i64 v1) }), (4, { it := .res (.sl (.excl 3) false (eI .i64 q3)) [.cells 72 [(.lit (.int .i64 q2.2.letter_base)), (.lit (.complex .f64 q2.2.letter_sign.1 q2.2.letter_sign.2)), (.lit (.bool q2.2.is))]] [] })], .reg 11 [(1, { it := .res (.tup [(.agg [(.lit (.int .i64 q4.1.base)), (.lit (.complex .f64 q4.1.sign.1 q4.1.sign.2))]), (.lit (.bool q4.2))]) [.cells 72 [(.lit (.int .i64 q2.2.letter_base)), (.lit (.complex .f64 q2.2.letter_sign.1 q2.2.letter_sign.2)), (.lit (.bool q2.2.is))]] [] })], .reg 12 [(2, { w := some false }), (3, { it := .res (.lit (.int .i64 q5.1)) [.cells 72 [(.lit (.int .i64 q5.2.letter_base)), (.lit (.complex .f64 q5.2.letter_sign.1 q5.2.letter_sign.2)), (.lit (.bool q5.2.is))], .cells 38 [(.lit (.int .i64 q4.1.base)), (.lit (.complex .f64 q4.1.sign.1 q4.1.sign.2))]] [], w := some false }), (4, { w := some false }), (5, { it := .b false })], .reg 13 [(1, { it := .val (.int .i64 ((out_ ++ q2.1).length : Int)) }), (3, { it := .res (.lit (.int .i64 q6.1)) [.cells 72 [(.lit (.int .i64 q6.2.letter_base)), (.lit (.complex .f64 q6.2.letter_sign.1 q6.2.letter_sign.2)), (.lit (.bool q6.2.is))], .cells 38 [(.lit (.int .i64 q4.1.base)), (.lit (.complex .f64 q4.1.sign.1 q4.1.sign.2))]] [] }), (6, { it := .val (.int .i64 (q3.length : Int)) }), (9, { w := some false }), (10, { w := some false }), (11, { w := some false }), (12, { it := .val (.int .i64 ((out_ ++ q2.1).length : Int)), w := some false }), (13, { it := .sl (eI .i64 v2), w := some false }), (14, { it := .res (.lit (.bool q7)) [.cells 72 [(.lit (.int .i64 q6.2.letter_base)), (.lit (.complex .f64 q6.2.letter_sign.1 q6.2.letter_sign.2)), (.lit (.bool q6.2.is))], .cells 38 [(.lit (.int .i64 q4.1.base)), (.lit (.complex .f64 q4.1.sign.1 q4.1.sign.2))]] [], w := some false }), (15, { w := some false }), (16, { it := .b false }), (18, { w := some true }), (19, { w := some true }), (23, { w := some true }), (24, { it := .b true }), (26, { w := some true }), (27, { w := some true }), (28, { w := some true }), (32, { w := some true }), (33, { it := .b true }), (35, { w := some true }), (36, { w := some true }), (37, { w := some true }), (38, { it := .b true })], .b true]) (cs' := []) (ps := [(decide (v < (q1.length : Int))) = true,
              nthPV (eI .i64 q1) v = some [(.lit (.int .i64 x_))],
              (eI .i64 q1)[v.toNat]? = some [(.lit (.int .i64 x_))],
              CallK Try.prog false 46 [(.ptr 0 0), (.lit (.int .i64 x_))] [.cells 72 [(.lit (.int .i64 m)), (.lit (.complex .f64 m_re m_im)), (.lit (.bool m1))]] (.sl (.excl 3) false (eI .i64 q2.1)) [.cells 72 [(.lit (.int .i64 q2.2.letter_base)), (.lit (.complex .f64 q2.2.letter_sign.1 q2.2.letter_sign.2)), (.lit (.bool q2.2.is))]],
              (List.length (eI .i64 out_) + List.length (eI .i64 q2.1)) * 8 ≤ 2 ^ 46,
              (eI .i64 q2.1).all (fun c => c.length = 1 && c.all PV.one) = true,
              (eI .i64 out_) ++ (eI .i64 q2.1) = (eI .i64 (out_ ++ q2.1)),
              0 ≤ (0 : Int) ∧ (0 : Int) ≤ (w64 (v + 1)) ∧ (w64 (v + 1)) ≤ (↑(List.length (eI .i64 q1)) : Int),
              ((eI .i64 q1).drop (0 : Int).toNat).take ((w64 (v + 1)).toNat - (0 : Int).toNat) = (eI .i64 v1),
              firstLen 1 (eI .i64 v1) = true,
              CallK Try.prog false 44 [(.sl .view false (eI .i64 v1))] [.cells 72 [(.lit (.int .i64 q2.2.letter_base)), (.lit (.complex .f64 q2.2.letter_sign.1 q2.2.letter_sign.2)), (.lit (.bool q2.2.is))]] (.sl (.excl 3) false (eI .i64 q3)) [.cells 72 [(.lit (.int .i64 q2.2.letter_base)), (.lit (.complex .f64 q2.2.letter_sign.1 q2.2.letter_sign.2)), (.lit (.bool q2.2.is))]],
              CallK Try.prog false 32 [(.lit (.int .i64 x_))] [.cells 72 [(.lit (.int .i64 q2.2.letter_base)), (.lit (.complex .f64 q2.2.letter_sign.1 q2.2.letter_sign.2)), (.lit (.bool q2.2.is))]] (.tup [(.agg [(.lit (.int .i64 q4.1.base)), (.lit (.complex .f64 q4.1.sign.1 q4.1.sign.2))]), (.lit (.bool q4.2))]) [.cells 72 [(.lit (.int .i64 q2.2.letter_base)), (.lit (.complex .f64 q2.2.letter_sign.1 q2.2.letter_sign.2)), (.lit (.bool q2.2.is))]],
              q4.2 = false,
              q4.2 = false,
              CallK Try.prog false 47 [(.ptr 0 0)] [.cells 72 [(.lit (.int .i64 q2.2.letter_base)), (.lit (.complex .f64 q2.2.letter_sign.1 q2.2.letter_sign.2)), (.lit (.bool q2.2.is))], .cells 38 [(.lit (.int .i64 q4.1.base)), (.lit (.complex .f64 q4.1.sign.1 q4.1.sign.2))]] (.lit (.int .i64 q5.1)) [.cells 72 [(.lit (.int .i64 q5.2.letter_base)), (.lit (.complex .f64 q5.2.letter_sign.1 q5.2.letter_sign.2)), (.lit (.bool q5.2.is))], .cells 38 [(.lit (.int .i64 q4.1.base)), (.lit (.complex .f64 q4.1.sign.1 q4.1.sign.2))]],
              q4.2 = false,
              q4.2 = false,
              Value.int .i64 (↑(List.length (eI .i64 (out_ ++ q2.1))) : Int) = .int .i64 ((out_ ++ q2.1).length : Int),
              CallK Try.prog false 47 [(.ptr 0 0)] [.cells 72 [(.lit (.int .i64 q5.2.letter_base)), (.lit (.complex .f64 q5.2.letter_sign.1 q5.2.letter_sign.2)), (.lit (.bool q5.2.is))], .cells 38 [(.lit (.int .i64 q4.1.base)), (.lit (.complex .f64 q4.1.sign.1 q4.1.sign.2))]] (.lit (.int .i64 q6.1)) [.cells 72 [(.lit (.int .i64 q6.2.letter_base)), (.lit (.complex .f64 q6.2.letter_sign.1 q6.2.letter_sign.2)), (.lit (.bool q6.2.is))], .cells 38 [(.lit (.int .i64 q4.1.base)), (.lit (.complex .f64 q4.1.sign.1 q4.1.sign.2))]],
              Value.int .i64 (↑(List.length (eI .i64 q3)) : Int) = .int .i64 (q3.length : Int),
              ((w64 (((out_ ++ q2.1).length : Int) + q6.1)) != (q3.length : Int)) = false,
              ((w64 (((out_ ++ q2.1).length : Int) + q6.1)) != (q3.length : Int)) = false,
              ((w64 (((out_ ++ q2.1).length : Int) + q6.1)) != (q3.length : Int)) = false,
              ((w64 (((out_ ++ q2.1).length : Int) + q6.1)) != (q3.length : Int)) = false,
              Value.int .i64 (↑(List.length (eI .i64 (out_ ++ q2.1))) : Int) = .int .i64 ((out_ ++ q2.1).length : Int),
              ((w64 (((out_ ++ q2.1).length : Int) + q6.1)) != (q3.length : Int)) = false,
              0 ≤ (0 : Int) ∧ (0 : Int) ≤ ((out_ ++ q2.1).length : Int) ∧ ((out_ ++ q2.1).length : Int) ≤ (↑(List.length (eI .i64 q3)) : Int),
              ((eI .i64 q3).drop (0 : Int).toNat).take (((out_ ++ q2.1).length : Int).toNat - (0 : Int).toNat) = (eI .i64 v2),
              firstLen 1 (eI .i64 v2) = true,
              ((w64 (((out_ ++ q2.1).length : Int) + q6.1)) != (q3.length : Int)) = false,
              CallK Try.prog false 42 [(.sl .view false (eI .i64 (out_ ++ q2.1))), (.sl .view false (eI .i64 v2))] [.cells 72 [(.lit (.int .i64 q6.2.letter_base)), (.lit (.complex .f64 q6.2.letter_sign.1 q6.2.letter_sign.2)), (.lit (.bool q6.2.is))], .cells 38 [(.lit (.int .i64 q4.1.base)), (.lit (.complex .f64 q4.1.sign.1 q4.1.sign.2))]] (.lit (.bool q7)) [.cells 72 [(.lit (.int .i64 q6.2.letter_base)), (.lit (.complex .f64 q6.2.letter_sign.1 q6.2.letter_sign.2)), (.lit (.bool q6.2.is))], .cells 38 [(.lit (.int .i64 q4.1.base)), (.lit (.complex .f64 q4.1.sign.1 q4.1.sign.2))]],
              ((w64 (((out_ ++ q2.1).length : Int) + q6.1)) != (q3.length : Int)) = false,
              ((w64 (((out_ ++ q2.1).length : Int) + q6.1)) != (q3.length : Int)) = false,
              (!q7) = true,
              (!q7) = true,
              (!q7) = true,
              (!q7) = true,
              true = true,
              true = true,
              true = true,
              true = true,
              true = true,
              true = true,
              true = true,
              true = true,
              true = true,
              true = true]) (by kernel_rfl)
            ⟨(decide_eq_true hc41), (nth_map _ h_x_), (nthPV_eq (nth_map _ h_x_)).2, (callK_emb (knows_vcanon_Canon_Put (⟨m, (m_re, m_im), m1⟩ : GVcanonCanon) x_ h_q2) [0] rfl rfl rfl rfl rfl rfl rfl rfl rfl rfl rfl (ren_res _ _ ((map_noRef (fun _ => rfl) _)))), (len_map2 hg42), (all_map (fun _ => rfl) _), (List.map_append).symm, (sl_b h_v1), (sl_e h_v1), (first_map (fun _ => rfl) _), (call_lontarlaw10_canon h_q3 _ _), (call_viet_Split h_q4 _ _), (Bool.eq_false_iff.2 hc43), (Bool.eq_false_iff.2 hc43), (callK_emb (knows_vcanon_Canon_Held q2.2 h_q5) [0] rfl rfl rfl rfl rfl rfl rfl rfl rfl rfl rfl rfl), (Bool.eq_false_iff.2 hc43), (Bool.eq_false_iff.2 hc43), (len_val _ _), (callK_emb (knows_vcanon_Canon_Held q5.2 h_q6) [0] rfl rfl rfl rfl rfl rfl rfl rfl rfl rfl rfl rfl), (len_val _ _), (bne_f hc48), (bne_f hc48), (bne_f hc48), (bne_f hc48), (len_val _ _), (bne_f hc48), (sl_b h_v2), (sl_e h_v2), (first_map (fun _ => rfl) _), (bne_f hc48), (call_lontarlaw01_Units h_q7 _ _), (bne_f hc48), (bne_f hc48), (not_t (Bool.eq_false_iff.2 hc49)), (not_t (Bool.eq_false_iff.2 hc49)), (not_t (Bool.eq_false_iff.2 hc49)), (not_t (Bool.eq_false_iff.2 hc49)), rfl, rfl, rfl, rfl, rfl, rfl, rfl, rfl, rfl, rfl, trivial⟩
      · injection h with h; subst h
        exact codeH_sound (C := C22) (base := 0) wf _ (cs := [.b true, .reg 8 [(1, { it := .cs [(.lit (.int .i64 x_))] }), (2, { it := .cs [(.lit (.int .i64 x_))] })], .reg 9 [(3, { it := .res (.sl (.excl 3) false (eI .i64 q2.1)) [.cells 72 [(.lit (.int .i64 q2.2.letter_base)), (.lit (.complex .f64 q2.2.letter_sign.1 q2.2.letter_sign.2)), (.lit (.bool q2.2.is))]] [] }), (4, { it := .sl (eI .i64 (out_ ++ q2.1)) })], .reg 10 [(3, { it := .sl (eI .i64 v1) }), (4, { it := .res (.sl (.excl 3) false (eI .i64 q3)) [.cells 72 [(.lit (.int .i64 q2.2.letter_base)), (.lit (.complex .f64 q2.2.letter_sign.1 q2.2.letter_sign.2)), (.lit (.bool q2.2.is))]] [] })], .reg 11 [(1, { it := .res (.tup [(.agg [(.lit (.int .i64 q4.1.base)), (.lit (.complex .f64 q4.1.sign.1 q4.1.sign.2))]), (.lit (.bool q4.2))]) [.cells 72 [(.lit (.int .i64 q2.2.letter_base)), (.lit (.complex .f64 q2.2.letter_sign.1 q2.2.letter_sign.2)), (.lit (.bool q2.2.is))]] [] })], .reg 12 [(2, { w := some false }), (3, { it := .res (.lit (.int .i64 q5.1)) [.cells 72 [(.lit (.int .i64 q5.2.letter_base)), (.lit (.complex .f64 q5.2.letter_sign.1 q5.2.letter_sign.2)), (.lit (.bool q5.2.is))], .cells 38 [(.lit (.int .i64 q4.1.base)), (.lit (.complex .f64 q4.1.sign.1 q4.1.sign.2))]] [], w := some false }), (4, { w := some false }), (5, { it := .b false })], .reg 13 [(1, { it := .val (.int .i64 ((out_ ++ q2.1).length : Int)) }), (3, { it := .res (.lit (.int .i64 q6.1)) [.cells 72 [(.lit (.int .i64 q6.2.letter_base)), (.lit (.complex .f64 q6.2.letter_sign.1 q6.2.letter_sign.2)), (.lit (.bool q6.2.is))], .cells 38 [(.lit (.int .i64 q4.1.base)), (.lit (.complex .f64 q4.1.sign.1 q4.1.sign.2))]] [] }), (6, { it := .val (.int .i64 (q3.length : Int)) }), (9, { w := some true }), (10, { w := some true }), (11, { w := some true }), (12, { w := some true }), (13, { w := some true }), (14, { w := some true }), (15, { w := some true }), (16, { it := .b true }), (18, { w := some true }), (19, { w := some true }), (23, { w := some true }), (24, { it := .b true }), (26, { w := some true }), (27, { w := some true }), (28, { w := some true }), (32, { w := some true }), (33, { it := .b true }), (35, { w := some true }), (36, { w := some true }), (37, { w := some true }), (38, { it := .b true })], .b true]) (cs' := []) (ps := [(decide (v < (q1.length : Int))) = true,
            nthPV (eI .i64 q1) v = some [(.lit (.int .i64 x_))],
            (eI .i64 q1)[v.toNat]? = some [(.lit (.int .i64 x_))],
            CallK Try.prog false 46 [(.ptr 0 0), (.lit (.int .i64 x_))] [.cells 72 [(.lit (.int .i64 m)), (.lit (.complex .f64 m_re m_im)), (.lit (.bool m1))]] (.sl (.excl 3) false (eI .i64 q2.1)) [.cells 72 [(.lit (.int .i64 q2.2.letter_base)), (.lit (.complex .f64 q2.2.letter_sign.1 q2.2.letter_sign.2)), (.lit (.bool q2.2.is))]],
            (List.length (eI .i64 out_) + List.length (eI .i64 q2.1)) * 8 ≤ 2 ^ 46,
            (eI .i64 q2.1).all (fun c => c.length = 1 && c.all PV.one) = true,
            (eI .i64 out_) ++ (eI .i64 q2.1) = (eI .i64 (out_ ++ q2.1)),
            0 ≤ (0 : Int) ∧ (0 : Int) ≤ (w64 (v + 1)) ∧ (w64 (v + 1)) ≤ (↑(List.length (eI .i64 q1)) : Int),
            ((eI .i64 q1).drop (0 : Int).toNat).take ((w64 (v + 1)).toNat - (0 : Int).toNat) = (eI .i64 v1),
            firstLen 1 (eI .i64 v1) = true,
            CallK Try.prog false 44 [(.sl .view false (eI .i64 v1))] [.cells 72 [(.lit (.int .i64 q2.2.letter_base)), (.lit (.complex .f64 q2.2.letter_sign.1 q2.2.letter_sign.2)), (.lit (.bool q2.2.is))]] (.sl (.excl 3) false (eI .i64 q3)) [.cells 72 [(.lit (.int .i64 q2.2.letter_base)), (.lit (.complex .f64 q2.2.letter_sign.1 q2.2.letter_sign.2)), (.lit (.bool q2.2.is))]],
            CallK Try.prog false 32 [(.lit (.int .i64 x_))] [.cells 72 [(.lit (.int .i64 q2.2.letter_base)), (.lit (.complex .f64 q2.2.letter_sign.1 q2.2.letter_sign.2)), (.lit (.bool q2.2.is))]] (.tup [(.agg [(.lit (.int .i64 q4.1.base)), (.lit (.complex .f64 q4.1.sign.1 q4.1.sign.2))]), (.lit (.bool q4.2))]) [.cells 72 [(.lit (.int .i64 q2.2.letter_base)), (.lit (.complex .f64 q2.2.letter_sign.1 q2.2.letter_sign.2)), (.lit (.bool q2.2.is))]],
            q4.2 = false,
            q4.2 = false,
            CallK Try.prog false 47 [(.ptr 0 0)] [.cells 72 [(.lit (.int .i64 q2.2.letter_base)), (.lit (.complex .f64 q2.2.letter_sign.1 q2.2.letter_sign.2)), (.lit (.bool q2.2.is))], .cells 38 [(.lit (.int .i64 q4.1.base)), (.lit (.complex .f64 q4.1.sign.1 q4.1.sign.2))]] (.lit (.int .i64 q5.1)) [.cells 72 [(.lit (.int .i64 q5.2.letter_base)), (.lit (.complex .f64 q5.2.letter_sign.1 q5.2.letter_sign.2)), (.lit (.bool q5.2.is))], .cells 38 [(.lit (.int .i64 q4.1.base)), (.lit (.complex .f64 q4.1.sign.1 q4.1.sign.2))]],
            q4.2 = false,
            q4.2 = false,
            Value.int .i64 (↑(List.length (eI .i64 (out_ ++ q2.1))) : Int) = .int .i64 ((out_ ++ q2.1).length : Int),
            CallK Try.prog false 47 [(.ptr 0 0)] [.cells 72 [(.lit (.int .i64 q5.2.letter_base)), (.lit (.complex .f64 q5.2.letter_sign.1 q5.2.letter_sign.2)), (.lit (.bool q5.2.is))], .cells 38 [(.lit (.int .i64 q4.1.base)), (.lit (.complex .f64 q4.1.sign.1 q4.1.sign.2))]] (.lit (.int .i64 q6.1)) [.cells 72 [(.lit (.int .i64 q6.2.letter_base)), (.lit (.complex .f64 q6.2.letter_sign.1 q6.2.letter_sign.2)), (.lit (.bool q6.2.is))], .cells 38 [(.lit (.int .i64 q4.1.base)), (.lit (.complex .f64 q4.1.sign.1 q4.1.sign.2))]],
            Value.int .i64 (↑(List.length (eI .i64 q3)) : Int) = .int .i64 (q3.length : Int),
            ((w64 (((out_ ++ q2.1).length : Int) + q6.1)) != (q3.length : Int)) = true,
            ((w64 (((out_ ++ q2.1).length : Int) + q6.1)) != (q3.length : Int)) = true,
            ((w64 (((out_ ++ q2.1).length : Int) + q6.1)) != (q3.length : Int)) = true,
            ((w64 (((out_ ++ q2.1).length : Int) + q6.1)) != (q3.length : Int)) = true,
            ((w64 (((out_ ++ q2.1).length : Int) + q6.1)) != (q3.length : Int)) = true,
            ((w64 (((out_ ++ q2.1).length : Int) + q6.1)) != (q3.length : Int)) = true,
            ((w64 (((out_ ++ q2.1).length : Int) + q6.1)) != (q3.length : Int)) = true,
            ((w64 (((out_ ++ q2.1).length : Int) + q6.1)) != (q3.length : Int)) = true,
            true = true,
            true = true,
            true = true,
            true = true,
            true = true,
            true = true,
            true = true,
            true = true,
            true = true,
            true = true,
            true = true,
            true = true,
            true = true,
            true = true]) (by kernel_rfl)
          ⟨(decide_eq_true hc41), (nth_map _ h_x_), (nthPV_eq (nth_map _ h_x_)).2, (callK_emb (knows_vcanon_Canon_Put (⟨m, (m_re, m_im), m1⟩ : GVcanonCanon) x_ h_q2) [0] rfl rfl rfl rfl rfl rfl rfl rfl rfl rfl rfl (ren_res _ _ ((map_noRef (fun _ => rfl) _)))), (len_map2 hg42), (all_map (fun _ => rfl) _), (List.map_append).symm, (sl_b h_v1), (sl_e h_v1), (first_map (fun _ => rfl) _), (call_lontarlaw10_canon h_q3 _ _), (call_viet_Split h_q4 _ _), (Bool.eq_false_iff.2 hc43), (Bool.eq_false_iff.2 hc43), (callK_emb (knows_vcanon_Canon_Held q2.2 h_q5) [0] rfl rfl rfl rfl rfl rfl rfl rfl rfl rfl rfl rfl), (Bool.eq_false_iff.2 hc43), (Bool.eq_false_iff.2 hc43), (len_val _ _), (callK_emb (knows_vcanon_Canon_Held q5.2 h_q6) [0] rfl rfl rfl rfl rfl rfl rfl rfl rfl rfl rfl rfl), (len_val _ _), (bne_iff_ne.2 hc48), (bne_iff_ne.2 hc48), (bne_iff_ne.2 hc48), (bne_iff_ne.2 hc48), (bne_iff_ne.2 hc48), (bne_iff_ne.2 hc48), (bne_iff_ne.2 hc48), (bne_iff_ne.2 hc48), rfl, rfl, rfl, rfl, rfl, rfl, rfl, rfl, rfl, rfl, rfl, rfl, rfl, rfl, trivial⟩
  · injection h with h; subst h
    exact codeH_sound (C := C22) (base := 0) wf _ (cs := [.b false]) (cs' := []) (ps := [(decide (v < (q1.length : Int))) = false]) (by kernel_rfl)
      ⟨(decide_eq_false hc41), trivial⟩

theorem runs_lontarlaw10_VcanonPut_L0 (q1 : (List Int)) {nn} {vv : (List Int) × Int × Int × Nat × Nat × Bool} {rr} (h : loopM (lontarlaw10_VcanonPut_L0 q1) nn vv = some rr) : RunsB Try.prog 0 (.loop (sub [1, 1, 1, 1, 1, 0, 1, 0, 0] (fbody Try.f22))) (S_lontarlaw10_VcanonPut_L0 q1 vv) (E_lontarlaw10_VcanonPut_L0 q1 rr).1 (E_lontarlaw10_VcanonPut_L0 q1 rr).2 :=
  loop_runs (by intro r; cases r <;> simp [E_lontarlaw10_VcanonPut_L0]) (body_lontarlaw10_VcanonPut_L0 q1) nn vv rr h

set_option maxRecDepth 100000 in
theorem knows_lontarlaw10_VcanonPut (l : (List Int)) {r} (h : lontarlaw10_VcanonPut l = some r) : Knows Try.prog 22 [(.sl .view false (eI .u8 l))] (.lit (.bool r)) := by
  unfold lontarlaw10_VcanonPut at h
  obtain ⟨q, h_q, h⟩ := Option.bind_eq_some_iff.1 h
  rcases ite_some h with ⟨hc1, h⟩ | ⟨hc1, h⟩
  · obtain ⟨q1, h_q1, h⟩ := Option.bind_eq_some_iff.1 h
    obtain ⟨l54, hr_l54, h⟩ := Option.bind_eq_some_iff.1 h
    have hl_l54 := runs_lontarlaw10_VcanonPut_L0 q1 hr_l54
    cases l54 with
    | x0 m m_re m_im m1 m2 m_re1 m_im1 =>
      dsimp only at h
      injection h with h; subst h
      exact Knows.of (C := C22) wf Try.func22 (cs := [.reg 1 [(0, { it := .res (.lit (.bool q)) [] [] })], .b false, .reg 5 [(1, { it := .res (.sl (.excl 3) false (eI .i64 q1)) [.cells 72 [(.lit (.int .i64 0)), (.lit (.complex .f64 0 0)), (.lit (.bool false))]] [] })], .reg 6 [(1, { it := .val (.int .i64 (q1.length : Int)) })], .lp (.ret) (X_lontarlaw10_VcanonPut_L0_0 q1 m m_re m_im m1 m2 m_re1 m_im1)]) (args := [(.sl .view false (eI .u8 l))]) (r := (.lit (.bool false))) (ps := [CallK Try.prog false 40 [] [] (.lit (.bool q)) [],
          (!q) = false,
          CallK Try.prog false 41 [(.sl .view false (eI .u8 l))] [.cells 72 [(.lit (.int .i64 0)), (.lit (.complex .f64 0 0)), (.lit (.bool false))]] (.sl (.excl 3) false (eI .i64 q1)) [.cells 72 [(.lit (.int .i64 0)), (.lit (.complex .f64 0 0)), (.lit (.bool false))]],
          Value.int .i64 (↑(List.length (eI .i64 q1)) : Int) = .int .i64 (q1.length : Int),
          RunsB Try.prog 0 (.loop (sub [1, 1, 1, 1, 1, 0, 1, 0, 0] (fbody Try.f22))) ({ ts := [(3, (.ptr 0 0)), (4, (.sl (.excl 3) false (eI .i64 []))), (5, (.sl (.excl 3) false (eI .i64 q1))), (18, (.alias (.tmp 5))), (19, (.lit (.int .i64 (q1.length : Int)))), (20, (.lit (.int .i64 0)))], n := 105, σ := [.cells 72 [(.lit (.int .i64 0)), (.lit (.complex .f64 0 0)), (.lit (.bool false))]] }) (.ret) (X_lontarlaw10_VcanonPut_L0_0 q1 m m_re m_im m1 m2 m_re1 m_im1)]) (by kernel_rfl)
        ⟨(call_lontarlaw10_awake h_q _ _), (not_f hc1), (call_lontarlaw10_Some h_q1 _ _), (len_val _ _), (RunsB.weak 5 rfl (RunsB.weak 4 (st2 := (S_lontarlaw10_VcanonPut_L0 q1 ([], 0, 0, 0, 0, false))) rfl hl_l54)), trivial⟩
    | x1 m m_re m_im m1 m2 m_re1 m_im1 =>
      dsimp only at h
      injection h with h; subst h
      exact Knows.of (C := C22) wf Try.func22 (cs := [.reg 1 [(0, { it := .res (.lit (.bool q)) [] [] })], .b false, .reg 5 [(1, { it := .res (.sl (.excl 3) false (eI .i64 q1)) [.cells 72 [(.lit (.int .i64 0)), (.lit (.complex .f64 0 0)), (.lit (.bool false))]] [] })], .reg 6 [(1, { it := .val (.int .i64 (q1.length : Int)) })], .lp (.ret) (X_lontarlaw10_VcanonPut_L0_1 q1 m m_re m_im m1 m2 m_re1 m_im1)]) (args := [(.sl .view false (eI .u8 l))]) (r := (.lit (.bool false))) (ps := [CallK Try.prog false 40 [] [] (.lit (.bool q)) [],
          (!q) = false,
          CallK Try.prog false 41 [(.sl .view false (eI .u8 l))] [.cells 72 [(.lit (.int .i64 0)), (.lit (.complex .f64 0 0)), (.lit (.bool false))]] (.sl (.excl 3) false (eI .i64 q1)) [.cells 72 [(.lit (.int .i64 0)), (.lit (.complex .f64 0 0)), (.lit (.bool false))]],
          Value.int .i64 (↑(List.length (eI .i64 q1)) : Int) = .int .i64 (q1.length : Int),
          RunsB Try.prog 0 (.loop (sub [1, 1, 1, 1, 1, 0, 1, 0, 0] (fbody Try.f22))) ({ ts := [(3, (.ptr 0 0)), (4, (.sl (.excl 3) false (eI .i64 []))), (5, (.sl (.excl 3) false (eI .i64 q1))), (18, (.alias (.tmp 5))), (19, (.lit (.int .i64 (q1.length : Int)))), (20, (.lit (.int .i64 0)))], n := 105, σ := [.cells 72 [(.lit (.int .i64 0)), (.lit (.complex .f64 0 0)), (.lit (.bool false))]] }) (.ret) (X_lontarlaw10_VcanonPut_L0_1 q1 m m_re m_im m1 m2 m_re1 m_im1)]) (by kernel_rfl)
        ⟨(call_lontarlaw10_awake h_q _ _), (not_f hc1), (call_lontarlaw10_Some h_q1 _ _), (len_val _ _), (RunsB.weak 5 rfl (RunsB.weak 4 (st2 := (S_lontarlaw10_VcanonPut_L0 q1 ([], 0, 0, 0, 0, false))) rfl hl_l54)), trivial⟩
    | x2 m m_re m_im m1 m2 m_re1 m_im1 =>
      dsimp only at h
      injection h with h; subst h
      exact Knows.of (C := C22) wf Try.func22 (cs := [.reg 1 [(0, { it := .res (.lit (.bool q)) [] [] })], .b false, .reg 5 [(1, { it := .res (.sl (.excl 3) false (eI .i64 q1)) [.cells 72 [(.lit (.int .i64 0)), (.lit (.complex .f64 0 0)), (.lit (.bool false))]] [] })], .reg 6 [(1, { it := .val (.int .i64 (q1.length : Int)) })], .lp (.ret) (X_lontarlaw10_VcanonPut_L0_2 q1 m m_re m_im m1 m2 m_re1 m_im1)]) (args := [(.sl .view false (eI .u8 l))]) (r := (.lit (.bool false))) (ps := [CallK Try.prog false 40 [] [] (.lit (.bool q)) [],
          (!q) = false,
          CallK Try.prog false 41 [(.sl .view false (eI .u8 l))] [.cells 72 [(.lit (.int .i64 0)), (.lit (.complex .f64 0 0)), (.lit (.bool false))]] (.sl (.excl 3) false (eI .i64 q1)) [.cells 72 [(.lit (.int .i64 0)), (.lit (.complex .f64 0 0)), (.lit (.bool false))]],
          Value.int .i64 (↑(List.length (eI .i64 q1)) : Int) = .int .i64 (q1.length : Int),
          RunsB Try.prog 0 (.loop (sub [1, 1, 1, 1, 1, 0, 1, 0, 0] (fbody Try.f22))) ({ ts := [(3, (.ptr 0 0)), (4, (.sl (.excl 3) false (eI .i64 []))), (5, (.sl (.excl 3) false (eI .i64 q1))), (18, (.alias (.tmp 5))), (19, (.lit (.int .i64 (q1.length : Int)))), (20, (.lit (.int .i64 0)))], n := 105, σ := [.cells 72 [(.lit (.int .i64 0)), (.lit (.complex .f64 0 0)), (.lit (.bool false))]] }) (.ret) (X_lontarlaw10_VcanonPut_L0_2 q1 m m_re m_im m1 m2 m_re1 m_im1)]) (by kernel_rfl)
        ⟨(call_lontarlaw10_awake h_q _ _), (not_f hc1), (call_lontarlaw10_Some h_q1 _ _), (len_val _ _), (RunsB.weak 5 rfl (RunsB.weak 4 (st2 := (S_lontarlaw10_VcanonPut_L0 q1 ([], 0, 0, 0, 0, false))) rfl hl_l54)), trivial⟩
    | x3 m m_re m_im m1 m2 m_re1 m_im1 =>
      dsimp only at h
      injection h with h; subst h
      exact Knows.of (C := C22) wf Try.func22 (cs := [.reg 1 [(0, { it := .res (.lit (.bool q)) [] [] })], .b false, .reg 5 [(1, { it := .res (.sl (.excl 3) false (eI .i64 q1)) [.cells 72 [(.lit (.int .i64 0)), (.lit (.complex .f64 0 0)), (.lit (.bool false))]] [] })], .reg 6 [(1, { it := .val (.int .i64 (q1.length : Int)) })], .lp (.ret) (X_lontarlaw10_VcanonPut_L0_3 q1 m m_re m_im m1 m2 m_re1 m_im1)]) (args := [(.sl .view false (eI .u8 l))]) (r := (.lit (.bool false))) (ps := [CallK Try.prog false 40 [] [] (.lit (.bool q)) [],
          (!q) = false,
          CallK Try.prog false 41 [(.sl .view false (eI .u8 l))] [.cells 72 [(.lit (.int .i64 0)), (.lit (.complex .f64 0 0)), (.lit (.bool false))]] (.sl (.excl 3) false (eI .i64 q1)) [.cells 72 [(.lit (.int .i64 0)), (.lit (.complex .f64 0 0)), (.lit (.bool false))]],
          Value.int .i64 (↑(List.length (eI .i64 q1)) : Int) = .int .i64 (q1.length : Int),
          RunsB Try.prog 0 (.loop (sub [1, 1, 1, 1, 1, 0, 1, 0, 0] (fbody Try.f22))) ({ ts := [(3, (.ptr 0 0)), (4, (.sl (.excl 3) false (eI .i64 []))), (5, (.sl (.excl 3) false (eI .i64 q1))), (18, (.alias (.tmp 5))), (19, (.lit (.int .i64 (q1.length : Int)))), (20, (.lit (.int .i64 0)))], n := 105, σ := [.cells 72 [(.lit (.int .i64 0)), (.lit (.complex .f64 0 0)), (.lit (.bool false))]] }) (.ret) (X_lontarlaw10_VcanonPut_L0_3 q1 m m_re m_im m1 m2 m_re1 m_im1)]) (by kernel_rfl)
        ⟨(call_lontarlaw10_awake h_q _ _), (not_f hc1), (call_lontarlaw10_Some h_q1 _ _), (len_val _ _), (RunsB.weak 5 rfl (RunsB.weak 4 (st2 := (S_lontarlaw10_VcanonPut_L0 q1 ([], 0, 0, 0, 0, false))) rfl hl_l54)), trivial⟩
    | x4 m m_re m_im m1 m2 m_re1 m_im1 =>
      dsimp only at h
      injection h with h; subst h
      exact Knows.of (C := C22) wf Try.func22 (cs := [.reg 1 [(0, { it := .res (.lit (.bool q)) [] [] })], .b false, .reg 5 [(1, { it := .res (.sl (.excl 3) false (eI .i64 q1)) [.cells 72 [(.lit (.int .i64 0)), (.lit (.complex .f64 0 0)), (.lit (.bool false))]] [] })], .reg 6 [(1, { it := .val (.int .i64 (q1.length : Int)) })], .lp (.ret) (X_lontarlaw10_VcanonPut_L0_4 q1 m m_re m_im m1 m2 m_re1 m_im1)]) (args := [(.sl .view false (eI .u8 l))]) (r := (.lit (.bool false))) (ps := [CallK Try.prog false 40 [] [] (.lit (.bool q)) [],
          (!q) = false,
          CallK Try.prog false 41 [(.sl .view false (eI .u8 l))] [.cells 72 [(.lit (.int .i64 0)), (.lit (.complex .f64 0 0)), (.lit (.bool false))]] (.sl (.excl 3) false (eI .i64 q1)) [.cells 72 [(.lit (.int .i64 0)), (.lit (.complex .f64 0 0)), (.lit (.bool false))]],
          Value.int .i64 (↑(List.length (eI .i64 q1)) : Int) = .int .i64 (q1.length : Int),
          RunsB Try.prog 0 (.loop (sub [1, 1, 1, 1, 1, 0, 1, 0, 0] (fbody Try.f22))) ({ ts := [(3, (.ptr 0 0)), (4, (.sl (.excl 3) false (eI .i64 []))), (5, (.sl (.excl 3) false (eI .i64 q1))), (18, (.alias (.tmp 5))), (19, (.lit (.int .i64 (q1.length : Int)))), (20, (.lit (.int .i64 0)))], n := 105, σ := [.cells 72 [(.lit (.int .i64 0)), (.lit (.complex .f64 0 0)), (.lit (.bool false))]] }) (.ret) (X_lontarlaw10_VcanonPut_L0_4 q1 m m_re m_im m1 m2 m_re1 m_im1)]) (by kernel_rfl)
        ⟨(call_lontarlaw10_awake h_q _ _), (not_f hc1), (call_lontarlaw10_Some h_q1 _ _), (len_val _ _), (RunsB.weak 5 rfl (RunsB.weak 4 (st2 := (S_lontarlaw10_VcanonPut_L0 q1 ([], 0, 0, 0, 0, false))) rfl hl_l54)), trivial⟩
    | x5 m m_re m_im m1 m2 m_re1 m_im1 =>
      dsimp only at h
      injection h with h; subst h
      exact Knows.of (C := C22) wf Try.func22 (cs := [.reg 1 [(0, { it := .res (.lit (.bool q)) [] [] })], .b false, .reg 5 [(1, { it := .res (.sl (.excl 3) false (eI .i64 q1)) [.cells 72 [(.lit (.int .i64 0)), (.lit (.complex .f64 0 0)), (.lit (.bool false))]] [] })], .reg 6 [(1, { it := .val (.int .i64 (q1.length : Int)) })], .lp (.ret) (X_lontarlaw10_VcanonPut_L0_5 q1 m m_re m_im m1 m2 m_re1 m_im1)]) (args := [(.sl .view false (eI .u8 l))]) (r := (.lit (.bool false))) (ps := [CallK Try.prog false 40 [] [] (.lit (.bool q)) [],
          (!q) = false,
          CallK Try.prog false 41 [(.sl .view false (eI .u8 l))] [.cells 72 [(.lit (.int .i64 0)), (.lit (.complex .f64 0 0)), (.lit (.bool false))]] (.sl (.excl 3) false (eI .i64 q1)) [.cells 72 [(.lit (.int .i64 0)), (.lit (.complex .f64 0 0)), (.lit (.bool false))]],
          Value.int .i64 (↑(List.length (eI .i64 q1)) : Int) = .int .i64 (q1.length : Int),
          RunsB Try.prog 0 (.loop (sub [1, 1, 1, 1, 1, 0, 1, 0, 0] (fbody Try.f22))) ({ ts := [(3, (.ptr 0 0)), (4, (.sl (.excl 3) false (eI .i64 []))), (5, (.sl (.excl 3) false (eI .i64 q1))), (18, (.alias (.tmp 5))), (19, (.lit (.int .i64 (q1.length : Int)))), (20, (.lit (.int .i64 0)))], n := 105, σ := [.cells 72 [(.lit (.int .i64 0)), (.lit (.complex .f64 0 0)), (.lit (.bool false))]] }) (.ret) (X_lontarlaw10_VcanonPut_L0_5 q1 m m_re m_im m1 m2 m_re1 m_im1)]) (by kernel_rfl)
        ⟨(call_lontarlaw10_awake h_q _ _), (not_f hc1), (call_lontarlaw10_Some h_q1 _ _), (len_val _ _), (RunsB.weak 5 rfl (RunsB.weak 4 (st2 := (S_lontarlaw10_VcanonPut_L0 q1 ([], 0, 0, 0, 0, false))) rfl hl_l54)), trivial⟩
    | x6 m m_re m_im m1 m2 m_re1 m_im1 =>
      dsimp only at h
      injection h with h; subst h
      exact Knows.of (C := C22) wf Try.func22 (cs := [.reg 1 [(0, { it := .res (.lit (.bool q)) [] [] })], .b false, .reg 5 [(1, { it := .res (.sl (.excl 3) false (eI .i64 q1)) [.cells 72 [(.lit (.int .i64 0)), (.lit (.complex .f64 0 0)), (.lit (.bool false))]] [] })], .reg 6 [(1, { it := .val (.int .i64 (q1.length : Int)) })], .lp (.ret) (X_lontarlaw10_VcanonPut_L0_6 q1 m m_re m_im m1 m2 m_re1 m_im1)]) (args := [(.sl .view false (eI .u8 l))]) (r := (.lit (.bool false))) (ps := [CallK Try.prog false 40 [] [] (.lit (.bool q)) [],
          (!q) = false,
          CallK Try.prog false 41 [(.sl .view false (eI .u8 l))] [.cells 72 [(.lit (.int .i64 0)), (.lit (.complex .f64 0 0)), (.lit (.bool false))]] (.sl (.excl 3) false (eI .i64 q1)) [.cells 72 [(.lit (.int .i64 0)), (.lit (.complex .f64 0 0)), (.lit (.bool false))]],
          Value.int .i64 (↑(List.length (eI .i64 q1)) : Int) = .int .i64 (q1.length : Int),
          RunsB Try.prog 0 (.loop (sub [1, 1, 1, 1, 1, 0, 1, 0, 0] (fbody Try.f22))) ({ ts := [(3, (.ptr 0 0)), (4, (.sl (.excl 3) false (eI .i64 []))), (5, (.sl (.excl 3) false (eI .i64 q1))), (18, (.alias (.tmp 5))), (19, (.lit (.int .i64 (q1.length : Int)))), (20, (.lit (.int .i64 0)))], n := 105, σ := [.cells 72 [(.lit (.int .i64 0)), (.lit (.complex .f64 0 0)), (.lit (.bool false))]] }) (.ret) (X_lontarlaw10_VcanonPut_L0_6 q1 m m_re m_im m1 m2 m_re1 m_im1)]) (by kernel_rfl)
        ⟨(call_lontarlaw10_awake h_q _ _), (not_f hc1), (call_lontarlaw10_Some h_q1 _ _), (len_val _ _), (RunsB.weak 5 rfl (RunsB.weak 4 (st2 := (S_lontarlaw10_VcanonPut_L0 q1 ([], 0, 0, 0, 0, false))) rfl hl_l54)), trivial⟩
    | x7 m m_re m_im m1 m2 m_re1 m_im1 =>
      dsimp only at h
      injection h with h; subst h
      exact Knows.of (C := C22) wf Try.func22 (cs := [.reg 1 [(0, { it := .res (.lit (.bool q)) [] [] })], .b false, .reg 5 [(1, { it := .res (.sl (.excl 3) false (eI .i64 q1)) [.cells 72 [(.lit (.int .i64 0)), (.lit (.complex .f64 0 0)), (.lit (.bool false))]] [] })], .reg 6 [(1, { it := .val (.int .i64 (q1.length : Int)) })], .lp (.ret) (X_lontarlaw10_VcanonPut_L0_7 q1 m m_re m_im m1 m2 m_re1 m_im1)]) (args := [(.sl .view false (eI .u8 l))]) (r := (.lit (.bool false))) (ps := [CallK Try.prog false 40 [] [] (.lit (.bool q)) [],
          (!q) = false,
          CallK Try.prog false 41 [(.sl .view false (eI .u8 l))] [.cells 72 [(.lit (.int .i64 0)), (.lit (.complex .f64 0 0)), (.lit (.bool false))]] (.sl (.excl 3) false (eI .i64 q1)) [.cells 72 [(.lit (.int .i64 0)), (.lit (.complex .f64 0 0)), (.lit (.bool false))]],
          Value.int .i64 (↑(List.length (eI .i64 q1)) : Int) = .int .i64 (q1.length : Int),
          RunsB Try.prog 0 (.loop (sub [1, 1, 1, 1, 1, 0, 1, 0, 0] (fbody Try.f22))) ({ ts := [(3, (.ptr 0 0)), (4, (.sl (.excl 3) false (eI .i64 []))), (5, (.sl (.excl 3) false (eI .i64 q1))), (18, (.alias (.tmp 5))), (19, (.lit (.int .i64 (q1.length : Int)))), (20, (.lit (.int .i64 0)))], n := 105, σ := [.cells 72 [(.lit (.int .i64 0)), (.lit (.complex .f64 0 0)), (.lit (.bool false))]] }) (.ret) (X_lontarlaw10_VcanonPut_L0_7 q1 m m_re m_im m1 m2 m_re1 m_im1)]) (by kernel_rfl)
        ⟨(call_lontarlaw10_awake h_q _ _), (not_f hc1), (call_lontarlaw10_Some h_q1 _ _), (len_val _ _), (RunsB.weak 5 rfl (RunsB.weak 4 (st2 := (S_lontarlaw10_VcanonPut_L0 q1 ([], 0, 0, 0, 0, false))) rfl hl_l54)), trivial⟩
    | x8 m m_re m_im m1 m2 m_re1 m_im1 =>
      dsimp only at h
      injection h with h; subst h
      exact Knows.of (C := C22) wf Try.func22 (cs := [.reg 1 [(0, { it := .res (.lit (.bool q)) [] [] })], .b false, .reg 5 [(1, { it := .res (.sl (.excl 3) false (eI .i64 q1)) [.cells 72 [(.lit (.int .i64 0)), (.lit (.complex .f64 0 0)), (.lit (.bool false))]] [] })], .reg 6 [(1, { it := .val (.int .i64 (q1.length : Int)) })], .lp (.ret) (X_lontarlaw10_VcanonPut_L0_8 q1 m m_re m_im m1 m2 m_re1 m_im1)]) (args := [(.sl .view false (eI .u8 l))]) (r := (.lit (.bool false))) (ps := [CallK Try.prog false 40 [] [] (.lit (.bool q)) [],
          (!q) = false,
          CallK Try.prog false 41 [(.sl .view false (eI .u8 l))] [.cells 72 [(.lit (.int .i64 0)), (.lit (.complex .f64 0 0)), (.lit (.bool false))]] (.sl (.excl 3) false (eI .i64 q1)) [.cells 72 [(.lit (.int .i64 0)), (.lit (.complex .f64 0 0)), (.lit (.bool false))]],
          Value.int .i64 (↑(List.length (eI .i64 q1)) : Int) = .int .i64 (q1.length : Int),
          RunsB Try.prog 0 (.loop (sub [1, 1, 1, 1, 1, 0, 1, 0, 0] (fbody Try.f22))) ({ ts := [(3, (.ptr 0 0)), (4, (.sl (.excl 3) false (eI .i64 []))), (5, (.sl (.excl 3) false (eI .i64 q1))), (18, (.alias (.tmp 5))), (19, (.lit (.int .i64 (q1.length : Int)))), (20, (.lit (.int .i64 0)))], n := 105, σ := [.cells 72 [(.lit (.int .i64 0)), (.lit (.complex .f64 0 0)), (.lit (.bool false))]] }) (.ret) (X_lontarlaw10_VcanonPut_L0_8 q1 m m_re m_im m1 m2 m_re1 m_im1)]) (by kernel_rfl)
        ⟨(call_lontarlaw10_awake h_q _ _), (not_f hc1), (call_lontarlaw10_Some h_q1 _ _), (len_val _ _), (RunsB.weak 5 rfl (RunsB.weak 4 (st2 := (S_lontarlaw10_VcanonPut_L0 q1 ([], 0, 0, 0, 0, false))) rfl hl_l54)), trivial⟩
    | x9 out_ v v1 m m_re m_im m1 =>
      dsimp only at h
      obtain ⟨q2, h_q2, h⟩ := Option.bind_eq_some_iff.1 h
      obtain ⟨hg55, h⟩ := guardO_some h
      obtain ⟨q3, h_q3, h⟩ := Option.bind_eq_some_iff.1 h
      obtain ⟨q4, h_q4, h⟩ := Option.bind_eq_some_iff.1 h
      rcases ite_some h with ⟨hc56, h⟩ | ⟨hc56, h⟩
      · obtain ⟨q5, h_q5, h⟩ := Option.bind_eq_some_iff.1 h
        rcases ite_some h with ⟨hc57, h⟩ | ⟨hc57, h⟩
        · obtain ⟨q6, h_q6, h⟩ := Option.bind_eq_some_iff.1 h
          injection h with h; subst h
          exact Knows.of (C := C22) wf Try.func22 (cs := [.reg 1 [(0, { it := .res (.lit (.bool q)) [] [] })], .b false, .reg 5 [(1, { it := .res (.sl (.excl 3) false (eI .i64 q1)) [.cells 72 [(.lit (.int .i64 0)), (.lit (.complex .f64 0 0)), (.lit (.bool false))]] [] })], .reg 6 [(1, { it := .val (.int .i64 (q1.length : Int)) })], .lp (.exit 0) (X_lontarlaw10_VcanonPut_L0_9 q1 out_ v v1 m m_re m_im m1), .reg 16 [(2, { it := .res (.sl (.excl 3) false (eI .i64 q2.1)) [.cells 72 [(.lit (.int .i64 q2.2.letter_base)), (.lit (.complex .f64 q2.2.letter_sign.1 q2.2.letter_sign.2)), (.lit (.bool q2.2.is))]] [] }), (3, { it := .sl (eI .i64 (out_ ++ q2.1)) })], .reg 17 [(2, { it := .res (.sl (.excl 3) false (eI .i64 q3)) [.cells 72 [(.lit (.int .i64 q2.2.letter_base)), (.lit (.complex .f64 q2.2.letter_sign.1 q2.2.letter_sign.2)), (.lit (.bool q2.2.is))]] [] }), (3, { it := .res (.lit (.bool q4)) [.cells 72 [(.lit (.int .i64 q2.2.letter_base)), (.lit (.complex .f64 q2.2.letter_sign.1 q2.2.letter_sign.2)), (.lit (.bool q2.2.is))]] [] }), (5, { w := some true }), (6, { it := .res (.lit (.int .i64 q5.1)) [.cells 72 [(.lit (.int .i64 q5.2.letter_base)), (.lit (.complex .f64 q5.2.letter_sign.1 q5.2.letter_sign.2)), (.lit (.bool q5.2.is))]] [], w := some true }), (7, { w := some true }), (8, { it := .b true }), (10, { w := some true }), (11, { it := .res (.sl (.excl 3) false (eI .i64 q6.1)) [.cells 72 [(.lit (.int .i64 q6.2.letter_base)), (.lit (.complex .f64 q6.2.letter_sign.1 q6.2.letter_sign.2)), (.lit (.bool q6.2.is))]] [], w := some true }), (12, { it := .val (.int .i64 (q6.1.length : Int)), w := some true }), (13, { w := some true }), (14, { it := .b true })]]) (args := [(.sl .view false (eI .u8 l))]) (r := (.lit (.bool ((q6.1.length : Int) == 0)))) (ps := [CallK Try.prog false 40 [] [] (.lit (.bool q)) [],
              (!q) = false,
              CallK Try.prog false 41 [(.sl .view false (eI .u8 l))] [.cells 72 [(.lit (.int .i64 0)), (.lit (.complex .f64 0 0)), (.lit (.bool false))]] (.sl (.excl 3) false (eI .i64 q1)) [.cells 72 [(.lit (.int .i64 0)), (.lit (.complex .f64 0 0)), (.lit (.bool false))]],
              Value.int .i64 (↑(List.length (eI .i64 q1)) : Int) = .int .i64 (q1.length : Int),
              RunsB Try.prog 0 (.loop (sub [1, 1, 1, 1, 1, 0, 1, 0, 0] (fbody Try.f22))) ({ ts := [(3, (.ptr 0 0)), (4, (.sl (.excl 3) false (eI .i64 []))), (5, (.sl (.excl 3) false (eI .i64 q1))), (18, (.alias (.tmp 5))), (19, (.lit (.int .i64 (q1.length : Int)))), (20, (.lit (.int .i64 0)))], n := 105, σ := [.cells 72 [(.lit (.int .i64 0)), (.lit (.complex .f64 0 0)), (.lit (.bool false))]] }) (.exit 0) (X_lontarlaw10_VcanonPut_L0_9 q1 out_ v v1 m m_re m_im m1),
              CallK Try.prog false 48 [(.ptr 0 0)] [.cells 72 [(.lit (.int .i64 m)), (.lit (.complex .f64 m_re m_im)), (.lit (.bool m1))]] (.sl (.excl 3) false (eI .i64 q2.1)) [.cells 72 [(.lit (.int .i64 q2.2.letter_base)), (.lit (.complex .f64 q2.2.letter_sign.1 q2.2.letter_sign.2)), (.lit (.bool q2.2.is))]],
              (List.length (eI .i64 out_) + List.length (eI .i64 q2.1)) * 8 ≤ 2 ^ 46,
              (eI .i64 q2.1).all (fun c => c.length = 1 && c.all PV.one) = true,
              (eI .i64 out_) ++ (eI .i64 q2.1) = (eI .i64 (out_ ++ q2.1)),
              CallK Try.prog false 44 [(.sl .view false (eI .i64 q1))] [.cells 72 [(.lit (.int .i64 q2.2.letter_base)), (.lit (.complex .f64 q2.2.letter_sign.1 q2.2.letter_sign.2)), (.lit (.bool q2.2.is))]] (.sl (.excl 3) false (eI .i64 q3)) [.cells 72 [(.lit (.int .i64 q2.2.letter_base)), (.lit (.complex .f64 q2.2.letter_sign.1 q2.2.letter_sign.2)), (.lit (.bool q2.2.is))]],
              CallK Try.prog false 42 [(.sl .view false (eI .i64 (out_ ++ q2.1))), (.sl .view false (eI .i64 q3))] [.cells 72 [(.lit (.int .i64 q2.2.letter_base)), (.lit (.complex .f64 q2.2.letter_sign.1 q2.2.letter_sign.2)), (.lit (.bool q2.2.is))]] (.lit (.bool q4)) [.cells 72 [(.lit (.int .i64 q2.2.letter_base)), (.lit (.complex .f64 q2.2.letter_sign.1 q2.2.letter_sign.2)), (.lit (.bool q2.2.is))]],
              q4 = true,
              q4 = true,
              CallK Try.prog false 47 [(.ptr 0 0)] [.cells 72 [(.lit (.int .i64 q2.2.letter_base)), (.lit (.complex .f64 q2.2.letter_sign.1 q2.2.letter_sign.2)), (.lit (.bool q2.2.is))]] (.lit (.int .i64 q5.1)) [.cells 72 [(.lit (.int .i64 q5.2.letter_base)), (.lit (.complex .f64 q5.2.letter_sign.1 q5.2.letter_sign.2)), (.lit (.bool q5.2.is))]],
              q4 = true,
              q4 = true,
              (q5.1 == 0) = true,
              (q5.1 == 0) = true,
              CallK Try.prog false 48 [(.ptr 0 0)] [.cells 72 [(.lit (.int .i64 q5.2.letter_base)), (.lit (.complex .f64 q5.2.letter_sign.1 q5.2.letter_sign.2)), (.lit (.bool q5.2.is))]] (.sl (.excl 3) false (eI .i64 q6.1)) [.cells 72 [(.lit (.int .i64 q6.2.letter_base)), (.lit (.complex .f64 q6.2.letter_sign.1 q6.2.letter_sign.2)), (.lit (.bool q6.2.is))]],
              (q5.1 == 0) = true,
              Value.int .i64 (↑(List.length (eI .i64 q6.1)) : Int) = .int .i64 (q6.1.length : Int),
              (q5.1 == 0) = true,
              (q5.1 == 0) = true]) (by kernel_rfl)
            ⟨(call_lontarlaw10_awake h_q _ _), (not_f hc1), (call_lontarlaw10_Some h_q1 _ _), (len_val _ _), (RunsB.weak 5 rfl (RunsB.weak 4 (st2 := (S_lontarlaw10_VcanonPut_L0 q1 ([], 0, 0, 0, 0, false))) rfl hl_l54)), (callK_emb (knows_vcanon_Canon_End (⟨m, (m_re, m_im), m1⟩ : GVcanonCanon) h_q2) [0] rfl rfl rfl rfl rfl rfl rfl rfl rfl rfl rfl (ren_res _ _ ((map_noRef (fun _ => rfl) _)))), (len_map2 hg55), (all_map (fun _ => rfl) _), (List.map_append).symm, (call_lontarlaw10_canon h_q3 _ _), (call_lontarlaw01_Units h_q4 _ _), hc56, hc56, (callK_emb (knows_vcanon_Canon_Held q2.2 h_q5) [0] rfl rfl rfl rfl rfl rfl rfl rfl rfl rfl rfl rfl), hc56, hc56, (beq_iff_eq.2 hc57), (beq_iff_eq.2 hc57), (callK_emb (knows_vcanon_Canon_End q5.2 h_q6) [0] rfl rfl rfl rfl rfl rfl rfl rfl rfl rfl rfl (ren_res _ _ ((map_noRef (fun _ => rfl) _)))), (beq_iff_eq.2 hc57), (len_val _ _), (beq_iff_eq.2 hc57), (beq_iff_eq.2 hc57), trivial⟩
        · injection h with h; subst h
          exact Knows.of (C := C22) wf Try.func22 (cs := [.reg 1 [(0, { it := .res (.lit (.bool q)) [] [] })], .b false, .reg 5 [(1, { it := .res (.sl (.excl 3) false (eI .i64 q1)) [.cells 72 [(.lit (.int .i64 0)), (.lit (.complex .f64 0 0)), (.lit (.bool false))]] [] })], .reg 6 [(1, { it := .val (.int .i64 (q1.length : Int)) })], .lp (.exit 0) (X_lontarlaw10_VcanonPut_L0_9 q1 out_ v v1 m m_re m_im m1), .reg 16 [(2, { it := .res (.sl (.excl 3) false (eI .i64 q2.1)) [.cells 72 [(.lit (.int .i64 q2.2.letter_base)), (.lit (.complex .f64 q2.2.letter_sign.1 q2.2.letter_sign.2)), (.lit (.bool q2.2.is))]] [] }), (3, { it := .sl (eI .i64 (out_ ++ q2.1)) })], .reg 17 [(2, { it := .res (.sl (.excl 3) false (eI .i64 q3)) [.cells 72 [(.lit (.int .i64 q2.2.letter_base)), (.lit (.complex .f64 q2.2.letter_sign.1 q2.2.letter_sign.2)), (.lit (.bool q2.2.is))]] [] }), (3, { it := .res (.lit (.bool q4)) [.cells 72 [(.lit (.int .i64 q2.2.letter_base)), (.lit (.complex .f64 q2.2.letter_sign.1 q2.2.letter_sign.2)), (.lit (.bool q2.2.is))]] [] }), (5, { w := some true }), (6, { it := .res (.lit (.int .i64 q5.1)) [.cells 72 [(.lit (.int .i64 q5.2.letter_base)), (.lit (.complex .f64 q5.2.letter_sign.1 q5.2.letter_sign.2)), (.lit (.bool q5.2.is))]] [], w := some true }), (7, { w := some true }), (8, { it := .b true }), (10, { w := some false }), (11, { w := some false }), (12, { w := some false }), (13, { w := some false }), (14, { it := .b false })]]) (args := [(.sl .view false (eI .u8 l))]) (r := (.lit (.bool false))) (ps := [CallK Try.prog false 40 [] [] (.lit (.bool q)) [],
              (!q) = false,
              CallK Try.prog false 41 [(.sl .view false (eI .u8 l))] [.cells 72 [(.lit (.int .i64 0)), (.lit (.complex .f64 0 0)), (.lit (.bool false))]] (.sl (.excl 3) false (eI .i64 q1)) [.cells 72 [(.lit (.int .i64 0)), (.lit (.complex .f64 0 0)), (.lit (.bool false))]],
              Value.int .i64 (↑(List.length (eI .i64 q1)) : Int) = .int .i64 (q1.length : Int),
              RunsB Try.prog 0 (.loop (sub [1, 1, 1, 1, 1, 0, 1, 0, 0] (fbody Try.f22))) ({ ts := [(3, (.ptr 0 0)), (4, (.sl (.excl 3) false (eI .i64 []))), (5, (.sl (.excl 3) false (eI .i64 q1))), (18, (.alias (.tmp 5))), (19, (.lit (.int .i64 (q1.length : Int)))), (20, (.lit (.int .i64 0)))], n := 105, σ := [.cells 72 [(.lit (.int .i64 0)), (.lit (.complex .f64 0 0)), (.lit (.bool false))]] }) (.exit 0) (X_lontarlaw10_VcanonPut_L0_9 q1 out_ v v1 m m_re m_im m1),
              CallK Try.prog false 48 [(.ptr 0 0)] [.cells 72 [(.lit (.int .i64 m)), (.lit (.complex .f64 m_re m_im)), (.lit (.bool m1))]] (.sl (.excl 3) false (eI .i64 q2.1)) [.cells 72 [(.lit (.int .i64 q2.2.letter_base)), (.lit (.complex .f64 q2.2.letter_sign.1 q2.2.letter_sign.2)), (.lit (.bool q2.2.is))]],
              (List.length (eI .i64 out_) + List.length (eI .i64 q2.1)) * 8 ≤ 2 ^ 46,
              (eI .i64 q2.1).all (fun c => c.length = 1 && c.all PV.one) = true,
              (eI .i64 out_) ++ (eI .i64 q2.1) = (eI .i64 (out_ ++ q2.1)),
              CallK Try.prog false 44 [(.sl .view false (eI .i64 q1))] [.cells 72 [(.lit (.int .i64 q2.2.letter_base)), (.lit (.complex .f64 q2.2.letter_sign.1 q2.2.letter_sign.2)), (.lit (.bool q2.2.is))]] (.sl (.excl 3) false (eI .i64 q3)) [.cells 72 [(.lit (.int .i64 q2.2.letter_base)), (.lit (.complex .f64 q2.2.letter_sign.1 q2.2.letter_sign.2)), (.lit (.bool q2.2.is))]],
              CallK Try.prog false 42 [(.sl .view false (eI .i64 (out_ ++ q2.1))), (.sl .view false (eI .i64 q3))] [.cells 72 [(.lit (.int .i64 q2.2.letter_base)), (.lit (.complex .f64 q2.2.letter_sign.1 q2.2.letter_sign.2)), (.lit (.bool q2.2.is))]] (.lit (.bool q4)) [.cells 72 [(.lit (.int .i64 q2.2.letter_base)), (.lit (.complex .f64 q2.2.letter_sign.1 q2.2.letter_sign.2)), (.lit (.bool q2.2.is))]],
              q4 = true,
              q4 = true,
              CallK Try.prog false 47 [(.ptr 0 0)] [.cells 72 [(.lit (.int .i64 q2.2.letter_base)), (.lit (.complex .f64 q2.2.letter_sign.1 q2.2.letter_sign.2)), (.lit (.bool q2.2.is))]] (.lit (.int .i64 q5.1)) [.cells 72 [(.lit (.int .i64 q5.2.letter_base)), (.lit (.complex .f64 q5.2.letter_sign.1 q5.2.letter_sign.2)), (.lit (.bool q5.2.is))]],
              q4 = true,
              q4 = true,
              (q5.1 == 0) = false,
              (q5.1 == 0) = false,
              (q5.1 == 0) = false,
              (q5.1 == 0) = false,
              (q5.1 == 0) = false]) (by kernel_rfl)
            ⟨(call_lontarlaw10_awake h_q _ _), (not_f hc1), (call_lontarlaw10_Some h_q1 _ _), (len_val _ _), (RunsB.weak 5 rfl (RunsB.weak 4 (st2 := (S_lontarlaw10_VcanonPut_L0 q1 ([], 0, 0, 0, 0, false))) rfl hl_l54)), (callK_emb (knows_vcanon_Canon_End (⟨m, (m_re, m_im), m1⟩ : GVcanonCanon) h_q2) [0] rfl rfl rfl rfl rfl rfl rfl rfl rfl rfl rfl (ren_res _ _ ((map_noRef (fun _ => rfl) _)))), (len_map2 hg55), (all_map (fun _ => rfl) _), (List.map_append).symm, (call_lontarlaw10_canon h_q3 _ _), (call_lontarlaw01_Units h_q4 _ _), hc56, hc56, (callK_emb (knows_vcanon_Canon_Held q2.2 h_q5) [0] rfl rfl rfl rfl rfl rfl rfl rfl rfl rfl rfl rfl), hc56, hc56, (beq_eq_false_iff_ne.2 hc57), (beq_eq_false_iff_ne.2 hc57), (beq_eq_false_iff_ne.2 hc57), (beq_eq_false_iff_ne.2 hc57), (beq_eq_false_iff_ne.2 hc57), trivial⟩
      · injection h with h; subst h
        exact Knows.of (C := C22) wf Try.func22 (cs := [.reg 1 [(0, { it := .res (.lit (.bool q)) [] [] })], .b false, .reg 5 [(1, { it := .res (.sl (.excl 3) false (eI .i64 q1)) [.cells 72 [(.lit (.int .i64 0)), (.lit (.complex .f64 0 0)), (.lit (.bool false))]] [] })], .reg 6 [(1, { it := .val (.int .i64 (q1.length : Int)) })], .lp (.exit 0) (X_lontarlaw10_VcanonPut_L0_9 q1 out_ v v1 m m_re m_im m1), .reg 16 [(2, { it := .res (.sl (.excl 3) false (eI .i64 q2.1)) [.cells 72 [(.lit (.int .i64 q2.2.letter_base)), (.lit (.complex .f64 q2.2.letter_sign.1 q2.2.letter_sign.2)), (.lit (.bool q2.2.is))]] [] }), (3, { it := .sl (eI .i64 (out_ ++ q2.1)) })], .reg 17 [(2, { it := .res (.sl (.excl 3) false (eI .i64 q3)) [.cells 72 [(.lit (.int .i64 q2.2.letter_base)), (.lit (.complex .f64 q2.2.letter_sign.1 q2.2.letter_sign.2)), (.lit (.bool q2.2.is))]] [] }), (3, { it := .res (.lit (.bool q4)) [.cells 72 [(.lit (.int .i64 q2.2.letter_base)), (.lit (.complex .f64 q2.2.letter_sign.1 q2.2.letter_sign.2)), (.lit (.bool q2.2.is))]] [] }), (5, { w := some false }), (6, { w := some false }), (7, { w := some false }), (8, { it := .b false }), (10, { w := some false }), (11, { w := some false }), (12, { w := some false }), (13, { w := some false }), (14, { it := .b false })]]) (args := [(.sl .view false (eI .u8 l))]) (r := (.lit (.bool false))) (ps := [CallK Try.prog false 40 [] [] (.lit (.bool q)) [],
            (!q) = false,
            CallK Try.prog false 41 [(.sl .view false (eI .u8 l))] [.cells 72 [(.lit (.int .i64 0)), (.lit (.complex .f64 0 0)), (.lit (.bool false))]] (.sl (.excl 3) false (eI .i64 q1)) [.cells 72 [(.lit (.int .i64 0)), (.lit (.complex .f64 0 0)), (.lit (.bool false))]],
            Value.int .i64 (↑(List.length (eI .i64 q1)) : Int) = .int .i64 (q1.length : Int),
            RunsB Try.prog 0 (.loop (sub [1, 1, 1, 1, 1, 0, 1, 0, 0] (fbody Try.f22))) ({ ts := [(3, (.ptr 0 0)), (4, (.sl (.excl 3) false (eI .i64 []))), (5, (.sl (.excl 3) false (eI .i64 q1))), (18, (.alias (.tmp 5))), (19, (.lit (.int .i64 (q1.length : Int)))), (20, (.lit (.int .i64 0)))], n := 105, σ := [.cells 72 [(.lit (.int .i64 0)), (.lit (.complex .f64 0 0)), (.lit (.bool false))]] }) (.exit 0) (X_lontarlaw10_VcanonPut_L0_9 q1 out_ v v1 m m_re m_im m1),
            CallK Try.prog false 48 [(.ptr 0 0)] [.cells 72 [(.lit (.int .i64 m)), (.lit (.complex .f64 m_re m_im)), (.lit (.bool m1))]] (.sl (.excl 3) false (eI .i64 q2.1)) [.cells 72 [(.lit (.int .i64 q2.2.letter_base)), (.lit (.complex .f64 q2.2.letter_sign.1 q2.2.letter_sign.2)), (.lit (.bool q2.2.is))]],
            (List.length (eI .i64 out_) + List.length (eI .i64 q2.1)) * 8 ≤ 2 ^ 46,
            (eI .i64 q2.1).all (fun c => c.length = 1 && c.all PV.one) = true,
            (eI .i64 out_) ++ (eI .i64 q2.1) = (eI .i64 (out_ ++ q2.1)),
            CallK Try.prog false 44 [(.sl .view false (eI .i64 q1))] [.cells 72 [(.lit (.int .i64 q2.2.letter_base)), (.lit (.complex .f64 q2.2.letter_sign.1 q2.2.letter_sign.2)), (.lit (.bool q2.2.is))]] (.sl (.excl 3) false (eI .i64 q3)) [.cells 72 [(.lit (.int .i64 q2.2.letter_base)), (.lit (.complex .f64 q2.2.letter_sign.1 q2.2.letter_sign.2)), (.lit (.bool q2.2.is))]],
            CallK Try.prog false 42 [(.sl .view false (eI .i64 (out_ ++ q2.1))), (.sl .view false (eI .i64 q3))] [.cells 72 [(.lit (.int .i64 q2.2.letter_base)), (.lit (.complex .f64 q2.2.letter_sign.1 q2.2.letter_sign.2)), (.lit (.bool q2.2.is))]] (.lit (.bool q4)) [.cells 72 [(.lit (.int .i64 q2.2.letter_base)), (.lit (.complex .f64 q2.2.letter_sign.1 q2.2.letter_sign.2)), (.lit (.bool q2.2.is))]],
            q4 = false,
            q4 = false,
            q4 = false,
            q4 = false,
            false = false,
            false = false,
            false = false,
            false = false,
            false = false]) (by kernel_rfl)
          ⟨(call_lontarlaw10_awake h_q _ _), (not_f hc1), (call_lontarlaw10_Some h_q1 _ _), (len_val _ _), (RunsB.weak 5 rfl (RunsB.weak 4 (st2 := (S_lontarlaw10_VcanonPut_L0 q1 ([], 0, 0, 0, 0, false))) rfl hl_l54)), (callK_emb (knows_vcanon_Canon_End (⟨m, (m_re, m_im), m1⟩ : GVcanonCanon) h_q2) [0] rfl rfl rfl rfl rfl rfl rfl rfl rfl rfl rfl (ren_res _ _ ((map_noRef (fun _ => rfl) _)))), (len_map2 hg55), (all_map (fun _ => rfl) _), (List.map_append).symm, (call_lontarlaw10_canon h_q3 _ _), (call_lontarlaw01_Units h_q4 _ _), (Bool.eq_false_iff.2 hc56), (Bool.eq_false_iff.2 hc56), (Bool.eq_false_iff.2 hc56), (Bool.eq_false_iff.2 hc56), rfl, rfl, rfl, rfl, rfl, trivial⟩
  · injection h with h; subst h
    exact Knows.of (C := C22) wf Try.func22 (cs := [.reg 1 [(0, { it := .res (.lit (.bool q)) [] [] })], .b true]) (args := [(.sl .view false (eI .u8 l))]) (r := (.lit (.bool false))) (ps := [CallK Try.prog false 40 [] [] (.lit (.bool q)) [],
        (!q) = true]) (by kernel_rfl)
      ⟨(call_lontarlaw10_awake h_q _ _), (not_t (Bool.eq_false_iff.2 hc1)), trivial⟩
theorem call_lontarlaw10_VcanonPut {l : (List Int)} {r} (h : lontarlaw10_VcanonPut l = some r) (kp : Bool) (σ : List Bx) : CallK Try.prog kp 22 [(.sl .view false (eI .u8 l))] σ (.lit (.bool r)) σ :=
  (knows_lontarlaw10_VcanonPut l h).call (and_t (map_noRef (fun _ => rfl) _) rfl) rfl kp σ
end Go.Proofs.Ytpbbgkmpjcddbaa
