/- Walks, printed by wip/gen.py. -/
import Derived.Test.YtpbbgkmpjcddbaaMVietSplit
import Derived.Test.YtpbbgkmpjcddbaaYa
set_option linter.all false
namespace Go.Proofs.Ytpbbgkmpjcddbaa
open Go.AM Go.AM.M

def h10 : Nat → Option Hint
| 0 => some { keep := [0, 1] }
| 1 => some { keep := [0, 1, 12] }
| 2 => some { keep := [4] }
| 3 => some { keep := [21, 22, 23] }
| 4 => some { keep := [21, 22, 23, 24] }
| 5 => some { keep := [6, 21, 22, 23] }
| 6 => some { keep := [6, 7, 8, 21, 22, 23] }
| 7 => some { keep := [7, 8, 9, 10, 21, 22, 23] }
| 8 => some { keep := [21, 22, 23, 44] }
| 9 => some { keep := [4] }
| 10 => some { keep := [21, 22, 23], cut := some 0 }
| 11 => some { keep := [4] }
| _ => none

noncomputable def C10 : Ctx := { P := Try.prog, mv := fun _ _ => false, res := resOf Try.f10, live := h10, call := fun _ _ _ => none }

def S_lontarlaw09_VietSplit_L0 (s : Int) (n : Int) (vv : Int) : St :=
  match vv with
  | v => { ts := [(21, (.sl (.excl 3) false (eI .i64 [s, (w64 (n.tmod 544)), (w64 (7824 + (w64 (n.tmod 112))))]))), (22, (.lit (.int .i64 ([s, (w64 (n.tmod 544)), (w64 (7824 + (w64 (n.tmod 112))))].length : Int)))), (23, (.lit (.int .i64 v)))], n := 46, σ := [] }

def X_lontarlaw09_VietSplit_L0_0 (s : Int) (n : Int) (m : Int) (m_re : Nat) (m_im : Nat) (m1 : Int) (m_re1 : Nat) (m_im1 : Nat) : St := { ts := [(4, (.lit (.bool false)))], n := 46, σ := [.cells 38 [(.lit (.int .i64 m)), (.lit (.complex .f64 m_re m_im))], .cells 38 [(.lit (.int .i64 m1)), (.lit (.complex .f64 m_re1 m_im1))]] }

def X_lontarlaw09_VietSplit_L0_1 (s : Int) (n : Int) (m : Int) (m_re : Nat) (m_im : Nat) (m1 : Int) (m_re1 : Nat) (m_im1 : Nat) : St := { ts := [(4, (.lit (.bool false)))], n := 46, σ := [.cells 38 [(.lit (.int .i64 m)), (.lit (.complex .f64 m_re m_im))], .cells 38 [(.lit (.int .i64 m1)), (.lit (.complex .f64 m_re1 m_im1))]] }

def X_lontarlaw09_VietSplit_L0_2 (s : Int) (n : Int) (v : Int) (v1 : Bool) : St := { ts := [(21, (.sl (.excl 3) false (eI .i64 [s, (w64 (n.tmod 544)), (w64 (7824 + (w64 (n.tmod 112))))]))), (22, (.lit (.int .i64 ([s, (w64 (n.tmod 544)), (w64 (7824 + (w64 (n.tmod 112))))].length : Int)))), (23, (.lit (.int .i64 v))), (24, (.lit (.bool v1)))], n := 46, σ := [] }

def E_lontarlaw09_VietSplit_L0 (s : Int) (n : Int) (vv : lontarlaw09_VietSplit_L0_R) : Exit × St :=
  match vv with
  | .x0 m m_re m_im m1 m_re1 m_im1 => (.ret, X_lontarlaw09_VietSplit_L0_0 s n m m_re m_im m1 m_re1 m_im1)
  | .x1 m m_re m_im m1 m_re1 m_im1 => (.ret, X_lontarlaw09_VietSplit_L0_1 s n m m_re m_im m1 m_re1 m_im1)
  | .x2 v v1 => (.exit 0, X_lontarlaw09_VietSplit_L0_2 s n v v1)

set_option maxRecDepth 100000 in
theorem body_lontarlaw09_VietSplit_L0 (s : Int) (n : Int) (v : Int) (x) (h : lontarlaw09_VietSplit_L0 s n v = some x) : RunsB Try.prog 0 (sub [1, 1, 0, 1, 0, 0] (fbody Try.f10)) (S_lontarlaw09_VietSplit_L0 s n v) (sideX (E_lontarlaw09_VietSplit_L0 s n) x) (sideS (S_lontarlaw09_VietSplit_L0 s n) (E_lontarlaw09_VietSplit_L0 s n) x) := by
  unfold lontarlaw09_VietSplit_L0 at h
  dsimp only at h
  rcases ite_some h with ⟨hc11, h⟩ | ⟨hc11, h⟩
  · obtain ⟨x_, h_x_, h⟩ := Option.bind_eq_some_iff.1 h
    obtain ⟨q1, h_q1, h⟩ := Option.bind_eq_some_iff.1 h
    obtain ⟨q2, h_q2, h⟩ := Option.bind_eq_some_iff.1 h
    rcases ite_some h with ⟨hc12, h⟩ | ⟨hc12, h⟩
    · rcases ite_some h with ⟨hc13, h⟩ | ⟨hc13, h⟩
      · injection h with h; subst h
        exact codeH_sound (C := C10) (base := 0) wf _ (cs := [.b true, .reg 5 [(0, { it := .cs [(.lit (.int .i64 x_))] }), (1, { it := .cs [(.lit (.int .i64 x_))] })], .reg 6 [(1, { it := .res (.tup [(.agg [(.lit (.int .i64 q1.1.base)), (.lit (.complex .f64 q1.1.sign.1 q1.1.sign.2))]), (.lit (.bool q1.2))]) [] [] })], .reg 7 [(1, { it := .res (.tup [(.agg [(.lit (.int .i64 q2.1.base)), (.lit (.complex .f64 q2.1.sign.1 q2.1.sign.2))]), (.lit (.bool q2.2))]) [.cells 38 [(.lit (.int .i64 q1.1.base)), (.lit (.complex .f64 q1.1.sign.1 q1.1.sign.2))]] [] })], .reg 8 [(2, { it := .val (.bool (!(GVietLetter.eq q1.1 q2.1))) }), (4, { w := some false }), (5, { w := some false }), (6, { it := .val (.bool (q1.2 != q2.2)), w := some false }), (7, { it := .b false })], .b true]) (cs' := []) (ps := [(decide (v < ([s, (w64 (n.tmod 544)), (w64 (7824 + (w64 (n.tmod 112))))].length : Int))) = true,
            nthPV (eI .i64 [s, (w64 (n.tmod 544)), (w64 (7824 + (w64 (n.tmod 112))))]) v = some [(.lit (.int .i64 x_))],
            (eI .i64 [s, (w64 (n.tmod 544)), (w64 (7824 + (w64 (n.tmod 112))))])[v.toNat]? = some [(.lit (.int .i64 x_))],
            CallK Try.prog false 32 [(.lit (.int .i64 x_))] [] (.tup [(.agg [(.lit (.int .i64 q1.1.base)), (.lit (.complex .f64 q1.1.sign.1 q1.1.sign.2))]), (.lit (.bool q1.2))]) [],
            CallK Try.prog false 33 [(.lit (.int .i64 x_))] [.cells 38 [(.lit (.int .i64 q1.1.base)), (.lit (.complex .f64 q1.1.sign.1 q1.1.sign.2))]] (.tup [(.agg [(.lit (.int .i64 q2.1.base)), (.lit (.complex .f64 q2.1.sign.1 q2.1.sign.2))]), (.lit (.bool q2.2))]) [.cells 38 [(.lit (.int .i64 q1.1.base)), (.lit (.complex .f64 q1.1.sign.1 q1.1.sign.2))]],
            det Try.prog (do eqGuard .neq 38 (.tmp 37) (.tmp 38) (.agg #[(.int .i64 q1.1.base), (.complex .f64 q1.1.sign.1 q1.1.sign.2)]) (.agg #[(.int .i64 q2.1.base), (.complex .f64 q2.1.sign.1 q2.1.sign.2)]); binOp .neq 38 (.agg #[(.int .i64 q1.1.base), (.complex .f64 q1.1.sign.1 q1.1.sign.2)]) (.agg #[(.int .i64 q2.1.base), (.complex .f64 q2.1.sign.1 q2.1.sign.2)])) = some (.bool (!(GVietLetter.eq q1.1 q2.1))),
            (!(GVietLetter.eq q1.1 q2.1)) = false,
            (!(GVietLetter.eq q1.1 q2.1)) = false,
            (!(GVietLetter.eq q1.1 q2.1)) = false,
            det Try.prog (do eqGuard .neq 4 (.tmp 41) (.tmp 42) (.bool q1.2) (.bool q2.2); binOp .neq 4 (.bool q1.2) (.bool q2.2)) = some (.bool (q1.2 != q2.2)),
            (!(GVietLetter.eq q1.1 q2.1)) = false,
            (q1.2 != q2.2) = true]) (by kernel_rfl)
          ⟨(decide_eq_true hc11), (nth_map _ h_x_), (nthPV_eq (nth_map _ h_x_)).2, (call_viet_Split h_q1 _ _), (call_lontarlaw09_Split h_q2 _ _), (det_GVietLetter_neq _ _ _ _), (not_f hc12), (not_f hc12), (not_f hc12), (det_bneq Try.underlying4 _ _ _ _), (not_f hc12), hc13, trivial⟩
      · injection h with h; subst h
        exact codeH_sound (C := C10) (base := 0) wf _ (cs := [.b true, .reg 5 [(0, { it := .cs [(.lit (.int .i64 x_))] }), (1, { it := .cs [(.lit (.int .i64 x_))] })], .reg 6 [(1, { it := .res (.tup [(.agg [(.lit (.int .i64 q1.1.base)), (.lit (.complex .f64 q1.1.sign.1 q1.1.sign.2))]), (.lit (.bool q1.2))]) [] [] })], .reg 7 [(1, { it := .res (.tup [(.agg [(.lit (.int .i64 q2.1.base)), (.lit (.complex .f64 q2.1.sign.1 q2.1.sign.2))]), (.lit (.bool q2.2))]) [.cells 38 [(.lit (.int .i64 q1.1.base)), (.lit (.complex .f64 q1.1.sign.1 q1.1.sign.2))]] [] })], .reg 8 [(2, { it := .val (.bool (!(GVietLetter.eq q1.1 q2.1))) }), (4, { w := some false }), (5, { w := some false }), (6, { it := .val (.bool (q1.2 != q2.2)), w := some false }), (7, { it := .b false })], .b false]) (cs' := []) (ps := [(decide (v < ([s, (w64 (n.tmod 544)), (w64 (7824 + (w64 (n.tmod 112))))].length : Int))) = true,
            nthPV (eI .i64 [s, (w64 (n.tmod 544)), (w64 (7824 + (w64 (n.tmod 112))))]) v = some [(.lit (.int .i64 x_))],
            (eI .i64 [s, (w64 (n.tmod 544)), (w64 (7824 + (w64 (n.tmod 112))))])[v.toNat]? = some [(.lit (.int .i64 x_))],
            CallK Try.prog false 32 [(.lit (.int .i64 x_))] [] (.tup [(.agg [(.lit (.int .i64 q1.1.base)), (.lit (.complex .f64 q1.1.sign.1 q1.1.sign.2))]), (.lit (.bool q1.2))]) [],
            CallK Try.prog false 33 [(.lit (.int .i64 x_))] [.cells 38 [(.lit (.int .i64 q1.1.base)), (.lit (.complex .f64 q1.1.sign.1 q1.1.sign.2))]] (.tup [(.agg [(.lit (.int .i64 q2.1.base)), (.lit (.complex .f64 q2.1.sign.1 q2.1.sign.2))]), (.lit (.bool q2.2))]) [.cells 38 [(.lit (.int .i64 q1.1.base)), (.lit (.complex .f64 q1.1.sign.1 q1.1.sign.2))]],
            det Try.prog (do eqGuard .neq 38 (.tmp 37) (.tmp 38) (.agg #[(.int .i64 q1.1.base), (.complex .f64 q1.1.sign.1 q1.1.sign.2)]) (.agg #[(.int .i64 q2.1.base), (.complex .f64 q2.1.sign.1 q2.1.sign.2)]); binOp .neq 38 (.agg #[(.int .i64 q1.1.base), (.complex .f64 q1.1.sign.1 q1.1.sign.2)]) (.agg #[(.int .i64 q2.1.base), (.complex .f64 q2.1.sign.1 q2.1.sign.2)])) = some (.bool (!(GVietLetter.eq q1.1 q2.1))),
            (!(GVietLetter.eq q1.1 q2.1)) = false,
            (!(GVietLetter.eq q1.1 q2.1)) = false,
            (!(GVietLetter.eq q1.1 q2.1)) = false,
            det Try.prog (do eqGuard .neq 4 (.tmp 41) (.tmp 42) (.bool q1.2) (.bool q2.2); binOp .neq 4 (.bool q1.2) (.bool q2.2)) = some (.bool (q1.2 != q2.2)),
            (!(GVietLetter.eq q1.1 q2.1)) = false,
            (q1.2 != q2.2) = false,
            noRefss 0 (eI .i64 [s, (w64 (n.tmod 544)), (w64 (7824 + (w64 (n.tmod 112))))]) = true]) (by kernel_rfl)
          ⟨(decide_eq_true hc11), (nth_map _ h_x_), (nthPV_eq (nth_map _ h_x_)).2, (call_viet_Split h_q1 _ _), (call_lontarlaw09_Split h_q2 _ _), (det_GVietLetter_neq _ _ _ _), (not_f hc12), (not_f hc12), (not_f hc12), (det_bneq Try.underlying4 _ _ _ _), (not_f hc12), (Bool.eq_false_iff.2 hc13), (map_noRef (fun _ => rfl) _), trivial⟩
    · injection h with h; subst h
      exact codeH_sound (C := C10) (base := 0) wf _ (cs := [.b true, .reg 5 [(0, { it := .cs [(.lit (.int .i64 x_))] }), (1, { it := .cs [(.lit (.int .i64 x_))] })], .reg 6 [(1, { it := .res (.tup [(.agg [(.lit (.int .i64 q1.1.base)), (.lit (.complex .f64 q1.1.sign.1 q1.1.sign.2))]), (.lit (.bool q1.2))]) [] [] })], .reg 7 [(1, { it := .res (.tup [(.agg [(.lit (.int .i64 q2.1.base)), (.lit (.complex .f64 q2.1.sign.1 q2.1.sign.2))]), (.lit (.bool q2.2))]) [.cells 38 [(.lit (.int .i64 q1.1.base)), (.lit (.complex .f64 q1.1.sign.1 q1.1.sign.2))]] [] })], .reg 8 [(2, { it := .val (.bool (!(GVietLetter.eq q1.1 q2.1))) }), (4, { w := some true }), (5, { w := some true }), (6, { w := some true }), (7, { it := .b true })], .b true]) (cs' := []) (ps := [(decide (v < ([s, (w64 (n.tmod 544)), (w64 (7824 + (w64 (n.tmod 112))))].length : Int))) = true,
          nthPV (eI .i64 [s, (w64 (n.tmod 544)), (w64 (7824 + (w64 (n.tmod 112))))]) v = some [(.lit (.int .i64 x_))],
          (eI .i64 [s, (w64 (n.tmod 544)), (w64 (7824 + (w64 (n.tmod 112))))])[v.toNat]? = some [(.lit (.int .i64 x_))],
          CallK Try.prog false 32 [(.lit (.int .i64 x_))] [] (.tup [(.agg [(.lit (.int .i64 q1.1.base)), (.lit (.complex .f64 q1.1.sign.1 q1.1.sign.2))]), (.lit (.bool q1.2))]) [],
          CallK Try.prog false 33 [(.lit (.int .i64 x_))] [.cells 38 [(.lit (.int .i64 q1.1.base)), (.lit (.complex .f64 q1.1.sign.1 q1.1.sign.2))]] (.tup [(.agg [(.lit (.int .i64 q2.1.base)), (.lit (.complex .f64 q2.1.sign.1 q2.1.sign.2))]), (.lit (.bool q2.2))]) [.cells 38 [(.lit (.int .i64 q1.1.base)), (.lit (.complex .f64 q1.1.sign.1 q1.1.sign.2))]],
          det Try.prog (do eqGuard .neq 38 (.tmp 37) (.tmp 38) (.agg #[(.int .i64 q1.1.base), (.complex .f64 q1.1.sign.1 q1.1.sign.2)]) (.agg #[(.int .i64 q2.1.base), (.complex .f64 q2.1.sign.1 q2.1.sign.2)]); binOp .neq 38 (.agg #[(.int .i64 q1.1.base), (.complex .f64 q1.1.sign.1 q1.1.sign.2)]) (.agg #[(.int .i64 q2.1.base), (.complex .f64 q2.1.sign.1 q2.1.sign.2)])) = some (.bool (!(GVietLetter.eq q1.1 q2.1))),
          (!(GVietLetter.eq q1.1 q2.1)) = true,
          (!(GVietLetter.eq q1.1 q2.1)) = true,
          (!(GVietLetter.eq q1.1 q2.1)) = true,
          (!(GVietLetter.eq q1.1 q2.1)) = true,
          true = true]) (by kernel_rfl)
        ⟨(decide_eq_true hc11), (nth_map _ h_x_), (nthPV_eq (nth_map _ h_x_)).2, (call_viet_Split h_q1 _ _), (call_lontarlaw09_Split h_q2 _ _), (det_GVietLetter_neq _ _ _ _), (not_t (Bool.eq_false_iff.2 hc12)), (not_t (Bool.eq_false_iff.2 hc12)), (not_t (Bool.eq_false_iff.2 hc12)), (not_t (Bool.eq_false_iff.2 hc12)), rfl, trivial⟩
  · injection h with h; subst h
    exact codeH_sound (C := C10) (base := 0) wf _ (cs := [.b false]) (cs' := []) (ps := [(decide (v < ([s, (w64 (n.tmod 544)), (w64 (7824 + (w64 (n.tmod 112))))].length : Int))) = false]) (by kernel_rfl)
      ⟨(decide_eq_false hc11), trivial⟩

theorem runs_lontarlaw09_VietSplit_L0 (s : Int) (n : Int) {nn} {vv : Int} {rr} (h : loopM (lontarlaw09_VietSplit_L0 s n) nn vv = some rr) : RunsB Try.prog 0 (.loop (sub [1, 1, 0, 1, 0, 0] (fbody Try.f10))) (S_lontarlaw09_VietSplit_L0 s n vv) (E_lontarlaw09_VietSplit_L0 s n rr).1 (E_lontarlaw09_VietSplit_L0 s n rr).2 :=
  loop_runs (by intro r; cases r <;> simp [E_lontarlaw09_VietSplit_L0]) (body_lontarlaw09_VietSplit_L0 s n) nn vv rr h

set_option maxRecDepth 100000 in
theorem knows_lontarlaw09_VietSplit (s : Int) (n : Int) {r} (h : lontarlaw09_VietSplit s n = some r) : Knows Try.prog 10 [(.lit (.int .i64 s)), (.lit (.int .u16 n))] (.lit (.bool r)) := by
  unfold lontarlaw09_VietSplit at h
  obtain ⟨q, h_q, h⟩ := Option.bind_eq_some_iff.1 h
  rcases ite_some h with ⟨hc1, h⟩ | ⟨hc1, h⟩
  · obtain ⟨l14, hr_l14, h⟩ := Option.bind_eq_some_iff.1 h
    have hl_l14 := runs_lontarlaw09_VietSplit_L0 s n hr_l14
    cases l14 with
    | x0 m m_re m_im m1 m_re1 m_im1 =>
      dsimp only at h
      injection h with h; subst h
      exact Knows.of (C := C10) wf Try.func10 (cs := [.reg 1 [(0, { it := .res (.lit (.bool q)) [] [] })], .b false, .reg 3 [(9, { it := .val (.int .i64 ([s, (w64 (n.tmod 544)), (w64 (7824 + (w64 (n.tmod 112))))].length : Int)) })], .lp (.ret) (X_lontarlaw09_VietSplit_L0_0 s n m m_re m_im m1 m_re1 m_im1)]) (args := [(.lit (.int .i64 s)), (.lit (.int .u16 n))]) (r := (.lit (.bool false))) (ps := [CallK Try.prog false 30 [] [] (.lit (.bool q)) [],
          (!q) = false,
          Value.int .i64 (↑(List.length (eI .i64 [s, (w64 (n.tmod 544)), (w64 (7824 + (w64 (n.tmod 112))))])) : Int) = .int .i64 ([s, (w64 (n.tmod 544)), (w64 (7824 + (w64 (n.tmod 112))))].length : Int),
          RunsB Try.prog 0 (.loop (sub [1, 1, 0, 1, 0, 0] (fbody Try.f10))) (S_lontarlaw09_VietSplit_L0 s n 0) (.ret) (X_lontarlaw09_VietSplit_L0_0 s n m m_re m_im m1 m_re1 m_im1)]) (by kernel_rfl)
        ⟨(call_lontarlaw09_awake h_q _ _), (not_f hc1), (len_val _ _), hl_l14, trivial⟩
    | x1 m m_re m_im m1 m_re1 m_im1 =>
      dsimp only at h
      injection h with h; subst h
      exact Knows.of (C := C10) wf Try.func10 (cs := [.reg 1 [(0, { it := .res (.lit (.bool q)) [] [] })], .b false, .reg 3 [(9, { it := .val (.int .i64 ([s, (w64 (n.tmod 544)), (w64 (7824 + (w64 (n.tmod 112))))].length : Int)) })], .lp (.ret) (X_lontarlaw09_VietSplit_L0_1 s n m m_re m_im m1 m_re1 m_im1)]) (args := [(.lit (.int .i64 s)), (.lit (.int .u16 n))]) (r := (.lit (.bool false))) (ps := [CallK Try.prog false 30 [] [] (.lit (.bool q)) [],
          (!q) = false,
          Value.int .i64 (↑(List.length (eI .i64 [s, (w64 (n.tmod 544)), (w64 (7824 + (w64 (n.tmod 112))))])) : Int) = .int .i64 ([s, (w64 (n.tmod 544)), (w64 (7824 + (w64 (n.tmod 112))))].length : Int),
          RunsB Try.prog 0 (.loop (sub [1, 1, 0, 1, 0, 0] (fbody Try.f10))) (S_lontarlaw09_VietSplit_L0 s n 0) (.ret) (X_lontarlaw09_VietSplit_L0_1 s n m m_re m_im m1 m_re1 m_im1)]) (by kernel_rfl)
        ⟨(call_lontarlaw09_awake h_q _ _), (not_f hc1), (len_val _ _), hl_l14, trivial⟩
    | x2 v v1 =>
      dsimp only at h
      injection h with h; subst h
      exact Knows.of (C := C10) wf Try.func10 (cs := [.reg 1 [(0, { it := .res (.lit (.bool q)) [] [] })], .b false, .reg 3 [(9, { it := .val (.int .i64 ([s, (w64 (n.tmod 544)), (w64 (7824 + (w64 (n.tmod 112))))].length : Int)) })], .lp (.exit 0) (X_lontarlaw09_VietSplit_L0_2 s n v v1)]) (args := [(.lit (.int .i64 s)), (.lit (.int .u16 n))]) (r := (.lit (.bool true))) (ps := [CallK Try.prog false 30 [] [] (.lit (.bool q)) [],
          (!q) = false,
          Value.int .i64 (↑(List.length (eI .i64 [s, (w64 (n.tmod 544)), (w64 (7824 + (w64 (n.tmod 112))))])) : Int) = .int .i64 ([s, (w64 (n.tmod 544)), (w64 (7824 + (w64 (n.tmod 112))))].length : Int),
          RunsB Try.prog 0 (.loop (sub [1, 1, 0, 1, 0, 0] (fbody Try.f10))) (S_lontarlaw09_VietSplit_L0 s n 0) (.exit 0) (X_lontarlaw09_VietSplit_L0_2 s n v v1)]) (by kernel_rfl)
        ⟨(call_lontarlaw09_awake h_q _ _), (not_f hc1), (len_val _ _), hl_l14, trivial⟩
  · injection h with h; subst h
    exact Knows.of (C := C10) wf Try.func10 (cs := [.reg 1 [(0, { it := .res (.lit (.bool q)) [] [] })], .b true]) (args := [(.lit (.int .i64 s)), (.lit (.int .u16 n))]) (r := (.lit (.bool false))) (ps := [CallK Try.prog false 30 [] [] (.lit (.bool q)) [],
        (!q) = true]) (by kernel_rfl)
      ⟨(call_lontarlaw09_awake h_q _ _), (not_t (Bool.eq_false_iff.2 hc1)), trivial⟩
theorem call_lontarlaw09_VietSplit {s : Int} {n : Int} {r} (h : lontarlaw09_VietSplit s n = some r) (kp : Bool) (σ : List Bx) : CallK Try.prog kp 10 [(.lit (.int .i64 s)), (.lit (.int .u16 n))] σ (.lit (.bool r)) σ :=
  (knows_lontarlaw09_VietSplit s n h).call (and_t rfl (and_t rfl rfl)) rfl kp σ
end Go.Proofs.Ytpbbgkmpjcddbaa
