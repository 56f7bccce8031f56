/- Walks, printed by wip/gen.py. -/
import Derived.Test.YtpbbgkmpjcddbaaMVietSign
import Derived.Test.YtpbbgkmpjcddbaaYa
set_option linter.all false
namespace Go.Proofs.Ytpbbgkmpjcddbaa
open Go.AM Go.AM.M

def h15 : Nat → Option Hint
| 0 => some { keep := [0, 1] }
| 1 => some { keep := [0, 1, 15] }
| 2 => some { keep := [4] }
| 3 => some { keep := [0, 1, 5, 6] }
| 4 => some { keep := [5, 6, 25, 26, 27] }
| 5 => some { keep := [5, 6, 25, 26, 27, 28] }
| 6 => some { keep := [5, 6, 8, 25, 26, 27] }
| 7 => some { keep := [5, 6, 8, 9, 10, 25, 26, 27] }
| 8 => some { keep := [5, 6, 8, 9, 10, 11, 12, 25, 26, 27] }
| 9 => some { keep := [5, 6, 8, 9, 10, 11, 12, 25, 26, 27, 37, 38] }
| 10 => some { keep := [5, 6, 8, 9, 10, 11, 12, 25, 26, 27, 37, 38, 39] }
| 11 => some { keep := [5, 6, 8, 9, 10, 11, 12, 13, 25, 26, 27, 37, 38] }
| 12 => some { keep := [5, 6, 8, 9, 10, 11, 12, 13, 25, 26, 27, 37, 38, 46] }
| 13 => some { keep := [5, 6, 8, 9, 10, 11, 12, 25, 26, 27, 37, 38] }
| 14 => some { keep := [5, 6, 8, 9, 10, 11, 12, 25, 26, 27, 37, 38] }
| 15 => some { keep := [5, 6, 25, 26, 27, 59] }
| 16 => some { keep := [4] }
| 17 => some { keep := [5, 6, 25, 26, 27] }
| 18 => some { keep := [4] }
| _ => none

noncomputable def C15 : Ctx := { P := Try.prog, mv := fun _ _ => false, res := resOf Try.f15, live := h15, call := fun _ _ _ => none }

def S_lontarlaw09_VietSign_L1 (s : Int) (n : Int) (q1 : ((List Int) × (List (Nat × Nat)))) (v : Int) (x_ : Int) (q2 : ((Nat × Nat) × Bool)) (vv : Nat × Nat × Bool × Int) : St :=
  match vv with
  | (want_re, want_im, is, v1) => { ts := [(5, (.sl .view false (eI .i64 q1.1))), (6, (.sl .view false (eC .f64 q1.2))), (8, (.lit (.int .i64 x_))), (9, (.lit (.complex .f64 q2.1.1 q2.1.2))), (10, (.lit (.bool q2.2))), (11, (.lit (.complex .f64 want_re want_im))), (12, (.lit (.bool is))), (25, (.sl (.excl 3) false (eI .i64 [s, (w64 (768 + (w64 (n.tmod 48))))]))), (26, (.lit (.int .i64 ([s, (w64 (768 + (w64 (n.tmod 48))))].length : Int)))), (27, (.lit (.int .i64 v))), (37, (.lit (.int .i64 (q1.1.length : Int)))), (38, (.lit (.int .i64 v1)))], n := 61, σ := [] }

def X_lontarlaw09_VietSign_L1_0 (s : Int) (n : Int) (q1 : ((List Int) × (List (Nat × Nat)))) (v : Int) (x_ : Int) (q2 : ((Nat × Nat) × Bool)) (want_re : Nat) (want_im : Nat) (is : Bool) (v1 : Int) (v2 : Bool) : St := { ts := [(5, (.sl .view false (eI .i64 q1.1))), (6, (.sl .view false (eC .f64 q1.2))), (8, (.lit (.int .i64 x_))), (9, (.lit (.complex .f64 q2.1.1 q2.1.2))), (10, (.lit (.bool q2.2))), (11, (.lit (.complex .f64 want_re want_im))), (12, (.lit (.bool is))), (25, (.sl (.excl 3) false (eI .i64 [s, (w64 (768 + (w64 (n.tmod 48))))]))), (26, (.lit (.int .i64 ([s, (w64 (768 + (w64 (n.tmod 48))))].length : Int)))), (27, (.lit (.int .i64 v))), (37, (.lit (.int .i64 (q1.1.length : Int)))), (38, (.lit (.int .i64 v1))), (39, (.lit (.bool v2)))], n := 61, σ := [] }

def E_lontarlaw09_VietSign_L1 (s : Int) (n : Int) (q1 : ((List Int) × (List (Nat × Nat)))) (v : Int) (x_ : Int) (q2 : ((Nat × Nat) × Bool)) (vv : Nat × Nat × Bool × Int × Bool) : Exit × St :=
  match vv with
  | (want_re, want_im, is, v1, v2) => (.exit 2, X_lontarlaw09_VietSign_L1_0 s n q1 v x_ q2 want_re want_im is v1 v2)

set_option maxRecDepth 100000 in
theorem body_lontarlaw09_VietSign_L1 (s : Int) (n : Int) (q1 : ((List Int) × (List (Nat × Nat)))) (v : Int) (x_ : Int) (q2 : ((Nat × Nat) × Bool)) (vv : Nat × Nat × Bool × Int) (x) (h : lontarlaw09_VietSign_L1 q1 x_ vv = some x) : RunsB Try.prog 0 (sub [1, 1, 1, 0, 1, 0, 0, 1, 1, 0, 0, 1, 1, 1, 0, 1, 0, 0] (fbody Try.f15)) (S_lontarlaw09_VietSign_L1 s n q1 v x_ q2 vv) (sideX (E_lontarlaw09_VietSign_L1 s n q1 v x_ q2) x) (sideS (S_lontarlaw09_VietSign_L1 s n q1 v x_ q2) (E_lontarlaw09_VietSign_L1 s n q1 v x_ q2) x) := by
  obtain ⟨want_re, want_im, is, v1⟩ := vv
  unfold lontarlaw09_VietSign_L1 at h
  dsimp only at h
  rcases ite_some h with ⟨hc45, h⟩ | ⟨hc45, h⟩
  · obtain ⟨x_1, h_x_1, h⟩ := Option.bind_eq_some_iff.1 h
    rcases ite_some h with ⟨hc46, h⟩ | ⟨hc46, h⟩
    · obtain ⟨x_2, h_x_2, h⟩ := Option.bind_eq_some_iff.1 h
      injection h with h; subst h
      exact codeH_sound (C := C15) (base := 0) wf _ (cs := [.b true, .reg 12 [(2, { it := .cs [(.lit (.int .i64 x_1))] })], .b true, .reg 13 [(2, { it := .cs [(.lit (.complex .f64 x_2.1 x_2.2))] })]]) (cs' := []) (ps := [(decide (v1 < (q1.1.length : Int))) = true,
          nthPV (eI .i64 q1.1) v1 = some [(.lit (.int .i64 x_1))],
          (x_1 == x_) = true,
          nthPV (eC .f64 q1.2) v1 = some [(.lit (.complex .f64 x_2.1 x_2.2))]]) (by kernel_rfl)
        ⟨(decide_eq_true hc45), (nth_map _ h_x_1), (beq_iff_eq.2 hc46), (nth_map _ h_x_2), trivial⟩
    · injection h with h; subst h
      exact codeH_sound (C := C15) (base := 0) wf _ (cs := [.b true, .reg 12 [(2, { it := .cs [(.lit (.int .i64 x_1))] })], .b false]) (cs' := []) (ps := [(decide (v1 < (q1.1.length : Int))) = true,
          nthPV (eI .i64 q1.1) v1 = some [(.lit (.int .i64 x_1))],
          (x_1 == x_) = false]) (by kernel_rfl)
        ⟨(decide_eq_true hc45), (nth_map _ h_x_1), (beq_eq_false_iff_ne.2 hc46), trivial⟩
  · injection h with h; subst h
    exact codeH_sound (C := C15) (base := 0) wf _ (cs := [.b false]) (cs' := []) (ps := [(decide (v1 < (q1.1.length : Int))) = false]) (by kernel_rfl)
      ⟨(decide_eq_false hc45), trivial⟩

theorem runs_lontarlaw09_VietSign_L1 (s : Int) (n : Int) (q1 : ((List Int) × (List (Nat × Nat)))) (v : Int) (x_ : Int) (q2 : ((Nat × Nat) × Bool)) {nn} {vv : Nat × Nat × Bool × Int} {rr} (h : loopM (lontarlaw09_VietSign_L1 q1 x_) nn vv = some rr) : RunsB Try.prog 0 (.loop (sub [1, 1, 1, 0, 1, 0, 0, 1, 1, 0, 0, 1, 1, 1, 0, 1, 0, 0] (fbody Try.f15))) (S_lontarlaw09_VietSign_L1 s n q1 v x_ q2 vv) (E_lontarlaw09_VietSign_L1 s n q1 v x_ q2 rr).1 (E_lontarlaw09_VietSign_L1 s n q1 v x_ q2 rr).2 :=
  loop_runs (by intro r; simp [E_lontarlaw09_VietSign_L1]) (body_lontarlaw09_VietSign_L1 s n q1 v x_ q2) nn vv rr h

def S_lontarlaw09_VietSign_L0 (s : Int) (n : Int) (q1 : ((List Int) × (List (Nat × Nat)))) (vv : Int) : St :=
  match vv with
  | v => { ts := [(5, (.sl .view false (eI .i64 q1.1))), (6, (.sl .view false (eC .f64 q1.2))), (25, (.sl (.excl 3) false (eI .i64 [s, (w64 (768 + (w64 (n.tmod 48))))]))), (26, (.lit (.int .i64 ([s, (w64 (768 + (w64 (n.tmod 48))))].length : Int)))), (27, (.lit (.int .i64 v)))], n := 61, σ := [] }

def X_lontarlaw09_VietSign_L0_0 (s : Int) (n : Int) (q1 : ((List Int) × (List (Nat × Nat)))) : St := { ts := [(4, (.lit (.bool false)))], n := 61, σ := [] }

def X_lontarlaw09_VietSign_L0_1 (s : Int) (n : Int) (q1 : ((List Int) × (List (Nat × Nat)))) : St := { ts := [(4, (.lit (.bool false)))], n := 61, σ := [] }

def X_lontarlaw09_VietSign_L0_2 (s : Int) (n : Int) (q1 : ((List Int) × (List (Nat × Nat)))) (v : Int) (v1 : Bool) : St := { ts := [(5, (.sl .view false (eI .i64 q1.1))), (6, (.sl .view false (eC .f64 q1.2))), (25, (.sl (.excl 3) false (eI .i64 [s, (w64 (768 + (w64 (n.tmod 48))))]))), (26, (.lit (.int .i64 ([s, (w64 (768 + (w64 (n.tmod 48))))].length : Int)))), (27, (.lit (.int .i64 v))), (28, (.lit (.bool v1)))], n := 61, σ := [] }

def E_lontarlaw09_VietSign_L0 (s : Int) (n : Int) (q1 : ((List Int) × (List (Nat × Nat)))) (vv : lontarlaw09_VietSign_L0_R) : Exit × St :=
  match vv with
  | .x0 => (.ret, X_lontarlaw09_VietSign_L0_0 s n q1)
  | .x1 => (.ret, X_lontarlaw09_VietSign_L0_1 s n q1)
  | .x2 v v1 => (.exit 0, X_lontarlaw09_VietSign_L0_2 s n q1 v v1)

set_option maxRecDepth 100000 in
theorem body_lontarlaw09_VietSign_L0 (s : Int) (n : Int) (q1 : ((List Int) × (List (Nat × Nat)))) (v : Int) (x) (h : lontarlaw09_VietSign_L0 s n q1 v = some x) : RunsB Try.prog 0 (sub [1, 1, 1, 0, 1, 0, 0] (fbody Try.f15)) (S_lontarlaw09_VietSign_L0 s n q1 v) (sideX (E_lontarlaw09_VietSign_L0 s n q1) x) (sideS (S_lontarlaw09_VietSign_L0 s n q1) (E_lontarlaw09_VietSign_L0 s n q1) x) := by
  unfold lontarlaw09_VietSign_L0 at h
  dsimp only at h
  rcases ite_some h with ⟨hc38, h⟩ | ⟨hc38, h⟩
  · obtain ⟨x_, h_x_, h⟩ := Option.bind_eq_some_iff.1 h
    obtain ⟨q2, h_q2, h⟩ := Option.bind_eq_some_iff.1 h
    obtain ⟨l47, hr_l47, h⟩ := Option.bind_eq_some_iff.1 h
    have hl_l47 := runs_lontarlaw09_VietSign_L1 s n q1 v x_ q2 hr_l47
    obtain ⟨want_re, want_im, is, v1, v2⟩ := l47
    dsimp only at h
    rcases ite_some h with ⟨hc48, h⟩ | ⟨hc48, h⟩
    · rcases ite_some h with ⟨hc49, h⟩ | ⟨hc49, h⟩
      · injection h with h; subst h
        exact codeH_sound (C := C15) (base := 0) wf _ (cs := [.b true, .reg 6 [(0, { it := .cs [(.lit (.int .i64 x_))] }), (1, { it := .cs [(.lit (.int .i64 x_))] })], .reg 7 [(1, { it := .res (.tup [(.lit (.complex .f64 q2.1.1 q2.1.2)), (.lit (.bool q2.2))]) [] [] })], .reg 9 [(1, { it := .val (.int .i64 (q1.1.length : Int)) })], .lp (.exit 2) (X_lontarlaw09_VietSign_L1_0 s n q1 v x_ q2 want_re want_im is v1 v2), .reg 15 [(2, { it := .val (.bool (!(ceq q2.1.1 q2.1.2 want_re want_im))) }), (4, { w := some false }), (5, { w := some false }), (6, { it := .val (.bool (q2.2 != is)), w := some false }), (7, { it := .b false })], .b true]) (cs' := []) (ps := [(decide (v < ([s, (w64 (768 + (w64 (n.tmod 48))))].length : Int))) = true,
            nthPV (eI .i64 [s, (w64 (768 + (w64 (n.tmod 48))))]) v = some [(.lit (.int .i64 x_))],
            (eI .i64 [s, (w64 (768 + (w64 (n.tmod 48))))])[v.toNat]? = some [(.lit (.int .i64 x_))],
            CallK Try.prog false 39 [(.lit (.int .i64 x_))] [] (.tup [(.lit (.complex .f64 q2.1.1 q2.1.2)), (.lit (.bool q2.2))]) [],
            Value.int .i64 (↑(List.length (eI .i64 q1.1)) : Int) = .int .i64 (q1.1.length : Int),
            RunsB Try.prog 0 (.loop (sub [1, 1, 1, 0, 1, 0, 0, 1, 1, 0, 0, 1, 1, 1, 0, 1, 0, 0] (fbody Try.f15))) (S_lontarlaw09_VietSign_L1 s n q1 v x_ q2 (0, 0, false, 0)) (.exit 2) (X_lontarlaw09_VietSign_L1_0 s n q1 v x_ q2 want_re want_im is v1 v2),
            det Try.prog (do eqGuard .neq 36 (.tmp 52) (.tmp 53) (.complex .f64 q2.1.1 q2.1.2) (.complex .f64 want_re want_im); binOp .neq 36 (.complex .f64 q2.1.1 q2.1.2) (.complex .f64 want_re want_im)) = some (.bool (!(ceq q2.1.1 q2.1.2 want_re want_im))),
            (!(ceq q2.1.1 q2.1.2 want_re want_im)) = false,
            (!(ceq q2.1.1 q2.1.2 want_re want_im)) = false,
            (!(ceq q2.1.1 q2.1.2 want_re want_im)) = false,
            det Try.prog (do eqGuard .neq 4 (.tmp 56) (.tmp 57) (.bool q2.2) (.bool is); binOp .neq 4 (.bool q2.2) (.bool is)) = some (.bool (q2.2 != is)),
            (!(ceq q2.1.1 q2.1.2 want_re want_im)) = false,
            (q2.2 != is) = true]) (by kernel_rfl)
          ⟨(decide_eq_true hc38), (nth_map _ h_x_), (nthPV_eq (nth_map _ h_x_)).2, (call_viet_Sign h_q2 _ _), (len_val _ _), hl_l47, (det_cneq _ _ _ _ _ _ _ _), (not_f hc48), (not_f hc48), (not_f hc48), (det_bneq Try.underlying4 _ _ _ _), (not_f hc48), hc49, trivial⟩
      · injection h with h; subst h
        exact codeH_sound (C := C15) (base := 0) wf _ (cs := [.b true, .reg 6 [(0, { it := .cs [(.lit (.int .i64 x_))] }), (1, { it := .cs [(.lit (.int .i64 x_))] })], .reg 7 [(1, { it := .res (.tup [(.lit (.complex .f64 q2.1.1 q2.1.2)), (.lit (.bool q2.2))]) [] [] })], .reg 9 [(1, { it := .val (.int .i64 (q1.1.length : Int)) })], .lp (.exit 2) (X_lontarlaw09_VietSign_L1_0 s n q1 v x_ q2 want_re want_im is v1 v2), .reg 15 [(2, { it := .val (.bool (!(ceq q2.1.1 q2.1.2 want_re want_im))) }), (4, { w := some false }), (5, { w := some false }), (6, { it := .val (.bool (q2.2 != is)), w := some false }), (7, { it := .b false })], .b false]) (cs' := []) (ps := [(decide (v < ([s, (w64 (768 + (w64 (n.tmod 48))))].length : Int))) = true,
            nthPV (eI .i64 [s, (w64 (768 + (w64 (n.tmod 48))))]) v = some [(.lit (.int .i64 x_))],
            (eI .i64 [s, (w64 (768 + (w64 (n.tmod 48))))])[v.toNat]? = some [(.lit (.int .i64 x_))],
            CallK Try.prog false 39 [(.lit (.int .i64 x_))] [] (.tup [(.lit (.complex .f64 q2.1.1 q2.1.2)), (.lit (.bool q2.2))]) [],
            Value.int .i64 (↑(List.length (eI .i64 q1.1)) : Int) = .int .i64 (q1.1.length : Int),
            RunsB Try.prog 0 (.loop (sub [1, 1, 1, 0, 1, 0, 0, 1, 1, 0, 0, 1, 1, 1, 0, 1, 0, 0] (fbody Try.f15))) (S_lontarlaw09_VietSign_L1 s n q1 v x_ q2 (0, 0, false, 0)) (.exit 2) (X_lontarlaw09_VietSign_L1_0 s n q1 v x_ q2 want_re want_im is v1 v2),
            det Try.prog (do eqGuard .neq 36 (.tmp 52) (.tmp 53) (.complex .f64 q2.1.1 q2.1.2) (.complex .f64 want_re want_im); binOp .neq 36 (.complex .f64 q2.1.1 q2.1.2) (.complex .f64 want_re want_im)) = some (.bool (!(ceq q2.1.1 q2.1.2 want_re want_im))),
            (!(ceq q2.1.1 q2.1.2 want_re want_im)) = false,
            (!(ceq q2.1.1 q2.1.2 want_re want_im)) = false,
            (!(ceq q2.1.1 q2.1.2 want_re want_im)) = false,
            det Try.prog (do eqGuard .neq 4 (.tmp 56) (.tmp 57) (.bool q2.2) (.bool is); binOp .neq 4 (.bool q2.2) (.bool is)) = some (.bool (q2.2 != is)),
            (!(ceq q2.1.1 q2.1.2 want_re want_im)) = false,
            (q2.2 != is) = false]) (by kernel_rfl)
          ⟨(decide_eq_true hc38), (nth_map _ h_x_), (nthPV_eq (nth_map _ h_x_)).2, (call_viet_Sign h_q2 _ _), (len_val _ _), hl_l47, (det_cneq _ _ _ _ _ _ _ _), (not_f hc48), (not_f hc48), (not_f hc48), (det_bneq Try.underlying4 _ _ _ _), (not_f hc48), (Bool.eq_false_iff.2 hc49), trivial⟩
    · injection h with h; subst h
      exact codeH_sound (C := C15) (base := 0) wf _ (cs := [.b true, .reg 6 [(0, { it := .cs [(.lit (.int .i64 x_))] }), (1, { it := .cs [(.lit (.int .i64 x_))] })], .reg 7 [(1, { it := .res (.tup [(.lit (.complex .f64 q2.1.1 q2.1.2)), (.lit (.bool q2.2))]) [] [] })], .reg 9 [(1, { it := .val (.int .i64 (q1.1.length : Int)) })], .lp (.exit 2) (X_lontarlaw09_VietSign_L1_0 s n q1 v x_ q2 want_re want_im is v1 v2), .reg 15 [(2, { it := .val (.bool (!(ceq q2.1.1 q2.1.2 want_re want_im))) }), (4, { w := some true }), (5, { w := some true }), (6, { w := some true }), (7, { it := .b true })], .b true]) (cs' := []) (ps := [(decide (v < ([s, (w64 (768 + (w64 (n.tmod 48))))].length : Int))) = true,
          nthPV (eI .i64 [s, (w64 (768 + (w64 (n.tmod 48))))]) v = some [(.lit (.int .i64 x_))],
          (eI .i64 [s, (w64 (768 + (w64 (n.tmod 48))))])[v.toNat]? = some [(.lit (.int .i64 x_))],
          CallK Try.prog false 39 [(.lit (.int .i64 x_))] [] (.tup [(.lit (.complex .f64 q2.1.1 q2.1.2)), (.lit (.bool q2.2))]) [],
          Value.int .i64 (↑(List.length (eI .i64 q1.1)) : Int) = .int .i64 (q1.1.length : Int),
          RunsB Try.prog 0 (.loop (sub [1, 1, 1, 0, 1, 0, 0, 1, 1, 0, 0, 1, 1, 1, 0, 1, 0, 0] (fbody Try.f15))) (S_lontarlaw09_VietSign_L1 s n q1 v x_ q2 (0, 0, false, 0)) (.exit 2) (X_lontarlaw09_VietSign_L1_0 s n q1 v x_ q2 want_re want_im is v1 v2),
          det Try.prog (do eqGuard .neq 36 (.tmp 52) (.tmp 53) (.complex .f64 q2.1.1 q2.1.2) (.complex .f64 want_re want_im); binOp .neq 36 (.complex .f64 q2.1.1 q2.1.2) (.complex .f64 want_re want_im)) = some (.bool (!(ceq q2.1.1 q2.1.2 want_re want_im))),
          (!(ceq q2.1.1 q2.1.2 want_re want_im)) = true,
          (!(ceq q2.1.1 q2.1.2 want_re want_im)) = true,
          (!(ceq q2.1.1 q2.1.2 want_re want_im)) = true,
          (!(ceq q2.1.1 q2.1.2 want_re want_im)) = true,
          true = true]) (by kernel_rfl)
        ⟨(decide_eq_true hc38), (nth_map _ h_x_), (nthPV_eq (nth_map _ h_x_)).2, (call_viet_Sign h_q2 _ _), (len_val _ _), hl_l47, (det_cneq _ _ _ _ _ _ _ _), (not_t (Bool.eq_false_iff.2 hc48)), (not_t (Bool.eq_false_iff.2 hc48)), (not_t (Bool.eq_false_iff.2 hc48)), (not_t (Bool.eq_false_iff.2 hc48)), rfl, trivial⟩
  · injection h with h; subst h
    exact codeH_sound (C := C15) (base := 0) wf _ (cs := [.b false]) (cs' := []) (ps := [(decide (v < ([s, (w64 (768 + (w64 (n.tmod 48))))].length : Int))) = false]) (by kernel_rfl)
      ⟨(decide_eq_false hc38), trivial⟩

theorem runs_lontarlaw09_VietSign_L0 (s : Int) (n : Int) (q1 : ((List Int) × (List (Nat × Nat)))) {nn} {vv : Int} {rr} (h : loopM (lontarlaw09_VietSign_L0 s n q1) nn vv = some rr) : RunsB Try.prog 0 (.loop (sub [1, 1, 1, 0, 1, 0, 0] (fbody Try.f15))) (S_lontarlaw09_VietSign_L0 s n q1 vv) (E_lontarlaw09_VietSign_L0 s n q1 rr).1 (E_lontarlaw09_VietSign_L0 s n q1 rr).2 :=
  loop_runs (by intro r; cases r <;> simp [E_lontarlaw09_VietSign_L0]) (body_lontarlaw09_VietSign_L0 s n q1) nn vv rr h

set_option maxRecDepth 100000 in
theorem knows_lontarlaw09_VietSign (s : Int) (n : Int) {r} (h : lontarlaw09_VietSign s n = some r) : Knows Try.prog 15 [(.lit (.int .i64 s)), (.lit (.int .u8 n))] (.lit (.bool r)) := by
  unfold lontarlaw09_VietSign at h
  obtain ⟨q, h_q, h⟩ := Option.bind_eq_some_iff.1 h
  rcases ite_some h with ⟨hc1, h⟩ | ⟨hc1, h⟩
  · obtain ⟨q1, h_q1, h⟩ := Option.bind_eq_some_iff.1 h
    obtain ⟨l50, hr_l50, h⟩ := Option.bind_eq_some_iff.1 h
    have hl_l50 := runs_lontarlaw09_VietSign_L0 s n q1 hr_l50
    cases l50 with
    | x0 =>
      dsimp only at h
      injection h with h; subst h
      exact Knows.of (C := C15) wf Try.func15 (cs := [.reg 1 [(0, { it := .res (.lit (.bool q)) [] [] })], .b false, .reg 3 [(0, { it := .res (.tup [(.sl .view false (eI .i64 q1.1)), (.sl .view false (eC .f64 q1.2))]) [] [] })], .reg 4 [(6, { it := .val (.int .i64 ([s, (w64 (768 + (w64 (n.tmod 48))))].length : Int)) })], .lp (.ret) (X_lontarlaw09_VietSign_L0_0 s n q1)]) (args := [(.lit (.int .i64 s)), (.lit (.int .u8 n))]) (r := (.lit (.bool false))) (ps := [CallK Try.prog false 30 [] [] (.lit (.bool q)) [],
          (!q) = false,
          CallK Try.prog false 36 [] [] (.tup [(.sl .view false (eI .i64 q1.1)), (.sl .view false (eC .f64 q1.2))]) [],
          Value.int .i64 (↑(List.length (eI .i64 [s, (w64 (768 + (w64 (n.tmod 48))))])) : Int) = .int .i64 ([s, (w64 (768 + (w64 (n.tmod 48))))].length : Int),
          RunsB Try.prog 0 (.loop (sub [1, 1, 1, 0, 1, 0, 0] (fbody Try.f15))) (S_lontarlaw09_VietSign_L0 s n q1 0) (.ret) (X_lontarlaw09_VietSign_L0_0 s n q1)]) (by kernel_rfl)
        ⟨(call_lontarlaw09_awake h_q _ _), (not_f hc1), (call_lontarlaw09_Marks h_q1 _ _), (len_val _ _), hl_l50, trivial⟩
    | x1 =>
      dsimp only at h
      injection h with h; subst h
      exact Knows.of (C := C15) wf Try.func15 (cs := [.reg 1 [(0, { it := .res (.lit (.bool q)) [] [] })], .b false, .reg 3 [(0, { it := .res (.tup [(.sl .view false (eI .i64 q1.1)), (.sl .view false (eC .f64 q1.2))]) [] [] })], .reg 4 [(6, { it := .val (.int .i64 ([s, (w64 (768 + (w64 (n.tmod 48))))].length : Int)) })], .lp (.ret) (X_lontarlaw09_VietSign_L0_1 s n q1)]) (args := [(.lit (.int .i64 s)), (.lit (.int .u8 n))]) (r := (.lit (.bool false))) (ps := [CallK Try.prog false 30 [] [] (.lit (.bool q)) [],
          (!q) = false,
          CallK Try.prog false 36 [] [] (.tup [(.sl .view false (eI .i64 q1.1)), (.sl .view false (eC .f64 q1.2))]) [],
          Value.int .i64 (↑(List.length (eI .i64 [s, (w64 (768 + (w64 (n.tmod 48))))])) : Int) = .int .i64 ([s, (w64 (768 + (w64 (n.tmod 48))))].length : Int),
          RunsB Try.prog 0 (.loop (sub [1, 1, 1, 0, 1, 0, 0] (fbody Try.f15))) (S_lontarlaw09_VietSign_L0 s n q1 0) (.ret) (X_lontarlaw09_VietSign_L0_1 s n q1)]) (by kernel_rfl)
        ⟨(call_lontarlaw09_awake h_q _ _), (not_f hc1), (call_lontarlaw09_Marks h_q1 _ _), (len_val _ _), hl_l50, trivial⟩
    | x2 v v1 =>
      dsimp only at h
      injection h with h; subst h
      exact Knows.of (C := C15) wf Try.func15 (cs := [.reg 1 [(0, { it := .res (.lit (.bool q)) [] [] })], .b false, .reg 3 [(0, { it := .res (.tup [(.sl .view false (eI .i64 q1.1)), (.sl .view false (eC .f64 q1.2))]) [] [] })], .reg 4 [(6, { it := .val (.int .i64 ([s, (w64 (768 + (w64 (n.tmod 48))))].length : Int)) })], .lp (.exit 0) (X_lontarlaw09_VietSign_L0_2 s n q1 v v1)]) (args := [(.lit (.int .i64 s)), (.lit (.int .u8 n))]) (r := (.lit (.bool true))) (ps := [CallK Try.prog false 30 [] [] (.lit (.bool q)) [],
          (!q) = false,
          CallK Try.prog false 36 [] [] (.tup [(.sl .view false (eI .i64 q1.1)), (.sl .view false (eC .f64 q1.2))]) [],
          Value.int .i64 (↑(List.length (eI .i64 [s, (w64 (768 + (w64 (n.tmod 48))))])) : Int) = .int .i64 ([s, (w64 (768 + (w64 (n.tmod 48))))].length : Int),
          RunsB Try.prog 0 (.loop (sub [1, 1, 1, 0, 1, 0, 0] (fbody Try.f15))) (S_lontarlaw09_VietSign_L0 s n q1 0) (.exit 0) (X_lontarlaw09_VietSign_L0_2 s n q1 v v1)]) (by kernel_rfl)
        ⟨(call_lontarlaw09_awake h_q _ _), (not_f hc1), (call_lontarlaw09_Marks h_q1 _ _), (len_val _ _), hl_l50, trivial⟩
  · injection h with h; subst h
    exact Knows.of (C := C15) wf Try.func15 (cs := [.reg 1 [(0, { it := .res (.lit (.bool q)) [] [] })], .b true]) (args := [(.lit (.int .i64 s)), (.lit (.int .u8 n))]) (r := (.lit (.bool false))) (ps := [CallK Try.prog false 30 [] [] (.lit (.bool q)) [],
        (!q) = true]) (by kernel_rfl)
      ⟨(call_lontarlaw09_awake h_q _ _), (not_t (Bool.eq_false_iff.2 hc1)), trivial⟩
theorem call_lontarlaw09_VietSign {s : Int} {n : Int} {r} (h : lontarlaw09_VietSign s n = some r) (kp : Bool) (σ : List Bx) : CallK Try.prog kp 15 [(.lit (.int .i64 s)), (.lit (.int .u8 n))] σ (.lit (.bool r)) σ :=
  (knows_lontarlaw09_VietSign s n h).call (and_t rfl (and_t rfl rfl)) rfl kp σ
end Go.Proofs.Ytpbbgkmpjcddbaa
