/- Walks, printed by wip/gen.py. -/
import Derived.Test.YtpbbgkmpjcddbaaMVietJoin
import Derived.Test.YtpbbgkmpjcddbaaYa
set_option linter.all false
namespace Go.Proofs.Ytpbbgkmpjcddbaa
open Go.AM Go.AM.M

def h11 : Nat → Option Hint
| 0 => some { keep := [0, 1, 2, 3, 4] }
| 1 => some { keep := [0, 1, 2, 3, 4, 19] }
| 2 => some { keep := [10] }
| 3 => some { keep := [1, 2, 3, 4, 11] }
| 4 => some { keep := [11, 44, 45, 46] }
| 5 => some { keep := [11, 44, 45, 46, 47] }
| 6 => some { keep := [11, 13, 44, 45, 46] }
| 7 => some { keep := [11, 13, 14, 15, 44, 45, 46] }
| 8 => some { keep := [11, 14, 15, 16, 17, 44, 45, 46] }
| 9 => some { keep := [11, 44, 45, 46, 73] }
| 10 => some { keep := [10] }
| 11 => some { keep := [11, 44, 45, 46] }
| 12 => some { keep := [10] }
| _ => none

noncomputable def C11 : Ctx := { P := Try.prog, mv := fun _ _ => false, res := resOf Try.f11, live := h11, call := fun _ _ _ => none }

def S_lontarlaw09_VietJoin_L0 (base : Int) (mark : Int) (tone : Int) (re : Nat) (im : Nat) (c : Int) (vv : Int) : St :=
  match vv with
  | v => { ts := [(11, (.lit (.int .i64 (w64 c)))), (44, (.sl (.excl 36) false (eC .f64 [((i2f (mark.tmod 6)), (i2f (tone.tmod 7))), (re, (i2f (tone.tmod 7))), ((i2f (mark.tmod 6)), im), (re, im)]))), (45, (.lit (.int .i64 ([((i2f (mark.tmod 6)), (i2f (tone.tmod 7))), (re, (i2f (tone.tmod 7))), ((i2f (mark.tmod 6)), im), (re, im)].length : Int)))), (46, (.lit (.int .i64 v)))], n := 75, σ := [] }

def X_lontarlaw09_VietJoin_L0_0 (base : Int) (mark : Int) (tone : Int) (re : Nat) (im : Nat) (c : Int) : St := { ts := [(10, (.lit (.bool false)))], n := 75, σ := [] }

def X_lontarlaw09_VietJoin_L0_1 (base : Int) (mark : Int) (tone : Int) (re : Nat) (im : Nat) (c : Int) : St := { ts := [(10, (.lit (.bool false)))], n := 75, σ := [] }

def X_lontarlaw09_VietJoin_L0_2 (base : Int) (mark : Int) (tone : Int) (re : Nat) (im : Nat) (c : Int) (v : Int) (v1 : Bool) : St := { ts := [(11, (.lit (.int .i64 (w64 c)))), (44, (.sl (.excl 36) false (eC .f64 [((i2f (mark.tmod 6)), (i2f (tone.tmod 7))), (re, (i2f (tone.tmod 7))), ((i2f (mark.tmod 6)), im), (re, im)]))), (45, (.lit (.int .i64 ([((i2f (mark.tmod 6)), (i2f (tone.tmod 7))), (re, (i2f (tone.tmod 7))), ((i2f (mark.tmod 6)), im), (re, im)].length : Int)))), (46, (.lit (.int .i64 v))), (47, (.lit (.bool v1)))], n := 75, σ := [] }

def E_lontarlaw09_VietJoin_L0 (base : Int) (mark : Int) (tone : Int) (re : Nat) (im : Nat) (c : Int) (vv : lontarlaw09_VietJoin_L0_R) : Exit × St :=
  match vv with
  | .x0 => (.ret, X_lontarlaw09_VietJoin_L0_0 base mark tone re im c)
  | .x1 => (.ret, X_lontarlaw09_VietJoin_L0_1 base mark tone re im c)
  | .x2 v v1 => (.exit 0, X_lontarlaw09_VietJoin_L0_2 base mark tone re im c v v1)

set_option maxRecDepth 100000 in
theorem body_lontarlaw09_VietJoin_L0 (base : Int) (mark : Int) (tone : Int) (re : Nat) (im : Nat) (c : Int) (v : Int) (x) (h : lontarlaw09_VietJoin_L0 mark tone re im c v = some x) : RunsB Try.prog 0 (sub [1, 1, 1, 0, 1, 0, 0] (fbody Try.f11)) (S_lontarlaw09_VietJoin_L0 base mark tone re im c v) (sideX (E_lontarlaw09_VietJoin_L0 base mark tone re im c) x) (sideS (S_lontarlaw09_VietJoin_L0 base mark tone re im c) (E_lontarlaw09_VietJoin_L0 base mark tone re im c) x) := by
  unfold lontarlaw09_VietJoin_L0 at h
  dsimp only at h
  rcases ite_some h with ⟨hc11, h⟩ | ⟨hc11, h⟩
  · obtain ⟨x_, h_x_, h⟩ := Option.bind_eq_some_iff.1 h
    obtain ⟨q1, h_q1, h⟩ := Option.bind_eq_some_iff.1 h
    obtain ⟨q2, h_q2, h⟩ := Option.bind_eq_some_iff.1 h
    rcases ite_some h with ⟨hc12, h⟩ | ⟨hc12, h⟩
    · rcases ite_some h with ⟨hc13, h⟩ | ⟨hc13, h⟩
      · injection h with h; subst h
        exact codeH_sound (C := C11) (base := 0) wf _ (cs := [.b true, .reg 6 [(0, { it := .cs [(.lit (.complex .f64 x_.1 x_.2))] }), (1, { it := .cs [(.lit (.complex .f64 x_.1 x_.2))] })], .reg 7 [(3, { it := .res (.tup [(.lit (.int .i64 q1.1)), (.lit (.bool q1.2))]) [] [] })], .reg 8 [(2, { it := .val (.float .f64 x_.1) }), (4, { it := .val (.float .f64 x_.2) }), (5, { it := .res (.tup [(.lit (.int .i64 q2.1)), (.lit (.bool q2.2))]) [] [] })], .reg 9 [(4, { w := some false }), (5, { w := some false }), (6, { it := .val (.bool (q1.2 != q2.2)), w := some false }), (7, { it := .b false })], .b true]) (cs' := []) (ps := [(decide (v < ([((i2f (mark.tmod 6)), (i2f (tone.tmod 7))), (re, (i2f (tone.tmod 7))), ((i2f (mark.tmod 6)), im), (re, im)].length : Int))) = true,
            nthPV (eC .f64 [((i2f (mark.tmod 6)), (i2f (tone.tmod 7))), (re, (i2f (tone.tmod 7))), ((i2f (mark.tmod 6)), im), (re, im)]) v = some [(.lit (.complex .f64 x_.1 x_.2))],
            (eC .f64 [((i2f (mark.tmod 6)), (i2f (tone.tmod 7))), (re, (i2f (tone.tmod 7))), ((i2f (mark.tmod 6)), im), (re, im)])[v.toNat]? = some [(.lit (.complex .f64 x_.1 x_.2))],
            CallK Try.prog false 34 [(.agg [(.lit (.int .i64 (w64 c))), (.lit (.complex .f64 x_.1 x_.2))])] [] (.tup [(.lit (.int .i64 q1.1)), (.lit (.bool q1.2))]) [],
            det Try.prog (builtin .real #[36] 47 [false].toArray [(.complex .f64 x_.1 x_.2)].toArray) = some (.value (.float .f64 x_.1)),
            det Try.prog (builtin .imag #[36] 47 [false].toArray [(.complex .f64 x_.1 x_.2)].toArray) = some (.value (.float .f64 x_.2)),
            CallK Try.prog false 35 [(.lit (.int .i64 (w64 c))), (.lit (.float .f64 x_.1)), (.lit (.float .f64 x_.2))] [] (.tup [(.lit (.int .i64 q2.1)), (.lit (.bool q2.2))]) [],
            (q1.1 != q2.1) = false,
            (q1.1 != q2.1) = false,
            (q1.1 != q2.1) = false,
            det Try.prog (do eqGuard .neq 4 (.tmp 70) (.tmp 71) (.bool q1.2) (.bool q2.2); binOp .neq 4 (.bool q1.2) (.bool q2.2)) = some (.bool (q1.2 != q2.2)),
            (q1.1 != q2.1) = false,
            (q1.2 != q2.2) = true]) (by kernel_rfl)
          ⟨(decide_eq_true hc11), (nth_map _ h_x_), (nthPV_eq (nth_map _ h_x_)).2, (call_viet_Join h_q1 _ _), rfl, rfl, (call_lontarlaw09_Join h_q2 _ _), (bne_f hc12), (bne_f hc12), (bne_f hc12), (det_bneq Try.underlying4 _ _ _ _), (bne_f hc12), hc13, trivial⟩
      · injection h with h; subst h
        exact codeH_sound (C := C11) (base := 0) wf _ (cs := [.b true, .reg 6 [(0, { it := .cs [(.lit (.complex .f64 x_.1 x_.2))] }), (1, { it := .cs [(.lit (.complex .f64 x_.1 x_.2))] })], .reg 7 [(3, { it := .res (.tup [(.lit (.int .i64 q1.1)), (.lit (.bool q1.2))]) [] [] })], .reg 8 [(2, { it := .val (.float .f64 x_.1) }), (4, { it := .val (.float .f64 x_.2) }), (5, { it := .res (.tup [(.lit (.int .i64 q2.1)), (.lit (.bool q2.2))]) [] [] })], .reg 9 [(4, { w := some false }), (5, { w := some false }), (6, { it := .val (.bool (q1.2 != q2.2)), w := some false }), (7, { it := .b false })], .b false]) (cs' := []) (ps := [(decide (v < ([((i2f (mark.tmod 6)), (i2f (tone.tmod 7))), (re, (i2f (tone.tmod 7))), ((i2f (mark.tmod 6)), im), (re, im)].length : Int))) = true,
            nthPV (eC .f64 [((i2f (mark.tmod 6)), (i2f (tone.tmod 7))), (re, (i2f (tone.tmod 7))), ((i2f (mark.tmod 6)), im), (re, im)]) v = some [(.lit (.complex .f64 x_.1 x_.2))],
            (eC .f64 [((i2f (mark.tmod 6)), (i2f (tone.tmod 7))), (re, (i2f (tone.tmod 7))), ((i2f (mark.tmod 6)), im), (re, im)])[v.toNat]? = some [(.lit (.complex .f64 x_.1 x_.2))],
            CallK Try.prog false 34 [(.agg [(.lit (.int .i64 (w64 c))), (.lit (.complex .f64 x_.1 x_.2))])] [] (.tup [(.lit (.int .i64 q1.1)), (.lit (.bool q1.2))]) [],
            det Try.prog (builtin .real #[36] 47 [false].toArray [(.complex .f64 x_.1 x_.2)].toArray) = some (.value (.float .f64 x_.1)),
            det Try.prog (builtin .imag #[36] 47 [false].toArray [(.complex .f64 x_.1 x_.2)].toArray) = some (.value (.float .f64 x_.2)),
            CallK Try.prog false 35 [(.lit (.int .i64 (w64 c))), (.lit (.float .f64 x_.1)), (.lit (.float .f64 x_.2))] [] (.tup [(.lit (.int .i64 q2.1)), (.lit (.bool q2.2))]) [],
            (q1.1 != q2.1) = false,
            (q1.1 != q2.1) = false,
            (q1.1 != q2.1) = false,
            det Try.prog (do eqGuard .neq 4 (.tmp 70) (.tmp 71) (.bool q1.2) (.bool q2.2); binOp .neq 4 (.bool q1.2) (.bool q2.2)) = some (.bool (q1.2 != q2.2)),
            (q1.1 != q2.1) = false,
            (q1.2 != q2.2) = false]) (by kernel_rfl)
          ⟨(decide_eq_true hc11), (nth_map _ h_x_), (nthPV_eq (nth_map _ h_x_)).2, (call_viet_Join h_q1 _ _), rfl, rfl, (call_lontarlaw09_Join h_q2 _ _), (bne_f hc12), (bne_f hc12), (bne_f hc12), (det_bneq Try.underlying4 _ _ _ _), (bne_f hc12), (Bool.eq_false_iff.2 hc13), trivial⟩
    · injection h with h; subst h
      exact codeH_sound (C := C11) (base := 0) wf _ (cs := [.b true, .reg 6 [(0, { it := .cs [(.lit (.complex .f64 x_.1 x_.2))] }), (1, { it := .cs [(.lit (.complex .f64 x_.1 x_.2))] })], .reg 7 [(3, { it := .res (.tup [(.lit (.int .i64 q1.1)), (.lit (.bool q1.2))]) [] [] })], .reg 8 [(2, { it := .val (.float .f64 x_.1) }), (4, { it := .val (.float .f64 x_.2) }), (5, { it := .res (.tup [(.lit (.int .i64 q2.1)), (.lit (.bool q2.2))]) [] [] })], .reg 9 [(4, { w := some true }), (5, { w := some true }), (6, { w := some true }), (7, { it := .b true })], .b true]) (cs' := []) (ps := [(decide (v < ([((i2f (mark.tmod 6)), (i2f (tone.tmod 7))), (re, (i2f (tone.tmod 7))), ((i2f (mark.tmod 6)), im), (re, im)].length : Int))) = true,
          nthPV (eC .f64 [((i2f (mark.tmod 6)), (i2f (tone.tmod 7))), (re, (i2f (tone.tmod 7))), ((i2f (mark.tmod 6)), im), (re, im)]) v = some [(.lit (.complex .f64 x_.1 x_.2))],
          (eC .f64 [((i2f (mark.tmod 6)), (i2f (tone.tmod 7))), (re, (i2f (tone.tmod 7))), ((i2f (mark.tmod 6)), im), (re, im)])[v.toNat]? = some [(.lit (.complex .f64 x_.1 x_.2))],
          CallK Try.prog false 34 [(.agg [(.lit (.int .i64 (w64 c))), (.lit (.complex .f64 x_.1 x_.2))])] [] (.tup [(.lit (.int .i64 q1.1)), (.lit (.bool q1.2))]) [],
          det Try.prog (builtin .real #[36] 47 [false].toArray [(.complex .f64 x_.1 x_.2)].toArray) = some (.value (.float .f64 x_.1)),
          det Try.prog (builtin .imag #[36] 47 [false].toArray [(.complex .f64 x_.1 x_.2)].toArray) = some (.value (.float .f64 x_.2)),
          CallK Try.prog false 35 [(.lit (.int .i64 (w64 c))), (.lit (.float .f64 x_.1)), (.lit (.float .f64 x_.2))] [] (.tup [(.lit (.int .i64 q2.1)), (.lit (.bool q2.2))]) [],
          (q1.1 != q2.1) = true,
          (q1.1 != q2.1) = true,
          (q1.1 != q2.1) = true,
          (q1.1 != q2.1) = true,
          true = true]) (by kernel_rfl)
        ⟨(decide_eq_true hc11), (nth_map _ h_x_), (nthPV_eq (nth_map _ h_x_)).2, (call_viet_Join h_q1 _ _), rfl, rfl, (call_lontarlaw09_Join h_q2 _ _), (bne_iff_ne.2 hc12), (bne_iff_ne.2 hc12), (bne_iff_ne.2 hc12), (bne_iff_ne.2 hc12), rfl, trivial⟩
  · injection h with h; subst h
    exact codeH_sound (C := C11) (base := 0) wf _ (cs := [.b false]) (cs' := []) (ps := [(decide (v < ([((i2f (mark.tmod 6)), (i2f (tone.tmod 7))), (re, (i2f (tone.tmod 7))), ((i2f (mark.tmod 6)), im), (re, im)].length : Int))) = false]) (by kernel_rfl)
      ⟨(decide_eq_false hc11), trivial⟩

theorem runs_lontarlaw09_VietJoin_L0 (base : Int) (mark : Int) (tone : Int) (re : Nat) (im : Nat) (c : Int) {nn} {vv : Int} {rr} (h : loopM (lontarlaw09_VietJoin_L0 mark tone re im c) nn vv = some rr) : RunsB Try.prog 0 (.loop (sub [1, 1, 1, 0, 1, 0, 0] (fbody Try.f11))) (S_lontarlaw09_VietJoin_L0 base mark tone re im c vv) (E_lontarlaw09_VietJoin_L0 base mark tone re im c rr).1 (E_lontarlaw09_VietJoin_L0 base mark tone re im c rr).2 :=
  loop_runs (by intro r; cases r <;> simp [E_lontarlaw09_VietJoin_L0]) (body_lontarlaw09_VietJoin_L0 base mark tone re im c) nn vv rr h

set_option maxRecDepth 100000 in
theorem knows_lontarlaw09_VietJoin (base : Int) (mark : Int) (tone : Int) (re : Nat) (im : Nat) {r} (h : lontarlaw09_VietJoin base mark tone re im = some r) : Knows Try.prog 11 [(.lit (.int .u8 base)), (.lit (.int .u8 mark)), (.lit (.int .u8 tone)), (.lit (.float .f64 re)), (.lit (.float .f64 im))] (.lit (.bool r)) := by
  unfold lontarlaw09_VietJoin at h
  obtain ⟨q, h_q, h⟩ := Option.bind_eq_some_iff.1 h
  rcases ite_some h with ⟨hc1, h⟩ | ⟨hc1, h⟩
  · obtain ⟨c, h_c, h⟩ := Option.bind_eq_some_iff.1 h
    obtain ⟨l14, hr_l14, h⟩ := Option.bind_eq_some_iff.1 h
    have hl_l14 := runs_lontarlaw09_VietJoin_L0 base mark tone re im c hr_l14
    cases l14 with
    | x0 =>
      dsimp only at h
      injection h with h; subst h
      exact Knows.of (C := C11) wf Try.func11 (cs := [.reg 1 [(0, { it := .res (.lit (.bool q)) [] [] })], .b false, .reg 3 [(2, { it := .pv (.lit (.int .u8 c)) })], .reg 4 [(2, { it := .val (.float .f64 (i2f (mark.tmod 6))) }), (5, { it := .val (.float .f64 (i2f (tone.tmod 7))) }), (6, { it := .val (.complex .f64 (i2f (mark.tmod 6)) (i2f (tone.tmod 7))) }), (10, { it := .val (.float .f64 (i2f (tone.tmod 7))) }), (11, { it := .val (.complex .f64 re (i2f (tone.tmod 7))) }), (14, { it := .val (.float .f64 (i2f (mark.tmod 6))) }), (16, { it := .val (.complex .f64 (i2f (mark.tmod 6)) im) }), (19, { it := .val (.complex .f64 re im) }), (21, { it := .val (.int .i64 ([((i2f (mark.tmod 6)), (i2f (tone.tmod 7))), (re, (i2f (tone.tmod 7))), ((i2f (mark.tmod 6)), im), (re, im)].length : Int)) })], .lp (.ret) (X_lontarlaw09_VietJoin_L0_0 base mark tone re im c)]) (args := [(.lit (.int .u8 base)), (.lit (.int .u8 mark)), (.lit (.int .u8 tone)), (.lit (.float .f64 re)), (.lit (.float .f64 im))]) (r := (.lit (.bool false))) (ps := [CallK Try.prog false 30 [] [] (.lit (.bool q)) [],
          (!q) = false,
          0 ≤ (base.tmod 16),
          ∃ b, (ByteArray.mk #[97, 101, 105, 111, 117, 121, 100, 65, 69, 73, 79, 85, 89, 68, 120, 122])[(base.tmod 16).toNat]? = some b ∧ (PV.lit (.int .u8 c)) = .lit (.int .u8 b.toNat),
          det Try.prog (convert 5 47 (.int .u8 (mark.tmod 6))) = some (.float .f64 (i2f (mark.tmod 6))),
          det Try.prog (convert 5 47 (.int .u8 (tone.tmod 7))) = some (.float .f64 (i2f (tone.tmod 7))),
          det Try.prog (builtin .complex #[47, 47] 36 [false, false].toArray [(.float .f64 (i2f (mark.tmod 6))), (.float .f64 (i2f (tone.tmod 7)))].toArray) = some (.value (.complex .f64 (i2f (mark.tmod 6)) (i2f (tone.tmod 7)))),
          det Try.prog (convert 5 47 (.int .u8 (tone.tmod 7))) = some (.float .f64 (i2f (tone.tmod 7))),
          det Try.prog (builtin .complex #[47, 47] 36 [false, false].toArray [(.float .f64 re), (.float .f64 (i2f (tone.tmod 7)))].toArray) = some (.value (.complex .f64 re (i2f (tone.tmod 7)))),
          det Try.prog (convert 5 47 (.int .u8 (mark.tmod 6))) = some (.float .f64 (i2f (mark.tmod 6))),
          det Try.prog (builtin .complex #[47, 47] 36 [false, false].toArray [(.float .f64 (i2f (mark.tmod 6))), (.float .f64 im)].toArray) = some (.value (.complex .f64 (i2f (mark.tmod 6)) im)),
          det Try.prog (builtin .complex #[47, 47] 36 [false, false].toArray [(.float .f64 re), (.float .f64 im)].toArray) = some (.value (.complex .f64 re im)),
          Value.int .i64 (↑(List.length (eC .f64 [((i2f (mark.tmod 6)), (i2f (tone.tmod 7))), (re, (i2f (tone.tmod 7))), ((i2f (mark.tmod 6)), im), (re, im)])) : Int) = .int .i64 ([((i2f (mark.tmod 6)), (i2f (tone.tmod 7))), (re, (i2f (tone.tmod 7))), ((i2f (mark.tmod 6)), im), (re, im)].length : Int),
          RunsB Try.prog 0 (.loop (sub [1, 1, 1, 0, 1, 0, 0] (fbody Try.f11))) (S_lontarlaw09_VietJoin_L0 base mark tone re im c 0) (.ret) (X_lontarlaw09_VietJoin_L0_0 base mark tone re im c)]) (by kernel_rfl)
        ⟨(call_lontarlaw09_awake h_q _ _), (not_f hc1), (strI_lo h_c), (strI_ex h_c), (det_i2f Try.underlying5 Try.underlying47), (det_i2f Try.underlying5 Try.underlying47), rfl, (det_i2f Try.underlying5 Try.underlying47), rfl, (det_i2f Try.underlying5 Try.underlying47), rfl, rfl, (len_val _ _), hl_l14, trivial⟩
    | x1 =>
      dsimp only at h
      injection h with h; subst h
      exact Knows.of (C := C11) wf Try.func11 (cs := [.reg 1 [(0, { it := .res (.lit (.bool q)) [] [] })], .b false, .reg 3 [(2, { it := .pv (.lit (.int .u8 c)) })], .reg 4 [(2, { it := .val (.float .f64 (i2f (mark.tmod 6))) }), (5, { it := .val (.float .f64 (i2f (tone.tmod 7))) }), (6, { it := .val (.complex .f64 (i2f (mark.tmod 6)) (i2f (tone.tmod 7))) }), (10, { it := .val (.float .f64 (i2f (tone.tmod 7))) }), (11, { it := .val (.complex .f64 re (i2f (tone.tmod 7))) }), (14, { it := .val (.float .f64 (i2f (mark.tmod 6))) }), (16, { it := .val (.complex .f64 (i2f (mark.tmod 6)) im) }), (19, { it := .val (.complex .f64 re im) }), (21, { it := .val (.int .i64 ([((i2f (mark.tmod 6)), (i2f (tone.tmod 7))), (re, (i2f (tone.tmod 7))), ((i2f (mark.tmod 6)), im), (re, im)].length : Int)) })], .lp (.ret) (X_lontarlaw09_VietJoin_L0_1 base mark tone re im c)]) (args := [(.lit (.int .u8 base)), (.lit (.int .u8 mark)), (.lit (.int .u8 tone)), (.lit (.float .f64 re)), (.lit (.float .f64 im))]) (r := (.lit (.bool false))) (ps := [CallK Try.prog false 30 [] [] (.lit (.bool q)) [],
          (!q) = false,
          0 ≤ (base.tmod 16),
          ∃ b, (ByteArray.mk #[97, 101, 105, 111, 117, 121, 100, 65, 69, 73, 79, 85, 89, 68, 120, 122])[(base.tmod 16).toNat]? = some b ∧ (PV.lit (.int .u8 c)) = .lit (.int .u8 b.toNat),
          det Try.prog (convert 5 47 (.int .u8 (mark.tmod 6))) = some (.float .f64 (i2f (mark.tmod 6))),
          det Try.prog (convert 5 47 (.int .u8 (tone.tmod 7))) = some (.float .f64 (i2f (tone.tmod 7))),
          det Try.prog (builtin .complex #[47, 47] 36 [false, false].toArray [(.float .f64 (i2f (mark.tmod 6))), (.float .f64 (i2f (tone.tmod 7)))].toArray) = some (.value (.complex .f64 (i2f (mark.tmod 6)) (i2f (tone.tmod 7)))),
          det Try.prog (convert 5 47 (.int .u8 (tone.tmod 7))) = some (.float .f64 (i2f (tone.tmod 7))),
          det Try.prog (builtin .complex #[47, 47] 36 [false, false].toArray [(.float .f64 re), (.float .f64 (i2f (tone.tmod 7)))].toArray) = some (.value (.complex .f64 re (i2f (tone.tmod 7)))),
          det Try.prog (convert 5 47 (.int .u8 (mark.tmod 6))) = some (.float .f64 (i2f (mark.tmod 6))),
          det Try.prog (builtin .complex #[47, 47] 36 [false, false].toArray [(.float .f64 (i2f (mark.tmod 6))), (.float .f64 im)].toArray) = some (.value (.complex .f64 (i2f (mark.tmod 6)) im)),
          det Try.prog (builtin .complex #[47, 47] 36 [false, false].toArray [(.float .f64 re), (.float .f64 im)].toArray) = some (.value (.complex .f64 re im)),
          Value.int .i64 (↑(List.length (eC .f64 [((i2f (mark.tmod 6)), (i2f (tone.tmod 7))), (re, (i2f (tone.tmod 7))), ((i2f (mark.tmod 6)), im), (re, im)])) : Int) = .int .i64 ([((i2f (mark.tmod 6)), (i2f (tone.tmod 7))), (re, (i2f (tone.tmod 7))), ((i2f (mark.tmod 6)), im), (re, im)].length : Int),
          RunsB Try.prog 0 (.loop (sub [1, 1, 1, 0, 1, 0, 0] (fbody Try.f11))) (S_lontarlaw09_VietJoin_L0 base mark tone re im c 0) (.ret) (X_lontarlaw09_VietJoin_L0_1 base mark tone re im c)]) (by kernel_rfl)
        ⟨(call_lontarlaw09_awake h_q _ _), (not_f hc1), (strI_lo h_c), (strI_ex h_c), (det_i2f Try.underlying5 Try.underlying47), (det_i2f Try.underlying5 Try.underlying47), rfl, (det_i2f Try.underlying5 Try.underlying47), rfl, (det_i2f Try.underlying5 Try.underlying47), rfl, rfl, (len_val _ _), hl_l14, trivial⟩
    | x2 v v1 =>
      dsimp only at h
      injection h with h; subst h
      exact Knows.of (C := C11) wf Try.func11 (cs := [.reg 1 [(0, { it := .res (.lit (.bool q)) [] [] })], .b false, .reg 3 [(2, { it := .pv (.lit (.int .u8 c)) })], .reg 4 [(2, { it := .val (.float .f64 (i2f (mark.tmod 6))) }), (5, { it := .val (.float .f64 (i2f (tone.tmod 7))) }), (6, { it := .val (.complex .f64 (i2f (mark.tmod 6)) (i2f (tone.tmod 7))) }), (10, { it := .val (.float .f64 (i2f (tone.tmod 7))) }), (11, { it := .val (.complex .f64 re (i2f (tone.tmod 7))) }), (14, { it := .val (.float .f64 (i2f (mark.tmod 6))) }), (16, { it := .val (.complex .f64 (i2f (mark.tmod 6)) im) }), (19, { it := .val (.complex .f64 re im) }), (21, { it := .val (.int .i64 ([((i2f (mark.tmod 6)), (i2f (tone.tmod 7))), (re, (i2f (tone.tmod 7))), ((i2f (mark.tmod 6)), im), (re, im)].length : Int)) })], .lp (.exit 0) (X_lontarlaw09_VietJoin_L0_2 base mark tone re im c v v1)]) (args := [(.lit (.int .u8 base)), (.lit (.int .u8 mark)), (.lit (.int .u8 tone)), (.lit (.float .f64 re)), (.lit (.float .f64 im))]) (r := (.lit (.bool true))) (ps := [CallK Try.prog false 30 [] [] (.lit (.bool q)) [],
          (!q) = false,
          0 ≤ (base.tmod 16),
          ∃ b, (ByteArray.mk #[97, 101, 105, 111, 117, 121, 100, 65, 69, 73, 79, 85, 89, 68, 120, 122])[(base.tmod 16).toNat]? = some b ∧ (PV.lit (.int .u8 c)) = .lit (.int .u8 b.toNat),
          det Try.prog (convert 5 47 (.int .u8 (mark.tmod 6))) = some (.float .f64 (i2f (mark.tmod 6))),
          det Try.prog (convert 5 47 (.int .u8 (tone.tmod 7))) = some (.float .f64 (i2f (tone.tmod 7))),
          det Try.prog (builtin .complex #[47, 47] 36 [false, false].toArray [(.float .f64 (i2f (mark.tmod 6))), (.float .f64 (i2f (tone.tmod 7)))].toArray) = some (.value (.complex .f64 (i2f (mark.tmod 6)) (i2f (tone.tmod 7)))),
          det Try.prog (convert 5 47 (.int .u8 (tone.tmod 7))) = some (.float .f64 (i2f (tone.tmod 7))),
          det Try.prog (builtin .complex #[47, 47] 36 [false, false].toArray [(.float .f64 re), (.float .f64 (i2f (tone.tmod 7)))].toArray) = some (.value (.complex .f64 re (i2f (tone.tmod 7)))),
          det Try.prog (convert 5 47 (.int .u8 (mark.tmod 6))) = some (.float .f64 (i2f (mark.tmod 6))),
          det Try.prog (builtin .complex #[47, 47] 36 [false, false].toArray [(.float .f64 (i2f (mark.tmod 6))), (.float .f64 im)].toArray) = some (.value (.complex .f64 (i2f (mark.tmod 6)) im)),
          det Try.prog (builtin .complex #[47, 47] 36 [false, false].toArray [(.float .f64 re), (.float .f64 im)].toArray) = some (.value (.complex .f64 re im)),
          Value.int .i64 (↑(List.length (eC .f64 [((i2f (mark.tmod 6)), (i2f (tone.tmod 7))), (re, (i2f (tone.tmod 7))), ((i2f (mark.tmod 6)), im), (re, im)])) : Int) = .int .i64 ([((i2f (mark.tmod 6)), (i2f (tone.tmod 7))), (re, (i2f (tone.tmod 7))), ((i2f (mark.tmod 6)), im), (re, im)].length : Int),
          RunsB Try.prog 0 (.loop (sub [1, 1, 1, 0, 1, 0, 0] (fbody Try.f11))) (S_lontarlaw09_VietJoin_L0 base mark tone re im c 0) (.exit 0) (X_lontarlaw09_VietJoin_L0_2 base mark tone re im c v v1)]) (by kernel_rfl)
        ⟨(call_lontarlaw09_awake h_q _ _), (not_f hc1), (strI_lo h_c), (strI_ex h_c), (det_i2f Try.underlying5 Try.underlying47), (det_i2f Try.underlying5 Try.underlying47), rfl, (det_i2f Try.underlying5 Try.underlying47), rfl, (det_i2f Try.underlying5 Try.underlying47), rfl, rfl, (len_val _ _), hl_l14, trivial⟩
  · injection h with h; subst h
    exact Knows.of (C := C11) wf Try.func11 (cs := [.reg 1 [(0, { it := .res (.lit (.bool q)) [] [] })], .b true]) (args := [(.lit (.int .u8 base)), (.lit (.int .u8 mark)), (.lit (.int .u8 tone)), (.lit (.float .f64 re)), (.lit (.float .f64 im))]) (r := (.lit (.bool false))) (ps := [CallK Try.prog false 30 [] [] (.lit (.bool q)) [],
        (!q) = true]) (by kernel_rfl)
      ⟨(call_lontarlaw09_awake h_q _ _), (not_t (Bool.eq_false_iff.2 hc1)), trivial⟩
theorem call_lontarlaw09_VietJoin {base : Int} {mark : Int} {tone : Int} {re : Nat} {im : Nat} {r} (h : lontarlaw09_VietJoin base mark tone re im = some r) (kp : Bool) (σ : List Bx) : CallK Try.prog kp 11 [(.lit (.int .u8 base)), (.lit (.int .u8 mark)), (.lit (.int .u8 tone)), (.lit (.float .f64 re)), (.lit (.float .f64 im))] σ (.lit (.bool r)) σ :=
  (knows_lontarlaw09_VietJoin base mark tone re im h).call (and_t rfl (and_t rfl (and_t rfl (and_t rfl (and_t rfl rfl))))) rfl kp σ
end Go.Proofs.Ytpbbgkmpjcddbaa
