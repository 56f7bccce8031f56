/- Walks, printed by wip/gen.py. -/
import Derived.Test.YtpbbgkmpjcddbaaMVietAll
import Derived.Test.YtpbbgkmpjcddbaaYa
set_option linter.all false
namespace Go.Proofs.Ytpbbgkmpjcddbaa
open Go.AM Go.AM.M

def h9 : Nat → Option Hint
| 0 => some { keep := [0] }
| 1 => some { keep := [0, 9] }
| 2 => some { keep := [2] }
| 3 => some { keep := [0, 3, 4] }
| 4 => some { keep := [0, 3, 4, 21] }
| 5 => some { keep := [2] }
| 6 => some { keep := [0, 3, 4, 5, 6, 7] }
| 7 => some { keep := [2] }
| _ => none

noncomputable def C9 : Ctx := { P := Try.prog, mv := fun _ _ => false, res := resOf Try.f9, live := h9, call := fun _ _ _ => none }

set_option maxRecDepth 100000 in
theorem knows_lontarlaw09_VietAll (n : Int) {r} (h : lontarlaw09_VietAll n = some r) : Knows Try.prog 9 [(.lit (.int .u8 n))] (.lit (.bool r)) := by
  unfold lontarlaw09_VietAll at h
  obtain ⟨q, h_q, h⟩ := Option.bind_eq_some_iff.1 h
  rcases ite_some h with ⟨hc1, h⟩ | ⟨hc1, h⟩
  · obtain ⟨q1, h_q1, h⟩ := Option.bind_eq_some_iff.1 h
    rcases ite_some h with ⟨hc2, h⟩ | ⟨hc2, h⟩
    · rcases ite_some h with ⟨hc3, h⟩ | ⟨hc3, h⟩
      · obtain ⟨q2, h_q2, h⟩ := Option.bind_eq_some_iff.1 h
        rcases ite_some h with ⟨hc8, h⟩ | ⟨hc8, h⟩
        · obtain ⟨x_, h_x_, h⟩ := Option.bind_eq_some_iff.1 h
          rcases ite_some h with ⟨hc9, h⟩ | ⟨hc9, h⟩
          · obtain ⟨x_1, h_x_1, h⟩ := Option.bind_eq_some_iff.1 h
            injection h with h; subst h
            exact Knows.of (C := C9) wf Try.func9 (cs := [.reg 1 [(0, { it := .res (.lit (.bool q)) [] [] })], .b false, .reg 3 [(0, { it := .res (.tup [(.sl .view false (List.map GVietLetter.c q1.1)), (.sl .view false (eI .i64 q1.2))]) [] [] })], .reg 4 [(1, { it := .val (.int .i64 (q1.1.length : Int)) }), (4, { w := some false }), (5, { it := .val (.int .i64 (q1.2.length : Int)), w := some false }), (6, { w := some false }), (7, { it := .b false })], .b false, .reg 6 [(2, { it := .res (.tup [(.agg [(.lit (.int .i64 q2.1.base)), (.lit (.complex .f64 q2.1.sign.1 q2.1.sign.2))]), (.lit (.int .i64 q2.2.1)), (.lit (.bool q2.2.2))]) [] [] })], .dr { frz := [0], lin := [3, 4, 5, 6, 7], fz := [0, 31, 38], steps := [⟨[7, 29], false, {}⟩, ⟨[29, 30], false, {}⟩, ⟨[30, 31], false, {}⟩, ⟨[3, 31, 32], false, { w := some false }⟩, ⟨[0, 31, 33], false, { w := some false }⟩, ⟨[31, 32, 33, 34], false, { it := .cs (GVietLetter.c x_), w := some false }⟩, ⟨[31, 34, 35], false, { w := some false }⟩, ⟨[5, 31, 36], false, { w := some false }⟩, ⟨[31, 35, 36, 37], false, { it := .val (.bool (GVietLetter.eq x_ q2.1)), w := some false }⟩, ⟨[31, 37, 38], false, { w := some false }⟩, ⟨[4, 38, 39], false, { w := some true }⟩, ⟨[0, 38, 40], false, { w := some true }⟩, ⟨[38, 39, 40, 41], false, { it := .cs [(.lit (.int .i64 x_1))], w := some true }⟩, ⟨[38, 41, 42], false, { w := some true }⟩, ⟨[6, 38, 43], false, { w := some true }⟩, ⟨[38, 42, 43, 44], false, { w := some true }⟩, ⟨[31, 38, 44, 45], false, { it := .b true, w := some false }⟩, ⟨[31, 45, 46], false, { it := .b false }⟩, ⟨[2, 46], false, {}⟩] }]) (args := [(.lit (.int .u8 n))]) (r := (.lit (.bool (x_1 == q2.2.1)))) (ps := [CallK Try.prog false 30 [] [] (.lit (.bool q)) [],
                (!q) = false,
                CallK Try.prog false 31 [] [] (.tup [(.sl .view false (List.map GVietLetter.c q1.1)), (.sl .view false (eI .i64 q1.2))]) [],
                Value.int .i64 (↑(List.length (List.map GVietLetter.c q1.1)) : Int) = .int .i64 (q1.1.length : Int),
                ((q1.1.length : Int) != 148) = false,
                ((q1.1.length : Int) != 148) = false,
                Value.int .i64 (↑(List.length (eI .i64 q1.2)) : Int) = .int .i64 (q1.2.length : Int),
                ((q1.1.length : Int) != 148) = false,
                ((q1.1.length : Int) != 148) = false,
                ((q1.2.length : Int) != 148) = false,
                CallK Try.prog false 29 [(.lit (.int .i64 (w64 n)))] [] (.tup [(.agg [(.lit (.int .i64 q2.1.base)), (.lit (.complex .f64 q2.1.sign.1 q2.1.sign.2))]), (.lit (.int .i64 q2.2.1)), (.lit (.bool q2.2.2))]) [],
                ([.cells 38 [(.lit (.int .i64 q2.1.base)), (.lit (.complex .f64 q2.1.sign.1 q2.1.sign.2))]] : List Bx) = [.cells 38 [(.lit (.int .i64 q2.1.base)), (.lit (.complex .f64 q2.1.sign.1 q2.1.sign.2))]],
                ([.cells 38 [(.lit (.int .i64 q2.1.base)), (.lit (.complex .f64 q2.1.sign.1 q2.1.sign.2))]] : List Bx) = [.cells 38 [(.lit (.int .i64 q2.1.base)), (.lit (.complex .f64 q2.1.sign.1 q2.1.sign.2))]],
                ([.cells 38 [(.lit (.int .i64 q2.1.base)), (.lit (.complex .f64 q2.1.sign.1 q2.1.sign.2))]] : List Bx) = [.cells 38 [(.lit (.int .i64 q2.1.base)), (.lit (.complex .f64 q2.1.sign.1 q2.1.sign.2))]],
                ([.cells 38 [(.lit (.int .i64 q2.1.base)), (.lit (.complex .f64 q2.1.sign.1 q2.1.sign.2))]] : List Bx) = [.cells 38 [(.lit (.int .i64 q2.1.base)), (.lit (.complex .f64 q2.1.sign.1 q2.1.sign.2))]],
                (!q2.2.2) = false,
                ([.cells 38 [(.lit (.int .i64 q2.1.base)), (.lit (.complex .f64 q2.1.sign.1 q2.1.sign.2))]] : List Bx) = [.cells 38 [(.lit (.int .i64 q2.1.base)), (.lit (.complex .f64 q2.1.sign.1 q2.1.sign.2))]],
                (!q2.2.2) = false,
                ([.cells 38 [(.lit (.int .i64 q2.1.base)), (.lit (.complex .f64 q2.1.sign.1 q2.1.sign.2))]] : List Bx) = [.cells 38 [(.lit (.int .i64 q2.1.base)), (.lit (.complex .f64 q2.1.sign.1 q2.1.sign.2))]],
                (!q2.2.2) = false,
                nthPV (List.map GVietLetter.c q1.1) n = some (GVietLetter.c x_),
                ([.cells 38 [(.lit (.int .i64 q2.1.base)), (.lit (.complex .f64 q2.1.sign.1 q2.1.sign.2))]] : List Bx) = [.cells 38 [(.lit (.int .i64 q2.1.base)), (.lit (.complex .f64 q2.1.sign.1 q2.1.sign.2))]],
                (!q2.2.2) = false,
                ([.cells 38 [(.lit (.int .i64 q2.1.base)), (.lit (.complex .f64 q2.1.sign.1 q2.1.sign.2))]] : List Bx) = [.cells 38 [(.lit (.int .i64 q2.1.base)), (.lit (.complex .f64 q2.1.sign.1 q2.1.sign.2))]],
                (!q2.2.2) = false,
                ([.cells 38 [(.lit (.int .i64 q2.1.base)), (.lit (.complex .f64 q2.1.sign.1 q2.1.sign.2))]] : List Bx) = [.cells 38 [(.lit (.int .i64 q2.1.base)), (.lit (.complex .f64 q2.1.sign.1 q2.1.sign.2))]],
                (!q2.2.2) = false,
                det Try.prog (do eqGuard .eql 38 (.tmp 35) (.tmp 36) (.agg #[(.int .i64 x_.base), (.complex .f64 x_.sign.1 x_.sign.2)]) (.agg #[(.int .i64 q2.1.base), (.complex .f64 q2.1.sign.1 q2.1.sign.2)]); binOp .eql 38 (.agg #[(.int .i64 x_.base), (.complex .f64 x_.sign.1 x_.sign.2)]) (.agg #[(.int .i64 q2.1.base), (.complex .f64 q2.1.sign.1 q2.1.sign.2)])) = some (.bool (GVietLetter.eq x_ q2.1)),
                ([.cells 38 [(.lit (.int .i64 q2.1.base)), (.lit (.complex .f64 q2.1.sign.1 q2.1.sign.2))]] : List Bx) = [.cells 38 [(.lit (.int .i64 q2.1.base)), (.lit (.complex .f64 q2.1.sign.1 q2.1.sign.2))]],
                (!q2.2.2) = false,
                ([.cells 38 [(.lit (.int .i64 q2.1.base)), (.lit (.complex .f64 q2.1.sign.1 q2.1.sign.2))]] : List Bx) = [.cells 38 [(.lit (.int .i64 q2.1.base)), (.lit (.complex .f64 q2.1.sign.1 q2.1.sign.2))]],
                (GVietLetter.eq x_ q2.1) = true,
                ([.cells 38 [(.lit (.int .i64 q2.1.base)), (.lit (.complex .f64 q2.1.sign.1 q2.1.sign.2))]] : List Bx) = [.cells 38 [(.lit (.int .i64 q2.1.base)), (.lit (.complex .f64 q2.1.sign.1 q2.1.sign.2))]],
                (GVietLetter.eq x_ q2.1) = true,
                ([.cells 38 [(.lit (.int .i64 q2.1.base)), (.lit (.complex .f64 q2.1.sign.1 q2.1.sign.2))]] : List Bx) = [.cells 38 [(.lit (.int .i64 q2.1.base)), (.lit (.complex .f64 q2.1.sign.1 q2.1.sign.2))]],
                (GVietLetter.eq x_ q2.1) = true,
                nthPV (eI .i64 q1.2) n = some [(.lit (.int .i64 x_1))],
                ([.cells 38 [(.lit (.int .i64 q2.1.base)), (.lit (.complex .f64 q2.1.sign.1 q2.1.sign.2))]] : List Bx) = [.cells 38 [(.lit (.int .i64 q2.1.base)), (.lit (.complex .f64 q2.1.sign.1 q2.1.sign.2))]],
                (GVietLetter.eq x_ q2.1) = true,
                ([.cells 38 [(.lit (.int .i64 q2.1.base)), (.lit (.complex .f64 q2.1.sign.1 q2.1.sign.2))]] : List Bx) = [.cells 38 [(.lit (.int .i64 q2.1.base)), (.lit (.complex .f64 q2.1.sign.1 q2.1.sign.2))]],
                (GVietLetter.eq x_ q2.1) = true,
                ([.cells 38 [(.lit (.int .i64 q2.1.base)), (.lit (.complex .f64 q2.1.sign.1 q2.1.sign.2))]] : List Bx) = [.cells 38 [(.lit (.int .i64 q2.1.base)), (.lit (.complex .f64 q2.1.sign.1 q2.1.sign.2))]],
                (GVietLetter.eq x_ q2.1) = true,
                ([.cells 38 [(.lit (.int .i64 q2.1.base)), (.lit (.complex .f64 q2.1.sign.1 q2.1.sign.2))]] : List Bx) = [.cells 38 [(.lit (.int .i64 q2.1.base)), (.lit (.complex .f64 q2.1.sign.1 q2.1.sign.2))]],
                (!q2.2.2) = false,
                (GVietLetter.eq x_ q2.1) = true,
                ([.cells 38 [(.lit (.int .i64 q2.1.base)), (.lit (.complex .f64 q2.1.sign.1 q2.1.sign.2))]] : List Bx) = [.cells 38 [(.lit (.int .i64 q2.1.base)), (.lit (.complex .f64 q2.1.sign.1 q2.1.sign.2))]],
                (!q2.2.2) = false,
                ([.cells 38 [(.lit (.int .i64 q2.1.base)), (.lit (.complex .f64 q2.1.sign.1 q2.1.sign.2))]] : List Bx) = [.cells 38 [(.lit (.int .i64 q2.1.base)), (.lit (.complex .f64 q2.1.sign.1 q2.1.sign.2))]]]) (by kernel_rfl)
              ⟨(call_lontarlaw09_awake h_q _ _), (not_f hc1), (call_viet_All h_q1 _ _), (len_val _ _), (bne_f hc2), (bne_f hc2), (len_val _ _), (bne_f hc2), (bne_f hc2), (bne_f hc3), (call_lontarlaw09_Letter h_q2 _ _), rfl, rfl, rfl, rfl, (not_f hc8), rfl, (not_f hc8), rfl, (not_f hc8), (nth_map _ h_x_), rfl, (not_f hc8), rfl, (not_f hc8), rfl, (not_f hc8), (det_GVietLetter_eql _ _ _ _), rfl, (not_f hc8), rfl, hc9, rfl, hc9, rfl, hc9, (nth_map _ h_x_1), rfl, hc9, rfl, hc9, rfl, hc9, rfl, (not_f hc8), hc9, rfl, (not_f hc8), rfl, trivial⟩
          · injection h with h; subst h
            exact Knows.of (C := C9) wf Try.func9 (cs := [.reg 1 [(0, { it := .res (.lit (.bool q)) [] [] })], .b false, .reg 3 [(0, { it := .res (.tup [(.sl .view false (List.map GVietLetter.c q1.1)), (.sl .view false (eI .i64 q1.2))]) [] [] })], .reg 4 [(1, { it := .val (.int .i64 (q1.1.length : Int)) }), (4, { w := some false }), (5, { it := .val (.int .i64 (q1.2.length : Int)), w := some false }), (6, { w := some false }), (7, { it := .b false })], .b false, .reg 6 [(2, { it := .res (.tup [(.agg [(.lit (.int .i64 q2.1.base)), (.lit (.complex .f64 q2.1.sign.1 q2.1.sign.2))]), (.lit (.int .i64 q2.2.1)), (.lit (.bool q2.2.2))]) [] [] })], .dr { frz := [0], lin := [3, 5, 7], fz := [0, 31, 38], steps := [⟨[7, 29], false, {}⟩, ⟨[29, 30], false, {}⟩, ⟨[30, 31], false, {}⟩, ⟨[3, 31, 32], false, { w := some false }⟩, ⟨[0, 31, 33], false, { w := some false }⟩, ⟨[31, 32, 33, 34], false, { it := .cs (GVietLetter.c x_), w := some false }⟩, ⟨[31, 34, 35], false, { w := some false }⟩, ⟨[5, 31, 36], false, { w := some false }⟩, ⟨[31, 35, 36, 37], false, { it := .val (.bool (GVietLetter.eq x_ q2.1)), w := some false }⟩, ⟨[31, 37, 38], false, { w := some false }⟩, ⟨[38, 39], false, { w := some false }⟩, ⟨[38, 40], false, { w := some false }⟩, ⟨[38, 41], false, { w := some false }⟩, ⟨[38, 42], false, { w := some false }⟩, ⟨[38, 43], false, { w := some false }⟩, ⟨[38, 44], false, { w := some false }⟩, ⟨[31, 38, 44, 45], false, { it := .b false, w := some false }⟩, ⟨[31, 45, 46], false, { it := .b false }⟩, ⟨[2, 46], false, {}⟩] }]) (args := [(.lit (.int .u8 n))]) (r := (.lit (.bool false))) (ps := [CallK Try.prog false 30 [] [] (.lit (.bool q)) [],
                (!q) = false,
                CallK Try.prog false 31 [] [] (.tup [(.sl .view false (List.map GVietLetter.c q1.1)), (.sl .view false (eI .i64 q1.2))]) [],
                Value.int .i64 (↑(List.length (List.map GVietLetter.c q1.1)) : Int) = .int .i64 (q1.1.length : Int),
                ((q1.1.length : Int) != 148) = false,
                ((q1.1.length : Int) != 148) = false,
                Value.int .i64 (↑(List.length (eI .i64 q1.2)) : Int) = .int .i64 (q1.2.length : Int),
                ((q1.1.length : Int) != 148) = false,
                ((q1.1.length : Int) != 148) = false,
                ((q1.2.length : Int) != 148) = false,
                CallK Try.prog false 29 [(.lit (.int .i64 (w64 n)))] [] (.tup [(.agg [(.lit (.int .i64 q2.1.base)), (.lit (.complex .f64 q2.1.sign.1 q2.1.sign.2))]), (.lit (.int .i64 q2.2.1)), (.lit (.bool q2.2.2))]) [],
                ([.cells 38 [(.lit (.int .i64 q2.1.base)), (.lit (.complex .f64 q2.1.sign.1 q2.1.sign.2))]] : List Bx) = [.cells 38 [(.lit (.int .i64 q2.1.base)), (.lit (.complex .f64 q2.1.sign.1 q2.1.sign.2))]],
                ([.cells 38 [(.lit (.int .i64 q2.1.base)), (.lit (.complex .f64 q2.1.sign.1 q2.1.sign.2))]] : List Bx) = [.cells 38 [(.lit (.int .i64 q2.1.base)), (.lit (.complex .f64 q2.1.sign.1 q2.1.sign.2))]],
                ([.cells 38 [(.lit (.int .i64 q2.1.base)), (.lit (.complex .f64 q2.1.sign.1 q2.1.sign.2))]] : List Bx) = [.cells 38 [(.lit (.int .i64 q2.1.base)), (.lit (.complex .f64 q2.1.sign.1 q2.1.sign.2))]],
                ([.cells 38 [(.lit (.int .i64 q2.1.base)), (.lit (.complex .f64 q2.1.sign.1 q2.1.sign.2))]] : List Bx) = [.cells 38 [(.lit (.int .i64 q2.1.base)), (.lit (.complex .f64 q2.1.sign.1 q2.1.sign.2))]],
                (!q2.2.2) = false,
                ([.cells 38 [(.lit (.int .i64 q2.1.base)), (.lit (.complex .f64 q2.1.sign.1 q2.1.sign.2))]] : List Bx) = [.cells 38 [(.lit (.int .i64 q2.1.base)), (.lit (.complex .f64 q2.1.sign.1 q2.1.sign.2))]],
                (!q2.2.2) = false,
                ([.cells 38 [(.lit (.int .i64 q2.1.base)), (.lit (.complex .f64 q2.1.sign.1 q2.1.sign.2))]] : List Bx) = [.cells 38 [(.lit (.int .i64 q2.1.base)), (.lit (.complex .f64 q2.1.sign.1 q2.1.sign.2))]],
                (!q2.2.2) = false,
                nthPV (List.map GVietLetter.c q1.1) n = some (GVietLetter.c x_),
                ([.cells 38 [(.lit (.int .i64 q2.1.base)), (.lit (.complex .f64 q2.1.sign.1 q2.1.sign.2))]] : List Bx) = [.cells 38 [(.lit (.int .i64 q2.1.base)), (.lit (.complex .f64 q2.1.sign.1 q2.1.sign.2))]],
                (!q2.2.2) = false,
                ([.cells 38 [(.lit (.int .i64 q2.1.base)), (.lit (.complex .f64 q2.1.sign.1 q2.1.sign.2))]] : List Bx) = [.cells 38 [(.lit (.int .i64 q2.1.base)), (.lit (.complex .f64 q2.1.sign.1 q2.1.sign.2))]],
                (!q2.2.2) = false,
                ([.cells 38 [(.lit (.int .i64 q2.1.base)), (.lit (.complex .f64 q2.1.sign.1 q2.1.sign.2))]] : List Bx) = [.cells 38 [(.lit (.int .i64 q2.1.base)), (.lit (.complex .f64 q2.1.sign.1 q2.1.sign.2))]],
                (!q2.2.2) = false,
                det Try.prog (do eqGuard .eql 38 (.tmp 35) (.tmp 36) (.agg #[(.int .i64 x_.base), (.complex .f64 x_.sign.1 x_.sign.2)]) (.agg #[(.int .i64 q2.1.base), (.complex .f64 q2.1.sign.1 q2.1.sign.2)]); binOp .eql 38 (.agg #[(.int .i64 x_.base), (.complex .f64 x_.sign.1 x_.sign.2)]) (.agg #[(.int .i64 q2.1.base), (.complex .f64 q2.1.sign.1 q2.1.sign.2)])) = some (.bool (GVietLetter.eq x_ q2.1)),
                ([.cells 38 [(.lit (.int .i64 q2.1.base)), (.lit (.complex .f64 q2.1.sign.1 q2.1.sign.2))]] : List Bx) = [.cells 38 [(.lit (.int .i64 q2.1.base)), (.lit (.complex .f64 q2.1.sign.1 q2.1.sign.2))]],
                (!q2.2.2) = false,
                ([.cells 38 [(.lit (.int .i64 q2.1.base)), (.lit (.complex .f64 q2.1.sign.1 q2.1.sign.2))]] : List Bx) = [.cells 38 [(.lit (.int .i64 q2.1.base)), (.lit (.complex .f64 q2.1.sign.1 q2.1.sign.2))]],
                (GVietLetter.eq x_ q2.1) = false,
                ([.cells 38 [(.lit (.int .i64 q2.1.base)), (.lit (.complex .f64 q2.1.sign.1 q2.1.sign.2))]] : List Bx) = [.cells 38 [(.lit (.int .i64 q2.1.base)), (.lit (.complex .f64 q2.1.sign.1 q2.1.sign.2))]],
                (GVietLetter.eq x_ q2.1) = false,
                ([.cells 38 [(.lit (.int .i64 q2.1.base)), (.lit (.complex .f64 q2.1.sign.1 q2.1.sign.2))]] : List Bx) = [.cells 38 [(.lit (.int .i64 q2.1.base)), (.lit (.complex .f64 q2.1.sign.1 q2.1.sign.2))]],
                (GVietLetter.eq x_ q2.1) = false,
                ([.cells 38 [(.lit (.int .i64 q2.1.base)), (.lit (.complex .f64 q2.1.sign.1 q2.1.sign.2))]] : List Bx) = [.cells 38 [(.lit (.int .i64 q2.1.base)), (.lit (.complex .f64 q2.1.sign.1 q2.1.sign.2))]],
                (GVietLetter.eq x_ q2.1) = false,
                ([.cells 38 [(.lit (.int .i64 q2.1.base)), (.lit (.complex .f64 q2.1.sign.1 q2.1.sign.2))]] : List Bx) = [.cells 38 [(.lit (.int .i64 q2.1.base)), (.lit (.complex .f64 q2.1.sign.1 q2.1.sign.2))]],
                (GVietLetter.eq x_ q2.1) = false,
                ([.cells 38 [(.lit (.int .i64 q2.1.base)), (.lit (.complex .f64 q2.1.sign.1 q2.1.sign.2))]] : List Bx) = [.cells 38 [(.lit (.int .i64 q2.1.base)), (.lit (.complex .f64 q2.1.sign.1 q2.1.sign.2))]],
                (GVietLetter.eq x_ q2.1) = false,
                ([.cells 38 [(.lit (.int .i64 q2.1.base)), (.lit (.complex .f64 q2.1.sign.1 q2.1.sign.2))]] : List Bx) = [.cells 38 [(.lit (.int .i64 q2.1.base)), (.lit (.complex .f64 q2.1.sign.1 q2.1.sign.2))]],
                (!q2.2.2) = false,
                (GVietLetter.eq x_ q2.1) = false,
                ([.cells 38 [(.lit (.int .i64 q2.1.base)), (.lit (.complex .f64 q2.1.sign.1 q2.1.sign.2))]] : List Bx) = [.cells 38 [(.lit (.int .i64 q2.1.base)), (.lit (.complex .f64 q2.1.sign.1 q2.1.sign.2))]],
                (!q2.2.2) = false,
                ([.cells 38 [(.lit (.int .i64 q2.1.base)), (.lit (.complex .f64 q2.1.sign.1 q2.1.sign.2))]] : List Bx) = [.cells 38 [(.lit (.int .i64 q2.1.base)), (.lit (.complex .f64 q2.1.sign.1 q2.1.sign.2))]]]) (by kernel_rfl)
              ⟨(call_lontarlaw09_awake h_q _ _), (not_f hc1), (call_viet_All h_q1 _ _), (len_val _ _), (bne_f hc2), (bne_f hc2), (len_val _ _), (bne_f hc2), (bne_f hc2), (bne_f hc3), (call_lontarlaw09_Letter h_q2 _ _), rfl, rfl, rfl, rfl, (not_f hc8), rfl, (not_f hc8), rfl, (not_f hc8), (nth_map _ h_x_), rfl, (not_f hc8), rfl, (not_f hc8), rfl, (not_f hc8), (det_GVietLetter_eql _ _ _ _), rfl, (not_f hc8), rfl, (Bool.eq_false_iff.2 hc9), rfl, (Bool.eq_false_iff.2 hc9), rfl, (Bool.eq_false_iff.2 hc9), rfl, (Bool.eq_false_iff.2 hc9), rfl, (Bool.eq_false_iff.2 hc9), rfl, (Bool.eq_false_iff.2 hc9), rfl, (not_f hc8), (Bool.eq_false_iff.2 hc9), rfl, (not_f hc8), rfl, trivial⟩
        · injection h with h; subst h
          exact Knows.of (C := C9) wf Try.func9 (cs := [.reg 1 [(0, { it := .res (.lit (.bool q)) [] [] })], .b false, .reg 3 [(0, { it := .res (.tup [(.sl .view false (List.map GVietLetter.c q1.1)), (.sl .view false (eI .i64 q1.2))]) [] [] })], .reg 4 [(1, { it := .val (.int .i64 (q1.1.length : Int)) }), (4, { w := some false }), (5, { it := .val (.int .i64 (q1.2.length : Int)), w := some false }), (6, { w := some false }), (7, { it := .b false })], .b false, .reg 6 [(2, { it := .res (.tup [(.agg [(.lit (.int .i64 q2.1.base)), (.lit (.complex .f64 q2.1.sign.1 q2.1.sign.2))]), (.lit (.int .i64 q2.2.1)), (.lit (.bool q2.2.2))]) [] [] })], .dr { frz := [0], lin := [7], fz := [0, 31, 38], steps := [⟨[7, 29], false, {}⟩, ⟨[29, 30], false, {}⟩, ⟨[30, 31], false, {}⟩, ⟨[31, 32], false, { w := some true }⟩, ⟨[31, 33], false, { w := some true }⟩, ⟨[31, 34], false, { w := some true }⟩, ⟨[31, 35], false, { w := some true }⟩, ⟨[31, 36], false, { w := some true }⟩, ⟨[31, 37], false, { w := some true }⟩, ⟨[31, 38], false, { w := some true }⟩, ⟨[38, 39], false, {}⟩, ⟨[38, 40], false, {}⟩, ⟨[38, 41], false, {}⟩, ⟨[38, 42], false, {}⟩, ⟨[38, 43], false, {}⟩, ⟨[38, 44], false, {}⟩, ⟨[31, 45], false, { w := some true }⟩, ⟨[31, 45, 46], false, { it := .b true }⟩, ⟨[2, 46], false, {}⟩] }]) (args := [(.lit (.int .u8 n))]) (r := (.lit (.bool true))) (ps := [CallK Try.prog false 30 [] [] (.lit (.bool q)) [],
              (!q) = false,
              CallK Try.prog false 31 [] [] (.tup [(.sl .view false (List.map GVietLetter.c q1.1)), (.sl .view false (eI .i64 q1.2))]) [],
              Value.int .i64 (↑(List.length (List.map GVietLetter.c q1.1)) : Int) = .int .i64 (q1.1.length : Int),
              ((q1.1.length : Int) != 148) = false,
              ((q1.1.length : Int) != 148) = false,
              Value.int .i64 (↑(List.length (eI .i64 q1.2)) : Int) = .int .i64 (q1.2.length : Int),
              ((q1.1.length : Int) != 148) = false,
              ((q1.1.length : Int) != 148) = false,
              ((q1.2.length : Int) != 148) = false,
              CallK Try.prog false 29 [(.lit (.int .i64 (w64 n)))] [] (.tup [(.agg [(.lit (.int .i64 q2.1.base)), (.lit (.complex .f64 q2.1.sign.1 q2.1.sign.2))]), (.lit (.int .i64 q2.2.1)), (.lit (.bool q2.2.2))]) [],
              ([.cells 38 [(.lit (.int .i64 q2.1.base)), (.lit (.complex .f64 q2.1.sign.1 q2.1.sign.2))]] : List Bx) = [.cells 38 [(.lit (.int .i64 q2.1.base)), (.lit (.complex .f64 q2.1.sign.1 q2.1.sign.2))]],
              ([.cells 38 [(.lit (.int .i64 q2.1.base)), (.lit (.complex .f64 q2.1.sign.1 q2.1.sign.2))]] : List Bx) = [.cells 38 [(.lit (.int .i64 q2.1.base)), (.lit (.complex .f64 q2.1.sign.1 q2.1.sign.2))]],
              ([.cells 38 [(.lit (.int .i64 q2.1.base)), (.lit (.complex .f64 q2.1.sign.1 q2.1.sign.2))]] : List Bx) = [.cells 38 [(.lit (.int .i64 q2.1.base)), (.lit (.complex .f64 q2.1.sign.1 q2.1.sign.2))]],
              ([.cells 38 [(.lit (.int .i64 q2.1.base)), (.lit (.complex .f64 q2.1.sign.1 q2.1.sign.2))]] : List Bx) = [.cells 38 [(.lit (.int .i64 q2.1.base)), (.lit (.complex .f64 q2.1.sign.1 q2.1.sign.2))]],
              (!q2.2.2) = true,
              ([.cells 38 [(.lit (.int .i64 q2.1.base)), (.lit (.complex .f64 q2.1.sign.1 q2.1.sign.2))]] : List Bx) = [.cells 38 [(.lit (.int .i64 q2.1.base)), (.lit (.complex .f64 q2.1.sign.1 q2.1.sign.2))]],
              (!q2.2.2) = true,
              ([.cells 38 [(.lit (.int .i64 q2.1.base)), (.lit (.complex .f64 q2.1.sign.1 q2.1.sign.2))]] : List Bx) = [.cells 38 [(.lit (.int .i64 q2.1.base)), (.lit (.complex .f64 q2.1.sign.1 q2.1.sign.2))]],
              (!q2.2.2) = true,
              ([.cells 38 [(.lit (.int .i64 q2.1.base)), (.lit (.complex .f64 q2.1.sign.1 q2.1.sign.2))]] : List Bx) = [.cells 38 [(.lit (.int .i64 q2.1.base)), (.lit (.complex .f64 q2.1.sign.1 q2.1.sign.2))]],
              (!q2.2.2) = true,
              ([.cells 38 [(.lit (.int .i64 q2.1.base)), (.lit (.complex .f64 q2.1.sign.1 q2.1.sign.2))]] : List Bx) = [.cells 38 [(.lit (.int .i64 q2.1.base)), (.lit (.complex .f64 q2.1.sign.1 q2.1.sign.2))]],
              (!q2.2.2) = true,
              ([.cells 38 [(.lit (.int .i64 q2.1.base)), (.lit (.complex .f64 q2.1.sign.1 q2.1.sign.2))]] : List Bx) = [.cells 38 [(.lit (.int .i64 q2.1.base)), (.lit (.complex .f64 q2.1.sign.1 q2.1.sign.2))]],
              (!q2.2.2) = true,
              ([.cells 38 [(.lit (.int .i64 q2.1.base)), (.lit (.complex .f64 q2.1.sign.1 q2.1.sign.2))]] : List Bx) = [.cells 38 [(.lit (.int .i64 q2.1.base)), (.lit (.complex .f64 q2.1.sign.1 q2.1.sign.2))]],
              (!q2.2.2) = true,
              ([.cells 38 [(.lit (.int .i64 q2.1.base)), (.lit (.complex .f64 q2.1.sign.1 q2.1.sign.2))]] : List Bx) = [.cells 38 [(.lit (.int .i64 q2.1.base)), (.lit (.complex .f64 q2.1.sign.1 q2.1.sign.2))]],
              ([.cells 38 [(.lit (.int .i64 q2.1.base)), (.lit (.complex .f64 q2.1.sign.1 q2.1.sign.2))]] : List Bx) = [.cells 38 [(.lit (.int .i64 q2.1.base)), (.lit (.complex .f64 q2.1.sign.1 q2.1.sign.2))]],
              ([.cells 38 [(.lit (.int .i64 q2.1.base)), (.lit (.complex .f64 q2.1.sign.1 q2.1.sign.2))]] : List Bx) = [.cells 38 [(.lit (.int .i64 q2.1.base)), (.lit (.complex .f64 q2.1.sign.1 q2.1.sign.2))]],
              ([.cells 38 [(.lit (.int .i64 q2.1.base)), (.lit (.complex .f64 q2.1.sign.1 q2.1.sign.2))]] : List Bx) = [.cells 38 [(.lit (.int .i64 q2.1.base)), (.lit (.complex .f64 q2.1.sign.1 q2.1.sign.2))]],
              ([.cells 38 [(.lit (.int .i64 q2.1.base)), (.lit (.complex .f64 q2.1.sign.1 q2.1.sign.2))]] : List Bx) = [.cells 38 [(.lit (.int .i64 q2.1.base)), (.lit (.complex .f64 q2.1.sign.1 q2.1.sign.2))]],
              ([.cells 38 [(.lit (.int .i64 q2.1.base)), (.lit (.complex .f64 q2.1.sign.1 q2.1.sign.2))]] : List Bx) = [.cells 38 [(.lit (.int .i64 q2.1.base)), (.lit (.complex .f64 q2.1.sign.1 q2.1.sign.2))]],
              ([.cells 38 [(.lit (.int .i64 q2.1.base)), (.lit (.complex .f64 q2.1.sign.1 q2.1.sign.2))]] : List Bx) = [.cells 38 [(.lit (.int .i64 q2.1.base)), (.lit (.complex .f64 q2.1.sign.1 q2.1.sign.2))]],
              (!q2.2.2) = true,
              ([.cells 38 [(.lit (.int .i64 q2.1.base)), (.lit (.complex .f64 q2.1.sign.1 q2.1.sign.2))]] : List Bx) = [.cells 38 [(.lit (.int .i64 q2.1.base)), (.lit (.complex .f64 q2.1.sign.1 q2.1.sign.2))]],
              (!q2.2.2) = true,
              ([.cells 38 [(.lit (.int .i64 q2.1.base)), (.lit (.complex .f64 q2.1.sign.1 q2.1.sign.2))]] : List Bx) = [.cells 38 [(.lit (.int .i64 q2.1.base)), (.lit (.complex .f64 q2.1.sign.1 q2.1.sign.2))]]]) (by kernel_rfl)
            ⟨(call_lontarlaw09_awake h_q _ _), (not_f hc1), (call_viet_All h_q1 _ _), (len_val _ _), (bne_f hc2), (bne_f hc2), (len_val _ _), (bne_f hc2), (bne_f hc2), (bne_f hc3), (call_lontarlaw09_Letter h_q2 _ _), rfl, rfl, rfl, rfl, (not_t (Bool.eq_false_iff.2 hc8)), rfl, (not_t (Bool.eq_false_iff.2 hc8)), rfl, (not_t (Bool.eq_false_iff.2 hc8)), rfl, (not_t (Bool.eq_false_iff.2 hc8)), rfl, (not_t (Bool.eq_false_iff.2 hc8)), rfl, (not_t (Bool.eq_false_iff.2 hc8)), rfl, (not_t (Bool.eq_false_iff.2 hc8)), rfl, rfl, rfl, rfl, rfl, rfl, rfl, (not_t (Bool.eq_false_iff.2 hc8)), rfl, (not_t (Bool.eq_false_iff.2 hc8)), rfl, trivial⟩
      · injection h with h; subst h
        exact Knows.of (C := C9) wf Try.func9 (cs := [.reg 1 [(0, { it := .res (.lit (.bool q)) [] [] })], .b false, .reg 3 [(0, { it := .res (.tup [(.sl .view false (List.map GVietLetter.c q1.1)), (.sl .view false (eI .i64 q1.2))]) [] [] })], .reg 4 [(1, { it := .val (.int .i64 (q1.1.length : Int)) }), (4, { w := some false }), (5, { it := .val (.int .i64 (q1.2.length : Int)), w := some false }), (6, { w := some false }), (7, { it := .b false })], .b true]) (args := [(.lit (.int .u8 n))]) (r := (.lit (.bool false))) (ps := [CallK Try.prog false 30 [] [] (.lit (.bool q)) [],
            (!q) = false,
            CallK Try.prog false 31 [] [] (.tup [(.sl .view false (List.map GVietLetter.c q1.1)), (.sl .view false (eI .i64 q1.2))]) [],
            Value.int .i64 (↑(List.length (List.map GVietLetter.c q1.1)) : Int) = .int .i64 (q1.1.length : Int),
            ((q1.1.length : Int) != 148) = false,
            ((q1.1.length : Int) != 148) = false,
            Value.int .i64 (↑(List.length (eI .i64 q1.2)) : Int) = .int .i64 (q1.2.length : Int),
            ((q1.1.length : Int) != 148) = false,
            ((q1.1.length : Int) != 148) = false,
            ((q1.2.length : Int) != 148) = true]) (by kernel_rfl)
          ⟨(call_lontarlaw09_awake h_q _ _), (not_f hc1), (call_viet_All h_q1 _ _), (len_val _ _), (bne_f hc2), (bne_f hc2), (len_val _ _), (bne_f hc2), (bne_f hc2), (bne_iff_ne.2 hc3), trivial⟩
    · injection h with h; subst h
      exact Knows.of (C := C9) wf Try.func9 (cs := [.reg 1 [(0, { it := .res (.lit (.bool q)) [] [] })], .b false, .reg 3 [(0, { it := .res (.tup [(.sl .view false (List.map GVietLetter.c q1.1)), (.sl .view false (eI .i64 q1.2))]) [] [] })], .reg 4 [(1, { it := .val (.int .i64 (q1.1.length : Int)) }), (4, { w := some true }), (5, { w := some true }), (6, { w := some true }), (7, { it := .b true })], .b true]) (args := [(.lit (.int .u8 n))]) (r := (.lit (.bool false))) (ps := [CallK Try.prog false 30 [] [] (.lit (.bool q)) [],
          (!q) = false,
          CallK Try.prog false 31 [] [] (.tup [(.sl .view false (List.map GVietLetter.c q1.1)), (.sl .view false (eI .i64 q1.2))]) [],
          Value.int .i64 (↑(List.length (List.map GVietLetter.c q1.1)) : Int) = .int .i64 (q1.1.length : Int),
          ((q1.1.length : Int) != 148) = true,
          ((q1.1.length : Int) != 148) = true,
          ((q1.1.length : Int) != 148) = true,
          ((q1.1.length : Int) != 148) = true,
          true = true]) (by kernel_rfl)
        ⟨(call_lontarlaw09_awake h_q _ _), (not_f hc1), (call_viet_All h_q1 _ _), (len_val _ _), (bne_iff_ne.2 hc2), (bne_iff_ne.2 hc2), (bne_iff_ne.2 hc2), (bne_iff_ne.2 hc2), rfl, trivial⟩
  · injection h with h; subst h
    exact Knows.of (C := C9) wf Try.func9 (cs := [.reg 1 [(0, { it := .res (.lit (.bool q)) [] [] })], .b true]) (args := [(.lit (.int .u8 n))]) (r := (.lit (.bool false))) (ps := [CallK Try.prog false 30 [] [] (.lit (.bool q)) [],
        (!q) = true]) (by kernel_rfl)
      ⟨(call_lontarlaw09_awake h_q _ _), (not_t (Bool.eq_false_iff.2 hc1)), trivial⟩
theorem call_lontarlaw09_VietAll {n : Int} {r} (h : lontarlaw09_VietAll n = some r) (kp : Bool) (σ : List Bx) : CallK Try.prog kp 9 [(.lit (.int .u8 n))] σ (.lit (.bool r)) σ :=
  (knows_lontarlaw09_VietAll n h).call (and_t rfl rfl) rfl kp σ
end Go.Proofs.Ytpbbgkmpjcddbaa
