/- Walks, printed by wip/gen.py. -/
import Derived.Test.YtpbbgkmpjcddbaaMVcanonApart
import Derived.Test.YtpbbgkmpjcddbaaYd
set_option linter.all false
namespace Go.Proofs.Ytpbbgkmpjcddbaa
open Go.AM Go.AM.M

def h18 : Nat → Option Hint
| 0 => some { keep := [0, 1] }
| 1 => some { keep := [0, 1, 14] }
| 2 => some { keep := [4] }
| 3 => some { keep := [0, 1, 5], nils := [((.tmp 5), 3)] }
| 4 => some { keep := [5, 6] }
| 5 => some { keep := [5, 6, 23, 24, 25] }
| 6 => some { keep := [5, 6, 23, 24, 25, 26] }
| 7 => some { keep := [5, 6, 8, 23, 24, 25] }
| 8 => some { keep := [5, 6, 8, 9, 10, 23, 24, 25] }
| 9 => some { keep := [5, 6, 8, 9, 23, 24, 25, 41] }
| 10 => some { keep := [5, 6, 23, 24, 25] }
| 11 => some { keep := [5, 6, 9, 23, 24, 25] }
| 12 => some { keep := [5, 6, 9, 11, 23, 24, 25] }
| 13 => some { keep := [5, 6, 9, 11, 23, 24, 25, 56] }
| 14 => some { keep := [5, 6, 9, 23, 24, 25] }
| 15 => some { keep := [5, 6, 12, 23, 24, 25] }
| 16 => some { keep := [5, 6, 12, 23, 24, 25, 69] }
| 17 => some { keep := [5, 6, 23, 24, 25] }
| 18 => some { keep := [5, 6, 23, 24, 25], cut := some 0 }
| 19 => some { keep := [4] }
| _ => none

noncomputable def C18 : Ctx := { P := Try.prog, mv := fun _ _ => false, res := resOf Try.f18, live := h18, call := fun _ _ _ => none }

def S_lontarlaw10_VcanonApart_L0 (q1 : (List Int)) (v : (List Int)) (vv : (List Int) × Int) : St :=
  match vv with
  | (want, v1) => { ts := [(5, (.sl (.excl 3) false (eI .i64 want))), (6, (.sl (.excl 3) false (eI .i64 (q1 ++ v)))), (23, (.alias (.tmp 6))), (24, (.lit (.int .i64 ((q1 ++ v).length : Int)))), (25, (.lit (.int .i64 v1)))], n := 82, σ := [] }

def X_lontarlaw10_VcanonApart_L0_0 (q1 : (List Int)) (v : (List Int)) (want : List Int) (v1 : Int) (v2 : Bool) : St := { ts := [(5, (.sl (.excl 3) false (eI .i64 want))), (6, (.sl (.excl 3) false (eI .i64 (q1 ++ v)))), (23, (.alias (.tmp 6))), (24, (.lit (.int .i64 ((q1 ++ v).length : Int)))), (25, (.lit (.int .i64 v1))), (26, (.lit (.bool v2)))], n := 82, σ := [] }

def E_lontarlaw10_VcanonApart_L0 (q1 : (List Int)) (v : (List Int)) (vv : (List Int) × Int × Bool) : Exit × St :=
  match vv with
  | (want, v1, v2) => (.exit 0, X_lontarlaw10_VcanonApart_L0_0 q1 v want v1 v2)

set_option maxRecDepth 100000 in
theorem body_lontarlaw10_VcanonApart_L0 (q1 : (List Int)) (v : (List Int)) (vv : (List Int) × Int) (x) (h : lontarlaw10_VcanonApart_L0 q1 v vv = some x) : RunsB Try.prog 0 (sub [1, 1, 1, 1, 0, 1, 0, 0] (fbody Try.f18)) (S_lontarlaw10_VcanonApart_L0 q1 v vv) (sideX (E_lontarlaw10_VcanonApart_L0 q1 v) x) (sideS (S_lontarlaw10_VcanonApart_L0 q1 v) (E_lontarlaw10_VcanonApart_L0 q1 v) x) := by
  obtain ⟨want, v1⟩ := vv
  unfold lontarlaw10_VcanonApart_L0 at h
  dsimp only at h
  rcases ite_some h with ⟨hc41, h⟩ | ⟨hc41, h⟩
  · obtain ⟨x_, h_x_, h⟩ := Option.bind_eq_some_iff.1 h
    obtain ⟨q2, h_q2, h⟩ := Option.bind_eq_some_iff.1 h
    rcases ite_some h with ⟨hc42, h⟩ | ⟨hc42, h⟩
    · rcases ite_some h with ⟨hc43, h⟩ | ⟨hc43, h⟩
      · obtain ⟨hg44, h⟩ := guardO_some h
        injection h with h; subst h
        exact codeH_sound (C := C18) (base := 0) wf _ (cs := [.b true, .reg 7 [(0, { it := .cs [(.lit (.int .i64 x_))] }), (1, { it := .cs [(.lit (.int .i64 x_))] })], .reg 8 [(1, { it := .res (.tup [(.agg [(.lit (.int .i64 q2.1.base)), (.lit (.complex .f64 q2.1.sign.1 q2.1.sign.2))]), (.lit (.bool q2.2))]) [] [] })], .reg 9 [(3, { w := some false }), (4, { w := some false }), (5, { it := .val (.float .f64 q2.1.sign.1), w := some false }), (6, { it := .val (.bool (feq q2.1.sign.1 4616189618054758400)), w := some false }), (7, { it := .b false })], .b true, .reg 10 [(3, { it := .sl (eI .i64 (want ++ [x_])) })]]) (cs' := []) (ps := [(decide (v1 < ((q1 ++ v).length : Int))) = true,
            nthPV (eI .i64 (q1 ++ v)) v1 = some [(.lit (.int .i64 x_))],
            (eI .i64 (q1 ++ v))[v1.toNat]? = some [(.lit (.int .i64 x_))],
            CallK Try.prog false 33 [(.lit (.int .i64 x_))] [] (.tup [(.agg [(.lit (.int .i64 q2.1.base)), (.lit (.complex .f64 q2.1.sign.1 q2.1.sign.2))]), (.lit (.bool q2.2))]) [],
            (!q2.2) = false,
            (!q2.2) = false,
            (!q2.2) = false,
            det Try.prog (builtin .real #[36] 47 [false].toArray [(.complex .f64 q2.1.sign.1 q2.1.sign.2)].toArray) = some (.value (.float .f64 q2.1.sign.1)),
            (!q2.2) = false,
            det Try.prog (do eqGuard .eql 47 (.tmp 39) (.const (.float .f64 4616189618054758400)) (.float .f64 q2.1.sign.1) (.float .f64 4616189618054758400); binOp .eql 47 (.float .f64 q2.1.sign.1) (.float .f64 4616189618054758400)) = some (.bool (feq q2.1.sign.1 4616189618054758400)),
            (!q2.2) = false,
            (feq q2.1.sign.1 4616189618054758400) = true,
            (List.length (eI .i64 want) + List.length (eI .i64 [x_])) * 8 ≤ 2 ^ 46,
            (eI .i64 [x_]).all (fun c => c.length = 1 && c.all PV.one) = true,
            (eI .i64 want) ++ (eI .i64 [x_]) = (eI .i64 (want ++ [x_])),
            noRefss 0 (eI .i64 (want ++ [x_])) = true,
            noRefss 0 (eI .i64 (q1 ++ v)) = true]) (by kernel_rfl)
          ⟨(decide_eq_true hc41), (nth_map _ h_x_), (nthPV_eq (nth_map _ h_x_)).2, (call_lontarlaw09_Split h_q2 _ _), (not_f hc42), (not_f hc42), (not_f hc42), rfl, (not_f hc42), (det_feql _ _ _ _ _ _), (not_f hc42), hc43, (len_map2 hg44), (all_map (fun _ => rfl) _), (List.map_append).symm, (map_noRef (fun _ => rfl) _), (map_noRef (fun _ => rfl) _), trivial⟩
      · obtain ⟨hg45, h⟩ := guardO_some h
        obtain ⟨v2, h_v2, h⟩ := Option.bind_eq_some_iff.1 h
        rcases ite_some h with ⟨hc46, h⟩ | ⟨hc46, h⟩
        · obtain ⟨x_1, h_x_1, h⟩ := Option.bind_eq_some_iff.1 h
          obtain ⟨hg47, h⟩ := guardO_some h
          obtain ⟨v3, h_v3, h⟩ := Option.bind_eq_some_iff.1 h
          rcases ite_some h with ⟨hc48, h⟩ | ⟨hc48, h⟩
          · obtain ⟨x_2, h_x_2, h⟩ := Option.bind_eq_some_iff.1 h
            obtain ⟨hg49, h⟩ := guardO_some h
            injection h with h; subst h
            exact codeH_sound (C := C18) (base := 0) wf _ (cs := [.b true, .reg 7 [(0, { it := .cs [(.lit (.int .i64 x_))] }), (1, { it := .cs [(.lit (.int .i64 x_))] })], .reg 8 [(1, { it := .res (.tup [(.agg [(.lit (.int .i64 q2.1.base)), (.lit (.complex .f64 q2.1.sign.1 q2.1.sign.2))]), (.lit (.bool q2.2))]) [] [] })], .reg 9 [(3, { w := some false }), (4, { w := some false }), (5, { it := .val (.float .f64 q2.1.sign.1), w := some false }), (6, { it := .val (.bool (feq q2.1.sign.1 4616189618054758400)), w := some false }), (7, { it := .b false })], .b false, .reg 11 [(4, { it := .sl (eI .i64 (want ++ [q2.1.base])) })], .reg 12 [(2, { it := .val (.float .f64 q2.1.sign.1) }), (3, { it := .val (.int .i64 v2) })], .b true, .reg 14 [(3, { it := .cs [(.lit (.int .i64 x_1))] }), (4, { it := .cs [(.lit (.int .i64 x_1))] }), (6, { it := .sl (eI .i64 ((want ++ [q2.1.base]) ++ [x_1])) })], .reg 15 [(2, { it := .val (.float .f64 q2.1.sign.2) }), (3, { it := .val (.int .i64 v3) })], .b true, .reg 17 [(3, { it := .cs [(.lit (.int .i64 x_2))] }), (4, { it := .cs [(.lit (.int .i64 x_2))] }), (6, { it := .sl (eI .i64 (((want ++ [q2.1.base]) ++ [x_1]) ++ [x_2])) })]]) (cs' := []) (ps := [(decide (v1 < ((q1 ++ v).length : Int))) = true,
                nthPV (eI .i64 (q1 ++ v)) v1 = some [(.lit (.int .i64 x_))],
                (eI .i64 (q1 ++ v))[v1.toNat]? = some [(.lit (.int .i64 x_))],
                CallK Try.prog false 33 [(.lit (.int .i64 x_))] [] (.tup [(.agg [(.lit (.int .i64 q2.1.base)), (.lit (.complex .f64 q2.1.sign.1 q2.1.sign.2))]), (.lit (.bool q2.2))]) [],
                (!q2.2) = false,
                (!q2.2) = false,
                (!q2.2) = false,
                det Try.prog (builtin .real #[36] 47 [false].toArray [(.complex .f64 q2.1.sign.1 q2.1.sign.2)].toArray) = some (.value (.float .f64 q2.1.sign.1)),
                (!q2.2) = false,
                det Try.prog (do eqGuard .eql 47 (.tmp 39) (.const (.float .f64 4616189618054758400)) (.float .f64 q2.1.sign.1) (.float .f64 4616189618054758400); binOp .eql 47 (.float .f64 q2.1.sign.1) (.float .f64 4616189618054758400)) = some (.bool (feq q2.1.sign.1 4616189618054758400)),
                (!q2.2) = false,
                (feq q2.1.sign.1 4616189618054758400) = false,
                (List.length (eI .i64 want) + List.length (eI .i64 [q2.1.base])) * 8 ≤ 2 ^ 46,
                (eI .i64 [q2.1.base]).all (fun c => c.length = 1 && c.all PV.one) = true,
                (eI .i64 want) ++ (eI .i64 [q2.1.base]) = (eI .i64 (want ++ [q2.1.base])),
                det Try.prog (builtin .real #[36] 47 [false].toArray [(.complex .f64 q2.1.sign.1 q2.1.sign.2)].toArray) = some (.value (.float .f64 q2.1.sign.1)),
                det Try.prog (convert 47 3 (.float .f64 q2.1.sign.1)) = some (.int .i64 v2),
                (decide (v2 > 0)) = true,
                nthPV (eI .i64 [0, 774, 770, 795]) v2 = some [(.lit (.int .i64 x_1))],
                (eI .i64 [0, 774, 770, 795])[v2.toNat]? = some [(.lit (.int .i64 x_1))],
                (List.length (eI .i64 (want ++ [q2.1.base])) + List.length (eI .i64 [x_1])) * 8 ≤ 2 ^ 46,
                (eI .i64 [x_1]).all (fun c => c.length = 1 && c.all PV.one) = true,
                (eI .i64 (want ++ [q2.1.base])) ++ (eI .i64 [x_1]) = (eI .i64 ((want ++ [q2.1.base]) ++ [x_1])),
                det Try.prog (builtin .imag #[36] 47 [false].toArray [(.complex .f64 q2.1.sign.1 q2.1.sign.2)].toArray) = some (.value (.float .f64 q2.1.sign.2)),
                det Try.prog (convert 47 3 (.float .f64 q2.1.sign.2)) = some (.int .i64 v3),
                (decide (v3 > 0)) = true,
                nthPV (eI .i64 [0, 768, 769, 777, 771, 803]) v3 = some [(.lit (.int .i64 x_2))],
                (eI .i64 [0, 768, 769, 777, 771, 803])[v3.toNat]? = some [(.lit (.int .i64 x_2))],
                (List.length (eI .i64 ((want ++ [q2.1.base]) ++ [x_1])) + List.length (eI .i64 [x_2])) * 8 ≤ 2 ^ 46,
                (eI .i64 [x_2]).all (fun c => c.length = 1 && c.all PV.one) = true,
                (eI .i64 ((want ++ [q2.1.base]) ++ [x_1])) ++ (eI .i64 [x_2]) = (eI .i64 (((want ++ [q2.1.base]) ++ [x_1]) ++ [x_2])),
                noRefss 0 (eI .i64 (((want ++ [q2.1.base]) ++ [x_1]) ++ [x_2])) = true,
                noRefss 0 (eI .i64 (q1 ++ v)) = true]) (by kernel_rfl)
              ⟨(decide_eq_true hc41), (nth_map _ h_x_), (nthPV_eq (nth_map _ h_x_)).2, (call_lontarlaw09_Split h_q2 _ _), (not_f hc42), (not_f hc42), (not_f hc42), rfl, (not_f hc42), (det_feql _ _ _ _ _ _), (not_f hc42), (Bool.eq_false_iff.2 hc43), (len_map2 hg45), (all_map (fun _ => rfl) _), (List.map_append).symm, rfl, (det_f2i Try.underlying47 Try.underlying3 h_v2), (decide_eq_true hc46), (nth_map _ h_x_1), (nthPV_eq (nth_map _ h_x_1)).2, (len_map2 hg47), (all_map (fun _ => rfl) _), (List.map_append).symm, rfl, (det_f2i Try.underlying47 Try.underlying3 h_v3), (decide_eq_true hc48), (nth_map _ h_x_2), (nthPV_eq (nth_map _ h_x_2)).2, (len_map2 hg49), (all_map (fun _ => rfl) _), (List.map_append).symm, (map_noRef (fun _ => rfl) _), (map_noRef (fun _ => rfl) _), trivial⟩
          · injection h with h; subst h
            exact codeH_sound (C := C18) (base := 0) wf _ (cs := [.b true, .reg 7 [(0, { it := .cs [(.lit (.int .i64 x_))] }), (1, { it := .cs [(.lit (.int .i64 x_))] })], .reg 8 [(1, { it := .res (.tup [(.agg [(.lit (.int .i64 q2.1.base)), (.lit (.complex .f64 q2.1.sign.1 q2.1.sign.2))]), (.lit (.bool q2.2))]) [] [] })], .reg 9 [(3, { w := some false }), (4, { w := some false }), (5, { it := .val (.float .f64 q2.1.sign.1), w := some false }), (6, { it := .val (.bool (feq q2.1.sign.1 4616189618054758400)), w := some false }), (7, { it := .b false })], .b false, .reg 11 [(4, { it := .sl (eI .i64 (want ++ [q2.1.base])) })], .reg 12 [(2, { it := .val (.float .f64 q2.1.sign.1) }), (3, { it := .val (.int .i64 v2) })], .b true, .reg 14 [(3, { it := .cs [(.lit (.int .i64 x_1))] }), (4, { it := .cs [(.lit (.int .i64 x_1))] }), (6, { it := .sl (eI .i64 ((want ++ [q2.1.base]) ++ [x_1])) })], .reg 15 [(2, { it := .val (.float .f64 q2.1.sign.2) }), (3, { it := .val (.int .i64 v3) })], .b false]) (cs' := []) (ps := [(decide (v1 < ((q1 ++ v).length : Int))) = true,
                nthPV (eI .i64 (q1 ++ v)) v1 = some [(.lit (.int .i64 x_))],
                (eI .i64 (q1 ++ v))[v1.toNat]? = some [(.lit (.int .i64 x_))],
                CallK Try.prog false 33 [(.lit (.int .i64 x_))] [] (.tup [(.agg [(.lit (.int .i64 q2.1.base)), (.lit (.complex .f64 q2.1.sign.1 q2.1.sign.2))]), (.lit (.bool q2.2))]) [],
                (!q2.2) = false,
                (!q2.2) = false,
                (!q2.2) = false,
                det Try.prog (builtin .real #[36] 47 [false].toArray [(.complex .f64 q2.1.sign.1 q2.1.sign.2)].toArray) = some (.value (.float .f64 q2.1.sign.1)),
                (!q2.2) = false,
                det Try.prog (do eqGuard .eql 47 (.tmp 39) (.const (.float .f64 4616189618054758400)) (.float .f64 q2.1.sign.1) (.float .f64 4616189618054758400); binOp .eql 47 (.float .f64 q2.1.sign.1) (.float .f64 4616189618054758400)) = some (.bool (feq q2.1.sign.1 4616189618054758400)),
                (!q2.2) = false,
                (feq q2.1.sign.1 4616189618054758400) = false,
                (List.length (eI .i64 want) + List.length (eI .i64 [q2.1.base])) * 8 ≤ 2 ^ 46,
                (eI .i64 [q2.1.base]).all (fun c => c.length = 1 && c.all PV.one) = true,
                (eI .i64 want) ++ (eI .i64 [q2.1.base]) = (eI .i64 (want ++ [q2.1.base])),
                det Try.prog (builtin .real #[36] 47 [false].toArray [(.complex .f64 q2.1.sign.1 q2.1.sign.2)].toArray) = some (.value (.float .f64 q2.1.sign.1)),
                det Try.prog (convert 47 3 (.float .f64 q2.1.sign.1)) = some (.int .i64 v2),
                (decide (v2 > 0)) = true,
                nthPV (eI .i64 [0, 774, 770, 795]) v2 = some [(.lit (.int .i64 x_1))],
                (eI .i64 [0, 774, 770, 795])[v2.toNat]? = some [(.lit (.int .i64 x_1))],
                (List.length (eI .i64 (want ++ [q2.1.base])) + List.length (eI .i64 [x_1])) * 8 ≤ 2 ^ 46,
                (eI .i64 [x_1]).all (fun c => c.length = 1 && c.all PV.one) = true,
                (eI .i64 (want ++ [q2.1.base])) ++ (eI .i64 [x_1]) = (eI .i64 ((want ++ [q2.1.base]) ++ [x_1])),
                det Try.prog (builtin .imag #[36] 47 [false].toArray [(.complex .f64 q2.1.sign.1 q2.1.sign.2)].toArray) = some (.value (.float .f64 q2.1.sign.2)),
                det Try.prog (convert 47 3 (.float .f64 q2.1.sign.2)) = some (.int .i64 v3),
                (decide (v3 > 0)) = false,
                noRefss 0 (eI .i64 ((want ++ [q2.1.base]) ++ [x_1])) = true,
                noRefss 0 (eI .i64 (q1 ++ v)) = true]) (by kernel_rfl)
              ⟨(decide_eq_true hc41), (nth_map _ h_x_), (nthPV_eq (nth_map _ h_x_)).2, (call_lontarlaw09_Split h_q2 _ _), (not_f hc42), (not_f hc42), (not_f hc42), rfl, (not_f hc42), (det_feql _ _ _ _ _ _), (not_f hc42), (Bool.eq_false_iff.2 hc43), (len_map2 hg45), (all_map (fun _ => rfl) _), (List.map_append).symm, rfl, (det_f2i Try.underlying47 Try.underlying3 h_v2), (decide_eq_true hc46), (nth_map _ h_x_1), (nthPV_eq (nth_map _ h_x_1)).2, (len_map2 hg47), (all_map (fun _ => rfl) _), (List.map_append).symm, rfl, (det_f2i Try.underlying47 Try.underlying3 h_v3), (decide_eq_false hc48), (map_noRef (fun _ => rfl) _), (map_noRef (fun _ => rfl) _), trivial⟩
        · obtain ⟨v3, h_v3, h⟩ := Option.bind_eq_some_iff.1 h
          rcases ite_some h with ⟨hc50, h⟩ | ⟨hc50, h⟩
          · obtain ⟨x_1, h_x_1, h⟩ := Option.bind_eq_some_iff.1 h
            obtain ⟨hg51, h⟩ := guardO_some h
            injection h with h; subst h
            exact codeH_sound (C := C18) (base := 0) wf _ (cs := [.b true, .reg 7 [(0, { it := .cs [(.lit (.int .i64 x_))] }), (1, { it := .cs [(.lit (.int .i64 x_))] })], .reg 8 [(1, { it := .res (.tup [(.agg [(.lit (.int .i64 q2.1.base)), (.lit (.complex .f64 q2.1.sign.1 q2.1.sign.2))]), (.lit (.bool q2.2))]) [] [] })], .reg 9 [(3, { w := some false }), (4, { w := some false }), (5, { it := .val (.float .f64 q2.1.sign.1), w := some false }), (6, { it := .val (.bool (feq q2.1.sign.1 4616189618054758400)), w := some false }), (7, { it := .b false })], .b false, .reg 11 [(4, { it := .sl (eI .i64 (want ++ [q2.1.base])) })], .reg 12 [(2, { it := .val (.float .f64 q2.1.sign.1) }), (3, { it := .val (.int .i64 v2) })], .b false, .reg 15 [(2, { it := .val (.float .f64 q2.1.sign.2) }), (3, { it := .val (.int .i64 v3) })], .b true, .reg 17 [(3, { it := .cs [(.lit (.int .i64 x_1))] }), (4, { it := .cs [(.lit (.int .i64 x_1))] }), (6, { it := .sl (eI .i64 ((want ++ [q2.1.base]) ++ [x_1])) })]]) (cs' := []) (ps := [(decide (v1 < ((q1 ++ v).length : Int))) = true,
                nthPV (eI .i64 (q1 ++ v)) v1 = some [(.lit (.int .i64 x_))],
                (eI .i64 (q1 ++ v))[v1.toNat]? = some [(.lit (.int .i64 x_))],
                CallK Try.prog false 33 [(.lit (.int .i64 x_))] [] (.tup [(.agg [(.lit (.int .i64 q2.1.base)), (.lit (.complex .f64 q2.1.sign.1 q2.1.sign.2))]), (.lit (.bool q2.2))]) [],
                (!q2.2) = false,
                (!q2.2) = false,
                (!q2.2) = false,
                det Try.prog (builtin .real #[36] 47 [false].toArray [(.complex .f64 q2.1.sign.1 q2.1.sign.2)].toArray) = some (.value (.float .f64 q2.1.sign.1)),
                (!q2.2) = false,
                det Try.prog (do eqGuard .eql 47 (.tmp 39) (.const (.float .f64 4616189618054758400)) (.float .f64 q2.1.sign.1) (.float .f64 4616189618054758400); binOp .eql 47 (.float .f64 q2.1.sign.1) (.float .f64 4616189618054758400)) = some (.bool (feq q2.1.sign.1 4616189618054758400)),
                (!q2.2) = false,
                (feq q2.1.sign.1 4616189618054758400) = false,
                (List.length (eI .i64 want) + List.length (eI .i64 [q2.1.base])) * 8 ≤ 2 ^ 46,
                (eI .i64 [q2.1.base]).all (fun c => c.length = 1 && c.all PV.one) = true,
                (eI .i64 want) ++ (eI .i64 [q2.1.base]) = (eI .i64 (want ++ [q2.1.base])),
                det Try.prog (builtin .real #[36] 47 [false].toArray [(.complex .f64 q2.1.sign.1 q2.1.sign.2)].toArray) = some (.value (.float .f64 q2.1.sign.1)),
                det Try.prog (convert 47 3 (.float .f64 q2.1.sign.1)) = some (.int .i64 v2),
                (decide (v2 > 0)) = false,
                det Try.prog (builtin .imag #[36] 47 [false].toArray [(.complex .f64 q2.1.sign.1 q2.1.sign.2)].toArray) = some (.value (.float .f64 q2.1.sign.2)),
                det Try.prog (convert 47 3 (.float .f64 q2.1.sign.2)) = some (.int .i64 v3),
                (decide (v3 > 0)) = true,
                nthPV (eI .i64 [0, 768, 769, 777, 771, 803]) v3 = some [(.lit (.int .i64 x_1))],
                (eI .i64 [0, 768, 769, 777, 771, 803])[v3.toNat]? = some [(.lit (.int .i64 x_1))],
                (List.length (eI .i64 (want ++ [q2.1.base])) + List.length (eI .i64 [x_1])) * 8 ≤ 2 ^ 46,
                (eI .i64 [x_1]).all (fun c => c.length = 1 && c.all PV.one) = true,
                (eI .i64 (want ++ [q2.1.base])) ++ (eI .i64 [x_1]) = (eI .i64 ((want ++ [q2.1.base]) ++ [x_1])),
                noRefss 0 (eI .i64 ((want ++ [q2.1.base]) ++ [x_1])) = true,
                noRefss 0 (eI .i64 (q1 ++ v)) = true]) (by kernel_rfl)
              ⟨(decide_eq_true hc41), (nth_map _ h_x_), (nthPV_eq (nth_map _ h_x_)).2, (call_lontarlaw09_Split h_q2 _ _), (not_f hc42), (not_f hc42), (not_f hc42), rfl, (not_f hc42), (det_feql _ _ _ _ _ _), (not_f hc42), (Bool.eq_false_iff.2 hc43), (len_map2 hg45), (all_map (fun _ => rfl) _), (List.map_append).symm, rfl, (det_f2i Try.underlying47 Try.underlying3 h_v2), (decide_eq_false hc46), rfl, (det_f2i Try.underlying47 Try.underlying3 h_v3), (decide_eq_true hc50), (nth_map _ h_x_1), (nthPV_eq (nth_map _ h_x_1)).2, (len_map2 hg51), (all_map (fun _ => rfl) _), (List.map_append).symm, (map_noRef (fun _ => rfl) _), (map_noRef (fun _ => rfl) _), trivial⟩
          · injection h with h; subst h
            exact codeH_sound (C := C18) (base := 0) wf _ (cs := [.b true, .reg 7 [(0, { it := .cs [(.lit (.int .i64 x_))] }), (1, { it := .cs [(.lit (.int .i64 x_))] })], .reg 8 [(1, { it := .res (.tup [(.agg [(.lit (.int .i64 q2.1.base)), (.lit (.complex .f64 q2.1.sign.1 q2.1.sign.2))]), (.lit (.bool q2.2))]) [] [] })], .reg 9 [(3, { w := some false }), (4, { w := some false }), (5, { it := .val (.float .f64 q2.1.sign.1), w := some false }), (6, { it := .val (.bool (feq q2.1.sign.1 4616189618054758400)), w := some false }), (7, { it := .b false })], .b false, .reg 11 [(4, { it := .sl (eI .i64 (want ++ [q2.1.base])) })], .reg 12 [(2, { it := .val (.float .f64 q2.1.sign.1) }), (3, { it := .val (.int .i64 v2) })], .b false, .reg 15 [(2, { it := .val (.float .f64 q2.1.sign.2) }), (3, { it := .val (.int .i64 v3) })], .b false]) (cs' := []) (ps := [(decide (v1 < ((q1 ++ v).length : Int))) = true,
                nthPV (eI .i64 (q1 ++ v)) v1 = some [(.lit (.int .i64 x_))],
                (eI .i64 (q1 ++ v))[v1.toNat]? = some [(.lit (.int .i64 x_))],
                CallK Try.prog false 33 [(.lit (.int .i64 x_))] [] (.tup [(.agg [(.lit (.int .i64 q2.1.base)), (.lit (.complex .f64 q2.1.sign.1 q2.1.sign.2))]), (.lit (.bool q2.2))]) [],
                (!q2.2) = false,
                (!q2.2) = false,
                (!q2.2) = false,
                det Try.prog (builtin .real #[36] 47 [false].toArray [(.complex .f64 q2.1.sign.1 q2.1.sign.2)].toArray) = some (.value (.float .f64 q2.1.sign.1)),
                (!q2.2) = false,
                det Try.prog (do eqGuard .eql 47 (.tmp 39) (.const (.float .f64 4616189618054758400)) (.float .f64 q2.1.sign.1) (.float .f64 4616189618054758400); binOp .eql 47 (.float .f64 q2.1.sign.1) (.float .f64 4616189618054758400)) = some (.bool (feq q2.1.sign.1 4616189618054758400)),
                (!q2.2) = false,
                (feq q2.1.sign.1 4616189618054758400) = false,
                (List.length (eI .i64 want) + List.length (eI .i64 [q2.1.base])) * 8 ≤ 2 ^ 46,
                (eI .i64 [q2.1.base]).all (fun c => c.length = 1 && c.all PV.one) = true,
                (eI .i64 want) ++ (eI .i64 [q2.1.base]) = (eI .i64 (want ++ [q2.1.base])),
                det Try.prog (builtin .real #[36] 47 [false].toArray [(.complex .f64 q2.1.sign.1 q2.1.sign.2)].toArray) = some (.value (.float .f64 q2.1.sign.1)),
                det Try.prog (convert 47 3 (.float .f64 q2.1.sign.1)) = some (.int .i64 v2),
                (decide (v2 > 0)) = false,
                det Try.prog (builtin .imag #[36] 47 [false].toArray [(.complex .f64 q2.1.sign.1 q2.1.sign.2)].toArray) = some (.value (.float .f64 q2.1.sign.2)),
                det Try.prog (convert 47 3 (.float .f64 q2.1.sign.2)) = some (.int .i64 v3),
                (decide (v3 > 0)) = false,
                noRefss 0 (eI .i64 (want ++ [q2.1.base])) = true,
                noRefss 0 (eI .i64 (q1 ++ v)) = true]) (by kernel_rfl)
              ⟨(decide_eq_true hc41), (nth_map _ h_x_), (nthPV_eq (nth_map _ h_x_)).2, (call_lontarlaw09_Split h_q2 _ _), (not_f hc42), (not_f hc42), (not_f hc42), rfl, (not_f hc42), (det_feql _ _ _ _ _ _), (not_f hc42), (Bool.eq_false_iff.2 hc43), (len_map2 hg45), (all_map (fun _ => rfl) _), (List.map_append).symm, rfl, (det_f2i Try.underlying47 Try.underlying3 h_v2), (decide_eq_false hc46), rfl, (det_f2i Try.underlying47 Try.underlying3 h_v3), (decide_eq_false hc50), (map_noRef (fun _ => rfl) _), (map_noRef (fun _ => rfl) _), trivial⟩
    · obtain ⟨hg52, h⟩ := guardO_some h
      injection h with h; subst h
      exact codeH_sound (C := C18) (base := 0) wf _ (cs := [.b true, .reg 7 [(0, { it := .cs [(.lit (.int .i64 x_))] }), (1, { it := .cs [(.lit (.int .i64 x_))] })], .reg 8 [(1, { it := .res (.tup [(.agg [(.lit (.int .i64 q2.1.base)), (.lit (.complex .f64 q2.1.sign.1 q2.1.sign.2))]), (.lit (.bool q2.2))]) [] [] })], .reg 9 [(3, { w := some true }), (4, { w := some true }), (5, { w := some true }), (6, { w := some true }), (7, { it := .b true })], .b true, .reg 10 [(3, { it := .sl (eI .i64 (want ++ [x_])) })]]) (cs' := []) (ps := [(decide (v1 < ((q1 ++ v).length : Int))) = true,
          nthPV (eI .i64 (q1 ++ v)) v1 = some [(.lit (.int .i64 x_))],
          (eI .i64 (q1 ++ v))[v1.toNat]? = some [(.lit (.int .i64 x_))],
          CallK Try.prog false 33 [(.lit (.int .i64 x_))] [] (.tup [(.agg [(.lit (.int .i64 q2.1.base)), (.lit (.complex .f64 q2.1.sign.1 q2.1.sign.2))]), (.lit (.bool q2.2))]) [],
          (!q2.2) = true,
          (!q2.2) = true,
          (!q2.2) = true,
          (!q2.2) = true,
          (!q2.2) = true,
          true = true,
          (List.length (eI .i64 want) + List.length (eI .i64 [x_])) * 8 ≤ 2 ^ 46,
          (eI .i64 [x_]).all (fun c => c.length = 1 && c.all PV.one) = true,
          (eI .i64 want) ++ (eI .i64 [x_]) = (eI .i64 (want ++ [x_])),
          noRefss 0 (eI .i64 (want ++ [x_])) = true,
          noRefss 0 (eI .i64 (q1 ++ v)) = true]) (by kernel_rfl)
        ⟨(decide_eq_true hc41), (nth_map _ h_x_), (nthPV_eq (nth_map _ h_x_)).2, (call_lontarlaw09_Split h_q2 _ _), (not_t (Bool.eq_false_iff.2 hc42)), (not_t (Bool.eq_false_iff.2 hc42)), (not_t (Bool.eq_false_iff.2 hc42)), (not_t (Bool.eq_false_iff.2 hc42)), (not_t (Bool.eq_false_iff.2 hc42)), rfl, (len_map2 hg52), (all_map (fun _ => rfl) _), (List.map_append).symm, (map_noRef (fun _ => rfl) _), (map_noRef (fun _ => rfl) _), trivial⟩
  · injection h with h; subst h
    exact codeH_sound (C := C18) (base := 0) wf _ (cs := [.b false]) (cs' := []) (ps := [(decide (v1 < ((q1 ++ v).length : Int))) = false]) (by kernel_rfl)
      ⟨(decide_eq_false hc41), trivial⟩

theorem runs_lontarlaw10_VcanonApart_L0 (q1 : (List Int)) (v : (List Int)) {nn} {vv : (List Int) × Int} {rr} (h : loopM (lontarlaw10_VcanonApart_L0 q1 v) nn vv = some rr) : RunsB Try.prog 0 (.loop (sub [1, 1, 1, 1, 0, 1, 0, 0] (fbody Try.f18))) (S_lontarlaw10_VcanonApart_L0 q1 v vv) (E_lontarlaw10_VcanonApart_L0 q1 v rr).1 (E_lontarlaw10_VcanonApart_L0 q1 v rr).2 :=
  loop_runs (by intro r; simp [E_lontarlaw10_VcanonApart_L0]) (body_lontarlaw10_VcanonApart_L0 q1 v) nn vv rr h

set_option maxRecDepth 100000 in
theorem knows_lontarlaw10_VcanonApart (l : (List Int)) (ss : (List Int)) {r} (h : lontarlaw10_VcanonApart l ss = some r) : Knows Try.prog 18 [(.sl .view false (eI .u8 l)), (.sl .view false (eI .i64 ss))] (.lit (.bool r)) := by
  unfold lontarlaw10_VcanonApart at h
  obtain ⟨q, h_q, h⟩ := Option.bind_eq_some_iff.1 h
  rcases ite_some h with ⟨hc1, h⟩ | ⟨hc1, h⟩
  · obtain ⟨q1, h_q1, h⟩ := Option.bind_eq_some_iff.1 h
    obtain ⟨v, h_v, h⟩ := Option.bind_eq_some_iff.1 h
    obtain ⟨hg4, h⟩ := guardO_some h
    obtain ⟨l53, hr_l53, h⟩ := Option.bind_eq_some_iff.1 h
    have hl_l53 := runs_lontarlaw10_VcanonApart_L0 q1 v hr_l53
    obtain ⟨want, v1, v2⟩ := l53
    dsimp only at h
    obtain ⟨q2, h_q2, h⟩ := Option.bind_eq_some_iff.1 h
    obtain ⟨q3, h_q3, h⟩ := Option.bind_eq_some_iff.1 h
    injection h with h; subst h
    exact Knows.of (C := C18) wf Try.func18 (cs := [.reg 1 [(0, { it := .res (.lit (.bool q)) [] [] })], .b false, .dr { frz := [1], lin := [0], fz := [1], steps := [⟨[0, 15], false, {}⟩, ⟨[15, 16], false, { it := .res (.sl (.excl 3) false (eI .i64 q1)) [] [] }⟩, ⟨[1, 17], false, {}⟩, ⟨[1, 18], false, {}⟩, ⟨[18, 19], false, { it := .val (.int .i64 (ss.length : Int)) }⟩, ⟨[19, 20], false, { it := .val (.int .i64 (minI (ss.length : Int) 30)) }⟩, ⟨[17, 20, 21], false, { it := .sl (eI .i64 v) }⟩, ⟨[16, 21, 22], false, { it := .sl (eI .i64 (q1 ++ v)) }⟩, ⟨[6, 22], false, {}⟩] }, .reg 5 [(1, { it := .val (.int .i64 ((q1 ++ v).length : Int)) })], .lp (.exit 0) (X_lontarlaw10_VcanonApart_L0_0 q1 v want v1 v2), .reg 19 [(1, { it := .res (.sl (.excl 3) false (eI .i64 q2)) [] [] }), (3, { it := .res (.lit (.bool q3)) [] [] })]]) (args := [(.sl .view false (eI .u8 l)), (.sl .view false (eI .i64 ss))]) (r := (.lit (.bool q3))) (ps := [CallK Try.prog false 40 [] [] (.lit (.bool q)) [],
        (!q) = false,
        CallK Try.prog true 41 [(.sl .view false (eI .u8 l))] [] (.sl (.excl 3) false (eI .i64 q1)) [],
        Value.int .i64 (↑(List.length (eI .i64 ss)) : Int) = .int .i64 (ss.length : Int),
        det Try.prog (builtin .min #[3, 3] 3 [false, true].toArray [(.int .i64 (ss.length : Int)), (.int .i64 30)].toArray) = some (.value (.int .i64 (minI (ss.length : Int) 30))),
        0 ≤ (0 : Int) ∧ (0 : Int) ≤ (minI (ss.length : Int) 30) ∧ (minI (ss.length : Int) 30) ≤ (↑(List.length (eI .i64 ss)) : Int),
        ((eI .i64 ss).drop (0 : Int).toNat).take ((minI (ss.length : Int) 30).toNat - (0 : Int).toNat) = (eI .i64 v),
        firstLen 1 (eI .i64 v) = true,
        (List.length (eI .i64 q1) + List.length (eI .i64 v)) * 8 ≤ 2 ^ 46,
        (eI .i64 v).all (fun c => c.length = 1 && c.all PV.one) = true,
        (eI .i64 q1) ++ (eI .i64 v) = (eI .i64 (q1 ++ v)),
        Value.int .i64 (↑(List.length (eI .i64 (q1 ++ v))) : Int) = .int .i64 ((q1 ++ v).length : Int),
        RunsB Try.prog 0 (.loop (sub [1, 1, 1, 1, 0, 1, 0, 0] (fbody Try.f18))) (S_lontarlaw10_VcanonApart_L0 q1 v ([], 0)) (.exit 0) (X_lontarlaw10_VcanonApart_L0_0 q1 v want v1 v2),
        CallK Try.prog false 45 [(.sl .view false (eI .i64 (q1 ++ v)))] [] (.sl (.excl 3) false (eI .i64 q2)) [],
        CallK Try.prog false 42 [(.sl .view false (eI .i64 q2)), (.sl .view false (eI .i64 want))] [] (.lit (.bool q3)) []]) (by kernel_rfl)
      ⟨(call_lontarlaw10_awake h_q _ _), (not_f hc1), (call_lontarlaw10_Some h_q1 _ _), (len_val _ _), (det_min _ _ _ _ _ _ _), (sl_b h_v), (sl_e h_v), (first_map (fun _ => rfl) _), (len_map2 hg4), (all_map (fun _ => rfl) _), (List.map_append).symm, (len_val _ _), hl_l53, (call_vcanon_Apart h_q2 _ _), (call_lontarlaw01_Units h_q3 _ _), trivial⟩
  · injection h with h; subst h
    exact Knows.of (C := C18) wf Try.func18 (cs := [.reg 1 [(0, { it := .res (.lit (.bool q)) [] [] })], .b true]) (args := [(.sl .view false (eI .u8 l)), (.sl .view false (eI .i64 ss))]) (r := (.lit (.bool false))) (ps := [CallK Try.prog false 40 [] [] (.lit (.bool q)) [],
        (!q) = true]) (by kernel_rfl)
      ⟨(call_lontarlaw10_awake h_q _ _), (not_t (Bool.eq_false_iff.2 hc1)), trivial⟩
theorem call_lontarlaw10_VcanonApart {l : (List Int)} {ss : (List Int)} {r} (h : lontarlaw10_VcanonApart l ss = some r) (kp : Bool) (σ : List Bx) : CallK Try.prog kp 18 [(.sl .view false (eI .u8 l)), (.sl .view false (eI .i64 ss))] σ (.lit (.bool r)) σ :=
  (knows_lontarlaw10_VcanonApart l ss h).call (and_t (map_noRef (fun _ => rfl) _) (and_t (map_noRef (fun _ => rfl) _) rfl)) rfl kp σ
end Go.Proofs.Ytpbbgkmpjcddbaa
