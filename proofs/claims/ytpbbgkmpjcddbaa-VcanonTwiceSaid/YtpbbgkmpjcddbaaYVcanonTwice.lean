/- Walks, printed by wip/gen.py. -/
import Derived.Test.YtpbbgkmpjcddbaaMVcanonTwice
import Derived.Test.YtpbbgkmpjcddbaaYd
set_option linter.all false
namespace Go.Proofs.Ytpbbgkmpjcddbaa
open Go.AM Go.AM.M

def h17 : Nat → Option Hint
| 0 => some { keep := [0, 1] }
| 1 => some { keep := [0, 1, 9] }
| 2 => some { keep := [4] }
| 3 => some { keep := [17, 18, 19] }
| 4 => some { keep := [17, 18, 19, 20] }
| 5 => some { keep := [6, 17, 18, 19] }
| 6 => some { keep := [6, 7, 17, 18, 19] }
| 7 => some { keep := [17, 18, 19, 36] }
| 8 => some { keep := [4] }
| 9 => some { keep := [17, 18, 19] }
| 10 => some { keep := [4] }
| _ => none

noncomputable def C17 : Ctx := { P := Try.prog, mv := fun _ _ => false, res := resOf Try.f17, live := h17, call := fun _ _ _ => none }

def S_lontarlaw10_VcanonTwice_L0 (q1 : (List Int)) (v : (List Int)) (vv : Int) : St :=
  match vv with
  | v1 => { ts := [(17, (.sl (.excl 24) false (eL (eI .i64) [q1, v]))), (18, (.lit (.int .i64 ([q1, v].length : Int)))), (19, (.lit (.int .i64 v1)))], n := 38, σ := [] }

def X_lontarlaw10_VcanonTwice_L0_0 (q1 : (List Int)) (v : (List Int)) : St := { ts := [(4, (.lit (.bool false)))], n := 38, σ := [] }

def X_lontarlaw10_VcanonTwice_L0_1 (q1 : (List Int)) (v : (List Int)) : St := { ts := [(4, (.lit (.bool false)))], n := 38, σ := [] }

def X_lontarlaw10_VcanonTwice_L0_2 (q1 : (List Int)) (v : (List Int)) (v1 : Int) (v2 : Bool) : St := { ts := [(17, (.sl (.excl 24) false (eL (eI .i64) [q1, v]))), (18, (.lit (.int .i64 ([q1, v].length : Int)))), (19, (.lit (.int .i64 v1))), (20, (.lit (.bool v2)))], n := 38, σ := [] }

def E_lontarlaw10_VcanonTwice_L0 (q1 : (List Int)) (v : (List Int)) (vv : lontarlaw10_VcanonTwice_L0_R) : Exit × St :=
  match vv with
  | .x0 => (.ret, X_lontarlaw10_VcanonTwice_L0_0 q1 v)
  | .x1 => (.ret, X_lontarlaw10_VcanonTwice_L0_1 q1 v)
  | .x2 v1 v2 => (.exit 0, X_lontarlaw10_VcanonTwice_L0_2 q1 v v1 v2)

set_option maxRecDepth 100000 in
theorem body_lontarlaw10_VcanonTwice_L0 (q1 : (List Int)) (v : (List Int)) (v1 : Int) (x) (h : lontarlaw10_VcanonTwice_L0 q1 v v1 = some x) : RunsB Try.prog 0 (sub [1, 1, 0, 1, 0, 0] (fbody Try.f17)) (S_lontarlaw10_VcanonTwice_L0 q1 v v1) (sideX (E_lontarlaw10_VcanonTwice_L0 q1 v) x) (sideS (S_lontarlaw10_VcanonTwice_L0 q1 v) (E_lontarlaw10_VcanonTwice_L0 q1 v) x) := by
  unfold lontarlaw10_VcanonTwice_L0 at h
  dsimp only at h
  rcases ite_some h with ⟨hc11, h⟩ | ⟨hc11, h⟩
  · obtain ⟨x_, h_x_, h⟩ := Option.bind_eq_some_iff.1 h
    obtain ⟨q2, h_q2, h⟩ := Option.bind_eq_some_iff.1 h
    rcases ite_some h with ⟨hc12, h⟩ | ⟨hc12, h⟩
    · injection h with h; subst h
      exact codeH_sound (C := C17) (base := 0) wf _ (cs := [.b true, .reg 5 [(0, { it := .cs [(.sl .view false (eI .i64 x_))] }), (1, { it := .cs [(.sl .view false (eI .i64 x_))] })], .reg 6 [(1, { it := .res (.sl (.excl 3) false (eI .i64 q2)) [] [] })], .reg 7 [(1, { it := .val (.int .i64 (q2.length : Int)) }), (3, { it := .val (.int .i64 (x_.length : Int)) }), (6, { w := some true }), (7, { w := some true }), (8, { w := some true }), (9, { w := some true }), (10, { w := some true }), (11, { it := .b true })], .b true]) (cs' := []) (ps := [(decide (v1 < ([q1, v].length : Int))) = true,
          nthPV (eL (eI .i64) [q1, v]) v1 = some [(.sl .view false (eI .i64 x_))],
          (eL (eI .i64) [q1, v])[v1.toNat]? = some [(.sl .view false (eI .i64 x_))],
          CallK Try.prog false 43 [(.sl .view false (eI .i64 x_))] [] (.sl (.excl 3) false (eI .i64 q2)) [],
          Value.int .i64 (↑(List.length (eI .i64 q2)) : Int) = .int .i64 (q2.length : Int),
          Value.int .i64 (↑(List.length (eI .i64 x_)) : Int) = .int .i64 (x_.length : Int),
          (decide ((q2.length : Int) > (x_.length : Int))) = true,
          (decide ((q2.length : Int) > (x_.length : Int))) = true,
          (decide ((q2.length : Int) > (x_.length : Int))) = true,
          (decide ((q2.length : Int) > (x_.length : Int))) = true,
          (decide ((q2.length : Int) > (x_.length : Int))) = true,
          (decide ((q2.length : Int) > (x_.length : Int))) = true,
          true = true]) (by kernel_rfl)
        ⟨(decide_eq_true hc11), (nth_map _ h_x_), (nthPV_eq (nth_map _ h_x_)).2, (call_vcanon_All h_q2 _ _), (len_val _ _), (len_val _ _), (decide_eq_true hc12), (decide_eq_true hc12), (decide_eq_true hc12), (decide_eq_true hc12), (decide_eq_true hc12), (decide_eq_true hc12), rfl, trivial⟩
    · obtain ⟨q3, h_q3, h⟩ := Option.bind_eq_some_iff.1 h
      obtain ⟨q4, h_q4, h⟩ := Option.bind_eq_some_iff.1 h
      rcases ite_some h with ⟨hc13, h⟩ | ⟨hc13, h⟩
      · injection h with h; subst h
        exact codeH_sound (C := C17) (base := 0) wf _ (cs := [.b true, .reg 5 [(0, { it := .cs [(.sl .view false (eI .i64 x_))] }), (1, { it := .cs [(.sl .view false (eI .i64 x_))] })], .reg 6 [(1, { it := .res (.sl (.excl 3) false (eI .i64 q2)) [] [] })], .reg 7 [(1, { it := .val (.int .i64 (q2.length : Int)) }), (3, { it := .val (.int .i64 (x_.length : Int)) }), (6, { w := some false }), (7, { it := .res (.sl (.excl 3) false (eI .i64 q3)) [] [], w := some false }), (8, { w := some false }), (9, { it := .res (.lit (.bool q4)) [] [], w := some false }), (10, { w := some false }), (11, { it := .b false })], .b false]) (cs' := []) (ps := [(decide (v1 < ([q1, v].length : Int))) = true,
            nthPV (eL (eI .i64) [q1, v]) v1 = some [(.sl .view false (eI .i64 x_))],
            (eL (eI .i64) [q1, v])[v1.toNat]? = some [(.sl .view false (eI .i64 x_))],
            CallK Try.prog false 43 [(.sl .view false (eI .i64 x_))] [] (.sl (.excl 3) false (eI .i64 q2)) [],
            Value.int .i64 (↑(List.length (eI .i64 q2)) : Int) = .int .i64 (q2.length : Int),
            Value.int .i64 (↑(List.length (eI .i64 x_)) : Int) = .int .i64 (x_.length : Int),
            (decide ((q2.length : Int) > (x_.length : Int))) = false,
            (decide ((q2.length : Int) > (x_.length : Int))) = false,
            CallK Try.prog false 43 [(.sl .view false (eI .i64 q2))] [] (.sl (.excl 3) false (eI .i64 q3)) [],
            (decide ((q2.length : Int) > (x_.length : Int))) = false,
            (decide ((q2.length : Int) > (x_.length : Int))) = false,
            CallK Try.prog false 42 [(.sl .view false (eI .i64 q3)), (.sl .view false (eI .i64 q2))] [] (.lit (.bool q4)) [],
            (decide ((q2.length : Int) > (x_.length : Int))) = false,
            (decide ((q2.length : Int) > (x_.length : Int))) = false,
            (!q4) = false]) (by kernel_rfl)
          ⟨(decide_eq_true hc11), (nth_map _ h_x_), (nthPV_eq (nth_map _ h_x_)).2, (call_vcanon_All h_q2 _ _), (len_val _ _), (len_val _ _), (decide_eq_false hc12), (decide_eq_false hc12), (call_vcanon_All h_q3 _ _), (decide_eq_false hc12), (decide_eq_false hc12), (call_lontarlaw01_Units h_q4 _ _), (decide_eq_false hc12), (decide_eq_false hc12), (not_f hc13), trivial⟩
      · injection h with h; subst h
        exact codeH_sound (C := C17) (base := 0) wf _ (cs := [.b true, .reg 5 [(0, { it := .cs [(.sl .view false (eI .i64 x_))] }), (1, { it := .cs [(.sl .view false (eI .i64 x_))] })], .reg 6 [(1, { it := .res (.sl (.excl 3) false (eI .i64 q2)) [] [] })], .reg 7 [(1, { it := .val (.int .i64 (q2.length : Int)) }), (3, { it := .val (.int .i64 (x_.length : Int)) }), (6, { w := some false }), (7, { it := .res (.sl (.excl 3) false (eI .i64 q3)) [] [], w := some false }), (8, { w := some false }), (9, { it := .res (.lit (.bool q4)) [] [], w := some false }), (10, { w := some false }), (11, { it := .b false })], .b true]) (cs' := []) (ps := [(decide (v1 < ([q1, v].length : Int))) = true,
            nthPV (eL (eI .i64) [q1, v]) v1 = some [(.sl .view false (eI .i64 x_))],
            (eL (eI .i64) [q1, v])[v1.toNat]? = some [(.sl .view false (eI .i64 x_))],
            CallK Try.prog false 43 [(.sl .view false (eI .i64 x_))] [] (.sl (.excl 3) false (eI .i64 q2)) [],
            Value.int .i64 (↑(List.length (eI .i64 q2)) : Int) = .int .i64 (q2.length : Int),
            Value.int .i64 (↑(List.length (eI .i64 x_)) : Int) = .int .i64 (x_.length : Int),
            (decide ((q2.length : Int) > (x_.length : Int))) = false,
            (decide ((q2.length : Int) > (x_.length : Int))) = false,
            CallK Try.prog false 43 [(.sl .view false (eI .i64 q2))] [] (.sl (.excl 3) false (eI .i64 q3)) [],
            (decide ((q2.length : Int) > (x_.length : Int))) = false,
            (decide ((q2.length : Int) > (x_.length : Int))) = false,
            CallK Try.prog false 42 [(.sl .view false (eI .i64 q3)), (.sl .view false (eI .i64 q2))] [] (.lit (.bool q4)) [],
            (decide ((q2.length : Int) > (x_.length : Int))) = false,
            (decide ((q2.length : Int) > (x_.length : Int))) = false,
            (!q4) = true]) (by kernel_rfl)
          ⟨(decide_eq_true hc11), (nth_map _ h_x_), (nthPV_eq (nth_map _ h_x_)).2, (call_vcanon_All h_q2 _ _), (len_val _ _), (len_val _ _), (decide_eq_false hc12), (decide_eq_false hc12), (call_vcanon_All h_q3 _ _), (decide_eq_false hc12), (decide_eq_false hc12), (call_lontarlaw01_Units h_q4 _ _), (decide_eq_false hc12), (decide_eq_false hc12), (not_t (Bool.eq_false_iff.2 hc13)), trivial⟩
  · injection h with h; subst h
    exact codeH_sound (C := C17) (base := 0) wf _ (cs := [.b false]) (cs' := []) (ps := [(decide (v1 < ([q1, v].length : Int))) = false]) (by kernel_rfl)
      ⟨(decide_eq_false hc11), trivial⟩

theorem runs_lontarlaw10_VcanonTwice_L0 (q1 : (List Int)) (v : (List Int)) {nn} {vv : Int} {rr} (h : loopM (lontarlaw10_VcanonTwice_L0 q1 v) nn vv = some rr) : RunsB Try.prog 0 (.loop (sub [1, 1, 0, 1, 0, 0] (fbody Try.f17))) (S_lontarlaw10_VcanonTwice_L0 q1 v vv) (E_lontarlaw10_VcanonTwice_L0 q1 v rr).1 (E_lontarlaw10_VcanonTwice_L0 q1 v rr).2 :=
  loop_runs (by intro r; cases r <;> simp [E_lontarlaw10_VcanonTwice_L0]) (body_lontarlaw10_VcanonTwice_L0 q1 v) nn vv rr h

set_option maxRecDepth 100000 in
theorem knows_lontarlaw10_VcanonTwice (l : (List Int)) (ss : (List Int)) {r} (h : lontarlaw10_VcanonTwice l ss = some r) : Knows Try.prog 17 [(.sl .view false (eI .u8 l)), (.sl .view false (eI .i64 ss))] (.lit (.bool r)) := by
  unfold lontarlaw10_VcanonTwice at h
  obtain ⟨q, h_q, h⟩ := Option.bind_eq_some_iff.1 h
  rcases ite_some h with ⟨hc1, h⟩ | ⟨hc1, h⟩
  · obtain ⟨q1, h_q1, h⟩ := Option.bind_eq_some_iff.1 h
    obtain ⟨v, h_v, h⟩ := Option.bind_eq_some_iff.1 h
    obtain ⟨l14, hr_l14, h⟩ := Option.bind_eq_some_iff.1 h
    have hl_l14 := runs_lontarlaw10_VcanonTwice_L0 q1 v hr_l14
    cases l14 with
    | x0 =>
      dsimp only at h
      injection h with h; subst h
      exact Knows.of (C := C17) wf Try.func17 (cs := [.reg 1 [(0, { it := .res (.lit (.bool q)) [] [] })], .b false, .dr { frz := [1], lin := [0], fz := [1], steps := [⟨[0, 10], false, {}⟩, ⟨[10, 11], false, { it := .res (.sl (.excl 3) false (eI .i64 q1)) [] [] }⟩, ⟨[1, 12], false, {}⟩, ⟨[1, 13], false, {}⟩, ⟨[13, 14], false, { it := .val (.int .i64 (ss.length : Int)) }⟩, ⟨[14, 15], false, { it := .val (.int .i64 (minI (ss.length : Int) 60)) }⟩, ⟨[12, 15, 16], false, { it := .sl (eI .i64 v) }⟩, ⟨[11, 16, 17], false, {}⟩, ⟨[17, 18], false, { it := .val (.int .i64 ([q1, v].length : Int)) }⟩, ⟨[19], false, {}⟩] }, .lp (.ret) (X_lontarlaw10_VcanonTwice_L0_0 q1 v)]) (args := [(.sl .view false (eI .u8 l)), (.sl .view false (eI .i64 ss))]) (r := (.lit (.bool false))) (ps := [CallK Try.prog false 40 [] [] (.lit (.bool q)) [],
          (!q) = false,
          CallK Try.prog true 41 [(.sl .view false (eI .u8 l))] [] (.sl (.excl 3) false (eI .i64 q1)) [],
          Value.int .i64 (↑(List.length (eI .i64 ss)) : Int) = .int .i64 (ss.length : Int),
          det Try.prog (builtin .min #[3, 3] 3 [false, true].toArray [(.int .i64 (ss.length : Int)), (.int .i64 60)].toArray) = some (.value (.int .i64 (minI (ss.length : Int) 60))),
          0 ≤ (0 : Int) ∧ (0 : Int) ≤ (minI (ss.length : Int) 60) ∧ (minI (ss.length : Int) 60) ≤ (↑(List.length (eI .i64 ss)) : Int),
          ((eI .i64 ss).drop (0 : Int).toNat).take ((minI (ss.length : Int) 60).toNat - (0 : Int).toNat) = (eI .i64 v),
          firstLen 1 (eI .i64 v) = true,
          Value.int .i64 (↑(List.length (eL (eI .i64) [q1, v])) : Int) = .int .i64 ([q1, v].length : Int),
          RunsB Try.prog 0 (.loop (sub [1, 1, 0, 1, 0, 0] (fbody Try.f17))) (S_lontarlaw10_VcanonTwice_L0 q1 v 0) (.ret) (X_lontarlaw10_VcanonTwice_L0_0 q1 v)]) (by kernel_rfl)
        ⟨(call_lontarlaw10_awake h_q _ _), (not_f hc1), (call_lontarlaw10_Some h_q1 _ _), (len_val _ _), (det_min _ _ _ _ _ _ _), (sl_b h_v), (sl_e h_v), (first_map (fun _ => rfl) _), (len_val _ _), hl_l14, trivial⟩
    | x1 =>
      dsimp only at h
      injection h with h; subst h
      exact Knows.of (C := C17) wf Try.func17 (cs := [.reg 1 [(0, { it := .res (.lit (.bool q)) [] [] })], .b false, .dr { frz := [1], lin := [0], fz := [1], steps := [⟨[0, 10], false, {}⟩, ⟨[10, 11], false, { it := .res (.sl (.excl 3) false (eI .i64 q1)) [] [] }⟩, ⟨[1, 12], false, {}⟩, ⟨[1, 13], false, {}⟩, ⟨[13, 14], false, { it := .val (.int .i64 (ss.length : Int)) }⟩, ⟨[14, 15], false, { it := .val (.int .i64 (minI (ss.length : Int) 60)) }⟩, ⟨[12, 15, 16], false, { it := .sl (eI .i64 v) }⟩, ⟨[11, 16, 17], false, {}⟩, ⟨[17, 18], false, { it := .val (.int .i64 ([q1, v].length : Int)) }⟩, ⟨[19], false, {}⟩] }, .lp (.ret) (X_lontarlaw10_VcanonTwice_L0_1 q1 v)]) (args := [(.sl .view false (eI .u8 l)), (.sl .view false (eI .i64 ss))]) (r := (.lit (.bool false))) (ps := [CallK Try.prog false 40 [] [] (.lit (.bool q)) [],
          (!q) = false,
          CallK Try.prog true 41 [(.sl .view false (eI .u8 l))] [] (.sl (.excl 3) false (eI .i64 q1)) [],
          Value.int .i64 (↑(List.length (eI .i64 ss)) : Int) = .int .i64 (ss.length : Int),
          det Try.prog (builtin .min #[3, 3] 3 [false, true].toArray [(.int .i64 (ss.length : Int)), (.int .i64 60)].toArray) = some (.value (.int .i64 (minI (ss.length : Int) 60))),
          0 ≤ (0 : Int) ∧ (0 : Int) ≤ (minI (ss.length : Int) 60) ∧ (minI (ss.length : Int) 60) ≤ (↑(List.length (eI .i64 ss)) : Int),
          ((eI .i64 ss).drop (0 : Int).toNat).take ((minI (ss.length : Int) 60).toNat - (0 : Int).toNat) = (eI .i64 v),
          firstLen 1 (eI .i64 v) = true,
          Value.int .i64 (↑(List.length (eL (eI .i64) [q1, v])) : Int) = .int .i64 ([q1, v].length : Int),
          RunsB Try.prog 0 (.loop (sub [1, 1, 0, 1, 0, 0] (fbody Try.f17))) (S_lontarlaw10_VcanonTwice_L0 q1 v 0) (.ret) (X_lontarlaw10_VcanonTwice_L0_1 q1 v)]) (by kernel_rfl)
        ⟨(call_lontarlaw10_awake h_q _ _), (not_f hc1), (call_lontarlaw10_Some h_q1 _ _), (len_val _ _), (det_min _ _ _ _ _ _ _), (sl_b h_v), (sl_e h_v), (first_map (fun _ => rfl) _), (len_val _ _), hl_l14, trivial⟩
    | x2 v1 v2 =>
      dsimp only at h
      injection h with h; subst h
      exact Knows.of (C := C17) wf Try.func17 (cs := [.reg 1 [(0, { it := .res (.lit (.bool q)) [] [] })], .b false, .dr { frz := [1], lin := [0], fz := [1], steps := [⟨[0, 10], false, {}⟩, ⟨[10, 11], false, { it := .res (.sl (.excl 3) false (eI .i64 q1)) [] [] }⟩, ⟨[1, 12], false, {}⟩, ⟨[1, 13], false, {}⟩, ⟨[13, 14], false, { it := .val (.int .i64 (ss.length : Int)) }⟩, ⟨[14, 15], false, { it := .val (.int .i64 (minI (ss.length : Int) 60)) }⟩, ⟨[12, 15, 16], false, { it := .sl (eI .i64 v) }⟩, ⟨[11, 16, 17], false, {}⟩, ⟨[17, 18], false, { it := .val (.int .i64 ([q1, v].length : Int)) }⟩, ⟨[19], false, {}⟩] }, .lp (.exit 0) (X_lontarlaw10_VcanonTwice_L0_2 q1 v v1 v2)]) (args := [(.sl .view false (eI .u8 l)), (.sl .view false (eI .i64 ss))]) (r := (.lit (.bool true))) (ps := [CallK Try.prog false 40 [] [] (.lit (.bool q)) [],
          (!q) = false,
          CallK Try.prog true 41 [(.sl .view false (eI .u8 l))] [] (.sl (.excl 3) false (eI .i64 q1)) [],
          Value.int .i64 (↑(List.length (eI .i64 ss)) : Int) = .int .i64 (ss.length : Int),
          det Try.prog (builtin .min #[3, 3] 3 [false, true].toArray [(.int .i64 (ss.length : Int)), (.int .i64 60)].toArray) = some (.value (.int .i64 (minI (ss.length : Int) 60))),
          0 ≤ (0 : Int) ∧ (0 : Int) ≤ (minI (ss.length : Int) 60) ∧ (minI (ss.length : Int) 60) ≤ (↑(List.length (eI .i64 ss)) : Int),
          ((eI .i64 ss).drop (0 : Int).toNat).take ((minI (ss.length : Int) 60).toNat - (0 : Int).toNat) = (eI .i64 v),
          firstLen 1 (eI .i64 v) = true,
          Value.int .i64 (↑(List.length (eL (eI .i64) [q1, v])) : Int) = .int .i64 ([q1, v].length : Int),
          RunsB Try.prog 0 (.loop (sub [1, 1, 0, 1, 0, 0] (fbody Try.f17))) (S_lontarlaw10_VcanonTwice_L0 q1 v 0) (.exit 0) (X_lontarlaw10_VcanonTwice_L0_2 q1 v v1 v2)]) (by kernel_rfl)
        ⟨(call_lontarlaw10_awake h_q _ _), (not_f hc1), (call_lontarlaw10_Some h_q1 _ _), (len_val _ _), (det_min _ _ _ _ _ _ _), (sl_b h_v), (sl_e h_v), (first_map (fun _ => rfl) _), (len_val _ _), hl_l14, trivial⟩
  · injection h with h; subst h
    exact Knows.of (C := C17) wf Try.func17 (cs := [.reg 1 [(0, { it := .res (.lit (.bool q)) [] [] })], .b true]) (args := [(.sl .view false (eI .u8 l)), (.sl .view false (eI .i64 ss))]) (r := (.lit (.bool false))) (ps := [CallK Try.prog false 40 [] [] (.lit (.bool q)) [],
        (!q) = true]) (by kernel_rfl)
      ⟨(call_lontarlaw10_awake h_q _ _), (not_t (Bool.eq_false_iff.2 hc1)), trivial⟩
theorem call_lontarlaw10_VcanonTwice {l : (List Int)} {ss : (List Int)} {r} (h : lontarlaw10_VcanonTwice l ss = some r) (kp : Bool) (σ : List Bx) : CallK Try.prog kp 17 [(.sl .view false (eI .u8 l)), (.sl .view false (eI .i64 ss))] σ (.lit (.bool r)) σ :=
  (knows_lontarlaw10_VcanonTwice l ss h).call (and_t (map_noRef (fun _ => rfl) _) (and_t (map_noRef (fun _ => rfl) _) rfl)) rfl kp σ
end Go.Proofs.Ytpbbgkmpjcddbaa
