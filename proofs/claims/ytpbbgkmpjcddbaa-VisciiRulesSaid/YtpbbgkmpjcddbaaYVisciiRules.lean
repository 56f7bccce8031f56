/- Walks, printed by wip/gen.py. -/
import Derived.Test.YtpbbgkmpjcddbaaMVisciiRules
import Derived.Test.YtpbbgkmpjcddbaaYb
set_option linter.all false
namespace Go.Proofs.Ytpbbgkmpjcddbaa
open Go.AM Go.AM.M

def h5 : Nat → Option Hint
| 0 => some { keep := [0] }
| 1 => some { keep := [0, 8] }
| 2 => some { keep := [2] }
| 3 => some { keep := [0, 3], nils := [((.tmp 3), 33)] }
| 4 => some { keep := [0, 3, 9, 10, 11] }
| 5 => some { keep := [0, 3, 9, 10, 11, 12] }
| 6 => some { keep := [0, 3, 4, 5, 9, 10, 11] }
| 7 => some { keep := [0, 3, 9, 10, 11] }
| 8 => some { keep := [0, 3, 9, 10, 11] }
| 9 => some { keep := [0, 3, 6] }
| 10 => some { keep := [2] }
| _ => none

noncomputable def C5 : Ctx := { P := Try.prog, mv := fun _ _ => false, res := resOf Try.f5, live := h5, call := fun _ _ _ => none }

def S_lontarlaw11_VisciiRules_L0 (n : Int) (q1 : (List Int)) (vv : (List GApiRule) × Int) : St :=
  match vv with
  | (want, v) => { ts := [(0, (.lit (.int .u8 n))), (3, (.sl (.excl 33) false (List.map GApiRule.c want))), (9, (.sl (.excl 3) false (eI .i64 q1))), (10, (.lit (.int .i64 (q1.length : Int)))), (11, (.lit (.int .i64 v)))], n := 46, σ := [] }

def X_lontarlaw11_VisciiRules_L0_0 (n : Int) (q1 : (List Int)) (want : List GApiRule) (v : Int) (v1 : Bool) : St := { ts := [(0, (.lit (.int .u8 n))), (3, (.sl (.excl 33) false (List.map GApiRule.c want))), (9, (.sl (.excl 3) false (eI .i64 q1))), (10, (.lit (.int .i64 (q1.length : Int)))), (11, (.lit (.int .i64 v))), (12, (.lit (.bool v1)))], n := 46, σ := [] }

def E_lontarlaw11_VisciiRules_L0 (n : Int) (q1 : (List Int)) (vv : (List GApiRule) × Int × Bool) : Exit × St :=
  match vv with
  | (want, v, v1) => (.exit 0, X_lontarlaw11_VisciiRules_L0_0 n q1 want v v1)

set_option maxRecDepth 100000 in
theorem body_lontarlaw11_VisciiRules_L0 (n : Int) (q1 : (List Int)) (vv : (List GApiRule) × Int) (x) (h : lontarlaw11_VisciiRules_L0 q1 vv = some x) : RunsB Try.prog 0 (sub [1, 1, 1, 0, 1, 0, 0] (fbody Try.f5)) (S_lontarlaw11_VisciiRules_L0 n q1 vv) (sideX (E_lontarlaw11_VisciiRules_L0 n q1) x) (sideS (S_lontarlaw11_VisciiRules_L0 n q1) (E_lontarlaw11_VisciiRules_L0 n q1) x) := by
  obtain ⟨want, v⟩ := vv
  unfold lontarlaw11_VisciiRules_L0 at h
  dsimp only at h
  rcases ite_some h with ⟨hc8, h⟩ | ⟨hc8, h⟩
  · obtain ⟨x_, h_x_, h⟩ := Option.bind_eq_some_iff.1 h
    obtain ⟨hg9, h⟩ := guardO_some h
    injection h with h; subst h
    exact codeH_sound (C := C5) (base := 0) wf _ (cs := [.b true, .reg 6 [(1, { it := .cs [(.lit (.int .i64 x_))] }), (2, { it := .cs [(.lit (.int .i64 x_))] })], .reg 7 [(7, { it := .sl (List.map GApiRule.c (want ++ [(⟨[v], [x_]⟩ : GApiRule)])) })]]) (cs' := []) (ps := [(decide (v < (q1.length : Int))) = true,
        nthPV (eI .i64 q1) v = some [(.lit (.int .i64 x_))],
        (eI .i64 q1)[v.toNat]? = some [(.lit (.int .i64 x_))],
        (List.length (List.map GApiRule.c want) + List.length (List.map GApiRule.c [(⟨[v], [x_]⟩ : GApiRule)])) * 48 ≤ 2 ^ 46,
        (List.map GApiRule.c [(⟨[v], [x_]⟩ : GApiRule)]).all (fun c => c.length = 2 && c.all PV.one) = true,
        (List.map GApiRule.c want) ++ (List.map GApiRule.c [(⟨[v], [x_]⟩ : GApiRule)]) = (List.map GApiRule.c (want ++ [(⟨[v], [x_]⟩ : GApiRule)]))]) (by kernel_rfl)
      ⟨(decide_eq_true hc8), (nth_map _ h_x_), (nthPV_eq (nth_map _ h_x_)).2, (len_map2 hg9), (all_map (fun _ => rfl) _), (List.map_append).symm, trivial⟩
  · injection h with h; subst h
    exact codeH_sound (C := C5) (base := 0) wf _ (cs := [.b false]) (cs' := []) (ps := [(decide (v < (q1.length : Int))) = false]) (by kernel_rfl)
      ⟨(decide_eq_false hc8), trivial⟩

theorem runs_lontarlaw11_VisciiRules_L0 (n : Int) (q1 : (List Int)) {nn} {vv : (List GApiRule) × Int} {rr} (h : loopM (lontarlaw11_VisciiRules_L0 q1) nn vv = some rr) : RunsB Try.prog 0 (.loop (sub [1, 1, 1, 0, 1, 0, 0] (fbody Try.f5))) (S_lontarlaw11_VisciiRules_L0 n q1 vv) (E_lontarlaw11_VisciiRules_L0 n q1 rr).1 (E_lontarlaw11_VisciiRules_L0 n q1 rr).2 :=
  loop_runs (by intro r; simp [E_lontarlaw11_VisciiRules_L0]) (body_lontarlaw11_VisciiRules_L0 n q1) nn vv rr h

set_option maxRecDepth 100000 in
theorem knows_lontarlaw11_VisciiRules (n : Int) {r} (h : lontarlaw11_VisciiRules n = some r) : Knows Try.prog 5 [(.lit (.int .u8 n))] (.lit (.bool r)) := by
  unfold lontarlaw11_VisciiRules at h
  obtain ⟨q, h_q, h⟩ := Option.bind_eq_some_iff.1 h
  rcases ite_some h with ⟨hc1, h⟩ | ⟨hc1, h⟩
  · obtain ⟨q1, h_q1, h⟩ := Option.bind_eq_some_iff.1 h
    obtain ⟨l10, hr_l10, h⟩ := Option.bind_eq_some_iff.1 h
    have hl_l10 := runs_lontarlaw11_VisciiRules_L0 n q1 hr_l10
    obtain ⟨want, v, v1⟩ := l10
    dsimp only at h
    obtain ⟨q2, h_q2, h⟩ := Option.bind_eq_some_iff.1 h
    obtain ⟨q3, h_q3, h⟩ := Option.bind_eq_some_iff.1 h
    rcases ite_some h with ⟨hc11, h⟩ | ⟨hc11, h⟩
    · rcases ite_some h with ⟨hc12, h⟩ | ⟨hc12, h⟩
      · obtain ⟨x_, h_x_, h⟩ := Option.bind_eq_some_iff.1 h
        obtain ⟨x_1, h_x_1, h⟩ := Option.bind_eq_some_iff.1 h
        injection h with h; subst h
        exact Knows.of (C := C5) wf Try.func5 (cs := [.reg 1 [(0, { it := .res (.lit (.bool q)) [] [] })], .b false, .reg 4 [(0, { it := .res (.sl (.excl 3) false (eI .i64 q1)) [] [] }), (1, { it := .val (.int .i64 (q1.length : Int)) })], .lp (.exit 0) (X_lontarlaw11_VisciiRules_L0_0 n q1 want v v1), .reg 9 [(0, { it := .res (.sl (.excl 33) false (List.map GApiRule.c q2)) [] [] })], .reg 10 [(2, { it := .res (.lit (.bool q3)) [] [] }), (4, { w := some true }), (5, { it := .val (.int .i64 (q2.length : Int)), w := some true }), (6, { w := some true }), (7, { it := .b true }), (9, { w := some true }), (10, { w := some true }), (11, { it := .cs (GApiRule.c x_), w := some true }), (12, { w := some true }), (13, { it := .cs (GApiRule.c x_), w := some true }), (14, { it := .cs [(.lit (.int .i64 x_1))], w := some true }), (15, { w := some true }), (16, { w := some true }), (17, { w := some true }), (18, { w := some true }), (19, { it := .b true })]]) (args := [(.lit (.int .u8 n))]) (r := (.lit (.bool (x_1 == (w64 n))))) (ps := [CallK Try.prog false 23 [] [] (.lit (.bool q)) [],
            (!q) = false,
            CallK Try.prog false 25 [] [] (.sl (.excl 3) false (eI .i64 q1)) [],
            Value.int .i64 (↑(List.length (eI .i64 q1)) : Int) = .int .i64 (q1.length : Int),
            RunsB Try.prog 0 (.loop (sub [1, 1, 1, 0, 1, 0, 0] (fbody Try.f5))) (S_lontarlaw11_VisciiRules_L0 n q1 ([], 0)) (.exit 0) (X_lontarlaw11_VisciiRules_L0_0 n q1 want v v1),
            CallK Try.prog false 27 [] [] (.sl (.excl 33) false (List.map GApiRule.c q2)) [],
            CallK Try.prog false 28 [(.sl .view false (List.map GApiRule.c q2)), (.sl .view false (List.map GApiRule.c want))] [] (.lit (.bool q3)) [],
            q3 = true,
            q3 = true,
            Value.int .i64 (↑(List.length (List.map GApiRule.c q2)) : Int) = .int .i64 (q2.length : Int),
            q3 = true,
            q3 = true,
            ((q2.length : Int) == 256) = true,
            ((q2.length : Int) == 256) = true,
            ((q2.length : Int) == 256) = true,
            nthPV (List.map GApiRule.c q2) n = some (GApiRule.c x_),
            ((q2.length : Int) == 256) = true,
            ((q2.length : Int) == 256) = true,
            (List.map GApiRule.c q2)[n.toNat]? = some (GApiRule.c x_),
            ((q2.length : Int) == 256) = true,
            nthPV (eI .i64 x_.in') 0 = some [(.lit (.int .i64 x_1))],
            ((q2.length : Int) == 256) = true,
            ((q2.length : Int) == 256) = true,
            ((q2.length : Int) == 256) = true,
            ((q2.length : Int) == 256) = true,
            ((q2.length : Int) == 256) = true]) (by kernel_rfl)
          ⟨(call_lontarlaw11_awake h_q _ _), (not_f hc1), (call_lontarlaw11_Table h_q1 _ _), (len_val _ _), hl_l10, (call_viscii_Rules h_q2 _ _), (call_lontarlaw03_Same h_q3 _ _), hc11, hc11, (len_val _ _), hc11, hc11, (beq_iff_eq.2 hc12), (beq_iff_eq.2 hc12), (beq_iff_eq.2 hc12), (nth_map _ h_x_), (beq_iff_eq.2 hc12), (beq_iff_eq.2 hc12), (nthPV_eq (nth_map _ h_x_)).2, (beq_iff_eq.2 hc12), (nth_map _ h_x_1), (beq_iff_eq.2 hc12), (beq_iff_eq.2 hc12), (beq_iff_eq.2 hc12), (beq_iff_eq.2 hc12), (beq_iff_eq.2 hc12), trivial⟩
      · injection h with h; subst h
        exact Knows.of (C := C5) wf Try.func5 (cs := [.reg 1 [(0, { it := .res (.lit (.bool q)) [] [] })], .b false, .reg 4 [(0, { it := .res (.sl (.excl 3) false (eI .i64 q1)) [] [] }), (1, { it := .val (.int .i64 (q1.length : Int)) })], .lp (.exit 0) (X_lontarlaw11_VisciiRules_L0_0 n q1 want v v1), .reg 9 [(0, { it := .res (.sl (.excl 33) false (List.map GApiRule.c q2)) [] [] })], .reg 10 [(2, { it := .res (.lit (.bool q3)) [] [] }), (4, { w := some true }), (5, { it := .val (.int .i64 (q2.length : Int)), w := some true }), (6, { w := some true }), (7, { it := .b true }), (9, { w := some false }), (10, { w := some false }), (11, { w := some false }), (12, { w := some false }), (13, { w := some false }), (14, { w := some false }), (15, { w := some false }), (16, { w := some false }), (17, { w := some false }), (18, { w := some false }), (19, { it := .b false })]]) (args := [(.lit (.int .u8 n))]) (r := (.lit (.bool false))) (ps := [CallK Try.prog false 23 [] [] (.lit (.bool q)) [],
            (!q) = false,
            CallK Try.prog false 25 [] [] (.sl (.excl 3) false (eI .i64 q1)) [],
            Value.int .i64 (↑(List.length (eI .i64 q1)) : Int) = .int .i64 (q1.length : Int),
            RunsB Try.prog 0 (.loop (sub [1, 1, 1, 0, 1, 0, 0] (fbody Try.f5))) (S_lontarlaw11_VisciiRules_L0 n q1 ([], 0)) (.exit 0) (X_lontarlaw11_VisciiRules_L0_0 n q1 want v v1),
            CallK Try.prog false 27 [] [] (.sl (.excl 33) false (List.map GApiRule.c q2)) [],
            CallK Try.prog false 28 [(.sl .view false (List.map GApiRule.c q2)), (.sl .view false (List.map GApiRule.c want))] [] (.lit (.bool q3)) [],
            q3 = true,
            q3 = true,
            Value.int .i64 (↑(List.length (List.map GApiRule.c q2)) : Int) = .int .i64 (q2.length : Int),
            q3 = true,
            q3 = true,
            ((q2.length : Int) == 256) = false,
            ((q2.length : Int) == 256) = false,
            ((q2.length : Int) == 256) = false,
            ((q2.length : Int) == 256) = false,
            ((q2.length : Int) == 256) = false,
            ((q2.length : Int) == 256) = false,
            ((q2.length : Int) == 256) = false,
            ((q2.length : Int) == 256) = false,
            ((q2.length : Int) == 256) = false,
            ((q2.length : Int) == 256) = false,
            ((q2.length : Int) == 256) = false]) (by kernel_rfl)
          ⟨(call_lontarlaw11_awake h_q _ _), (not_f hc1), (call_lontarlaw11_Table h_q1 _ _), (len_val _ _), hl_l10, (call_viscii_Rules h_q2 _ _), (call_lontarlaw03_Same h_q3 _ _), hc11, hc11, (len_val _ _), hc11, hc11, (beq_eq_false_iff_ne.2 hc12), (beq_eq_false_iff_ne.2 hc12), (beq_eq_false_iff_ne.2 hc12), (beq_eq_false_iff_ne.2 hc12), (beq_eq_false_iff_ne.2 hc12), (beq_eq_false_iff_ne.2 hc12), (beq_eq_false_iff_ne.2 hc12), (beq_eq_false_iff_ne.2 hc12), (beq_eq_false_iff_ne.2 hc12), (beq_eq_false_iff_ne.2 hc12), (beq_eq_false_iff_ne.2 hc12), trivial⟩
    · injection h with h; subst h
      exact Knows.of (C := C5) wf Try.func5 (cs := [.reg 1 [(0, { it := .res (.lit (.bool q)) [] [] })], .b false, .reg 4 [(0, { it := .res (.sl (.excl 3) false (eI .i64 q1)) [] [] }), (1, { it := .val (.int .i64 (q1.length : Int)) })], .lp (.exit 0) (X_lontarlaw11_VisciiRules_L0_0 n q1 want v v1), .reg 9 [(0, { it := .res (.sl (.excl 33) false (List.map GApiRule.c q2)) [] [] })], .reg 10 [(2, { it := .res (.lit (.bool q3)) [] [] }), (4, { w := some false }), (5, { w := some false }), (6, { w := some false }), (7, { it := .b false }), (9, { w := some false }), (10, { w := some false }), (11, { w := some false }), (12, { w := some false }), (13, { w := some false }), (14, { w := some false }), (15, { w := some false }), (16, { w := some false }), (17, { w := some false }), (18, { w := some false }), (19, { it := .b false })]]) (args := [(.lit (.int .u8 n))]) (r := (.lit (.bool false))) (ps := [CallK Try.prog false 23 [] [] (.lit (.bool q)) [],
          (!q) = false,
          CallK Try.prog false 25 [] [] (.sl (.excl 3) false (eI .i64 q1)) [],
          Value.int .i64 (↑(List.length (eI .i64 q1)) : Int) = .int .i64 (q1.length : Int),
          RunsB Try.prog 0 (.loop (sub [1, 1, 1, 0, 1, 0, 0] (fbody Try.f5))) (S_lontarlaw11_VisciiRules_L0 n q1 ([], 0)) (.exit 0) (X_lontarlaw11_VisciiRules_L0_0 n q1 want v v1),
          CallK Try.prog false 27 [] [] (.sl (.excl 33) false (List.map GApiRule.c q2)) [],
          CallK Try.prog false 28 [(.sl .view false (List.map GApiRule.c q2)), (.sl .view false (List.map GApiRule.c want))] [] (.lit (.bool q3)) [],
          q3 = false,
          q3 = false,
          q3 = false,
          q3 = false,
          false = false,
          false = false,
          false = false,
          false = false,
          false = false,
          false = false,
          false = false,
          false = false,
          false = false,
          false = false,
          false = false]) (by kernel_rfl)
        ⟨(call_lontarlaw11_awake h_q _ _), (not_f hc1), (call_lontarlaw11_Table h_q1 _ _), (len_val _ _), hl_l10, (call_viscii_Rules h_q2 _ _), (call_lontarlaw03_Same h_q3 _ _), (Bool.eq_false_iff.2 hc11), (Bool.eq_false_iff.2 hc11), (Bool.eq_false_iff.2 hc11), (Bool.eq_false_iff.2 hc11), rfl, rfl, rfl, rfl, rfl, rfl, rfl, rfl, rfl, rfl, rfl, trivial⟩
  · injection h with h; subst h
    exact Knows.of (C := C5) wf Try.func5 (cs := [.reg 1 [(0, { it := .res (.lit (.bool q)) [] [] })], .b true]) (args := [(.lit (.int .u8 n))]) (r := (.lit (.bool false))) (ps := [CallK Try.prog false 23 [] [] (.lit (.bool q)) [],
        (!q) = true]) (by kernel_rfl)
      ⟨(call_lontarlaw11_awake h_q _ _), (not_t (Bool.eq_false_iff.2 hc1)), trivial⟩
theorem call_lontarlaw11_VisciiRules {n : Int} {r} (h : lontarlaw11_VisciiRules n = some r) (kp : Bool) (σ : List Bx) : CallK Try.prog kp 5 [(.lit (.int .u8 n))] σ (.lit (.bool r)) σ :=
  (knows_lontarlaw11_VisciiRules n h).call (and_t rfl rfl) rfl kp σ
end Go.Proofs.Ytpbbgkmpjcddbaa
