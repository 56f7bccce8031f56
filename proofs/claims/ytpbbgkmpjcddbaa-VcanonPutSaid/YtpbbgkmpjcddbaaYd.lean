/- Walks, printed by wip/gen.py. -/
import Derived.Test.YtpbbgkmpjcddbaaMd
import Derived.Test.YtpbbgkmpjcddbaaYa
set_option linter.all false
namespace Go.Proofs.Ytpbbgkmpjcddbaa
open Go.AM Go.AM.M

def h53 : Nat → Option Hint
| 0 => some { keep := [0] }
| 1 => some { keep := [0, 4, 5] }
| 2 => some { keep := [0, 4, 5, 12, 13] }
| 3 => some { keep := [0, 4, 5, 12, 13, 14] }
| 4 => some { keep := [0, 4, 5, 6, 12, 13] }
| 5 => some { keep := [0, 4, 5, 6, 12, 13, 21] }
| 6 => some { keep := [2, 3] }
| 7 => some { keep := [0, 4, 5, 12, 13] }
| 8 => some { keep := [2, 3] }
| _ => none

noncomputable def C53 : Ctx := { P := Try.prog, mv := fun _ _ => false, res := resOf Try.f53, live := h53, call := fun _ _ _ => none }

def S_lontarlaw10_sign_L0 (s : Int) (q : ((List Int) × (List (Nat × Nat)))) (vv : Int) : St :=
  match vv with
  | v => { ts := [(0, (.lit (.int .i64 s))), (4, (.sl .view false (eI .i64 q.1))), (5, (.sl .view false (eC .f64 q.2))), (12, (.lit (.int .i64 (q.1.length : Int)))), (13, (.lit (.int .i64 v)))], n := 27, σ := [] }

def X_lontarlaw10_sign_L0_0 (s : Int) (q : ((List Int) × (List (Nat × Nat)))) (v_re : Nat) (v_im : Nat) : St := { ts := [(2, (.lit (.complex .f64 v_re v_im))), (3, (.lit (.bool true)))], n := 27, σ := [] }

def X_lontarlaw10_sign_L0_1 (s : Int) (q : ((List Int) × (List (Nat × Nat)))) (v : Int) (v1 : Bool) : St := { ts := [(0, (.lit (.int .i64 s))), (4, (.sl .view false (eI .i64 q.1))), (5, (.sl .view false (eC .f64 q.2))), (12, (.lit (.int .i64 (q.1.length : Int)))), (13, (.lit (.int .i64 v))), (14, (.lit (.bool v1)))], n := 27, σ := [] }

def E_lontarlaw10_sign_L0 (s : Int) (q : ((List Int) × (List (Nat × Nat)))) (vv : lontarlaw10_sign_L0_R) : Exit × St :=
  match vv with
  | .x0 v_re v_im => (.ret, X_lontarlaw10_sign_L0_0 s q v_re v_im)
  | .x1 v v1 => (.exit 0, X_lontarlaw10_sign_L0_1 s q v v1)

set_option maxRecDepth 100000 in
theorem body_lontarlaw10_sign_L0 (s : Int) (q : ((List Int) × (List (Nat × Nat)))) (v : Int) (x) (h : lontarlaw10_sign_L0 s q v = some x) : RunsB Try.prog 0 (sub [1, 1, 0, 1, 0, 0] (fbody Try.f53)) (S_lontarlaw10_sign_L0 s q v) (sideX (E_lontarlaw10_sign_L0 s q) x) (sideS (S_lontarlaw10_sign_L0 s q) (E_lontarlaw10_sign_L0 s q) x) := by
  unfold lontarlaw10_sign_L0 at h
  dsimp only at h
  rcases ite_some h with ⟨hc7, h⟩ | ⟨hc7, h⟩
  · obtain ⟨x_, h_x_, h⟩ := Option.bind_eq_some_iff.1 h
    rcases ite_some h with ⟨hc8, h⟩ | ⟨hc8, h⟩
    · obtain ⟨x_1, h_x_1, h⟩ := Option.bind_eq_some_iff.1 h
      injection h with h; subst h
      exact codeH_sound (C := C53) (base := 0) wf _ (cs := [.b true, .reg 5 [(2, { it := .cs [(.lit (.int .i64 x_))] })], .b true, .reg 6 [(2, { it := .cs [(.lit (.complex .f64 x_1.1 x_1.2))] })]]) (cs' := []) (ps := [(decide (v < (q.1.length : Int))) = true,
          nthPV (eI .i64 q.1) v = some [(.lit (.int .i64 x_))],
          (x_ == s) = true,
          nthPV (eC .f64 q.2) v = some [(.lit (.complex .f64 x_1.1 x_1.2))]]) (by kernel_rfl)
        ⟨(decide_eq_true hc7), (nth_map _ h_x_), (beq_iff_eq.2 hc8), (nth_map _ h_x_1), trivial⟩
    · injection h with h; subst h
      exact codeH_sound (C := C53) (base := 0) wf _ (cs := [.b true, .reg 5 [(2, { it := .cs [(.lit (.int .i64 x_))] })], .b false]) (cs' := []) (ps := [(decide (v < (q.1.length : Int))) = true,
          nthPV (eI .i64 q.1) v = some [(.lit (.int .i64 x_))],
          (x_ == s) = false]) (by kernel_rfl)
        ⟨(decide_eq_true hc7), (nth_map _ h_x_), (beq_eq_false_iff_ne.2 hc8), trivial⟩
  · injection h with h; subst h
    exact codeH_sound (C := C53) (base := 0) wf _ (cs := [.b false]) (cs' := []) (ps := [(decide (v < (q.1.length : Int))) = false]) (by kernel_rfl)
      ⟨(decide_eq_false hc7), trivial⟩

theorem runs_lontarlaw10_sign_L0 (s : Int) (q : ((List Int) × (List (Nat × Nat)))) {nn} {vv : Int} {rr} (h : loopM (lontarlaw10_sign_L0 s q) nn vv = some rr) : RunsB Try.prog 0 (.loop (sub [1, 1, 0, 1, 0, 0] (fbody Try.f53))) (S_lontarlaw10_sign_L0 s q vv) (E_lontarlaw10_sign_L0 s q rr).1 (E_lontarlaw10_sign_L0 s q rr).2 :=
  loop_runs (by intro r; cases r <;> simp [E_lontarlaw10_sign_L0]) (body_lontarlaw10_sign_L0 s q) nn vv rr h

set_option maxRecDepth 100000 in
theorem knows_lontarlaw10_sign (s : Int) {r} (h : lontarlaw10_sign s = some r) : Knows Try.prog 53 [(.lit (.int .i64 s))] (.tup [(.lit (.complex .f64 r.1.1 r.1.2)), (.lit (.bool r.2))]) := by
  unfold lontarlaw10_sign at h
  obtain ⟨q, h_q, h⟩ := Option.bind_eq_some_iff.1 h
  obtain ⟨l9, hr_l9, h⟩ := Option.bind_eq_some_iff.1 h
  have hl_l9 := runs_lontarlaw10_sign_L0 s q hr_l9
  cases l9 with
  | x0 v_re v_im =>
    dsimp only at h
    injection h with h; subst h
    exact Knows.of (C := C53) wf Try.func53 (cs := [.reg 1 [(0, { it := .res (.tup [(.sl .view false (eI .i64 q.1)), (.sl .view false (eC .f64 q.2))]) [] [] })], .reg 2 [(1, { it := .val (.int .i64 (q.1.length : Int)) })], .lp (.ret) (X_lontarlaw10_sign_L0_0 s q v_re v_im)]) (args := [(.lit (.int .i64 s))]) (r := (.tup [(.lit (.complex .f64 v_re v_im)), (.lit (.bool true))])) (ps := [CallK Try.prog false 36 [] [] (.tup [(.sl .view false (eI .i64 q.1)), (.sl .view false (eC .f64 q.2))]) [],
        Value.int .i64 (↑(List.length (eI .i64 q.1)) : Int) = .int .i64 (q.1.length : Int),
        RunsB Try.prog 0 (.loop (sub [1, 1, 0, 1, 0, 0] (fbody Try.f53))) (S_lontarlaw10_sign_L0 s q 0) (.ret) (X_lontarlaw10_sign_L0_0 s q v_re v_im)]) (by kernel_rfl)
      ⟨(call_lontarlaw09_Marks h_q _ _), (len_val _ _), hl_l9, trivial⟩
  | x1 v v1 =>
    dsimp only at h
    injection h with h; subst h
    exact Knows.of (C := C53) wf Try.func53 (cs := [.reg 1 [(0, { it := .res (.tup [(.sl .view false (eI .i64 q.1)), (.sl .view false (eC .f64 q.2))]) [] [] })], .reg 2 [(1, { it := .val (.int .i64 (q.1.length : Int)) })], .lp (.exit 0) (X_lontarlaw10_sign_L0_1 s q v v1)]) (args := [(.lit (.int .i64 s))]) (r := (.tup [(.lit (.complex .f64 0 0)), (.lit (.bool false))])) (ps := [CallK Try.prog false 36 [] [] (.tup [(.sl .view false (eI .i64 q.1)), (.sl .view false (eC .f64 q.2))]) [],
        Value.int .i64 (↑(List.length (eI .i64 q.1)) : Int) = .int .i64 (q.1.length : Int),
        RunsB Try.prog 0 (.loop (sub [1, 1, 0, 1, 0, 0] (fbody Try.f53))) (S_lontarlaw10_sign_L0 s q 0) (.exit 0) (X_lontarlaw10_sign_L0_1 s q v v1)]) (by kernel_rfl)
      ⟨(call_lontarlaw09_Marks h_q _ _), (len_val _ _), hl_l9, trivial⟩
theorem call_lontarlaw10_sign {s : Int} {r} (h : lontarlaw10_sign s = some r) (kp : Bool) (σ : List Bx) : CallK Try.prog kp 53 [(.lit (.int .i64 s))] σ (.tup [(.lit (.complex .f64 r.1.1 r.1.2)), (.lit (.bool r.2))]) σ :=
  (knows_lontarlaw10_sign s h).call (and_t rfl rfl) rfl kp σ

def h47 : Nat → Option Hint
| 0 => some { keep := [0] }
| 1 => some { keep := [6] }
| 2 => some { keep := [2] }
| 3 => some { keep := [2] }
| _ => none

noncomputable def C47 : Ctx := { P := Try.prog, mv := fun _ _ => false, res := resOf Try.f47, live := h47, call := fun _ _ _ => none }

set_option maxRecDepth 100000 in
theorem knows_vcanon_Canon_Held (c : GVcanonCanon) {r} (h : vcanon_Canon_Held c = some r) : KnowsS Try.prog 47 [(.ptr 0 0)] [.cells 72 [(.lit (.int .i64 c.letter_base)), (.lit (.complex .f64 c.letter_sign.1 c.letter_sign.2)), (.lit (.bool c.is))]] (.lit (.int .i64 r.1)) [.cells 72 [(.lit (.int .i64 r.2.letter_base)), (.lit (.complex .f64 r.2.letter_sign.1 r.2.letter_sign.2)), (.lit (.bool r.2.is))]] := by
  unfold vcanon_Canon_Held at h
  rcases ite_some h with ⟨hc1, h⟩ | ⟨hc1, h⟩
  · injection h with h; subst h
    exact KnowsS.of (C := C47) wf Try.func47 (cs := [.b true]) (args := [(.ptr 0 0)]) (σ := [.cells 72 [(.lit (.int .i64 c.letter_base)), (.lit (.complex .f64 c.letter_sign.1 c.letter_sign.2)), (.lit (.bool c.is))]]) (σ' := [.cells 72 [(.lit (.int .i64 c.letter_base)), (.lit (.complex .f64 c.letter_sign.1 c.letter_sign.2)), (.lit (.bool c.is))]]) (r := (.lit (.int .i64 1))) (ps := [c.is = true]) (by kernel_rfl)
      ⟨hc1, trivial⟩
  · injection h with h; subst h
    exact KnowsS.of (C := C47) wf Try.func47 (cs := [.b false]) (args := [(.ptr 0 0)]) (σ := [.cells 72 [(.lit (.int .i64 c.letter_base)), (.lit (.complex .f64 c.letter_sign.1 c.letter_sign.2)), (.lit (.bool c.is))]]) (σ' := [.cells 72 [(.lit (.int .i64 c.letter_base)), (.lit (.complex .f64 c.letter_sign.1 c.letter_sign.2)), (.lit (.bool c.is))]]) (r := (.lit (.int .i64 0))) (ps := [c.is = false]) (by kernel_rfl)
      ⟨(Bool.eq_false_iff.2 hc1), trivial⟩

def h48 : Nat → Option Hint
| 0 => some { keep := [0] }
| 1 => some { keep := [0, 9] }
| 2 => some { keep := [2], nils := [((.tmp 2), 3)] }
| 3 => some { keep := [0] }
| 4 => some { keep := [3] }
| 5 => some { keep := [2] }
| _ => none

noncomputable def C48 : Ctx := { P := Try.prog, mv := fun _ _ => false, res := resOf Try.f48, live := h48, call := fun _ _ _ => none }

set_option maxRecDepth 100000 in
theorem knows_vcanon_Canon_End (c : GVcanonCanon) {r} (h : vcanon_Canon_End c = some r) : KnowsS Try.prog 48 [(.ptr 0 0)] [.cells 72 [(.lit (.int .i64 c.letter_base)), (.lit (.complex .f64 c.letter_sign.1 c.letter_sign.2)), (.lit (.bool c.is))]] (.sl (.excl 3) false (eI .i64 r.1)) [.cells 72 [(.lit (.int .i64 r.2.letter_base)), (.lit (.complex .f64 r.2.letter_sign.1 r.2.letter_sign.2)), (.lit (.bool r.2.is))]] := by
  unfold vcanon_Canon_End at h
  rcases ite_some h with ⟨hc1, h⟩ | ⟨hc1, h⟩
  · obtain ⟨q, h_q, h⟩ := Option.bind_eq_some_iff.1 h
    injection h with h; subst h
    exact KnowsS.of (C := C48) wf Try.func48 (cs := [.b false, .reg 4 [(4, { it := .res (.tup [(.lit (.int .i64 q.1)), (.lit (.bool q.2))]) [.cells 72 [(.lit (.int .i64 c.letter_base)), (.lit (.complex .f64 c.letter_sign.1 c.letter_sign.2)), (.lit (.bool false))]] [] })]]) (args := [(.ptr 0 0)]) (σ := [.cells 72 [(.lit (.int .i64 c.letter_base)), (.lit (.complex .f64 c.letter_sign.1 c.letter_sign.2)), (.lit (.bool c.is))]]) (σ' := [.cells 72 [(.lit (.int .i64 c.letter_base)), (.lit (.complex .f64 c.letter_sign.1 c.letter_sign.2)), (.lit (.bool false))]]) (r := (.sl (.excl 3) false (eI .i64 [q.1]))) (ps := [(!c.is) = false,
        CallK Try.prog false 34 [(.agg [(.lit (.int .i64 c.letter_base)), (.lit (.complex .f64 c.letter_sign.1 c.letter_sign.2))])] [.cells 72 [(.lit (.int .i64 c.letter_base)), (.lit (.complex .f64 c.letter_sign.1 c.letter_sign.2)), (.lit (.bool false))]] (.tup [(.lit (.int .i64 q.1)), (.lit (.bool q.2))]) [.cells 72 [(.lit (.int .i64 c.letter_base)), (.lit (.complex .f64 c.letter_sign.1 c.letter_sign.2)), (.lit (.bool false))]]]) (by kernel_rfl)
      ⟨(not_f hc1), (call_viet_Join h_q _ _), trivial⟩
  · injection h with h; subst h
    exact KnowsS.of (C := C48) wf Try.func48 (cs := [.b true]) (args := [(.ptr 0 0)]) (σ := [.cells 72 [(.lit (.int .i64 c.letter_base)), (.lit (.complex .f64 c.letter_sign.1 c.letter_sign.2)), (.lit (.bool c.is))]]) (σ' := [.cells 72 [(.lit (.int .i64 c.letter_base)), (.lit (.complex .f64 c.letter_sign.1 c.letter_sign.2)), (.lit (.bool c.is))]]) (r := (.sl (.excl 3) false (eI .i64 []))) (ps := [(!c.is) = true]) (by kernel_rfl)
      ⟨(not_t (Bool.eq_false_iff.2 hc1)), trivial⟩

def h46 : Nat → Option Hint
| 0 => some { keep := [0, 1] }
| 1 => some { keep := [0, 1, 5, 6] }
| 2 => some { keep := [0, 1, 5, 23] }
| 3 => some { keep := [0, 1, 7, 8] }
| 4 => some { keep := [0, 1, 7, 33] }
| 5 => some { keep := [] }
| 6 => some { keep := [4], nils := [((.tmp 4), 3)] }
| 7 => some { keep := [0, 1, 9] }
| 8 => some { keep := [0, 1, 9, 10, 11] }
| 9 => some { keep := [0, 1, 9, 10, 45] }
| 10 => some { keep := [9] }
| 11 => some { keep := [4] }
| 12 => some { keep := [4] }
| _ => none

noncomputable def C46 : Ctx := { P := Try.prog, mv := fun _ _ => false, res := resOf Try.f46, live := h46, call := fun _ _ _ => none }

set_option maxRecDepth 100000 in
theorem knows_vcanon_Canon_Put (c : GVcanonCanon) (s : Int) {r} (h : vcanon_Canon_Put c s = some r) : KnowsS Try.prog 46 [(.ptr 0 0), (.lit (.int .i64 s))] [.cells 72 [(.lit (.int .i64 c.letter_base)), (.lit (.complex .f64 c.letter_sign.1 c.letter_sign.2)), (.lit (.bool c.is))]] (.sl (.excl 3) false (eI .i64 r.1)) [.cells 72 [(.lit (.int .i64 r.2.letter_base)), (.lit (.complex .f64 r.2.letter_sign.1 r.2.letter_sign.2)), (.lit (.bool r.2.is))]] := by
  unfold vcanon_Canon_Put at h
  obtain ⟨q, h_q, h⟩ := Option.bind_eq_some_iff.1 h
  rcases ite_some h with ⟨hc1, h⟩ | ⟨hc1, h⟩
  · rcases ite_some h with ⟨hc2, h⟩ | ⟨hc2, h⟩
    · obtain ⟨q1, h_q1, h⟩ := Option.bind_eq_some_iff.1 h
      rcases ite_some h with ⟨hc3, h⟩ | ⟨hc3, h⟩
      · injection h with h; subst h
        exact KnowsS.of (C := C46) wf Try.func46 (cs := [.reg 1 [(1, { it := .res (.tup [(.lit (.complex .f64 q.1.1 q.1.2)), (.lit (.bool q.2))]) [.cells 72 [(.lit (.int .i64 c.letter_base)), (.lit (.complex .f64 c.letter_sign.1 c.letter_sign.2)), (.lit (.bool c.is))]] [] })], .reg 2 [(2, { w := some true }), (3, { w := some true }), (4, { w := some true }), (5, { w := some true }), (6, { it := .b true })], .b true, .reg 3 [(5, { it := .res (.tup [(.agg [(.lit (.int .i64 q1.1.base)), (.lit (.complex .f64 q1.1.sign.1 q1.1.sign.2))]), (.lit (.bool q1.2))]) [.cells 72 [(.lit (.int .i64 c.letter_base)), (.lit (.complex .f64 c.letter_sign.1 c.letter_sign.2)), (.lit (.bool c.is))]] [] })], .b true]) (args := [(.ptr 0 0), (.lit (.int .i64 s))]) (σ := [.cells 72 [(.lit (.int .i64 c.letter_base)), (.lit (.complex .f64 c.letter_sign.1 c.letter_sign.2)), (.lit (.bool c.is))]]) (σ' := [.cells 72 [(.lit (.int .i64 q1.1.base)), (.lit (.complex .f64 q1.1.sign.1 q1.1.sign.2)), (.lit (.bool c.is))]]) (r := (.sl (.excl 3) false (eI .i64 []))) (ps := [CallK Try.prog false 39 [(.lit (.int .i64 s))] [.cells 72 [(.lit (.int .i64 c.letter_base)), (.lit (.complex .f64 c.letter_sign.1 c.letter_sign.2)), (.lit (.bool c.is))]] (.tup [(.lit (.complex .f64 q.1.1 q.1.2)), (.lit (.bool q.2))]) [.cells 72 [(.lit (.int .i64 c.letter_base)), (.lit (.complex .f64 c.letter_sign.1 c.letter_sign.2)), (.lit (.bool c.is))]],
            q.2 = true,
            q.2 = true,
            q.2 = true,
            q.2 = true,
            q.2 = true,
            c.is = true,
            CallK Try.prog false 37 [(.agg [(.lit (.int .i64 c.letter_base)), (.lit (.complex .f64 c.letter_sign.1 c.letter_sign.2))]), (.lit (.complex .f64 q.1.1 q.1.2))] [.cells 72 [(.lit (.int .i64 c.letter_base)), (.lit (.complex .f64 c.letter_sign.1 c.letter_sign.2)), (.lit (.bool c.is))]] (.tup [(.agg [(.lit (.int .i64 q1.1.base)), (.lit (.complex .f64 q1.1.sign.1 q1.1.sign.2))]), (.lit (.bool q1.2))]) [.cells 72 [(.lit (.int .i64 c.letter_base)), (.lit (.complex .f64 c.letter_sign.1 c.letter_sign.2)), (.lit (.bool c.is))]],
            q1.2 = true,
            noRefss 1 (eI .i64 []) = true]) (by kernel_rfl)
          ⟨(call_viet_Sign h_q _ _), hc1, hc1, hc1, hc1, hc1, hc2, (call_viet_Add h_q1 _ _), hc3, rfl, trivial⟩
      · obtain ⟨q2, h_q2, h⟩ := Option.bind_eq_some_iff.1 h
        obtain ⟨q3, h_q3, h⟩ := Option.bind_eq_some_iff.1 h
        rcases ite_some h with ⟨hc4, h⟩ | ⟨hc4, h⟩
        · injection h with h; subst h
          exact KnowsS.of (C := C46) wf Try.func46 (cs := [.reg 1 [(1, { it := .res (.tup [(.lit (.complex .f64 q.1.1 q.1.2)), (.lit (.bool q.2))]) [.cells 72 [(.lit (.int .i64 c.letter_base)), (.lit (.complex .f64 c.letter_sign.1 c.letter_sign.2)), (.lit (.bool c.is))]] [] })], .reg 2 [(2, { w := some true }), (3, { w := some true }), (4, { w := some true }), (5, { w := some true }), (6, { it := .b true })], .b true, .reg 3 [(5, { it := .res (.tup [(.agg [(.lit (.int .i64 q1.1.base)), (.lit (.complex .f64 q1.1.sign.1 q1.1.sign.2))]), (.lit (.bool q1.2))]) [.cells 72 [(.lit (.int .i64 c.letter_base)), (.lit (.complex .f64 c.letter_sign.1 c.letter_sign.2)), (.lit (.bool c.is))]] [] })], .b false, .reg 7 [(1, { it := .res (.sl (.excl 3) false (eI .i64 q2.1)) [.cells 72 [(.lit (.int .i64 q2.2.letter_base)), (.lit (.complex .f64 q2.2.letter_sign.1 q2.2.letter_sign.2)), (.lit (.bool q2.2.is))], .cells 38 [(.lit (.int .i64 q1.1.base)), (.lit (.complex .f64 q1.1.sign.1 q1.1.sign.2))]] [] })], .reg 8 [(1, { it := .res (.tup [(.agg [(.lit (.int .i64 q3.1.base)), (.lit (.complex .f64 q3.1.sign.1 q3.1.sign.2))]), (.lit (.bool q3.2))]) [.cells 72 [(.lit (.int .i64 q2.2.letter_base)), (.lit (.complex .f64 q2.2.letter_sign.1 q2.2.letter_sign.2)), (.lit (.bool q2.2.is))], .cells 38 [(.lit (.int .i64 q1.1.base)), (.lit (.complex .f64 q1.1.sign.1 q1.1.sign.2))]] [] })], .b true]) (args := [(.ptr 0 0), (.lit (.int .i64 s))]) (σ := [.cells 72 [(.lit (.int .i64 c.letter_base)), (.lit (.complex .f64 c.letter_sign.1 c.letter_sign.2)), (.lit (.bool c.is))]]) (σ' := [.cells 72 [(.lit (.int .i64 q3.1.base)), (.lit (.complex .f64 q3.1.sign.1 q3.1.sign.2)), (.lit (.bool true))]]) (r := (.sl (.excl 3) false (eI .i64 q2.1))) (ps := [CallK Try.prog false 39 [(.lit (.int .i64 s))] [.cells 72 [(.lit (.int .i64 c.letter_base)), (.lit (.complex .f64 c.letter_sign.1 c.letter_sign.2)), (.lit (.bool c.is))]] (.tup [(.lit (.complex .f64 q.1.1 q.1.2)), (.lit (.bool q.2))]) [.cells 72 [(.lit (.int .i64 c.letter_base)), (.lit (.complex .f64 c.letter_sign.1 c.letter_sign.2)), (.lit (.bool c.is))]],
              q.2 = true,
              q.2 = true,
              q.2 = true,
              q.2 = true,
              q.2 = true,
              c.is = true,
              CallK Try.prog false 37 [(.agg [(.lit (.int .i64 c.letter_base)), (.lit (.complex .f64 c.letter_sign.1 c.letter_sign.2))]), (.lit (.complex .f64 q.1.1 q.1.2))] [.cells 72 [(.lit (.int .i64 c.letter_base)), (.lit (.complex .f64 c.letter_sign.1 c.letter_sign.2)), (.lit (.bool c.is))]] (.tup [(.agg [(.lit (.int .i64 q1.1.base)), (.lit (.complex .f64 q1.1.sign.1 q1.1.sign.2))]), (.lit (.bool q1.2))]) [.cells 72 [(.lit (.int .i64 c.letter_base)), (.lit (.complex .f64 c.letter_sign.1 c.letter_sign.2)), (.lit (.bool c.is))]],
              q1.2 = false,
              CallK Try.prog false 48 [(.ptr 0 0)] [.cells 72 [(.lit (.int .i64 c.letter_base)), (.lit (.complex .f64 c.letter_sign.1 c.letter_sign.2)), (.lit (.bool c.is))], .cells 38 [(.lit (.int .i64 q1.1.base)), (.lit (.complex .f64 q1.1.sign.1 q1.1.sign.2))]] (.sl (.excl 3) false (eI .i64 q2.1)) [.cells 72 [(.lit (.int .i64 q2.2.letter_base)), (.lit (.complex .f64 q2.2.letter_sign.1 q2.2.letter_sign.2)), (.lit (.bool q2.2.is))], .cells 38 [(.lit (.int .i64 q1.1.base)), (.lit (.complex .f64 q1.1.sign.1 q1.1.sign.2))]],
              CallK Try.prog false 32 [(.lit (.int .i64 s))] [.cells 72 [(.lit (.int .i64 q2.2.letter_base)), (.lit (.complex .f64 q2.2.letter_sign.1 q2.2.letter_sign.2)), (.lit (.bool q2.2.is))], .cells 38 [(.lit (.int .i64 q1.1.base)), (.lit (.complex .f64 q1.1.sign.1 q1.1.sign.2))]] (.tup [(.agg [(.lit (.int .i64 q3.1.base)), (.lit (.complex .f64 q3.1.sign.1 q3.1.sign.2))]), (.lit (.bool q3.2))]) [.cells 72 [(.lit (.int .i64 q2.2.letter_base)), (.lit (.complex .f64 q2.2.letter_sign.1 q2.2.letter_sign.2)), (.lit (.bool q2.2.is))], .cells 38 [(.lit (.int .i64 q1.1.base)), (.lit (.complex .f64 q1.1.sign.1 q1.1.sign.2))]],
              q3.2 = true,
              noRefss 1 (eI .i64 q2.1) = true]) (by kernel_rfl)
            ⟨(call_viet_Sign h_q _ _), hc1, hc1, hc1, hc1, hc1, hc2, (call_viet_Add h_q1 _ _), (Bool.eq_false_iff.2 hc3), (callK_emb (knows_vcanon_Canon_End c h_q2) [0] rfl rfl rfl rfl rfl rfl rfl rfl rfl rfl rfl (ren_res _ _ ((map_noRef (fun _ => rfl) _)))), (call_viet_Split h_q3 _ _), hc4, (map_noRef (fun _ => rfl) _), trivial⟩
        · obtain ⟨hg5, h⟩ := guardO_some h
          injection h with h; subst h
          exact KnowsS.of (C := C46) wf Try.func46 (cs := [.reg 1 [(1, { it := .res (.tup [(.lit (.complex .f64 q.1.1 q.1.2)), (.lit (.bool q.2))]) [.cells 72 [(.lit (.int .i64 c.letter_base)), (.lit (.complex .f64 c.letter_sign.1 c.letter_sign.2)), (.lit (.bool c.is))]] [] })], .reg 2 [(2, { w := some true }), (3, { w := some true }), (4, { w := some true }), (5, { w := some true }), (6, { it := .b true })], .b true, .reg 3 [(5, { it := .res (.tup [(.agg [(.lit (.int .i64 q1.1.base)), (.lit (.complex .f64 q1.1.sign.1 q1.1.sign.2))]), (.lit (.bool q1.2))]) [.cells 72 [(.lit (.int .i64 c.letter_base)), (.lit (.complex .f64 c.letter_sign.1 c.letter_sign.2)), (.lit (.bool c.is))]] [] })], .b false, .reg 7 [(1, { it := .res (.sl (.excl 3) false (eI .i64 q2.1)) [.cells 72 [(.lit (.int .i64 q2.2.letter_base)), (.lit (.complex .f64 q2.2.letter_sign.1 q2.2.letter_sign.2)), (.lit (.bool q2.2.is))], .cells 38 [(.lit (.int .i64 q1.1.base)), (.lit (.complex .f64 q1.1.sign.1 q1.1.sign.2))]] [] })], .reg 8 [(1, { it := .res (.tup [(.agg [(.lit (.int .i64 q3.1.base)), (.lit (.complex .f64 q3.1.sign.1 q3.1.sign.2))]), (.lit (.bool q3.2))]) [.cells 72 [(.lit (.int .i64 q2.2.letter_base)), (.lit (.complex .f64 q2.2.letter_sign.1 q2.2.letter_sign.2)), (.lit (.bool q2.2.is))], .cells 38 [(.lit (.int .i64 q1.1.base)), (.lit (.complex .f64 q1.1.sign.1 q1.1.sign.2))]] [] })], .b false, .reg 12 [(3, { it := .sl (eI .i64 (q2.1 ++ [s])) })]]) (args := [(.ptr 0 0), (.lit (.int .i64 s))]) (σ := [.cells 72 [(.lit (.int .i64 c.letter_base)), (.lit (.complex .f64 c.letter_sign.1 c.letter_sign.2)), (.lit (.bool c.is))]]) (σ' := [.cells 72 [(.lit (.int .i64 q2.2.letter_base)), (.lit (.complex .f64 q2.2.letter_sign.1 q2.2.letter_sign.2)), (.lit (.bool q2.2.is))]]) (r := (.sl (.excl 3) false (eI .i64 (q2.1 ++ [s])))) (ps := [CallK Try.prog false 39 [(.lit (.int .i64 s))] [.cells 72 [(.lit (.int .i64 c.letter_base)), (.lit (.complex .f64 c.letter_sign.1 c.letter_sign.2)), (.lit (.bool c.is))]] (.tup [(.lit (.complex .f64 q.1.1 q.1.2)), (.lit (.bool q.2))]) [.cells 72 [(.lit (.int .i64 c.letter_base)), (.lit (.complex .f64 c.letter_sign.1 c.letter_sign.2)), (.lit (.bool c.is))]],
              q.2 = true,
              q.2 = true,
              q.2 = true,
              q.2 = true,
              q.2 = true,
              c.is = true,
              CallK Try.prog false 37 [(.agg [(.lit (.int .i64 c.letter_base)), (.lit (.complex .f64 c.letter_sign.1 c.letter_sign.2))]), (.lit (.complex .f64 q.1.1 q.1.2))] [.cells 72 [(.lit (.int .i64 c.letter_base)), (.lit (.complex .f64 c.letter_sign.1 c.letter_sign.2)), (.lit (.bool c.is))]] (.tup [(.agg [(.lit (.int .i64 q1.1.base)), (.lit (.complex .f64 q1.1.sign.1 q1.1.sign.2))]), (.lit (.bool q1.2))]) [.cells 72 [(.lit (.int .i64 c.letter_base)), (.lit (.complex .f64 c.letter_sign.1 c.letter_sign.2)), (.lit (.bool c.is))]],
              q1.2 = false,
              CallK Try.prog false 48 [(.ptr 0 0)] [.cells 72 [(.lit (.int .i64 c.letter_base)), (.lit (.complex .f64 c.letter_sign.1 c.letter_sign.2)), (.lit (.bool c.is))], .cells 38 [(.lit (.int .i64 q1.1.base)), (.lit (.complex .f64 q1.1.sign.1 q1.1.sign.2))]] (.sl (.excl 3) false (eI .i64 q2.1)) [.cells 72 [(.lit (.int .i64 q2.2.letter_base)), (.lit (.complex .f64 q2.2.letter_sign.1 q2.2.letter_sign.2)), (.lit (.bool q2.2.is))], .cells 38 [(.lit (.int .i64 q1.1.base)), (.lit (.complex .f64 q1.1.sign.1 q1.1.sign.2))]],
              CallK Try.prog false 32 [(.lit (.int .i64 s))] [.cells 72 [(.lit (.int .i64 q2.2.letter_base)), (.lit (.complex .f64 q2.2.letter_sign.1 q2.2.letter_sign.2)), (.lit (.bool q2.2.is))], .cells 38 [(.lit (.int .i64 q1.1.base)), (.lit (.complex .f64 q1.1.sign.1 q1.1.sign.2))]] (.tup [(.agg [(.lit (.int .i64 q3.1.base)), (.lit (.complex .f64 q3.1.sign.1 q3.1.sign.2))]), (.lit (.bool q3.2))]) [.cells 72 [(.lit (.int .i64 q2.2.letter_base)), (.lit (.complex .f64 q2.2.letter_sign.1 q2.2.letter_sign.2)), (.lit (.bool q2.2.is))], .cells 38 [(.lit (.int .i64 q1.1.base)), (.lit (.complex .f64 q1.1.sign.1 q1.1.sign.2))]],
              q3.2 = false,
              (List.length (eI .i64 q2.1) + List.length (eI .i64 [s])) * 8 ≤ 2 ^ 46,
              (eI .i64 [s]).all (fun c => c.length = 1 && c.all PV.one) = true,
              (eI .i64 q2.1) ++ (eI .i64 [s]) = (eI .i64 (q2.1 ++ [s])),
              noRefss 1 (eI .i64 (q2.1 ++ [s])) = true]) (by kernel_rfl)
            ⟨(call_viet_Sign h_q _ _), hc1, hc1, hc1, hc1, hc1, hc2, (call_viet_Add h_q1 _ _), (Bool.eq_false_iff.2 hc3), (callK_emb (knows_vcanon_Canon_End c h_q2) [0] rfl rfl rfl rfl rfl rfl rfl rfl rfl rfl rfl (ren_res _ _ ((map_noRef (fun _ => rfl) _)))), (call_viet_Split h_q3 _ _), (Bool.eq_false_iff.2 hc4), (len_map2 hg5), (all_map (fun _ => rfl) _), (List.map_append).symm, (map_noRef (fun _ => rfl) _), trivial⟩
    · obtain ⟨q1, h_q1, h⟩ := Option.bind_eq_some_iff.1 h
      obtain ⟨q2, h_q2, h⟩ := Option.bind_eq_some_iff.1 h
      rcases ite_some h with ⟨hc6, h⟩ | ⟨hc6, h⟩
      · injection h with h; subst h
        exact KnowsS.of (C := C46) wf Try.func46 (cs := [.reg 1 [(1, { it := .res (.tup [(.lit (.complex .f64 q.1.1 q.1.2)), (.lit (.bool q.2))]) [.cells 72 [(.lit (.int .i64 c.letter_base)), (.lit (.complex .f64 c.letter_sign.1 c.letter_sign.2)), (.lit (.bool c.is))]] [] })], .reg 2 [(2, { w := some true }), (3, { w := some true }), (4, { w := some true }), (5, { w := some true }), (6, { it := .b true })], .b false, .reg 7 [(1, { it := .res (.sl (.excl 3) false (eI .i64 q1.1)) [.cells 72 [(.lit (.int .i64 q1.2.letter_base)), (.lit (.complex .f64 q1.2.letter_sign.1 q1.2.letter_sign.2)), (.lit (.bool q1.2.is))]] [] })], .reg 8 [(1, { it := .res (.tup [(.agg [(.lit (.int .i64 q2.1.base)), (.lit (.complex .f64 q2.1.sign.1 q2.1.sign.2))]), (.lit (.bool q2.2))]) [.cells 72 [(.lit (.int .i64 q1.2.letter_base)), (.lit (.complex .f64 q1.2.letter_sign.1 q1.2.letter_sign.2)), (.lit (.bool q1.2.is))]] [] })], .b true]) (args := [(.ptr 0 0), (.lit (.int .i64 s))]) (σ := [.cells 72 [(.lit (.int .i64 c.letter_base)), (.lit (.complex .f64 c.letter_sign.1 c.letter_sign.2)), (.lit (.bool c.is))]]) (σ' := [.cells 72 [(.lit (.int .i64 q2.1.base)), (.lit (.complex .f64 q2.1.sign.1 q2.1.sign.2)), (.lit (.bool true))]]) (r := (.sl (.excl 3) false (eI .i64 q1.1))) (ps := [CallK Try.prog false 39 [(.lit (.int .i64 s))] [.cells 72 [(.lit (.int .i64 c.letter_base)), (.lit (.complex .f64 c.letter_sign.1 c.letter_sign.2)), (.lit (.bool c.is))]] (.tup [(.lit (.complex .f64 q.1.1 q.1.2)), (.lit (.bool q.2))]) [.cells 72 [(.lit (.int .i64 c.letter_base)), (.lit (.complex .f64 c.letter_sign.1 c.letter_sign.2)), (.lit (.bool c.is))]],
            q.2 = true,
            q.2 = true,
            q.2 = true,
            q.2 = true,
            q.2 = true,
            c.is = false,
            CallK Try.prog false 48 [(.ptr 0 0)] [.cells 72 [(.lit (.int .i64 c.letter_base)), (.lit (.complex .f64 c.letter_sign.1 c.letter_sign.2)), (.lit (.bool c.is))]] (.sl (.excl 3) false (eI .i64 q1.1)) [.cells 72 [(.lit (.int .i64 q1.2.letter_base)), (.lit (.complex .f64 q1.2.letter_sign.1 q1.2.letter_sign.2)), (.lit (.bool q1.2.is))]],
            CallK Try.prog false 32 [(.lit (.int .i64 s))] [.cells 72 [(.lit (.int .i64 q1.2.letter_base)), (.lit (.complex .f64 q1.2.letter_sign.1 q1.2.letter_sign.2)), (.lit (.bool q1.2.is))]] (.tup [(.agg [(.lit (.int .i64 q2.1.base)), (.lit (.complex .f64 q2.1.sign.1 q2.1.sign.2))]), (.lit (.bool q2.2))]) [.cells 72 [(.lit (.int .i64 q1.2.letter_base)), (.lit (.complex .f64 q1.2.letter_sign.1 q1.2.letter_sign.2)), (.lit (.bool q1.2.is))]],
            q2.2 = true,
            noRefss 1 (eI .i64 q1.1) = true]) (by kernel_rfl)
          ⟨(call_viet_Sign h_q _ _), hc1, hc1, hc1, hc1, hc1, (Bool.eq_false_iff.2 hc2), (callK_emb (knows_vcanon_Canon_End c h_q1) [0] rfl rfl rfl rfl rfl rfl rfl rfl rfl rfl rfl (ren_res _ _ ((map_noRef (fun _ => rfl) _)))), (call_viet_Split h_q2 _ _), hc6, (map_noRef (fun _ => rfl) _), trivial⟩
      · obtain ⟨hg7, h⟩ := guardO_some h
        injection h with h; subst h
        exact KnowsS.of (C := C46) wf Try.func46 (cs := [.reg 1 [(1, { it := .res (.tup [(.lit (.complex .f64 q.1.1 q.1.2)), (.lit (.bool q.2))]) [.cells 72 [(.lit (.int .i64 c.letter_base)), (.lit (.complex .f64 c.letter_sign.1 c.letter_sign.2)), (.lit (.bool c.is))]] [] })], .reg 2 [(2, { w := some true }), (3, { w := some true }), (4, { w := some true }), (5, { w := some true }), (6, { it := .b true })], .b false, .reg 7 [(1, { it := .res (.sl (.excl 3) false (eI .i64 q1.1)) [.cells 72 [(.lit (.int .i64 q1.2.letter_base)), (.lit (.complex .f64 q1.2.letter_sign.1 q1.2.letter_sign.2)), (.lit (.bool q1.2.is))]] [] })], .reg 8 [(1, { it := .res (.tup [(.agg [(.lit (.int .i64 q2.1.base)), (.lit (.complex .f64 q2.1.sign.1 q2.1.sign.2))]), (.lit (.bool q2.2))]) [.cells 72 [(.lit (.int .i64 q1.2.letter_base)), (.lit (.complex .f64 q1.2.letter_sign.1 q1.2.letter_sign.2)), (.lit (.bool q1.2.is))]] [] })], .b false, .reg 12 [(3, { it := .sl (eI .i64 (q1.1 ++ [s])) })]]) (args := [(.ptr 0 0), (.lit (.int .i64 s))]) (σ := [.cells 72 [(.lit (.int .i64 c.letter_base)), (.lit (.complex .f64 c.letter_sign.1 c.letter_sign.2)), (.lit (.bool c.is))]]) (σ' := [.cells 72 [(.lit (.int .i64 q1.2.letter_base)), (.lit (.complex .f64 q1.2.letter_sign.1 q1.2.letter_sign.2)), (.lit (.bool q1.2.is))]]) (r := (.sl (.excl 3) false (eI .i64 (q1.1 ++ [s])))) (ps := [CallK Try.prog false 39 [(.lit (.int .i64 s))] [.cells 72 [(.lit (.int .i64 c.letter_base)), (.lit (.complex .f64 c.letter_sign.1 c.letter_sign.2)), (.lit (.bool c.is))]] (.tup [(.lit (.complex .f64 q.1.1 q.1.2)), (.lit (.bool q.2))]) [.cells 72 [(.lit (.int .i64 c.letter_base)), (.lit (.complex .f64 c.letter_sign.1 c.letter_sign.2)), (.lit (.bool c.is))]],
            q.2 = true,
            q.2 = true,
            q.2 = true,
            q.2 = true,
            q.2 = true,
            c.is = false,
            CallK Try.prog false 48 [(.ptr 0 0)] [.cells 72 [(.lit (.int .i64 c.letter_base)), (.lit (.complex .f64 c.letter_sign.1 c.letter_sign.2)), (.lit (.bool c.is))]] (.sl (.excl 3) false (eI .i64 q1.1)) [.cells 72 [(.lit (.int .i64 q1.2.letter_base)), (.lit (.complex .f64 q1.2.letter_sign.1 q1.2.letter_sign.2)), (.lit (.bool q1.2.is))]],
            CallK Try.prog false 32 [(.lit (.int .i64 s))] [.cells 72 [(.lit (.int .i64 q1.2.letter_base)), (.lit (.complex .f64 q1.2.letter_sign.1 q1.2.letter_sign.2)), (.lit (.bool q1.2.is))]] (.tup [(.agg [(.lit (.int .i64 q2.1.base)), (.lit (.complex .f64 q2.1.sign.1 q2.1.sign.2))]), (.lit (.bool q2.2))]) [.cells 72 [(.lit (.int .i64 q1.2.letter_base)), (.lit (.complex .f64 q1.2.letter_sign.1 q1.2.letter_sign.2)), (.lit (.bool q1.2.is))]],
            q2.2 = false,
            (List.length (eI .i64 q1.1) + List.length (eI .i64 [s])) * 8 ≤ 2 ^ 46,
            (eI .i64 [s]).all (fun c => c.length = 1 && c.all PV.one) = true,
            (eI .i64 q1.1) ++ (eI .i64 [s]) = (eI .i64 (q1.1 ++ [s])),
            noRefss 1 (eI .i64 (q1.1 ++ [s])) = true]) (by kernel_rfl)
          ⟨(call_viet_Sign h_q _ _), hc1, hc1, hc1, hc1, hc1, (Bool.eq_false_iff.2 hc2), (callK_emb (knows_vcanon_Canon_End c h_q1) [0] rfl rfl rfl rfl rfl rfl rfl rfl rfl rfl rfl (ren_res _ _ ((map_noRef (fun _ => rfl) _)))), (call_viet_Split h_q2 _ _), (Bool.eq_false_iff.2 hc6), (len_map2 hg7), (all_map (fun _ => rfl) _), (List.map_append).symm, (map_noRef (fun _ => rfl) _), trivial⟩
  · obtain ⟨q1, h_q1, h⟩ := Option.bind_eq_some_iff.1 h
    obtain ⟨q2, h_q2, h⟩ := Option.bind_eq_some_iff.1 h
    rcases ite_some h with ⟨hc8, h⟩ | ⟨hc8, h⟩
    · injection h with h; subst h
      exact KnowsS.of (C := C46) wf Try.func46 (cs := [.reg 1 [(1, { it := .res (.tup [(.lit (.complex .f64 q.1.1 q.1.2)), (.lit (.bool q.2))]) [.cells 72 [(.lit (.int .i64 c.letter_base)), (.lit (.complex .f64 c.letter_sign.1 c.letter_sign.2)), (.lit (.bool c.is))]] [] })], .reg 2 [(2, { w := some false }), (3, { w := some false }), (4, { w := some false }), (5, { w := some false }), (6, { it := .b false })], .b false, .reg 7 [(1, { it := .res (.sl (.excl 3) false (eI .i64 q1.1)) [.cells 72 [(.lit (.int .i64 q1.2.letter_base)), (.lit (.complex .f64 q1.2.letter_sign.1 q1.2.letter_sign.2)), (.lit (.bool q1.2.is))]] [] })], .reg 8 [(1, { it := .res (.tup [(.agg [(.lit (.int .i64 q2.1.base)), (.lit (.complex .f64 q2.1.sign.1 q2.1.sign.2))]), (.lit (.bool q2.2))]) [.cells 72 [(.lit (.int .i64 q1.2.letter_base)), (.lit (.complex .f64 q1.2.letter_sign.1 q1.2.letter_sign.2)), (.lit (.bool q1.2.is))]] [] })], .b true]) (args := [(.ptr 0 0), (.lit (.int .i64 s))]) (σ := [.cells 72 [(.lit (.int .i64 c.letter_base)), (.lit (.complex .f64 c.letter_sign.1 c.letter_sign.2)), (.lit (.bool c.is))]]) (σ' := [.cells 72 [(.lit (.int .i64 q2.1.base)), (.lit (.complex .f64 q2.1.sign.1 q2.1.sign.2)), (.lit (.bool true))]]) (r := (.sl (.excl 3) false (eI .i64 q1.1))) (ps := [CallK Try.prog false 39 [(.lit (.int .i64 s))] [.cells 72 [(.lit (.int .i64 c.letter_base)), (.lit (.complex .f64 c.letter_sign.1 c.letter_sign.2)), (.lit (.bool c.is))]] (.tup [(.lit (.complex .f64 q.1.1 q.1.2)), (.lit (.bool q.2))]) [.cells 72 [(.lit (.int .i64 c.letter_base)), (.lit (.complex .f64 c.letter_sign.1 c.letter_sign.2)), (.lit (.bool c.is))]],
          q.2 = false,
          q.2 = false,
          q.2 = false,
          q.2 = false,
          q.2 = false,
          false = false,
          CallK Try.prog false 48 [(.ptr 0 0)] [.cells 72 [(.lit (.int .i64 c.letter_base)), (.lit (.complex .f64 c.letter_sign.1 c.letter_sign.2)), (.lit (.bool c.is))]] (.sl (.excl 3) false (eI .i64 q1.1)) [.cells 72 [(.lit (.int .i64 q1.2.letter_base)), (.lit (.complex .f64 q1.2.letter_sign.1 q1.2.letter_sign.2)), (.lit (.bool q1.2.is))]],
          CallK Try.prog false 32 [(.lit (.int .i64 s))] [.cells 72 [(.lit (.int .i64 q1.2.letter_base)), (.lit (.complex .f64 q1.2.letter_sign.1 q1.2.letter_sign.2)), (.lit (.bool q1.2.is))]] (.tup [(.agg [(.lit (.int .i64 q2.1.base)), (.lit (.complex .f64 q2.1.sign.1 q2.1.sign.2))]), (.lit (.bool q2.2))]) [.cells 72 [(.lit (.int .i64 q1.2.letter_base)), (.lit (.complex .f64 q1.2.letter_sign.1 q1.2.letter_sign.2)), (.lit (.bool q1.2.is))]],
          q2.2 = true,
          noRefss 1 (eI .i64 q1.1) = true]) (by kernel_rfl)
        ⟨(call_viet_Sign h_q _ _), (Bool.eq_false_iff.2 hc1), (Bool.eq_false_iff.2 hc1), (Bool.eq_false_iff.2 hc1), (Bool.eq_false_iff.2 hc1), (Bool.eq_false_iff.2 hc1), rfl, (callK_emb (knows_vcanon_Canon_End c h_q1) [0] rfl rfl rfl rfl rfl rfl rfl rfl rfl rfl rfl (ren_res _ _ ((map_noRef (fun _ => rfl) _)))), (call_viet_Split h_q2 _ _), hc8, (map_noRef (fun _ => rfl) _), trivial⟩
    · obtain ⟨hg9, h⟩ := guardO_some h
      injection h with h; subst h
      exact KnowsS.of (C := C46) wf Try.func46 (cs := [.reg 1 [(1, { it := .res (.tup [(.lit (.complex .f64 q.1.1 q.1.2)), (.lit (.bool q.2))]) [.cells 72 [(.lit (.int .i64 c.letter_base)), (.lit (.complex .f64 c.letter_sign.1 c.letter_sign.2)), (.lit (.bool c.is))]] [] })], .reg 2 [(2, { w := some false }), (3, { w := some false }), (4, { w := some false }), (5, { w := some false }), (6, { it := .b false })], .b false, .reg 7 [(1, { it := .res (.sl (.excl 3) false (eI .i64 q1.1)) [.cells 72 [(.lit (.int .i64 q1.2.letter_base)), (.lit (.complex .f64 q1.2.letter_sign.1 q1.2.letter_sign.2)), (.lit (.bool q1.2.is))]] [] })], .reg 8 [(1, { it := .res (.tup [(.agg [(.lit (.int .i64 q2.1.base)), (.lit (.complex .f64 q2.1.sign.1 q2.1.sign.2))]), (.lit (.bool q2.2))]) [.cells 72 [(.lit (.int .i64 q1.2.letter_base)), (.lit (.complex .f64 q1.2.letter_sign.1 q1.2.letter_sign.2)), (.lit (.bool q1.2.is))]] [] })], .b false, .reg 12 [(3, { it := .sl (eI .i64 (q1.1 ++ [s])) })]]) (args := [(.ptr 0 0), (.lit (.int .i64 s))]) (σ := [.cells 72 [(.lit (.int .i64 c.letter_base)), (.lit (.complex .f64 c.letter_sign.1 c.letter_sign.2)), (.lit (.bool c.is))]]) (σ' := [.cells 72 [(.lit (.int .i64 q1.2.letter_base)), (.lit (.complex .f64 q1.2.letter_sign.1 q1.2.letter_sign.2)), (.lit (.bool q1.2.is))]]) (r := (.sl (.excl 3) false (eI .i64 (q1.1 ++ [s])))) (ps := [CallK Try.prog false 39 [(.lit (.int .i64 s))] [.cells 72 [(.lit (.int .i64 c.letter_base)), (.lit (.complex .f64 c.letter_sign.1 c.letter_sign.2)), (.lit (.bool c.is))]] (.tup [(.lit (.complex .f64 q.1.1 q.1.2)), (.lit (.bool q.2))]) [.cells 72 [(.lit (.int .i64 c.letter_base)), (.lit (.complex .f64 c.letter_sign.1 c.letter_sign.2)), (.lit (.bool c.is))]],
          q.2 = false,
          q.2 = false,
          q.2 = false,
          q.2 = false,
          q.2 = false,
          false = false,
          CallK Try.prog false 48 [(.ptr 0 0)] [.cells 72 [(.lit (.int .i64 c.letter_base)), (.lit (.complex .f64 c.letter_sign.1 c.letter_sign.2)), (.lit (.bool c.is))]] (.sl (.excl 3) false (eI .i64 q1.1)) [.cells 72 [(.lit (.int .i64 q1.2.letter_base)), (.lit (.complex .f64 q1.2.letter_sign.1 q1.2.letter_sign.2)), (.lit (.bool q1.2.is))]],
          CallK Try.prog false 32 [(.lit (.int .i64 s))] [.cells 72 [(.lit (.int .i64 q1.2.letter_base)), (.lit (.complex .f64 q1.2.letter_sign.1 q1.2.letter_sign.2)), (.lit (.bool q1.2.is))]] (.tup [(.agg [(.lit (.int .i64 q2.1.base)), (.lit (.complex .f64 q2.1.sign.1 q2.1.sign.2))]), (.lit (.bool q2.2))]) [.cells 72 [(.lit (.int .i64 q1.2.letter_base)), (.lit (.complex .f64 q1.2.letter_sign.1 q1.2.letter_sign.2)), (.lit (.bool q1.2.is))]],
          q2.2 = false,
          (List.length (eI .i64 q1.1) + List.length (eI .i64 [s])) * 8 ≤ 2 ^ 46,
          (eI .i64 [s]).all (fun c => c.length = 1 && c.all PV.one) = true,
          (eI .i64 q1.1) ++ (eI .i64 [s]) = (eI .i64 (q1.1 ++ [s])),
          noRefss 1 (eI .i64 (q1.1 ++ [s])) = true]) (by kernel_rfl)
        ⟨(call_viet_Sign h_q _ _), (Bool.eq_false_iff.2 hc1), (Bool.eq_false_iff.2 hc1), (Bool.eq_false_iff.2 hc1), (Bool.eq_false_iff.2 hc1), (Bool.eq_false_iff.2 hc1), rfl, (callK_emb (knows_vcanon_Canon_End c h_q1) [0] rfl rfl rfl rfl rfl rfl rfl rfl rfl rfl rfl (ren_res _ _ ((map_noRef (fun _ => rfl) _)))), (call_viet_Split h_q2 _ _), (Bool.eq_false_iff.2 hc8), (len_map2 hg9), (all_map (fun _ => rfl) _), (List.map_append).symm, (map_noRef (fun _ => rfl) _), trivial⟩

def h43 : Nat → Option Hint
| 0 => some { keep := [0] }
| 1 => some { keep := [0, 3] }
| 2 => some { keep := [0, 3, 4], nils := [((.tmp 4), 3)] }
| 3 => some { keep := [0, 3, 4, 9, 10, 11] }
| 4 => some { keep := [0, 3, 4, 9, 10, 11, 12] }
| 5 => some { keep := [0, 3, 4, 6, 9, 10, 11] }
| 6 => some { keep := [0, 3, 4, 9, 10, 11] }
| 7 => some { keep := [0, 3, 4, 9, 10, 11] }
| 8 => some { keep := [2] }
| _ => none

noncomputable def C43 : Ctx := { P := Try.prog, mv := fun _ _ => false, res := resOf Try.f43, live := h43, call := fun _ _ _ => none }

def S_vcanon_All_L0 (ss : (List Int)) (vv : (List Int) × Int × Int × Nat × Nat × Bool) : St :=
  match vv with
  | (out_, v, m, m_re, m_im, m1) => { ts := [(0, (.sl .view false (eI .i64 ss))), (3, (.ptr 0 0)), (4, (.sl (.excl 3) false (eI .i64 out_))), (9, (.sl .view false (eI .i64 ss))), (10, (.lit (.int .i64 (ss.length : Int)))), (11, (.lit (.int .i64 v)))], n := 25, σ := [.cells 72 [(.lit (.int .i64 m)), (.lit (.complex .f64 m_re m_im)), (.lit (.bool m1))]] }

def X_vcanon_All_L0_0 (ss : (List Int)) (out_ : List Int) (v : Int) (v1 : Bool) (m : Int) (m_re : Nat) (m_im : Nat) (m1 : Bool) : St := { ts := [(0, (.sl .view false (eI .i64 ss))), (3, (.ptr 0 0)), (4, (.sl (.excl 3) false (eI .i64 out_))), (9, (.sl .view false (eI .i64 ss))), (10, (.lit (.int .i64 (ss.length : Int)))), (11, (.lit (.int .i64 v))), (12, (.lit (.bool v1)))], n := 25, σ := [.cells 72 [(.lit (.int .i64 m)), (.lit (.complex .f64 m_re m_im)), (.lit (.bool m1))]] }

def E_vcanon_All_L0 (ss : (List Int)) (vv : (List Int) × Int × Bool × Int × Nat × Nat × Bool) : Exit × St :=
  match vv with
  | (out_, v, v1, m, m_re, m_im, m1) => (.exit 0, X_vcanon_All_L0_0 ss out_ v v1 m m_re m_im m1)

set_option maxRecDepth 100000 in
theorem body_vcanon_All_L0 (ss : (List Int)) (vv : (List Int) × Int × Int × Nat × Nat × Bool) (x) (h : vcanon_All_L0 ss vv = some x) : RunsB Try.prog 0 (sub [1, 1, 1, 0, 1, 0, 0] (fbody Try.f43)) (S_vcanon_All_L0 ss vv) (sideX (E_vcanon_All_L0 ss) x) (sideS (S_vcanon_All_L0 ss) (E_vcanon_All_L0 ss) x) := by
  obtain ⟨out_, v, m, m_re, m_im, m1⟩ := vv
  unfold vcanon_All_L0 at h
  dsimp only at h
  rcases ite_some h with ⟨hc7, h⟩ | ⟨hc7, h⟩
  · obtain ⟨x_, h_x_, h⟩ := Option.bind_eq_some_iff.1 h
    obtain ⟨q, h_q, h⟩ := Option.bind_eq_some_iff.1 h
    obtain ⟨hg8, h⟩ := guardO_some h
    injection h with h; subst h
    exact codeH_sound (C := C43) (base := 0) wf _ (cs := [.b true, .reg 5 [(0, { it := .cs [(.lit (.int .i64 x_))] })], .reg 6 [(3, { it := .res (.sl (.excl 3) false (eI .i64 q.1)) [.cells 72 [(.lit (.int .i64 q.2.letter_base)), (.lit (.complex .f64 q.2.letter_sign.1 q.2.letter_sign.2)), (.lit (.bool q.2.is))]] [] }), (4, { it := .sl (eI .i64 (out_ ++ q.1)) })]]) (cs' := []) (ps := [(decide (v < (ss.length : Int))) = true,
        nthPV (eI .i64 ss) v = some [(.lit (.int .i64 x_))],
        CallK Try.prog false 46 [(.ptr 0 0), (.lit (.int .i64 x_))] [.cells 72 [(.lit (.int .i64 m)), (.lit (.complex .f64 m_re m_im)), (.lit (.bool m1))]] (.sl (.excl 3) false (eI .i64 q.1)) [.cells 72 [(.lit (.int .i64 q.2.letter_base)), (.lit (.complex .f64 q.2.letter_sign.1 q.2.letter_sign.2)), (.lit (.bool q.2.is))]],
        (List.length (eI .i64 out_) + List.length (eI .i64 q.1)) * 8 ≤ 2 ^ 46,
        (eI .i64 q.1).all (fun c => c.length = 1 && c.all PV.one) = true,
        (eI .i64 out_) ++ (eI .i64 q.1) = (eI .i64 (out_ ++ q.1))]) (by kernel_rfl)
      ⟨(decide_eq_true hc7), (nth_map _ h_x_), (callK_emb (knows_vcanon_Canon_Put (⟨m, (m_re, m_im), m1⟩ : GVcanonCanon) x_ h_q) [0] rfl rfl rfl rfl rfl rfl rfl rfl rfl rfl rfl (ren_res _ _ ((map_noRef (fun _ => rfl) _)))), (len_map2 hg8), (all_map (fun _ => rfl) _), (List.map_append).symm, trivial⟩
  · injection h with h; subst h
    exact codeH_sound (C := C43) (base := 0) wf _ (cs := [.b false]) (cs' := []) (ps := [(decide (v < (ss.length : Int))) = false]) (by kernel_rfl)
      ⟨(decide_eq_false hc7), trivial⟩

theorem runs_vcanon_All_L0 (ss : (List Int)) {nn} {vv : (List Int) × Int × Int × Nat × Nat × Bool} {rr} (h : loopM (vcanon_All_L0 ss) nn vv = some rr) : RunsB Try.prog 0 (.loop (sub [1, 1, 1, 0, 1, 0, 0] (fbody Try.f43))) (S_vcanon_All_L0 ss vv) (E_vcanon_All_L0 ss rr).1 (E_vcanon_All_L0 ss rr).2 :=
  loop_runs (by intro r; simp [E_vcanon_All_L0]) (body_vcanon_All_L0 ss) nn vv rr h

set_option maxRecDepth 100000 in
theorem knows_vcanon_All (ss : (List Int)) {r} (h : vcanon_All ss = some r) : Knows Try.prog 43 [(.sl .view false (eI .i64 ss))] (.sl (.excl 3) false (eI .i64 r)) := by
  unfold vcanon_All at h
  obtain ⟨l9, hr_l9, h⟩ := Option.bind_eq_some_iff.1 h
  have hl_l9 := runs_vcanon_All_L0 ss hr_l9
  obtain ⟨out_, v, v1, m, m_re, m_im, m1⟩ := l9
  dsimp only at h
  obtain ⟨q, h_q, h⟩ := Option.bind_eq_some_iff.1 h
  obtain ⟨hg10, h⟩ := guardO_some h
  injection h with h; subst h
  exact Knows.of (C := C43) wf Try.func43 (cs := [.reg 3 [(1, { it := .val (.int .i64 (ss.length : Int)) })], .lp (.exit 0) (X_vcanon_All_L0_0 ss out_ v v1 m m_re m_im m1), .reg 8 [(2, { it := .res (.sl (.excl 3) false (eI .i64 q.1)) [.cells 72 [(.lit (.int .i64 q.2.letter_base)), (.lit (.complex .f64 q.2.letter_sign.1 q.2.letter_sign.2)), (.lit (.bool q.2.is))]] [] }), (3, { it := .sl (eI .i64 (out_ ++ q.1)) })]]) (args := [(.sl .view false (eI .i64 ss))]) (r := (.sl (.excl 3) false (eI .i64 (out_ ++ q.1)))) (ps := [Value.int .i64 (↑(List.length (eI .i64 ss)) : Int) = .int .i64 (ss.length : Int),
      RunsB Try.prog 0 (.loop (sub [1, 1, 1, 0, 1, 0, 0] (fbody Try.f43))) (S_vcanon_All_L0 ss ([], 0, 0, 0, 0, false)) (.exit 0) (X_vcanon_All_L0_0 ss out_ v v1 m m_re m_im m1),
      CallK Try.prog false 48 [(.ptr 0 0)] [.cells 72 [(.lit (.int .i64 m)), (.lit (.complex .f64 m_re m_im)), (.lit (.bool m1))]] (.sl (.excl 3) false (eI .i64 q.1)) [.cells 72 [(.lit (.int .i64 q.2.letter_base)), (.lit (.complex .f64 q.2.letter_sign.1 q.2.letter_sign.2)), (.lit (.bool q.2.is))]],
      (List.length (eI .i64 out_) + List.length (eI .i64 q.1)) * 8 ≤ 2 ^ 46,
      (eI .i64 q.1).all (fun c => c.length = 1 && c.all PV.one) = true,
      (eI .i64 out_) ++ (eI .i64 q.1) = (eI .i64 (out_ ++ q.1)),
      noRefss 0 (eI .i64 (out_ ++ q.1)) = true]) (by kernel_rfl)
    ⟨(len_val _ _), hl_l9, (callK_emb (knows_vcanon_Canon_End (⟨m, (m_re, m_im), m1⟩ : GVcanonCanon) h_q) [0] rfl rfl rfl rfl rfl rfl rfl rfl rfl rfl rfl (ren_res _ _ ((map_noRef (fun _ => rfl) _)))), (len_map2 hg10), (all_map (fun _ => rfl) _), (List.map_append).symm, (map_noRef (fun _ => rfl) _), trivial⟩
theorem call_vcanon_All {ss : (List Int)} {r} (h : vcanon_All ss = some r) (kp : Bool) (σ : List Bx) : CallK Try.prog kp 43 [(.sl .view false (eI .i64 ss))] σ (.sl (.excl 3) false (eI .i64 r)) σ :=
  (knows_vcanon_All ss h).call (and_t (map_noRef (fun _ => rfl) _) rfl) rfl kp σ

def h44 : Nat → Option Hint
| 0 => some { keep := [0] }
| 1 => some { keep := [0, 3], nils := [((.tmp 3), 3)] }
| 2 => some { keep := [0, 3, 4] }
| 3 => some { keep := [0, 3, 4, 16] }
| 4 => some { keep := [0, 3, 4, 5, 6] }
| 5 => some { keep := [0, 3, 4, 5, 6] }
| 6 => some { keep := [0, 3, 4, 5, 28] }
| 7 => some { keep := [0, 3, 4], cut := some 0 }
| 8 => some { keep := [0, 3, 4, 5, 40] }
| 9 => some { keep := [0, 3, 4, 5, 7, 8] }
| 10 => some { keep := [0, 3, 4, 5, 7, 68] }
| 11 => some { keep := [0, 3, 4, 5, 7, 10] }
| 12 => some { keep := [0, 3, 4, 5, 7, 86] }
| 13 => some { keep := [0, 3, 4, 5] }
| 14 => some { keep := [0, 3, 4, 5] }
| 15 => some { keep := [0, 3, 4, 11] }
| 16 => some { keep := [0, 3, 4], cut := some 0 }
| 17 => some { keep := [2] }
| _ => none

noncomputable def C44 : Ctx := { P := Try.prog, mv := fun _ _ => false, res := resOf Try.f44, live := h44, call := fun _ _ _ => none }

def S_lontarlaw10_canon_L1 (ss : (List Int)) (out_ : List Int) (q : (GVietLetter × Bool)) (vv : Int × Nat × Nat) : St :=
  match vv with
  | (k1, m_re, m_im) => { ts := [(0, (.sl .view false (eI .i64 ss))), (3, (.sl (.excl 3) false (eI .i64 out_))), (4, (.lit (.int .i64 k1))), (5, (.ptr 0 0))], n := 111, σ := [.cells 38 [(.lit (.int .i64 q.1.base)), (.lit (.complex .f64 m_re m_im))]] }

def X_lontarlaw10_canon_L1_0 (ss : (List Int)) (out_ : List Int) (q : (GVietLetter × Bool)) (k1 : Int) (z_re : Nat) (z_im : Nat) (v : Bool) (m_re : Nat) (m_im : Nat) : St := { ts := [(0, (.sl .view false (eI .i64 ss))), (3, (.sl (.excl 3) false (eI .i64 out_))), (4, (.lit (.int .i64 k1))), (5, (.ptr 0 0)), (7, (.lit (.complex .f64 z_re z_im))), (86, (.lit (.bool v)))], n := 111, σ := [.cells 38 [(.lit (.int .i64 q.1.base)), (.lit (.complex .f64 m_re m_im))]] }

def X_lontarlaw10_canon_L1_1 (ss : (List Int)) (out_ : List Int) (q : (GVietLetter × Bool)) (k1 : Int) (z_re : Nat) (z_im : Nat) (v : Bool) (m_re : Nat) (m_im : Nat) : St := { ts := [(0, (.sl .view false (eI .i64 ss))), (3, (.sl (.excl 3) false (eI .i64 out_))), (4, (.lit (.int .i64 k1))), (5, (.ptr 0 0)), (7, (.lit (.complex .f64 z_re z_im))), (68, (.lit (.bool v)))], n := 111, σ := [.cells 38 [(.lit (.int .i64 q.1.base)), (.lit (.complex .f64 m_re m_im))]] }

def X_lontarlaw10_canon_L1_2 (ss : (List Int)) (out_ : List Int) (q : (GVietLetter × Bool)) (k1 : Int) (z_re : Nat) (z_im : Nat) (m_re : Nat) (m_im : Nat) : St := { ts := [(0, (.sl .view false (eI .i64 ss))), (3, (.sl (.excl 3) false (eI .i64 out_))), (4, (.lit (.int .i64 k1))), (5, (.ptr 0 0)), (7, (.lit (.complex .f64 z_re z_im))), (68, (.lit (.bool true)))], n := 111, σ := [.cells 38 [(.lit (.int .i64 q.1.base)), (.lit (.complex .f64 m_re m_im))]] }

def X_lontarlaw10_canon_L1_3 (ss : (List Int)) (out_ : List Int) (q : (GVietLetter × Bool)) (k1 : Int) (z_re : Nat) (z_im : Nat) (m_re : Nat) (m_im : Nat) : St := { ts := [(0, (.sl .view false (eI .i64 ss))), (3, (.sl (.excl 3) false (eI .i64 out_))), (4, (.lit (.int .i64 k1))), (5, (.ptr 0 0)), (7, (.lit (.complex .f64 z_re z_im))), (68, (.lit (.bool true)))], n := 111, σ := [.cells 38 [(.lit (.int .i64 q.1.base)), (.lit (.complex .f64 m_re m_im))]] }

def X_lontarlaw10_canon_L1_4 (ss : (List Int)) (out_ : List Int) (q : (GVietLetter × Bool)) (k1 : Int) (v : Bool) (m_re : Nat) (m_im : Nat) : St := { ts := [(0, (.sl .view false (eI .i64 ss))), (3, (.sl (.excl 3) false (eI .i64 out_))), (4, (.lit (.int .i64 k1))), (5, (.ptr 0 0)), (40, (.lit (.bool v)))], n := 111, σ := [.cells 38 [(.lit (.int .i64 q.1.base)), (.lit (.complex .f64 m_re m_im))]] }

def E_lontarlaw10_canon_L1 (ss : (List Int)) (out_ : List Int) (q : (GVietLetter × Bool)) (vv : lontarlaw10_canon_L1_R) : Exit × St :=
  match vv with
  | .x0 k1 z_re z_im v m_re m_im => (.exit 2, X_lontarlaw10_canon_L1_0 ss out_ q k1 z_re z_im v m_re m_im)
  | .x1 k1 z_re z_im v m_re m_im => (.exit 2, X_lontarlaw10_canon_L1_1 ss out_ q k1 z_re z_im v m_re m_im)
  | .x2 k1 z_re z_im m_re m_im => (.exit 2, X_lontarlaw10_canon_L1_2 ss out_ q k1 z_re z_im m_re m_im)
  | .x3 k1 z_re z_im m_re m_im => (.exit 2, X_lontarlaw10_canon_L1_3 ss out_ q k1 z_re z_im m_re m_im)
  | .x4 k1 v m_re m_im => (.exit 2, X_lontarlaw10_canon_L1_4 ss out_ q k1 v m_re m_im)

set_option maxRecDepth 100000 in
theorem body_lontarlaw10_canon_L1 (ss : (List Int)) (out_ : List Int) (q : (GVietLetter × Bool)) (vv : Int × Nat × Nat) (x) (h : lontarlaw10_canon_L1 ss q vv = some x) : RunsB Try.prog 0 (sub [1, 1, 0, 1, 0, 0, 1, 0, 1, 1, 1, 0, 0, 0] (fbody Try.f44)) (S_lontarlaw10_canon_L1 ss out_ q vv) (sideX (E_lontarlaw10_canon_L1 ss out_ q) x) (sideS (S_lontarlaw10_canon_L1 ss out_ q) (E_lontarlaw10_canon_L1 ss out_ q) x) := by
  obtain ⟨k1, m_re, m_im⟩ := vv
  unfold lontarlaw10_canon_L1 at h
  dsimp only at h
  rcases ite_some h with ⟨hc105, h⟩ | ⟨hc105, h⟩
  · obtain ⟨x_1, h_x_1, h⟩ := Option.bind_eq_some_iff.1 h
    obtain ⟨q1, h_q1, h⟩ := Option.bind_eq_some_iff.1 h
    rcases ite_some h with ⟨hc106, h⟩ | ⟨hc106, h⟩
    · obtain ⟨v, h_v, h⟩ := Option.bind_eq_some_iff.1 h
      rcases ite_some h with ⟨hc107, h⟩ | ⟨hc107, h⟩
      · obtain ⟨v1, h_v1, h⟩ := Option.bind_eq_some_iff.1 h
        rcases ite_some h with ⟨hc108, h⟩ | ⟨hc108, h⟩
        · obtain ⟨re, h_re, h⟩ := Option.bind_eq_some_iff.1 h
          obtain ⟨im, h_im, h⟩ := Option.bind_eq_some_iff.1 h
          obtain ⟨re1, h_re1, h⟩ := Option.bind_eq_some_iff.1 h
          obtain ⟨im1, h_im1, h⟩ := Option.bind_eq_some_iff.1 h
          obtain ⟨q2, h_q2, h⟩ := Option.bind_eq_some_iff.1 h
          rcases ite_some h with ⟨hc109, h⟩ | ⟨hc109, h⟩
          · obtain ⟨re2, h_re2, h⟩ := Option.bind_eq_some_iff.1 h
            obtain ⟨im2, h_im2, h⟩ := Option.bind_eq_some_iff.1 h
            injection h with h; subst h
            exact codeH_sound (C := C44) (base := 0) wf _ (cs := [.reg 8 [(2, { it := .val (.int .i64 (ss.length : Int)) })], .b true, .reg 9 [(2, { it := .cs [(.lit (.int .i64 x_1))] }), (4, { it := .res (.tup [(.lit (.complex .f64 q1.1.1 q1.1.2)), (.lit (.bool q1.2))]) [.cells 38 [(.lit (.int .i64 q.1.base)), (.lit (.complex .f64 m_re m_im))]] [] })], .reg 10 [(3, { w := some false }), (4, { w := some false }), (5, { it := .val (.float .f64 m_re), w := some false }), (6, { w := some false }), (7, { it := .val (.float .f64 q1.1.1), w := some false }), (8, { it := .val (.float .f64 v), w := some false }), (9, { it := .val (.bool (!(feq v 0))), w := some false }), (10, { it := .b false }), (12, { w := some false }), (13, { w := some false }), (14, { it := .val (.float .f64 m_im), w := some false }), (15, { w := some false }), (16, { it := .val (.float .f64 q1.1.2), w := some false }), (17, { it := .val (.float .f64 v1), w := some false }), (18, { it := .val (.bool (!(feq v1 0))), w := some false }), (19, { it := .b false })], .b false, .reg 11 [(5, { it := .val (.complex .f64 re im) }), (6, { it := .val (.float .f64 re) }), (10, { it := .val (.complex .f64 re1 im1) }), (11, { it := .val (.float .f64 im1) }), (12, { it := .res (.tup [(.lit (.int .i64 q2.1)), (.lit (.bool q2.2))]) [.cells 38 [(.lit (.int .i64 q.1.base)), (.lit (.complex .f64 m_re m_im))]] [] })], .b false, .reg 13 [(3, { it := .val (.complex .f64 re2 im2) })]]) (cs' := []) (ps := [Value.int .i64 (↑(List.length (eI .i64 ss)) : Int) = .int .i64 (ss.length : Int),
                (decide (k1 < (ss.length : Int))) = true,
                nthPV (eI .i64 ss) k1 = some [(.lit (.int .i64 x_1))],
                CallK Try.prog false 53 [(.lit (.int .i64 x_1))] [.cells 38 [(.lit (.int .i64 q.1.base)), (.lit (.complex .f64 m_re m_im))]] (.tup [(.lit (.complex .f64 q1.1.1 q1.1.2)), (.lit (.bool q1.2))]) [.cells 38 [(.lit (.int .i64 q.1.base)), (.lit (.complex .f64 m_re m_im))]],
                (!q1.2) = false,
                (!q1.2) = false,
                (!q1.2) = false,
                det Try.prog (builtin .real #[36] 47 [false].toArray [(.complex .f64 m_re m_im)].toArray) = some (.value (.float .f64 m_re)),
                (!q1.2) = false,
                (!q1.2) = false,
                det Try.prog (builtin .real #[36] 47 [false].toArray [(.complex .f64 q1.1.1 q1.1.2)].toArray) = some (.value (.float .f64 q1.1.1)),
                (!q1.2) = false,
                det Try.prog (do eqGuard .mul 47 (.tmp 54) (.tmp 56) (.float .f64 m_re) (.float .f64 q1.1.1); binOp .mul 47 (.float .f64 m_re) (.float .f64 q1.1.1)) = some (.float .f64 v),
                (!q1.2) = false,
                det Try.prog (do eqGuard .neq 47 (.tmp 57) (.const (.float .f64 0)) (.float .f64 v) (.float .f64 0); binOp .neq 47 (.float .f64 v) (.float .f64 0)) = some (.bool (!(feq v 0))),
                (!q1.2) = false,
                (!(feq v 0)) = false,
                (!(feq v 0)) = false,
                (!(feq v 0)) = false,
                det Try.prog (builtin .imag #[36] 47 [false].toArray [(.complex .f64 m_re m_im)].toArray) = some (.value (.float .f64 m_im)),
                (!(feq v 0)) = false,
                (!(feq v 0)) = false,
                det Try.prog (builtin .imag #[36] 47 [false].toArray [(.complex .f64 q1.1.1 q1.1.2)].toArray) = some (.value (.float .f64 q1.1.2)),
                (!(feq v 0)) = false,
                det Try.prog (do eqGuard .mul 47 (.tmp 63) (.tmp 65) (.float .f64 m_im) (.float .f64 q1.1.2); binOp .mul 47 (.float .f64 m_im) (.float .f64 q1.1.2)) = some (.float .f64 v1),
                (!(feq v 0)) = false,
                det Try.prog (do eqGuard .neq 47 (.tmp 66) (.const (.float .f64 0)) (.float .f64 v1) (.float .f64 0); binOp .neq 47 (.float .f64 v1) (.float .f64 0)) = some (.bool (!(feq v1 0))),
                (!(feq v 0)) = false,
                (!(feq v1 0)) = false,
                det Try.prog (do eqGuard .add 36 (.tmp 73) (.tmp 74) (.complex .f64 m_re m_im) (.complex .f64 q1.1.1 q1.1.2); binOp .add 36 (.complex .f64 m_re m_im) (.complex .f64 q1.1.1 q1.1.2)) = some (.complex .f64 re im),
                det Try.prog (builtin .real #[36] 47 [false].toArray [(.complex .f64 re im)].toArray) = some (.value (.float .f64 re)),
                det Try.prog (do eqGuard .add 36 (.tmp 78) (.tmp 79) (.complex .f64 m_re m_im) (.complex .f64 q1.1.1 q1.1.2); binOp .add 36 (.complex .f64 m_re m_im) (.complex .f64 q1.1.1 q1.1.2)) = some (.complex .f64 re1 im1),
                det Try.prog (builtin .imag #[36] 47 [false].toArray [(.complex .f64 re1 im1)].toArray) = some (.value (.float .f64 im1)),
                CallK Try.prog false 35 [(.lit (.int .i64 q.1.base)), (.lit (.float .f64 re)), (.lit (.float .f64 im1))] [.cells 38 [(.lit (.int .i64 q.1.base)), (.lit (.complex .f64 m_re m_im))]] (.tup [(.lit (.int .i64 q2.1)), (.lit (.bool q2.2))]) [.cells 38 [(.lit (.int .i64 q.1.base)), (.lit (.complex .f64 m_re m_im))]],
                (!q2.2) = false,
                det Try.prog (do eqGuard .add 36 (.tmp 88) (.tmp 89) (.complex .f64 m_re m_im) (.complex .f64 q1.1.1 q1.1.2); binOp .add 36 (.complex .f64 m_re m_im) (.complex .f64 q1.1.1 q1.1.2)) = some (.complex .f64 re2 im2)]) (by kernel_rfl)
              ⟨(len_val _ _), (decide_eq_true hc105), (nth_map _ h_x_1), (call_lontarlaw10_sign h_q1 _ _), (not_f hc106), (not_f hc106), (not_f hc106), rfl, (not_f hc106), (not_f hc106), rfl, (not_f hc106), (det_fmul h_v), (not_f hc106), (det_fneq _ _ _ _ _ _), (not_f hc106), (not_f hc107), (not_f hc107), (not_f hc107), rfl, (not_f hc107), (not_f hc107), rfl, (not_f hc107), (det_fmul h_v1), (not_f hc107), (det_fneq _ _ _ _ _ _), (not_f hc107), (not_f hc108), (det_cadd h_re h_im), rfl, (det_cadd h_re1 h_im1), rfl, (call_lontarlaw09_Join h_q2 _ _), (not_f hc109), (det_cadd h_re2 h_im2), trivial⟩
          · injection h with h; subst h
            exact codeH_sound (C := C44) (base := 0) wf _ (cs := [.reg 8 [(2, { it := .val (.int .i64 (ss.length : Int)) })], .b true, .reg 9 [(2, { it := .cs [(.lit (.int .i64 x_1))] }), (4, { it := .res (.tup [(.lit (.complex .f64 q1.1.1 q1.1.2)), (.lit (.bool q1.2))]) [.cells 38 [(.lit (.int .i64 q.1.base)), (.lit (.complex .f64 m_re m_im))]] [] })], .reg 10 [(3, { w := some false }), (4, { w := some false }), (5, { it := .val (.float .f64 m_re), w := some false }), (6, { w := some false }), (7, { it := .val (.float .f64 q1.1.1), w := some false }), (8, { it := .val (.float .f64 v), w := some false }), (9, { it := .val (.bool (!(feq v 0))), w := some false }), (10, { it := .b false }), (12, { w := some false }), (13, { w := some false }), (14, { it := .val (.float .f64 m_im), w := some false }), (15, { w := some false }), (16, { it := .val (.float .f64 q1.1.2), w := some false }), (17, { it := .val (.float .f64 v1), w := some false }), (18, { it := .val (.bool (!(feq v1 0))), w := some false }), (19, { it := .b false })], .b false, .reg 11 [(5, { it := .val (.complex .f64 re im) }), (6, { it := .val (.float .f64 re) }), (10, { it := .val (.complex .f64 re1 im1) }), (11, { it := .val (.float .f64 im1) }), (12, { it := .res (.tup [(.lit (.int .i64 q2.1)), (.lit (.bool q2.2))]) [.cells 38 [(.lit (.int .i64 q.1.base)), (.lit (.complex .f64 m_re m_im))]] [] })], .b true]) (cs' := []) (ps := [Value.int .i64 (↑(List.length (eI .i64 ss)) : Int) = .int .i64 (ss.length : Int),
                (decide (k1 < (ss.length : Int))) = true,
                nthPV (eI .i64 ss) k1 = some [(.lit (.int .i64 x_1))],
                CallK Try.prog false 53 [(.lit (.int .i64 x_1))] [.cells 38 [(.lit (.int .i64 q.1.base)), (.lit (.complex .f64 m_re m_im))]] (.tup [(.lit (.complex .f64 q1.1.1 q1.1.2)), (.lit (.bool q1.2))]) [.cells 38 [(.lit (.int .i64 q.1.base)), (.lit (.complex .f64 m_re m_im))]],
                (!q1.2) = false,
                (!q1.2) = false,
                (!q1.2) = false,
                det Try.prog (builtin .real #[36] 47 [false].toArray [(.complex .f64 m_re m_im)].toArray) = some (.value (.float .f64 m_re)),
                (!q1.2) = false,
                (!q1.2) = false,
                det Try.prog (builtin .real #[36] 47 [false].toArray [(.complex .f64 q1.1.1 q1.1.2)].toArray) = some (.value (.float .f64 q1.1.1)),
                (!q1.2) = false,
                det Try.prog (do eqGuard .mul 47 (.tmp 54) (.tmp 56) (.float .f64 m_re) (.float .f64 q1.1.1); binOp .mul 47 (.float .f64 m_re) (.float .f64 q1.1.1)) = some (.float .f64 v),
                (!q1.2) = false,
                det Try.prog (do eqGuard .neq 47 (.tmp 57) (.const (.float .f64 0)) (.float .f64 v) (.float .f64 0); binOp .neq 47 (.float .f64 v) (.float .f64 0)) = some (.bool (!(feq v 0))),
                (!q1.2) = false,
                (!(feq v 0)) = false,
                (!(feq v 0)) = false,
                (!(feq v 0)) = false,
                det Try.prog (builtin .imag #[36] 47 [false].toArray [(.complex .f64 m_re m_im)].toArray) = some (.value (.float .f64 m_im)),
                (!(feq v 0)) = false,
                (!(feq v 0)) = false,
                det Try.prog (builtin .imag #[36] 47 [false].toArray [(.complex .f64 q1.1.1 q1.1.2)].toArray) = some (.value (.float .f64 q1.1.2)),
                (!(feq v 0)) = false,
                det Try.prog (do eqGuard .mul 47 (.tmp 63) (.tmp 65) (.float .f64 m_im) (.float .f64 q1.1.2); binOp .mul 47 (.float .f64 m_im) (.float .f64 q1.1.2)) = some (.float .f64 v1),
                (!(feq v 0)) = false,
                det Try.prog (do eqGuard .neq 47 (.tmp 66) (.const (.float .f64 0)) (.float .f64 v1) (.float .f64 0); binOp .neq 47 (.float .f64 v1) (.float .f64 0)) = some (.bool (!(feq v1 0))),
                (!(feq v 0)) = false,
                (!(feq v1 0)) = false,
                det Try.prog (do eqGuard .add 36 (.tmp 73) (.tmp 74) (.complex .f64 m_re m_im) (.complex .f64 q1.1.1 q1.1.2); binOp .add 36 (.complex .f64 m_re m_im) (.complex .f64 q1.1.1 q1.1.2)) = some (.complex .f64 re im),
                det Try.prog (builtin .real #[36] 47 [false].toArray [(.complex .f64 re im)].toArray) = some (.value (.float .f64 re)),
                det Try.prog (do eqGuard .add 36 (.tmp 78) (.tmp 79) (.complex .f64 m_re m_im) (.complex .f64 q1.1.1 q1.1.2); binOp .add 36 (.complex .f64 m_re m_im) (.complex .f64 q1.1.1 q1.1.2)) = some (.complex .f64 re1 im1),
                det Try.prog (builtin .imag #[36] 47 [false].toArray [(.complex .f64 re1 im1)].toArray) = some (.value (.float .f64 im1)),
                CallK Try.prog false 35 [(.lit (.int .i64 q.1.base)), (.lit (.float .f64 re)), (.lit (.float .f64 im1))] [.cells 38 [(.lit (.int .i64 q.1.base)), (.lit (.complex .f64 m_re m_im))]] (.tup [(.lit (.int .i64 q2.1)), (.lit (.bool q2.2))]) [.cells 38 [(.lit (.int .i64 q.1.base)), (.lit (.complex .f64 m_re m_im))]],
                (!q2.2) = true]) (by kernel_rfl)
              ⟨(len_val _ _), (decide_eq_true hc105), (nth_map _ h_x_1), (call_lontarlaw10_sign h_q1 _ _), (not_f hc106), (not_f hc106), (not_f hc106), rfl, (not_f hc106), (not_f hc106), rfl, (not_f hc106), (det_fmul h_v), (not_f hc106), (det_fneq _ _ _ _ _ _), (not_f hc106), (not_f hc107), (not_f hc107), (not_f hc107), rfl, (not_f hc107), (not_f hc107), rfl, (not_f hc107), (det_fmul h_v1), (not_f hc107), (det_fneq _ _ _ _ _ _), (not_f hc107), (not_f hc108), (det_cadd h_re h_im), rfl, (det_cadd h_re1 h_im1), rfl, (call_lontarlaw09_Join h_q2 _ _), (not_t (Bool.eq_false_iff.2 hc109)), trivial⟩
        · injection h with h; subst h
          exact codeH_sound (C := C44) (base := 0) wf _ (cs := [.reg 8 [(2, { it := .val (.int .i64 (ss.length : Int)) })], .b true, .reg 9 [(2, { it := .cs [(.lit (.int .i64 x_1))] }), (4, { it := .res (.tup [(.lit (.complex .f64 q1.1.1 q1.1.2)), (.lit (.bool q1.2))]) [.cells 38 [(.lit (.int .i64 q.1.base)), (.lit (.complex .f64 m_re m_im))]] [] })], .reg 10 [(3, { w := some false }), (4, { w := some false }), (5, { it := .val (.float .f64 m_re), w := some false }), (6, { w := some false }), (7, { it := .val (.float .f64 q1.1.1), w := some false }), (8, { it := .val (.float .f64 v), w := some false }), (9, { it := .val (.bool (!(feq v 0))), w := some false }), (10, { it := .b false }), (12, { w := some false }), (13, { w := some false }), (14, { it := .val (.float .f64 m_im), w := some false }), (15, { w := some false }), (16, { it := .val (.float .f64 q1.1.2), w := some false }), (17, { it := .val (.float .f64 v1), w := some false }), (18, { it := .val (.bool (!(feq v1 0))), w := some false }), (19, { it := .b false })], .b true]) (cs' := []) (ps := [Value.int .i64 (↑(List.length (eI .i64 ss)) : Int) = .int .i64 (ss.length : Int),
              (decide (k1 < (ss.length : Int))) = true,
              nthPV (eI .i64 ss) k1 = some [(.lit (.int .i64 x_1))],
              CallK Try.prog false 53 [(.lit (.int .i64 x_1))] [.cells 38 [(.lit (.int .i64 q.1.base)), (.lit (.complex .f64 m_re m_im))]] (.tup [(.lit (.complex .f64 q1.1.1 q1.1.2)), (.lit (.bool q1.2))]) [.cells 38 [(.lit (.int .i64 q.1.base)), (.lit (.complex .f64 m_re m_im))]],
              (!q1.2) = false,
              (!q1.2) = false,
              (!q1.2) = false,
              det Try.prog (builtin .real #[36] 47 [false].toArray [(.complex .f64 m_re m_im)].toArray) = some (.value (.float .f64 m_re)),
              (!q1.2) = false,
              (!q1.2) = false,
              det Try.prog (builtin .real #[36] 47 [false].toArray [(.complex .f64 q1.1.1 q1.1.2)].toArray) = some (.value (.float .f64 q1.1.1)),
              (!q1.2) = false,
              det Try.prog (do eqGuard .mul 47 (.tmp 54) (.tmp 56) (.float .f64 m_re) (.float .f64 q1.1.1); binOp .mul 47 (.float .f64 m_re) (.float .f64 q1.1.1)) = some (.float .f64 v),
              (!q1.2) = false,
              det Try.prog (do eqGuard .neq 47 (.tmp 57) (.const (.float .f64 0)) (.float .f64 v) (.float .f64 0); binOp .neq 47 (.float .f64 v) (.float .f64 0)) = some (.bool (!(feq v 0))),
              (!q1.2) = false,
              (!(feq v 0)) = false,
              (!(feq v 0)) = false,
              (!(feq v 0)) = false,
              det Try.prog (builtin .imag #[36] 47 [false].toArray [(.complex .f64 m_re m_im)].toArray) = some (.value (.float .f64 m_im)),
              (!(feq v 0)) = false,
              (!(feq v 0)) = false,
              det Try.prog (builtin .imag #[36] 47 [false].toArray [(.complex .f64 q1.1.1 q1.1.2)].toArray) = some (.value (.float .f64 q1.1.2)),
              (!(feq v 0)) = false,
              det Try.prog (do eqGuard .mul 47 (.tmp 63) (.tmp 65) (.float .f64 m_im) (.float .f64 q1.1.2); binOp .mul 47 (.float .f64 m_im) (.float .f64 q1.1.2)) = some (.float .f64 v1),
              (!(feq v 0)) = false,
              det Try.prog (do eqGuard .neq 47 (.tmp 66) (.const (.float .f64 0)) (.float .f64 v1) (.float .f64 0); binOp .neq 47 (.float .f64 v1) (.float .f64 0)) = some (.bool (!(feq v1 0))),
              (!(feq v 0)) = false,
              (!(feq v1 0)) = true]) (by kernel_rfl)
            ⟨(len_val _ _), (decide_eq_true hc105), (nth_map _ h_x_1), (call_lontarlaw10_sign h_q1 _ _), (not_f hc106), (not_f hc106), (not_f hc106), rfl, (not_f hc106), (not_f hc106), rfl, (not_f hc106), (det_fmul h_v), (not_f hc106), (det_fneq _ _ _ _ _ _), (not_f hc106), (not_f hc107), (not_f hc107), (not_f hc107), rfl, (not_f hc107), (not_f hc107), rfl, (not_f hc107), (det_fmul h_v1), (not_f hc107), (det_fneq _ _ _ _ _ _), (not_f hc107), (not_t (Bool.eq_false_iff.2 hc108)), trivial⟩
      · injection h with h; subst h
        exact codeH_sound (C := C44) (base := 0) wf _ (cs := [.reg 8 [(2, { it := .val (.int .i64 (ss.length : Int)) })], .b true, .reg 9 [(2, { it := .cs [(.lit (.int .i64 x_1))] }), (4, { it := .res (.tup [(.lit (.complex .f64 q1.1.1 q1.1.2)), (.lit (.bool q1.2))]) [.cells 38 [(.lit (.int .i64 q.1.base)), (.lit (.complex .f64 m_re m_im))]] [] })], .reg 10 [(3, { w := some false }), (4, { w := some false }), (5, { it := .val (.float .f64 m_re), w := some false }), (6, { w := some false }), (7, { it := .val (.float .f64 q1.1.1), w := some false }), (8, { it := .val (.float .f64 v), w := some false }), (9, { it := .val (.bool (!(feq v 0))), w := some false }), (10, { it := .b false }), (12, { w := some true }), (13, { w := some true }), (14, { w := some true }), (15, { w := some true }), (16, { w := some true }), (17, { w := some true }), (18, { w := some true }), (19, { it := .b true })], .b true]) (cs' := []) (ps := [Value.int .i64 (↑(List.length (eI .i64 ss)) : Int) = .int .i64 (ss.length : Int),
            (decide (k1 < (ss.length : Int))) = true,
            nthPV (eI .i64 ss) k1 = some [(.lit (.int .i64 x_1))],
            CallK Try.prog false 53 [(.lit (.int .i64 x_1))] [.cells 38 [(.lit (.int .i64 q.1.base)), (.lit (.complex .f64 m_re m_im))]] (.tup [(.lit (.complex .f64 q1.1.1 q1.1.2)), (.lit (.bool q1.2))]) [.cells 38 [(.lit (.int .i64 q.1.base)), (.lit (.complex .f64 m_re m_im))]],
            (!q1.2) = false,
            (!q1.2) = false,
            (!q1.2) = false,
            det Try.prog (builtin .real #[36] 47 [false].toArray [(.complex .f64 m_re m_im)].toArray) = some (.value (.float .f64 m_re)),
            (!q1.2) = false,
            (!q1.2) = false,
            det Try.prog (builtin .real #[36] 47 [false].toArray [(.complex .f64 q1.1.1 q1.1.2)].toArray) = some (.value (.float .f64 q1.1.1)),
            (!q1.2) = false,
            det Try.prog (do eqGuard .mul 47 (.tmp 54) (.tmp 56) (.float .f64 m_re) (.float .f64 q1.1.1); binOp .mul 47 (.float .f64 m_re) (.float .f64 q1.1.1)) = some (.float .f64 v),
            (!q1.2) = false,
            det Try.prog (do eqGuard .neq 47 (.tmp 57) (.const (.float .f64 0)) (.float .f64 v) (.float .f64 0); binOp .neq 47 (.float .f64 v) (.float .f64 0)) = some (.bool (!(feq v 0))),
            (!q1.2) = false,
            (!(feq v 0)) = true,
            (!(feq v 0)) = true,
            (!(feq v 0)) = true,
            (!(feq v 0)) = true,
            (!(feq v 0)) = true,
            (!(feq v 0)) = true,
            (!(feq v 0)) = true,
            (!(feq v 0)) = true,
            true = true]) (by kernel_rfl)
          ⟨(len_val _ _), (decide_eq_true hc105), (nth_map _ h_x_1), (call_lontarlaw10_sign h_q1 _ _), (not_f hc106), (not_f hc106), (not_f hc106), rfl, (not_f hc106), (not_f hc106), rfl, (not_f hc106), (det_fmul h_v), (not_f hc106), (det_fneq _ _ _ _ _ _), (not_f hc106), (not_t (Bool.eq_false_iff.2 hc107)), (not_t (Bool.eq_false_iff.2 hc107)), (not_t (Bool.eq_false_iff.2 hc107)), (not_t (Bool.eq_false_iff.2 hc107)), (not_t (Bool.eq_false_iff.2 hc107)), (not_t (Bool.eq_false_iff.2 hc107)), (not_t (Bool.eq_false_iff.2 hc107)), (not_t (Bool.eq_false_iff.2 hc107)), rfl, trivial⟩
    · injection h with h; subst h
      exact codeH_sound (C := C44) (base := 0) wf _ (cs := [.reg 8 [(2, { it := .val (.int .i64 (ss.length : Int)) })], .b true, .reg 9 [(2, { it := .cs [(.lit (.int .i64 x_1))] }), (4, { it := .res (.tup [(.lit (.complex .f64 q1.1.1 q1.1.2)), (.lit (.bool q1.2))]) [.cells 38 [(.lit (.int .i64 q.1.base)), (.lit (.complex .f64 m_re m_im))]] [] })], .reg 10 [(3, { w := some true }), (4, { w := some true }), (5, { w := some true }), (6, { w := some true }), (7, { w := some true }), (8, { w := some true }), (9, { w := some true }), (10, { it := .b true }), (12, { w := some true }), (13, { w := some true }), (14, { w := some true }), (15, { w := some true }), (16, { w := some true }), (17, { w := some true }), (18, { w := some true }), (19, { it := .b true })], .b true]) (cs' := []) (ps := [Value.int .i64 (↑(List.length (eI .i64 ss)) : Int) = .int .i64 (ss.length : Int),
          (decide (k1 < (ss.length : Int))) = true,
          nthPV (eI .i64 ss) k1 = some [(.lit (.int .i64 x_1))],
          CallK Try.prog false 53 [(.lit (.int .i64 x_1))] [.cells 38 [(.lit (.int .i64 q.1.base)), (.lit (.complex .f64 m_re m_im))]] (.tup [(.lit (.complex .f64 q1.1.1 q1.1.2)), (.lit (.bool q1.2))]) [.cells 38 [(.lit (.int .i64 q.1.base)), (.lit (.complex .f64 m_re m_im))]],
          (!q1.2) = true,
          (!q1.2) = true,
          (!q1.2) = true,
          (!q1.2) = true,
          (!q1.2) = true,
          (!q1.2) = true,
          (!q1.2) = true,
          (!q1.2) = true,
          true = true,
          true = true,
          true = true,
          true = true,
          true = true,
          true = true,
          true = true,
          true = true,
          true = true]) (by kernel_rfl)
        ⟨(len_val _ _), (decide_eq_true hc105), (nth_map _ h_x_1), (call_lontarlaw10_sign h_q1 _ _), (not_t (Bool.eq_false_iff.2 hc106)), (not_t (Bool.eq_false_iff.2 hc106)), (not_t (Bool.eq_false_iff.2 hc106)), (not_t (Bool.eq_false_iff.2 hc106)), (not_t (Bool.eq_false_iff.2 hc106)), (not_t (Bool.eq_false_iff.2 hc106)), (not_t (Bool.eq_false_iff.2 hc106)), (not_t (Bool.eq_false_iff.2 hc106)), rfl, rfl, rfl, rfl, rfl, rfl, rfl, rfl, rfl, trivial⟩
  · injection h with h; subst h
    exact codeH_sound (C := C44) (base := 0) wf _ (cs := [.reg 8 [(2, { it := .val (.int .i64 (ss.length : Int)) })], .b false]) (cs' := []) (ps := [Value.int .i64 (↑(List.length (eI .i64 ss)) : Int) = .int .i64 (ss.length : Int),
        (decide (k1 < (ss.length : Int))) = false]) (by kernel_rfl)
      ⟨(len_val _ _), (decide_eq_false hc105), trivial⟩

theorem runs_lontarlaw10_canon_L1 (ss : (List Int)) (out_ : List Int) (q : (GVietLetter × Bool)) {nn} {vv : Int × Nat × Nat} {rr} (h : loopM (lontarlaw10_canon_L1 ss q) nn vv = some rr) : RunsB Try.prog 0 (.loop (sub [1, 1, 0, 1, 0, 0, 1, 0, 1, 1, 1, 0, 0, 0] (fbody Try.f44))) (S_lontarlaw10_canon_L1 ss out_ q vv) (E_lontarlaw10_canon_L1 ss out_ q rr).1 (E_lontarlaw10_canon_L1 ss out_ q rr).2 :=
  loop_runs (by intro r; cases r <;> simp [E_lontarlaw10_canon_L1]) (body_lontarlaw10_canon_L1 ss out_ q) nn vv rr h

def S_lontarlaw10_canon_L0 (ss : (List Int)) (vv : (List Int) × Int) : St :=
  match vv with
  | (out_, k) => { ts := [(0, (.sl .view false (eI .i64 ss))), (3, (.sl (.excl 3) false (eI .i64 out_))), (4, (.lit (.int .i64 k)))], n := 111, σ := [] }

def X_lontarlaw10_canon_L0_0 (ss : (List Int)) (out_ : List Int) (k : Int) (v : Bool) : St := { ts := [(0, (.sl .view false (eI .i64 ss))), (3, (.sl (.excl 3) false (eI .i64 out_))), (4, (.lit (.int .i64 k))), (16, (.lit (.bool v)))], n := 111, σ := [] }

def E_lontarlaw10_canon_L0 (ss : (List Int)) (vv : (List Int) × Int × Bool) : Exit × St :=
  match vv with
  | (out_, k, v) => (.exit 0, X_lontarlaw10_canon_L0_0 ss out_ k v)

set_option maxRecDepth 100000 in
theorem body_lontarlaw10_canon_L0 (ss : (List Int)) (vv : (List Int) × Int) (x) (h : lontarlaw10_canon_L0 ss vv = some x) : RunsB Try.prog 0 (sub [1, 1, 0, 1, 0, 0] (fbody Try.f44)) (S_lontarlaw10_canon_L0 ss vv) (sideX (E_lontarlaw10_canon_L0 ss) x) (sideS (S_lontarlaw10_canon_L0 ss) (E_lontarlaw10_canon_L0 ss) x) := by
  obtain ⟨out_, k⟩ := vv
  unfold lontarlaw10_canon_L0 at h
  dsimp only at h
  rcases ite_some h with ⟨hc88, h⟩ | ⟨hc88, h⟩
  · obtain ⟨x_, h_x_, h⟩ := Option.bind_eq_some_iff.1 h
    obtain ⟨q, h_q, h⟩ := Option.bind_eq_some_iff.1 h
    rcases ite_some h with ⟨hc89, h⟩ | ⟨hc89, h⟩
    · obtain ⟨l110, hr_l110, h⟩ := Option.bind_eq_some_iff.1 h
      have hl_l110 := runs_lontarlaw10_canon_L1 ss out_ q hr_l110
      cases l110 with
      | x0 k1 z_re z_im v m_re m_im =>
        dsimp only at h
        obtain ⟨q1, h_q1, h⟩ := Option.bind_eq_some_iff.1 h
        obtain ⟨hg111, h⟩ := guardO_some h
        injection h with h; subst h
        exact codeH_sound (C := C44) (base := 0) wf _ (cs := [.reg 3 [(2, { it := .val (.int .i64 (ss.length : Int)) })], .b true, .reg 4 [(2, { it := .cs [(.lit (.int .i64 x_))] }), (4, { it := .res (.tup [(.agg [(.lit (.int .i64 q.1.base)), (.lit (.complex .f64 q.1.sign.1 q.1.sign.2))]), (.lit (.bool q.2))]) [] [] })], .b false, .lp (.exit 2) (X_lontarlaw10_canon_L1_0 ss out_ q k1 z_re z_im v m_re m_im), .reg 15 [(4, { it := .val (.float .f64 m_re) }), (7, { it := .val (.float .f64 m_im) }), (8, { it := .res (.tup [(.lit (.int .i64 q1.1)), (.lit (.bool q1.2))]) [.cells 38 [(.lit (.int .i64 q.1.base)), (.lit (.complex .f64 m_re m_im))]] [] })], .reg 16 [(3, { it := .sl (eI .i64 (out_ ++ [q1.1])) })]]) (cs' := []) (ps := [Value.int .i64 (↑(List.length (eI .i64 ss)) : Int) = .int .i64 (ss.length : Int),
            (decide (k < (ss.length : Int))) = true,
            nthPV (eI .i64 ss) k = some [(.lit (.int .i64 x_))],
            CallK Try.prog false 33 [(.lit (.int .i64 x_))] [] (.tup [(.agg [(.lit (.int .i64 q.1.base)), (.lit (.complex .f64 q.1.sign.1 q.1.sign.2))]), (.lit (.bool q.2))]) [],
            (!q.2) = false,
            RunsB Try.prog 0 (.loop (sub [1, 1, 0, 1, 0, 0, 1, 0, 1, 1, 1, 0, 0, 0] (fbody Try.f44))) ({ ts := [(0, (.sl .view false (eI .i64 ss))), (3, (.sl (.excl 3) false (eI .i64 out_))), (4, (.lit (.int .i64 (w64 (k + 1))))), (5, (.ptr 0 0)), (28, (.lit (.bool (!q.2))))], n := 111, σ := [.cells 38 [(.lit (.int .i64 q.1.base)), (.lit (.complex .f64 q.1.sign.1 q.1.sign.2))]] }) (.exit 2) (X_lontarlaw10_canon_L1_0 ss out_ q k1 z_re z_im v m_re m_im),
            det Try.prog (builtin .real #[36] 47 [false].toArray [(.complex .f64 m_re m_im)].toArray) = some (.value (.float .f64 m_re)),
            det Try.prog (builtin .imag #[36] 47 [false].toArray [(.complex .f64 m_re m_im)].toArray) = some (.value (.float .f64 m_im)),
            CallK Try.prog false 35 [(.lit (.int .i64 q.1.base)), (.lit (.float .f64 m_re)), (.lit (.float .f64 m_im))] [.cells 38 [(.lit (.int .i64 q.1.base)), (.lit (.complex .f64 m_re m_im))]] (.tup [(.lit (.int .i64 q1.1)), (.lit (.bool q1.2))]) [.cells 38 [(.lit (.int .i64 q.1.base)), (.lit (.complex .f64 m_re m_im))]],
            (List.length (eI .i64 out_) + List.length (eI .i64 [q1.1])) * 8 ≤ 2 ^ 46,
            (eI .i64 [q1.1]).all (fun c => c.length = 1 && c.all PV.one) = true,
            (eI .i64 out_) ++ (eI .i64 [q1.1]) = (eI .i64 (out_ ++ [q1.1])),
            noRefss 0 (eI .i64 ss) = true,
            noRefss 0 (eI .i64 (out_ ++ [q1.1])) = true]) (by kernel_rfl)
          ⟨(len_val _ _), (decide_eq_true hc88), (nth_map _ h_x_), (call_lontarlaw09_Split h_q _ _), (not_f hc89), (RunsB.drop [0, 3, 4, 5] (st2 := (S_lontarlaw10_canon_L1 ss out_ q ((w64 (k + 1)), q.1.sign.1, q.1.sign.2))) rfl hl_l110), rfl, rfl, (call_lontarlaw09_Join h_q1 _ _), (len_map2 hg111), (all_map (fun _ => rfl) _), (List.map_append).symm, (map_noRef (fun _ => rfl) _), (map_noRef (fun _ => rfl) _), trivial⟩
      | x1 k1 z_re z_im v m_re m_im =>
        dsimp only at h
        obtain ⟨q1, h_q1, h⟩ := Option.bind_eq_some_iff.1 h
        obtain ⟨hg112, h⟩ := guardO_some h
        injection h with h; subst h
        exact codeH_sound (C := C44) (base := 0) wf _ (cs := [.reg 3 [(2, { it := .val (.int .i64 (ss.length : Int)) })], .b true, .reg 4 [(2, { it := .cs [(.lit (.int .i64 x_))] }), (4, { it := .res (.tup [(.agg [(.lit (.int .i64 q.1.base)), (.lit (.complex .f64 q.1.sign.1 q.1.sign.2))]), (.lit (.bool q.2))]) [] [] })], .b false, .lp (.exit 2) (X_lontarlaw10_canon_L1_1 ss out_ q k1 z_re z_im v m_re m_im), .reg 15 [(4, { it := .val (.float .f64 m_re) }), (7, { it := .val (.float .f64 m_im) }), (8, { it := .res (.tup [(.lit (.int .i64 q1.1)), (.lit (.bool q1.2))]) [.cells 38 [(.lit (.int .i64 q.1.base)), (.lit (.complex .f64 m_re m_im))]] [] })], .reg 16 [(3, { it := .sl (eI .i64 (out_ ++ [q1.1])) })]]) (cs' := []) (ps := [Value.int .i64 (↑(List.length (eI .i64 ss)) : Int) = .int .i64 (ss.length : Int),
            (decide (k < (ss.length : Int))) = true,
            nthPV (eI .i64 ss) k = some [(.lit (.int .i64 x_))],
            CallK Try.prog false 33 [(.lit (.int .i64 x_))] [] (.tup [(.agg [(.lit (.int .i64 q.1.base)), (.lit (.complex .f64 q.1.sign.1 q.1.sign.2))]), (.lit (.bool q.2))]) [],
            (!q.2) = false,
            RunsB Try.prog 0 (.loop (sub [1, 1, 0, 1, 0, 0, 1, 0, 1, 1, 1, 0, 0, 0] (fbody Try.f44))) ({ ts := [(0, (.sl .view false (eI .i64 ss))), (3, (.sl (.excl 3) false (eI .i64 out_))), (4, (.lit (.int .i64 (w64 (k + 1))))), (5, (.ptr 0 0)), (28, (.lit (.bool (!q.2))))], n := 111, σ := [.cells 38 [(.lit (.int .i64 q.1.base)), (.lit (.complex .f64 q.1.sign.1 q.1.sign.2))]] }) (.exit 2) (X_lontarlaw10_canon_L1_1 ss out_ q k1 z_re z_im v m_re m_im),
            det Try.prog (builtin .real #[36] 47 [false].toArray [(.complex .f64 m_re m_im)].toArray) = some (.value (.float .f64 m_re)),
            det Try.prog (builtin .imag #[36] 47 [false].toArray [(.complex .f64 m_re m_im)].toArray) = some (.value (.float .f64 m_im)),
            CallK Try.prog false 35 [(.lit (.int .i64 q.1.base)), (.lit (.float .f64 m_re)), (.lit (.float .f64 m_im))] [.cells 38 [(.lit (.int .i64 q.1.base)), (.lit (.complex .f64 m_re m_im))]] (.tup [(.lit (.int .i64 q1.1)), (.lit (.bool q1.2))]) [.cells 38 [(.lit (.int .i64 q.1.base)), (.lit (.complex .f64 m_re m_im))]],
            (List.length (eI .i64 out_) + List.length (eI .i64 [q1.1])) * 8 ≤ 2 ^ 46,
            (eI .i64 [q1.1]).all (fun c => c.length = 1 && c.all PV.one) = true,
            (eI .i64 out_) ++ (eI .i64 [q1.1]) = (eI .i64 (out_ ++ [q1.1])),
            noRefss 0 (eI .i64 ss) = true,
            noRefss 0 (eI .i64 (out_ ++ [q1.1])) = true]) (by kernel_rfl)
          ⟨(len_val _ _), (decide_eq_true hc88), (nth_map _ h_x_), (call_lontarlaw09_Split h_q _ _), (not_f hc89), (RunsB.drop [0, 3, 4, 5] (st2 := (S_lontarlaw10_canon_L1 ss out_ q ((w64 (k + 1)), q.1.sign.1, q.1.sign.2))) rfl hl_l110), rfl, rfl, (call_lontarlaw09_Join h_q1 _ _), (len_map2 hg112), (all_map (fun _ => rfl) _), (List.map_append).symm, (map_noRef (fun _ => rfl) _), (map_noRef (fun _ => rfl) _), trivial⟩
      | x2 k1 z_re z_im m_re m_im =>
        dsimp only at h
        obtain ⟨q1, h_q1, h⟩ := Option.bind_eq_some_iff.1 h
        obtain ⟨hg113, h⟩ := guardO_some h
        injection h with h; subst h
        exact codeH_sound (C := C44) (base := 0) wf _ (cs := [.reg 3 [(2, { it := .val (.int .i64 (ss.length : Int)) })], .b true, .reg 4 [(2, { it := .cs [(.lit (.int .i64 x_))] }), (4, { it := .res (.tup [(.agg [(.lit (.int .i64 q.1.base)), (.lit (.complex .f64 q.1.sign.1 q.1.sign.2))]), (.lit (.bool q.2))]) [] [] })], .b false, .lp (.exit 2) (X_lontarlaw10_canon_L1_2 ss out_ q k1 z_re z_im m_re m_im), .reg 15 [(4, { it := .val (.float .f64 m_re) }), (7, { it := .val (.float .f64 m_im) }), (8, { it := .res (.tup [(.lit (.int .i64 q1.1)), (.lit (.bool q1.2))]) [.cells 38 [(.lit (.int .i64 q.1.base)), (.lit (.complex .f64 m_re m_im))]] [] })], .reg 16 [(3, { it := .sl (eI .i64 (out_ ++ [q1.1])) })]]) (cs' := []) (ps := [Value.int .i64 (↑(List.length (eI .i64 ss)) : Int) = .int .i64 (ss.length : Int),
            (decide (k < (ss.length : Int))) = true,
            nthPV (eI .i64 ss) k = some [(.lit (.int .i64 x_))],
            CallK Try.prog false 33 [(.lit (.int .i64 x_))] [] (.tup [(.agg [(.lit (.int .i64 q.1.base)), (.lit (.complex .f64 q.1.sign.1 q.1.sign.2))]), (.lit (.bool q.2))]) [],
            (!q.2) = false,
            RunsB Try.prog 0 (.loop (sub [1, 1, 0, 1, 0, 0, 1, 0, 1, 1, 1, 0, 0, 0] (fbody Try.f44))) ({ ts := [(0, (.sl .view false (eI .i64 ss))), (3, (.sl (.excl 3) false (eI .i64 out_))), (4, (.lit (.int .i64 (w64 (k + 1))))), (5, (.ptr 0 0)), (28, (.lit (.bool (!q.2))))], n := 111, σ := [.cells 38 [(.lit (.int .i64 q.1.base)), (.lit (.complex .f64 q.1.sign.1 q.1.sign.2))]] }) (.exit 2) (X_lontarlaw10_canon_L1_2 ss out_ q k1 z_re z_im m_re m_im),
            det Try.prog (builtin .real #[36] 47 [false].toArray [(.complex .f64 m_re m_im)].toArray) = some (.value (.float .f64 m_re)),
            det Try.prog (builtin .imag #[36] 47 [false].toArray [(.complex .f64 m_re m_im)].toArray) = some (.value (.float .f64 m_im)),
            CallK Try.prog false 35 [(.lit (.int .i64 q.1.base)), (.lit (.float .f64 m_re)), (.lit (.float .f64 m_im))] [.cells 38 [(.lit (.int .i64 q.1.base)), (.lit (.complex .f64 m_re m_im))]] (.tup [(.lit (.int .i64 q1.1)), (.lit (.bool q1.2))]) [.cells 38 [(.lit (.int .i64 q.1.base)), (.lit (.complex .f64 m_re m_im))]],
            (List.length (eI .i64 out_) + List.length (eI .i64 [q1.1])) * 8 ≤ 2 ^ 46,
            (eI .i64 [q1.1]).all (fun c => c.length = 1 && c.all PV.one) = true,
            (eI .i64 out_) ++ (eI .i64 [q1.1]) = (eI .i64 (out_ ++ [q1.1])),
            noRefss 0 (eI .i64 ss) = true,
            noRefss 0 (eI .i64 (out_ ++ [q1.1])) = true]) (by kernel_rfl)
          ⟨(len_val _ _), (decide_eq_true hc88), (nth_map _ h_x_), (call_lontarlaw09_Split h_q _ _), (not_f hc89), (RunsB.drop [0, 3, 4, 5] (st2 := (S_lontarlaw10_canon_L1 ss out_ q ((w64 (k + 1)), q.1.sign.1, q.1.sign.2))) rfl hl_l110), rfl, rfl, (call_lontarlaw09_Join h_q1 _ _), (len_map2 hg113), (all_map (fun _ => rfl) _), (List.map_append).symm, (map_noRef (fun _ => rfl) _), (map_noRef (fun _ => rfl) _), trivial⟩
      | x3 k1 z_re z_im m_re m_im =>
        dsimp only at h
        obtain ⟨q1, h_q1, h⟩ := Option.bind_eq_some_iff.1 h
        obtain ⟨hg114, h⟩ := guardO_some h
        injection h with h; subst h
        exact codeH_sound (C := C44) (base := 0) wf _ (cs := [.reg 3 [(2, { it := .val (.int .i64 (ss.length : Int)) })], .b true, .reg 4 [(2, { it := .cs [(.lit (.int .i64 x_))] }), (4, { it := .res (.tup [(.agg [(.lit (.int .i64 q.1.base)), (.lit (.complex .f64 q.1.sign.1 q.1.sign.2))]), (.lit (.bool q.2))]) [] [] })], .b false, .lp (.exit 2) (X_lontarlaw10_canon_L1_3 ss out_ q k1 z_re z_im m_re m_im), .reg 15 [(4, { it := .val (.float .f64 m_re) }), (7, { it := .val (.float .f64 m_im) }), (8, { it := .res (.tup [(.lit (.int .i64 q1.1)), (.lit (.bool q1.2))]) [.cells 38 [(.lit (.int .i64 q.1.base)), (.lit (.complex .f64 m_re m_im))]] [] })], .reg 16 [(3, { it := .sl (eI .i64 (out_ ++ [q1.1])) })]]) (cs' := []) (ps := [Value.int .i64 (↑(List.length (eI .i64 ss)) : Int) = .int .i64 (ss.length : Int),
            (decide (k < (ss.length : Int))) = true,
            nthPV (eI .i64 ss) k = some [(.lit (.int .i64 x_))],
            CallK Try.prog false 33 [(.lit (.int .i64 x_))] [] (.tup [(.agg [(.lit (.int .i64 q.1.base)), (.lit (.complex .f64 q.1.sign.1 q.1.sign.2))]), (.lit (.bool q.2))]) [],
            (!q.2) = false,
            RunsB Try.prog 0 (.loop (sub [1, 1, 0, 1, 0, 0, 1, 0, 1, 1, 1, 0, 0, 0] (fbody Try.f44))) ({ ts := [(0, (.sl .view false (eI .i64 ss))), (3, (.sl (.excl 3) false (eI .i64 out_))), (4, (.lit (.int .i64 (w64 (k + 1))))), (5, (.ptr 0 0)), (28, (.lit (.bool (!q.2))))], n := 111, σ := [.cells 38 [(.lit (.int .i64 q.1.base)), (.lit (.complex .f64 q.1.sign.1 q.1.sign.2))]] }) (.exit 2) (X_lontarlaw10_canon_L1_3 ss out_ q k1 z_re z_im m_re m_im),
            det Try.prog (builtin .real #[36] 47 [false].toArray [(.complex .f64 m_re m_im)].toArray) = some (.value (.float .f64 m_re)),
            det Try.prog (builtin .imag #[36] 47 [false].toArray [(.complex .f64 m_re m_im)].toArray) = some (.value (.float .f64 m_im)),
            CallK Try.prog false 35 [(.lit (.int .i64 q.1.base)), (.lit (.float .f64 m_re)), (.lit (.float .f64 m_im))] [.cells 38 [(.lit (.int .i64 q.1.base)), (.lit (.complex .f64 m_re m_im))]] (.tup [(.lit (.int .i64 q1.1)), (.lit (.bool q1.2))]) [.cells 38 [(.lit (.int .i64 q.1.base)), (.lit (.complex .f64 m_re m_im))]],
            (List.length (eI .i64 out_) + List.length (eI .i64 [q1.1])) * 8 ≤ 2 ^ 46,
            (eI .i64 [q1.1]).all (fun c => c.length = 1 && c.all PV.one) = true,
            (eI .i64 out_) ++ (eI .i64 [q1.1]) = (eI .i64 (out_ ++ [q1.1])),
            noRefss 0 (eI .i64 ss) = true,
            noRefss 0 (eI .i64 (out_ ++ [q1.1])) = true]) (by kernel_rfl)
          ⟨(len_val _ _), (decide_eq_true hc88), (nth_map _ h_x_), (call_lontarlaw09_Split h_q _ _), (not_f hc89), (RunsB.drop [0, 3, 4, 5] (st2 := (S_lontarlaw10_canon_L1 ss out_ q ((w64 (k + 1)), q.1.sign.1, q.1.sign.2))) rfl hl_l110), rfl, rfl, (call_lontarlaw09_Join h_q1 _ _), (len_map2 hg114), (all_map (fun _ => rfl) _), (List.map_append).symm, (map_noRef (fun _ => rfl) _), (map_noRef (fun _ => rfl) _), trivial⟩
      | x4 k1 v m_re m_im =>
        dsimp only at h
        obtain ⟨q1, h_q1, h⟩ := Option.bind_eq_some_iff.1 h
        obtain ⟨hg115, h⟩ := guardO_some h
        injection h with h; subst h
        exact codeH_sound (C := C44) (base := 0) wf _ (cs := [.reg 3 [(2, { it := .val (.int .i64 (ss.length : Int)) })], .b true, .reg 4 [(2, { it := .cs [(.lit (.int .i64 x_))] }), (4, { it := .res (.tup [(.agg [(.lit (.int .i64 q.1.base)), (.lit (.complex .f64 q.1.sign.1 q.1.sign.2))]), (.lit (.bool q.2))]) [] [] })], .b false, .lp (.exit 2) (X_lontarlaw10_canon_L1_4 ss out_ q k1 v m_re m_im), .reg 15 [(4, { it := .val (.float .f64 m_re) }), (7, { it := .val (.float .f64 m_im) }), (8, { it := .res (.tup [(.lit (.int .i64 q1.1)), (.lit (.bool q1.2))]) [.cells 38 [(.lit (.int .i64 q.1.base)), (.lit (.complex .f64 m_re m_im))]] [] })], .reg 16 [(3, { it := .sl (eI .i64 (out_ ++ [q1.1])) })]]) (cs' := []) (ps := [Value.int .i64 (↑(List.length (eI .i64 ss)) : Int) = .int .i64 (ss.length : Int),
            (decide (k < (ss.length : Int))) = true,
            nthPV (eI .i64 ss) k = some [(.lit (.int .i64 x_))],
            CallK Try.prog false 33 [(.lit (.int .i64 x_))] [] (.tup [(.agg [(.lit (.int .i64 q.1.base)), (.lit (.complex .f64 q.1.sign.1 q.1.sign.2))]), (.lit (.bool q.2))]) [],
            (!q.2) = false,
            RunsB Try.prog 0 (.loop (sub [1, 1, 0, 1, 0, 0, 1, 0, 1, 1, 1, 0, 0, 0] (fbody Try.f44))) ({ ts := [(0, (.sl .view false (eI .i64 ss))), (3, (.sl (.excl 3) false (eI .i64 out_))), (4, (.lit (.int .i64 (w64 (k + 1))))), (5, (.ptr 0 0)), (28, (.lit (.bool (!q.2))))], n := 111, σ := [.cells 38 [(.lit (.int .i64 q.1.base)), (.lit (.complex .f64 q.1.sign.1 q.1.sign.2))]] }) (.exit 2) (X_lontarlaw10_canon_L1_4 ss out_ q k1 v m_re m_im),
            det Try.prog (builtin .real #[36] 47 [false].toArray [(.complex .f64 m_re m_im)].toArray) = some (.value (.float .f64 m_re)),
            det Try.prog (builtin .imag #[36] 47 [false].toArray [(.complex .f64 m_re m_im)].toArray) = some (.value (.float .f64 m_im)),
            CallK Try.prog false 35 [(.lit (.int .i64 q.1.base)), (.lit (.float .f64 m_re)), (.lit (.float .f64 m_im))] [.cells 38 [(.lit (.int .i64 q.1.base)), (.lit (.complex .f64 m_re m_im))]] (.tup [(.lit (.int .i64 q1.1)), (.lit (.bool q1.2))]) [.cells 38 [(.lit (.int .i64 q.1.base)), (.lit (.complex .f64 m_re m_im))]],
            (List.length (eI .i64 out_) + List.length (eI .i64 [q1.1])) * 8 ≤ 2 ^ 46,
            (eI .i64 [q1.1]).all (fun c => c.length = 1 && c.all PV.one) = true,
            (eI .i64 out_) ++ (eI .i64 [q1.1]) = (eI .i64 (out_ ++ [q1.1])),
            noRefss 0 (eI .i64 ss) = true,
            noRefss 0 (eI .i64 (out_ ++ [q1.1])) = true]) (by kernel_rfl)
          ⟨(len_val _ _), (decide_eq_true hc88), (nth_map _ h_x_), (call_lontarlaw09_Split h_q _ _), (not_f hc89), (RunsB.drop [0, 3, 4, 5] (st2 := (S_lontarlaw10_canon_L1 ss out_ q ((w64 (k + 1)), q.1.sign.1, q.1.sign.2))) rfl hl_l110), rfl, rfl, (call_lontarlaw09_Join h_q1 _ _), (len_map2 hg115), (all_map (fun _ => rfl) _), (List.map_append).symm, (map_noRef (fun _ => rfl) _), (map_noRef (fun _ => rfl) _), trivial⟩
    · obtain ⟨x_1, h_x_1, h⟩ := Option.bind_eq_some_iff.1 h
      obtain ⟨hg116, h⟩ := guardO_some h
      injection h with h; subst h
      exact codeH_sound (C := C44) (base := 0) wf _ (cs := [.reg 3 [(2, { it := .val (.int .i64 (ss.length : Int)) })], .b true, .reg 4 [(2, { it := .cs [(.lit (.int .i64 x_))] }), (4, { it := .res (.tup [(.agg [(.lit (.int .i64 q.1.base)), (.lit (.complex .f64 q.1.sign.1 q.1.sign.2))]), (.lit (.bool q.2))]) [] [] })], .b true, .reg 7 [(4, { it := .cs [(.lit (.int .i64 x_1))] }), (7, { it := .sl (eI .i64 (out_ ++ [x_1])) })]]) (cs' := []) (ps := [Value.int .i64 (↑(List.length (eI .i64 ss)) : Int) = .int .i64 (ss.length : Int),
          (decide (k < (ss.length : Int))) = true,
          nthPV (eI .i64 ss) k = some [(.lit (.int .i64 x_))],
          CallK Try.prog false 33 [(.lit (.int .i64 x_))] [] (.tup [(.agg [(.lit (.int .i64 q.1.base)), (.lit (.complex .f64 q.1.sign.1 q.1.sign.2))]), (.lit (.bool q.2))]) [],
          (!q.2) = true,
          nthPV (eI .i64 ss) (w64 ((w64 (k + 1)) - 1)) = some [(.lit (.int .i64 x_1))],
          (List.length (eI .i64 out_) + List.length (eI .i64 [x_1])) * 8 ≤ 2 ^ 46,
          (eI .i64 [x_1]).all (fun c => c.length = 1 && c.all PV.one) = true,
          (eI .i64 out_) ++ (eI .i64 [x_1]) = (eI .i64 (out_ ++ [x_1])),
          noRefss 0 (eI .i64 ss) = true,
          noRefss 0 (eI .i64 (out_ ++ [x_1])) = true]) (by kernel_rfl)
        ⟨(len_val _ _), (decide_eq_true hc88), (nth_map _ h_x_), (call_lontarlaw09_Split h_q _ _), (not_t (Bool.eq_false_iff.2 hc89)), (nth_map _ h_x_1), (len_map2 hg116), (all_map (fun _ => rfl) _), (List.map_append).symm, (map_noRef (fun _ => rfl) _), (map_noRef (fun _ => rfl) _), trivial⟩
  · injection h with h; subst h
    exact codeH_sound (C := C44) (base := 0) wf _ (cs := [.reg 3 [(2, { it := .val (.int .i64 (ss.length : Int)) })], .b false]) (cs' := []) (ps := [Value.int .i64 (↑(List.length (eI .i64 ss)) : Int) = .int .i64 (ss.length : Int),
        (decide (k < (ss.length : Int))) = false]) (by kernel_rfl)
      ⟨(len_val _ _), (decide_eq_false hc88), trivial⟩

theorem runs_lontarlaw10_canon_L0 (ss : (List Int)) {nn} {vv : (List Int) × Int} {rr} (h : loopM (lontarlaw10_canon_L0 ss) nn vv = some rr) : RunsB Try.prog 0 (.loop (sub [1, 1, 0, 1, 0, 0] (fbody Try.f44))) (S_lontarlaw10_canon_L0 ss vv) (E_lontarlaw10_canon_L0 ss rr).1 (E_lontarlaw10_canon_L0 ss rr).2 :=
  loop_runs (by intro r; simp [E_lontarlaw10_canon_L0]) (body_lontarlaw10_canon_L0 ss) nn vv rr h

set_option maxRecDepth 100000 in
theorem knows_lontarlaw10_canon (ss : (List Int)) {r} (h : lontarlaw10_canon ss = some r) : Knows Try.prog 44 [(.sl .view false (eI .i64 ss))] (.sl (.excl 3) false (eI .i64 r)) := by
  unfold lontarlaw10_canon at h
  obtain ⟨l117, hr_l117, h⟩ := Option.bind_eq_some_iff.1 h
  have hl_l117 := runs_lontarlaw10_canon_L0 ss hr_l117
  obtain ⟨out_, k, v⟩ := l117
  dsimp only at h
  injection h with h; subst h
  exact Knows.of (C := C44) wf Try.func44 (cs := [.lp (.exit 0) (X_lontarlaw10_canon_L0_0 ss out_ k v)]) (args := [(.sl .view false (eI .i64 ss))]) (r := (.sl (.excl 3) false (eI .i64 out_))) (ps := [RunsB Try.prog 0 (.loop (sub [1, 1, 0, 1, 0, 0] (fbody Try.f44))) (S_lontarlaw10_canon_L0 ss ([], 0)) (.exit 0) (X_lontarlaw10_canon_L0_0 ss out_ k v)]) (by kernel_rfl)
    ⟨hl_l117, trivial⟩
theorem call_lontarlaw10_canon {ss : (List Int)} {r} (h : lontarlaw10_canon ss = some r) (kp : Bool) (σ : List Bx) : CallK Try.prog kp 44 [(.sl .view false (eI .i64 ss))] σ (.sl (.excl 3) false (eI .i64 r)) σ :=
  (knows_lontarlaw10_canon ss h).call (and_t (map_noRef (fun _ => rfl) _) rfl) rfl kp σ

def h41 : Nat → Option Hint
| 0 => some { keep := [0] }
| 1 => some { keep := [0, 3] }
| 2 => some { keep := [0, 3, 5], nils := [((.tmp 5), 3)] }
| 3 => some { keep := [3, 5, 19, 20, 21] }
| 4 => some { keep := [3, 5, 19, 20, 21, 22] }
| 5 => some { keep := [3, 5, 7, 19, 20, 21] }
| 6 => some { keep := [3, 5, 7, 9, 19, 20, 21] }
| 7 => some { keep := [3, 5, 7, 9, 19, 20, 21, 34] }
| 8 => some { keep := [3, 5, 7, 9, 19, 20, 21] }
| 9 => some { keep := [3, 5, 7, 9, 19, 20, 21, 41] }
| 10 => some { keep := [3, 5, 9, 19, 20, 21] }
| 11 => some { keep := [3, 5, 19, 20, 21] }
| 12 => some { keep := [3, 5, 19, 20, 21], cut := some 0 }
| 13 => some { keep := [2] }
| _ => none

noncomputable def C41 : Ctx := { P := Try.prog, mv := fun _ _ => false, res := resOf Try.f41, live := h41, call := fun _ _ _ => none }

def S_lontarlaw10_Some_L0 (q : ((List Int) × (List (Nat × Nat)))) (v : (List Int)) (vv : (List Int) × Int) : St :=
  match vv with
  | (out_, v1) => { ts := [(3, (.sl .view false (eI .i64 q.1))), (5, (.sl (.excl 3) false (eI .i64 out_))), (19, (.sl .view false (eI .u8 v))), (20, (.lit (.int .i64 (v.length : Int)))), (21, (.lit (.int .i64 v1)))], n := 51, σ := [] }

def X_lontarlaw10_Some_L0_0 (q : ((List Int) × (List (Nat × Nat)))) (v : (List Int)) (out_ : List Int) (v1 : Int) (v2 : Bool) : St := { ts := [(3, (.sl .view false (eI .i64 q.1))), (5, (.sl (.excl 3) false (eI .i64 out_))), (19, (.sl .view false (eI .u8 v))), (20, (.lit (.int .i64 (v.length : Int)))), (21, (.lit (.int .i64 v1))), (22, (.lit (.bool v2)))], n := 51, σ := [] }

def E_lontarlaw10_Some_L0 (q : ((List Int) × (List (Nat × Nat)))) (v : (List Int)) (vv : (List Int) × Int × Bool) : Exit × St :=
  match vv with
  | (out_, v1, v2) => (.exit 0, X_lontarlaw10_Some_L0_0 q v out_ v1 v2)

set_option maxRecDepth 100000 in
theorem body_lontarlaw10_Some_L0 (q : ((List Int) × (List (Nat × Nat)))) (v : (List Int)) (vv : (List Int) × Int) (x) (h : lontarlaw10_Some_L0 q v vv = some x) : RunsB Try.prog 0 (sub [1, 1, 1, 0, 1, 0, 0] (fbody Try.f41)) (S_lontarlaw10_Some_L0 q v vv) (sideX (E_lontarlaw10_Some_L0 q v) x) (sideS (S_lontarlaw10_Some_L0 q v) (E_lontarlaw10_Some_L0 q v) x) := by
  obtain ⟨out_, v1⟩ := vv
  unfold lontarlaw10_Some_L0 at h
  dsimp only at h
  rcases ite_some h with ⟨hc25, h⟩ | ⟨hc25, h⟩
  · obtain ⟨x_, h_x_, h⟩ := Option.bind_eq_some_iff.1 h
    obtain ⟨q1, h_q1, h⟩ := Option.bind_eq_some_iff.1 h
    rcases ite_some h with ⟨hc26, h⟩ | ⟨hc26, h⟩
    · obtain ⟨x_1, h_x_1, h⟩ := Option.bind_eq_some_iff.1 h
      rcases ite_some h with ⟨hc27, h⟩ | ⟨hc27, h⟩
      · obtain ⟨hg28, h⟩ := guardO_some h
        injection h with h; subst h
        exact codeH_sound (C := C41) (base := 0) wf _ (cs := [.b true, .reg 5 [(0, { it := .cs [(.lit (.int .u8 x_))] })], .reg 6 [(3, { it := .res (.tup [(.agg [(.lit (.int .i64 q1.1.base)), (.lit (.complex .f64 q1.1.sign.1 q1.1.sign.2))]), (.lit (.int .i64 q1.2.1)), (.lit (.bool q1.2.2))]) [] [] })], .b true, .reg 8 [(3, { it := .cs [(.lit (.int .i64 x_1))] })], .b true, .reg 11 [(3, { it := .sl (eI .i64 (out_ ++ [(w64 (120 + (w64 x_)))])) })]]) (cs' := []) (ps := [(decide (v1 < (v.length : Int))) = true,
            nthPV (eI .u8 v) v1 = some [(.lit (.int .u8 x_))],
            CallK Try.prog false 29 [(.lit (.int .i64 ((w64 x_).tmod 148)))] [] (.tup [(.agg [(.lit (.int .i64 q1.1.base)), (.lit (.complex .f64 q1.1.sign.1 q1.1.sign.2))]), (.lit (.int .i64 q1.2.1)), (.lit (.bool q1.2.2))]) [],
            (decide (x_ > 190)) = true,
            nthPV (eI .i64 q.1) (x_.tmod 8) = some [(.lit (.int .i64 x_1))],
            (decide (x_ < 6)) = true,
            (List.length (eI .i64 out_) + List.length (eI .i64 [(w64 (120 + (w64 x_)))])) * 8 ≤ 2 ^ 46,
            (eI .i64 [(w64 (120 + (w64 x_)))]).all (fun c => c.length = 1 && c.all PV.one) = true,
            (eI .i64 out_) ++ (eI .i64 [(w64 (120 + (w64 x_)))]) = (eI .i64 (out_ ++ [(w64 (120 + (w64 x_)))])),
            noRefss 0 (eI .i64 q.1) = true,
            noRefss 0 (eI .i64 (out_ ++ [(w64 (120 + (w64 x_)))])) = true,
            noRefss 0 (eI .u8 v) = true]) (by kernel_rfl)
          ⟨(decide_eq_true hc25), (nth_map _ h_x_), (call_lontarlaw09_Letter h_q1 _ _), (decide_eq_true hc26), (nth_map _ h_x_1), (decide_eq_true hc27), (len_map2 hg28), (all_map (fun _ => rfl) _), (List.map_append).symm, (map_noRef (fun _ => rfl) _), (map_noRef (fun _ => rfl) _), (map_noRef (fun _ => rfl) _), trivial⟩
      · obtain ⟨hg29, h⟩ := guardO_some h
        injection h with h; subst h
        exact codeH_sound (C := C41) (base := 0) wf _ (cs := [.b true, .reg 5 [(0, { it := .cs [(.lit (.int .u8 x_))] })], .reg 6 [(3, { it := .res (.tup [(.agg [(.lit (.int .i64 q1.1.base)), (.lit (.complex .f64 q1.1.sign.1 q1.1.sign.2))]), (.lit (.int .i64 q1.2.1)), (.lit (.bool q1.2.2))]) [] [] })], .b true, .reg 8 [(3, { it := .cs [(.lit (.int .i64 x_1))] })], .b false, .reg 11 [(3, { it := .sl (eI .i64 (out_ ++ [x_1])) })]]) (cs' := []) (ps := [(decide (v1 < (v.length : Int))) = true,
            nthPV (eI .u8 v) v1 = some [(.lit (.int .u8 x_))],
            CallK Try.prog false 29 [(.lit (.int .i64 ((w64 x_).tmod 148)))] [] (.tup [(.agg [(.lit (.int .i64 q1.1.base)), (.lit (.complex .f64 q1.1.sign.1 q1.1.sign.2))]), (.lit (.int .i64 q1.2.1)), (.lit (.bool q1.2.2))]) [],
            (decide (x_ > 190)) = true,
            nthPV (eI .i64 q.1) (x_.tmod 8) = some [(.lit (.int .i64 x_1))],
            (decide (x_ < 6)) = false,
            (List.length (eI .i64 out_) + List.length (eI .i64 [x_1])) * 8 ≤ 2 ^ 46,
            (eI .i64 [x_1]).all (fun c => c.length = 1 && c.all PV.one) = true,
            (eI .i64 out_) ++ (eI .i64 [x_1]) = (eI .i64 (out_ ++ [x_1])),
            noRefss 0 (eI .i64 q.1) = true,
            noRefss 0 (eI .i64 (out_ ++ [x_1])) = true,
            noRefss 0 (eI .u8 v) = true]) (by kernel_rfl)
          ⟨(decide_eq_true hc25), (nth_map _ h_x_), (call_lontarlaw09_Letter h_q1 _ _), (decide_eq_true hc26), (nth_map _ h_x_1), (decide_eq_false hc27), (len_map2 hg29), (all_map (fun _ => rfl) _), (List.map_append).symm, (map_noRef (fun _ => rfl) _), (map_noRef (fun _ => rfl) _), (map_noRef (fun _ => rfl) _), trivial⟩
    · rcases ite_some h with ⟨hc30, h⟩ | ⟨hc30, h⟩
      · obtain ⟨hg31, h⟩ := guardO_some h
        injection h with h; subst h
        exact codeH_sound (C := C41) (base := 0) wf _ (cs := [.b true, .reg 5 [(0, { it := .cs [(.lit (.int .u8 x_))] })], .reg 6 [(3, { it := .res (.tup [(.agg [(.lit (.int .i64 q1.1.base)), (.lit (.complex .f64 q1.1.sign.1 q1.1.sign.2))]), (.lit (.int .i64 q1.2.1)), (.lit (.bool q1.2.2))]) [] [] })], .b false, .b true, .reg 11 [(3, { it := .sl (eI .i64 (out_ ++ [(w64 (120 + (w64 x_)))])) })]]) (cs' := []) (ps := [(decide (v1 < (v.length : Int))) = true,
            nthPV (eI .u8 v) v1 = some [(.lit (.int .u8 x_))],
            CallK Try.prog false 29 [(.lit (.int .i64 ((w64 x_).tmod 148)))] [] (.tup [(.agg [(.lit (.int .i64 q1.1.base)), (.lit (.complex .f64 q1.1.sign.1 q1.1.sign.2))]), (.lit (.int .i64 q1.2.1)), (.lit (.bool q1.2.2))]) [],
            (decide (x_ > 190)) = false,
            (decide (x_ < 6)) = true,
            (List.length (eI .i64 out_) + List.length (eI .i64 [(w64 (120 + (w64 x_)))])) * 8 ≤ 2 ^ 46,
            (eI .i64 [(w64 (120 + (w64 x_)))]).all (fun c => c.length = 1 && c.all PV.one) = true,
            (eI .i64 out_) ++ (eI .i64 [(w64 (120 + (w64 x_)))]) = (eI .i64 (out_ ++ [(w64 (120 + (w64 x_)))])),
            noRefss 0 (eI .i64 q.1) = true,
            noRefss 0 (eI .i64 (out_ ++ [(w64 (120 + (w64 x_)))])) = true,
            noRefss 0 (eI .u8 v) = true]) (by kernel_rfl)
          ⟨(decide_eq_true hc25), (nth_map _ h_x_), (call_lontarlaw09_Letter h_q1 _ _), (decide_eq_false hc26), (decide_eq_true hc30), (len_map2 hg31), (all_map (fun _ => rfl) _), (List.map_append).symm, (map_noRef (fun _ => rfl) _), (map_noRef (fun _ => rfl) _), (map_noRef (fun _ => rfl) _), trivial⟩
      · obtain ⟨hg32, h⟩ := guardO_some h
        injection h with h; subst h
        exact codeH_sound (C := C41) (base := 0) wf _ (cs := [.b true, .reg 5 [(0, { it := .cs [(.lit (.int .u8 x_))] })], .reg 6 [(3, { it := .res (.tup [(.agg [(.lit (.int .i64 q1.1.base)), (.lit (.complex .f64 q1.1.sign.1 q1.1.sign.2))]), (.lit (.int .i64 q1.2.1)), (.lit (.bool q1.2.2))]) [] [] })], .b false, .b false, .reg 11 [(3, { it := .sl (eI .i64 (out_ ++ [q1.2.1])) })]]) (cs' := []) (ps := [(decide (v1 < (v.length : Int))) = true,
            nthPV (eI .u8 v) v1 = some [(.lit (.int .u8 x_))],
            CallK Try.prog false 29 [(.lit (.int .i64 ((w64 x_).tmod 148)))] [] (.tup [(.agg [(.lit (.int .i64 q1.1.base)), (.lit (.complex .f64 q1.1.sign.1 q1.1.sign.2))]), (.lit (.int .i64 q1.2.1)), (.lit (.bool q1.2.2))]) [],
            (decide (x_ > 190)) = false,
            (decide (x_ < 6)) = false,
            (List.length (eI .i64 out_) + List.length (eI .i64 [q1.2.1])) * 8 ≤ 2 ^ 46,
            (eI .i64 [q1.2.1]).all (fun c => c.length = 1 && c.all PV.one) = true,
            (eI .i64 out_) ++ (eI .i64 [q1.2.1]) = (eI .i64 (out_ ++ [q1.2.1])),
            noRefss 0 (eI .i64 q.1) = true,
            noRefss 0 (eI .i64 (out_ ++ [q1.2.1])) = true,
            noRefss 0 (eI .u8 v) = true]) (by kernel_rfl)
          ⟨(decide_eq_true hc25), (nth_map _ h_x_), (call_lontarlaw09_Letter h_q1 _ _), (decide_eq_false hc26), (decide_eq_false hc30), (len_map2 hg32), (all_map (fun _ => rfl) _), (List.map_append).symm, (map_noRef (fun _ => rfl) _), (map_noRef (fun _ => rfl) _), (map_noRef (fun _ => rfl) _), trivial⟩
  · injection h with h; subst h
    exact codeH_sound (C := C41) (base := 0) wf _ (cs := [.b false]) (cs' := []) (ps := [(decide (v1 < (v.length : Int))) = false]) (by kernel_rfl)
      ⟨(decide_eq_false hc25), trivial⟩

theorem runs_lontarlaw10_Some_L0 (q : ((List Int) × (List (Nat × Nat)))) (v : (List Int)) {nn} {vv : (List Int) × Int} {rr} (h : loopM (lontarlaw10_Some_L0 q v) nn vv = some rr) : RunsB Try.prog 0 (.loop (sub [1, 1, 1, 0, 1, 0, 0] (fbody Try.f41))) (S_lontarlaw10_Some_L0 q v vv) (E_lontarlaw10_Some_L0 q v rr).1 (E_lontarlaw10_Some_L0 q v rr).2 :=
  loop_runs (by intro r; simp [E_lontarlaw10_Some_L0]) (body_lontarlaw10_Some_L0 q v) nn vv rr h

set_option maxRecDepth 100000 in
theorem knows_lontarlaw10_Some (l : (List Int)) {r} (h : lontarlaw10_Some l = some r) : Knows Try.prog 41 [(.sl .view false (eI .u8 l))] (.sl (.excl 3) false (eI .i64 r)) := by
  unfold lontarlaw10_Some at h
  obtain ⟨q, h_q, h⟩ := Option.bind_eq_some_iff.1 h
  obtain ⟨v, h_v, h⟩ := Option.bind_eq_some_iff.1 h
  obtain ⟨l33, hr_l33, h⟩ := Option.bind_eq_some_iff.1 h
  have hl_l33 := runs_lontarlaw10_Some_L0 q v hr_l33
  obtain ⟨out_, v1, v2⟩ := l33
  dsimp only at h
  injection h with h; subst h
  exact Knows.of (C := C41) wf Try.func41 (cs := [.reg 1 [(0, { it := .res (.tup [(.sl .view false (eI .i64 q.1)), (.sl .view false (eC .f64 q.2))]) [] [] })], .reg 3 [(2, { it := .val (.int .i64 (l.length : Int)) }), (3, { it := .val (.int .i64 (minI (l.length : Int) 60)) }), (4, { it := .sl (eI .u8 v) }), (5, { it := .val (.int .i64 (v.length : Int)) })], .lp (.exit 0) (X_lontarlaw10_Some_L0_0 q v out_ v1 v2)]) (args := [(.sl .view false (eI .u8 l))]) (r := (.sl (.excl 3) false (eI .i64 out_))) (ps := [CallK Try.prog false 36 [] [] (.tup [(.sl .view false (eI .i64 q.1)), (.sl .view false (eC .f64 q.2))]) [],
      Value.int .i64 (↑(List.length (eI .u8 l)) : Int) = .int .i64 (l.length : Int),
      det Try.prog (builtin .min #[3, 3] 3 [false, true].toArray [(.int .i64 (l.length : Int)), (.int .i64 60)].toArray) = some (.value (.int .i64 (minI (l.length : Int) 60))),
      0 ≤ (0 : Int) ∧ (0 : Int) ≤ (minI (l.length : Int) 60) ∧ (minI (l.length : Int) 60) ≤ (↑(List.length (eI .u8 l)) : Int),
      ((eI .u8 l).drop (0 : Int).toNat).take ((minI (l.length : Int) 60).toNat - (0 : Int).toNat) = (eI .u8 v),
      firstLen 1 (eI .u8 v) = true,
      Value.int .i64 (↑(List.length (eI .u8 v)) : Int) = .int .i64 (v.length : Int),
      RunsB Try.prog 0 (.loop (sub [1, 1, 1, 0, 1, 0, 0] (fbody Try.f41))) (S_lontarlaw10_Some_L0 q v ([], 0)) (.exit 0) (X_lontarlaw10_Some_L0_0 q v out_ v1 v2)]) (by kernel_rfl)
    ⟨(call_lontarlaw09_Marks h_q _ _), (len_val _ _), (det_min _ _ _ _ _ _ _), (sl_b h_v), (sl_e h_v), (first_map (fun _ => rfl) _), (len_val _ _), hl_l33, trivial⟩
theorem call_lontarlaw10_Some {l : (List Int)} {r} (h : lontarlaw10_Some l = some r) (kp : Bool) (σ : List Bx) : CallK Try.prog kp 41 [(.sl .view false (eI .u8 l))] σ (.sl (.excl 3) false (eI .i64 r)) σ :=
  (knows_lontarlaw10_Some l h).call (and_t (map_noRef (fun _ => rfl) _) rfl) rfl kp σ

def h45 : Nat → Option Hint
| 0 => some { keep := [0] }
| 1 => some { keep := [0, 3] }
| 2 => some { keep := [0, 3, 4] }
| 3 => some { keep := [0, 3, 4, 5], nils := [((.tmp 5), 3)] }
| 4 => some { keep := [0, 3, 4, 5, 14, 15, 16] }
| 5 => some { keep := [0, 3, 4, 5, 14, 15, 16, 17] }
| 6 => some { keep := [0, 3, 4, 5, 7, 14, 15, 16] }
| 7 => some { keep := [0, 3, 4, 5, 7, 8, 9, 14, 15, 16] }
| 8 => some { keep := [0, 3, 4, 5, 7, 8, 9, 10, 11, 14, 15, 16] }
| 9 => some { keep := [0, 3, 4, 5, 7, 8, 10, 11, 14, 15, 16, 38] }
| 10 => some { keep := [0, 3, 4, 5, 14, 15, 16] }
| 11 => some { keep := [0, 3, 4, 5, 10, 11, 14, 15, 16] }
| 12 => some { keep := [0, 3, 4, 5, 10, 11, 14, 15, 16, 49] }
| 13 => some { keep := [0, 3, 4, 5, 11, 14, 15, 16] }
| 14 => some { keep := [0, 3, 4, 5, 11, 14, 15, 16, 57] }
| 15 => some { keep := [0, 3, 4, 5, 14, 15, 16] }
| 16 => some { keep := [0, 3, 4, 5, 14, 15, 16], cut := some 2 }
| 17 => some { keep := [2] }
| _ => none

noncomputable def C45 : Ctx := { P := Try.prog, mv := fun _ _ => false, res := resOf Try.f45, live := h45, call := fun _ _ _ => none }

def S_vcanon_Apart_L0 (ss : (List Int)) (vv : (List Int) × Int) : St :=
  match vv with
  | (out_, v) => { ts := [(0, (.sl .view false (eI .i64 ss))), (3, (.ptr 0 0)), (4, (.ptr 1 0)), (5, (.sl (.excl 3) false (eI .i64 out_))), (14, (.sl .view false (eI .i64 ss))), (15, (.lit (.int .i64 (ss.length : Int)))), (16, (.lit (.int .i64 v)))], n := 66, σ := [.cells 87 [(.lit (.int .i64 0)), (.lit (.int .i64 774)), (.lit (.int .i64 770)), (.lit (.int .i64 795))], .cells 84 [(.lit (.int .i64 0)), (.lit (.int .i64 768)), (.lit (.int .i64 769)), (.lit (.int .i64 777)), (.lit (.int .i64 771)), (.lit (.int .i64 803))]] }

def X_vcanon_Apart_L0_0 (ss : (List Int)) (out_ : List Int) (v : Int) (v1 : Bool) : St := { ts := [(0, (.sl .view false (eI .i64 ss))), (3, (.ptr 0 0)), (4, (.ptr 1 0)), (5, (.sl (.excl 3) false (eI .i64 out_))), (14, (.sl .view false (eI .i64 ss))), (15, (.lit (.int .i64 (ss.length : Int)))), (16, (.lit (.int .i64 v))), (17, (.lit (.bool v1)))], n := 66, σ := [.cells 87 [(.lit (.int .i64 0)), (.lit (.int .i64 774)), (.lit (.int .i64 770)), (.lit (.int .i64 795))], .cells 84 [(.lit (.int .i64 0)), (.lit (.int .i64 768)), (.lit (.int .i64 769)), (.lit (.int .i64 777)), (.lit (.int .i64 771)), (.lit (.int .i64 803))]] }

def E_vcanon_Apart_L0 (ss : (List Int)) (vv : (List Int) × Int × Bool) : Exit × St :=
  match vv with
  | (out_, v, v1) => (.exit 0, X_vcanon_Apart_L0_0 ss out_ v v1)

set_option maxRecDepth 100000 in
theorem body_vcanon_Apart_L0 (ss : (List Int)) (vv : (List Int) × Int) (x) (h : vcanon_Apart_L0 ss vv = some x) : RunsB Try.prog 0 (sub [1, 1, 1, 1, 0, 1, 0, 0] (fbody Try.f45)) (S_vcanon_Apart_L0 ss vv) (sideX (E_vcanon_Apart_L0 ss) x) (sideS (S_vcanon_Apart_L0 ss) (E_vcanon_Apart_L0 ss) x) := by
  obtain ⟨out_, v⟩ := vv
  unfold vcanon_Apart_L0 at h
  dsimp only at h
  rcases ite_some h with ⟨hc46, h⟩ | ⟨hc46, h⟩
  · obtain ⟨x_, h_x_, h⟩ := Option.bind_eq_some_iff.1 h
    obtain ⟨q, h_q, h⟩ := Option.bind_eq_some_iff.1 h
    obtain ⟨v1, h_v1, h⟩ := Option.bind_eq_some_iff.1 h
    obtain ⟨v2, h_v2, h⟩ := Option.bind_eq_some_iff.1 h
    rcases ite_some h with ⟨hc47, h⟩ | ⟨hc47, h⟩
    · rcases ite_some h with ⟨hc48, h⟩ | ⟨hc48, h⟩
      · obtain ⟨hg49, h⟩ := guardO_some h
        injection h with h; subst h
        exact codeH_sound (C := C45) (base := 0) wf _ (cs := [.b true, .reg 6 [(0, { it := .cs [(.lit (.int .i64 x_))] })], .reg 7 [(1, { it := .res (.tup [(.agg [(.lit (.int .i64 q.1.base)), (.lit (.complex .f64 q.1.sign.1 q.1.sign.2))]), (.lit (.bool q.2))]) [.cells 87 [(.lit (.int .i64 0)), (.lit (.int .i64 774)), (.lit (.int .i64 770)), (.lit (.int .i64 795))], .cells 84 [(.lit (.int .i64 0)), (.lit (.int .i64 768)), (.lit (.int .i64 769)), (.lit (.int .i64 777)), (.lit (.int .i64 771)), (.lit (.int .i64 803))]] [] })], .dr { frz := [8], lin := [], fz := [8], steps := [⟨[8, 25], false, {}⟩, ⟨[25, 26], false, {}⟩, ⟨[26, 27], false, { it := .val (.float .f64 q.1.sign.1) }⟩, ⟨[27, 28], false, { it := .val (.int .i64 v1) }⟩, ⟨[8, 29], false, {}⟩, ⟨[29, 30], false, {}⟩, ⟨[30, 31], false, { it := .val (.float .f64 q.1.sign.2) }⟩, ⟨[31, 32], false, { it := .val (.int .i64 v2) }⟩, ⟨[10, 28], false, {}⟩, ⟨[11, 32], false, {}⟩] }, .reg 9 [(3, { w := some false }), (4, { w := some false }), (5, { it := .b false })], .b true, .reg 10 [(3, { it := .sl (eI .i64 (out_ ++ [x_])) })]]) (cs' := []) (ps := [(decide (v < (ss.length : Int))) = true,
            nthPV (eI .i64 ss) v = some [(.lit (.int .i64 x_))],
            CallK Try.prog false 32 [(.lit (.int .i64 x_))] [.cells 87 [(.lit (.int .i64 0)), (.lit (.int .i64 774)), (.lit (.int .i64 770)), (.lit (.int .i64 795))], .cells 84 [(.lit (.int .i64 0)), (.lit (.int .i64 768)), (.lit (.int .i64 769)), (.lit (.int .i64 777)), (.lit (.int .i64 771)), (.lit (.int .i64 803))]] (.tup [(.agg [(.lit (.int .i64 q.1.base)), (.lit (.complex .f64 q.1.sign.1 q.1.sign.2))]), (.lit (.bool q.2))]) [.cells 87 [(.lit (.int .i64 0)), (.lit (.int .i64 774)), (.lit (.int .i64 770)), (.lit (.int .i64 795))], .cells 84 [(.lit (.int .i64 0)), (.lit (.int .i64 768)), (.lit (.int .i64 769)), (.lit (.int .i64 777)), (.lit (.int .i64 771)), (.lit (.int .i64 803))]],
            ([.cells 87 [(.lit (.int .i64 0)), (.lit (.int .i64 774)), (.lit (.int .i64 770)), (.lit (.int .i64 795))], .cells 84 [(.lit (.int .i64 0)), (.lit (.int .i64 768)), (.lit (.int .i64 769)), (.lit (.int .i64 777)), (.lit (.int .i64 771)), (.lit (.int .i64 803))], .cells 38 [(.lit (.int .i64 q.1.base)), (.lit (.complex .f64 q.1.sign.1 q.1.sign.2))]] : List Bx) = [.cells 87 [(.lit (.int .i64 0)), (.lit (.int .i64 774)), (.lit (.int .i64 770)), (.lit (.int .i64 795))], .cells 84 [(.lit (.int .i64 0)), (.lit (.int .i64 768)), (.lit (.int .i64 769)), (.lit (.int .i64 777)), (.lit (.int .i64 771)), (.lit (.int .i64 803))], .cells 38 [(.lit (.int .i64 q.1.base)), (.lit (.complex .f64 q.1.sign.1 q.1.sign.2))]],
            ([.cells 87 [(.lit (.int .i64 0)), (.lit (.int .i64 774)), (.lit (.int .i64 770)), (.lit (.int .i64 795))], .cells 84 [(.lit (.int .i64 0)), (.lit (.int .i64 768)), (.lit (.int .i64 769)), (.lit (.int .i64 777)), (.lit (.int .i64 771)), (.lit (.int .i64 803))], .cells 38 [(.lit (.int .i64 q.1.base)), (.lit (.complex .f64 q.1.sign.1 q.1.sign.2))]] : List Bx) = [.cells 87 [(.lit (.int .i64 0)), (.lit (.int .i64 774)), (.lit (.int .i64 770)), (.lit (.int .i64 795))], .cells 84 [(.lit (.int .i64 0)), (.lit (.int .i64 768)), (.lit (.int .i64 769)), (.lit (.int .i64 777)), (.lit (.int .i64 771)), (.lit (.int .i64 803))], .cells 38 [(.lit (.int .i64 q.1.base)), (.lit (.complex .f64 q.1.sign.1 q.1.sign.2))]],
            ([.cells 87 [(.lit (.int .i64 0)), (.lit (.int .i64 774)), (.lit (.int .i64 770)), (.lit (.int .i64 795))], .cells 84 [(.lit (.int .i64 0)), (.lit (.int .i64 768)), (.lit (.int .i64 769)), (.lit (.int .i64 777)), (.lit (.int .i64 771)), (.lit (.int .i64 803))], .cells 38 [(.lit (.int .i64 q.1.base)), (.lit (.complex .f64 q.1.sign.1 q.1.sign.2))]] : List Bx) = [.cells 87 [(.lit (.int .i64 0)), (.lit (.int .i64 774)), (.lit (.int .i64 770)), (.lit (.int .i64 795))], .cells 84 [(.lit (.int .i64 0)), (.lit (.int .i64 768)), (.lit (.int .i64 769)), (.lit (.int .i64 777)), (.lit (.int .i64 771)), (.lit (.int .i64 803))], .cells 38 [(.lit (.int .i64 q.1.base)), (.lit (.complex .f64 q.1.sign.1 q.1.sign.2))]],
            det Try.prog (builtin .real #[36] 47 [false].toArray [(.complex .f64 q.1.sign.1 q.1.sign.2)].toArray) = some (.value (.float .f64 q.1.sign.1)),
            ([.cells 87 [(.lit (.int .i64 0)), (.lit (.int .i64 774)), (.lit (.int .i64 770)), (.lit (.int .i64 795))], .cells 84 [(.lit (.int .i64 0)), (.lit (.int .i64 768)), (.lit (.int .i64 769)), (.lit (.int .i64 777)), (.lit (.int .i64 771)), (.lit (.int .i64 803))], .cells 38 [(.lit (.int .i64 q.1.base)), (.lit (.complex .f64 q.1.sign.1 q.1.sign.2))]] : List Bx) = [.cells 87 [(.lit (.int .i64 0)), (.lit (.int .i64 774)), (.lit (.int .i64 770)), (.lit (.int .i64 795))], .cells 84 [(.lit (.int .i64 0)), (.lit (.int .i64 768)), (.lit (.int .i64 769)), (.lit (.int .i64 777)), (.lit (.int .i64 771)), (.lit (.int .i64 803))], .cells 38 [(.lit (.int .i64 q.1.base)), (.lit (.complex .f64 q.1.sign.1 q.1.sign.2))]],
            det Try.prog (convert 47 3 (.float .f64 q.1.sign.1)) = some (.int .i64 v1),
            ([.cells 87 [(.lit (.int .i64 0)), (.lit (.int .i64 774)), (.lit (.int .i64 770)), (.lit (.int .i64 795))], .cells 84 [(.lit (.int .i64 0)), (.lit (.int .i64 768)), (.lit (.int .i64 769)), (.lit (.int .i64 777)), (.lit (.int .i64 771)), (.lit (.int .i64 803))], .cells 38 [(.lit (.int .i64 q.1.base)), (.lit (.complex .f64 q.1.sign.1 q.1.sign.2))]] : List Bx) = [.cells 87 [(.lit (.int .i64 0)), (.lit (.int .i64 774)), (.lit (.int .i64 770)), (.lit (.int .i64 795))], .cells 84 [(.lit (.int .i64 0)), (.lit (.int .i64 768)), (.lit (.int .i64 769)), (.lit (.int .i64 777)), (.lit (.int .i64 771)), (.lit (.int .i64 803))], .cells 38 [(.lit (.int .i64 q.1.base)), (.lit (.complex .f64 q.1.sign.1 q.1.sign.2))]],
            ([.cells 87 [(.lit (.int .i64 0)), (.lit (.int .i64 774)), (.lit (.int .i64 770)), (.lit (.int .i64 795))], .cells 84 [(.lit (.int .i64 0)), (.lit (.int .i64 768)), (.lit (.int .i64 769)), (.lit (.int .i64 777)), (.lit (.int .i64 771)), (.lit (.int .i64 803))], .cells 38 [(.lit (.int .i64 q.1.base)), (.lit (.complex .f64 q.1.sign.1 q.1.sign.2))]] : List Bx) = [.cells 87 [(.lit (.int .i64 0)), (.lit (.int .i64 774)), (.lit (.int .i64 770)), (.lit (.int .i64 795))], .cells 84 [(.lit (.int .i64 0)), (.lit (.int .i64 768)), (.lit (.int .i64 769)), (.lit (.int .i64 777)), (.lit (.int .i64 771)), (.lit (.int .i64 803))], .cells 38 [(.lit (.int .i64 q.1.base)), (.lit (.complex .f64 q.1.sign.1 q.1.sign.2))]],
            ([.cells 87 [(.lit (.int .i64 0)), (.lit (.int .i64 774)), (.lit (.int .i64 770)), (.lit (.int .i64 795))], .cells 84 [(.lit (.int .i64 0)), (.lit (.int .i64 768)), (.lit (.int .i64 769)), (.lit (.int .i64 777)), (.lit (.int .i64 771)), (.lit (.int .i64 803))], .cells 38 [(.lit (.int .i64 q.1.base)), (.lit (.complex .f64 q.1.sign.1 q.1.sign.2))]] : List Bx) = [.cells 87 [(.lit (.int .i64 0)), (.lit (.int .i64 774)), (.lit (.int .i64 770)), (.lit (.int .i64 795))], .cells 84 [(.lit (.int .i64 0)), (.lit (.int .i64 768)), (.lit (.int .i64 769)), (.lit (.int .i64 777)), (.lit (.int .i64 771)), (.lit (.int .i64 803))], .cells 38 [(.lit (.int .i64 q.1.base)), (.lit (.complex .f64 q.1.sign.1 q.1.sign.2))]],
            det Try.prog (builtin .imag #[36] 47 [false].toArray [(.complex .f64 q.1.sign.1 q.1.sign.2)].toArray) = some (.value (.float .f64 q.1.sign.2)),
            ([.cells 87 [(.lit (.int .i64 0)), (.lit (.int .i64 774)), (.lit (.int .i64 770)), (.lit (.int .i64 795))], .cells 84 [(.lit (.int .i64 0)), (.lit (.int .i64 768)), (.lit (.int .i64 769)), (.lit (.int .i64 777)), (.lit (.int .i64 771)), (.lit (.int .i64 803))], .cells 38 [(.lit (.int .i64 q.1.base)), (.lit (.complex .f64 q.1.sign.1 q.1.sign.2))]] : List Bx) = [.cells 87 [(.lit (.int .i64 0)), (.lit (.int .i64 774)), (.lit (.int .i64 770)), (.lit (.int .i64 795))], .cells 84 [(.lit (.int .i64 0)), (.lit (.int .i64 768)), (.lit (.int .i64 769)), (.lit (.int .i64 777)), (.lit (.int .i64 771)), (.lit (.int .i64 803))], .cells 38 [(.lit (.int .i64 q.1.base)), (.lit (.complex .f64 q.1.sign.1 q.1.sign.2))]],
            det Try.prog (convert 47 3 (.float .f64 q.1.sign.2)) = some (.int .i64 v2),
            ([.cells 87 [(.lit (.int .i64 0)), (.lit (.int .i64 774)), (.lit (.int .i64 770)), (.lit (.int .i64 795))], .cells 84 [(.lit (.int .i64 0)), (.lit (.int .i64 768)), (.lit (.int .i64 769)), (.lit (.int .i64 777)), (.lit (.int .i64 771)), (.lit (.int .i64 803))], .cells 38 [(.lit (.int .i64 q.1.base)), (.lit (.complex .f64 q.1.sign.1 q.1.sign.2))]] : List Bx) = [.cells 87 [(.lit (.int .i64 0)), (.lit (.int .i64 774)), (.lit (.int .i64 770)), (.lit (.int .i64 795))], .cells 84 [(.lit (.int .i64 0)), (.lit (.int .i64 768)), (.lit (.int .i64 769)), (.lit (.int .i64 777)), (.lit (.int .i64 771)), (.lit (.int .i64 803))], .cells 38 [(.lit (.int .i64 q.1.base)), (.lit (.complex .f64 q.1.sign.1 q.1.sign.2))]],
            ([.cells 87 [(.lit (.int .i64 0)), (.lit (.int .i64 774)), (.lit (.int .i64 770)), (.lit (.int .i64 795))], .cells 84 [(.lit (.int .i64 0)), (.lit (.int .i64 768)), (.lit (.int .i64 769)), (.lit (.int .i64 777)), (.lit (.int .i64 771)), (.lit (.int .i64 803))], .cells 38 [(.lit (.int .i64 q.1.base)), (.lit (.complex .f64 q.1.sign.1 q.1.sign.2))]] : List Bx) = [.cells 87 [(.lit (.int .i64 0)), (.lit (.int .i64 774)), (.lit (.int .i64 770)), (.lit (.int .i64 795))], .cells 84 [(.lit (.int .i64 0)), (.lit (.int .i64 768)), (.lit (.int .i64 769)), (.lit (.int .i64 777)), (.lit (.int .i64 771)), (.lit (.int .i64 803))], .cells 38 [(.lit (.int .i64 q.1.base)), (.lit (.complex .f64 q.1.sign.1 q.1.sign.2))]],
            (!q.2) = false,
            (!q.2) = false,
            (!q.2) = false,
            (v1 == 4) = true,
            (List.length (eI .i64 out_) + List.length (eI .i64 [x_])) * 8 ≤ 2 ^ 46,
            (eI .i64 [x_]).all (fun c => c.length = 1 && c.all PV.one) = true,
            (eI .i64 out_) ++ (eI .i64 [x_]) = (eI .i64 (out_ ++ [x_])),
            noRefss 2 (eI .i64 ss) = true,
            noRefss 2 (eI .i64 (out_ ++ [x_])) = true,
            noRefss 2 (eI .i64 ss) = true]) (by kernel_rfl)
          ⟨(decide_eq_true hc46), (nth_map _ h_x_), (call_viet_Split h_q _ _), rfl, rfl, rfl, rfl, rfl, (det_f2i Try.underlying47 Try.underlying3 h_v1), rfl, rfl, rfl, rfl, rfl, (det_f2i Try.underlying47 Try.underlying3 h_v2), rfl, rfl, (not_f hc47), (not_f hc47), (not_f hc47), (beq_iff_eq.2 hc48), (len_map2 hg49), (all_map (fun _ => rfl) _), (List.map_append).symm, (map_noRef (fun _ => rfl) _), (map_noRef (fun _ => rfl) _), (map_noRef (fun _ => rfl) _), trivial⟩
      · obtain ⟨hg50, h⟩ := guardO_some h
        rcases ite_some h with ⟨hc51, h⟩ | ⟨hc51, h⟩
        · obtain ⟨hg52, h⟩ := guardO_some h
          obtain ⟨v3, h_v3, h⟩ := Option.bind_eq_some_iff.1 h
          obtain ⟨hg53, h⟩ := guardO_some h
          rcases ite_some h with ⟨hc54, h⟩ | ⟨hc54, h⟩
          · obtain ⟨hg55, h⟩ := guardO_some h
            obtain ⟨v4, h_v4, h⟩ := Option.bind_eq_some_iff.1 h
            obtain ⟨hg56, h⟩ := guardO_some h
            injection h with h; subst h
            exact codeH_sound (C := C45) (base := 0) wf _ (cs := [.b true, .reg 6 [(0, { it := .cs [(.lit (.int .i64 x_))] })], .reg 7 [(1, { it := .res (.tup [(.agg [(.lit (.int .i64 q.1.base)), (.lit (.complex .f64 q.1.sign.1 q.1.sign.2))]), (.lit (.bool q.2))]) [.cells 87 [(.lit (.int .i64 0)), (.lit (.int .i64 774)), (.lit (.int .i64 770)), (.lit (.int .i64 795))], .cells 84 [(.lit (.int .i64 0)), (.lit (.int .i64 768)), (.lit (.int .i64 769)), (.lit (.int .i64 777)), (.lit (.int .i64 771)), (.lit (.int .i64 803))]] [] })], .dr { frz := [8], lin := [], fz := [8], steps := [⟨[8, 25], false, {}⟩, ⟨[25, 26], false, {}⟩, ⟨[26, 27], false, { it := .val (.float .f64 q.1.sign.1) }⟩, ⟨[27, 28], false, { it := .val (.int .i64 v1) }⟩, ⟨[8, 29], false, {}⟩, ⟨[29, 30], false, {}⟩, ⟨[30, 31], false, { it := .val (.float .f64 q.1.sign.2) }⟩, ⟨[31, 32], false, { it := .val (.int .i64 v2) }⟩, ⟨[10, 28], false, {}⟩, ⟨[11, 32], false, {}⟩] }, .reg 9 [(3, { w := some false }), (4, { w := some false }), (5, { it := .b false })], .b false, .reg 11 [(4, { it := .sl (eI .i64 (out_ ++ [q.1.base])) })], .b true, .reg 13 [(2, { it := .b true }), (3, { it := .pv (.lit (.int .i64 v3)) }), (5, { it := .sl (eI .i64 ((out_ ++ [q.1.base]) ++ [v3])) })], .b true, .reg 15 [(2, { it := .b true }), (3, { it := .pv (.lit (.int .i64 v4)) }), (5, { it := .sl (eI .i64 (((out_ ++ [q.1.base]) ++ [v3]) ++ [v4])) })]]) (cs' := []) (ps := [(decide (v < (ss.length : Int))) = true,
                nthPV (eI .i64 ss) v = some [(.lit (.int .i64 x_))],
                CallK Try.prog false 32 [(.lit (.int .i64 x_))] [.cells 87 [(.lit (.int .i64 0)), (.lit (.int .i64 774)), (.lit (.int .i64 770)), (.lit (.int .i64 795))], .cells 84 [(.lit (.int .i64 0)), (.lit (.int .i64 768)), (.lit (.int .i64 769)), (.lit (.int .i64 777)), (.lit (.int .i64 771)), (.lit (.int .i64 803))]] (.tup [(.agg [(.lit (.int .i64 q.1.base)), (.lit (.complex .f64 q.1.sign.1 q.1.sign.2))]), (.lit (.bool q.2))]) [.cells 87 [(.lit (.int .i64 0)), (.lit (.int .i64 774)), (.lit (.int .i64 770)), (.lit (.int .i64 795))], .cells 84 [(.lit (.int .i64 0)), (.lit (.int .i64 768)), (.lit (.int .i64 769)), (.lit (.int .i64 777)), (.lit (.int .i64 771)), (.lit (.int .i64 803))]],
                ([.cells 87 [(.lit (.int .i64 0)), (.lit (.int .i64 774)), (.lit (.int .i64 770)), (.lit (.int .i64 795))], .cells 84 [(.lit (.int .i64 0)), (.lit (.int .i64 768)), (.lit (.int .i64 769)), (.lit (.int .i64 777)), (.lit (.int .i64 771)), (.lit (.int .i64 803))], .cells 38 [(.lit (.int .i64 q.1.base)), (.lit (.complex .f64 q.1.sign.1 q.1.sign.2))]] : List Bx) = [.cells 87 [(.lit (.int .i64 0)), (.lit (.int .i64 774)), (.lit (.int .i64 770)), (.lit (.int .i64 795))], .cells 84 [(.lit (.int .i64 0)), (.lit (.int .i64 768)), (.lit (.int .i64 769)), (.lit (.int .i64 777)), (.lit (.int .i64 771)), (.lit (.int .i64 803))], .cells 38 [(.lit (.int .i64 q.1.base)), (.lit (.complex .f64 q.1.sign.1 q.1.sign.2))]],
                ([.cells 87 [(.lit (.int .i64 0)), (.lit (.int .i64 774)), (.lit (.int .i64 770)), (.lit (.int .i64 795))], .cells 84 [(.lit (.int .i64 0)), (.lit (.int .i64 768)), (.lit (.int .i64 769)), (.lit (.int .i64 777)), (.lit (.int .i64 771)), (.lit (.int .i64 803))], .cells 38 [(.lit (.int .i64 q.1.base)), (.lit (.complex .f64 q.1.sign.1 q.1.sign.2))]] : List Bx) = [.cells 87 [(.lit (.int .i64 0)), (.lit (.int .i64 774)), (.lit (.int .i64 770)), (.lit (.int .i64 795))], .cells 84 [(.lit (.int .i64 0)), (.lit (.int .i64 768)), (.lit (.int .i64 769)), (.lit (.int .i64 777)), (.lit (.int .i64 771)), (.lit (.int .i64 803))], .cells 38 [(.lit (.int .i64 q.1.base)), (.lit (.complex .f64 q.1.sign.1 q.1.sign.2))]],
                ([.cells 87 [(.lit (.int .i64 0)), (.lit (.int .i64 774)), (.lit (.int .i64 770)), (.lit (.int .i64 795))], .cells 84 [(.lit (.int .i64 0)), (.lit (.int .i64 768)), (.lit (.int .i64 769)), (.lit (.int .i64 777)), (.lit (.int .i64 771)), (.lit (.int .i64 803))], .cells 38 [(.lit (.int .i64 q.1.base)), (.lit (.complex .f64 q.1.sign.1 q.1.sign.2))]] : List Bx) = [.cells 87 [(.lit (.int .i64 0)), (.lit (.int .i64 774)), (.lit (.int .i64 770)), (.lit (.int .i64 795))], .cells 84 [(.lit (.int .i64 0)), (.lit (.int .i64 768)), (.lit (.int .i64 769)), (.lit (.int .i64 777)), (.lit (.int .i64 771)), (.lit (.int .i64 803))], .cells 38 [(.lit (.int .i64 q.1.base)), (.lit (.complex .f64 q.1.sign.1 q.1.sign.2))]],
                det Try.prog (builtin .real #[36] 47 [false].toArray [(.complex .f64 q.1.sign.1 q.1.sign.2)].toArray) = some (.value (.float .f64 q.1.sign.1)),
                ([.cells 87 [(.lit (.int .i64 0)), (.lit (.int .i64 774)), (.lit (.int .i64 770)), (.lit (.int .i64 795))], .cells 84 [(.lit (.int .i64 0)), (.lit (.int .i64 768)), (.lit (.int .i64 769)), (.lit (.int .i64 777)), (.lit (.int .i64 771)), (.lit (.int .i64 803))], .cells 38 [(.lit (.int .i64 q.1.base)), (.lit (.complex .f64 q.1.sign.1 q.1.sign.2))]] : List Bx) = [.cells 87 [(.lit (.int .i64 0)), (.lit (.int .i64 774)), (.lit (.int .i64 770)), (.lit (.int .i64 795))], .cells 84 [(.lit (.int .i64 0)), (.lit (.int .i64 768)), (.lit (.int .i64 769)), (.lit (.int .i64 777)), (.lit (.int .i64 771)), (.lit (.int .i64 803))], .cells 38 [(.lit (.int .i64 q.1.base)), (.lit (.complex .f64 q.1.sign.1 q.1.sign.2))]],
                det Try.prog (convert 47 3 (.float .f64 q.1.sign.1)) = some (.int .i64 v1),
                ([.cells 87 [(.lit (.int .i64 0)), (.lit (.int .i64 774)), (.lit (.int .i64 770)), (.lit (.int .i64 795))], .cells 84 [(.lit (.int .i64 0)), (.lit (.int .i64 768)), (.lit (.int .i64 769)), (.lit (.int .i64 777)), (.lit (.int .i64 771)), (.lit (.int .i64 803))], .cells 38 [(.lit (.int .i64 q.1.base)), (.lit (.complex .f64 q.1.sign.1 q.1.sign.2))]] : List Bx) = [.cells 87 [(.lit (.int .i64 0)), (.lit (.int .i64 774)), (.lit (.int .i64 770)), (.lit (.int .i64 795))], .cells 84 [(.lit (.int .i64 0)), (.lit (.int .i64 768)), (.lit (.int .i64 769)), (.lit (.int .i64 777)), (.lit (.int .i64 771)), (.lit (.int .i64 803))], .cells 38 [(.lit (.int .i64 q.1.base)), (.lit (.complex .f64 q.1.sign.1 q.1.sign.2))]],
                ([.cells 87 [(.lit (.int .i64 0)), (.lit (.int .i64 774)), (.lit (.int .i64 770)), (.lit (.int .i64 795))], .cells 84 [(.lit (.int .i64 0)), (.lit (.int .i64 768)), (.lit (.int .i64 769)), (.lit (.int .i64 777)), (.lit (.int .i64 771)), (.lit (.int .i64 803))], .cells 38 [(.lit (.int .i64 q.1.base)), (.lit (.complex .f64 q.1.sign.1 q.1.sign.2))]] : List Bx) = [.cells 87 [(.lit (.int .i64 0)), (.lit (.int .i64 774)), (.lit (.int .i64 770)), (.lit (.int .i64 795))], .cells 84 [(.lit (.int .i64 0)), (.lit (.int .i64 768)), (.lit (.int .i64 769)), (.lit (.int .i64 777)), (.lit (.int .i64 771)), (.lit (.int .i64 803))], .cells 38 [(.lit (.int .i64 q.1.base)), (.lit (.complex .f64 q.1.sign.1 q.1.sign.2))]],
                ([.cells 87 [(.lit (.int .i64 0)), (.lit (.int .i64 774)), (.lit (.int .i64 770)), (.lit (.int .i64 795))], .cells 84 [(.lit (.int .i64 0)), (.lit (.int .i64 768)), (.lit (.int .i64 769)), (.lit (.int .i64 777)), (.lit (.int .i64 771)), (.lit (.int .i64 803))], .cells 38 [(.lit (.int .i64 q.1.base)), (.lit (.complex .f64 q.1.sign.1 q.1.sign.2))]] : List Bx) = [.cells 87 [(.lit (.int .i64 0)), (.lit (.int .i64 774)), (.lit (.int .i64 770)), (.lit (.int .i64 795))], .cells 84 [(.lit (.int .i64 0)), (.lit (.int .i64 768)), (.lit (.int .i64 769)), (.lit (.int .i64 777)), (.lit (.int .i64 771)), (.lit (.int .i64 803))], .cells 38 [(.lit (.int .i64 q.1.base)), (.lit (.complex .f64 q.1.sign.1 q.1.sign.2))]],
                det Try.prog (builtin .imag #[36] 47 [false].toArray [(.complex .f64 q.1.sign.1 q.1.sign.2)].toArray) = some (.value (.float .f64 q.1.sign.2)),
                ([.cells 87 [(.lit (.int .i64 0)), (.lit (.int .i64 774)), (.lit (.int .i64 770)), (.lit (.int .i64 795))], .cells 84 [(.lit (.int .i64 0)), (.lit (.int .i64 768)), (.lit (.int .i64 769)), (.lit (.int .i64 777)), (.lit (.int .i64 771)), (.lit (.int .i64 803))], .cells 38 [(.lit (.int .i64 q.1.base)), (.lit (.complex .f64 q.1.sign.1 q.1.sign.2))]] : List Bx) = [.cells 87 [(.lit (.int .i64 0)), (.lit (.int .i64 774)), (.lit (.int .i64 770)), (.lit (.int .i64 795))], .cells 84 [(.lit (.int .i64 0)), (.lit (.int .i64 768)), (.lit (.int .i64 769)), (.lit (.int .i64 777)), (.lit (.int .i64 771)), (.lit (.int .i64 803))], .cells 38 [(.lit (.int .i64 q.1.base)), (.lit (.complex .f64 q.1.sign.1 q.1.sign.2))]],
                det Try.prog (convert 47 3 (.float .f64 q.1.sign.2)) = some (.int .i64 v2),
                ([.cells 87 [(.lit (.int .i64 0)), (.lit (.int .i64 774)), (.lit (.int .i64 770)), (.lit (.int .i64 795))], .cells 84 [(.lit (.int .i64 0)), (.lit (.int .i64 768)), (.lit (.int .i64 769)), (.lit (.int .i64 777)), (.lit (.int .i64 771)), (.lit (.int .i64 803))], .cells 38 [(.lit (.int .i64 q.1.base)), (.lit (.complex .f64 q.1.sign.1 q.1.sign.2))]] : List Bx) = [.cells 87 [(.lit (.int .i64 0)), (.lit (.int .i64 774)), (.lit (.int .i64 770)), (.lit (.int .i64 795))], .cells 84 [(.lit (.int .i64 0)), (.lit (.int .i64 768)), (.lit (.int .i64 769)), (.lit (.int .i64 777)), (.lit (.int .i64 771)), (.lit (.int .i64 803))], .cells 38 [(.lit (.int .i64 q.1.base)), (.lit (.complex .f64 q.1.sign.1 q.1.sign.2))]],
                ([.cells 87 [(.lit (.int .i64 0)), (.lit (.int .i64 774)), (.lit (.int .i64 770)), (.lit (.int .i64 795))], .cells 84 [(.lit (.int .i64 0)), (.lit (.int .i64 768)), (.lit (.int .i64 769)), (.lit (.int .i64 777)), (.lit (.int .i64 771)), (.lit (.int .i64 803))], .cells 38 [(.lit (.int .i64 q.1.base)), (.lit (.complex .f64 q.1.sign.1 q.1.sign.2))]] : List Bx) = [.cells 87 [(.lit (.int .i64 0)), (.lit (.int .i64 774)), (.lit (.int .i64 770)), (.lit (.int .i64 795))], .cells 84 [(.lit (.int .i64 0)), (.lit (.int .i64 768)), (.lit (.int .i64 769)), (.lit (.int .i64 777)), (.lit (.int .i64 771)), (.lit (.int .i64 803))], .cells 38 [(.lit (.int .i64 q.1.base)), (.lit (.complex .f64 q.1.sign.1 q.1.sign.2))]],
                (!q.2) = false,
                (!q.2) = false,
                (!q.2) = false,
                (v1 == 4) = false,
                (List.length (eI .i64 out_) + List.length (eI .i64 [q.1.base])) * 8 ≤ 2 ^ 46,
                (eI .i64 [q.1.base]).all (fun c => c.length = 1 && c.all PV.one) = true,
                (eI .i64 out_) ++ (eI .i64 [q.1.base]) = (eI .i64 (out_ ++ [q.1.base])),
                (decide (v1 > 0)) = true,
                0 ≤ v1 ∧ v1 < 4,
                ([(.lit (.int .i64 0)), (.lit (.int .i64 774)), (.lit (.int .i64 770)), (.lit (.int .i64 795))] : List PV)[0 + v1.toNat * 1]? = some (.lit (.int .i64 v3)),
                (List.length (eI .i64 (out_ ++ [q.1.base])) + List.length (eI .i64 [v3])) * 8 ≤ 2 ^ 46,
                (eI .i64 [v3]).all (fun c => c.length = 1 && c.all PV.one) = true,
                (eI .i64 (out_ ++ [q.1.base])) ++ (eI .i64 [v3]) = (eI .i64 ((out_ ++ [q.1.base]) ++ [v3])),
                (decide (v2 > 0)) = true,
                0 ≤ v2 ∧ v2 < 6,
                ([(.lit (.int .i64 0)), (.lit (.int .i64 768)), (.lit (.int .i64 769)), (.lit (.int .i64 777)), (.lit (.int .i64 771)), (.lit (.int .i64 803))] : List PV)[0 + v2.toNat * 1]? = some (.lit (.int .i64 v4)),
                (List.length (eI .i64 ((out_ ++ [q.1.base]) ++ [v3])) + List.length (eI .i64 [v4])) * 8 ≤ 2 ^ 46,
                (eI .i64 [v4]).all (fun c => c.length = 1 && c.all PV.one) = true,
                (eI .i64 ((out_ ++ [q.1.base]) ++ [v3])) ++ (eI .i64 [v4]) = (eI .i64 (((out_ ++ [q.1.base]) ++ [v3]) ++ [v4])),
                noRefss 2 (eI .i64 ss) = true,
                noRefss 2 (eI .i64 (((out_ ++ [q.1.base]) ++ [v3]) ++ [v4])) = true,
                noRefss 2 (eI .i64 ss) = true]) (by kernel_rfl)
              ⟨(decide_eq_true hc46), (nth_map _ h_x_), (call_viet_Split h_q _ _), rfl, rfl, rfl, rfl, rfl, (det_f2i Try.underlying47 Try.underlying3 h_v1), rfl, rfl, rfl, rfl, rfl, (det_f2i Try.underlying47 Try.underlying3 h_v2), rfl, rfl, (not_f hc47), (not_f hc47), (not_f hc47), (beq_eq_false_iff_ne.2 hc48), (len_map2 hg50), (all_map (fun _ => rfl) _), (List.map_append).symm, (decide_eq_true hc51), hg52, (box_of (pre := []) (post := []) (fun z => (.lit (.int .i64 z))) h_v3), (len_map2 hg53), (all_map (fun _ => rfl) _), (List.map_append).symm, (decide_eq_true hc54), hg55, (box_of (pre := []) (post := []) (fun z => (.lit (.int .i64 z))) h_v4), (len_map2 hg56), (all_map (fun _ => rfl) _), (List.map_append).symm, (map_noRef (fun _ => rfl) _), (map_noRef (fun _ => rfl) _), (map_noRef (fun _ => rfl) _), trivial⟩
          · injection h with h; subst h
            exact codeH_sound (C := C45) (base := 0) wf _ (cs := [.b true, .reg 6 [(0, { it := .cs [(.lit (.int .i64 x_))] })], .reg 7 [(1, { it := .res (.tup [(.agg [(.lit (.int .i64 q.1.base)), (.lit (.complex .f64 q.1.sign.1 q.1.sign.2))]), (.lit (.bool q.2))]) [.cells 87 [(.lit (.int .i64 0)), (.lit (.int .i64 774)), (.lit (.int .i64 770)), (.lit (.int .i64 795))], .cells 84 [(.lit (.int .i64 0)), (.lit (.int .i64 768)), (.lit (.int .i64 769)), (.lit (.int .i64 777)), (.lit (.int .i64 771)), (.lit (.int .i64 803))]] [] })], .dr { frz := [8], lin := [], fz := [8], steps := [⟨[8, 25], false, {}⟩, ⟨[25, 26], false, {}⟩, ⟨[26, 27], false, { it := .val (.float .f64 q.1.sign.1) }⟩, ⟨[27, 28], false, { it := .val (.int .i64 v1) }⟩, ⟨[8, 29], false, {}⟩, ⟨[29, 30], false, {}⟩, ⟨[30, 31], false, { it := .val (.float .f64 q.1.sign.2) }⟩, ⟨[31, 32], false, { it := .val (.int .i64 v2) }⟩, ⟨[10, 28], false, {}⟩, ⟨[11, 32], false, {}⟩] }, .reg 9 [(3, { w := some false }), (4, { w := some false }), (5, { it := .b false })], .b false, .reg 11 [(4, { it := .sl (eI .i64 (out_ ++ [q.1.base])) })], .b true, .reg 13 [(2, { it := .b true }), (3, { it := .pv (.lit (.int .i64 v3)) }), (5, { it := .sl (eI .i64 ((out_ ++ [q.1.base]) ++ [v3])) })], .b false]) (cs' := []) (ps := [(decide (v < (ss.length : Int))) = true,
                nthPV (eI .i64 ss) v = some [(.lit (.int .i64 x_))],
                CallK Try.prog false 32 [(.lit (.int .i64 x_))] [.cells 87 [(.lit (.int .i64 0)), (.lit (.int .i64 774)), (.lit (.int .i64 770)), (.lit (.int .i64 795))], .cells 84 [(.lit (.int .i64 0)), (.lit (.int .i64 768)), (.lit (.int .i64 769)), (.lit (.int .i64 777)), (.lit (.int .i64 771)), (.lit (.int .i64 803))]] (.tup [(.agg [(.lit (.int .i64 q.1.base)), (.lit (.complex .f64 q.1.sign.1 q.1.sign.2))]), (.lit (.bool q.2))]) [.cells 87 [(.lit (.int .i64 0)), (.lit (.int .i64 774)), (.lit (.int .i64 770)), (.lit (.int .i64 795))], .cells 84 [(.lit (.int .i64 0)), (.lit (.int .i64 768)), (.lit (.int .i64 769)), (.lit (.int .i64 777)), (.lit (.int .i64 771)), (.lit (.int .i64 803))]],
                ([.cells 87 [(.lit (.int .i64 0)), (.lit (.int .i64 774)), (.lit (.int .i64 770)), (.lit (.int .i64 795))], .cells 84 [(.lit (.int .i64 0)), (.lit (.int .i64 768)), (.lit (.int .i64 769)), (.lit (.int .i64 777)), (.lit (.int .i64 771)), (.lit (.int .i64 803))], .cells 38 [(.lit (.int .i64 q.1.base)), (.lit (.complex .f64 q.1.sign.1 q.1.sign.2))]] : List Bx) = [.cells 87 [(.lit (.int .i64 0)), (.lit (.int .i64 774)), (.lit (.int .i64 770)), (.lit (.int .i64 795))], .cells 84 [(.lit (.int .i64 0)), (.lit (.int .i64 768)), (.lit (.int .i64 769)), (.lit (.int .i64 777)), (.lit (.int .i64 771)), (.lit (.int .i64 803))], .cells 38 [(.lit (.int .i64 q.1.base)), (.lit (.complex .f64 q.1.sign.1 q.1.sign.2))]],
                ([.cells 87 [(.lit (.int .i64 0)), (.lit (.int .i64 774)), (.lit (.int .i64 770)), (.lit (.int .i64 795))], .cells 84 [(.lit (.int .i64 0)), (.lit (.int .i64 768)), (.lit (.int .i64 769)), (.lit (.int .i64 777)), (.lit (.int .i64 771)), (.lit (.int .i64 803))], .cells 38 [(.lit (.int .i64 q.1.base)), (.lit (.complex .f64 q.1.sign.1 q.1.sign.2))]] : List Bx) = [.cells 87 [(.lit (.int .i64 0)), (.lit (.int .i64 774)), (.lit (.int .i64 770)), (.lit (.int .i64 795))], .cells 84 [(.lit (.int .i64 0)), (.lit (.int .i64 768)), (.lit (.int .i64 769)), (.lit (.int .i64 777)), (.lit (.int .i64 771)), (.lit (.int .i64 803))], .cells 38 [(.lit (.int .i64 q.1.base)), (.lit (.complex .f64 q.1.sign.1 q.1.sign.2))]],
                ([.cells 87 [(.lit (.int .i64 0)), (.lit (.int .i64 774)), (.lit (.int .i64 770)), (.lit (.int .i64 795))], .cells 84 [(.lit (.int .i64 0)), (.lit (.int .i64 768)), (.lit (.int .i64 769)), (.lit (.int .i64 777)), (.lit (.int .i64 771)), (.lit (.int .i64 803))], .cells 38 [(.lit (.int .i64 q.1.base)), (.lit (.complex .f64 q.1.sign.1 q.1.sign.2))]] : List Bx) = [.cells 87 [(.lit (.int .i64 0)), (.lit (.int .i64 774)), (.lit (.int .i64 770)), (.lit (.int .i64 795))], .cells 84 [(.lit (.int .i64 0)), (.lit (.int .i64 768)), (.lit (.int .i64 769)), (.lit (.int .i64 777)), (.lit (.int .i64 771)), (.lit (.int .i64 803))], .cells 38 [(.lit (.int .i64 q.1.base)), (.lit (.complex .f64 q.1.sign.1 q.1.sign.2))]],
                det Try.prog (builtin .real #[36] 47 [false].toArray [(.complex .f64 q.1.sign.1 q.1.sign.2)].toArray) = some (.value (.float .f64 q.1.sign.1)),
                ([.cells 87 [(.lit (.int .i64 0)), (.lit (.int .i64 774)), (.lit (.int .i64 770)), (.lit (.int .i64 795))], .cells 84 [(.lit (.int .i64 0)), (.lit (.int .i64 768)), (.lit (.int .i64 769)), (.lit (.int .i64 777)), (.lit (.int .i64 771)), (.lit (.int .i64 803))], .cells 38 [(.lit (.int .i64 q.1.base)), (.lit (.complex .f64 q.1.sign.1 q.1.sign.2))]] : List Bx) = [.cells 87 [(.lit (.int .i64 0)), (.lit (.int .i64 774)), (.lit (.int .i64 770)), (.lit (.int .i64 795))], .cells 84 [(.lit (.int .i64 0)), (.lit (.int .i64 768)), (.lit (.int .i64 769)), (.lit (.int .i64 777)), (.lit (.int .i64 771)), (.lit (.int .i64 803))], .cells 38 [(.lit (.int .i64 q.1.base)), (.lit (.complex .f64 q.1.sign.1 q.1.sign.2))]],
                det Try.prog (convert 47 3 (.float .f64 q.1.sign.1)) = some (.int .i64 v1),
                ([.cells 87 [(.lit (.int .i64 0)), (.lit (.int .i64 774)), (.lit (.int .i64 770)), (.lit (.int .i64 795))], .cells 84 [(.lit (.int .i64 0)), (.lit (.int .i64 768)), (.lit (.int .i64 769)), (.lit (.int .i64 777)), (.lit (.int .i64 771)), (.lit (.int .i64 803))], .cells 38 [(.lit (.int .i64 q.1.base)), (.lit (.complex .f64 q.1.sign.1 q.1.sign.2))]] : List Bx) = [.cells 87 [(.lit (.int .i64 0)), (.lit (.int .i64 774)), (.lit (.int .i64 770)), (.lit (.int .i64 795))], .cells 84 [(.lit (.int .i64 0)), (.lit (.int .i64 768)), (.lit (.int .i64 769)), (.lit (.int .i64 777)), (.lit (.int .i64 771)), (.lit (.int .i64 803))], .cells 38 [(.lit (.int .i64 q.1.base)), (.lit (.complex .f64 q.1.sign.1 q.1.sign.2))]],
                ([.cells 87 [(.lit (.int .i64 0)), (.lit (.int .i64 774)), (.lit (.int .i64 770)), (.lit (.int .i64 795))], .cells 84 [(.lit (.int .i64 0)), (.lit (.int .i64 768)), (.lit (.int .i64 769)), (.lit (.int .i64 777)), (.lit (.int .i64 771)), (.lit (.int .i64 803))], .cells 38 [(.lit (.int .i64 q.1.base)), (.lit (.complex .f64 q.1.sign.1 q.1.sign.2))]] : List Bx) = [.cells 87 [(.lit (.int .i64 0)), (.lit (.int .i64 774)), (.lit (.int .i64 770)), (.lit (.int .i64 795))], .cells 84 [(.lit (.int .i64 0)), (.lit (.int .i64 768)), (.lit (.int .i64 769)), (.lit (.int .i64 777)), (.lit (.int .i64 771)), (.lit (.int .i64 803))], .cells 38 [(.lit (.int .i64 q.1.base)), (.lit (.complex .f64 q.1.sign.1 q.1.sign.2))]],
                ([.cells 87 [(.lit (.int .i64 0)), (.lit (.int .i64 774)), (.lit (.int .i64 770)), (.lit (.int .i64 795))], .cells 84 [(.lit (.int .i64 0)), (.lit (.int .i64 768)), (.lit (.int .i64 769)), (.lit (.int .i64 777)), (.lit (.int .i64 771)), (.lit (.int .i64 803))], .cells 38 [(.lit (.int .i64 q.1.base)), (.lit (.complex .f64 q.1.sign.1 q.1.sign.2))]] : List Bx) = [.cells 87 [(.lit (.int .i64 0)), (.lit (.int .i64 774)), (.lit (.int .i64 770)), (.lit (.int .i64 795))], .cells 84 [(.lit (.int .i64 0)), (.lit (.int .i64 768)), (.lit (.int .i64 769)), (.lit (.int .i64 777)), (.lit (.int .i64 771)), (.lit (.int .i64 803))], .cells 38 [(.lit (.int .i64 q.1.base)), (.lit (.complex .f64 q.1.sign.1 q.1.sign.2))]],
                det Try.prog (builtin .imag #[36] 47 [false].toArray [(.complex .f64 q.1.sign.1 q.1.sign.2)].toArray) = some (.value (.float .f64 q.1.sign.2)),
                ([.cells 87 [(.lit (.int .i64 0)), (.lit (.int .i64 774)), (.lit (.int .i64 770)), (.lit (.int .i64 795))], .cells 84 [(.lit (.int .i64 0)), (.lit (.int .i64 768)), (.lit (.int .i64 769)), (.lit (.int .i64 777)), (.lit (.int .i64 771)), (.lit (.int .i64 803))], .cells 38 [(.lit (.int .i64 q.1.base)), (.lit (.complex .f64 q.1.sign.1 q.1.sign.2))]] : List Bx) = [.cells 87 [(.lit (.int .i64 0)), (.lit (.int .i64 774)), (.lit (.int .i64 770)), (.lit (.int .i64 795))], .cells 84 [(.lit (.int .i64 0)), (.lit (.int .i64 768)), (.lit (.int .i64 769)), (.lit (.int .i64 777)), (.lit (.int .i64 771)), (.lit (.int .i64 803))], .cells 38 [(.lit (.int .i64 q.1.base)), (.lit (.complex .f64 q.1.sign.1 q.1.sign.2))]],
                det Try.prog (convert 47 3 (.float .f64 q.1.sign.2)) = some (.int .i64 v2),
                ([.cells 87 [(.lit (.int .i64 0)), (.lit (.int .i64 774)), (.lit (.int .i64 770)), (.lit (.int .i64 795))], .cells 84 [(.lit (.int .i64 0)), (.lit (.int .i64 768)), (.lit (.int .i64 769)), (.lit (.int .i64 777)), (.lit (.int .i64 771)), (.lit (.int .i64 803))], .cells 38 [(.lit (.int .i64 q.1.base)), (.lit (.complex .f64 q.1.sign.1 q.1.sign.2))]] : List Bx) = [.cells 87 [(.lit (.int .i64 0)), (.lit (.int .i64 774)), (.lit (.int .i64 770)), (.lit (.int .i64 795))], .cells 84 [(.lit (.int .i64 0)), (.lit (.int .i64 768)), (.lit (.int .i64 769)), (.lit (.int .i64 777)), (.lit (.int .i64 771)), (.lit (.int .i64 803))], .cells 38 [(.lit (.int .i64 q.1.base)), (.lit (.complex .f64 q.1.sign.1 q.1.sign.2))]],
                ([.cells 87 [(.lit (.int .i64 0)), (.lit (.int .i64 774)), (.lit (.int .i64 770)), (.lit (.int .i64 795))], .cells 84 [(.lit (.int .i64 0)), (.lit (.int .i64 768)), (.lit (.int .i64 769)), (.lit (.int .i64 777)), (.lit (.int .i64 771)), (.lit (.int .i64 803))], .cells 38 [(.lit (.int .i64 q.1.base)), (.lit (.complex .f64 q.1.sign.1 q.1.sign.2))]] : List Bx) = [.cells 87 [(.lit (.int .i64 0)), (.lit (.int .i64 774)), (.lit (.int .i64 770)), (.lit (.int .i64 795))], .cells 84 [(.lit (.int .i64 0)), (.lit (.int .i64 768)), (.lit (.int .i64 769)), (.lit (.int .i64 777)), (.lit (.int .i64 771)), (.lit (.int .i64 803))], .cells 38 [(.lit (.int .i64 q.1.base)), (.lit (.complex .f64 q.1.sign.1 q.1.sign.2))]],
                (!q.2) = false,
                (!q.2) = false,
                (!q.2) = false,
                (v1 == 4) = false,
                (List.length (eI .i64 out_) + List.length (eI .i64 [q.1.base])) * 8 ≤ 2 ^ 46,
                (eI .i64 [q.1.base]).all (fun c => c.length = 1 && c.all PV.one) = true,
                (eI .i64 out_) ++ (eI .i64 [q.1.base]) = (eI .i64 (out_ ++ [q.1.base])),
                (decide (v1 > 0)) = true,
                0 ≤ v1 ∧ v1 < 4,
                ([(.lit (.int .i64 0)), (.lit (.int .i64 774)), (.lit (.int .i64 770)), (.lit (.int .i64 795))] : List PV)[0 + v1.toNat * 1]? = some (.lit (.int .i64 v3)),
                (List.length (eI .i64 (out_ ++ [q.1.base])) + List.length (eI .i64 [v3])) * 8 ≤ 2 ^ 46,
                (eI .i64 [v3]).all (fun c => c.length = 1 && c.all PV.one) = true,
                (eI .i64 (out_ ++ [q.1.base])) ++ (eI .i64 [v3]) = (eI .i64 ((out_ ++ [q.1.base]) ++ [v3])),
                (decide (v2 > 0)) = false,
                noRefss 2 (eI .i64 ss) = true,
                noRefss 2 (eI .i64 ((out_ ++ [q.1.base]) ++ [v3])) = true,
                noRefss 2 (eI .i64 ss) = true]) (by kernel_rfl)
              ⟨(decide_eq_true hc46), (nth_map _ h_x_), (call_viet_Split h_q _ _), rfl, rfl, rfl, rfl, rfl, (det_f2i Try.underlying47 Try.underlying3 h_v1), rfl, rfl, rfl, rfl, rfl, (det_f2i Try.underlying47 Try.underlying3 h_v2), rfl, rfl, (not_f hc47), (not_f hc47), (not_f hc47), (beq_eq_false_iff_ne.2 hc48), (len_map2 hg50), (all_map (fun _ => rfl) _), (List.map_append).symm, (decide_eq_true hc51), hg52, (box_of (pre := []) (post := []) (fun z => (.lit (.int .i64 z))) h_v3), (len_map2 hg53), (all_map (fun _ => rfl) _), (List.map_append).symm, (decide_eq_false hc54), (map_noRef (fun _ => rfl) _), (map_noRef (fun _ => rfl) _), (map_noRef (fun _ => rfl) _), trivial⟩
        · rcases ite_some h with ⟨hc57, h⟩ | ⟨hc57, h⟩
          · obtain ⟨hg58, h⟩ := guardO_some h
            obtain ⟨v3, h_v3, h⟩ := Option.bind_eq_some_iff.1 h
            obtain ⟨hg59, h⟩ := guardO_some h
            injection h with h; subst h
            exact codeH_sound (C := C45) (base := 0) wf _ (cs := [.b true, .reg 6 [(0, { it := .cs [(.lit (.int .i64 x_))] })], .reg 7 [(1, { it := .res (.tup [(.agg [(.lit (.int .i64 q.1.base)), (.lit (.complex .f64 q.1.sign.1 q.1.sign.2))]), (.lit (.bool q.2))]) [.cells 87 [(.lit (.int .i64 0)), (.lit (.int .i64 774)), (.lit (.int .i64 770)), (.lit (.int .i64 795))], .cells 84 [(.lit (.int .i64 0)), (.lit (.int .i64 768)), (.lit (.int .i64 769)), (.lit (.int .i64 777)), (.lit (.int .i64 771)), (.lit (.int .i64 803))]] [] })], .dr { frz := [8], lin := [], fz := [8], steps := [⟨[8, 25], false, {}⟩, ⟨[25, 26], false, {}⟩, ⟨[26, 27], false, { it := .val (.float .f64 q.1.sign.1) }⟩, ⟨[27, 28], false, { it := .val (.int .i64 v1) }⟩, ⟨[8, 29], false, {}⟩, ⟨[29, 30], false, {}⟩, ⟨[30, 31], false, { it := .val (.float .f64 q.1.sign.2) }⟩, ⟨[31, 32], false, { it := .val (.int .i64 v2) }⟩, ⟨[10, 28], false, {}⟩, ⟨[11, 32], false, {}⟩] }, .reg 9 [(3, { w := some false }), (4, { w := some false }), (5, { it := .b false })], .b false, .reg 11 [(4, { it := .sl (eI .i64 (out_ ++ [q.1.base])) })], .b false, .b true, .reg 15 [(2, { it := .b true }), (3, { it := .pv (.lit (.int .i64 v3)) }), (5, { it := .sl (eI .i64 ((out_ ++ [q.1.base]) ++ [v3])) })]]) (cs' := []) (ps := [(decide (v < (ss.length : Int))) = true,
                nthPV (eI .i64 ss) v = some [(.lit (.int .i64 x_))],
                CallK Try.prog false 32 [(.lit (.int .i64 x_))] [.cells 87 [(.lit (.int .i64 0)), (.lit (.int .i64 774)), (.lit (.int .i64 770)), (.lit (.int .i64 795))], .cells 84 [(.lit (.int .i64 0)), (.lit (.int .i64 768)), (.lit (.int .i64 769)), (.lit (.int .i64 777)), (.lit (.int .i64 771)), (.lit (.int .i64 803))]] (.tup [(.agg [(.lit (.int .i64 q.1.base)), (.lit (.complex .f64 q.1.sign.1 q.1.sign.2))]), (.lit (.bool q.2))]) [.cells 87 [(.lit (.int .i64 0)), (.lit (.int .i64 774)), (.lit (.int .i64 770)), (.lit (.int .i64 795))], .cells 84 [(.lit (.int .i64 0)), (.lit (.int .i64 768)), (.lit (.int .i64 769)), (.lit (.int .i64 777)), (.lit (.int .i64 771)), (.lit (.int .i64 803))]],
                ([.cells 87 [(.lit (.int .i64 0)), (.lit (.int .i64 774)), (.lit (.int .i64 770)), (.lit (.int .i64 795))], .cells 84 [(.lit (.int .i64 0)), (.lit (.int .i64 768)), (.lit (.int .i64 769)), (.lit (.int .i64 777)), (.lit (.int .i64 771)), (.lit (.int .i64 803))], .cells 38 [(.lit (.int .i64 q.1.base)), (.lit (.complex .f64 q.1.sign.1 q.1.sign.2))]] : List Bx) = [.cells 87 [(.lit (.int .i64 0)), (.lit (.int .i64 774)), (.lit (.int .i64 770)), (.lit (.int .i64 795))], .cells 84 [(.lit (.int .i64 0)), (.lit (.int .i64 768)), (.lit (.int .i64 769)), (.lit (.int .i64 777)), (.lit (.int .i64 771)), (.lit (.int .i64 803))], .cells 38 [(.lit (.int .i64 q.1.base)), (.lit (.complex .f64 q.1.sign.1 q.1.sign.2))]],
                ([.cells 87 [(.lit (.int .i64 0)), (.lit (.int .i64 774)), (.lit (.int .i64 770)), (.lit (.int .i64 795))], .cells 84 [(.lit (.int .i64 0)), (.lit (.int .i64 768)), (.lit (.int .i64 769)), (.lit (.int .i64 777)), (.lit (.int .i64 771)), (.lit (.int .i64 803))], .cells 38 [(.lit (.int .i64 q.1.base)), (.lit (.complex .f64 q.1.sign.1 q.1.sign.2))]] : List Bx) = [.cells 87 [(.lit (.int .i64 0)), (.lit (.int .i64 774)), (.lit (.int .i64 770)), (.lit (.int .i64 795))], .cells 84 [(.lit (.int .i64 0)), (.lit (.int .i64 768)), (.lit (.int .i64 769)), (.lit (.int .i64 777)), (.lit (.int .i64 771)), (.lit (.int .i64 803))], .cells 38 [(.lit (.int .i64 q.1.base)), (.lit (.complex .f64 q.1.sign.1 q.1.sign.2))]],
                ([.cells 87 [(.lit (.int .i64 0)), (.lit (.int .i64 774)), (.lit (.int .i64 770)), (.lit (.int .i64 795))], .cells 84 [(.lit (.int .i64 0)), (.lit (.int .i64 768)), (.lit (.int .i64 769)), (.lit (.int .i64 777)), (.lit (.int .i64 771)), (.lit (.int .i64 803))], .cells 38 [(.lit (.int .i64 q.1.base)), (.lit (.complex .f64 q.1.sign.1 q.1.sign.2))]] : List Bx) = [.cells 87 [(.lit (.int .i64 0)), (.lit (.int .i64 774)), (.lit (.int .i64 770)), (.lit (.int .i64 795))], .cells 84 [(.lit (.int .i64 0)), (.lit (.int .i64 768)), (.lit (.int .i64 769)), (.lit (.int .i64 777)), (.lit (.int .i64 771)), (.lit (.int .i64 803))], .cells 38 [(.lit (.int .i64 q.1.base)), (.lit (.complex .f64 q.1.sign.1 q.1.sign.2))]],
                det Try.prog (builtin .real #[36] 47 [false].toArray [(.complex .f64 q.1.sign.1 q.1.sign.2)].toArray) = some (.value (.float .f64 q.1.sign.1)),
                ([.cells 87 [(.lit (.int .i64 0)), (.lit (.int .i64 774)), (.lit (.int .i64 770)), (.lit (.int .i64 795))], .cells 84 [(.lit (.int .i64 0)), (.lit (.int .i64 768)), (.lit (.int .i64 769)), (.lit (.int .i64 777)), (.lit (.int .i64 771)), (.lit (.int .i64 803))], .cells 38 [(.lit (.int .i64 q.1.base)), (.lit (.complex .f64 q.1.sign.1 q.1.sign.2))]] : List Bx) = [.cells 87 [(.lit (.int .i64 0)), (.lit (.int .i64 774)), (.lit (.int .i64 770)), (.lit (.int .i64 795))], .cells 84 [(.lit (.int .i64 0)), (.lit (.int .i64 768)), (.lit (.int .i64 769)), (.lit (.int .i64 777)), (.lit (.int .i64 771)), (.lit (.int .i64 803))], .cells 38 [(.lit (.int .i64 q.1.base)), (.lit (.complex .f64 q.1.sign.1 q.1.sign.2))]],
                det Try.prog (convert 47 3 (.float .f64 q.1.sign.1)) = some (.int .i64 v1),
                ([.cells 87 [(.lit (.int .i64 0)), (.lit (.int .i64 774)), (.lit (.int .i64 770)), (.lit (.int .i64 795))], .cells 84 [(.lit (.int .i64 0)), (.lit (.int .i64 768)), (.lit (.int .i64 769)), (.lit (.int .i64 777)), (.lit (.int .i64 771)), (.lit (.int .i64 803))], .cells 38 [(.lit (.int .i64 q.1.base)), (.lit (.complex .f64 q.1.sign.1 q.1.sign.2))]] : List Bx) = [.cells 87 [(.lit (.int .i64 0)), (.lit (.int .i64 774)), (.lit (.int .i64 770)), (.lit (.int .i64 795))], .cells 84 [(.lit (.int .i64 0)), (.lit (.int .i64 768)), (.lit (.int .i64 769)), (.lit (.int .i64 777)), (.lit (.int .i64 771)), (.lit (.int .i64 803))], .cells 38 [(.lit (.int .i64 q.1.base)), (.lit (.complex .f64 q.1.sign.1 q.1.sign.2))]],
                ([.cells 87 [(.lit (.int .i64 0)), (.lit (.int .i64 774)), (.lit (.int .i64 770)), (.lit (.int .i64 795))], .cells 84 [(.lit (.int .i64 0)), (.lit (.int .i64 768)), (.lit (.int .i64 769)), (.lit (.int .i64 777)), (.lit (.int .i64 771)), (.lit (.int .i64 803))], .cells 38 [(.lit (.int .i64 q.1.base)), (.lit (.complex .f64 q.1.sign.1 q.1.sign.2))]] : List Bx) = [.cells 87 [(.lit (.int .i64 0)), (.lit (.int .i64 774)), (.lit (.int .i64 770)), (.lit (.int .i64 795))], .cells 84 [(.lit (.int .i64 0)), (.lit (.int .i64 768)), (.lit (.int .i64 769)), (.lit (.int .i64 777)), (.lit (.int .i64 771)), (.lit (.int .i64 803))], .cells 38 [(.lit (.int .i64 q.1.base)), (.lit (.complex .f64 q.1.sign.1 q.1.sign.2))]],
                ([.cells 87 [(.lit (.int .i64 0)), (.lit (.int .i64 774)), (.lit (.int .i64 770)), (.lit (.int .i64 795))], .cells 84 [(.lit (.int .i64 0)), (.lit (.int .i64 768)), (.lit (.int .i64 769)), (.lit (.int .i64 777)), (.lit (.int .i64 771)), (.lit (.int .i64 803))], .cells 38 [(.lit (.int .i64 q.1.base)), (.lit (.complex .f64 q.1.sign.1 q.1.sign.2))]] : List Bx) = [.cells 87 [(.lit (.int .i64 0)), (.lit (.int .i64 774)), (.lit (.int .i64 770)), (.lit (.int .i64 795))], .cells 84 [(.lit (.int .i64 0)), (.lit (.int .i64 768)), (.lit (.int .i64 769)), (.lit (.int .i64 777)), (.lit (.int .i64 771)), (.lit (.int .i64 803))], .cells 38 [(.lit (.int .i64 q.1.base)), (.lit (.complex .f64 q.1.sign.1 q.1.sign.2))]],
                det Try.prog (builtin .imag #[36] 47 [false].toArray [(.complex .f64 q.1.sign.1 q.1.sign.2)].toArray) = some (.value (.float .f64 q.1.sign.2)),
                ([.cells 87 [(.lit (.int .i64 0)), (.lit (.int .i64 774)), (.lit (.int .i64 770)), (.lit (.int .i64 795))], .cells 84 [(.lit (.int .i64 0)), (.lit (.int .i64 768)), (.lit (.int .i64 769)), (.lit (.int .i64 777)), (.lit (.int .i64 771)), (.lit (.int .i64 803))], .cells 38 [(.lit (.int .i64 q.1.base)), (.lit (.complex .f64 q.1.sign.1 q.1.sign.2))]] : List Bx) = [.cells 87 [(.lit (.int .i64 0)), (.lit (.int .i64 774)), (.lit (.int .i64 770)), (.lit (.int .i64 795))], .cells 84 [(.lit (.int .i64 0)), (.lit (.int .i64 768)), (.lit (.int .i64 769)), (.lit (.int .i64 777)), (.lit (.int .i64 771)), (.lit (.int .i64 803))], .cells 38 [(.lit (.int .i64 q.1.base)), (.lit (.complex .f64 q.1.sign.1 q.1.sign.2))]],
                det Try.prog (convert 47 3 (.float .f64 q.1.sign.2)) = some (.int .i64 v2),
                ([.cells 87 [(.lit (.int .i64 0)), (.lit (.int .i64 774)), (.lit (.int .i64 770)), (.lit (.int .i64 795))], .cells 84 [(.lit (.int .i64 0)), (.lit (.int .i64 768)), (.lit (.int .i64 769)), (.lit (.int .i64 777)), (.lit (.int .i64 771)), (.lit (.int .i64 803))], .cells 38 [(.lit (.int .i64 q.1.base)), (.lit (.complex .f64 q.1.sign.1 q.1.sign.2))]] : List Bx) = [.cells 87 [(.lit (.int .i64 0)), (.lit (.int .i64 774)), (.lit (.int .i64 770)), (.lit (.int .i64 795))], .cells 84 [(.lit (.int .i64 0)), (.lit (.int .i64 768)), (.lit (.int .i64 769)), (.lit (.int .i64 777)), (.lit (.int .i64 771)), (.lit (.int .i64 803))], .cells 38 [(.lit (.int .i64 q.1.base)), (.lit (.complex .f64 q.1.sign.1 q.1.sign.2))]],
                ([.cells 87 [(.lit (.int .i64 0)), (.lit (.int .i64 774)), (.lit (.int .i64 770)), (.lit (.int .i64 795))], .cells 84 [(.lit (.int .i64 0)), (.lit (.int .i64 768)), (.lit (.int .i64 769)), (.lit (.int .i64 777)), (.lit (.int .i64 771)), (.lit (.int .i64 803))], .cells 38 [(.lit (.int .i64 q.1.base)), (.lit (.complex .f64 q.1.sign.1 q.1.sign.2))]] : List Bx) = [.cells 87 [(.lit (.int .i64 0)), (.lit (.int .i64 774)), (.lit (.int .i64 770)), (.lit (.int .i64 795))], .cells 84 [(.lit (.int .i64 0)), (.lit (.int .i64 768)), (.lit (.int .i64 769)), (.lit (.int .i64 777)), (.lit (.int .i64 771)), (.lit (.int .i64 803))], .cells 38 [(.lit (.int .i64 q.1.base)), (.lit (.complex .f64 q.1.sign.1 q.1.sign.2))]],
                (!q.2) = false,
                (!q.2) = false,
                (!q.2) = false,
                (v1 == 4) = false,
                (List.length (eI .i64 out_) + List.length (eI .i64 [q.1.base])) * 8 ≤ 2 ^ 46,
                (eI .i64 [q.1.base]).all (fun c => c.length = 1 && c.all PV.one) = true,
                (eI .i64 out_) ++ (eI .i64 [q.1.base]) = (eI .i64 (out_ ++ [q.1.base])),
                (decide (v1 > 0)) = false,
                (decide (v2 > 0)) = true,
                0 ≤ v2 ∧ v2 < 6,
                ([(.lit (.int .i64 0)), (.lit (.int .i64 768)), (.lit (.int .i64 769)), (.lit (.int .i64 777)), (.lit (.int .i64 771)), (.lit (.int .i64 803))] : List PV)[0 + v2.toNat * 1]? = some (.lit (.int .i64 v3)),
                (List.length (eI .i64 (out_ ++ [q.1.base])) + List.length (eI .i64 [v3])) * 8 ≤ 2 ^ 46,
                (eI .i64 [v3]).all (fun c => c.length = 1 && c.all PV.one) = true,
                (eI .i64 (out_ ++ [q.1.base])) ++ (eI .i64 [v3]) = (eI .i64 ((out_ ++ [q.1.base]) ++ [v3])),
                noRefss 2 (eI .i64 ss) = true,
                noRefss 2 (eI .i64 ((out_ ++ [q.1.base]) ++ [v3])) = true,
                noRefss 2 (eI .i64 ss) = true]) (by kernel_rfl)
              ⟨(decide_eq_true hc46), (nth_map _ h_x_), (call_viet_Split h_q _ _), rfl, rfl, rfl, rfl, rfl, (det_f2i Try.underlying47 Try.underlying3 h_v1), rfl, rfl, rfl, rfl, rfl, (det_f2i Try.underlying47 Try.underlying3 h_v2), rfl, rfl, (not_f hc47), (not_f hc47), (not_f hc47), (beq_eq_false_iff_ne.2 hc48), (len_map2 hg50), (all_map (fun _ => rfl) _), (List.map_append).symm, (decide_eq_false hc51), (decide_eq_true hc57), hg58, (box_of (pre := []) (post := []) (fun z => (.lit (.int .i64 z))) h_v3), (len_map2 hg59), (all_map (fun _ => rfl) _), (List.map_append).symm, (map_noRef (fun _ => rfl) _), (map_noRef (fun _ => rfl) _), (map_noRef (fun _ => rfl) _), trivial⟩
          · injection h with h; subst h
            exact codeH_sound (C := C45) (base := 0) wf _ (cs := [.b true, .reg 6 [(0, { it := .cs [(.lit (.int .i64 x_))] })], .reg 7 [(1, { it := .res (.tup [(.agg [(.lit (.int .i64 q.1.base)), (.lit (.complex .f64 q.1.sign.1 q.1.sign.2))]), (.lit (.bool q.2))]) [.cells 87 [(.lit (.int .i64 0)), (.lit (.int .i64 774)), (.lit (.int .i64 770)), (.lit (.int .i64 795))], .cells 84 [(.lit (.int .i64 0)), (.lit (.int .i64 768)), (.lit (.int .i64 769)), (.lit (.int .i64 777)), (.lit (.int .i64 771)), (.lit (.int .i64 803))]] [] })], .dr { frz := [8], lin := [], fz := [8], steps := [⟨[8, 25], false, {}⟩, ⟨[25, 26], false, {}⟩, ⟨[26, 27], false, { it := .val (.float .f64 q.1.sign.1) }⟩, ⟨[27, 28], false, { it := .val (.int .i64 v1) }⟩, ⟨[8, 29], false, {}⟩, ⟨[29, 30], false, {}⟩, ⟨[30, 31], false, { it := .val (.float .f64 q.1.sign.2) }⟩, ⟨[31, 32], false, { it := .val (.int .i64 v2) }⟩, ⟨[10, 28], false, {}⟩, ⟨[11, 32], false, {}⟩] }, .reg 9 [(3, { w := some false }), (4, { w := some false }), (5, { it := .b false })], .b false, .reg 11 [(4, { it := .sl (eI .i64 (out_ ++ [q.1.base])) })], .b false, .b false]) (cs' := []) (ps := [(decide (v < (ss.length : Int))) = true,
                nthPV (eI .i64 ss) v = some [(.lit (.int .i64 x_))],
                CallK Try.prog false 32 [(.lit (.int .i64 x_))] [.cells 87 [(.lit (.int .i64 0)), (.lit (.int .i64 774)), (.lit (.int .i64 770)), (.lit (.int .i64 795))], .cells 84 [(.lit (.int .i64 0)), (.lit (.int .i64 768)), (.lit (.int .i64 769)), (.lit (.int .i64 777)), (.lit (.int .i64 771)), (.lit (.int .i64 803))]] (.tup [(.agg [(.lit (.int .i64 q.1.base)), (.lit (.complex .f64 q.1.sign.1 q.1.sign.2))]), (.lit (.bool q.2))]) [.cells 87 [(.lit (.int .i64 0)), (.lit (.int .i64 774)), (.lit (.int .i64 770)), (.lit (.int .i64 795))], .cells 84 [(.lit (.int .i64 0)), (.lit (.int .i64 768)), (.lit (.int .i64 769)), (.lit (.int .i64 777)), (.lit (.int .i64 771)), (.lit (.int .i64 803))]],
                ([.cells 87 [(.lit (.int .i64 0)), (.lit (.int .i64 774)), (.lit (.int .i64 770)), (.lit (.int .i64 795))], .cells 84 [(.lit (.int .i64 0)), (.lit (.int .i64 768)), (.lit (.int .i64 769)), (.lit (.int .i64 777)), (.lit (.int .i64 771)), (.lit (.int .i64 803))], .cells 38 [(.lit (.int .i64 q.1.base)), (.lit (.complex .f64 q.1.sign.1 q.1.sign.2))]] : List Bx) = [.cells 87 [(.lit (.int .i64 0)), (.lit (.int .i64 774)), (.lit (.int .i64 770)), (.lit (.int .i64 795))], .cells 84 [(.lit (.int .i64 0)), (.lit (.int .i64 768)), (.lit (.int .i64 769)), (.lit (.int .i64 777)), (.lit (.int .i64 771)), (.lit (.int .i64 803))], .cells 38 [(.lit (.int .i64 q.1.base)), (.lit (.complex .f64 q.1.sign.1 q.1.sign.2))]],
                ([.cells 87 [(.lit (.int .i64 0)), (.lit (.int .i64 774)), (.lit (.int .i64 770)), (.lit (.int .i64 795))], .cells 84 [(.lit (.int .i64 0)), (.lit (.int .i64 768)), (.lit (.int .i64 769)), (.lit (.int .i64 777)), (.lit (.int .i64 771)), (.lit (.int .i64 803))], .cells 38 [(.lit (.int .i64 q.1.base)), (.lit (.complex .f64 q.1.sign.1 q.1.sign.2))]] : List Bx) = [.cells 87 [(.lit (.int .i64 0)), (.lit (.int .i64 774)), (.lit (.int .i64 770)), (.lit (.int .i64 795))], .cells 84 [(.lit (.int .i64 0)), (.lit (.int .i64 768)), (.lit (.int .i64 769)), (.lit (.int .i64 777)), (.lit (.int .i64 771)), (.lit (.int .i64 803))], .cells 38 [(.lit (.int .i64 q.1.base)), (.lit (.complex .f64 q.1.sign.1 q.1.sign.2))]],
                ([.cells 87 [(.lit (.int .i64 0)), (.lit (.int .i64 774)), (.lit (.int .i64 770)), (.lit (.int .i64 795))], .cells 84 [(.lit (.int .i64 0)), (.lit (.int .i64 768)), (.lit (.int .i64 769)), (.lit (.int .i64 777)), (.lit (.int .i64 771)), (.lit (.int .i64 803))], .cells 38 [(.lit (.int .i64 q.1.base)), (.lit (.complex .f64 q.1.sign.1 q.1.sign.2))]] : List Bx) = [.cells 87 [(.lit (.int .i64 0)), (.lit (.int .i64 774)), (.lit (.int .i64 770)), (.lit (.int .i64 795))], .cells 84 [(.lit (.int .i64 0)), (.lit (.int .i64 768)), (.lit (.int .i64 769)), (.lit (.int .i64 777)), (.lit (.int .i64 771)), (.lit (.int .i64 803))], .cells 38 [(.lit (.int .i64 q.1.base)), (.lit (.complex .f64 q.1.sign.1 q.1.sign.2))]],
                det Try.prog (builtin .real #[36] 47 [false].toArray [(.complex .f64 q.1.sign.1 q.1.sign.2)].toArray) = some (.value (.float .f64 q.1.sign.1)),
                ([.cells 87 [(.lit (.int .i64 0)), (.lit (.int .i64 774)), (.lit (.int .i64 770)), (.lit (.int .i64 795))], .cells 84 [(.lit (.int .i64 0)), (.lit (.int .i64 768)), (.lit (.int .i64 769)), (.lit (.int .i64 777)), (.lit (.int .i64 771)), (.lit (.int .i64 803))], .cells 38 [(.lit (.int .i64 q.1.base)), (.lit (.complex .f64 q.1.sign.1 q.1.sign.2))]] : List Bx) = [.cells 87 [(.lit (.int .i64 0)), (.lit (.int .i64 774)), (.lit (.int .i64 770)), (.lit (.int .i64 795))], .cells 84 [(.lit (.int .i64 0)), (.lit (.int .i64 768)), (.lit (.int .i64 769)), (.lit (.int .i64 777)), (.lit (.int .i64 771)), (.lit (.int .i64 803))], .cells 38 [(.lit (.int .i64 q.1.base)), (.lit (.complex .f64 q.1.sign.1 q.1.sign.2))]],
                det Try.prog (convert 47 3 (.float .f64 q.1.sign.1)) = some (.int .i64 v1),
                ([.cells 87 [(.lit (.int .i64 0)), (.lit (.int .i64 774)), (.lit (.int .i64 770)), (.lit (.int .i64 795))], .cells 84 [(.lit (.int .i64 0)), (.lit (.int .i64 768)), (.lit (.int .i64 769)), (.lit (.int .i64 777)), (.lit (.int .i64 771)), (.lit (.int .i64 803))], .cells 38 [(.lit (.int .i64 q.1.base)), (.lit (.complex .f64 q.1.sign.1 q.1.sign.2))]] : List Bx) = [.cells 87 [(.lit (.int .i64 0)), (.lit (.int .i64 774)), (.lit (.int .i64 770)), (.lit (.int .i64 795))], .cells 84 [(.lit (.int .i64 0)), (.lit (.int .i64 768)), (.lit (.int .i64 769)), (.lit (.int .i64 777)), (.lit (.int .i64 771)), (.lit (.int .i64 803))], .cells 38 [(.lit (.int .i64 q.1.base)), (.lit (.complex .f64 q.1.sign.1 q.1.sign.2))]],
                ([.cells 87 [(.lit (.int .i64 0)), (.lit (.int .i64 774)), (.lit (.int .i64 770)), (.lit (.int .i64 795))], .cells 84 [(.lit (.int .i64 0)), (.lit (.int .i64 768)), (.lit (.int .i64 769)), (.lit (.int .i64 777)), (.lit (.int .i64 771)), (.lit (.int .i64 803))], .cells 38 [(.lit (.int .i64 q.1.base)), (.lit (.complex .f64 q.1.sign.1 q.1.sign.2))]] : List Bx) = [.cells 87 [(.lit (.int .i64 0)), (.lit (.int .i64 774)), (.lit (.int .i64 770)), (.lit (.int .i64 795))], .cells 84 [(.lit (.int .i64 0)), (.lit (.int .i64 768)), (.lit (.int .i64 769)), (.lit (.int .i64 777)), (.lit (.int .i64 771)), (.lit (.int .i64 803))], .cells 38 [(.lit (.int .i64 q.1.base)), (.lit (.complex .f64 q.1.sign.1 q.1.sign.2))]],
                ([.cells 87 [(.lit (.int .i64 0)), (.lit (.int .i64 774)), (.lit (.int .i64 770)), (.lit (.int .i64 795))], .cells 84 [(.lit (.int .i64 0)), (.lit (.int .i64 768)), (.lit (.int .i64 769)), (.lit (.int .i64 777)), (.lit (.int .i64 771)), (.lit (.int .i64 803))], .cells 38 [(.lit (.int .i64 q.1.base)), (.lit (.complex .f64 q.1.sign.1 q.1.sign.2))]] : List Bx) = [.cells 87 [(.lit (.int .i64 0)), (.lit (.int .i64 774)), (.lit (.int .i64 770)), (.lit (.int .i64 795))], .cells 84 [(.lit (.int .i64 0)), (.lit (.int .i64 768)), (.lit (.int .i64 769)), (.lit (.int .i64 777)), (.lit (.int .i64 771)), (.lit (.int .i64 803))], .cells 38 [(.lit (.int .i64 q.1.base)), (.lit (.complex .f64 q.1.sign.1 q.1.sign.2))]],
                det Try.prog (builtin .imag #[36] 47 [false].toArray [(.complex .f64 q.1.sign.1 q.1.sign.2)].toArray) = some (.value (.float .f64 q.1.sign.2)),
                ([.cells 87 [(.lit (.int .i64 0)), (.lit (.int .i64 774)), (.lit (.int .i64 770)), (.lit (.int .i64 795))], .cells 84 [(.lit (.int .i64 0)), (.lit (.int .i64 768)), (.lit (.int .i64 769)), (.lit (.int .i64 777)), (.lit (.int .i64 771)), (.lit (.int .i64 803))], .cells 38 [(.lit (.int .i64 q.1.base)), (.lit (.complex .f64 q.1.sign.1 q.1.sign.2))]] : List Bx) = [.cells 87 [(.lit (.int .i64 0)), (.lit (.int .i64 774)), (.lit (.int .i64 770)), (.lit (.int .i64 795))], .cells 84 [(.lit (.int .i64 0)), (.lit (.int .i64 768)), (.lit (.int .i64 769)), (.lit (.int .i64 777)), (.lit (.int .i64 771)), (.lit (.int .i64 803))], .cells 38 [(.lit (.int .i64 q.1.base)), (.lit (.complex .f64 q.1.sign.1 q.1.sign.2))]],
                det Try.prog (convert 47 3 (.float .f64 q.1.sign.2)) = some (.int .i64 v2),
                ([.cells 87 [(.lit (.int .i64 0)), (.lit (.int .i64 774)), (.lit (.int .i64 770)), (.lit (.int .i64 795))], .cells 84 [(.lit (.int .i64 0)), (.lit (.int .i64 768)), (.lit (.int .i64 769)), (.lit (.int .i64 777)), (.lit (.int .i64 771)), (.lit (.int .i64 803))], .cells 38 [(.lit (.int .i64 q.1.base)), (.lit (.complex .f64 q.1.sign.1 q.1.sign.2))]] : List Bx) = [.cells 87 [(.lit (.int .i64 0)), (.lit (.int .i64 774)), (.lit (.int .i64 770)), (.lit (.int .i64 795))], .cells 84 [(.lit (.int .i64 0)), (.lit (.int .i64 768)), (.lit (.int .i64 769)), (.lit (.int .i64 777)), (.lit (.int .i64 771)), (.lit (.int .i64 803))], .cells 38 [(.lit (.int .i64 q.1.base)), (.lit (.complex .f64 q.1.sign.1 q.1.sign.2))]],
                ([.cells 87 [(.lit (.int .i64 0)), (.lit (.int .i64 774)), (.lit (.int .i64 770)), (.lit (.int .i64 795))], .cells 84 [(.lit (.int .i64 0)), (.lit (.int .i64 768)), (.lit (.int .i64 769)), (.lit (.int .i64 777)), (.lit (.int .i64 771)), (.lit (.int .i64 803))], .cells 38 [(.lit (.int .i64 q.1.base)), (.lit (.complex .f64 q.1.sign.1 q.1.sign.2))]] : List Bx) = [.cells 87 [(.lit (.int .i64 0)), (.lit (.int .i64 774)), (.lit (.int .i64 770)), (.lit (.int .i64 795))], .cells 84 [(.lit (.int .i64 0)), (.lit (.int .i64 768)), (.lit (.int .i64 769)), (.lit (.int .i64 777)), (.lit (.int .i64 771)), (.lit (.int .i64 803))], .cells 38 [(.lit (.int .i64 q.1.base)), (.lit (.complex .f64 q.1.sign.1 q.1.sign.2))]],
                (!q.2) = false,
                (!q.2) = false,
                (!q.2) = false,
                (v1 == 4) = false,
                (List.length (eI .i64 out_) + List.length (eI .i64 [q.1.base])) * 8 ≤ 2 ^ 46,
                (eI .i64 [q.1.base]).all (fun c => c.length = 1 && c.all PV.one) = true,
                (eI .i64 out_) ++ (eI .i64 [q.1.base]) = (eI .i64 (out_ ++ [q.1.base])),
                (decide (v1 > 0)) = false,
                (decide (v2 > 0)) = false,
                noRefss 2 (eI .i64 ss) = true,
                noRefss 2 (eI .i64 (out_ ++ [q.1.base])) = true,
                noRefss 2 (eI .i64 ss) = true]) (by kernel_rfl)
              ⟨(decide_eq_true hc46), (nth_map _ h_x_), (call_viet_Split h_q _ _), rfl, rfl, rfl, rfl, rfl, (det_f2i Try.underlying47 Try.underlying3 h_v1), rfl, rfl, rfl, rfl, rfl, (det_f2i Try.underlying47 Try.underlying3 h_v2), rfl, rfl, (not_f hc47), (not_f hc47), (not_f hc47), (beq_eq_false_iff_ne.2 hc48), (len_map2 hg50), (all_map (fun _ => rfl) _), (List.map_append).symm, (decide_eq_false hc51), (decide_eq_false hc57), (map_noRef (fun _ => rfl) _), (map_noRef (fun _ => rfl) _), (map_noRef (fun _ => rfl) _), trivial⟩
    · obtain ⟨hg60, h⟩ := guardO_some h
      injection h with h; subst h
      exact codeH_sound (C := C45) (base := 0) wf _ (cs := [.b true, .reg 6 [(0, { it := .cs [(.lit (.int .i64 x_))] })], .reg 7 [(1, { it := .res (.tup [(.agg [(.lit (.int .i64 q.1.base)), (.lit (.complex .f64 q.1.sign.1 q.1.sign.2))]), (.lit (.bool q.2))]) [.cells 87 [(.lit (.int .i64 0)), (.lit (.int .i64 774)), (.lit (.int .i64 770)), (.lit (.int .i64 795))], .cells 84 [(.lit (.int .i64 0)), (.lit (.int .i64 768)), (.lit (.int .i64 769)), (.lit (.int .i64 777)), (.lit (.int .i64 771)), (.lit (.int .i64 803))]] [] })], .dr { frz := [8], lin := [], fz := [8], steps := [⟨[8, 25], false, {}⟩, ⟨[25, 26], false, {}⟩, ⟨[26, 27], false, { it := .val (.float .f64 q.1.sign.1) }⟩, ⟨[27, 28], false, { it := .val (.int .i64 v1) }⟩, ⟨[8, 29], false, {}⟩, ⟨[29, 30], false, {}⟩, ⟨[30, 31], false, { it := .val (.float .f64 q.1.sign.2) }⟩, ⟨[31, 32], false, { it := .val (.int .i64 v2) }⟩, ⟨[10, 28], false, {}⟩, ⟨[11, 32], false, {}⟩] }, .reg 9 [(3, { w := some true }), (4, { w := some true }), (5, { it := .b true })], .b true, .reg 10 [(3, { it := .sl (eI .i64 (out_ ++ [x_])) })]]) (cs' := []) (ps := [(decide (v < (ss.length : Int))) = true,
          nthPV (eI .i64 ss) v = some [(.lit (.int .i64 x_))],
          CallK Try.prog false 32 [(.lit (.int .i64 x_))] [.cells 87 [(.lit (.int .i64 0)), (.lit (.int .i64 774)), (.lit (.int .i64 770)), (.lit (.int .i64 795))], .cells 84 [(.lit (.int .i64 0)), (.lit (.int .i64 768)), (.lit (.int .i64 769)), (.lit (.int .i64 777)), (.lit (.int .i64 771)), (.lit (.int .i64 803))]] (.tup [(.agg [(.lit (.int .i64 q.1.base)), (.lit (.complex .f64 q.1.sign.1 q.1.sign.2))]), (.lit (.bool q.2))]) [.cells 87 [(.lit (.int .i64 0)), (.lit (.int .i64 774)), (.lit (.int .i64 770)), (.lit (.int .i64 795))], .cells 84 [(.lit (.int .i64 0)), (.lit (.int .i64 768)), (.lit (.int .i64 769)), (.lit (.int .i64 777)), (.lit (.int .i64 771)), (.lit (.int .i64 803))]],
          ([.cells 87 [(.lit (.int .i64 0)), (.lit (.int .i64 774)), (.lit (.int .i64 770)), (.lit (.int .i64 795))], .cells 84 [(.lit (.int .i64 0)), (.lit (.int .i64 768)), (.lit (.int .i64 769)), (.lit (.int .i64 777)), (.lit (.int .i64 771)), (.lit (.int .i64 803))], .cells 38 [(.lit (.int .i64 q.1.base)), (.lit (.complex .f64 q.1.sign.1 q.1.sign.2))]] : List Bx) = [.cells 87 [(.lit (.int .i64 0)), (.lit (.int .i64 774)), (.lit (.int .i64 770)), (.lit (.int .i64 795))], .cells 84 [(.lit (.int .i64 0)), (.lit (.int .i64 768)), (.lit (.int .i64 769)), (.lit (.int .i64 777)), (.lit (.int .i64 771)), (.lit (.int .i64 803))], .cells 38 [(.lit (.int .i64 q.1.base)), (.lit (.complex .f64 q.1.sign.1 q.1.sign.2))]],
          ([.cells 87 [(.lit (.int .i64 0)), (.lit (.int .i64 774)), (.lit (.int .i64 770)), (.lit (.int .i64 795))], .cells 84 [(.lit (.int .i64 0)), (.lit (.int .i64 768)), (.lit (.int .i64 769)), (.lit (.int .i64 777)), (.lit (.int .i64 771)), (.lit (.int .i64 803))], .cells 38 [(.lit (.int .i64 q.1.base)), (.lit (.complex .f64 q.1.sign.1 q.1.sign.2))]] : List Bx) = [.cells 87 [(.lit (.int .i64 0)), (.lit (.int .i64 774)), (.lit (.int .i64 770)), (.lit (.int .i64 795))], .cells 84 [(.lit (.int .i64 0)), (.lit (.int .i64 768)), (.lit (.int .i64 769)), (.lit (.int .i64 777)), (.lit (.int .i64 771)), (.lit (.int .i64 803))], .cells 38 [(.lit (.int .i64 q.1.base)), (.lit (.complex .f64 q.1.sign.1 q.1.sign.2))]],
          ([.cells 87 [(.lit (.int .i64 0)), (.lit (.int .i64 774)), (.lit (.int .i64 770)), (.lit (.int .i64 795))], .cells 84 [(.lit (.int .i64 0)), (.lit (.int .i64 768)), (.lit (.int .i64 769)), (.lit (.int .i64 777)), (.lit (.int .i64 771)), (.lit (.int .i64 803))], .cells 38 [(.lit (.int .i64 q.1.base)), (.lit (.complex .f64 q.1.sign.1 q.1.sign.2))]] : List Bx) = [.cells 87 [(.lit (.int .i64 0)), (.lit (.int .i64 774)), (.lit (.int .i64 770)), (.lit (.int .i64 795))], .cells 84 [(.lit (.int .i64 0)), (.lit (.int .i64 768)), (.lit (.int .i64 769)), (.lit (.int .i64 777)), (.lit (.int .i64 771)), (.lit (.int .i64 803))], .cells 38 [(.lit (.int .i64 q.1.base)), (.lit (.complex .f64 q.1.sign.1 q.1.sign.2))]],
          det Try.prog (builtin .real #[36] 47 [false].toArray [(.complex .f64 q.1.sign.1 q.1.sign.2)].toArray) = some (.value (.float .f64 q.1.sign.1)),
          ([.cells 87 [(.lit (.int .i64 0)), (.lit (.int .i64 774)), (.lit (.int .i64 770)), (.lit (.int .i64 795))], .cells 84 [(.lit (.int .i64 0)), (.lit (.int .i64 768)), (.lit (.int .i64 769)), (.lit (.int .i64 777)), (.lit (.int .i64 771)), (.lit (.int .i64 803))], .cells 38 [(.lit (.int .i64 q.1.base)), (.lit (.complex .f64 q.1.sign.1 q.1.sign.2))]] : List Bx) = [.cells 87 [(.lit (.int .i64 0)), (.lit (.int .i64 774)), (.lit (.int .i64 770)), (.lit (.int .i64 795))], .cells 84 [(.lit (.int .i64 0)), (.lit (.int .i64 768)), (.lit (.int .i64 769)), (.lit (.int .i64 777)), (.lit (.int .i64 771)), (.lit (.int .i64 803))], .cells 38 [(.lit (.int .i64 q.1.base)), (.lit (.complex .f64 q.1.sign.1 q.1.sign.2))]],
          det Try.prog (convert 47 3 (.float .f64 q.1.sign.1)) = some (.int .i64 v1),
          ([.cells 87 [(.lit (.int .i64 0)), (.lit (.int .i64 774)), (.lit (.int .i64 770)), (.lit (.int .i64 795))], .cells 84 [(.lit (.int .i64 0)), (.lit (.int .i64 768)), (.lit (.int .i64 769)), (.lit (.int .i64 777)), (.lit (.int .i64 771)), (.lit (.int .i64 803))], .cells 38 [(.lit (.int .i64 q.1.base)), (.lit (.complex .f64 q.1.sign.1 q.1.sign.2))]] : List Bx) = [.cells 87 [(.lit (.int .i64 0)), (.lit (.int .i64 774)), (.lit (.int .i64 770)), (.lit (.int .i64 795))], .cells 84 [(.lit (.int .i64 0)), (.lit (.int .i64 768)), (.lit (.int .i64 769)), (.lit (.int .i64 777)), (.lit (.int .i64 771)), (.lit (.int .i64 803))], .cells 38 [(.lit (.int .i64 q.1.base)), (.lit (.complex .f64 q.1.sign.1 q.1.sign.2))]],
          ([.cells 87 [(.lit (.int .i64 0)), (.lit (.int .i64 774)), (.lit (.int .i64 770)), (.lit (.int .i64 795))], .cells 84 [(.lit (.int .i64 0)), (.lit (.int .i64 768)), (.lit (.int .i64 769)), (.lit (.int .i64 777)), (.lit (.int .i64 771)), (.lit (.int .i64 803))], .cells 38 [(.lit (.int .i64 q.1.base)), (.lit (.complex .f64 q.1.sign.1 q.1.sign.2))]] : List Bx) = [.cells 87 [(.lit (.int .i64 0)), (.lit (.int .i64 774)), (.lit (.int .i64 770)), (.lit (.int .i64 795))], .cells 84 [(.lit (.int .i64 0)), (.lit (.int .i64 768)), (.lit (.int .i64 769)), (.lit (.int .i64 777)), (.lit (.int .i64 771)), (.lit (.int .i64 803))], .cells 38 [(.lit (.int .i64 q.1.base)), (.lit (.complex .f64 q.1.sign.1 q.1.sign.2))]],
          ([.cells 87 [(.lit (.int .i64 0)), (.lit (.int .i64 774)), (.lit (.int .i64 770)), (.lit (.int .i64 795))], .cells 84 [(.lit (.int .i64 0)), (.lit (.int .i64 768)), (.lit (.int .i64 769)), (.lit (.int .i64 777)), (.lit (.int .i64 771)), (.lit (.int .i64 803))], .cells 38 [(.lit (.int .i64 q.1.base)), (.lit (.complex .f64 q.1.sign.1 q.1.sign.2))]] : List Bx) = [.cells 87 [(.lit (.int .i64 0)), (.lit (.int .i64 774)), (.lit (.int .i64 770)), (.lit (.int .i64 795))], .cells 84 [(.lit (.int .i64 0)), (.lit (.int .i64 768)), (.lit (.int .i64 769)), (.lit (.int .i64 777)), (.lit (.int .i64 771)), (.lit (.int .i64 803))], .cells 38 [(.lit (.int .i64 q.1.base)), (.lit (.complex .f64 q.1.sign.1 q.1.sign.2))]],
          det Try.prog (builtin .imag #[36] 47 [false].toArray [(.complex .f64 q.1.sign.1 q.1.sign.2)].toArray) = some (.value (.float .f64 q.1.sign.2)),
          ([.cells 87 [(.lit (.int .i64 0)), (.lit (.int .i64 774)), (.lit (.int .i64 770)), (.lit (.int .i64 795))], .cells 84 [(.lit (.int .i64 0)), (.lit (.int .i64 768)), (.lit (.int .i64 769)), (.lit (.int .i64 777)), (.lit (.int .i64 771)), (.lit (.int .i64 803))], .cells 38 [(.lit (.int .i64 q.1.base)), (.lit (.complex .f64 q.1.sign.1 q.1.sign.2))]] : List Bx) = [.cells 87 [(.lit (.int .i64 0)), (.lit (.int .i64 774)), (.lit (.int .i64 770)), (.lit (.int .i64 795))], .cells 84 [(.lit (.int .i64 0)), (.lit (.int .i64 768)), (.lit (.int .i64 769)), (.lit (.int .i64 777)), (.lit (.int .i64 771)), (.lit (.int .i64 803))], .cells 38 [(.lit (.int .i64 q.1.base)), (.lit (.complex .f64 q.1.sign.1 q.1.sign.2))]],
          det Try.prog (convert 47 3 (.float .f64 q.1.sign.2)) = some (.int .i64 v2),
          ([.cells 87 [(.lit (.int .i64 0)), (.lit (.int .i64 774)), (.lit (.int .i64 770)), (.lit (.int .i64 795))], .cells 84 [(.lit (.int .i64 0)), (.lit (.int .i64 768)), (.lit (.int .i64 769)), (.lit (.int .i64 777)), (.lit (.int .i64 771)), (.lit (.int .i64 803))], .cells 38 [(.lit (.int .i64 q.1.base)), (.lit (.complex .f64 q.1.sign.1 q.1.sign.2))]] : List Bx) = [.cells 87 [(.lit (.int .i64 0)), (.lit (.int .i64 774)), (.lit (.int .i64 770)), (.lit (.int .i64 795))], .cells 84 [(.lit (.int .i64 0)), (.lit (.int .i64 768)), (.lit (.int .i64 769)), (.lit (.int .i64 777)), (.lit (.int .i64 771)), (.lit (.int .i64 803))], .cells 38 [(.lit (.int .i64 q.1.base)), (.lit (.complex .f64 q.1.sign.1 q.1.sign.2))]],
          ([.cells 87 [(.lit (.int .i64 0)), (.lit (.int .i64 774)), (.lit (.int .i64 770)), (.lit (.int .i64 795))], .cells 84 [(.lit (.int .i64 0)), (.lit (.int .i64 768)), (.lit (.int .i64 769)), (.lit (.int .i64 777)), (.lit (.int .i64 771)), (.lit (.int .i64 803))], .cells 38 [(.lit (.int .i64 q.1.base)), (.lit (.complex .f64 q.1.sign.1 q.1.sign.2))]] : List Bx) = [.cells 87 [(.lit (.int .i64 0)), (.lit (.int .i64 774)), (.lit (.int .i64 770)), (.lit (.int .i64 795))], .cells 84 [(.lit (.int .i64 0)), (.lit (.int .i64 768)), (.lit (.int .i64 769)), (.lit (.int .i64 777)), (.lit (.int .i64 771)), (.lit (.int .i64 803))], .cells 38 [(.lit (.int .i64 q.1.base)), (.lit (.complex .f64 q.1.sign.1 q.1.sign.2))]],
          (!q.2) = true,
          (!q.2) = true,
          (!q.2) = true,
          true = true,
          (List.length (eI .i64 out_) + List.length (eI .i64 [x_])) * 8 ≤ 2 ^ 46,
          (eI .i64 [x_]).all (fun c => c.length = 1 && c.all PV.one) = true,
          (eI .i64 out_) ++ (eI .i64 [x_]) = (eI .i64 (out_ ++ [x_])),
          noRefss 2 (eI .i64 ss) = true,
          noRefss 2 (eI .i64 (out_ ++ [x_])) = true,
          noRefss 2 (eI .i64 ss) = true]) (by kernel_rfl)
        ⟨(decide_eq_true hc46), (nth_map _ h_x_), (call_viet_Split h_q _ _), rfl, rfl, rfl, rfl, rfl, (det_f2i Try.underlying47 Try.underlying3 h_v1), rfl, rfl, rfl, rfl, rfl, (det_f2i Try.underlying47 Try.underlying3 h_v2), rfl, rfl, (not_t (Bool.eq_false_iff.2 hc47)), (not_t (Bool.eq_false_iff.2 hc47)), (not_t (Bool.eq_false_iff.2 hc47)), rfl, (len_map2 hg60), (all_map (fun _ => rfl) _), (List.map_append).symm, (map_noRef (fun _ => rfl) _), (map_noRef (fun _ => rfl) _), (map_noRef (fun _ => rfl) _), trivial⟩
  · injection h with h; subst h
    exact codeH_sound (C := C45) (base := 0) wf _ (cs := [.b false]) (cs' := []) (ps := [(decide (v < (ss.length : Int))) = false]) (by kernel_rfl)
      ⟨(decide_eq_false hc46), trivial⟩

theorem runs_vcanon_Apart_L0 (ss : (List Int)) {nn} {vv : (List Int) × Int} {rr} (h : loopM (vcanon_Apart_L0 ss) nn vv = some rr) : RunsB Try.prog 0 (.loop (sub [1, 1, 1, 1, 0, 1, 0, 0] (fbody Try.f45))) (S_vcanon_Apart_L0 ss vv) (E_vcanon_Apart_L0 ss rr).1 (E_vcanon_Apart_L0 ss rr).2 :=
  loop_runs (by intro r; simp [E_vcanon_Apart_L0]) (body_vcanon_Apart_L0 ss) nn vv rr h

set_option maxRecDepth 100000 in
theorem knows_vcanon_Apart (ss : (List Int)) {r} (h : vcanon_Apart ss = some r) : Knows Try.prog 45 [(.sl .view false (eI .i64 ss))] (.sl (.excl 3) false (eI .i64 r)) := by
  unfold vcanon_Apart at h
  obtain ⟨l61, hr_l61, h⟩ := Option.bind_eq_some_iff.1 h
  have hl_l61 := runs_vcanon_Apart_L0 ss hr_l61
  obtain ⟨out_, v, v1⟩ := l61
  dsimp only at h
  injection h with h; subst h
  exact Knows.of (C := C45) wf Try.func45 (cs := [.reg 4 [(1, { it := .val (.int .i64 (ss.length : Int)) })], .lp (.exit 0) (X_vcanon_Apart_L0_0 ss out_ v v1)]) (args := [(.sl .view false (eI .i64 ss))]) (r := (.sl (.excl 3) false (eI .i64 out_))) (ps := [Value.int .i64 (↑(List.length (eI .i64 ss)) : Int) = .int .i64 (ss.length : Int),
      RunsB Try.prog 0 (.loop (sub [1, 1, 1, 1, 0, 1, 0, 0] (fbody Try.f45))) (S_vcanon_Apart_L0 ss ([], 0)) (.exit 0) (X_vcanon_Apart_L0_0 ss out_ v v1),
      noRefss 0 (eI .i64 out_) = true]) (by kernel_rfl)
    ⟨(len_val _ _), hl_l61, (map_noRef (fun _ => rfl) _), trivial⟩
theorem call_vcanon_Apart {ss : (List Int)} {r} (h : vcanon_Apart ss = some r) (kp : Bool) (σ : List Bx) : CallK Try.prog kp 45 [(.sl .view false (eI .i64 ss))] σ (.sl (.excl 3) false (eI .i64 r)) σ :=
  (knows_vcanon_Apart ss h).call (and_t (map_noRef (fun _ => rfl) _) rfl) rfl kp σ

def h40 : Nat → Option Hint
| 0 => some { keep := [] }
| 1 => some { keep := [1] }
| 2 => some { keep := [1, 2] }
| 3 => some { keep := [1, 2, 3] }
| 4 => some { keep := [0] }
| _ => none

noncomputable def C40 : Ctx := { P := Try.prog, mv := fun _ _ => false, res := resOf Try.f40, live := h40, call := fun _ _ _ => none }

set_option maxRecDepth 100000 in
theorem knows_lontarlaw10_awake {r} (h : lontarlaw10_awake = some r) : Knows Try.prog 40 [] (.lit (.bool r)) := by
  unfold lontarlaw10_awake at h
  obtain ⟨q, h_q, h⟩ := Option.bind_eq_some_iff.1 h
  obtain ⟨q1, h_q1, h⟩ := Option.bind_eq_some_iff.1 h
  obtain ⟨q2, h_q2, h⟩ := Option.bind_eq_some_iff.1 h
  rcases ite_some h with ⟨hc1, h⟩ | ⟨hc1, h⟩
  · obtain ⟨x_, h_x_, h⟩ := Option.bind_eq_some_iff.1 h
    rcases ite_some h with ⟨hc2, h⟩ | ⟨hc2, h⟩
    · rcases ite_some h with ⟨hc3, h⟩ | ⟨hc3, h⟩
      · rcases ite_some h with ⟨hc4, h⟩ | ⟨hc4, h⟩
        · obtain ⟨x_1, h_x_1, h⟩ := Option.bind_eq_some_iff.1 h
          rcases ite_some h with ⟨hc5, h⟩ | ⟨hc5, h⟩
          · obtain ⟨x_2, h_x_2, h⟩ := Option.bind_eq_some_iff.1 h
            rcases ite_some h with ⟨hc6, h⟩ | ⟨hc6, h⟩
            · obtain ⟨x_3, h_x_3, h⟩ := Option.bind_eq_some_iff.1 h
              rcases ite_some h with ⟨hc7, h⟩ | ⟨hc7, h⟩
              · obtain ⟨x_4, h_x_4, h⟩ := Option.bind_eq_some_iff.1 h
                injection h with h; subst h
                exact Knows.of (C := C40) wf Try.func40 (cs := [.reg 1 [(1, { it := .res (.sl (.excl 3) false (eI .i64 q)) [] [] })], .reg 2 [(1, { it := .res (.sl (.excl 3) false (eI .i64 q1)) [] [] })], .reg 3 [(1, { it := .res (.sl (.excl 3) false (eI .i64 q2)) [] [] })], .reg 4 [(1, { it := .val (.int .i64 (q.length : Int)) }), (4, { w := some true }), (5, { it := .cs [(.lit (.int .i64 x_))], w := some true }), (6, { it := .cs [(.lit (.int .i64 x_))], w := some true }), (7, { w := some true }), (8, { it := .b true }), (10, { w := some true }), (11, { it := .val (.int .i64 (q1.length : Int)), w := some true }), (12, { w := some true }), (13, { it := .b true }), (15, { w := some true }), (16, { it := .val (.int .i64 (q2.length : Int)), w := some true }), (17, { w := some true }), (18, { it := .b true }), (20, { w := some true }), (21, { it := .cs [(.lit (.int .i64 x_1))], w := some true }), (22, { it := .cs [(.lit (.int .i64 x_1))], w := some true }), (23, { w := some true }), (24, { it := .b true }), (26, { w := some true }), (27, { it := .cs [(.lit (.int .i64 x_2))], w := some true }), (28, { it := .cs [(.lit (.int .i64 x_2))], w := some true }), (29, { w := some true }), (30, { it := .b true }), (32, { w := some true }), (33, { it := .cs [(.lit (.int .i64 x_3))], w := some true }), (34, { it := .cs [(.lit (.int .i64 x_3))], w := some true }), (35, { w := some true }), (36, { it := .b true }), (38, { w := some true }), (39, { it := .cs [(.lit (.int .i64 x_4))], w := some true }), (40, { it := .cs [(.lit (.int .i64 x_4))], w := some true }), (41, { w := some true }), (42, { it := .b true })]]) (args := []) (r := (.lit (.bool (x_4 == 273)))) (ps := [CallK Try.prog false 43 [(.sl .view false (eI .i64 [101, 769, 770]))] [] (.sl (.excl 3) false (eI .i64 q)) [],
                    CallK Try.prog false 43 [(.sl .view false (eI .i64 [120, 769]))] [] (.sl (.excl 3) false (eI .i64 q1)) [],
                    CallK Try.prog false 45 [(.sl .view false (eI .i64 [7871, 273]))] [] (.sl (.excl 3) false (eI .i64 q2)) [],
                    Value.int .i64 (↑(List.length (eI .i64 q)) : Int) = .int .i64 (q.length : Int),
                    ((q.length : Int) == 1) = true,
                    ((q.length : Int) == 1) = true,
                    nthPV (eI .i64 q) 0 = some [(.lit (.int .i64 x_))],
                    ((q.length : Int) == 1) = true,
                    (eI .i64 q)[0]? = some [(.lit (.int .i64 x_))],
                    ((q.length : Int) == 1) = true,
                    ((q.length : Int) == 1) = true,
                    (x_ == 7871) = true,
                    (x_ == 7871) = true,
                    Value.int .i64 (↑(List.length (eI .i64 q1)) : Int) = .int .i64 (q1.length : Int),
                    (x_ == 7871) = true,
                    (x_ == 7871) = true,
                    ((q1.length : Int) == 2) = true,
                    ((q1.length : Int) == 2) = true,
                    Value.int .i64 (↑(List.length (eI .i64 q2)) : Int) = .int .i64 (q2.length : Int),
                    ((q1.length : Int) == 2) = true,
                    ((q1.length : Int) == 2) = true,
                    ((q2.length : Int) == 4) = true,
                    ((q2.length : Int) == 4) = true,
                    nthPV (eI .i64 q2) 0 = some [(.lit (.int .i64 x_1))],
                    ((q2.length : Int) == 4) = true,
                    (eI .i64 q2)[0]? = some [(.lit (.int .i64 x_1))],
                    ((q2.length : Int) == 4) = true,
                    ((q2.length : Int) == 4) = true,
                    (x_1 == 101) = true,
                    (x_1 == 101) = true,
                    nthPV (eI .i64 q2) 1 = some [(.lit (.int .i64 x_2))],
                    (x_1 == 101) = true,
                    (eI .i64 q2)[1]? = some [(.lit (.int .i64 x_2))],
                    (x_1 == 101) = true,
                    (x_1 == 101) = true,
                    (x_2 == 770) = true,
                    (x_2 == 770) = true,
                    nthPV (eI .i64 q2) 2 = some [(.lit (.int .i64 x_3))],
                    (x_2 == 770) = true,
                    (eI .i64 q2)[2]? = some [(.lit (.int .i64 x_3))],
                    (x_2 == 770) = true,
                    (x_2 == 770) = true,
                    (x_3 == 769) = true,
                    (x_3 == 769) = true,
                    nthPV (eI .i64 q2) 3 = some [(.lit (.int .i64 x_4))],
                    (x_3 == 769) = true,
                    (eI .i64 q2)[3]? = some [(.lit (.int .i64 x_4))],
                    (x_3 == 769) = true,
                    (x_3 == 769) = true]) (by kernel_rfl)
                  ⟨(call_vcanon_All h_q _ _), (call_vcanon_All h_q1 _ _), (call_vcanon_Apart h_q2 _ _), (len_val _ _), (beq_iff_eq.2 hc1), (beq_iff_eq.2 hc1), (nth_map _ h_x_), (beq_iff_eq.2 hc1), (nthPV_eq (nth_map _ h_x_)).2, (beq_iff_eq.2 hc1), (beq_iff_eq.2 hc1), (beq_iff_eq.2 hc2), (beq_iff_eq.2 hc2), (len_val _ _), (beq_iff_eq.2 hc2), (beq_iff_eq.2 hc2), (beq_iff_eq.2 hc3), (beq_iff_eq.2 hc3), (len_val _ _), (beq_iff_eq.2 hc3), (beq_iff_eq.2 hc3), (beq_iff_eq.2 hc4), (beq_iff_eq.2 hc4), (nth_map _ h_x_1), (beq_iff_eq.2 hc4), (nthPV_eq (nth_map _ h_x_1)).2, (beq_iff_eq.2 hc4), (beq_iff_eq.2 hc4), (beq_iff_eq.2 hc5), (beq_iff_eq.2 hc5), (nth_map _ h_x_2), (beq_iff_eq.2 hc5), (nthPV_eq (nth_map _ h_x_2)).2, (beq_iff_eq.2 hc5), (beq_iff_eq.2 hc5), (beq_iff_eq.2 hc6), (beq_iff_eq.2 hc6), (nth_map _ h_x_3), (beq_iff_eq.2 hc6), (nthPV_eq (nth_map _ h_x_3)).2, (beq_iff_eq.2 hc6), (beq_iff_eq.2 hc6), (beq_iff_eq.2 hc7), (beq_iff_eq.2 hc7), (nth_map _ h_x_4), (beq_iff_eq.2 hc7), (nthPV_eq (nth_map _ h_x_4)).2, (beq_iff_eq.2 hc7), (beq_iff_eq.2 hc7), trivial⟩
              · injection h with h; subst h
                exact Knows.of (C := C40) wf Try.func40 (cs := [.reg 1 [(1, { it := .res (.sl (.excl 3) false (eI .i64 q)) [] [] })], .reg 2 [(1, { it := .res (.sl (.excl 3) false (eI .i64 q1)) [] [] })], .reg 3 [(1, { it := .res (.sl (.excl 3) false (eI .i64 q2)) [] [] })], .reg 4 [(1, { it := .val (.int .i64 (q.length : Int)) }), (4, { w := some true }), (5, { it := .cs [(.lit (.int .i64 x_))], w := some true }), (6, { it := .cs [(.lit (.int .i64 x_))], w := some true }), (7, { w := some true }), (8, { it := .b true }), (10, { w := some true }), (11, { it := .val (.int .i64 (q1.length : Int)), w := some true }), (12, { w := some true }), (13, { it := .b true }), (15, { w := some true }), (16, { it := .val (.int .i64 (q2.length : Int)), w := some true }), (17, { w := some true }), (18, { it := .b true }), (20, { w := some true }), (21, { it := .cs [(.lit (.int .i64 x_1))], w := some true }), (22, { it := .cs [(.lit (.int .i64 x_1))], w := some true }), (23, { w := some true }), (24, { it := .b true }), (26, { w := some true }), (27, { it := .cs [(.lit (.int .i64 x_2))], w := some true }), (28, { it := .cs [(.lit (.int .i64 x_2))], w := some true }), (29, { w := some true }), (30, { it := .b true }), (32, { w := some true }), (33, { it := .cs [(.lit (.int .i64 x_3))], w := some true }), (34, { it := .cs [(.lit (.int .i64 x_3))], w := some true }), (35, { w := some true }), (36, { it := .b true }), (38, { w := some false }), (39, { w := some false }), (40, { w := some false }), (41, { w := some false }), (42, { it := .b false })]]) (args := []) (r := (.lit (.bool false))) (ps := [CallK Try.prog false 43 [(.sl .view false (eI .i64 [101, 769, 770]))] [] (.sl (.excl 3) false (eI .i64 q)) [],
                    CallK Try.prog false 43 [(.sl .view false (eI .i64 [120, 769]))] [] (.sl (.excl 3) false (eI .i64 q1)) [],
                    CallK Try.prog false 45 [(.sl .view false (eI .i64 [7871, 273]))] [] (.sl (.excl 3) false (eI .i64 q2)) [],
                    Value.int .i64 (↑(List.length (eI .i64 q)) : Int) = .int .i64 (q.length : Int),
                    ((q.length : Int) == 1) = true,
                    ((q.length : Int) == 1) = true,
                    nthPV (eI .i64 q) 0 = some [(.lit (.int .i64 x_))],
                    ((q.length : Int) == 1) = true,
                    (eI .i64 q)[0]? = some [(.lit (.int .i64 x_))],
                    ((q.length : Int) == 1) = true,
                    ((q.length : Int) == 1) = true,
                    (x_ == 7871) = true,
                    (x_ == 7871) = true,
                    Value.int .i64 (↑(List.length (eI .i64 q1)) : Int) = .int .i64 (q1.length : Int),
                    (x_ == 7871) = true,
                    (x_ == 7871) = true,
                    ((q1.length : Int) == 2) = true,
                    ((q1.length : Int) == 2) = true,
                    Value.int .i64 (↑(List.length (eI .i64 q2)) : Int) = .int .i64 (q2.length : Int),
                    ((q1.length : Int) == 2) = true,
                    ((q1.length : Int) == 2) = true,
                    ((q2.length : Int) == 4) = true,
                    ((q2.length : Int) == 4) = true,
                    nthPV (eI .i64 q2) 0 = some [(.lit (.int .i64 x_1))],
                    ((q2.length : Int) == 4) = true,
                    (eI .i64 q2)[0]? = some [(.lit (.int .i64 x_1))],
                    ((q2.length : Int) == 4) = true,
                    ((q2.length : Int) == 4) = true,
                    (x_1 == 101) = true,
                    (x_1 == 101) = true,
                    nthPV (eI .i64 q2) 1 = some [(.lit (.int .i64 x_2))],
                    (x_1 == 101) = true,
                    (eI .i64 q2)[1]? = some [(.lit (.int .i64 x_2))],
                    (x_1 == 101) = true,
                    (x_1 == 101) = true,
                    (x_2 == 770) = true,
                    (x_2 == 770) = true,
                    nthPV (eI .i64 q2) 2 = some [(.lit (.int .i64 x_3))],
                    (x_2 == 770) = true,
                    (eI .i64 q2)[2]? = some [(.lit (.int .i64 x_3))],
                    (x_2 == 770) = true,
                    (x_2 == 770) = true,
                    (x_3 == 769) = false,
                    (x_3 == 769) = false,
                    (x_3 == 769) = false,
                    (x_3 == 769) = false,
                    (x_3 == 769) = false]) (by kernel_rfl)
                  ⟨(call_vcanon_All h_q _ _), (call_vcanon_All h_q1 _ _), (call_vcanon_Apart h_q2 _ _), (len_val _ _), (beq_iff_eq.2 hc1), (beq_iff_eq.2 hc1), (nth_map _ h_x_), (beq_iff_eq.2 hc1), (nthPV_eq (nth_map _ h_x_)).2, (beq_iff_eq.2 hc1), (beq_iff_eq.2 hc1), (beq_iff_eq.2 hc2), (beq_iff_eq.2 hc2), (len_val _ _), (beq_iff_eq.2 hc2), (beq_iff_eq.2 hc2), (beq_iff_eq.2 hc3), (beq_iff_eq.2 hc3), (len_val _ _), (beq_iff_eq.2 hc3), (beq_iff_eq.2 hc3), (beq_iff_eq.2 hc4), (beq_iff_eq.2 hc4), (nth_map _ h_x_1), (beq_iff_eq.2 hc4), (nthPV_eq (nth_map _ h_x_1)).2, (beq_iff_eq.2 hc4), (beq_iff_eq.2 hc4), (beq_iff_eq.2 hc5), (beq_iff_eq.2 hc5), (nth_map _ h_x_2), (beq_iff_eq.2 hc5), (nthPV_eq (nth_map _ h_x_2)).2, (beq_iff_eq.2 hc5), (beq_iff_eq.2 hc5), (beq_iff_eq.2 hc6), (beq_iff_eq.2 hc6), (nth_map _ h_x_3), (beq_iff_eq.2 hc6), (nthPV_eq (nth_map _ h_x_3)).2, (beq_iff_eq.2 hc6), (beq_iff_eq.2 hc6), (beq_eq_false_iff_ne.2 hc7), (beq_eq_false_iff_ne.2 hc7), (beq_eq_false_iff_ne.2 hc7), (beq_eq_false_iff_ne.2 hc7), (beq_eq_false_iff_ne.2 hc7), trivial⟩
            · injection h with h; subst h
              exact Knows.of (C := C40) wf Try.func40 (cs := [.reg 1 [(1, { it := .res (.sl (.excl 3) false (eI .i64 q)) [] [] })], .reg 2 [(1, { it := .res (.sl (.excl 3) false (eI .i64 q1)) [] [] })], .reg 3 [(1, { it := .res (.sl (.excl 3) false (eI .i64 q2)) [] [] })], .reg 4 [(1, { it := .val (.int .i64 (q.length : Int)) }), (4, { w := some true }), (5, { it := .cs [(.lit (.int .i64 x_))], w := some true }), (6, { it := .cs [(.lit (.int .i64 x_))], w := some true }), (7, { w := some true }), (8, { it := .b true }), (10, { w := some true }), (11, { it := .val (.int .i64 (q1.length : Int)), w := some true }), (12, { w := some true }), (13, { it := .b true }), (15, { w := some true }), (16, { it := .val (.int .i64 (q2.length : Int)), w := some true }), (17, { w := some true }), (18, { it := .b true }), (20, { w := some true }), (21, { it := .cs [(.lit (.int .i64 x_1))], w := some true }), (22, { it := .cs [(.lit (.int .i64 x_1))], w := some true }), (23, { w := some true }), (24, { it := .b true }), (26, { w := some true }), (27, { it := .cs [(.lit (.int .i64 x_2))], w := some true }), (28, { it := .cs [(.lit (.int .i64 x_2))], w := some true }), (29, { w := some true }), (30, { it := .b true }), (32, { w := some false }), (33, { w := some false }), (34, { w := some false }), (35, { w := some false }), (36, { it := .b false }), (38, { w := some false }), (39, { w := some false }), (40, { w := some false }), (41, { w := some false }), (42, { it := .b false })]]) (args := []) (r := (.lit (.bool false))) (ps := [CallK Try.prog false 43 [(.sl .view false (eI .i64 [101, 769, 770]))] [] (.sl (.excl 3) false (eI .i64 q)) [],
                  CallK Try.prog false 43 [(.sl .view false (eI .i64 [120, 769]))] [] (.sl (.excl 3) false (eI .i64 q1)) [],
                  CallK Try.prog false 45 [(.sl .view false (eI .i64 [7871, 273]))] [] (.sl (.excl 3) false (eI .i64 q2)) [],
                  Value.int .i64 (↑(List.length (eI .i64 q)) : Int) = .int .i64 (q.length : Int),
                  ((q.length : Int) == 1) = true,
                  ((q.length : Int) == 1) = true,
                  nthPV (eI .i64 q) 0 = some [(.lit (.int .i64 x_))],
                  ((q.length : Int) == 1) = true,
                  (eI .i64 q)[0]? = some [(.lit (.int .i64 x_))],
                  ((q.length : Int) == 1) = true,
                  ((q.length : Int) == 1) = true,
                  (x_ == 7871) = true,
                  (x_ == 7871) = true,
                  Value.int .i64 (↑(List.length (eI .i64 q1)) : Int) = .int .i64 (q1.length : Int),
                  (x_ == 7871) = true,
                  (x_ == 7871) = true,
                  ((q1.length : Int) == 2) = true,
                  ((q1.length : Int) == 2) = true,
                  Value.int .i64 (↑(List.length (eI .i64 q2)) : Int) = .int .i64 (q2.length : Int),
                  ((q1.length : Int) == 2) = true,
                  ((q1.length : Int) == 2) = true,
                  ((q2.length : Int) == 4) = true,
                  ((q2.length : Int) == 4) = true,
                  nthPV (eI .i64 q2) 0 = some [(.lit (.int .i64 x_1))],
                  ((q2.length : Int) == 4) = true,
                  (eI .i64 q2)[0]? = some [(.lit (.int .i64 x_1))],
                  ((q2.length : Int) == 4) = true,
                  ((q2.length : Int) == 4) = true,
                  (x_1 == 101) = true,
                  (x_1 == 101) = true,
                  nthPV (eI .i64 q2) 1 = some [(.lit (.int .i64 x_2))],
                  (x_1 == 101) = true,
                  (eI .i64 q2)[1]? = some [(.lit (.int .i64 x_2))],
                  (x_1 == 101) = true,
                  (x_1 == 101) = true,
                  (x_2 == 770) = false,
                  (x_2 == 770) = false,
                  (x_2 == 770) = false,
                  (x_2 == 770) = false,
                  (x_2 == 770) = false,
                  false = false,
                  false = false,
                  false = false,
                  false = false,
                  false = false]) (by kernel_rfl)
                ⟨(call_vcanon_All h_q _ _), (call_vcanon_All h_q1 _ _), (call_vcanon_Apart h_q2 _ _), (len_val _ _), (beq_iff_eq.2 hc1), (beq_iff_eq.2 hc1), (nth_map _ h_x_), (beq_iff_eq.2 hc1), (nthPV_eq (nth_map _ h_x_)).2, (beq_iff_eq.2 hc1), (beq_iff_eq.2 hc1), (beq_iff_eq.2 hc2), (beq_iff_eq.2 hc2), (len_val _ _), (beq_iff_eq.2 hc2), (beq_iff_eq.2 hc2), (beq_iff_eq.2 hc3), (beq_iff_eq.2 hc3), (len_val _ _), (beq_iff_eq.2 hc3), (beq_iff_eq.2 hc3), (beq_iff_eq.2 hc4), (beq_iff_eq.2 hc4), (nth_map _ h_x_1), (beq_iff_eq.2 hc4), (nthPV_eq (nth_map _ h_x_1)).2, (beq_iff_eq.2 hc4), (beq_iff_eq.2 hc4), (beq_iff_eq.2 hc5), (beq_iff_eq.2 hc5), (nth_map _ h_x_2), (beq_iff_eq.2 hc5), (nthPV_eq (nth_map _ h_x_2)).2, (beq_iff_eq.2 hc5), (beq_iff_eq.2 hc5), (beq_eq_false_iff_ne.2 hc6), (beq_eq_false_iff_ne.2 hc6), (beq_eq_false_iff_ne.2 hc6), (beq_eq_false_iff_ne.2 hc6), (beq_eq_false_iff_ne.2 hc6), rfl, rfl, rfl, rfl, rfl, trivial⟩
          · injection h with h; subst h
            exact Knows.of (C := C40) wf Try.func40 (cs := [.reg 1 [(1, { it := .res (.sl (.excl 3) false (eI .i64 q)) [] [] })], .reg 2 [(1, { it := .res (.sl (.excl 3) false (eI .i64 q1)) [] [] })], .reg 3 [(1, { it := .res (.sl (.excl 3) false (eI .i64 q2)) [] [] })], .reg 4 [(1, { it := .val (.int .i64 (q.length : Int)) }), (4, { w := some true }), (5, { it := .cs [(.lit (.int .i64 x_))], w := some true }), (6, { it := .cs [(.lit (.int .i64 x_))], w := some true }), (7, { w := some true }), (8, { it := .b true }), (10, { w := some true }), (11, { it := .val (.int .i64 (q1.length : Int)), w := some true }), (12, { w := some true }), (13, { it := .b true }), (15, { w := some true }), (16, { it := .val (.int .i64 (q2.length : Int)), w := some true }), (17, { w := some true }), (18, { it := .b true }), (20, { w := some true }), (21, { it := .cs [(.lit (.int .i64 x_1))], w := some true }), (22, { it := .cs [(.lit (.int .i64 x_1))], w := some true }), (23, { w := some true }), (24, { it := .b true }), (26, { w := some false }), (27, { w := some false }), (28, { w := some false }), (29, { w := some false }), (30, { it := .b false }), (32, { w := some false }), (33, { w := some false }), (34, { w := some false }), (35, { w := some false }), (36, { it := .b false }), (38, { w := some false }), (39, { w := some false }), (40, { w := some false }), (41, { w := some false }), (42, { it := .b false })]]) (args := []) (r := (.lit (.bool false))) (ps := [CallK Try.prog false 43 [(.sl .view false (eI .i64 [101, 769, 770]))] [] (.sl (.excl 3) false (eI .i64 q)) [],
                CallK Try.prog false 43 [(.sl .view false (eI .i64 [120, 769]))] [] (.sl (.excl 3) false (eI .i64 q1)) [],
                CallK Try.prog false 45 [(.sl .view false (eI .i64 [7871, 273]))] [] (.sl (.excl 3) false (eI .i64 q2)) [],
                Value.int .i64 (↑(List.length (eI .i64 q)) : Int) = .int .i64 (q.length : Int),
                ((q.length : Int) == 1) = true,
                ((q.length : Int) == 1) = true,
                nthPV (eI .i64 q) 0 = some [(.lit (.int .i64 x_))],
                ((q.length : Int) == 1) = true,
                (eI .i64 q)[0]? = some [(.lit (.int .i64 x_))],
                ((q.length : Int) == 1) = true,
                ((q.length : Int) == 1) = true,
                (x_ == 7871) = true,
                (x_ == 7871) = true,
                Value.int .i64 (↑(List.length (eI .i64 q1)) : Int) = .int .i64 (q1.length : Int),
                (x_ == 7871) = true,
                (x_ == 7871) = true,
                ((q1.length : Int) == 2) = true,
                ((q1.length : Int) == 2) = true,
                Value.int .i64 (↑(List.length (eI .i64 q2)) : Int) = .int .i64 (q2.length : Int),
                ((q1.length : Int) == 2) = true,
                ((q1.length : Int) == 2) = true,
                ((q2.length : Int) == 4) = true,
                ((q2.length : Int) == 4) = true,
                nthPV (eI .i64 q2) 0 = some [(.lit (.int .i64 x_1))],
                ((q2.length : Int) == 4) = true,
                (eI .i64 q2)[0]? = some [(.lit (.int .i64 x_1))],
                ((q2.length : Int) == 4) = true,
                ((q2.length : Int) == 4) = true,
                (x_1 == 101) = false,
                (x_1 == 101) = false,
                (x_1 == 101) = false,
                (x_1 == 101) = false,
                (x_1 == 101) = false,
                false = false,
                false = false,
                false = false,
                false = false,
                false = false,
                false = false,
                false = false,
                false = false,
                false = false,
                false = false]) (by kernel_rfl)
              ⟨(call_vcanon_All h_q _ _), (call_vcanon_All h_q1 _ _), (call_vcanon_Apart h_q2 _ _), (len_val _ _), (beq_iff_eq.2 hc1), (beq_iff_eq.2 hc1), (nth_map _ h_x_), (beq_iff_eq.2 hc1), (nthPV_eq (nth_map _ h_x_)).2, (beq_iff_eq.2 hc1), (beq_iff_eq.2 hc1), (beq_iff_eq.2 hc2), (beq_iff_eq.2 hc2), (len_val _ _), (beq_iff_eq.2 hc2), (beq_iff_eq.2 hc2), (beq_iff_eq.2 hc3), (beq_iff_eq.2 hc3), (len_val _ _), (beq_iff_eq.2 hc3), (beq_iff_eq.2 hc3), (beq_iff_eq.2 hc4), (beq_iff_eq.2 hc4), (nth_map _ h_x_1), (beq_iff_eq.2 hc4), (nthPV_eq (nth_map _ h_x_1)).2, (beq_iff_eq.2 hc4), (beq_iff_eq.2 hc4), (beq_eq_false_iff_ne.2 hc5), (beq_eq_false_iff_ne.2 hc5), (beq_eq_false_iff_ne.2 hc5), (beq_eq_false_iff_ne.2 hc5), (beq_eq_false_iff_ne.2 hc5), rfl, rfl, rfl, rfl, rfl, rfl, rfl, rfl, rfl, rfl, trivial⟩
        · injection h with h; subst h
          exact Knows.of (C := C40) wf Try.func40 (cs := [.reg 1 [(1, { it := .res (.sl (.excl 3) false (eI .i64 q)) [] [] })], .reg 2 [(1, { it := .res (.sl (.excl 3) false (eI .i64 q1)) [] [] })], .reg 3 [(1, { it := .res (.sl (.excl 3) false (eI .i64 q2)) [] [] })], .reg 4 [(1, { it := .val (.int .i64 (q.length : Int)) }), (4, { w := some true }), (5, { it := .cs [(.lit (.int .i64 x_))], w := some true }), (6, { it := .cs [(.lit (.int .i64 x_))], w := some true }), (7, { w := some true }), (8, { it := .b true }), (10, { w := some true }), (11, { it := .val (.int .i64 (q1.length : Int)), w := some true }), (12, { w := some true }), (13, { it := .b true }), (15, { w := some true }), (16, { it := .val (.int .i64 (q2.length : Int)), w := some true }), (17, { w := some true }), (18, { it := .b true }), (20, { w := some false }), (21, { w := some false }), (22, { w := some false }), (23, { w := some false }), (24, { it := .b false }), (26, { w := some false }), (27, { w := some false }), (28, { w := some false }), (29, { w := some false }), (30, { it := .b false }), (32, { w := some false }), (33, { w := some false }), (34, { w := some false }), (35, { w := some false }), (36, { it := .b false }), (38, { w := some false }), (39, { w := some false }), (40, { w := some false }), (41, { w := some false }), (42, { it := .b false })]]) (args := []) (r := (.lit (.bool false))) (ps := [CallK Try.prog false 43 [(.sl .view false (eI .i64 [101, 769, 770]))] [] (.sl (.excl 3) false (eI .i64 q)) [],
              CallK Try.prog false 43 [(.sl .view false (eI .i64 [120, 769]))] [] (.sl (.excl 3) false (eI .i64 q1)) [],
              CallK Try.prog false 45 [(.sl .view false (eI .i64 [7871, 273]))] [] (.sl (.excl 3) false (eI .i64 q2)) [],
              Value.int .i64 (↑(List.length (eI .i64 q)) : Int) = .int .i64 (q.length : Int),
              ((q.length : Int) == 1) = true,
              ((q.length : Int) == 1) = true,
              nthPV (eI .i64 q) 0 = some [(.lit (.int .i64 x_))],
              ((q.length : Int) == 1) = true,
              (eI .i64 q)[0]? = some [(.lit (.int .i64 x_))],
              ((q.length : Int) == 1) = true,
              ((q.length : Int) == 1) = true,
              (x_ == 7871) = true,
              (x_ == 7871) = true,
              Value.int .i64 (↑(List.length (eI .i64 q1)) : Int) = .int .i64 (q1.length : Int),
              (x_ == 7871) = true,
              (x_ == 7871) = true,
              ((q1.length : Int) == 2) = true,
              ((q1.length : Int) == 2) = true,
              Value.int .i64 (↑(List.length (eI .i64 q2)) : Int) = .int .i64 (q2.length : Int),
              ((q1.length : Int) == 2) = true,
              ((q1.length : Int) == 2) = true,
              ((q2.length : Int) == 4) = false,
              ((q2.length : Int) == 4) = false,
              ((q2.length : Int) == 4) = false,
              ((q2.length : Int) == 4) = false,
              ((q2.length : Int) == 4) = false,
              false = false,
              false = false,
              false = false,
              false = false,
              false = false,
              false = false,
              false = false,
              false = false,
              false = false,
              false = false,
              false = false,
              false = false,
              false = false,
              false = false,
              false = false]) (by kernel_rfl)
            ⟨(call_vcanon_All h_q _ _), (call_vcanon_All h_q1 _ _), (call_vcanon_Apart h_q2 _ _), (len_val _ _), (beq_iff_eq.2 hc1), (beq_iff_eq.2 hc1), (nth_map _ h_x_), (beq_iff_eq.2 hc1), (nthPV_eq (nth_map _ h_x_)).2, (beq_iff_eq.2 hc1), (beq_iff_eq.2 hc1), (beq_iff_eq.2 hc2), (beq_iff_eq.2 hc2), (len_val _ _), (beq_iff_eq.2 hc2), (beq_iff_eq.2 hc2), (beq_iff_eq.2 hc3), (beq_iff_eq.2 hc3), (len_val _ _), (beq_iff_eq.2 hc3), (beq_iff_eq.2 hc3), (beq_eq_false_iff_ne.2 hc4), (beq_eq_false_iff_ne.2 hc4), (beq_eq_false_iff_ne.2 hc4), (beq_eq_false_iff_ne.2 hc4), (beq_eq_false_iff_ne.2 hc4), rfl, rfl, rfl, rfl, rfl, rfl, rfl, rfl, rfl, rfl, rfl, rfl, rfl, rfl, rfl, trivial⟩
      · injection h with h; subst h
        exact Knows.of (C := C40) wf Try.func40 (cs := [.reg 1 [(1, { it := .res (.sl (.excl 3) false (eI .i64 q)) [] [] })], .reg 2 [(1, { it := .res (.sl (.excl 3) false (eI .i64 q1)) [] [] })], .reg 3 [(1, { it := .res (.sl (.excl 3) false (eI .i64 q2)) [] [] })], .reg 4 [(1, { it := .val (.int .i64 (q.length : Int)) }), (4, { w := some true }), (5, { it := .cs [(.lit (.int .i64 x_))], w := some true }), (6, { it := .cs [(.lit (.int .i64 x_))], w := some true }), (7, { w := some true }), (8, { it := .b true }), (10, { w := some true }), (11, { it := .val (.int .i64 (q1.length : Int)), w := some true }), (12, { w := some true }), (13, { it := .b true }), (15, { w := some false }), (16, { w := some false }), (17, { w := some false }), (18, { it := .b false }), (20, { w := some false }), (21, { w := some false }), (22, { w := some false }), (23, { w := some false }), (24, { it := .b false }), (26, { w := some false }), (27, { w := some false }), (28, { w := some false }), (29, { w := some false }), (30, { it := .b false }), (32, { w := some false }), (33, { w := some false }), (34, { w := some false }), (35, { w := some false }), (36, { it := .b false }), (38, { w := some false }), (39, { w := some false }), (40, { w := some false }), (41, { w := some false }), (42, { it := .b false })]]) (args := []) (r := (.lit (.bool false))) (ps := [CallK Try.prog false 43 [(.sl .view false (eI .i64 [101, 769, 770]))] [] (.sl (.excl 3) false (eI .i64 q)) [],
            CallK Try.prog false 43 [(.sl .view false (eI .i64 [120, 769]))] [] (.sl (.excl 3) false (eI .i64 q1)) [],
            CallK Try.prog false 45 [(.sl .view false (eI .i64 [7871, 273]))] [] (.sl (.excl 3) false (eI .i64 q2)) [],
            Value.int .i64 (↑(List.length (eI .i64 q)) : Int) = .int .i64 (q.length : Int),
            ((q.length : Int) == 1) = true,
            ((q.length : Int) == 1) = true,
            nthPV (eI .i64 q) 0 = some [(.lit (.int .i64 x_))],
            ((q.length : Int) == 1) = true,
            (eI .i64 q)[0]? = some [(.lit (.int .i64 x_))],
            ((q.length : Int) == 1) = true,
            ((q.length : Int) == 1) = true,
            (x_ == 7871) = true,
            (x_ == 7871) = true,
            Value.int .i64 (↑(List.length (eI .i64 q1)) : Int) = .int .i64 (q1.length : Int),
            (x_ == 7871) = true,
            (x_ == 7871) = true,
            ((q1.length : Int) == 2) = false,
            ((q1.length : Int) == 2) = false,
            ((q1.length : Int) == 2) = false,
            ((q1.length : Int) == 2) = false,
            false = false,
            false = false,
            false = false,
            false = false,
            false = false,
            false = false,
            false = false,
            false = false,
            false = false,
            false = false,
            false = false,
            false = false,
            false = false,
            false = false,
            false = false,
            false = false,
            false = false,
            false = false,
            false = false,
            false = false]) (by kernel_rfl)
          ⟨(call_vcanon_All h_q _ _), (call_vcanon_All h_q1 _ _), (call_vcanon_Apart h_q2 _ _), (len_val _ _), (beq_iff_eq.2 hc1), (beq_iff_eq.2 hc1), (nth_map _ h_x_), (beq_iff_eq.2 hc1), (nthPV_eq (nth_map _ h_x_)).2, (beq_iff_eq.2 hc1), (beq_iff_eq.2 hc1), (beq_iff_eq.2 hc2), (beq_iff_eq.2 hc2), (len_val _ _), (beq_iff_eq.2 hc2), (beq_iff_eq.2 hc2), (beq_eq_false_iff_ne.2 hc3), (beq_eq_false_iff_ne.2 hc3), (beq_eq_false_iff_ne.2 hc3), (beq_eq_false_iff_ne.2 hc3), rfl, rfl, rfl, rfl, rfl, rfl, rfl, rfl, rfl, rfl, rfl, rfl, rfl, rfl, rfl, rfl, rfl, rfl, rfl, rfl, trivial⟩
    · injection h with h; subst h
      exact Knows.of (C := C40) wf Try.func40 (cs := [.reg 1 [(1, { it := .res (.sl (.excl 3) false (eI .i64 q)) [] [] })], .reg 2 [(1, { it := .res (.sl (.excl 3) false (eI .i64 q1)) [] [] })], .reg 3 [(1, { it := .res (.sl (.excl 3) false (eI .i64 q2)) [] [] })], .reg 4 [(1, { it := .val (.int .i64 (q.length : Int)) }), (4, { w := some true }), (5, { it := .cs [(.lit (.int .i64 x_))], w := some true }), (6, { it := .cs [(.lit (.int .i64 x_))], w := some true }), (7, { w := some true }), (8, { it := .b true }), (10, { w := some false }), (11, { w := some false }), (12, { w := some false }), (13, { it := .b false }), (15, { w := some false }), (16, { w := some false }), (17, { w := some false }), (18, { it := .b false }), (20, { w := some false }), (21, { w := some false }), (22, { w := some false }), (23, { w := some false }), (24, { it := .b false }), (26, { w := some false }), (27, { w := some false }), (28, { w := some false }), (29, { w := some false }), (30, { it := .b false }), (32, { w := some false }), (33, { w := some false }), (34, { w := some false }), (35, { w := some false }), (36, { it := .b false }), (38, { w := some false }), (39, { w := some false }), (40, { w := some false }), (41, { w := some false }), (42, { it := .b false })]]) (args := []) (r := (.lit (.bool false))) (ps := [CallK Try.prog false 43 [(.sl .view false (eI .i64 [101, 769, 770]))] [] (.sl (.excl 3) false (eI .i64 q)) [],
          CallK Try.prog false 43 [(.sl .view false (eI .i64 [120, 769]))] [] (.sl (.excl 3) false (eI .i64 q1)) [],
          CallK Try.prog false 45 [(.sl .view false (eI .i64 [7871, 273]))] [] (.sl (.excl 3) false (eI .i64 q2)) [],
          Value.int .i64 (↑(List.length (eI .i64 q)) : Int) = .int .i64 (q.length : Int),
          ((q.length : Int) == 1) = true,
          ((q.length : Int) == 1) = true,
          nthPV (eI .i64 q) 0 = some [(.lit (.int .i64 x_))],
          ((q.length : Int) == 1) = true,
          (eI .i64 q)[0]? = some [(.lit (.int .i64 x_))],
          ((q.length : Int) == 1) = true,
          ((q.length : Int) == 1) = true,
          (x_ == 7871) = false,
          (x_ == 7871) = false,
          (x_ == 7871) = false,
          (x_ == 7871) = false,
          false = false,
          false = false,
          false = false,
          false = false,
          false = false,
          false = false,
          false = false,
          false = false,
          false = false,
          false = false,
          false = false,
          false = false,
          false = false,
          false = false,
          false = false,
          false = false,
          false = false,
          false = false,
          false = false,
          false = false,
          false = false,
          false = false,
          false = false,
          false = false]) (by kernel_rfl)
        ⟨(call_vcanon_All h_q _ _), (call_vcanon_All h_q1 _ _), (call_vcanon_Apart h_q2 _ _), (len_val _ _), (beq_iff_eq.2 hc1), (beq_iff_eq.2 hc1), (nth_map _ h_x_), (beq_iff_eq.2 hc1), (nthPV_eq (nth_map _ h_x_)).2, (beq_iff_eq.2 hc1), (beq_iff_eq.2 hc1), (beq_eq_false_iff_ne.2 hc2), (beq_eq_false_iff_ne.2 hc2), (beq_eq_false_iff_ne.2 hc2), (beq_eq_false_iff_ne.2 hc2), rfl, rfl, rfl, rfl, rfl, rfl, rfl, rfl, rfl, rfl, rfl, rfl, rfl, rfl, rfl, rfl, rfl, rfl, rfl, rfl, rfl, rfl, rfl, rfl, trivial⟩
  · injection h with h; subst h
    exact Knows.of (C := C40) wf Try.func40 (cs := [.reg 1 [(1, { it := .res (.sl (.excl 3) false (eI .i64 q)) [] [] })], .reg 2 [(1, { it := .res (.sl (.excl 3) false (eI .i64 q1)) [] [] })], .reg 3 [(1, { it := .res (.sl (.excl 3) false (eI .i64 q2)) [] [] })], .reg 4 [(1, { it := .val (.int .i64 (q.length : Int)) }), (4, { w := some false }), (5, { w := some false }), (6, { w := some false }), (7, { w := some false }), (8, { it := .b false }), (10, { w := some false }), (11, { w := some false }), (12, { w := some false }), (13, { it := .b false }), (15, { w := some false }), (16, { w := some false }), (17, { w := some false }), (18, { it := .b false }), (20, { w := some false }), (21, { w := some false }), (22, { w := some false }), (23, { w := some false }), (24, { it := .b false }), (26, { w := some false }), (27, { w := some false }), (28, { w := some false }), (29, { w := some false }), (30, { it := .b false }), (32, { w := some false }), (33, { w := some false }), (34, { w := some false }), (35, { w := some false }), (36, { it := .b false }), (38, { w := some false }), (39, { w := some false }), (40, { w := some false }), (41, { w := some false }), (42, { it := .b false })]]) (args := []) (r := (.lit (.bool false))) (ps := [CallK Try.prog false 43 [(.sl .view false (eI .i64 [101, 769, 770]))] [] (.sl (.excl 3) false (eI .i64 q)) [],
        CallK Try.prog false 43 [(.sl .view false (eI .i64 [120, 769]))] [] (.sl (.excl 3) false (eI .i64 q1)) [],
        CallK Try.prog false 45 [(.sl .view false (eI .i64 [7871, 273]))] [] (.sl (.excl 3) false (eI .i64 q2)) [],
        Value.int .i64 (↑(List.length (eI .i64 q)) : Int) = .int .i64 (q.length : Int),
        ((q.length : Int) == 1) = false,
        ((q.length : Int) == 1) = false,
        ((q.length : Int) == 1) = false,
        ((q.length : Int) == 1) = false,
        ((q.length : Int) == 1) = false,
        false = false,
        false = false,
        false = false,
        false = false,
        false = false,
        false = false,
        false = false,
        false = false,
        false = false,
        false = false,
        false = false,
        false = false,
        false = false,
        false = false,
        false = false,
        false = false,
        false = false,
        false = false,
        false = false,
        false = false,
        false = false,
        false = false,
        false = false,
        false = false,
        false = false,
        false = false,
        false = false,
        false = false]) (by kernel_rfl)
      ⟨(call_vcanon_All h_q _ _), (call_vcanon_All h_q1 _ _), (call_vcanon_Apart h_q2 _ _), (len_val _ _), (beq_eq_false_iff_ne.2 hc1), (beq_eq_false_iff_ne.2 hc1), (beq_eq_false_iff_ne.2 hc1), (beq_eq_false_iff_ne.2 hc1), (beq_eq_false_iff_ne.2 hc1), rfl, rfl, rfl, rfl, rfl, rfl, rfl, rfl, rfl, rfl, rfl, rfl, rfl, rfl, rfl, rfl, rfl, rfl, rfl, rfl, rfl, rfl, rfl, rfl, rfl, rfl, rfl, rfl, trivial⟩
theorem call_lontarlaw10_awake {r} (h : lontarlaw10_awake = some r) (kp : Bool) (σ : List Bx) : CallK Try.prog kp 40 [] σ (.lit (.bool r)) σ :=
  (knows_lontarlaw10_awake h).call rfl rfl kp σ
end Go.Proofs.Ytpbbgkmpjcddbaa
