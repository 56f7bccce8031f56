/- Walks, printed by wip/gen.py. -/
import Derived.Test.YtpbbgkmpjcddbaaMa
import Derived.Test.YtpbbgkmpjcddbaaYB
set_option linter.all false
namespace Go.Proofs.Ytpbbgkmpjcddbaa
open Go.AM Go.AM.M

theorem det_GVietLetter_eql_ (x y : Operand) (ax0 : Int) (ax2 ax3 : Nat) (bx1 : Int) (bx4 bx5 : Nat) : det Try.prog (do eqGuard .eql 38 x y (.agg #[.int .i64 ax0, .complex .f64 ax2 ax3]) (.agg #[.int .i64 bx1, .complex .f64 bx4 bx5]); binOp .eql 38 (.agg #[.int .i64 ax0, .complex .f64 ax2 ax3]) (.agg #[.int .i64 bx1, .complex .f64 bx4 bx5])) = some (.bool ((ax0 == bx1 && ceq ax2 ax3 bx4 bx5))) := by
  have h1 : Try.prog.eqGuardType Try.prog.depth 38 = false := by kernel_rfl
  have h2 : Try.prog.stoodInHeld 38 = false := by kernel_rfl
  obtain ⟨n, h3⟩ : ∃ n, Op.maxDepth = n + 2 := ⟨9998, rfl⟩
  have p0 : ∀ (ax0 : Int) (ax2 ax3 : Nat), det Try.prog (part 3 #[.int .i64 ax0, .complex .f64 ax2 ax3] 0) = some (.int .i64 ax0) := fun _ _ _ => by kernel_rfl
  have p1 : ∀ (ax0 : Int) (ax2 ax3 : Nat), det Try.prog (part 36 #[.int .i64 ax0, .complex .f64 ax2 ax3] 1) = some (.complex .f64 ax2 ax3) := fun _ _ _ => by kernel_rfl
  have e : det Try.prog (eqGuard .eql 38 x y (.agg #[.int .i64 ax0, .complex .f64 ax2 ax3]) (.agg #[.int .i64 bx1, .complex .f64 bx4 bx5])) = some () := by
    simp only [eqGuard, det_bind, det_prog, h1, det_ite, det_pure]; rfl
  rw [det_bind, e]
  have u3 := det_und Try.underlying3
  have u36 := det_und Try.underlying36
  simp only [binOp, Op.equal, h3, Op.equalIn, det_bind, det_und Try.underlying38, det_prog, h2, det_ite]
  simp [det_bind, det_pure, det_ite, p0, p1, u3, u36, Op.equalIn, Op.floatEq]
  by_cases c0 : ax0 = bx1 <;> by_cases c1 : FloatKind.f64.format.order ax2 bx4 = some Ordering.eq <;> by_cases c2 : FloatKind.f64.format.order ax3 bx5 = some Ordering.eq <;> simp [c0, c1, c2, det_bind, det_pure, det_ite, p0, p1, u3, u36, Op.equalIn, Op.floatEq, ceq, feq]
theorem det_GVietLetter_eql (x y : Operand) (a b : GVietLetter) : det Try.prog (do eqGuard .eql 38 x y (.agg #[(.int .i64 a.base), (.complex .f64 a.sign.1 a.sign.2)]) (.agg #[(.int .i64 b.base), (.complex .f64 b.sign.1 b.sign.2)]); binOp .eql 38 (.agg #[(.int .i64 a.base), (.complex .f64 a.sign.1 a.sign.2)]) (.agg #[(.int .i64 b.base), (.complex .f64 b.sign.1 b.sign.2)])) = some (.bool (GVietLetter.eq a b)) :=
  det_GVietLetter_eql_ x y _ _ _ _ _ _
theorem det_GVietLetter_neq_ (x y : Operand) (ax0 : Int) (ax2 ax3 : Nat) (bx1 : Int) (bx4 bx5 : Nat) : det Try.prog (do eqGuard .neq 38 x y (.agg #[.int .i64 ax0, .complex .f64 ax2 ax3]) (.agg #[.int .i64 bx1, .complex .f64 bx4 bx5]); binOp .neq 38 (.agg #[.int .i64 ax0, .complex .f64 ax2 ax3]) (.agg #[.int .i64 bx1, .complex .f64 bx4 bx5])) = some (.bool (!(ax0 == bx1 && ceq ax2 ax3 bx4 bx5))) := by
  have h1 : Try.prog.eqGuardType Try.prog.depth 38 = false := by kernel_rfl
  have h2 : Try.prog.stoodInHeld 38 = false := by kernel_rfl
  obtain ⟨n, h3⟩ : ∃ n, Op.maxDepth = n + 2 := ⟨9998, rfl⟩
  have p0 : ∀ (ax0 : Int) (ax2 ax3 : Nat), det Try.prog (part 3 #[.int .i64 ax0, .complex .f64 ax2 ax3] 0) = some (.int .i64 ax0) := fun _ _ _ => by kernel_rfl
  have p1 : ∀ (ax0 : Int) (ax2 ax3 : Nat), det Try.prog (part 36 #[.int .i64 ax0, .complex .f64 ax2 ax3] 1) = some (.complex .f64 ax2 ax3) := fun _ _ _ => by kernel_rfl
  have e : det Try.prog (eqGuard .neq 38 x y (.agg #[.int .i64 ax0, .complex .f64 ax2 ax3]) (.agg #[.int .i64 bx1, .complex .f64 bx4 bx5])) = some () := by
    simp only [eqGuard, det_bind, det_prog, h1, det_ite, det_pure]; rfl
  rw [det_bind, e]
  have u3 := det_und Try.underlying3
  have u36 := det_und Try.underlying36
  simp only [binOp, Op.equal, h3, Op.equalIn, det_bind, det_und Try.underlying38, det_prog, h2, det_ite]
  simp [det_bind, det_pure, det_ite, p0, p1, u3, u36, Op.equalIn, Op.floatEq]
  by_cases c0 : ax0 = bx1 <;> by_cases c1 : FloatKind.f64.format.order ax2 bx4 = some Ordering.eq <;> by_cases c2 : FloatKind.f64.format.order ax3 bx5 = some Ordering.eq <;> simp [c0, c1, c2, det_bind, det_pure, det_ite, p0, p1, u3, u36, Op.equalIn, Op.floatEq, ceq, feq]
theorem det_GVietLetter_neq (x y : Operand) (a b : GVietLetter) : det Try.prog (do eqGuard .neq 38 x y (.agg #[(.int .i64 a.base), (.complex .f64 a.sign.1 a.sign.2)]) (.agg #[(.int .i64 b.base), (.complex .f64 b.sign.1 b.sign.2)]); binOp .neq 38 (.agg #[(.int .i64 a.base), (.complex .f64 a.sign.1 a.sign.2)]) (.agg #[(.int .i64 b.base), (.complex .f64 b.sign.1 b.sign.2)])) = some (.bool (!GVietLetter.eq a b)) :=
  det_GVietLetter_neq_ x y _ _ _ _ _ _

def h42 : Nat → Option Hint
| 0 => some { keep := [0, 1] }
| 1 => some { keep := [0, 1, 10] }
| 2 => some { keep := [4] }
| 3 => some { keep := [0, 1, 12, 13] }
| 4 => some { keep := [0, 1, 12, 13, 14] }
| 5 => some { keep := [0, 1, 5, 12, 13] }
| 6 => some { keep := [0, 1, 12, 13, 24] }
| 7 => some { keep := [4] }
| 8 => some { keep := [0, 1, 12, 13] }
| 9 => some { keep := [4] }
| _ => none

noncomputable def C42 : Ctx := { P := Try.prog, mv := fun _ _ => false, res := resOf Try.f42, live := h42, call := fun _ _ _ => none }

def S_lontarlaw01_Units_L0 (a : (List Int)) (b : (List Int)) (vv : Int) : St :=
  match vv with
  | v => { ts := [(0, (.sl .view false (eI .i64 a))), (1, (.sl .view false (eI .i64 b))), (12, (.lit (.int .i64 (a.length : Int)))), (13, (.lit (.int .i64 v)))], n := 26, σ := [] }

def X_lontarlaw01_Units_L0_0 (a : (List Int)) (b : (List Int)) : St := { ts := [(4, (.lit (.bool false)))], n := 26, σ := [] }

def X_lontarlaw01_Units_L0_1 (a : (List Int)) (b : (List Int)) (v : Int) (v1 : Bool) : St := { ts := [(0, (.sl .view false (eI .i64 a))), (1, (.sl .view false (eI .i64 b))), (12, (.lit (.int .i64 (a.length : Int)))), (13, (.lit (.int .i64 v))), (14, (.lit (.bool v1)))], n := 26, σ := [] }

def E_lontarlaw01_Units_L0 (a : (List Int)) (b : (List Int)) (vv : lontarlaw01_Units_L0_R) : Exit × St :=
  match vv with
  | .x0 => (.ret, X_lontarlaw01_Units_L0_0 a b)
  | .x1 v v1 => (.exit 0, X_lontarlaw01_Units_L0_1 a b v v1)

set_option maxRecDepth 100000 in
theorem body_lontarlaw01_Units_L0 (a : (List Int)) (b : (List Int)) (v : Int) (x) (h : lontarlaw01_Units_L0 a b v = some x) : RunsB Try.prog 0 (sub [1, 1, 0, 1, 0, 0] (fbody Try.f42)) (S_lontarlaw01_Units_L0 a b v) (sideX (E_lontarlaw01_Units_L0 a b) x) (sideS (S_lontarlaw01_Units_L0 a b) (E_lontarlaw01_Units_L0 a b) x) := by
  unfold lontarlaw01_Units_L0 at h
  dsimp only at h
  rcases ite_some h with ⟨hc8, h⟩ | ⟨hc8, h⟩
  · obtain ⟨x_, h_x_, h⟩ := Option.bind_eq_some_iff.1 h
    obtain ⟨x_1, h_x_1, h⟩ := Option.bind_eq_some_iff.1 h
    rcases ite_some h with ⟨hc9, h⟩ | ⟨hc9, h⟩
    · injection h with h; subst h
      exact codeH_sound (C := C42) (base := 0) wf _ (cs := [.b true, .dr { frz := [5], lin := [0, 1], fz := [5], steps := [⟨[0, 16], false, {}⟩, ⟨[5, 17], false, {}⟩, ⟨[16, 17, 18], false, { it := .cs [(.lit (.int .i64 x_))] }⟩, ⟨[18, 19], false, {}⟩, ⟨[1, 20], false, {}⟩, ⟨[5, 21], false, {}⟩, ⟨[20, 21, 22], false, { it := .cs [(.lit (.int .i64 x_1))] }⟩, ⟨[22, 23], false, {}⟩, ⟨[19, 23, 24], false, {}⟩] }, .b false]) (cs' := []) (ps := [(decide (v < (a.length : Int))) = true,
          nthPV (eI .i64 a) v = some [(.lit (.int .i64 x_))],
          nthPV (eI .i64 b) v = some [(.lit (.int .i64 x_1))],
          (x_ != x_1) = false]) (by kernel_rfl)
        ⟨(decide_eq_true hc8), (nth_map _ h_x_), (nth_map _ h_x_1), (bne_f hc9), trivial⟩
    · injection h with h; subst h
      exact codeH_sound (C := C42) (base := 0) wf _ (cs := [.b true, .dr { frz := [5], lin := [0, 1], fz := [5], steps := [⟨[0, 16], false, {}⟩, ⟨[5, 17], false, {}⟩, ⟨[16, 17, 18], false, { it := .cs [(.lit (.int .i64 x_))] }⟩, ⟨[18, 19], false, {}⟩, ⟨[1, 20], false, {}⟩, ⟨[5, 21], false, {}⟩, ⟨[20, 21, 22], false, { it := .cs [(.lit (.int .i64 x_1))] }⟩, ⟨[22, 23], false, {}⟩, ⟨[19, 23, 24], false, {}⟩] }, .b true]) (cs' := []) (ps := [(decide (v < (a.length : Int))) = true,
          nthPV (eI .i64 a) v = some [(.lit (.int .i64 x_))],
          nthPV (eI .i64 b) v = some [(.lit (.int .i64 x_1))],
          (x_ != x_1) = true]) (by kernel_rfl)
        ⟨(decide_eq_true hc8), (nth_map _ h_x_), (nth_map _ h_x_1), (bne_iff_ne.2 hc9), trivial⟩
  · injection h with h; subst h
    exact codeH_sound (C := C42) (base := 0) wf _ (cs := [.b false]) (cs' := []) (ps := [(decide (v < (a.length : Int))) = false]) (by kernel_rfl)
      ⟨(decide_eq_false hc8), trivial⟩

theorem runs_lontarlaw01_Units_L0 (a : (List Int)) (b : (List Int)) {nn} {vv : Int} {rr} (h : loopM (lontarlaw01_Units_L0 a b) nn vv = some rr) : RunsB Try.prog 0 (.loop (sub [1, 1, 0, 1, 0, 0] (fbody Try.f42))) (S_lontarlaw01_Units_L0 a b vv) (E_lontarlaw01_Units_L0 a b rr).1 (E_lontarlaw01_Units_L0 a b rr).2 :=
  loop_runs (by intro r; cases r <;> simp [E_lontarlaw01_Units_L0]) (body_lontarlaw01_Units_L0 a b) nn vv rr h

set_option maxRecDepth 100000 in
theorem knows_lontarlaw01_Units (a : (List Int)) (b : (List Int)) {r} (h : lontarlaw01_Units a b = some r) : Knows Try.prog 42 [(.sl .view false (eI .i64 a)), (.sl .view false (eI .i64 b))] (.lit (.bool r)) := by
  unfold lontarlaw01_Units at h
  rcases ite_some h with ⟨hc1, h⟩ | ⟨hc1, h⟩
  · obtain ⟨l10, hr_l10, h⟩ := Option.bind_eq_some_iff.1 h
    have hl_l10 := runs_lontarlaw01_Units_L0 a b hr_l10
    cases l10 with
    | x0 =>
      dsimp only at h
      injection h with h; subst h
      exact Knows.of (C := C42) wf Try.func42 (cs := [.reg 1 [(1, { it := .val (.int .i64 (a.length : Int)) }), (3, { it := .val (.int .i64 (b.length : Int)) })], .b false, .reg 3 [(1, { it := .val (.int .i64 (a.length : Int)) })], .lp (.ret) (X_lontarlaw01_Units_L0_0 a b)]) (args := [(.sl .view false (eI .i64 a)), (.sl .view false (eI .i64 b))]) (r := (.lit (.bool false))) (ps := [Value.int .i64 (↑(List.length (eI .i64 a)) : Int) = .int .i64 (a.length : Int),
          Value.int .i64 (↑(List.length (eI .i64 b)) : Int) = .int .i64 (b.length : Int),
          ((a.length : Int) != (b.length : Int)) = false,
          Value.int .i64 (↑(List.length (eI .i64 a)) : Int) = .int .i64 (a.length : Int),
          RunsB Try.prog 0 (.loop (sub [1, 1, 0, 1, 0, 0] (fbody Try.f42))) (S_lontarlaw01_Units_L0 a b 0) (.ret) (X_lontarlaw01_Units_L0_0 a b)]) (by kernel_rfl)
        ⟨(len_val _ _), (len_val _ _), (bne_f hc1), (len_val _ _), hl_l10, trivial⟩
    | x1 v v1 =>
      dsimp only at h
      injection h with h; subst h
      exact Knows.of (C := C42) wf Try.func42 (cs := [.reg 1 [(1, { it := .val (.int .i64 (a.length : Int)) }), (3, { it := .val (.int .i64 (b.length : Int)) })], .b false, .reg 3 [(1, { it := .val (.int .i64 (a.length : Int)) })], .lp (.exit 0) (X_lontarlaw01_Units_L0_1 a b v v1)]) (args := [(.sl .view false (eI .i64 a)), (.sl .view false (eI .i64 b))]) (r := (.lit (.bool true))) (ps := [Value.int .i64 (↑(List.length (eI .i64 a)) : Int) = .int .i64 (a.length : Int),
          Value.int .i64 (↑(List.length (eI .i64 b)) : Int) = .int .i64 (b.length : Int),
          ((a.length : Int) != (b.length : Int)) = false,
          Value.int .i64 (↑(List.length (eI .i64 a)) : Int) = .int .i64 (a.length : Int),
          RunsB Try.prog 0 (.loop (sub [1, 1, 0, 1, 0, 0] (fbody Try.f42))) (S_lontarlaw01_Units_L0 a b 0) (.exit 0) (X_lontarlaw01_Units_L0_1 a b v v1)]) (by kernel_rfl)
        ⟨(len_val _ _), (len_val _ _), (bne_f hc1), (len_val _ _), hl_l10, trivial⟩
  · injection h with h; subst h
    exact Knows.of (C := C42) wf Try.func42 (cs := [.reg 1 [(1, { it := .val (.int .i64 (a.length : Int)) }), (3, { it := .val (.int .i64 (b.length : Int)) })], .b true]) (args := [(.sl .view false (eI .i64 a)), (.sl .view false (eI .i64 b))]) (r := (.lit (.bool false))) (ps := [Value.int .i64 (↑(List.length (eI .i64 a)) : Int) = .int .i64 (a.length : Int),
        Value.int .i64 (↑(List.length (eI .i64 b)) : Int) = .int .i64 (b.length : Int),
        ((a.length : Int) != (b.length : Int)) = true]) (by kernel_rfl)
      ⟨(len_val _ _), (len_val _ _), (bne_iff_ne.2 hc1), trivial⟩
theorem call_lontarlaw01_Units {a : (List Int)} {b : (List Int)} {r} (h : lontarlaw01_Units a b = some r) (kp : Bool) (σ : List Bx) : CallK Try.prog kp 42 [(.sl .view false (eI .i64 a)), (.sl .view false (eI .i64 b))] σ (.lit (.bool r)) σ :=
  (knows_lontarlaw01_Units a b h).call (and_t (map_noRef (fun _ => rfl) _) (and_t (map_noRef (fun _ => rfl) _) rfl)) rfl kp σ

def h28 : Nat → Option Hint
| 0 => some { keep := [0, 1] }
| 1 => some { keep := [0, 1, 10] }
| 2 => some { keep := [4] }
| 3 => some { keep := [0, 1, 12, 13] }
| 4 => some { keep := [0, 1, 12, 13, 14] }
| 5 => some { keep := [0, 1, 5, 12, 13] }
| 6 => some { keep := [0, 1, 12, 13, 41] }
| 7 => some { keep := [4] }
| 8 => some { keep := [0, 1, 12, 13] }
| 9 => some { keep := [4] }
| _ => none

noncomputable def C28 : Ctx := { P := Try.prog, mv := fun _ _ => false, res := resOf Try.f28, live := h28, call := fun _ _ _ => none }

def S_lontarlaw03_Same_L0 (a : (List GApiRule)) (b : (List GApiRule)) (vv : Int) : St :=
  match vv with
  | v => { ts := [(0, (.sl .view false (List.map GApiRule.c a))), (1, (.sl .view false (List.map GApiRule.c b))), (12, (.lit (.int .i64 (a.length : Int)))), (13, (.lit (.int .i64 v)))], n := 43, σ := [] }

def X_lontarlaw03_Same_L0_0 (a : (List GApiRule)) (b : (List GApiRule)) : St := { ts := [(4, (.lit (.bool false)))], n := 43, σ := [] }

def X_lontarlaw03_Same_L0_1 (a : (List GApiRule)) (b : (List GApiRule)) : St := { ts := [(4, (.lit (.bool false)))], n := 43, σ := [] }

def X_lontarlaw03_Same_L0_2 (a : (List GApiRule)) (b : (List GApiRule)) (v : Int) (v1 : Bool) : St := { ts := [(0, (.sl .view false (List.map GApiRule.c a))), (1, (.sl .view false (List.map GApiRule.c b))), (12, (.lit (.int .i64 (a.length : Int)))), (13, (.lit (.int .i64 v))), (14, (.lit (.bool v1)))], n := 43, σ := [] }

def E_lontarlaw03_Same_L0 (a : (List GApiRule)) (b : (List GApiRule)) (vv : lontarlaw03_Same_L0_R) : Exit × St :=
  match vv with
  | .x0 => (.ret, X_lontarlaw03_Same_L0_0 a b)
  | .x1 => (.ret, X_lontarlaw03_Same_L0_1 a b)
  | .x2 v v1 => (.exit 0, X_lontarlaw03_Same_L0_2 a b v v1)

set_option maxRecDepth 100000 in
theorem body_lontarlaw03_Same_L0 (a : (List GApiRule)) (b : (List GApiRule)) (v : Int) (x) (h : lontarlaw03_Same_L0 a b v = some x) : RunsB Try.prog 0 (sub [1, 1, 0, 1, 0, 0] (fbody Try.f28)) (S_lontarlaw03_Same_L0 a b v) (sideX (E_lontarlaw03_Same_L0 a b) x) (sideS (S_lontarlaw03_Same_L0 a b) (E_lontarlaw03_Same_L0 a b) x) := by
  unfold lontarlaw03_Same_L0 at h
  dsimp only at h
  rcases ite_some h with ⟨hc17, h⟩ | ⟨hc17, h⟩
  · obtain ⟨x_, h_x_, h⟩ := Option.bind_eq_some_iff.1 h
    obtain ⟨x_1, h_x_1, h⟩ := Option.bind_eq_some_iff.1 h
    obtain ⟨q, h_q, h⟩ := Option.bind_eq_some_iff.1 h
    rcases ite_some h with ⟨hc20, h⟩ | ⟨hc20, h⟩
    · obtain ⟨x_2, h_x_2, h⟩ := Option.bind_eq_some_iff.1 h
      obtain ⟨x_3, h_x_3, h⟩ := Option.bind_eq_some_iff.1 h
      obtain ⟨q1, h_q1, h⟩ := Option.bind_eq_some_iff.1 h
      rcases ite_some h with ⟨hc21, h⟩ | ⟨hc21, h⟩
      · injection h with h; subst h
        exact codeH_sound (C := C28) (base := 0) wf _ (cs := [.b true, .dr { frz := [0, 1, 5], lin := [], fz := [0, 1, 5, 28], steps := [⟨[0, 16], false, {}⟩, ⟨[5, 17], false, {}⟩, ⟨[16, 17, 18], false, { it := .cs (GApiRule.c x_) }⟩, ⟨[18, 19], false, {}⟩, ⟨[19, 20], false, {}⟩, ⟨[1, 21], false, {}⟩, ⟨[5, 22], false, {}⟩, ⟨[21, 22, 23], false, { it := .cs (GApiRule.c x_1) }⟩, ⟨[23, 24], false, {}⟩, ⟨[24, 25], false, {}⟩, ⟨[20, 25, 26], false, { it := .res (.lit (.bool q)) [] [] }⟩, ⟨[26, 27], false, {}⟩, ⟨[27, 28], false, {}⟩, ⟨[0, 28, 29], false, { w := some false }⟩, ⟨[5, 28, 30], false, { w := some false }⟩, ⟨[28, 29, 30, 31], false, { it := .cs (GApiRule.c x_2), w := some false }⟩, ⟨[28, 31, 32], false, { w := some false }⟩, ⟨[28, 32, 33], false, { w := some false }⟩, ⟨[1, 28, 34], false, { w := some false }⟩, ⟨[5, 28, 35], false, { w := some false }⟩, ⟨[28, 34, 35, 36], false, { it := .cs (GApiRule.c x_3), w := some false }⟩, ⟨[28, 36, 37], false, { w := some false }⟩, ⟨[28, 37, 38], false, { w := some false }⟩, ⟨[28, 33, 38, 39], false, { it := .res (.lit (.bool q1)) [] [], w := some false }⟩, ⟨[28, 39, 40], false, { w := some false }⟩, ⟨[28, 40, 41], false, { it := .b false }⟩] }, .b false]) (cs' := []) (ps := [(decide (v < (a.length : Int))) = true,
            nthPV (List.map GApiRule.c a) v = some (GApiRule.c x_),
            nthPV (List.map GApiRule.c b) v = some (GApiRule.c x_1),
            CallK Try.prog true 42 [(.sl .view false (eI .i64 x_.in')), (.sl .view false (eI .i64 x_1.in'))] [] (.lit (.bool q)) [],
            (!q) = false,
            (!q) = false,
            (!q) = false,
            nthPV (List.map GApiRule.c a) v = some (GApiRule.c x_2),
            (!q) = false,
            (!q) = false,
            (!q) = false,
            (!q) = false,
            (!q) = false,
            nthPV (List.map GApiRule.c b) v = some (GApiRule.c x_3),
            (!q) = false,
            (!q) = false,
            (!q) = false,
            CallK Try.prog true 42 [(.sl .view false (eI .i64 x_2.out')), (.sl .view false (eI .i64 x_3.out'))] [] (.lit (.bool q1)) [],
            (!q) = false,
            (!q) = false,
            (!q1) = false]) (by kernel_rfl)
          ⟨(decide_eq_true hc17), (nth_map _ h_x_), (nth_map _ h_x_1), (call_lontarlaw01_Units h_q _ _), (not_f hc20), (not_f hc20), (not_f hc20), (nth_map _ h_x_2), (not_f hc20), (not_f hc20), (not_f hc20), (not_f hc20), (not_f hc20), (nth_map _ h_x_3), (not_f hc20), (not_f hc20), (not_f hc20), (call_lontarlaw01_Units h_q1 _ _), (not_f hc20), (not_f hc20), (not_f hc21), trivial⟩
      · injection h with h; subst h
        exact codeH_sound (C := C28) (base := 0) wf _ (cs := [.b true, .dr { frz := [0, 1, 5], lin := [], fz := [0, 1, 5, 28], steps := [⟨[0, 16], false, {}⟩, ⟨[5, 17], false, {}⟩, ⟨[16, 17, 18], false, { it := .cs (GApiRule.c x_) }⟩, ⟨[18, 19], false, {}⟩, ⟨[19, 20], false, {}⟩, ⟨[1, 21], false, {}⟩, ⟨[5, 22], false, {}⟩, ⟨[21, 22, 23], false, { it := .cs (GApiRule.c x_1) }⟩, ⟨[23, 24], false, {}⟩, ⟨[24, 25], false, {}⟩, ⟨[20, 25, 26], false, { it := .res (.lit (.bool q)) [] [] }⟩, ⟨[26, 27], false, {}⟩, ⟨[27, 28], false, {}⟩, ⟨[0, 28, 29], false, { w := some false }⟩, ⟨[5, 28, 30], false, { w := some false }⟩, ⟨[28, 29, 30, 31], false, { it := .cs (GApiRule.c x_2), w := some false }⟩, ⟨[28, 31, 32], false, { w := some false }⟩, ⟨[28, 32, 33], false, { w := some false }⟩, ⟨[1, 28, 34], false, { w := some false }⟩, ⟨[5, 28, 35], false, { w := some false }⟩, ⟨[28, 34, 35, 36], false, { it := .cs (GApiRule.c x_3), w := some false }⟩, ⟨[28, 36, 37], false, { w := some false }⟩, ⟨[28, 37, 38], false, { w := some false }⟩, ⟨[28, 33, 38, 39], false, { it := .res (.lit (.bool q1)) [] [], w := some false }⟩, ⟨[28, 39, 40], false, { w := some false }⟩, ⟨[28, 40, 41], false, { it := .b false }⟩] }, .b true]) (cs' := []) (ps := [(decide (v < (a.length : Int))) = true,
            nthPV (List.map GApiRule.c a) v = some (GApiRule.c x_),
            nthPV (List.map GApiRule.c b) v = some (GApiRule.c x_1),
            CallK Try.prog true 42 [(.sl .view false (eI .i64 x_.in')), (.sl .view false (eI .i64 x_1.in'))] [] (.lit (.bool q)) [],
            (!q) = false,
            (!q) = false,
            (!q) = false,
            nthPV (List.map GApiRule.c a) v = some (GApiRule.c x_2),
            (!q) = false,
            (!q) = false,
            (!q) = false,
            (!q) = false,
            (!q) = false,
            nthPV (List.map GApiRule.c b) v = some (GApiRule.c x_3),
            (!q) = false,
            (!q) = false,
            (!q) = false,
            CallK Try.prog true 42 [(.sl .view false (eI .i64 x_2.out')), (.sl .view false (eI .i64 x_3.out'))] [] (.lit (.bool q1)) [],
            (!q) = false,
            (!q) = false,
            (!q1) = true]) (by kernel_rfl)
          ⟨(decide_eq_true hc17), (nth_map _ h_x_), (nth_map _ h_x_1), (call_lontarlaw01_Units h_q _ _), (not_f hc20), (not_f hc20), (not_f hc20), (nth_map _ h_x_2), (not_f hc20), (not_f hc20), (not_f hc20), (not_f hc20), (not_f hc20), (nth_map _ h_x_3), (not_f hc20), (not_f hc20), (not_f hc20), (call_lontarlaw01_Units h_q1 _ _), (not_f hc20), (not_f hc20), (not_t (Bool.eq_false_iff.2 hc21)), trivial⟩
    · injection h with h; subst h
      exact codeH_sound (C := C28) (base := 0) wf _ (cs := [.b true, .dr { frz := [0, 1, 5], lin := [], fz := [0, 1, 5, 28], steps := [⟨[0, 16], false, {}⟩, ⟨[5, 17], false, {}⟩, ⟨[16, 17, 18], false, { it := .cs (GApiRule.c x_) }⟩, ⟨[18, 19], false, {}⟩, ⟨[19, 20], false, {}⟩, ⟨[1, 21], false, {}⟩, ⟨[5, 22], false, {}⟩, ⟨[21, 22, 23], false, { it := .cs (GApiRule.c x_1) }⟩, ⟨[23, 24], false, {}⟩, ⟨[24, 25], false, {}⟩, ⟨[20, 25, 26], false, { it := .res (.lit (.bool q)) [] [] }⟩, ⟨[26, 27], false, {}⟩, ⟨[27, 28], false, {}⟩, ⟨[28, 29], false, { w := some true }⟩, ⟨[28, 30], false, { w := some true }⟩, ⟨[28, 31], false, { w := some true }⟩, ⟨[28, 32], false, { w := some true }⟩, ⟨[28, 33], false, { w := some true }⟩, ⟨[28, 34], false, { w := some true }⟩, ⟨[28, 35], false, { w := some true }⟩, ⟨[28, 36], false, { w := some true }⟩, ⟨[28, 37], false, { w := some true }⟩, ⟨[28, 38], false, { w := some true }⟩, ⟨[28, 39], false, { w := some true }⟩, ⟨[28, 40], false, { w := some true }⟩, ⟨[28, 40, 41], false, { it := .b true }⟩] }, .b true]) (cs' := []) (ps := [(decide (v < (a.length : Int))) = true,
          nthPV (List.map GApiRule.c a) v = some (GApiRule.c x_),
          nthPV (List.map GApiRule.c b) v = some (GApiRule.c x_1),
          CallK Try.prog true 42 [(.sl .view false (eI .i64 x_.in')), (.sl .view false (eI .i64 x_1.in'))] [] (.lit (.bool q)) [],
          (!q) = true,
          (!q) = true,
          (!q) = true,
          (!q) = true,
          (!q) = true,
          (!q) = true,
          (!q) = true,
          (!q) = true,
          (!q) = true,
          (!q) = true,
          (!q) = true,
          (!q) = true,
          (!q) = true,
          true = true]) (by kernel_rfl)
        ⟨(decide_eq_true hc17), (nth_map _ h_x_), (nth_map _ h_x_1), (call_lontarlaw01_Units h_q _ _), (not_t (Bool.eq_false_iff.2 hc20)), (not_t (Bool.eq_false_iff.2 hc20)), (not_t (Bool.eq_false_iff.2 hc20)), (not_t (Bool.eq_false_iff.2 hc20)), (not_t (Bool.eq_false_iff.2 hc20)), (not_t (Bool.eq_false_iff.2 hc20)), (not_t (Bool.eq_false_iff.2 hc20)), (not_t (Bool.eq_false_iff.2 hc20)), (not_t (Bool.eq_false_iff.2 hc20)), (not_t (Bool.eq_false_iff.2 hc20)), (not_t (Bool.eq_false_iff.2 hc20)), (not_t (Bool.eq_false_iff.2 hc20)), (not_t (Bool.eq_false_iff.2 hc20)), rfl, trivial⟩
  · injection h with h; subst h
    exact codeH_sound (C := C28) (base := 0) wf _ (cs := [.b false]) (cs' := []) (ps := [(decide (v < (a.length : Int))) = false]) (by kernel_rfl)
      ⟨(decide_eq_false hc17), trivial⟩

theorem runs_lontarlaw03_Same_L0 (a : (List GApiRule)) (b : (List GApiRule)) {nn} {vv : Int} {rr} (h : loopM (lontarlaw03_Same_L0 a b) nn vv = some rr) : RunsB Try.prog 0 (.loop (sub [1, 1, 0, 1, 0, 0] (fbody Try.f28))) (S_lontarlaw03_Same_L0 a b vv) (E_lontarlaw03_Same_L0 a b rr).1 (E_lontarlaw03_Same_L0 a b rr).2 :=
  loop_runs (by intro r; cases r <;> simp [E_lontarlaw03_Same_L0]) (body_lontarlaw03_Same_L0 a b) nn vv rr h

set_option maxRecDepth 100000 in
theorem knows_lontarlaw03_Same (a : (List GApiRule)) (b : (List GApiRule)) {r} (h : lontarlaw03_Same a b = some r) : Knows Try.prog 28 [(.sl .view false (List.map GApiRule.c a)), (.sl .view false (List.map GApiRule.c b))] (.lit (.bool r)) := by
  unfold lontarlaw03_Same at h
  rcases ite_some h with ⟨hc1, h⟩ | ⟨hc1, h⟩
  · obtain ⟨l22, hr_l22, h⟩ := Option.bind_eq_some_iff.1 h
    have hl_l22 := runs_lontarlaw03_Same_L0 a b hr_l22
    cases l22 with
    | x0 =>
      dsimp only at h
      injection h with h; subst h
      exact Knows.of (C := C28) wf Try.func28 (cs := [.reg 1 [(1, { it := .val (.int .i64 (a.length : Int)) }), (3, { it := .val (.int .i64 (b.length : Int)) })], .b false, .reg 3 [(1, { it := .val (.int .i64 (a.length : Int)) })], .lp (.ret) (X_lontarlaw03_Same_L0_0 a b)]) (args := [(.sl .view false (List.map GApiRule.c a)), (.sl .view false (List.map GApiRule.c b))]) (r := (.lit (.bool false))) (ps := [Value.int .i64 (↑(List.length (List.map GApiRule.c a)) : Int) = .int .i64 (a.length : Int),
          Value.int .i64 (↑(List.length (List.map GApiRule.c b)) : Int) = .int .i64 (b.length : Int),
          ((a.length : Int) != (b.length : Int)) = false,
          Value.int .i64 (↑(List.length (List.map GApiRule.c a)) : Int) = .int .i64 (a.length : Int),
          RunsB Try.prog 0 (.loop (sub [1, 1, 0, 1, 0, 0] (fbody Try.f28))) (S_lontarlaw03_Same_L0 a b 0) (.ret) (X_lontarlaw03_Same_L0_0 a b)]) (by kernel_rfl)
        ⟨(len_val _ _), (len_val _ _), (bne_f hc1), (len_val _ _), hl_l22, trivial⟩
    | x1 =>
      dsimp only at h
      injection h with h; subst h
      exact Knows.of (C := C28) wf Try.func28 (cs := [.reg 1 [(1, { it := .val (.int .i64 (a.length : Int)) }), (3, { it := .val (.int .i64 (b.length : Int)) })], .b false, .reg 3 [(1, { it := .val (.int .i64 (a.length : Int)) })], .lp (.ret) (X_lontarlaw03_Same_L0_1 a b)]) (args := [(.sl .view false (List.map GApiRule.c a)), (.sl .view false (List.map GApiRule.c b))]) (r := (.lit (.bool false))) (ps := [Value.int .i64 (↑(List.length (List.map GApiRule.c a)) : Int) = .int .i64 (a.length : Int),
          Value.int .i64 (↑(List.length (List.map GApiRule.c b)) : Int) = .int .i64 (b.length : Int),
          ((a.length : Int) != (b.length : Int)) = false,
          Value.int .i64 (↑(List.length (List.map GApiRule.c a)) : Int) = .int .i64 (a.length : Int),
          RunsB Try.prog 0 (.loop (sub [1, 1, 0, 1, 0, 0] (fbody Try.f28))) (S_lontarlaw03_Same_L0 a b 0) (.ret) (X_lontarlaw03_Same_L0_1 a b)]) (by kernel_rfl)
        ⟨(len_val _ _), (len_val _ _), (bne_f hc1), (len_val _ _), hl_l22, trivial⟩
    | x2 v v1 =>
      dsimp only at h
      injection h with h; subst h
      exact Knows.of (C := C28) wf Try.func28 (cs := [.reg 1 [(1, { it := .val (.int .i64 (a.length : Int)) }), (3, { it := .val (.int .i64 (b.length : Int)) })], .b false, .reg 3 [(1, { it := .val (.int .i64 (a.length : Int)) })], .lp (.exit 0) (X_lontarlaw03_Same_L0_2 a b v v1)]) (args := [(.sl .view false (List.map GApiRule.c a)), (.sl .view false (List.map GApiRule.c b))]) (r := (.lit (.bool true))) (ps := [Value.int .i64 (↑(List.length (List.map GApiRule.c a)) : Int) = .int .i64 (a.length : Int),
          Value.int .i64 (↑(List.length (List.map GApiRule.c b)) : Int) = .int .i64 (b.length : Int),
          ((a.length : Int) != (b.length : Int)) = false,
          Value.int .i64 (↑(List.length (List.map GApiRule.c a)) : Int) = .int .i64 (a.length : Int),
          RunsB Try.prog 0 (.loop (sub [1, 1, 0, 1, 0, 0] (fbody Try.f28))) (S_lontarlaw03_Same_L0 a b 0) (.exit 0) (X_lontarlaw03_Same_L0_2 a b v v1)]) (by kernel_rfl)
        ⟨(len_val _ _), (len_val _ _), (bne_f hc1), (len_val _ _), hl_l22, trivial⟩
  · injection h with h; subst h
    exact Knows.of (C := C28) wf Try.func28 (cs := [.reg 1 [(1, { it := .val (.int .i64 (a.length : Int)) }), (3, { it := .val (.int .i64 (b.length : Int)) })], .b true]) (args := [(.sl .view false (List.map GApiRule.c a)), (.sl .view false (List.map GApiRule.c b))]) (r := (.lit (.bool false))) (ps := [Value.int .i64 (↑(List.length (List.map GApiRule.c a)) : Int) = .int .i64 (a.length : Int),
        Value.int .i64 (↑(List.length (List.map GApiRule.c b)) : Int) = .int .i64 (b.length : Int),
        ((a.length : Int) != (b.length : Int)) = true]) (by kernel_rfl)
      ⟨(len_val _ _), (len_val _ _), (bne_iff_ne.2 hc1), trivial⟩
theorem call_lontarlaw03_Same {a : (List GApiRule)} {b : (List GApiRule)} {r} (h : lontarlaw03_Same a b = some r) (kp : Bool) (σ : List Bx) : CallK Try.prog kp 28 [(.sl .view false (List.map GApiRule.c a)), (.sl .view false (List.map GApiRule.c b))] σ (.lit (.bool r)) σ :=
  (knows_lontarlaw03_Same a b h).call (and_t (map_noRef (GApiRule.nr _) _) (and_t (map_noRef (GApiRule.nr _) _) rfl)) rfl kp σ

def h38 : Nat → Option Hint
| 0 => some { keep := [0] }
| 1 => some { keep := [0, 3] }
| 2 => some { keep := [2] }
| 3 => some { keep := [2] }
| _ => none

noncomputable def C38 : Ctx := { P := Try.prog, mv := fun _ _ => false, res := resOf Try.f38, live := h38, call := fun _ _ _ => none }

set_option maxRecDepth 100000 in
theorem knows_viet_Upper (s : Int) {r} (h : viet_Upper s = some r) : Knows Try.prog 38 [(.lit (.int .i64 s))] (.lit (.int .i64 r)) := by
  unfold viet_Upper at h
  rcases ite_some h with ⟨hc1, h⟩ | ⟨hc1, h⟩
  · injection h with h; subst h
    exact Knows.of (C := C38) wf Try.func38 (cs := [.b true]) (args := [(.lit (.int .i64 s))]) (r := (.lit (.int .i64 (w64 (s - 32))))) (ps := [(decide (s < 256)) = true]) (by kernel_rfl)
      ⟨(decide_eq_true hc1), trivial⟩
  · injection h with h; subst h
    exact Knows.of (C := C38) wf Try.func38 (cs := [.b false]) (args := [(.lit (.int .i64 s))]) (r := (.lit (.int .i64 (w64 (s - 1))))) (ps := [(decide (s < 256)) = false]) (by kernel_rfl)
      ⟨(decide_eq_false hc1), trivial⟩
theorem call_viet_Upper {s : Int} {r} (h : viet_Upper s = some r) (kp : Bool) (σ : List Bx) : CallK Try.prog kp 38 [(.lit (.int .i64 s))] σ (.lit (.int .i64 r)) σ :=
  (knows_viet_Upper s h).call (and_t rfl rfl) rfl kp σ

def h51 : Nat → Option Hint
| 0 => some { keep := [0] }
| 1 => some { keep := [0, 4] }
| 2 => some { keep := [2] }
| 3 => some { keep := [2] }
| _ => none

noncomputable def C51 : Ctx := { P := Try.prog, mv := fun _ _ => false, res := resOf Try.f51, live := h51, call := fun _ _ _ => none }

set_option maxRecDepth 100000 in
theorem knows_lontarlaw09_upper (s : Int) {r} (h : lontarlaw09_upper s = some r) : Knows Try.prog 51 [(.lit (.int .i64 s))] (.lit (.int .i64 r)) := by
  unfold lontarlaw09_upper at h
  rcases ite_some h with ⟨hc1, h⟩ | ⟨hc1, h⟩
  · injection h with h; subst h
    exact Knows.of (C := C51) wf Try.func51 (cs := [.b true]) (args := [(.lit (.int .i64 s))]) (r := (.lit (.int .i64 (w64 (s - 32))))) (ps := [(decide (s < 256)) = true]) (by kernel_rfl)
      ⟨(decide_eq_true hc1), trivial⟩
  · injection h with h; subst h
    exact Knows.of (C := C51) wf Try.func51 (cs := [.b false]) (args := [(.lit (.int .i64 s))]) (r := (.lit (.int .i64 (w64 (s - 1))))) (ps := [(decide (s < 256)) = false]) (by kernel_rfl)
      ⟨(decide_eq_false hc1), trivial⟩
theorem call_lontarlaw09_upper {s : Int} {r} (h : lontarlaw09_upper s = some r) (kp : Bool) (σ : List Bx) : CallK Try.prog kp 51 [(.lit (.int .i64 s))] σ (.lit (.int .i64 r)) σ :=
  (knows_lontarlaw09_upper s h).call (and_t rfl rfl) rfl kp σ

def h52 : Nat → Option Hint
| 0 => some { keep := [] }
| 1 => some { keep := [0] }
| _ => none

noncomputable def C52 : Ctx := { P := Try.prog, mv := fun _ _ => false, res := resOf Try.f52, live := h52, call := fun _ _ _ => none }

set_option maxRecDepth 100000 in
theorem knows_viet_rows {r} (h : viet_rows = some r) : Knows Try.prog 52 [] (.sl (.excl 86) false (List.map GVietRow.c r)) := by
  unfold viet_rows at h
  injection h with h; subst h
  exact Knows.of (C := C52) wf Try.func52 (cs := []) (args := []) (r := (.sl (.excl 86) false (List.map GVietRow.c [(⟨97, 0, 97, 224, 225, 7843, 227, 7841⟩ : GVietRow), (⟨97, 1, 259, 7857, 7855, 7859, 7861, 7863⟩ : GVietRow), (⟨97, 2, 226, 7847, 7845, 7849, 7851, 7853⟩ : GVietRow), (⟨101, 0, 101, 232, 233, 7867, 7869, 7865⟩ : GVietRow), (⟨101, 2, 234, 7873, 7871, 7875, 7877, 7879⟩ : GVietRow), (⟨105, 0, 105, 236, 237, 7881, 297, 7883⟩ : GVietRow), (⟨111, 0, 111, 242, 243, 7887, 245, 7885⟩ : GVietRow), (⟨111, 2, 244, 7891, 7889, 7893, 7895, 7897⟩ : GVietRow), (⟨111, 3, 417, 7901, 7899, 7903, 7905, 7907⟩ : GVietRow), (⟨117, 0, 117, 249, 250, 7911, 361, 7909⟩ : GVietRow), (⟨117, 3, 432, 7915, 7913, 7917, 7919, 7921⟩ : GVietRow), (⟨121, 0, 121, 7923, 253, 7927, 7929, 7925⟩ : GVietRow), (⟨100, 0, 100, 0, 0, 0, 0, 0⟩ : GVietRow), (⟨100, 4, 273, 0, 0, 0, 0, 0⟩ : GVietRow)]))) (ps := []) (by kernel_rfl)
    trivial
theorem call_viet_rows {r} (h : viet_rows = some r) (kp : Bool) (σ : List Bx) : CallK Try.prog kp 52 [] σ (.sl (.excl 86) false (List.map GVietRow.c r)) σ :=
  (knows_viet_rows h).call rfl rfl kp σ

def h31 : Nat → Option Hint
| 0 => some { keep := [] }
| 1 => some { keep := [2], nils := [((.tmp 2), 38)] }
| 2 => some { keep := [2, 3], nils := [((.tmp 3), 3)] }
| 3 => some { keep := [2, 3, 11, 12, 13] }
| 4 => some { keep := [2, 3, 11, 12, 13, 14] }
| 5 => some { keep := [2, 3, 5, 11, 12, 13] }
| 6 => some { keep := [2, 3, 5, 11, 12, 13, 17, 18, 19] }
| 7 => some { keep := [2, 3, 5, 11, 12, 13, 17, 18, 19, 20] }
| 8 => some { keep := [2, 3, 5, 7, 11, 12, 13, 17, 18, 19] }
| 9 => some { keep := [2, 3, 5, 7, 11, 12, 13, 17, 18, 19, 24, 25] }
| 10 => some { keep := [2, 3, 5, 7, 11, 12, 13, 17, 18, 19, 24, 25, 26] }
| 11 => some { keep := [2, 3, 5, 7, 8, 9, 11, 12, 13, 17, 18, 19, 24, 25] }
| 12 => some { keep := [2, 3, 5, 7, 8, 9, 11, 12, 13, 17, 18, 19, 24, 25, 30] }
| 13 => some { keep := [2, 3, 5, 7, 8, 9, 10, 11, 12, 13, 17, 18, 19, 24, 25] }
| 14 => some { keep := [2, 3, 5, 7, 8, 9, 10, 11, 12, 13, 17, 18, 19, 24, 25, 33] }
| 15 => some { keep := [2, 3, 5, 7, 8, 9, 10, 11, 12, 13, 17, 18, 19, 24, 25] }
| 16 => some { keep := [2, 3, 5, 7, 9, 11, 12, 13, 17, 18, 19, 24, 25] }
| 17 => some { keep := [2, 3, 5, 7, 11, 12, 13, 17, 18, 19, 24, 25] }
| 18 => some { keep := [2, 3, 5, 7, 11, 12, 13, 17, 18, 19, 24, 25] }
| 19 => some { keep := [2, 3, 5, 11, 12, 13, 17, 18, 19], cut := some 0 }
| 20 => some { keep := [2, 3, 11, 12, 13] }
| 21 => some { keep := [0, 1] }
| _ => none

noncomputable def C31 : Ctx := { P := Try.prog, mv := fun _ _ => false, res := resOf Try.f31, live := h31, call := fun _ _ _ => none }

def S_viet_All_L2 (v : Int) (x_ : Bool) (q : (List GVietRow)) (v1 : Int) (x_1 : GVietRow) (vv : (List GVietLetter) × (List Int) × Int) : St :=
  match vv with
  | (ls2, ss2, v2) => { ts := [(2, (.sl (.excl 38) false (List.map GVietLetter.c ls2))), (3, (.sl (.excl 3) false (eI .i64 ss2))), (5, (.lit (.bool x_))), (7, (.ptr 0 0)), (11, (.sl (.excl 4) false (eB [false, true]))), (12, (.lit (.int .i64 ([false, true].length : Int)))), (13, (.lit (.int .i64 v))), (17, (.sl (.excl 86) false (List.map GVietRow.c q))), (18, (.lit (.int .i64 (q.length : Int)))), (19, (.lit (.int .i64 v1))), (24, (.agg [(.lit (.int .i64 x_1.scalar_e0)), (.lit (.int .i64 x_1.scalar_e1)), (.lit (.int .i64 x_1.scalar_e2)), (.lit (.int .i64 x_1.scalar_e3)), (.lit (.int .i64 x_1.scalar_e4)), (.lit (.int .i64 x_1.scalar_e5))])), (25, (.lit (.int .i64 v2)))], n := 58, σ := [.cells 86 [(.lit (.int .i64 x_1.base)), (.lit (.int .i64 x_1.mark)), (.lit (.int .i64 x_1.scalar_e0)), (.lit (.int .i64 x_1.scalar_e1)), (.lit (.int .i64 x_1.scalar_e2)), (.lit (.int .i64 x_1.scalar_e3)), (.lit (.int .i64 x_1.scalar_e4)), (.lit (.int .i64 x_1.scalar_e5))]] }

def X_viet_All_L2_0 (v : Int) (x_ : Bool) (q : (List GVietRow)) (v1 : Int) (x_1 : GVietRow) (ls2 : List GVietLetter) (ss2 : List Int) (v2 : Int) (v3 : Bool) : St := { ts := [(2, (.sl (.excl 38) false (List.map GVietLetter.c ls2))), (3, (.sl (.excl 3) false (eI .i64 ss2))), (5, (.lit (.bool x_))), (7, (.ptr 0 0)), (11, (.sl (.excl 4) false (eB [false, true]))), (12, (.lit (.int .i64 ([false, true].length : Int)))), (13, (.lit (.int .i64 v))), (17, (.sl (.excl 86) false (List.map GVietRow.c q))), (18, (.lit (.int .i64 (q.length : Int)))), (19, (.lit (.int .i64 v1))), (24, (.agg [(.lit (.int .i64 x_1.scalar_e0)), (.lit (.int .i64 x_1.scalar_e1)), (.lit (.int .i64 x_1.scalar_e2)), (.lit (.int .i64 x_1.scalar_e3)), (.lit (.int .i64 x_1.scalar_e4)), (.lit (.int .i64 x_1.scalar_e5))])), (25, (.lit (.int .i64 v2))), (26, (.lit (.bool v3)))], n := 58, σ := [.cells 86 [(.lit (.int .i64 x_1.base)), (.lit (.int .i64 x_1.mark)), (.lit (.int .i64 x_1.scalar_e0)), (.lit (.int .i64 x_1.scalar_e1)), (.lit (.int .i64 x_1.scalar_e2)), (.lit (.int .i64 x_1.scalar_e3)), (.lit (.int .i64 x_1.scalar_e4)), (.lit (.int .i64 x_1.scalar_e5))]] }

def E_viet_All_L2 (v : Int) (x_ : Bool) (q : (List GVietRow)) (v1 : Int) (x_1 : GVietRow) (vv : (List GVietLetter) × (List Int) × Int × Bool) : Exit × St :=
  match vv with
  | (ls2, ss2, v2, v3) => (.exit 4, X_viet_All_L2_0 v x_ q v1 x_1 ls2 ss2 v2 v3)

set_option maxRecDepth 100000 in
theorem body_viet_All_L2 (v : Int) (x_ : Bool) (q : (List GVietRow)) (v1 : Int) (x_1 : GVietRow) (vv : (List GVietLetter) × (List Int) × Int) (x) (h : viet_All_L2 x_ x_1 vv = some x) : RunsB Try.prog 0 (sub [1, 1, 1, 0, 1, 0, 0, 1, 1, 0, 0, 1, 1, 0, 0, 1, 1, 0, 0, 1, 1, 0, 0] (fbody Try.f31)) (S_viet_All_L2 v x_ q v1 x_1 vv) (sideX (E_viet_All_L2 v x_ q v1 x_1) x) (sideS (S_viet_All_L2 v x_ q v1 x_1) (E_viet_All_L2 v x_ q v1 x_1) x) := by
  obtain ⟨ls2, ss2, v2⟩ := vv
  unfold viet_All_L2 at h
  dsimp only at h
  rcases ite_some h with ⟨hc464, h⟩ | ⟨hc464, h⟩
  · obtain ⟨v3, h_v3, h⟩ := Option.bind_eq_some_iff.1 h
    rcases ite_some h with ⟨hc465, h⟩ | ⟨hc465, h⟩
    · injection h with h; subst h
      exact codeH_sound (C := C31) (base := 0) wf _ (cs := [.b true, .reg 11 [(1, { it := .pv (.lit (.int .i64 v3)) })], .b true]) (cs' := []) (ps := [(decide (v2 < 6)) = true,
          0 ≤ v2 ∧ v2 < 6,
          partOf Try.prog 3 [(.lit (.int .i64 x_1.scalar_e0)), (.lit (.int .i64 x_1.scalar_e1)), (.lit (.int .i64 x_1.scalar_e2)), (.lit (.int .i64 x_1.scalar_e3)), (.lit (.int .i64 x_1.scalar_e4)), (.lit (.int .i64 x_1.scalar_e5))] (v2.toNat * 1) = some (.lit (.int .i64 v3)),
          (v3 == 0) = true]) (by kernel_rfl)
        ⟨(decide_eq_true hc464), (nthI_lt h_v3), (part_of (c := fun z => (.lit (.int .i64 z))) aggT3 szOf3 h_v3 rfl), (beq_iff_eq.2 hc465), trivial⟩
    · rcases ite_some h with ⟨hc466, h⟩ | ⟨hc466, h⟩
      · obtain ⟨q1, h_q1, h⟩ := Option.bind_eq_some_iff.1 h
        obtain ⟨q2, h_q2, h⟩ := Option.bind_eq_some_iff.1 h
        obtain ⟨hg467, h⟩ := guardO_some h
        obtain ⟨hg468, h⟩ := guardO_some h
        injection h with h; subst h
        exact codeH_sound (C := C31) (base := 0) wf _ (cs := [.b true, .reg 11 [(1, { it := .pv (.lit (.int .i64 v3)) })], .b false, .b true, .reg 15 [(1, { it := .res (.lit (.int .i64 q1)) [.cells 86 [(.lit (.int .i64 x_1.base)), (.lit (.int .i64 x_1.mark)), (.lit (.int .i64 x_1.scalar_e0)), (.lit (.int .i64 x_1.scalar_e1)), (.lit (.int .i64 x_1.scalar_e2)), (.lit (.int .i64 x_1.scalar_e3)), (.lit (.int .i64 x_1.scalar_e4)), (.lit (.int .i64 x_1.scalar_e5))]] [] }), (3, { it := .res (.lit (.int .i64 q2)) [.cells 86 [(.lit (.int .i64 x_1.base)), (.lit (.int .i64 x_1.mark)), (.lit (.int .i64 x_1.scalar_e0)), (.lit (.int .i64 x_1.scalar_e1)), (.lit (.int .i64 x_1.scalar_e2)), (.lit (.int .i64 x_1.scalar_e3)), (.lit (.int .i64 x_1.scalar_e4)), (.lit (.int .i64 x_1.scalar_e5))]] [] })], .reg 16 [(4, { it := .val (.float .f64 (i2f x_1.mark)) }), (6, { it := .val (.float .f64 (i2f v2)) }), (7, { it := .val (.complex .f64 (i2f x_1.mark) (i2f v2)) }), (10, { it := .sl (List.map GVietLetter.c (ls2 ++ [(⟨q1, ((i2f x_1.mark), (i2f v2))⟩ : GVietLetter)])) })], .reg 17 [(3, { it := .sl (eI .i64 (ss2 ++ [q2])) })]]) (cs' := []) (ps := [(decide (v2 < 6)) = true,
            0 ≤ v2 ∧ v2 < 6,
            partOf Try.prog 3 [(.lit (.int .i64 x_1.scalar_e0)), (.lit (.int .i64 x_1.scalar_e1)), (.lit (.int .i64 x_1.scalar_e2)), (.lit (.int .i64 x_1.scalar_e3)), (.lit (.int .i64 x_1.scalar_e4)), (.lit (.int .i64 x_1.scalar_e5))] (v2.toNat * 1) = some (.lit (.int .i64 v3)),
            (v3 == 0) = false,
            x_ = true,
            CallK Try.prog false 38 [(.lit (.int .i64 x_1.base))] [.cells 86 [(.lit (.int .i64 x_1.base)), (.lit (.int .i64 x_1.mark)), (.lit (.int .i64 x_1.scalar_e0)), (.lit (.int .i64 x_1.scalar_e1)), (.lit (.int .i64 x_1.scalar_e2)), (.lit (.int .i64 x_1.scalar_e3)), (.lit (.int .i64 x_1.scalar_e4)), (.lit (.int .i64 x_1.scalar_e5))]] (.lit (.int .i64 q1)) [.cells 86 [(.lit (.int .i64 x_1.base)), (.lit (.int .i64 x_1.mark)), (.lit (.int .i64 x_1.scalar_e0)), (.lit (.int .i64 x_1.scalar_e1)), (.lit (.int .i64 x_1.scalar_e2)), (.lit (.int .i64 x_1.scalar_e3)), (.lit (.int .i64 x_1.scalar_e4)), (.lit (.int .i64 x_1.scalar_e5))]],
            CallK Try.prog false 38 [(.lit (.int .i64 v3))] [.cells 86 [(.lit (.int .i64 x_1.base)), (.lit (.int .i64 x_1.mark)), (.lit (.int .i64 x_1.scalar_e0)), (.lit (.int .i64 x_1.scalar_e1)), (.lit (.int .i64 x_1.scalar_e2)), (.lit (.int .i64 x_1.scalar_e3)), (.lit (.int .i64 x_1.scalar_e4)), (.lit (.int .i64 x_1.scalar_e5))]] (.lit (.int .i64 q2)) [.cells 86 [(.lit (.int .i64 x_1.base)), (.lit (.int .i64 x_1.mark)), (.lit (.int .i64 x_1.scalar_e0)), (.lit (.int .i64 x_1.scalar_e1)), (.lit (.int .i64 x_1.scalar_e2)), (.lit (.int .i64 x_1.scalar_e3)), (.lit (.int .i64 x_1.scalar_e4)), (.lit (.int .i64 x_1.scalar_e5))]],
            det Try.prog (convert 3 47 (.int .i64 x_1.mark)) = some (.float .f64 (i2f x_1.mark)),
            det Try.prog (convert 3 47 (.int .i64 v2)) = some (.float .f64 (i2f v2)),
            det Try.prog (builtin .complex #[47, 47] 36 [false, false].toArray [(.float .f64 (i2f x_1.mark)), (.float .f64 (i2f v2))].toArray) = some (.value (.complex .f64 (i2f x_1.mark) (i2f v2))),
            (List.length (List.map GVietLetter.c ls2) + List.length (List.map GVietLetter.c [(⟨q1, ((i2f x_1.mark), (i2f v2))⟩ : GVietLetter)])) * 24 ≤ 2 ^ 46,
            (List.map GVietLetter.c [(⟨q1, ((i2f x_1.mark), (i2f v2))⟩ : GVietLetter)]).all (fun c => c.length = 2 && c.all PV.one) = true,
            (List.map GVietLetter.c ls2) ++ (List.map GVietLetter.c [(⟨q1, ((i2f x_1.mark), (i2f v2))⟩ : GVietLetter)]) = (List.map GVietLetter.c (ls2 ++ [(⟨q1, ((i2f x_1.mark), (i2f v2))⟩ : GVietLetter)])),
            (List.length (eI .i64 ss2) + List.length (eI .i64 [q2])) * 8 ≤ 2 ^ 46,
            (eI .i64 [q2]).all (fun c => c.length = 1 && c.all PV.one) = true,
            (eI .i64 ss2) ++ (eI .i64 [q2]) = (eI .i64 (ss2 ++ [q2]))]) (by kernel_rfl)
          ⟨(decide_eq_true hc464), (nthI_lt h_v3), (part_of (c := fun z => (.lit (.int .i64 z))) aggT3 szOf3 h_v3 rfl), (beq_eq_false_iff_ne.2 hc465), hc466, (call_viet_Upper h_q1 _ _), (call_viet_Upper h_q2 _ _), (det_i2f Try.underlying3 Try.underlying47), (det_i2f Try.underlying3 Try.underlying47), rfl, (len_map2 hg467), (all_map (fun _ => rfl) _), (List.map_append).symm, (len_map2 hg468), (all_map (fun _ => rfl) _), (List.map_append).symm, trivial⟩
      · obtain ⟨hg469, h⟩ := guardO_some h
        obtain ⟨hg470, h⟩ := guardO_some h
        injection h with h; subst h
        exact codeH_sound (C := C31) (base := 0) wf _ (cs := [.b true, .reg 11 [(1, { it := .pv (.lit (.int .i64 v3)) })], .b false, .b false, .reg 16 [(4, { it := .val (.float .f64 (i2f x_1.mark)) }), (6, { it := .val (.float .f64 (i2f v2)) }), (7, { it := .val (.complex .f64 (i2f x_1.mark) (i2f v2)) }), (10, { it := .sl (List.map GVietLetter.c (ls2 ++ [(⟨x_1.base, ((i2f x_1.mark), (i2f v2))⟩ : GVietLetter)])) })], .reg 17 [(3, { it := .sl (eI .i64 (ss2 ++ [v3])) })]]) (cs' := []) (ps := [(decide (v2 < 6)) = true,
            0 ≤ v2 ∧ v2 < 6,
            partOf Try.prog 3 [(.lit (.int .i64 x_1.scalar_e0)), (.lit (.int .i64 x_1.scalar_e1)), (.lit (.int .i64 x_1.scalar_e2)), (.lit (.int .i64 x_1.scalar_e3)), (.lit (.int .i64 x_1.scalar_e4)), (.lit (.int .i64 x_1.scalar_e5))] (v2.toNat * 1) = some (.lit (.int .i64 v3)),
            (v3 == 0) = false,
            x_ = false,
            det Try.prog (convert 3 47 (.int .i64 x_1.mark)) = some (.float .f64 (i2f x_1.mark)),
            det Try.prog (convert 3 47 (.int .i64 v2)) = some (.float .f64 (i2f v2)),
            det Try.prog (builtin .complex #[47, 47] 36 [false, false].toArray [(.float .f64 (i2f x_1.mark)), (.float .f64 (i2f v2))].toArray) = some (.value (.complex .f64 (i2f x_1.mark) (i2f v2))),
            (List.length (List.map GVietLetter.c ls2) + List.length (List.map GVietLetter.c [(⟨x_1.base, ((i2f x_1.mark), (i2f v2))⟩ : GVietLetter)])) * 24 ≤ 2 ^ 46,
            (List.map GVietLetter.c [(⟨x_1.base, ((i2f x_1.mark), (i2f v2))⟩ : GVietLetter)]).all (fun c => c.length = 2 && c.all PV.one) = true,
            (List.map GVietLetter.c ls2) ++ (List.map GVietLetter.c [(⟨x_1.base, ((i2f x_1.mark), (i2f v2))⟩ : GVietLetter)]) = (List.map GVietLetter.c (ls2 ++ [(⟨x_1.base, ((i2f x_1.mark), (i2f v2))⟩ : GVietLetter)])),
            (List.length (eI .i64 ss2) + List.length (eI .i64 [v3])) * 8 ≤ 2 ^ 46,
            (eI .i64 [v3]).all (fun c => c.length = 1 && c.all PV.one) = true,
            (eI .i64 ss2) ++ (eI .i64 [v3]) = (eI .i64 (ss2 ++ [v3]))]) (by kernel_rfl)
          ⟨(decide_eq_true hc464), (nthI_lt h_v3), (part_of (c := fun z => (.lit (.int .i64 z))) aggT3 szOf3 h_v3 rfl), (beq_eq_false_iff_ne.2 hc465), (Bool.eq_false_iff.2 hc466), (det_i2f Try.underlying3 Try.underlying47), (det_i2f Try.underlying3 Try.underlying47), rfl, (len_map2 hg469), (all_map (fun _ => rfl) _), (List.map_append).symm, (len_map2 hg470), (all_map (fun _ => rfl) _), (List.map_append).symm, trivial⟩
  · injection h with h; subst h
    exact codeH_sound (C := C31) (base := 0) wf _ (cs := [.b false]) (cs' := []) (ps := [(decide (v2 < 6)) = false]) (by kernel_rfl)
      ⟨(decide_eq_false hc464), trivial⟩

theorem runs_viet_All_L2 (v : Int) (x_ : Bool) (q : (List GVietRow)) (v1 : Int) (x_1 : GVietRow) {nn} {vv : (List GVietLetter) × (List Int) × Int} {rr} (h : loopM (viet_All_L2 x_ x_1) nn vv = some rr) : RunsB Try.prog 0 (.loop (sub [1, 1, 1, 0, 1, 0, 0, 1, 1, 0, 0, 1, 1, 0, 0, 1, 1, 0, 0, 1, 1, 0, 0] (fbody Try.f31))) (S_viet_All_L2 v x_ q v1 x_1 vv) (E_viet_All_L2 v x_ q v1 x_1 rr).1 (E_viet_All_L2 v x_ q v1 x_1 rr).2 :=
  loop_runs (by intro r; simp [E_viet_All_L2]) (body_viet_All_L2 v x_ q v1 x_1) nn vv rr h

def S_viet_All_L1 (v : Int) (x_ : Bool) (q : (List GVietRow)) (vv : (List GVietLetter) × (List Int) × Int) : St :=
  match vv with
  | (ls1, ss1, v1) => { ts := [(2, (.sl (.excl 38) false (List.map GVietLetter.c ls1))), (3, (.sl (.excl 3) false (eI .i64 ss1))), (5, (.lit (.bool x_))), (11, (.sl (.excl 4) false (eB [false, true]))), (12, (.lit (.int .i64 ([false, true].length : Int)))), (13, (.lit (.int .i64 v))), (17, (.sl (.excl 86) false (List.map GVietRow.c q))), (18, (.lit (.int .i64 (q.length : Int)))), (19, (.lit (.int .i64 v1)))], n := 58, σ := [] }

def X_viet_All_L1_0 (v : Int) (x_ : Bool) (q : (List GVietRow)) (ls1 : List GVietLetter) (ss1 : List Int) (v1 : Int) (v2 : Bool) : St := { ts := [(2, (.sl (.excl 38) false (List.map GVietLetter.c ls1))), (3, (.sl (.excl 3) false (eI .i64 ss1))), (5, (.lit (.bool x_))), (11, (.sl (.excl 4) false (eB [false, true]))), (12, (.lit (.int .i64 ([false, true].length : Int)))), (13, (.lit (.int .i64 v))), (17, (.sl (.excl 86) false (List.map GVietRow.c q))), (18, (.lit (.int .i64 (q.length : Int)))), (19, (.lit (.int .i64 v1))), (20, (.lit (.bool v2)))], n := 58, σ := [] }

def E_viet_All_L1 (v : Int) (x_ : Bool) (q : (List GVietRow)) (vv : (List GVietLetter) × (List Int) × Int × Bool) : Exit × St :=
  match vv with
  | (ls1, ss1, v1, v2) => (.exit 2, X_viet_All_L1_0 v x_ q ls1 ss1 v1 v2)

set_option maxRecDepth 100000 in
theorem body_viet_All_L1 (v : Int) (x_ : Bool) (q : (List GVietRow)) (vv : (List GVietLetter) × (List Int) × Int) (x) (h : viet_All_L1 x_ q vv = some x) : RunsB Try.prog 0 (sub [1, 1, 1, 0, 1, 0, 0, 1, 1, 0, 0, 1, 1, 0, 0] (fbody Try.f31)) (S_viet_All_L1 v x_ q vv) (sideX (E_viet_All_L1 v x_ q) x) (sideS (S_viet_All_L1 v x_ q) (E_viet_All_L1 v x_ q) x) := by
  obtain ⟨ls1, ss1, v1⟩ := vv
  unfold viet_All_L1 at h
  dsimp only at h
  rcases ite_some h with ⟨hc443, h⟩ | ⟨hc443, h⟩
  · obtain ⟨x_1, h_x_1, h⟩ := Option.bind_eq_some_iff.1 h
    obtain ⟨l471, hr_l471, h⟩ := Option.bind_eq_some_iff.1 h
    have hl_l471 := runs_viet_All_L2 v x_ q v1 x_1 hr_l471
    obtain ⟨ls2, ss2, v2, v3⟩ := l471
    dsimp only at h
    injection h with h; subst h
    exact codeH_sound (C := C31) (base := 0) wf _ (cs := [.b true, .reg 8 [(0, { it := .cs (GVietRow.c x_1) }), (1, { it := .cs (GVietRow.c x_1) })], .lp (.exit 4) (X_viet_All_L2_0 v x_ q v1 x_1 ls2 ss2 v2 v3)]) (cs' := []) (ps := [(decide (v1 < (q.length : Int))) = true,
        nthPV (List.map GVietRow.c q) v1 = some (GVietRow.c x_1),
        (List.map GVietRow.c q)[v1.toNat]? = some (GVietRow.c x_1),
        RunsB Try.prog 0 (.loop (sub [1, 1, 1, 0, 1, 0, 0, 1, 1, 0, 0, 1, 1, 0, 0, 1, 1, 0, 0, 1, 1, 0, 0] (fbody Try.f31))) (S_viet_All_L2 v x_ q v1 x_1 (ls1, ss1, 0)) (.exit 4) (X_viet_All_L2_0 v x_ q v1 x_1 ls2 ss2 v2 v3),
        noRefss 0 (List.map GVietLetter.c ls2) = true,
        noRefss 0 (eI .i64 ss2) = true,
        noRefss 0 (eB [false, true]) = true,
        noRefss 0 (List.map GVietRow.c q) = true]) (by kernel_rfl)
      ⟨(decide_eq_true hc443), (nth_map _ h_x_1), (nthPV_eq (nth_map _ h_x_1)).2, hl_l471, (map_noRef (GVietLetter.nr _) _), (map_noRef (fun _ => rfl) _), (map_noRef (fun _ => rfl) _), (map_noRef (GVietRow.nr _) _), trivial⟩
  · injection h with h; subst h
    exact codeH_sound (C := C31) (base := 0) wf _ (cs := [.b false]) (cs' := []) (ps := [(decide (v1 < (q.length : Int))) = false]) (by kernel_rfl)
      ⟨(decide_eq_false hc443), trivial⟩

theorem runs_viet_All_L1 (v : Int) (x_ : Bool) (q : (List GVietRow)) {nn} {vv : (List GVietLetter) × (List Int) × Int} {rr} (h : loopM (viet_All_L1 x_ q) nn vv = some rr) : RunsB Try.prog 0 (.loop (sub [1, 1, 1, 0, 1, 0, 0, 1, 1, 0, 0, 1, 1, 0, 0] (fbody Try.f31))) (S_viet_All_L1 v x_ q vv) (E_viet_All_L1 v x_ q rr).1 (E_viet_All_L1 v x_ q rr).2 :=
  loop_runs (by intro r; simp [E_viet_All_L1]) (body_viet_All_L1 v x_ q) nn vv rr h

def S_viet_All_L0 (vv : (List GVietLetter) × (List Int) × Int) : St :=
  match vv with
  | (ls, ss, v) => { ts := [(2, (.sl (.excl 38) false (List.map GVietLetter.c ls))), (3, (.sl (.excl 3) false (eI .i64 ss))), (11, (.sl (.excl 4) false (eB [false, true]))), (12, (.lit (.int .i64 ([false, true].length : Int)))), (13, (.lit (.int .i64 v)))], n := 58, σ := [] }

def X_viet_All_L0_0 (ls : List GVietLetter) (ss : List Int) (v : Int) (v1 : Bool) : St := { ts := [(2, (.sl (.excl 38) false (List.map GVietLetter.c ls))), (3, (.sl (.excl 3) false (eI .i64 ss))), (11, (.sl (.excl 4) false (eB [false, true]))), (12, (.lit (.int .i64 ([false, true].length : Int)))), (13, (.lit (.int .i64 v))), (14, (.lit (.bool v1)))], n := 58, σ := [] }

def E_viet_All_L0 (vv : (List GVietLetter) × (List Int) × Int × Bool) : Exit × St :=
  match vv with
  | (ls, ss, v, v1) => (.exit 0, X_viet_All_L0_0 ls ss v v1)

set_option maxRecDepth 100000 in
theorem body_viet_All_L0 (vv : (List GVietLetter) × (List Int) × Int) (x) (h : viet_All_L0 vv = some x) : RunsB Try.prog 0 (sub [1, 1, 1, 0, 1, 0, 0] (fbody Try.f31)) (S_viet_All_L0 vv) (sideX (E_viet_All_L0) x) (sideS (S_viet_All_L0) (E_viet_All_L0) x) := by
  obtain ⟨ls, ss, v⟩ := vv
  unfold viet_All_L0 at h
  dsimp only at h
  rcases ite_some h with ⟨hc355, h⟩ | ⟨hc355, h⟩
  · obtain ⟨x_, h_x_, h⟩ := Option.bind_eq_some_iff.1 h
    obtain ⟨q, h_q, h⟩ := Option.bind_eq_some_iff.1 h
    obtain ⟨l472, hr_l472, h⟩ := Option.bind_eq_some_iff.1 h
    have hl_l472 := runs_viet_All_L1 v x_ q hr_l472
    obtain ⟨ls1, ss1, v1, v2⟩ := l472
    dsimp only at h
    injection h with h; subst h
    exact codeH_sound (C := C31) (base := 0) wf _ (cs := [.b true, .reg 5 [(0, { it := .cs [(.lit (.bool x_))] }), (1, { it := .cs [(.lit (.bool x_))] })], .reg 6 [(0, { it := .res (.sl (.excl 86) false (List.map GVietRow.c q)) [] [] }), (1, { it := .val (.int .i64 (q.length : Int)) })], .lp (.exit 2) (X_viet_All_L1_0 v x_ q ls1 ss1 v1 v2)]) (cs' := []) (ps := [(decide (v < ([false, true].length : Int))) = true,
        nthPV (eB [false, true]) v = some [(.lit (.bool x_))],
        (eB [false, true])[v.toNat]? = some [(.lit (.bool x_))],
        CallK Try.prog false 52 [] [] (.sl (.excl 86) false (List.map GVietRow.c q)) [],
        Value.int .i64 (↑(List.length (List.map GVietRow.c q)) : Int) = .int .i64 (q.length : Int),
        RunsB Try.prog 0 (.loop (sub [1, 1, 1, 0, 1, 0, 0, 1, 1, 0, 0, 1, 1, 0, 0] (fbody Try.f31))) (S_viet_All_L1 v x_ q (ls, ss, 0)) (.exit 2) (X_viet_All_L1_0 v x_ q ls1 ss1 v1 v2)]) (by kernel_rfl)
      ⟨(decide_eq_true hc355), (nth_map _ h_x_), (nthPV_eq (nth_map _ h_x_)).2, (call_viet_rows h_q _ _), (len_val _ _), hl_l472, trivial⟩
  · injection h with h; subst h
    exact codeH_sound (C := C31) (base := 0) wf _ (cs := [.b false]) (cs' := []) (ps := [(decide (v < ([false, true].length : Int))) = false]) (by kernel_rfl)
      ⟨(decide_eq_false hc355), trivial⟩

theorem runs_viet_All_L0 {nn} {vv : (List GVietLetter) × (List Int) × Int} {rr} (h : loopM (viet_All_L0) nn vv = some rr) : RunsB Try.prog 0 (.loop (sub [1, 1, 1, 0, 1, 0, 0] (fbody Try.f31))) (S_viet_All_L0 vv) (E_viet_All_L0 rr).1 (E_viet_All_L0 rr).2 :=
  loop_runs (by intro r; simp [E_viet_All_L0]) (body_viet_All_L0) nn vv rr h

set_option maxRecDepth 100000 in
theorem knows_viet_All {r} (h : viet_All = some r) : Knows Try.prog 31 [] (.tup [(.sl .view false (List.map GVietLetter.c r.1)), (.sl .view false (eI .i64 r.2))]) := by
  unfold viet_All at h
  obtain ⟨l473, hr_l473, h⟩ := Option.bind_eq_some_iff.1 h
  have hl_l473 := runs_viet_All_L0 hr_l473
  obtain ⟨ls, ss, v, v1⟩ := l473
  dsimp only at h
  injection h with h; subst h
  exact Knows.of (C := C31) wf Try.func31 (cs := [.reg 3 [(1, { it := .val (.int .i64 ([false, true].length : Int)) })], .lp (.exit 0) (X_viet_All_L0_0 ls ss v v1)]) (args := []) (r := (.tup [(.sl .view false (List.map GVietLetter.c ls)), (.sl .view false (eI .i64 ss))])) (ps := [Value.int .i64 (↑(List.length (eB [false, true])) : Int) = .int .i64 ([false, true].length : Int),
      RunsB Try.prog 0 (.loop (sub [1, 1, 1, 0, 1, 0, 0] (fbody Try.f31))) (S_viet_All_L0 ([], [], 0)) (.exit 0) (X_viet_All_L0_0 ls ss v v1)]) (by kernel_rfl)
    ⟨(len_val _ _), hl_l473, trivial⟩
theorem call_viet_All {r} (h : viet_All = some r) (kp : Bool) (σ : List Bx) : CallK Try.prog kp 31 [] σ (.tup [(.sl .view false (List.map GVietLetter.c r.1)), (.sl .view false (eI .i64 r.2))]) σ :=
  (knows_viet_All h).call rfl rfl kp σ

def h34 : Nat → Option Hint
| 0 => some { keep := [1] }
| 1 => some { keep := [1, 4, 5] }
| 2 => some { keep := [1, 4, 5, 12, 13, 14] }
| 3 => some { keep := [1, 4, 5, 12, 13, 14, 15] }
| 4 => some { keep := [1, 4, 5, 6, 7, 12, 13, 14] }
| 5 => some { keep := [1, 4, 5, 6, 12, 13, 14, 21] }
| 6 => some { keep := [2, 3] }
| 7 => some { keep := [1, 4, 5, 12, 13, 14], cut := some 1 }
| 8 => some { keep := [2, 3] }
| _ => none

noncomputable def C34 : Ctx := { P := Try.prog, mv := fun _ _ => false, res := resOf Try.f34, live := h34, call := fun _ _ _ => none }

def S_viet_Join_L0 (l : GVietLetter) (q : ((List GVietLetter) × (List Int))) (vv : Int) : St :=
  match vv with
  | v => { ts := [(1, (.ptr 0 0)), (4, (.sl .view false (List.map GVietLetter.c q.1))), (5, (.sl .view false (eI .i64 q.2))), (12, (.sl .view false (List.map GVietLetter.c q.1))), (13, (.lit (.int .i64 (q.1.length : Int)))), (14, (.lit (.int .i64 v)))], n := 27, σ := [.cells 38 [(.lit (.int .i64 l.base)), (.lit (.complex .f64 l.sign.1 l.sign.2))]] }

def X_viet_Join_L0_0 (l : GVietLetter) (q : ((List GVietLetter) × (List Int))) (v : Int) (m : Int) (m_re : Nat) (m_im : Nat) : St := { ts := [(2, (.lit (.int .i64 v))), (3, (.lit (.bool true)))], n := 27, σ := [.cells 38 [(.lit (.int .i64 l.base)), (.lit (.complex .f64 l.sign.1 l.sign.2))], .cells 38 [(.lit (.int .i64 m)), (.lit (.complex .f64 m_re m_im))]] }

def X_viet_Join_L0_1 (l : GVietLetter) (q : ((List GVietLetter) × (List Int))) (v : Int) (v1 : Bool) : St := { ts := [(1, (.ptr 0 0)), (4, (.sl .view false (List.map GVietLetter.c q.1))), (5, (.sl .view false (eI .i64 q.2))), (12, (.sl .view false (List.map GVietLetter.c q.1))), (13, (.lit (.int .i64 (q.1.length : Int)))), (14, (.lit (.int .i64 v))), (15, (.lit (.bool v1)))], n := 27, σ := [.cells 38 [(.lit (.int .i64 l.base)), (.lit (.complex .f64 l.sign.1 l.sign.2))]] }

def E_viet_Join_L0 (l : GVietLetter) (q : ((List GVietLetter) × (List Int))) (vv : viet_Join_L0_R) : Exit × St :=
  match vv with
  | .x0 v m m_re m_im => (.ret, X_viet_Join_L0_0 l q v m m_re m_im)
  | .x1 v v1 => (.exit 0, X_viet_Join_L0_1 l q v v1)

set_option maxRecDepth 100000 in
theorem body_viet_Join_L0 (l : GVietLetter) (q : ((List GVietLetter) × (List Int))) (v : Int) (x) (h : viet_Join_L0 l q v = some x) : RunsB Try.prog 0 (sub [1, 1, 0, 1, 0, 0] (fbody Try.f34)) (S_viet_Join_L0 l q v) (sideX (E_viet_Join_L0 l q) x) (sideS (S_viet_Join_L0 l q) (E_viet_Join_L0 l q) x) := by
  unfold viet_Join_L0 at h
  dsimp only at h
  rcases ite_some h with ⟨hc7, h⟩ | ⟨hc7, h⟩
  · obtain ⟨x_, h_x_, h⟩ := Option.bind_eq_some_iff.1 h
    rcases ite_some h with ⟨hc8, h⟩ | ⟨hc8, h⟩
    · obtain ⟨x_1, h_x_1, h⟩ := Option.bind_eq_some_iff.1 h
      injection h with h; subst h
      exact codeH_sound (C := C34) (base := 0) wf _ (cs := [.b true, .reg 4 [(1, { it := .cs (GVietLetter.c x_) })], .reg 5 [(2, { it := .val (.bool (GVietLetter.eq x_ l)) })], .b true, .reg 6 [(2, { it := .cs [(.lit (.int .i64 x_1))] })]]) (cs' := []) (ps := [(decide (v < (q.1.length : Int))) = true,
          nthPV (List.map GVietLetter.c q.1) v = some (GVietLetter.c x_),
          det Try.prog (do eqGuard .eql 38 (.tmp 19) (.tmp 20) (.agg #[(.int .i64 x_.base), (.complex .f64 x_.sign.1 x_.sign.2)]) (.agg #[(.int .i64 l.base), (.complex .f64 l.sign.1 l.sign.2)]); binOp .eql 38 (.agg #[(.int .i64 x_.base), (.complex .f64 x_.sign.1 x_.sign.2)]) (.agg #[(.int .i64 l.base), (.complex .f64 l.sign.1 l.sign.2)])) = some (.bool (GVietLetter.eq x_ l)),
          (GVietLetter.eq x_ l) = true,
          nthPV (eI .i64 q.2) v = some [(.lit (.int .i64 x_1))]]) (by kernel_rfl)
        ⟨(decide_eq_true hc7), (nth_map _ h_x_), (det_GVietLetter_eql _ _ _ _), hc8, (nth_map _ h_x_1), trivial⟩
    · injection h with h; subst h
      exact codeH_sound (C := C34) (base := 0) wf _ (cs := [.b true, .reg 4 [(1, { it := .cs (GVietLetter.c x_) })], .reg 5 [(2, { it := .val (.bool (GVietLetter.eq x_ l)) })], .b false]) (cs' := []) (ps := [(decide (v < (q.1.length : Int))) = true,
          nthPV (List.map GVietLetter.c q.1) v = some (GVietLetter.c x_),
          det Try.prog (do eqGuard .eql 38 (.tmp 19) (.tmp 20) (.agg #[(.int .i64 x_.base), (.complex .f64 x_.sign.1 x_.sign.2)]) (.agg #[(.int .i64 l.base), (.complex .f64 l.sign.1 l.sign.2)]); binOp .eql 38 (.agg #[(.int .i64 x_.base), (.complex .f64 x_.sign.1 x_.sign.2)]) (.agg #[(.int .i64 l.base), (.complex .f64 l.sign.1 l.sign.2)])) = some (.bool (GVietLetter.eq x_ l)),
          (GVietLetter.eq x_ l) = false,
          noRefss 1 (List.map GVietLetter.c q.1) = true,
          noRefss 1 (eI .i64 q.2) = true,
          noRefss 1 (List.map GVietLetter.c q.1) = true]) (by kernel_rfl)
        ⟨(decide_eq_true hc7), (nth_map _ h_x_), (det_GVietLetter_eql _ _ _ _), (Bool.eq_false_iff.2 hc8), (map_noRef (GVietLetter.nr _) _), (map_noRef (fun _ => rfl) _), (map_noRef (GVietLetter.nr _) _), trivial⟩
  · injection h with h; subst h
    exact codeH_sound (C := C34) (base := 0) wf _ (cs := [.b false]) (cs' := []) (ps := [(decide (v < (q.1.length : Int))) = false]) (by kernel_rfl)
      ⟨(decide_eq_false hc7), trivial⟩

theorem runs_viet_Join_L0 (l : GVietLetter) (q : ((List GVietLetter) × (List Int))) {nn} {vv : Int} {rr} (h : loopM (viet_Join_L0 l q) nn vv = some rr) : RunsB Try.prog 0 (.loop (sub [1, 1, 0, 1, 0, 0] (fbody Try.f34))) (S_viet_Join_L0 l q vv) (E_viet_Join_L0 l q rr).1 (E_viet_Join_L0 l q rr).2 :=
  loop_runs (by intro r; cases r <;> simp [E_viet_Join_L0]) (body_viet_Join_L0 l q) nn vv rr h

set_option maxRecDepth 100000 in
theorem knows_viet_Join (l : GVietLetter) {r} (h : viet_Join l = some r) : Knows Try.prog 34 [(.agg [(.lit (.int .i64 l.base)), (.lit (.complex .f64 l.sign.1 l.sign.2))])] (.tup [(.lit (.int .i64 r.1)), (.lit (.bool r.2))]) := by
  unfold viet_Join at h
  obtain ⟨q, h_q, h⟩ := Option.bind_eq_some_iff.1 h
  obtain ⟨l9, hr_l9, h⟩ := Option.bind_eq_some_iff.1 h
  have hl_l9 := runs_viet_Join_L0 l q hr_l9
  cases l9 with
  | x0 v m m_re m_im =>
    dsimp only at h
    injection h with h; subst h
    exact Knows.of (C := C34) wf Try.func34 (cs := [.reg 1 [(0, { it := .res (.tup [(.sl .view false (List.map GVietLetter.c q.1)), (.sl .view false (eI .i64 q.2))]) [.cells 38 [(.lit (.int .i64 l.base)), (.lit (.complex .f64 l.sign.1 l.sign.2))]] [] })], .reg 2 [(1, { it := .val (.int .i64 (q.1.length : Int)) })], .lp (.ret) (X_viet_Join_L0_0 l q v m m_re m_im)]) (args := [(.agg [(.lit (.int .i64 l.base)), (.lit (.complex .f64 l.sign.1 l.sign.2))])]) (r := (.tup [(.lit (.int .i64 v)), (.lit (.bool true))])) (ps := [CallK Try.prog false 31 [] [.cells 38 [(.lit (.int .i64 l.base)), (.lit (.complex .f64 l.sign.1 l.sign.2))]] (.tup [(.sl .view false (List.map GVietLetter.c q.1)), (.sl .view false (eI .i64 q.2))]) [.cells 38 [(.lit (.int .i64 l.base)), (.lit (.complex .f64 l.sign.1 l.sign.2))]],
        Value.int .i64 (↑(List.length (List.map GVietLetter.c q.1)) : Int) = .int .i64 (q.1.length : Int),
        RunsB Try.prog 0 (.loop (sub [1, 1, 0, 1, 0, 0] (fbody Try.f34))) (S_viet_Join_L0 l q 0) (.ret) (X_viet_Join_L0_0 l q v m m_re m_im)]) (by kernel_rfl)
      ⟨(call_viet_All h_q _ _), (len_val _ _), hl_l9, trivial⟩
  | x1 v v1 =>
    dsimp only at h
    injection h with h; subst h
    exact Knows.of (C := C34) wf Try.func34 (cs := [.reg 1 [(0, { it := .res (.tup [(.sl .view false (List.map GVietLetter.c q.1)), (.sl .view false (eI .i64 q.2))]) [.cells 38 [(.lit (.int .i64 l.base)), (.lit (.complex .f64 l.sign.1 l.sign.2))]] [] })], .reg 2 [(1, { it := .val (.int .i64 (q.1.length : Int)) })], .lp (.exit 0) (X_viet_Join_L0_1 l q v v1)]) (args := [(.agg [(.lit (.int .i64 l.base)), (.lit (.complex .f64 l.sign.1 l.sign.2))])]) (r := (.tup [(.lit (.int .i64 0)), (.lit (.bool false))])) (ps := [CallK Try.prog false 31 [] [.cells 38 [(.lit (.int .i64 l.base)), (.lit (.complex .f64 l.sign.1 l.sign.2))]] (.tup [(.sl .view false (List.map GVietLetter.c q.1)), (.sl .view false (eI .i64 q.2))]) [.cells 38 [(.lit (.int .i64 l.base)), (.lit (.complex .f64 l.sign.1 l.sign.2))]],
        Value.int .i64 (↑(List.length (List.map GVietLetter.c q.1)) : Int) = .int .i64 (q.1.length : Int),
        RunsB Try.prog 0 (.loop (sub [1, 1, 0, 1, 0, 0] (fbody Try.f34))) (S_viet_Join_L0 l q 0) (.exit 0) (X_viet_Join_L0_1 l q v v1)]) (by kernel_rfl)
      ⟨(call_viet_All h_q _ _), (len_val _ _), hl_l9, trivial⟩
theorem call_viet_Join {l : GVietLetter} {r} (h : viet_Join l = some r) (kp : Bool) (σ : List Bx) : CallK Try.prog kp 34 [(.agg [(.lit (.int .i64 l.base)), (.lit (.complex .f64 l.sign.1 l.sign.2))])] σ (.tup [(.lit (.int .i64 r.1)), (.lit (.bool r.2))]) σ :=
  (knows_viet_Join l h).call (and_t (and_t rfl (and_t rfl rfl)) rfl) rfl kp σ

def h32 : Nat → Option Hint
| 0 => some { keep := [0, 2] }
| 1 => some { keep := [0, 2, 4, 5] }
| 2 => some { keep := [0, 2, 4, 5, 12, 13, 14] }
| 3 => some { keep := [0, 2, 4, 5, 12, 13, 14, 15] }
| 4 => some { keep := [0, 2, 4, 5, 6, 7, 12, 13, 14] }
| 5 => some { keep := [0, 2, 4, 5, 6, 12, 13, 14, 21] }
| 6 => some { keep := [2, 3] }
| 7 => some { keep := [0, 2, 4, 5, 12, 13, 14] }
| 8 => some { keep := [2, 3] }
| _ => none

noncomputable def C32 : Ctx := { P := Try.prog, mv := fun _ _ => false, res := resOf Try.f32, live := h32, call := fun _ _ _ => none }

def S_viet_Split_L0 (s : Int) (q : ((List GVietLetter) × (List Int))) (vv : Int) : St :=
  match vv with
  | v => { ts := [(0, (.lit (.int .i64 s))), (2, (.ptr 0 0)), (4, (.sl .view false (List.map GVietLetter.c q.1))), (5, (.sl .view false (eI .i64 q.2))), (12, (.sl .view false (eI .i64 q.2))), (13, (.lit (.int .i64 (q.2.length : Int)))), (14, (.lit (.int .i64 v)))], n := 28, σ := [.cells 38 [(.lit (.int .i64 0)), (.lit (.complex .f64 0 0))]] }

def X_viet_Split_L0_0 (s : Int) (q : ((List GVietLetter) × (List Int))) (m : Int) (m_re : Nat) (m_im : Nat) : St := { ts := [(2, (.ptr 0 0)), (3, (.lit (.bool true)))], n := 28, σ := [.cells 38 [(.lit (.int .i64 m)), (.lit (.complex .f64 m_re m_im))]] }

def X_viet_Split_L0_1 (s : Int) (q : ((List GVietLetter) × (List Int))) (v : Int) (v1 : Bool) : St := { ts := [(0, (.lit (.int .i64 s))), (2, (.ptr 0 0)), (4, (.sl .view false (List.map GVietLetter.c q.1))), (5, (.sl .view false (eI .i64 q.2))), (12, (.sl .view false (eI .i64 q.2))), (13, (.lit (.int .i64 (q.2.length : Int)))), (14, (.lit (.int .i64 v))), (15, (.lit (.bool v1)))], n := 28, σ := [.cells 38 [(.lit (.int .i64 0)), (.lit (.complex .f64 0 0))]] }

def E_viet_Split_L0 (s : Int) (q : ((List GVietLetter) × (List Int))) (vv : viet_Split_L0_R) : Exit × St :=
  match vv with
  | .x0 m m_re m_im => (.ret, X_viet_Split_L0_0 s q m m_re m_im)
  | .x1 v v1 => (.exit 0, X_viet_Split_L0_1 s q v v1)

set_option maxRecDepth 100000 in
theorem body_viet_Split_L0 (s : Int) (q : ((List GVietLetter) × (List Int))) (v : Int) (x) (h : viet_Split_L0 s q v = some x) : RunsB Try.prog 0 (sub [1, 1, 0, 1, 0, 0] (fbody Try.f32)) (S_viet_Split_L0 s q v) (sideX (E_viet_Split_L0 s q) x) (sideS (S_viet_Split_L0 s q) (E_viet_Split_L0 s q) x) := by
  unfold viet_Split_L0 at h
  dsimp only at h
  rcases ite_some h with ⟨hc7, h⟩ | ⟨hc7, h⟩
  · obtain ⟨x_, h_x_, h⟩ := Option.bind_eq_some_iff.1 h
    rcases ite_some h with ⟨hc8, h⟩ | ⟨hc8, h⟩
    · obtain ⟨x_1, h_x_1, h⟩ := Option.bind_eq_some_iff.1 h
      injection h with h; subst h
      exact codeH_sound (C := C32) (base := 0) wf _ (cs := [.b true, .reg 4 [(1, { it := .cs [(.lit (.int .i64 x_))] })], .b true, .reg 6 [(2, { it := .cs (GVietLetter.c x_1) })]]) (cs' := []) (ps := [(decide (v < (q.2.length : Int))) = true,
          nthPV (eI .i64 q.2) v = some [(.lit (.int .i64 x_))],
          (x_ == s) = true,
          nthPV (List.map GVietLetter.c q.1) v = some (GVietLetter.c x_1)]) (by kernel_rfl)
        ⟨(decide_eq_true hc7), (nth_map _ h_x_), (beq_iff_eq.2 hc8), (nth_map _ h_x_1), trivial⟩
    · injection h with h; subst h
      exact codeH_sound (C := C32) (base := 0) wf _ (cs := [.b true, .reg 4 [(1, { it := .cs [(.lit (.int .i64 x_))] })], .b false]) (cs' := []) (ps := [(decide (v < (q.2.length : Int))) = true,
          nthPV (eI .i64 q.2) v = some [(.lit (.int .i64 x_))],
          (x_ == s) = false]) (by kernel_rfl)
        ⟨(decide_eq_true hc7), (nth_map _ h_x_), (beq_eq_false_iff_ne.2 hc8), trivial⟩
  · injection h with h; subst h
    exact codeH_sound (C := C32) (base := 0) wf _ (cs := [.b false]) (cs' := []) (ps := [(decide (v < (q.2.length : Int))) = false]) (by kernel_rfl)
      ⟨(decide_eq_false hc7), trivial⟩

theorem runs_viet_Split_L0 (s : Int) (q : ((List GVietLetter) × (List Int))) {nn} {vv : Int} {rr} (h : loopM (viet_Split_L0 s q) nn vv = some rr) : RunsB Try.prog 0 (.loop (sub [1, 1, 0, 1, 0, 0] (fbody Try.f32))) (S_viet_Split_L0 s q vv) (E_viet_Split_L0 s q rr).1 (E_viet_Split_L0 s q rr).2 :=
  loop_runs (by intro r; cases r <;> simp [E_viet_Split_L0]) (body_viet_Split_L0 s q) nn vv rr h

set_option maxRecDepth 100000 in
theorem knows_viet_Split (s : Int) {r} (h : viet_Split s = some r) : Knows Try.prog 32 [(.lit (.int .i64 s))] (.tup [(.agg [(.lit (.int .i64 r.1.base)), (.lit (.complex .f64 r.1.sign.1 r.1.sign.2))]), (.lit (.bool r.2))]) := by
  unfold viet_Split at h
  obtain ⟨q, h_q, h⟩ := Option.bind_eq_some_iff.1 h
  obtain ⟨l9, hr_l9, h⟩ := Option.bind_eq_some_iff.1 h
  have hl_l9 := runs_viet_Split_L0 s q hr_l9
  cases l9 with
  | x0 m m_re m_im =>
    dsimp only at h
    injection h with h; subst h
    exact Knows.of (C := C32) wf Try.func32 (cs := [.reg 1 [(0, { it := .res (.tup [(.sl .view false (List.map GVietLetter.c q.1)), (.sl .view false (eI .i64 q.2))]) [.cells 38 [(.lit (.int .i64 0)), (.lit (.complex .f64 0 0))]] [] })], .reg 2 [(1, { it := .val (.int .i64 (q.2.length : Int)) })], .lp (.ret) (X_viet_Split_L0_0 s q m m_re m_im)]) (args := [(.lit (.int .i64 s))]) (r := (.tup [(.agg [(.lit (.int .i64 m)), (.lit (.complex .f64 m_re m_im))]), (.lit (.bool true))])) (ps := [CallK Try.prog false 31 [] [.cells 38 [(.lit (.int .i64 0)), (.lit (.complex .f64 0 0))]] (.tup [(.sl .view false (List.map GVietLetter.c q.1)), (.sl .view false (eI .i64 q.2))]) [.cells 38 [(.lit (.int .i64 0)), (.lit (.complex .f64 0 0))]],
        Value.int .i64 (↑(List.length (eI .i64 q.2)) : Int) = .int .i64 (q.2.length : Int),
        RunsB Try.prog 0 (.loop (sub [1, 1, 0, 1, 0, 0] (fbody Try.f32))) (S_viet_Split_L0 s q 0) (.ret) (X_viet_Split_L0_0 s q m m_re m_im)]) (by kernel_rfl)
      ⟨(call_viet_All h_q _ _), (len_val _ _), hl_l9, trivial⟩
  | x1 v v1 =>
    dsimp only at h
    injection h with h; subst h
    exact Knows.of (C := C32) wf Try.func32 (cs := [.reg 1 [(0, { it := .res (.tup [(.sl .view false (List.map GVietLetter.c q.1)), (.sl .view false (eI .i64 q.2))]) [.cells 38 [(.lit (.int .i64 0)), (.lit (.complex .f64 0 0))]] [] })], .reg 2 [(1, { it := .val (.int .i64 (q.2.length : Int)) })], .lp (.exit 0) (X_viet_Split_L0_1 s q v v1)]) (args := [(.lit (.int .i64 s))]) (r := (.tup [(.agg [(.lit (.int .i64 0)), (.lit (.complex .f64 0 0))]), (.lit (.bool false))])) (ps := [CallK Try.prog false 31 [] [.cells 38 [(.lit (.int .i64 0)), (.lit (.complex .f64 0 0))]] (.tup [(.sl .view false (List.map GVietLetter.c q.1)), (.sl .view false (eI .i64 q.2))]) [.cells 38 [(.lit (.int .i64 0)), (.lit (.complex .f64 0 0))]],
        Value.int .i64 (↑(List.length (eI .i64 q.2)) : Int) = .int .i64 (q.2.length : Int),
        RunsB Try.prog 0 (.loop (sub [1, 1, 0, 1, 0, 0] (fbody Try.f32))) (S_viet_Split_L0 s q 0) (.exit 0) (X_viet_Split_L0_1 s q v v1)]) (by kernel_rfl)
      ⟨(call_viet_All h_q _ _), (len_val _ _), hl_l9, trivial⟩
theorem call_viet_Split {s : Int} {r} (h : viet_Split s = some r) (kp : Bool) (σ : List Bx) : CallK Try.prog kp 32 [(.lit (.int .i64 s))] σ (.tup [(.agg [(.lit (.int .i64 r.1.base)), (.lit (.complex .f64 r.1.sign.1 r.1.sign.2))]), (.lit (.bool r.2))]) σ :=
  (knows_viet_Split s h).call (and_t rfl rfl) rfl kp σ

def h39 : Nat → Option Hint
| 0 => some { keep := [0] }
| 1 => some { keep := [4] }
| 2 => some { keep := [4, 5] }
| 3 => some { keep := [2, 3] }
| 4 => some { keep := [4, 7] }
| 5 => some { keep := [2, 3] }
| 6 => some { keep := [4, 9] }
| 7 => some { keep := [2, 3] }
| 8 => some { keep := [4, 11] }
| 9 => some { keep := [2, 3] }
| 10 => some { keep := [4, 13] }
| 11 => some { keep := [2, 3] }
| 12 => some { keep := [4, 15] }
| 13 => some { keep := [2, 3] }
| 14 => some { keep := [4, 17] }
| 15 => some { keep := [2, 3] }
| 16 => some { keep := [19] }
| 17 => some { keep := [2, 3] }
| 18 => some { keep := [2, 3] }
| _ => none

noncomputable def C39 : Ctx := { P := Try.prog, mv := fun _ _ => false, res := resOf Try.f39, live := h39, call := fun _ _ _ => none }

set_option maxRecDepth 100000 in
theorem knows_viet_Sign (s : Int) {r} (h : viet_Sign s = some r) : Knows Try.prog 39 [(.lit (.int .i64 s))] (.tup [(.lit (.complex .f64 r.1.1 r.1.2)), (.lit (.bool r.2))]) := by
  unfold viet_Sign at h
  rcases ite_some h with ⟨hc1, h⟩ | ⟨hc1, h⟩
  · injection h with h; subst h
    exact Knows.of (C := C39) wf Try.func39 (cs := [.b true]) (args := [(.lit (.int .i64 s))]) (r := (.tup [(.lit (.complex .f64 4607182418800017408 0)), (.lit (.bool true))])) (ps := [(s == 774) = true]) (by kernel_rfl)
      ⟨(beq_iff_eq.2 hc1), trivial⟩
  · rcases ite_some h with ⟨hc2, h⟩ | ⟨hc2, h⟩
    · injection h with h; subst h
      exact Knows.of (C := C39) wf Try.func39 (cs := [.b false, .b true]) (args := [(.lit (.int .i64 s))]) (r := (.tup [(.lit (.complex .f64 4611686018427387904 0)), (.lit (.bool true))])) (ps := [(s == 774) = false,
          (s == 770) = true]) (by kernel_rfl)
        ⟨(beq_eq_false_iff_ne.2 hc1), (beq_iff_eq.2 hc2), trivial⟩
    · rcases ite_some h with ⟨hc3, h⟩ | ⟨hc3, h⟩
      · injection h with h; subst h
        exact Knows.of (C := C39) wf Try.func39 (cs := [.b false, .b false, .b true]) (args := [(.lit (.int .i64 s))]) (r := (.tup [(.lit (.complex .f64 4613937818241073152 0)), (.lit (.bool true))])) (ps := [(s == 774) = false,
            (s == 770) = false,
            (s == 795) = true]) (by kernel_rfl)
          ⟨(beq_eq_false_iff_ne.2 hc1), (beq_eq_false_iff_ne.2 hc2), (beq_iff_eq.2 hc3), trivial⟩
      · rcases ite_some h with ⟨hc4, h⟩ | ⟨hc4, h⟩
        · injection h with h; subst h
          exact Knows.of (C := C39) wf Try.func39 (cs := [.b false, .b false, .b false, .b true]) (args := [(.lit (.int .i64 s))]) (r := (.tup [(.lit (.complex .f64 0 4607182418800017408)), (.lit (.bool true))])) (ps := [(s == 774) = false,
              (s == 770) = false,
              (s == 795) = false,
              (s == 768) = true]) (by kernel_rfl)
            ⟨(beq_eq_false_iff_ne.2 hc1), (beq_eq_false_iff_ne.2 hc2), (beq_eq_false_iff_ne.2 hc3), (beq_iff_eq.2 hc4), trivial⟩
        · rcases ite_some h with ⟨hc5, h⟩ | ⟨hc5, h⟩
          · injection h with h; subst h
            exact Knows.of (C := C39) wf Try.func39 (cs := [.b false, .b false, .b false, .b false, .b true]) (args := [(.lit (.int .i64 s))]) (r := (.tup [(.lit (.complex .f64 0 4611686018427387904)), (.lit (.bool true))])) (ps := [(s == 774) = false,
                (s == 770) = false,
                (s == 795) = false,
                (s == 768) = false,
                (s == 769) = true]) (by kernel_rfl)
              ⟨(beq_eq_false_iff_ne.2 hc1), (beq_eq_false_iff_ne.2 hc2), (beq_eq_false_iff_ne.2 hc3), (beq_eq_false_iff_ne.2 hc4), (beq_iff_eq.2 hc5), trivial⟩
          · rcases ite_some h with ⟨hc6, h⟩ | ⟨hc6, h⟩
            · injection h with h; subst h
              exact Knows.of (C := C39) wf Try.func39 (cs := [.b false, .b false, .b false, .b false, .b false, .b true]) (args := [(.lit (.int .i64 s))]) (r := (.tup [(.lit (.complex .f64 0 4613937818241073152)), (.lit (.bool true))])) (ps := [(s == 774) = false,
                  (s == 770) = false,
                  (s == 795) = false,
                  (s == 768) = false,
                  (s == 769) = false,
                  (s == 777) = true]) (by kernel_rfl)
                ⟨(beq_eq_false_iff_ne.2 hc1), (beq_eq_false_iff_ne.2 hc2), (beq_eq_false_iff_ne.2 hc3), (beq_eq_false_iff_ne.2 hc4), (beq_eq_false_iff_ne.2 hc5), (beq_iff_eq.2 hc6), trivial⟩
            · rcases ite_some h with ⟨hc7, h⟩ | ⟨hc7, h⟩
              · injection h with h; subst h
                exact Knows.of (C := C39) wf Try.func39 (cs := [.b false, .b false, .b false, .b false, .b false, .b false, .b true]) (args := [(.lit (.int .i64 s))]) (r := (.tup [(.lit (.complex .f64 0 4616189618054758400)), (.lit (.bool true))])) (ps := [(s == 774) = false,
                    (s == 770) = false,
                    (s == 795) = false,
                    (s == 768) = false,
                    (s == 769) = false,
                    (s == 777) = false,
                    (s == 771) = true]) (by kernel_rfl)
                  ⟨(beq_eq_false_iff_ne.2 hc1), (beq_eq_false_iff_ne.2 hc2), (beq_eq_false_iff_ne.2 hc3), (beq_eq_false_iff_ne.2 hc4), (beq_eq_false_iff_ne.2 hc5), (beq_eq_false_iff_ne.2 hc6), (beq_iff_eq.2 hc7), trivial⟩
              · rcases ite_some h with ⟨hc8, h⟩ | ⟨hc8, h⟩
                · injection h with h; subst h
                  exact Knows.of (C := C39) wf Try.func39 (cs := [.b false, .b false, .b false, .b false, .b false, .b false, .b false, .b true]) (args := [(.lit (.int .i64 s))]) (r := (.tup [(.lit (.complex .f64 0 4617315517961601024)), (.lit (.bool true))])) (ps := [(s == 774) = false,
                      (s == 770) = false,
                      (s == 795) = false,
                      (s == 768) = false,
                      (s == 769) = false,
                      (s == 777) = false,
                      (s == 771) = false,
                      (s == 803) = true]) (by kernel_rfl)
                    ⟨(beq_eq_false_iff_ne.2 hc1), (beq_eq_false_iff_ne.2 hc2), (beq_eq_false_iff_ne.2 hc3), (beq_eq_false_iff_ne.2 hc4), (beq_eq_false_iff_ne.2 hc5), (beq_eq_false_iff_ne.2 hc6), (beq_eq_false_iff_ne.2 hc7), (beq_iff_eq.2 hc8), trivial⟩
                · injection h with h; subst h
                  exact Knows.of (C := C39) wf Try.func39 (cs := [.b false, .b false, .b false, .b false, .b false, .b false, .b false, .b false]) (args := [(.lit (.int .i64 s))]) (r := (.tup [(.lit (.complex .f64 0 0)), (.lit (.bool false))])) (ps := [(s == 774) = false,
                      (s == 770) = false,
                      (s == 795) = false,
                      (s == 768) = false,
                      (s == 769) = false,
                      (s == 777) = false,
                      (s == 771) = false,
                      (s == 803) = false]) (by kernel_rfl)
                    ⟨(beq_eq_false_iff_ne.2 hc1), (beq_eq_false_iff_ne.2 hc2), (beq_eq_false_iff_ne.2 hc3), (beq_eq_false_iff_ne.2 hc4), (beq_eq_false_iff_ne.2 hc5), (beq_eq_false_iff_ne.2 hc6), (beq_eq_false_iff_ne.2 hc7), (beq_eq_false_iff_ne.2 hc8), trivial⟩
theorem call_viet_Sign {s : Int} {r} (h : viet_Sign s = some r) (kp : Bool) (σ : List Bx) : CallK Try.prog kp 39 [(.lit (.int .i64 s))] σ (.tup [(.lit (.complex .f64 r.1.1 r.1.2)), (.lit (.bool r.2))]) σ :=
  (knows_viet_Sign s h).call (and_t rfl rfl) rfl kp σ

def h37 : Nat → Option Hint
| 0 => some { keep := [1, 2, 4] }
| 1 => some { keep := [1, 2, 4, 28] }
| 2 => some { keep := [4, 5] }
| 3 => some { keep := [2, 4, 6] }
| 4 => some { keep := [2, 4, 6, 8] }
| 5 => some { keep := [2, 4, 6, 43] }
| 6 => some { keep := [4, 5] }
| 7 => some { keep := [4, 5] }
| _ => none

noncomputable def C37 : Ctx := { P := Try.prog, mv := fun _ _ => false, res := resOf Try.f37, live := h37, call := fun _ _ _ => none }

set_option maxRecDepth 100000 in
theorem knows_viet_Add (l : GVietLetter) (sign : (Nat × Nat)) {r} (h : viet_Add l sign = some r) : Knows Try.prog 37 [(.agg [(.lit (.int .i64 l.base)), (.lit (.complex .f64 l.sign.1 l.sign.2))]), (.lit (.complex .f64 sign.1 sign.2))] (.tup [(.agg [(.lit (.int .i64 r.1.base)), (.lit (.complex .f64 r.1.sign.1 r.1.sign.2))]), (.lit (.bool r.2))]) := by
  unfold viet_Add at h
  rcases ite_some h with ⟨hc1, h⟩ | ⟨hc1, h⟩
  · rcases ite_some h with ⟨hc2, h⟩ | ⟨hc2, h⟩
    · obtain ⟨re, h_re, h⟩ := Option.bind_eq_some_iff.1 h
      obtain ⟨im, h_im, h⟩ := Option.bind_eq_some_iff.1 h
      obtain ⟨q, h_q, h⟩ := Option.bind_eq_some_iff.1 h
      rcases ite_some h with ⟨hc3, h⟩ | ⟨hc3, h⟩
      · injection h with h; subst h
        exact Knows.of (C := C37) wf Try.func37 (cs := [.reg 1 [(2, { it := .val (.float .f64 l.sign.1) }), (3, { it := .val (.bool (!(feq l.sign.1 0))) }), (5, { w := some false }), (6, { w := some false }), (7, { w := some false }), (8, { it := .b false }), (10, { w := some false }), (11, { w := some false }), (12, { it := .val (.float .f64 l.sign.2), w := some false }), (13, { it := .val (.bool (!(feq l.sign.2 0))), w := some false }), (14, { w := some false }), (15, { w := some false }), (16, { w := some false }), (17, { w := some false }), (18, { it := .b false, w := some false }), (19, { it := .b false })], .b false, .reg 3 [(5, { it := .val (.complex .f64 re im) })], .reg 4 [(1, { it := .res (.tup [(.lit (.int .i64 q.1)), (.lit (.bool q.2))]) [.cells 38 [(.lit (.int .i64 l.base)), (.lit (.complex .f64 l.sign.1 l.sign.2))], .cells 38 [(.lit (.int .i64 0)), (.lit (.complex .f64 0 0))], .cells 38 [(.lit (.int .i64 l.base)), (.lit (.complex .f64 re im))]] [] })], .b false]) (args := [(.agg [(.lit (.int .i64 l.base)), (.lit (.complex .f64 l.sign.1 l.sign.2))]), (.lit (.complex .f64 sign.1 sign.2))]) (r := (.tup [(.agg [(.lit (.int .i64 l.base)), (.lit (.complex .f64 re im))]), (.lit (.bool true))])) (ps := [det Try.prog (builtin .real #[36] 47 [false].toArray [(.complex .f64 l.sign.1 l.sign.2)].toArray) = some (.value (.float .f64 l.sign.1)),
            det Try.prog (do eqGuard .neq 47 (.tmp 11) (.const (.float .f64 0)) (.float .f64 l.sign.1) (.float .f64 0); binOp .neq 47 (.float .f64 l.sign.1) (.float .f64 0)) = some (.bool (!(feq l.sign.1 0))),
            (!(feq l.sign.1 0)) = false,
            (!(feq l.sign.1 0)) = false,
            (!(feq l.sign.1 0)) = false,
            (!(feq l.sign.1 0)) = false,
            false = false,
            false = false,
            false = false,
            det Try.prog (builtin .imag #[36] 47 [false].toArray [(.complex .f64 l.sign.1 l.sign.2)].toArray) = some (.value (.float .f64 l.sign.2)),
            false = false,
            det Try.prog (do eqGuard .neq 47 (.tmp 21) (.const (.float .f64 0)) (.float .f64 l.sign.2) (.float .f64 0); binOp .neq 47 (.float .f64 l.sign.2) (.float .f64 0)) = some (.bool (!(feq l.sign.2 0))),
            false = false,
            (!(feq l.sign.2 0)) = false,
            (!(feq l.sign.2 0)) = false,
            (!(feq l.sign.2 0)) = false,
            false = false,
            (!(feq l.sign.2 0)) = false,
            false = false,
            false = false,
            det Try.prog (do eqGuard .add 36 (.tmp 33) (.tmp 34) (.complex .f64 l.sign.1 l.sign.2) (.complex .f64 sign.1 sign.2); binOp .add 36 (.complex .f64 l.sign.1 l.sign.2) (.complex .f64 sign.1 sign.2)) = some (.complex .f64 re im),
            CallK Try.prog false 34 [(.agg [(.lit (.int .i64 l.base)), (.lit (.complex .f64 re im))])] [.cells 38 [(.lit (.int .i64 l.base)), (.lit (.complex .f64 l.sign.1 l.sign.2))], .cells 38 [(.lit (.int .i64 0)), (.lit (.complex .f64 0 0))], .cells 38 [(.lit (.int .i64 l.base)), (.lit (.complex .f64 re im))]] (.tup [(.lit (.int .i64 q.1)), (.lit (.bool q.2))]) [.cells 38 [(.lit (.int .i64 l.base)), (.lit (.complex .f64 l.sign.1 l.sign.2))], .cells 38 [(.lit (.int .i64 0)), (.lit (.complex .f64 0 0))], .cells 38 [(.lit (.int .i64 l.base)), (.lit (.complex .f64 re im))]],
            (!q.2) = false]) (by kernel_rfl)
          ⟨rfl, (det_fneq _ _ _ _ _ _), (not_f hc1), (not_f hc1), (not_f hc1), (not_f hc1), rfl, rfl, rfl, rfl, rfl, (det_fneq _ _ _ _ _ _), rfl, (not_f hc2), (not_f hc2), (not_f hc2), rfl, (not_f hc2), rfl, rfl, (det_cadd h_re h_im), (call_viet_Join h_q _ _), (not_f hc3), trivial⟩
      · injection h with h; subst h
        exact Knows.of (C := C37) wf Try.func37 (cs := [.reg 1 [(2, { it := .val (.float .f64 l.sign.1) }), (3, { it := .val (.bool (!(feq l.sign.1 0))) }), (5, { w := some false }), (6, { w := some false }), (7, { w := some false }), (8, { it := .b false }), (10, { w := some false }), (11, { w := some false }), (12, { it := .val (.float .f64 l.sign.2), w := some false }), (13, { it := .val (.bool (!(feq l.sign.2 0))), w := some false }), (14, { w := some false }), (15, { w := some false }), (16, { w := some false }), (17, { w := some false }), (18, { it := .b false, w := some false }), (19, { it := .b false })], .b false, .reg 3 [(5, { it := .val (.complex .f64 re im) })], .reg 4 [(1, { it := .res (.tup [(.lit (.int .i64 q.1)), (.lit (.bool q.2))]) [.cells 38 [(.lit (.int .i64 l.base)), (.lit (.complex .f64 l.sign.1 l.sign.2))], .cells 38 [(.lit (.int .i64 0)), (.lit (.complex .f64 0 0))], .cells 38 [(.lit (.int .i64 l.base)), (.lit (.complex .f64 re im))]] [] })], .b true]) (args := [(.agg [(.lit (.int .i64 l.base)), (.lit (.complex .f64 l.sign.1 l.sign.2))]), (.lit (.complex .f64 sign.1 sign.2))]) (r := (.tup [(.agg [(.lit (.int .i64 l.base)), (.lit (.complex .f64 l.sign.1 l.sign.2))]), (.lit (.bool false))])) (ps := [det Try.prog (builtin .real #[36] 47 [false].toArray [(.complex .f64 l.sign.1 l.sign.2)].toArray) = some (.value (.float .f64 l.sign.1)),
            det Try.prog (do eqGuard .neq 47 (.tmp 11) (.const (.float .f64 0)) (.float .f64 l.sign.1) (.float .f64 0); binOp .neq 47 (.float .f64 l.sign.1) (.float .f64 0)) = some (.bool (!(feq l.sign.1 0))),
            (!(feq l.sign.1 0)) = false,
            (!(feq l.sign.1 0)) = false,
            (!(feq l.sign.1 0)) = false,
            (!(feq l.sign.1 0)) = false,
            false = false,
            false = false,
            false = false,
            det Try.prog (builtin .imag #[36] 47 [false].toArray [(.complex .f64 l.sign.1 l.sign.2)].toArray) = some (.value (.float .f64 l.sign.2)),
            false = false,
            det Try.prog (do eqGuard .neq 47 (.tmp 21) (.const (.float .f64 0)) (.float .f64 l.sign.2) (.float .f64 0); binOp .neq 47 (.float .f64 l.sign.2) (.float .f64 0)) = some (.bool (!(feq l.sign.2 0))),
            false = false,
            (!(feq l.sign.2 0)) = false,
            (!(feq l.sign.2 0)) = false,
            (!(feq l.sign.2 0)) = false,
            false = false,
            (!(feq l.sign.2 0)) = false,
            false = false,
            false = false,
            det Try.prog (do eqGuard .add 36 (.tmp 33) (.tmp 34) (.complex .f64 l.sign.1 l.sign.2) (.complex .f64 sign.1 sign.2); binOp .add 36 (.complex .f64 l.sign.1 l.sign.2) (.complex .f64 sign.1 sign.2)) = some (.complex .f64 re im),
            CallK Try.prog false 34 [(.agg [(.lit (.int .i64 l.base)), (.lit (.complex .f64 re im))])] [.cells 38 [(.lit (.int .i64 l.base)), (.lit (.complex .f64 l.sign.1 l.sign.2))], .cells 38 [(.lit (.int .i64 0)), (.lit (.complex .f64 0 0))], .cells 38 [(.lit (.int .i64 l.base)), (.lit (.complex .f64 re im))]] (.tup [(.lit (.int .i64 q.1)), (.lit (.bool q.2))]) [.cells 38 [(.lit (.int .i64 l.base)), (.lit (.complex .f64 l.sign.1 l.sign.2))], .cells 38 [(.lit (.int .i64 0)), (.lit (.complex .f64 0 0))], .cells 38 [(.lit (.int .i64 l.base)), (.lit (.complex .f64 re im))]],
            (!q.2) = true]) (by kernel_rfl)
          ⟨rfl, (det_fneq _ _ _ _ _ _), (not_f hc1), (not_f hc1), (not_f hc1), (not_f hc1), rfl, rfl, rfl, rfl, rfl, (det_fneq _ _ _ _ _ _), rfl, (not_f hc2), (not_f hc2), (not_f hc2), rfl, (not_f hc2), rfl, rfl, (det_cadd h_re h_im), (call_viet_Join h_q _ _), (not_t (Bool.eq_false_iff.2 hc3)), trivial⟩
    · rcases ite_some h with ⟨hc4, h⟩ | ⟨hc4, h⟩
      · obtain ⟨re, h_re, h⟩ := Option.bind_eq_some_iff.1 h
        obtain ⟨im, h_im, h⟩ := Option.bind_eq_some_iff.1 h
        obtain ⟨q, h_q, h⟩ := Option.bind_eq_some_iff.1 h
        rcases ite_some h with ⟨hc5, h⟩ | ⟨hc5, h⟩
        · injection h with h; subst h
          exact Knows.of (C := C37) wf Try.func37 (cs := [.reg 1 [(2, { it := .val (.float .f64 l.sign.1) }), (3, { it := .val (.bool (!(feq l.sign.1 0))) }), (5, { w := some false }), (6, { w := some false }), (7, { w := some false }), (8, { it := .b false }), (10, { w := some false }), (11, { w := some false }), (12, { it := .val (.float .f64 l.sign.2), w := some false }), (13, { it := .val (.bool (!(feq l.sign.2 0))), w := some false }), (14, { w := some false }), (15, { w := some true }), (16, { it := .val (.float .f64 sign.2), w := some true }), (17, { it := .val (.bool (!(feq sign.2 0))), w := some true }), (18, { it := .b true, w := some false }), (19, { it := .b false })], .b false, .reg 3 [(5, { it := .val (.complex .f64 re im) })], .reg 4 [(1, { it := .res (.tup [(.lit (.int .i64 q.1)), (.lit (.bool q.2))]) [.cells 38 [(.lit (.int .i64 l.base)), (.lit (.complex .f64 l.sign.1 l.sign.2))], .cells 38 [(.lit (.int .i64 0)), (.lit (.complex .f64 0 0))], .cells 38 [(.lit (.int .i64 l.base)), (.lit (.complex .f64 re im))]] [] })], .b false]) (args := [(.agg [(.lit (.int .i64 l.base)), (.lit (.complex .f64 l.sign.1 l.sign.2))]), (.lit (.complex .f64 sign.1 sign.2))]) (r := (.tup [(.agg [(.lit (.int .i64 l.base)), (.lit (.complex .f64 re im))]), (.lit (.bool true))])) (ps := [det Try.prog (builtin .real #[36] 47 [false].toArray [(.complex .f64 l.sign.1 l.sign.2)].toArray) = some (.value (.float .f64 l.sign.1)),
              det Try.prog (do eqGuard .neq 47 (.tmp 11) (.const (.float .f64 0)) (.float .f64 l.sign.1) (.float .f64 0); binOp .neq 47 (.float .f64 l.sign.1) (.float .f64 0)) = some (.bool (!(feq l.sign.1 0))),
              (!(feq l.sign.1 0)) = false,
              (!(feq l.sign.1 0)) = false,
              (!(feq l.sign.1 0)) = false,
              (!(feq l.sign.1 0)) = false,
              false = false,
              false = false,
              false = false,
              det Try.prog (builtin .imag #[36] 47 [false].toArray [(.complex .f64 l.sign.1 l.sign.2)].toArray) = some (.value (.float .f64 l.sign.2)),
              false = false,
              det Try.prog (do eqGuard .neq 47 (.tmp 21) (.const (.float .f64 0)) (.float .f64 l.sign.2) (.float .f64 0); binOp .neq 47 (.float .f64 l.sign.2) (.float .f64 0)) = some (.bool (!(feq l.sign.2 0))),
              false = false,
              (!(feq l.sign.2 0)) = true,
              (!(feq l.sign.2 0)) = true,
              det Try.prog (builtin .imag #[36] 47 [false].toArray [(.complex .f64 sign.1 sign.2)].toArray) = some (.value (.float .f64 sign.2)),
              (!(feq l.sign.2 0)) = true,
              det Try.prog (do eqGuard .neq 47 (.tmp 25) (.const (.float .f64 0)) (.float .f64 sign.2) (.float .f64 0); binOp .neq 47 (.float .f64 sign.2) (.float .f64 0)) = some (.bool (!(feq sign.2 0))),
              false = false,
              (!(feq l.sign.2 0)) = true,
              false = false,
              (!(feq sign.2 0)) = false,
              det Try.prog (do eqGuard .add 36 (.tmp 33) (.tmp 34) (.complex .f64 l.sign.1 l.sign.2) (.complex .f64 sign.1 sign.2); binOp .add 36 (.complex .f64 l.sign.1 l.sign.2) (.complex .f64 sign.1 sign.2)) = some (.complex .f64 re im),
              CallK Try.prog false 34 [(.agg [(.lit (.int .i64 l.base)), (.lit (.complex .f64 re im))])] [.cells 38 [(.lit (.int .i64 l.base)), (.lit (.complex .f64 l.sign.1 l.sign.2))], .cells 38 [(.lit (.int .i64 0)), (.lit (.complex .f64 0 0))], .cells 38 [(.lit (.int .i64 l.base)), (.lit (.complex .f64 re im))]] (.tup [(.lit (.int .i64 q.1)), (.lit (.bool q.2))]) [.cells 38 [(.lit (.int .i64 l.base)), (.lit (.complex .f64 l.sign.1 l.sign.2))], .cells 38 [(.lit (.int .i64 0)), (.lit (.complex .f64 0 0))], .cells 38 [(.lit (.int .i64 l.base)), (.lit (.complex .f64 re im))]],
              (!q.2) = false]) (by kernel_rfl)
            ⟨rfl, (det_fneq _ _ _ _ _ _), (not_f hc1), (not_f hc1), (not_f hc1), (not_f hc1), rfl, rfl, rfl, rfl, rfl, (det_fneq _ _ _ _ _ _), rfl, (not_t (Bool.eq_false_iff.2 hc2)), (not_t (Bool.eq_false_iff.2 hc2)), rfl, (not_t (Bool.eq_false_iff.2 hc2)), (det_fneq _ _ _ _ _ _), rfl, (not_t (Bool.eq_false_iff.2 hc2)), rfl, (not_f hc4), (det_cadd h_re h_im), (call_viet_Join h_q _ _), (not_f hc5), trivial⟩
        · injection h with h; subst h
          exact Knows.of (C := C37) wf Try.func37 (cs := [.reg 1 [(2, { it := .val (.float .f64 l.sign.1) }), (3, { it := .val (.bool (!(feq l.sign.1 0))) }), (5, { w := some false }), (6, { w := some false }), (7, { w := some false }), (8, { it := .b false }), (10, { w := some false }), (11, { w := some false }), (12, { it := .val (.float .f64 l.sign.2), w := some false }), (13, { it := .val (.bool (!(feq l.sign.2 0))), w := some false }), (14, { w := some false }), (15, { w := some true }), (16, { it := .val (.float .f64 sign.2), w := some true }), (17, { it := .val (.bool (!(feq sign.2 0))), w := some true }), (18, { it := .b true, w := some false }), (19, { it := .b false })], .b false, .reg 3 [(5, { it := .val (.complex .f64 re im) })], .reg 4 [(1, { it := .res (.tup [(.lit (.int .i64 q.1)), (.lit (.bool q.2))]) [.cells 38 [(.lit (.int .i64 l.base)), (.lit (.complex .f64 l.sign.1 l.sign.2))], .cells 38 [(.lit (.int .i64 0)), (.lit (.complex .f64 0 0))], .cells 38 [(.lit (.int .i64 l.base)), (.lit (.complex .f64 re im))]] [] })], .b true]) (args := [(.agg [(.lit (.int .i64 l.base)), (.lit (.complex .f64 l.sign.1 l.sign.2))]), (.lit (.complex .f64 sign.1 sign.2))]) (r := (.tup [(.agg [(.lit (.int .i64 l.base)), (.lit (.complex .f64 l.sign.1 l.sign.2))]), (.lit (.bool false))])) (ps := [det Try.prog (builtin .real #[36] 47 [false].toArray [(.complex .f64 l.sign.1 l.sign.2)].toArray) = some (.value (.float .f64 l.sign.1)),
              det Try.prog (do eqGuard .neq 47 (.tmp 11) (.const (.float .f64 0)) (.float .f64 l.sign.1) (.float .f64 0); binOp .neq 47 (.float .f64 l.sign.1) (.float .f64 0)) = some (.bool (!(feq l.sign.1 0))),
              (!(feq l.sign.1 0)) = false,
              (!(feq l.sign.1 0)) = false,
              (!(feq l.sign.1 0)) = false,
              (!(feq l.sign.1 0)) = false,
              false = false,
              false = false,
              false = false,
              det Try.prog (builtin .imag #[36] 47 [false].toArray [(.complex .f64 l.sign.1 l.sign.2)].toArray) = some (.value (.float .f64 l.sign.2)),
              false = false,
              det Try.prog (do eqGuard .neq 47 (.tmp 21) (.const (.float .f64 0)) (.float .f64 l.sign.2) (.float .f64 0); binOp .neq 47 (.float .f64 l.sign.2) (.float .f64 0)) = some (.bool (!(feq l.sign.2 0))),
              false = false,
              (!(feq l.sign.2 0)) = true,
              (!(feq l.sign.2 0)) = true,
              det Try.prog (builtin .imag #[36] 47 [false].toArray [(.complex .f64 sign.1 sign.2)].toArray) = some (.value (.float .f64 sign.2)),
              (!(feq l.sign.2 0)) = true,
              det Try.prog (do eqGuard .neq 47 (.tmp 25) (.const (.float .f64 0)) (.float .f64 sign.2) (.float .f64 0); binOp .neq 47 (.float .f64 sign.2) (.float .f64 0)) = some (.bool (!(feq sign.2 0))),
              false = false,
              (!(feq l.sign.2 0)) = true,
              false = false,
              (!(feq sign.2 0)) = false,
              det Try.prog (do eqGuard .add 36 (.tmp 33) (.tmp 34) (.complex .f64 l.sign.1 l.sign.2) (.complex .f64 sign.1 sign.2); binOp .add 36 (.complex .f64 l.sign.1 l.sign.2) (.complex .f64 sign.1 sign.2)) = some (.complex .f64 re im),
              CallK Try.prog false 34 [(.agg [(.lit (.int .i64 l.base)), (.lit (.complex .f64 re im))])] [.cells 38 [(.lit (.int .i64 l.base)), (.lit (.complex .f64 l.sign.1 l.sign.2))], .cells 38 [(.lit (.int .i64 0)), (.lit (.complex .f64 0 0))], .cells 38 [(.lit (.int .i64 l.base)), (.lit (.complex .f64 re im))]] (.tup [(.lit (.int .i64 q.1)), (.lit (.bool q.2))]) [.cells 38 [(.lit (.int .i64 l.base)), (.lit (.complex .f64 l.sign.1 l.sign.2))], .cells 38 [(.lit (.int .i64 0)), (.lit (.complex .f64 0 0))], .cells 38 [(.lit (.int .i64 l.base)), (.lit (.complex .f64 re im))]],
              (!q.2) = true]) (by kernel_rfl)
            ⟨rfl, (det_fneq _ _ _ _ _ _), (not_f hc1), (not_f hc1), (not_f hc1), (not_f hc1), rfl, rfl, rfl, rfl, rfl, (det_fneq _ _ _ _ _ _), rfl, (not_t (Bool.eq_false_iff.2 hc2)), (not_t (Bool.eq_false_iff.2 hc2)), rfl, (not_t (Bool.eq_false_iff.2 hc2)), (det_fneq _ _ _ _ _ _), rfl, (not_t (Bool.eq_false_iff.2 hc2)), rfl, (not_f hc4), (det_cadd h_re h_im), (call_viet_Join h_q _ _), (not_t (Bool.eq_false_iff.2 hc5)), trivial⟩
      · injection h with h; subst h
        exact Knows.of (C := C37) wf Try.func37 (cs := [.reg 1 [(2, { it := .val (.float .f64 l.sign.1) }), (3, { it := .val (.bool (!(feq l.sign.1 0))) }), (5, { w := some false }), (6, { w := some false }), (7, { w := some false }), (8, { it := .b false }), (10, { w := some false }), (11, { w := some false }), (12, { it := .val (.float .f64 l.sign.2), w := some false }), (13, { it := .val (.bool (!(feq l.sign.2 0))), w := some false }), (14, { w := some false }), (15, { w := some true }), (16, { it := .val (.float .f64 sign.2), w := some true }), (17, { it := .val (.bool (!(feq sign.2 0))), w := some true }), (18, { it := .b true, w := some false }), (19, { it := .b false })], .b true]) (args := [(.agg [(.lit (.int .i64 l.base)), (.lit (.complex .f64 l.sign.1 l.sign.2))]), (.lit (.complex .f64 sign.1 sign.2))]) (r := (.tup [(.agg [(.lit (.int .i64 l.base)), (.lit (.complex .f64 l.sign.1 l.sign.2))]), (.lit (.bool false))])) (ps := [det Try.prog (builtin .real #[36] 47 [false].toArray [(.complex .f64 l.sign.1 l.sign.2)].toArray) = some (.value (.float .f64 l.sign.1)),
            det Try.prog (do eqGuard .neq 47 (.tmp 11) (.const (.float .f64 0)) (.float .f64 l.sign.1) (.float .f64 0); binOp .neq 47 (.float .f64 l.sign.1) (.float .f64 0)) = some (.bool (!(feq l.sign.1 0))),
            (!(feq l.sign.1 0)) = false,
            (!(feq l.sign.1 0)) = false,
            (!(feq l.sign.1 0)) = false,
            (!(feq l.sign.1 0)) = false,
            false = false,
            false = false,
            false = false,
            det Try.prog (builtin .imag #[36] 47 [false].toArray [(.complex .f64 l.sign.1 l.sign.2)].toArray) = some (.value (.float .f64 l.sign.2)),
            false = false,
            det Try.prog (do eqGuard .neq 47 (.tmp 21) (.const (.float .f64 0)) (.float .f64 l.sign.2) (.float .f64 0); binOp .neq 47 (.float .f64 l.sign.2) (.float .f64 0)) = some (.bool (!(feq l.sign.2 0))),
            false = false,
            (!(feq l.sign.2 0)) = true,
            (!(feq l.sign.2 0)) = true,
            det Try.prog (builtin .imag #[36] 47 [false].toArray [(.complex .f64 sign.1 sign.2)].toArray) = some (.value (.float .f64 sign.2)),
            (!(feq l.sign.2 0)) = true,
            det Try.prog (do eqGuard .neq 47 (.tmp 25) (.const (.float .f64 0)) (.float .f64 sign.2) (.float .f64 0); binOp .neq 47 (.float .f64 sign.2) (.float .f64 0)) = some (.bool (!(feq sign.2 0))),
            false = false,
            (!(feq l.sign.2 0)) = true,
            false = false,
            (!(feq sign.2 0)) = true]) (by kernel_rfl)
          ⟨rfl, (det_fneq _ _ _ _ _ _), (not_f hc1), (not_f hc1), (not_f hc1), (not_f hc1), rfl, rfl, rfl, rfl, rfl, (det_fneq _ _ _ _ _ _), rfl, (not_t (Bool.eq_false_iff.2 hc2)), (not_t (Bool.eq_false_iff.2 hc2)), rfl, (not_t (Bool.eq_false_iff.2 hc2)), (det_fneq _ _ _ _ _ _), rfl, (not_t (Bool.eq_false_iff.2 hc2)), rfl, (not_t (Bool.eq_false_iff.2 hc4)), trivial⟩
  · rcases ite_some h with ⟨hc6, h⟩ | ⟨hc6, h⟩
    · rcases ite_some h with ⟨hc7, h⟩ | ⟨hc7, h⟩
      · obtain ⟨re, h_re, h⟩ := Option.bind_eq_some_iff.1 h
        obtain ⟨im, h_im, h⟩ := Option.bind_eq_some_iff.1 h
        obtain ⟨q, h_q, h⟩ := Option.bind_eq_some_iff.1 h
        rcases ite_some h with ⟨hc8, h⟩ | ⟨hc8, h⟩
        · injection h with h; subst h
          exact Knows.of (C := C37) wf Try.func37 (cs := [.reg 1 [(2, { it := .val (.float .f64 l.sign.1) }), (3, { it := .val (.bool (!(feq l.sign.1 0))) }), (5, { w := some true }), (6, { it := .val (.float .f64 sign.1), w := some true }), (7, { it := .val (.bool (!(feq sign.1 0))), w := some true }), (8, { it := .b true }), (10, { w := some false }), (11, { w := some false }), (12, { it := .val (.float .f64 l.sign.2), w := some false }), (13, { it := .val (.bool (!(feq l.sign.2 0))), w := some false }), (14, { w := some false }), (15, { w := some false }), (16, { w := some false }), (17, { w := some false }), (18, { it := .b false, w := some false }), (19, { it := .b false })], .b false, .reg 3 [(5, { it := .val (.complex .f64 re im) })], .reg 4 [(1, { it := .res (.tup [(.lit (.int .i64 q.1)), (.lit (.bool q.2))]) [.cells 38 [(.lit (.int .i64 l.base)), (.lit (.complex .f64 l.sign.1 l.sign.2))], .cells 38 [(.lit (.int .i64 0)), (.lit (.complex .f64 0 0))], .cells 38 [(.lit (.int .i64 l.base)), (.lit (.complex .f64 re im))]] [] })], .b false]) (args := [(.agg [(.lit (.int .i64 l.base)), (.lit (.complex .f64 l.sign.1 l.sign.2))]), (.lit (.complex .f64 sign.1 sign.2))]) (r := (.tup [(.agg [(.lit (.int .i64 l.base)), (.lit (.complex .f64 re im))]), (.lit (.bool true))])) (ps := [det Try.prog (builtin .real #[36] 47 [false].toArray [(.complex .f64 l.sign.1 l.sign.2)].toArray) = some (.value (.float .f64 l.sign.1)),
              det Try.prog (do eqGuard .neq 47 (.tmp 11) (.const (.float .f64 0)) (.float .f64 l.sign.1) (.float .f64 0); binOp .neq 47 (.float .f64 l.sign.1) (.float .f64 0)) = some (.bool (!(feq l.sign.1 0))),
              (!(feq l.sign.1 0)) = true,
              (!(feq l.sign.1 0)) = true,
              det Try.prog (builtin .real #[36] 47 [false].toArray [(.complex .f64 sign.1 sign.2)].toArray) = some (.value (.float .f64 sign.1)),
              (!(feq l.sign.1 0)) = true,
              det Try.prog (do eqGuard .neq 47 (.tmp 15) (.const (.float .f64 0)) (.float .f64 sign.1) (.float .f64 0); binOp .neq 47 (.float .f64 sign.1) (.float .f64 0)) = some (.bool (!(feq sign.1 0))),
              (!(feq l.sign.1 0)) = true,
              (!(feq sign.1 0)) = false,
              (!(feq sign.1 0)) = false,
              (!(feq sign.1 0)) = false,
              det Try.prog (builtin .imag #[36] 47 [false].toArray [(.complex .f64 l.sign.1 l.sign.2)].toArray) = some (.value (.float .f64 l.sign.2)),
              (!(feq sign.1 0)) = false,
              det Try.prog (do eqGuard .neq 47 (.tmp 21) (.const (.float .f64 0)) (.float .f64 l.sign.2) (.float .f64 0); binOp .neq 47 (.float .f64 l.sign.2) (.float .f64 0)) = some (.bool (!(feq l.sign.2 0))),
              (!(feq sign.1 0)) = false,
              (!(feq l.sign.2 0)) = false,
              (!(feq l.sign.2 0)) = false,
              (!(feq l.sign.2 0)) = false,
              (!(feq sign.1 0)) = false,
              (!(feq l.sign.2 0)) = false,
              (!(feq sign.1 0)) = false,
              false = false,
              det Try.prog (do eqGuard .add 36 (.tmp 33) (.tmp 34) (.complex .f64 l.sign.1 l.sign.2) (.complex .f64 sign.1 sign.2); binOp .add 36 (.complex .f64 l.sign.1 l.sign.2) (.complex .f64 sign.1 sign.2)) = some (.complex .f64 re im),
              CallK Try.prog false 34 [(.agg [(.lit (.int .i64 l.base)), (.lit (.complex .f64 re im))])] [.cells 38 [(.lit (.int .i64 l.base)), (.lit (.complex .f64 l.sign.1 l.sign.2))], .cells 38 [(.lit (.int .i64 0)), (.lit (.complex .f64 0 0))], .cells 38 [(.lit (.int .i64 l.base)), (.lit (.complex .f64 re im))]] (.tup [(.lit (.int .i64 q.1)), (.lit (.bool q.2))]) [.cells 38 [(.lit (.int .i64 l.base)), (.lit (.complex .f64 l.sign.1 l.sign.2))], .cells 38 [(.lit (.int .i64 0)), (.lit (.complex .f64 0 0))], .cells 38 [(.lit (.int .i64 l.base)), (.lit (.complex .f64 re im))]],
              (!q.2) = false]) (by kernel_rfl)
            ⟨rfl, (det_fneq _ _ _ _ _ _), (not_t (Bool.eq_false_iff.2 hc1)), (not_t (Bool.eq_false_iff.2 hc1)), rfl, (not_t (Bool.eq_false_iff.2 hc1)), (det_fneq _ _ _ _ _ _), (not_t (Bool.eq_false_iff.2 hc1)), (not_f hc6), (not_f hc6), (not_f hc6), rfl, (not_f hc6), (det_fneq _ _ _ _ _ _), (not_f hc6), (not_f hc7), (not_f hc7), (not_f hc7), (not_f hc6), (not_f hc7), (not_f hc6), rfl, (det_cadd h_re h_im), (call_viet_Join h_q _ _), (not_f hc8), trivial⟩
        · injection h with h; subst h
          exact Knows.of (C := C37) wf Try.func37 (cs := [.reg 1 [(2, { it := .val (.float .f64 l.sign.1) }), (3, { it := .val (.bool (!(feq l.sign.1 0))) }), (5, { w := some true }), (6, { it := .val (.float .f64 sign.1), w := some true }), (7, { it := .val (.bool (!(feq sign.1 0))), w := some true }), (8, { it := .b true }), (10, { w := some false }), (11, { w := some false }), (12, { it := .val (.float .f64 l.sign.2), w := some false }), (13, { it := .val (.bool (!(feq l.sign.2 0))), w := some false }), (14, { w := some false }), (15, { w := some false }), (16, { w := some false }), (17, { w := some false }), (18, { it := .b false, w := some false }), (19, { it := .b false })], .b false, .reg 3 [(5, { it := .val (.complex .f64 re im) })], .reg 4 [(1, { it := .res (.tup [(.lit (.int .i64 q.1)), (.lit (.bool q.2))]) [.cells 38 [(.lit (.int .i64 l.base)), (.lit (.complex .f64 l.sign.1 l.sign.2))], .cells 38 [(.lit (.int .i64 0)), (.lit (.complex .f64 0 0))], .cells 38 [(.lit (.int .i64 l.base)), (.lit (.complex .f64 re im))]] [] })], .b true]) (args := [(.agg [(.lit (.int .i64 l.base)), (.lit (.complex .f64 l.sign.1 l.sign.2))]), (.lit (.complex .f64 sign.1 sign.2))]) (r := (.tup [(.agg [(.lit (.int .i64 l.base)), (.lit (.complex .f64 l.sign.1 l.sign.2))]), (.lit (.bool false))])) (ps := [det Try.prog (builtin .real #[36] 47 [false].toArray [(.complex .f64 l.sign.1 l.sign.2)].toArray) = some (.value (.float .f64 l.sign.1)),
              det Try.prog (do eqGuard .neq 47 (.tmp 11) (.const (.float .f64 0)) (.float .f64 l.sign.1) (.float .f64 0); binOp .neq 47 (.float .f64 l.sign.1) (.float .f64 0)) = some (.bool (!(feq l.sign.1 0))),
              (!(feq l.sign.1 0)) = true,
              (!(feq l.sign.1 0)) = true,
              det Try.prog (builtin .real #[36] 47 [false].toArray [(.complex .f64 sign.1 sign.2)].toArray) = some (.value (.float .f64 sign.1)),
              (!(feq l.sign.1 0)) = true,
              det Try.prog (do eqGuard .neq 47 (.tmp 15) (.const (.float .f64 0)) (.float .f64 sign.1) (.float .f64 0); binOp .neq 47 (.float .f64 sign.1) (.float .f64 0)) = some (.bool (!(feq sign.1 0))),
              (!(feq l.sign.1 0)) = true,
              (!(feq sign.1 0)) = false,
              (!(feq sign.1 0)) = false,
              (!(feq sign.1 0)) = false,
              det Try.prog (builtin .imag #[36] 47 [false].toArray [(.complex .f64 l.sign.1 l.sign.2)].toArray) = some (.value (.float .f64 l.sign.2)),
              (!(feq sign.1 0)) = false,
              det Try.prog (do eqGuard .neq 47 (.tmp 21) (.const (.float .f64 0)) (.float .f64 l.sign.2) (.float .f64 0); binOp .neq 47 (.float .f64 l.sign.2) (.float .f64 0)) = some (.bool (!(feq l.sign.2 0))),
              (!(feq sign.1 0)) = false,
              (!(feq l.sign.2 0)) = false,
              (!(feq l.sign.2 0)) = false,
              (!(feq l.sign.2 0)) = false,
              (!(feq sign.1 0)) = false,
              (!(feq l.sign.2 0)) = false,
              (!(feq sign.1 0)) = false,
              false = false,
              det Try.prog (do eqGuard .add 36 (.tmp 33) (.tmp 34) (.complex .f64 l.sign.1 l.sign.2) (.complex .f64 sign.1 sign.2); binOp .add 36 (.complex .f64 l.sign.1 l.sign.2) (.complex .f64 sign.1 sign.2)) = some (.complex .f64 re im),
              CallK Try.prog false 34 [(.agg [(.lit (.int .i64 l.base)), (.lit (.complex .f64 re im))])] [.cells 38 [(.lit (.int .i64 l.base)), (.lit (.complex .f64 l.sign.1 l.sign.2))], .cells 38 [(.lit (.int .i64 0)), (.lit (.complex .f64 0 0))], .cells 38 [(.lit (.int .i64 l.base)), (.lit (.complex .f64 re im))]] (.tup [(.lit (.int .i64 q.1)), (.lit (.bool q.2))]) [.cells 38 [(.lit (.int .i64 l.base)), (.lit (.complex .f64 l.sign.1 l.sign.2))], .cells 38 [(.lit (.int .i64 0)), (.lit (.complex .f64 0 0))], .cells 38 [(.lit (.int .i64 l.base)), (.lit (.complex .f64 re im))]],
              (!q.2) = true]) (by kernel_rfl)
            ⟨rfl, (det_fneq _ _ _ _ _ _), (not_t (Bool.eq_false_iff.2 hc1)), (not_t (Bool.eq_false_iff.2 hc1)), rfl, (not_t (Bool.eq_false_iff.2 hc1)), (det_fneq _ _ _ _ _ _), (not_t (Bool.eq_false_iff.2 hc1)), (not_f hc6), (not_f hc6), (not_f hc6), rfl, (not_f hc6), (det_fneq _ _ _ _ _ _), (not_f hc6), (not_f hc7), (not_f hc7), (not_f hc7), (not_f hc6), (not_f hc7), (not_f hc6), rfl, (det_cadd h_re h_im), (call_viet_Join h_q _ _), (not_t (Bool.eq_false_iff.2 hc8)), trivial⟩
      · rcases ite_some h with ⟨hc9, h⟩ | ⟨hc9, h⟩
        · obtain ⟨re, h_re, h⟩ := Option.bind_eq_some_iff.1 h
          obtain ⟨im, h_im, h⟩ := Option.bind_eq_some_iff.1 h
          obtain ⟨q, h_q, h⟩ := Option.bind_eq_some_iff.1 h
          rcases ite_some h with ⟨hc10, h⟩ | ⟨hc10, h⟩
          · injection h with h; subst h
            exact Knows.of (C := C37) wf Try.func37 (cs := [.reg 1 [(2, { it := .val (.float .f64 l.sign.1) }), (3, { it := .val (.bool (!(feq l.sign.1 0))) }), (5, { w := some true }), (6, { it := .val (.float .f64 sign.1), w := some true }), (7, { it := .val (.bool (!(feq sign.1 0))), w := some true }), (8, { it := .b true }), (10, { w := some false }), (11, { w := some false }), (12, { it := .val (.float .f64 l.sign.2), w := some false }), (13, { it := .val (.bool (!(feq l.sign.2 0))), w := some false }), (14, { w := some false }), (15, { w := some true }), (16, { it := .val (.float .f64 sign.2), w := some true }), (17, { it := .val (.bool (!(feq sign.2 0))), w := some true }), (18, { it := .b true, w := some false }), (19, { it := .b false })], .b false, .reg 3 [(5, { it := .val (.complex .f64 re im) })], .reg 4 [(1, { it := .res (.tup [(.lit (.int .i64 q.1)), (.lit (.bool q.2))]) [.cells 38 [(.lit (.int .i64 l.base)), (.lit (.complex .f64 l.sign.1 l.sign.2))], .cells 38 [(.lit (.int .i64 0)), (.lit (.complex .f64 0 0))], .cells 38 [(.lit (.int .i64 l.base)), (.lit (.complex .f64 re im))]] [] })], .b false]) (args := [(.agg [(.lit (.int .i64 l.base)), (.lit (.complex .f64 l.sign.1 l.sign.2))]), (.lit (.complex .f64 sign.1 sign.2))]) (r := (.tup [(.agg [(.lit (.int .i64 l.base)), (.lit (.complex .f64 re im))]), (.lit (.bool true))])) (ps := [det Try.prog (builtin .real #[36] 47 [false].toArray [(.complex .f64 l.sign.1 l.sign.2)].toArray) = some (.value (.float .f64 l.sign.1)),
                det Try.prog (do eqGuard .neq 47 (.tmp 11) (.const (.float .f64 0)) (.float .f64 l.sign.1) (.float .f64 0); binOp .neq 47 (.float .f64 l.sign.1) (.float .f64 0)) = some (.bool (!(feq l.sign.1 0))),
                (!(feq l.sign.1 0)) = true,
                (!(feq l.sign.1 0)) = true,
                det Try.prog (builtin .real #[36] 47 [false].toArray [(.complex .f64 sign.1 sign.2)].toArray) = some (.value (.float .f64 sign.1)),
                (!(feq l.sign.1 0)) = true,
                det Try.prog (do eqGuard .neq 47 (.tmp 15) (.const (.float .f64 0)) (.float .f64 sign.1) (.float .f64 0); binOp .neq 47 (.float .f64 sign.1) (.float .f64 0)) = some (.bool (!(feq sign.1 0))),
                (!(feq l.sign.1 0)) = true,
                (!(feq sign.1 0)) = false,
                (!(feq sign.1 0)) = false,
                (!(feq sign.1 0)) = false,
                det Try.prog (builtin .imag #[36] 47 [false].toArray [(.complex .f64 l.sign.1 l.sign.2)].toArray) = some (.value (.float .f64 l.sign.2)),
                (!(feq sign.1 0)) = false,
                det Try.prog (do eqGuard .neq 47 (.tmp 21) (.const (.float .f64 0)) (.float .f64 l.sign.2) (.float .f64 0); binOp .neq 47 (.float .f64 l.sign.2) (.float .f64 0)) = some (.bool (!(feq l.sign.2 0))),
                (!(feq sign.1 0)) = false,
                (!(feq l.sign.2 0)) = true,
                (!(feq l.sign.2 0)) = true,
                det Try.prog (builtin .imag #[36] 47 [false].toArray [(.complex .f64 sign.1 sign.2)].toArray) = some (.value (.float .f64 sign.2)),
                (!(feq l.sign.2 0)) = true,
                det Try.prog (do eqGuard .neq 47 (.tmp 25) (.const (.float .f64 0)) (.float .f64 sign.2) (.float .f64 0); binOp .neq 47 (.float .f64 sign.2) (.float .f64 0)) = some (.bool (!(feq sign.2 0))),
                (!(feq sign.1 0)) = false,
                (!(feq l.sign.2 0)) = true,
                (!(feq sign.1 0)) = false,
                (!(feq sign.2 0)) = false,
                det Try.prog (do eqGuard .add 36 (.tmp 33) (.tmp 34) (.complex .f64 l.sign.1 l.sign.2) (.complex .f64 sign.1 sign.2); binOp .add 36 (.complex .f64 l.sign.1 l.sign.2) (.complex .f64 sign.1 sign.2)) = some (.complex .f64 re im),
                CallK Try.prog false 34 [(.agg [(.lit (.int .i64 l.base)), (.lit (.complex .f64 re im))])] [.cells 38 [(.lit (.int .i64 l.base)), (.lit (.complex .f64 l.sign.1 l.sign.2))], .cells 38 [(.lit (.int .i64 0)), (.lit (.complex .f64 0 0))], .cells 38 [(.lit (.int .i64 l.base)), (.lit (.complex .f64 re im))]] (.tup [(.lit (.int .i64 q.1)), (.lit (.bool q.2))]) [.cells 38 [(.lit (.int .i64 l.base)), (.lit (.complex .f64 l.sign.1 l.sign.2))], .cells 38 [(.lit (.int .i64 0)), (.lit (.complex .f64 0 0))], .cells 38 [(.lit (.int .i64 l.base)), (.lit (.complex .f64 re im))]],
                (!q.2) = false]) (by kernel_rfl)
              ⟨rfl, (det_fneq _ _ _ _ _ _), (not_t (Bool.eq_false_iff.2 hc1)), (not_t (Bool.eq_false_iff.2 hc1)), rfl, (not_t (Bool.eq_false_iff.2 hc1)), (det_fneq _ _ _ _ _ _), (not_t (Bool.eq_false_iff.2 hc1)), (not_f hc6), (not_f hc6), (not_f hc6), rfl, (not_f hc6), (det_fneq _ _ _ _ _ _), (not_f hc6), (not_t (Bool.eq_false_iff.2 hc7)), (not_t (Bool.eq_false_iff.2 hc7)), rfl, (not_t (Bool.eq_false_iff.2 hc7)), (det_fneq _ _ _ _ _ _), (not_f hc6), (not_t (Bool.eq_false_iff.2 hc7)), (not_f hc6), (not_f hc9), (det_cadd h_re h_im), (call_viet_Join h_q _ _), (not_f hc10), trivial⟩
          · injection h with h; subst h
            exact Knows.of (C := C37) wf Try.func37 (cs := [.reg 1 [(2, { it := .val (.float .f64 l.sign.1) }), (3, { it := .val (.bool (!(feq l.sign.1 0))) }), (5, { w := some true }), (6, { it := .val (.float .f64 sign.1), w := some true }), (7, { it := .val (.bool (!(feq sign.1 0))), w := some true }), (8, { it := .b true }), (10, { w := some false }), (11, { w := some false }), (12, { it := .val (.float .f64 l.sign.2), w := some false }), (13, { it := .val (.bool (!(feq l.sign.2 0))), w := some false }), (14, { w := some false }), (15, { w := some true }), (16, { it := .val (.float .f64 sign.2), w := some true }), (17, { it := .val (.bool (!(feq sign.2 0))), w := some true }), (18, { it := .b true, w := some false }), (19, { it := .b false })], .b false, .reg 3 [(5, { it := .val (.complex .f64 re im) })], .reg 4 [(1, { it := .res (.tup [(.lit (.int .i64 q.1)), (.lit (.bool q.2))]) [.cells 38 [(.lit (.int .i64 l.base)), (.lit (.complex .f64 l.sign.1 l.sign.2))], .cells 38 [(.lit (.int .i64 0)), (.lit (.complex .f64 0 0))], .cells 38 [(.lit (.int .i64 l.base)), (.lit (.complex .f64 re im))]] [] })], .b true]) (args := [(.agg [(.lit (.int .i64 l.base)), (.lit (.complex .f64 l.sign.1 l.sign.2))]), (.lit (.complex .f64 sign.1 sign.2))]) (r := (.tup [(.agg [(.lit (.int .i64 l.base)), (.lit (.complex .f64 l.sign.1 l.sign.2))]), (.lit (.bool false))])) (ps := [det Try.prog (builtin .real #[36] 47 [false].toArray [(.complex .f64 l.sign.1 l.sign.2)].toArray) = some (.value (.float .f64 l.sign.1)),
                det Try.prog (do eqGuard .neq 47 (.tmp 11) (.const (.float .f64 0)) (.float .f64 l.sign.1) (.float .f64 0); binOp .neq 47 (.float .f64 l.sign.1) (.float .f64 0)) = some (.bool (!(feq l.sign.1 0))),
                (!(feq l.sign.1 0)) = true,
                (!(feq l.sign.1 0)) = true,
                det Try.prog (builtin .real #[36] 47 [false].toArray [(.complex .f64 sign.1 sign.2)].toArray) = some (.value (.float .f64 sign.1)),
                (!(feq l.sign.1 0)) = true,
                det Try.prog (do eqGuard .neq 47 (.tmp 15) (.const (.float .f64 0)) (.float .f64 sign.1) (.float .f64 0); binOp .neq 47 (.float .f64 sign.1) (.float .f64 0)) = some (.bool (!(feq sign.1 0))),
                (!(feq l.sign.1 0)) = true,
                (!(feq sign.1 0)) = false,
                (!(feq sign.1 0)) = false,
                (!(feq sign.1 0)) = false,
                det Try.prog (builtin .imag #[36] 47 [false].toArray [(.complex .f64 l.sign.1 l.sign.2)].toArray) = some (.value (.float .f64 l.sign.2)),
                (!(feq sign.1 0)) = false,
                det Try.prog (do eqGuard .neq 47 (.tmp 21) (.const (.float .f64 0)) (.float .f64 l.sign.2) (.float .f64 0); binOp .neq 47 (.float .f64 l.sign.2) (.float .f64 0)) = some (.bool (!(feq l.sign.2 0))),
                (!(feq sign.1 0)) = false,
                (!(feq l.sign.2 0)) = true,
                (!(feq l.sign.2 0)) = true,
                det Try.prog (builtin .imag #[36] 47 [false].toArray [(.complex .f64 sign.1 sign.2)].toArray) = some (.value (.float .f64 sign.2)),
                (!(feq l.sign.2 0)) = true,
                det Try.prog (do eqGuard .neq 47 (.tmp 25) (.const (.float .f64 0)) (.float .f64 sign.2) (.float .f64 0); binOp .neq 47 (.float .f64 sign.2) (.float .f64 0)) = some (.bool (!(feq sign.2 0))),
                (!(feq sign.1 0)) = false,
                (!(feq l.sign.2 0)) = true,
                (!(feq sign.1 0)) = false,
                (!(feq sign.2 0)) = false,
                det Try.prog (do eqGuard .add 36 (.tmp 33) (.tmp 34) (.complex .f64 l.sign.1 l.sign.2) (.complex .f64 sign.1 sign.2); binOp .add 36 (.complex .f64 l.sign.1 l.sign.2) (.complex .f64 sign.1 sign.2)) = some (.complex .f64 re im),
                CallK Try.prog false 34 [(.agg [(.lit (.int .i64 l.base)), (.lit (.complex .f64 re im))])] [.cells 38 [(.lit (.int .i64 l.base)), (.lit (.complex .f64 l.sign.1 l.sign.2))], .cells 38 [(.lit (.int .i64 0)), (.lit (.complex .f64 0 0))], .cells 38 [(.lit (.int .i64 l.base)), (.lit (.complex .f64 re im))]] (.tup [(.lit (.int .i64 q.1)), (.lit (.bool q.2))]) [.cells 38 [(.lit (.int .i64 l.base)), (.lit (.complex .f64 l.sign.1 l.sign.2))], .cells 38 [(.lit (.int .i64 0)), (.lit (.complex .f64 0 0))], .cells 38 [(.lit (.int .i64 l.base)), (.lit (.complex .f64 re im))]],
                (!q.2) = true]) (by kernel_rfl)
              ⟨rfl, (det_fneq _ _ _ _ _ _), (not_t (Bool.eq_false_iff.2 hc1)), (not_t (Bool.eq_false_iff.2 hc1)), rfl, (not_t (Bool.eq_false_iff.2 hc1)), (det_fneq _ _ _ _ _ _), (not_t (Bool.eq_false_iff.2 hc1)), (not_f hc6), (not_f hc6), (not_f hc6), rfl, (not_f hc6), (det_fneq _ _ _ _ _ _), (not_f hc6), (not_t (Bool.eq_false_iff.2 hc7)), (not_t (Bool.eq_false_iff.2 hc7)), rfl, (not_t (Bool.eq_false_iff.2 hc7)), (det_fneq _ _ _ _ _ _), (not_f hc6), (not_t (Bool.eq_false_iff.2 hc7)), (not_f hc6), (not_f hc9), (det_cadd h_re h_im), (call_viet_Join h_q _ _), (not_t (Bool.eq_false_iff.2 hc10)), trivial⟩
        · injection h with h; subst h
          exact Knows.of (C := C37) wf Try.func37 (cs := [.reg 1 [(2, { it := .val (.float .f64 l.sign.1) }), (3, { it := .val (.bool (!(feq l.sign.1 0))) }), (5, { w := some true }), (6, { it := .val (.float .f64 sign.1), w := some true }), (7, { it := .val (.bool (!(feq sign.1 0))), w := some true }), (8, { it := .b true }), (10, { w := some false }), (11, { w := some false }), (12, { it := .val (.float .f64 l.sign.2), w := some false }), (13, { it := .val (.bool (!(feq l.sign.2 0))), w := some false }), (14, { w := some false }), (15, { w := some true }), (16, { it := .val (.float .f64 sign.2), w := some true }), (17, { it := .val (.bool (!(feq sign.2 0))), w := some true }), (18, { it := .b true, w := some false }), (19, { it := .b false })], .b true]) (args := [(.agg [(.lit (.int .i64 l.base)), (.lit (.complex .f64 l.sign.1 l.sign.2))]), (.lit (.complex .f64 sign.1 sign.2))]) (r := (.tup [(.agg [(.lit (.int .i64 l.base)), (.lit (.complex .f64 l.sign.1 l.sign.2))]), (.lit (.bool false))])) (ps := [det Try.prog (builtin .real #[36] 47 [false].toArray [(.complex .f64 l.sign.1 l.sign.2)].toArray) = some (.value (.float .f64 l.sign.1)),
              det Try.prog (do eqGuard .neq 47 (.tmp 11) (.const (.float .f64 0)) (.float .f64 l.sign.1) (.float .f64 0); binOp .neq 47 (.float .f64 l.sign.1) (.float .f64 0)) = some (.bool (!(feq l.sign.1 0))),
              (!(feq l.sign.1 0)) = true,
              (!(feq l.sign.1 0)) = true,
              det Try.prog (builtin .real #[36] 47 [false].toArray [(.complex .f64 sign.1 sign.2)].toArray) = some (.value (.float .f64 sign.1)),
              (!(feq l.sign.1 0)) = true,
              det Try.prog (do eqGuard .neq 47 (.tmp 15) (.const (.float .f64 0)) (.float .f64 sign.1) (.float .f64 0); binOp .neq 47 (.float .f64 sign.1) (.float .f64 0)) = some (.bool (!(feq sign.1 0))),
              (!(feq l.sign.1 0)) = true,
              (!(feq sign.1 0)) = false,
              (!(feq sign.1 0)) = false,
              (!(feq sign.1 0)) = false,
              det Try.prog (builtin .imag #[36] 47 [false].toArray [(.complex .f64 l.sign.1 l.sign.2)].toArray) = some (.value (.float .f64 l.sign.2)),
              (!(feq sign.1 0)) = false,
              det Try.prog (do eqGuard .neq 47 (.tmp 21) (.const (.float .f64 0)) (.float .f64 l.sign.2) (.float .f64 0); binOp .neq 47 (.float .f64 l.sign.2) (.float .f64 0)) = some (.bool (!(feq l.sign.2 0))),
              (!(feq sign.1 0)) = false,
              (!(feq l.sign.2 0)) = true,
              (!(feq l.sign.2 0)) = true,
              det Try.prog (builtin .imag #[36] 47 [false].toArray [(.complex .f64 sign.1 sign.2)].toArray) = some (.value (.float .f64 sign.2)),
              (!(feq l.sign.2 0)) = true,
              det Try.prog (do eqGuard .neq 47 (.tmp 25) (.const (.float .f64 0)) (.float .f64 sign.2) (.float .f64 0); binOp .neq 47 (.float .f64 sign.2) (.float .f64 0)) = some (.bool (!(feq sign.2 0))),
              (!(feq sign.1 0)) = false,
              (!(feq l.sign.2 0)) = true,
              (!(feq sign.1 0)) = false,
              (!(feq sign.2 0)) = true]) (by kernel_rfl)
            ⟨rfl, (det_fneq _ _ _ _ _ _), (not_t (Bool.eq_false_iff.2 hc1)), (not_t (Bool.eq_false_iff.2 hc1)), rfl, (not_t (Bool.eq_false_iff.2 hc1)), (det_fneq _ _ _ _ _ _), (not_t (Bool.eq_false_iff.2 hc1)), (not_f hc6), (not_f hc6), (not_f hc6), rfl, (not_f hc6), (det_fneq _ _ _ _ _ _), (not_f hc6), (not_t (Bool.eq_false_iff.2 hc7)), (not_t (Bool.eq_false_iff.2 hc7)), rfl, (not_t (Bool.eq_false_iff.2 hc7)), (det_fneq _ _ _ _ _ _), (not_f hc6), (not_t (Bool.eq_false_iff.2 hc7)), (not_f hc6), (not_t (Bool.eq_false_iff.2 hc9)), trivial⟩
    · injection h with h; subst h
      exact Knows.of (C := C37) wf Try.func37 (cs := [.reg 1 [(2, { it := .val (.float .f64 l.sign.1) }), (3, { it := .val (.bool (!(feq l.sign.1 0))) }), (5, { w := some true }), (6, { it := .val (.float .f64 sign.1), w := some true }), (7, { it := .val (.bool (!(feq sign.1 0))), w := some true }), (8, { it := .b true }), (10, { w := some true }), (11, { w := some true }), (12, { w := some true }), (13, { w := some true }), (14, { w := some true }), (18, { w := some true }), (19, { it := .b true })], .b true]) (args := [(.agg [(.lit (.int .i64 l.base)), (.lit (.complex .f64 l.sign.1 l.sign.2))]), (.lit (.complex .f64 sign.1 sign.2))]) (r := (.tup [(.agg [(.lit (.int .i64 l.base)), (.lit (.complex .f64 l.sign.1 l.sign.2))]), (.lit (.bool false))])) (ps := [det Try.prog (builtin .real #[36] 47 [false].toArray [(.complex .f64 l.sign.1 l.sign.2)].toArray) = some (.value (.float .f64 l.sign.1)),
          det Try.prog (do eqGuard .neq 47 (.tmp 11) (.const (.float .f64 0)) (.float .f64 l.sign.1) (.float .f64 0); binOp .neq 47 (.float .f64 l.sign.1) (.float .f64 0)) = some (.bool (!(feq l.sign.1 0))),
          (!(feq l.sign.1 0)) = true,
          (!(feq l.sign.1 0)) = true,
          det Try.prog (builtin .real #[36] 47 [false].toArray [(.complex .f64 sign.1 sign.2)].toArray) = some (.value (.float .f64 sign.1)),
          (!(feq l.sign.1 0)) = true,
          det Try.prog (do eqGuard .neq 47 (.tmp 15) (.const (.float .f64 0)) (.float .f64 sign.1) (.float .f64 0); binOp .neq 47 (.float .f64 sign.1) (.float .f64 0)) = some (.bool (!(feq sign.1 0))),
          (!(feq l.sign.1 0)) = true,
          (!(feq sign.1 0)) = true,
          (!(feq sign.1 0)) = true,
          (!(feq sign.1 0)) = true,
          (!(feq sign.1 0)) = true,
          (!(feq sign.1 0)) = true,
          (!(feq sign.1 0)) = true,
          (!(feq sign.1 0)) = true,
          true = true]) (by kernel_rfl)
        ⟨rfl, (det_fneq _ _ _ _ _ _), (not_t (Bool.eq_false_iff.2 hc1)), (not_t (Bool.eq_false_iff.2 hc1)), rfl, (not_t (Bool.eq_false_iff.2 hc1)), (det_fneq _ _ _ _ _ _), (not_t (Bool.eq_false_iff.2 hc1)), (not_t (Bool.eq_false_iff.2 hc6)), (not_t (Bool.eq_false_iff.2 hc6)), (not_t (Bool.eq_false_iff.2 hc6)), (not_t (Bool.eq_false_iff.2 hc6)), (not_t (Bool.eq_false_iff.2 hc6)), (not_t (Bool.eq_false_iff.2 hc6)), (not_t (Bool.eq_false_iff.2 hc6)), rfl, trivial⟩
theorem call_viet_Add {l : GVietLetter} {sign : (Nat × Nat)} {r} (h : viet_Add l sign = some r) (kp : Bool) (σ : List Bx) : CallK Try.prog kp 37 [(.agg [(.lit (.int .i64 l.base)), (.lit (.complex .f64 l.sign.1 l.sign.2))]), (.lit (.complex .f64 sign.1 sign.2))] σ (.tup [(.agg [(.lit (.int .i64 r.1.base)), (.lit (.complex .f64 r.1.sign.1 r.1.sign.2))]), (.lit (.bool r.2))]) σ :=
  (knows_viet_Add l sign h).call (and_t (and_t rfl (and_t rfl rfl)) (and_t rfl rfl)) rfl kp σ

def h50 : Nat → Option Hint
| 0 => some { keep := [] }
| 1 => some { keep := [0] }
| _ => none

noncomputable def C50 : Ctx := { P := Try.prog, mv := fun _ _ => false, res := resOf Try.f50, live := h50, call := fun _ _ _ => none }

set_option maxRecDepth 100000 in
theorem knows_lontarlaw09_Rows {r} (h : lontarlaw09_Rows = some r) : Knows Try.prog 50 [] (.sl (.excl 80) false (List.map GLontarlaw09Row.c r)) := by
  unfold lontarlaw09_Rows at h
  injection h with h; subst h
  exact Knows.of (C := C50) wf Try.func50 (cs := []) (args := []) (r := (.sl (.excl 80) false (List.map GLontarlaw09Row.c [(⟨97, 0, [97, 224, 225, 7843, 227, 7841]⟩ : GLontarlaw09Row), (⟨97, 1, [259, 7857, 7855, 7859, 7861, 7863]⟩ : GLontarlaw09Row), (⟨97, 2, [226, 7847, 7845, 7849, 7851, 7853]⟩ : GLontarlaw09Row), (⟨101, 0, [101, 232, 233, 7867, 7869, 7865]⟩ : GLontarlaw09Row), (⟨101, 2, [234, 7873, 7871, 7875, 7877, 7879]⟩ : GLontarlaw09Row), (⟨105, 0, [105, 236, 237, 7881, 297, 7883]⟩ : GLontarlaw09Row), (⟨111, 0, [111, 242, 243, 7887, 245, 7885]⟩ : GLontarlaw09Row), (⟨111, 2, [244, 7891, 7889, 7893, 7895, 7897]⟩ : GLontarlaw09Row), (⟨111, 3, [417, 7901, 7899, 7903, 7905, 7907]⟩ : GLontarlaw09Row), (⟨117, 0, [117, 249, 250, 7911, 361, 7909]⟩ : GLontarlaw09Row), (⟨117, 3, [432, 7915, 7913, 7917, 7919, 7921]⟩ : GLontarlaw09Row), (⟨121, 0, [121, 7923, 253, 7927, 7929, 7925]⟩ : GLontarlaw09Row), (⟨100, 0, [100]⟩ : GLontarlaw09Row), (⟨100, 4, [273]⟩ : GLontarlaw09Row)]))) (ps := []) (by kernel_rfl)
    trivial
theorem call_lontarlaw09_Rows {r} (h : lontarlaw09_Rows = some r) (kp : Bool) (σ : List Bx) : CallK Try.prog kp 50 [] σ (.sl (.excl 80) false (List.map GLontarlaw09Row.c r)) σ :=
  (knows_lontarlaw09_Rows h).call rfl rfl kp σ

def h29 : Nat → Option Hint
| 0 => some { keep := [0, 2] }
| 1 => some { keep := [0, 2, 5] }
| 2 => some { keep := [0, 2, 5, 6] }
| 3 => some { keep := [0, 2, 5, 6, 13] }
| 4 => some { keep := [0, 2, 5, 6] }
| 5 => some { keep := [0, 2, 5, 6, 16, 17, 18] }
| 6 => some { keep := [0, 2, 5, 6, 16, 17, 18, 19] }
| 7 => some { keep := [0, 2, 5, 6, 8, 16, 17, 18] }
| 8 => some { keep := [0, 2, 5, 6, 8, 16, 17, 18, 23, 24, 25] }
| 9 => some { keep := [0, 2, 5, 6, 8, 16, 17, 18, 23, 24, 25, 26] }
| 10 => some { keep := [0, 2, 5, 6, 8, 9, 10, 16, 17, 18, 23, 24, 25] }
| 11 => some { keep := [0, 2, 5, 6, 8, 9, 10, 16, 17, 18, 23, 24, 25, 32] }
| 12 => some { keep := [2, 6, 8, 9, 10, 11] }
| 13 => some { keep := [2, 8, 9, 10, 11, 36] }
| 14 => some { keep := [2, 8, 9, 10, 11] }
| 15 => some { keep := [2, 3, 4] }
| 16 => some { keep := [0, 2, 5, 6, 8, 16, 17, 18, 23, 24, 25] }
| 17 => some { keep := [0, 2, 5, 6, 8, 16, 17, 18, 23, 24, 25] }
| 18 => some { keep := [0, 2, 5, 6, 16, 17, 18], cut := some 1 }
| 19 => some { keep := [2, 3, 4] }
| _ => none

noncomputable def C29 : Ctx := { P := Try.prog, mv := fun _ _ => false, res := resOf Try.f29, live := h29, call := fun _ _ _ => none }

def S_lontarlaw09_Letter_L2 (n : Int) (great : Int) (q : (List GLontarlaw09Row)) (v : Int) (x_ : GLontarlaw09Row) (vv : Int × Int) : St :=
  match vv with
  | (k2, v1) => { ts := [(0, (.lit (.int .i64 n))), (2, (.ptr 0 0)), (5, (.lit (.int .i64 k2))), (6, (.lit (.int .i64 great))), (8, (.ptr 1 0)), (16, (.sl (.excl 80) false (List.map GLontarlaw09Row.c q))), (17, (.lit (.int .i64 (q.length : Int)))), (18, (.lit (.int .i64 v))), (23, (.sl .view false (eI .i64 x_.all))), (24, (.lit (.int .i64 (x_.all.length : Int)))), (25, (.lit (.int .i64 v1)))], n := 55, σ := [.cells 38 [(.lit (.int .i64 0)), (.lit (.complex .f64 0 0))], .cells 80 [(.lit (.int .i64 x_.base)), (.lit (.int .i64 x_.mark)), (.sl .view false (eI .i64 x_.all))]] }

def X_lontarlaw09_Letter_L2_0 (n : Int) (great : Int) (q : (List GLontarlaw09Row)) (v : Int) (x_ : GLontarlaw09Row) (v1 : Int) (m : Int) (m_re : Nat) (m_im : Nat) : St := { ts := [(2, (.ptr 0 0)), (3, (.lit (.int .i64 v1))), (4, (.lit (.bool true)))], n := 55, σ := [.cells 38 [(.lit (.int .i64 m)), (.lit (.complex .f64 m_re m_im))], .cells 80 [(.lit (.int .i64 x_.base)), (.lit (.int .i64 x_.mark)), (.sl .view false (eI .i64 x_.all))]] }

def X_lontarlaw09_Letter_L2_1 (n : Int) (great : Int) (q : (List GLontarlaw09Row)) (v : Int) (x_ : GLontarlaw09Row) (v1 : Int) (m_re : Nat) (m_im : Nat) : St := { ts := [(2, (.ptr 0 0)), (3, (.lit (.int .i64 v1))), (4, (.lit (.bool true)))], n := 55, σ := [.cells 38 [(.lit (.int .i64 x_.base)), (.lit (.complex .f64 m_re m_im))], .cells 80 [(.lit (.int .i64 x_.base)), (.lit (.int .i64 x_.mark)), (.sl .view false (eI .i64 x_.all))]] }

def X_lontarlaw09_Letter_L2_2 (n : Int) (great : Int) (q : (List GLontarlaw09Row)) (v : Int) (x_ : GLontarlaw09Row) (k2 : Int) (v1 : Int) (v2 : Bool) : St := { ts := [(0, (.lit (.int .i64 n))), (2, (.ptr 0 0)), (5, (.lit (.int .i64 k2))), (6, (.lit (.int .i64 great))), (8, (.ptr 1 0)), (16, (.sl (.excl 80) false (List.map GLontarlaw09Row.c q))), (17, (.lit (.int .i64 (q.length : Int)))), (18, (.lit (.int .i64 v))), (23, (.sl .view false (eI .i64 x_.all))), (24, (.lit (.int .i64 (x_.all.length : Int)))), (25, (.lit (.int .i64 v1))), (26, (.lit (.bool v2)))], n := 55, σ := [.cells 38 [(.lit (.int .i64 0)), (.lit (.complex .f64 0 0))], .cells 80 [(.lit (.int .i64 x_.base)), (.lit (.int .i64 x_.mark)), (.sl .view false (eI .i64 x_.all))]] }

def E_lontarlaw09_Letter_L2 (n : Int) (great : Int) (q : (List GLontarlaw09Row)) (v : Int) (x_ : GLontarlaw09Row) (vv : lontarlaw09_Letter_L2_R) : Exit × St :=
  match vv with
  | .x0 v1 m m_re m_im => (.ret, X_lontarlaw09_Letter_L2_0 n great q v x_ v1 m m_re m_im)
  | .x1 v1 m_re m_im => (.ret, X_lontarlaw09_Letter_L2_1 n great q v x_ v1 m_re m_im)
  | .x2 k2 v1 v2 => (.exit 4, X_lontarlaw09_Letter_L2_2 n great q v x_ k2 v1 v2)

set_option maxRecDepth 100000 in
theorem body_lontarlaw09_Letter_L2 (n : Int) (great : Int) (q : (List GLontarlaw09Row)) (v : Int) (x_ : GLontarlaw09Row) (vv : Int × Int) (x) (h : lontarlaw09_Letter_L2 n great x_ vv = some x) : RunsB Try.prog 0 (sub [1, 1, 0, 1, 0, 0, 1, 0, 0, 1, 0, 0, 1, 1, 0, 0, 1, 1, 0, 0] (fbody Try.f29)) (S_lontarlaw09_Letter_L2 n great q v x_ vv) (sideX (E_lontarlaw09_Letter_L2 n great q v x_) x) (sideS (S_lontarlaw09_Letter_L2 n great q v x_) (E_lontarlaw09_Letter_L2 n great q v x_) x) := by
  obtain ⟨k2, v1⟩ := vv
  unfold lontarlaw09_Letter_L2 at h
  dsimp only at h
  rcases ite_some h with ⟨hc211, h⟩ | ⟨hc211, h⟩
  · obtain ⟨x_1, h_x_1, h⟩ := Option.bind_eq_some_iff.1 h
    rcases ite_some h with ⟨hc212, h⟩ | ⟨hc212, h⟩
    · rcases ite_some h with ⟨hc213, h⟩ | ⟨hc213, h⟩
      · obtain ⟨q1, h_q1, h⟩ := Option.bind_eq_some_iff.1 h
        obtain ⟨q2, h_q2, h⟩ := Option.bind_eq_some_iff.1 h
        injection h with h; subst h
        exact codeH_sound (C := C29) (base := 0) wf _ (cs := [.b true, .reg 10 [(1, { it := .cs [(.lit (.int .i64 x_1))] })], .b true, .b true, .reg 14 [(1, { it := .res (.lit (.int .i64 q1)) [.cells 38 [(.lit (.int .i64 0)), (.lit (.complex .f64 0 0))], .cells 80 [(.lit (.int .i64 x_.base)), (.lit (.int .i64 x_.mark)), (.sl .view false (eI .i64 x_.all))]] [] }), (3, { it := .res (.lit (.int .i64 q2)) [.cells 38 [(.lit (.int .i64 0)), (.lit (.complex .f64 0 0))], .cells 80 [(.lit (.int .i64 x_.base)), (.lit (.int .i64 x_.mark)), (.sl .view false (eI .i64 x_.all))]] [] })], .reg 15 [(3, { it := .val (.float .f64 (i2f x_.mark)) }), (5, { it := .val (.float .f64 (i2f v1)) }), (6, { it := .val (.complex .f64 (i2f x_.mark) (i2f v1)) })]]) (cs' := []) (ps := [(decide (v1 < (x_.all.length : Int))) = true,
            nthPV (eI .i64 x_.all) v1 = some [(.lit (.int .i64 x_1))],
            (k2 == n) = true,
            (great == 1) = true,
            CallK Try.prog false 51 [(.lit (.int .i64 x_.base))] [.cells 38 [(.lit (.int .i64 0)), (.lit (.complex .f64 0 0))], .cells 80 [(.lit (.int .i64 x_.base)), (.lit (.int .i64 x_.mark)), (.sl .view false (eI .i64 x_.all))]] (.lit (.int .i64 q1)) [.cells 38 [(.lit (.int .i64 0)), (.lit (.complex .f64 0 0))], .cells 80 [(.lit (.int .i64 x_.base)), (.lit (.int .i64 x_.mark)), (.sl .view false (eI .i64 x_.all))]],
            CallK Try.prog false 51 [(.lit (.int .i64 x_1))] [.cells 38 [(.lit (.int .i64 0)), (.lit (.complex .f64 0 0))], .cells 80 [(.lit (.int .i64 x_.base)), (.lit (.int .i64 x_.mark)), (.sl .view false (eI .i64 x_.all))]] (.lit (.int .i64 q2)) [.cells 38 [(.lit (.int .i64 0)), (.lit (.complex .f64 0 0))], .cells 80 [(.lit (.int .i64 x_.base)), (.lit (.int .i64 x_.mark)), (.sl .view false (eI .i64 x_.all))]],
            det Try.prog (convert 3 47 (.int .i64 x_.mark)) = some (.float .f64 (i2f x_.mark)),
            det Try.prog (convert 3 47 (.int .i64 v1)) = some (.float .f64 (i2f v1)),
            det Try.prog (builtin .complex #[47, 47] 36 [false, false].toArray [(.float .f64 (i2f x_.mark)), (.float .f64 (i2f v1))].toArray) = some (.value (.complex .f64 (i2f x_.mark) (i2f v1)))]) (by kernel_rfl)
          ⟨(decide_eq_true hc211), (nth_map _ h_x_1), (beq_iff_eq.2 hc212), (beq_iff_eq.2 hc213), (call_lontarlaw09_upper h_q1 _ _), (call_lontarlaw09_upper h_q2 _ _), (det_i2f Try.underlying3 Try.underlying47), (det_i2f Try.underlying3 Try.underlying47), rfl, trivial⟩
      · injection h with h; subst h
        exact codeH_sound (C := C29) (base := 0) wf _ (cs := [.b true, .reg 10 [(1, { it := .cs [(.lit (.int .i64 x_1))] })], .b true, .b false, .reg 15 [(3, { it := .val (.float .f64 (i2f x_.mark)) }), (5, { it := .val (.float .f64 (i2f v1)) }), (6, { it := .val (.complex .f64 (i2f x_.mark) (i2f v1)) })]]) (cs' := []) (ps := [(decide (v1 < (x_.all.length : Int))) = true,
            nthPV (eI .i64 x_.all) v1 = some [(.lit (.int .i64 x_1))],
            (k2 == n) = true,
            (great == 1) = false,
            det Try.prog (convert 3 47 (.int .i64 x_.mark)) = some (.float .f64 (i2f x_.mark)),
            det Try.prog (convert 3 47 (.int .i64 v1)) = some (.float .f64 (i2f v1)),
            det Try.prog (builtin .complex #[47, 47] 36 [false, false].toArray [(.float .f64 (i2f x_.mark)), (.float .f64 (i2f v1))].toArray) = some (.value (.complex .f64 (i2f x_.mark) (i2f v1)))]) (by kernel_rfl)
          ⟨(decide_eq_true hc211), (nth_map _ h_x_1), (beq_iff_eq.2 hc212), (beq_eq_false_iff_ne.2 hc213), (det_i2f Try.underlying3 Try.underlying47), (det_i2f Try.underlying3 Try.underlying47), rfl, trivial⟩
    · injection h with h; subst h
      exact codeH_sound (C := C29) (base := 0) wf _ (cs := [.b true, .reg 10 [(1, { it := .cs [(.lit (.int .i64 x_1))] })], .b false]) (cs' := []) (ps := [(decide (v1 < (x_.all.length : Int))) = true,
          nthPV (eI .i64 x_.all) v1 = some [(.lit (.int .i64 x_1))],
          (k2 == n) = false]) (by kernel_rfl)
        ⟨(decide_eq_true hc211), (nth_map _ h_x_1), (beq_eq_false_iff_ne.2 hc212), trivial⟩
  · injection h with h; subst h
    exact codeH_sound (C := C29) (base := 0) wf _ (cs := [.b false]) (cs' := []) (ps := [(decide (v1 < (x_.all.length : Int))) = false]) (by kernel_rfl)
      ⟨(decide_eq_false hc211), trivial⟩

theorem runs_lontarlaw09_Letter_L2 (n : Int) (great : Int) (q : (List GLontarlaw09Row)) (v : Int) (x_ : GLontarlaw09Row) {nn} {vv : Int × Int} {rr} (h : loopM (lontarlaw09_Letter_L2 n great x_) nn vv = some rr) : RunsB Try.prog 0 (.loop (sub [1, 1, 0, 1, 0, 0, 1, 0, 0, 1, 0, 0, 1, 1, 0, 0, 1, 1, 0, 0] (fbody Try.f29))) (S_lontarlaw09_Letter_L2 n great q v x_ vv) (E_lontarlaw09_Letter_L2 n great q v x_ rr).1 (E_lontarlaw09_Letter_L2 n great q v x_ rr).2 :=
  loop_runs (by intro r; cases r <;> simp [E_lontarlaw09_Letter_L2]) (body_lontarlaw09_Letter_L2 n great q v x_) nn vv rr h

def S_lontarlaw09_Letter_L1 (n : Int) (great : Int) (q : (List GLontarlaw09Row)) (vv : Int × Int) : St :=
  match vv with
  | (k1, v) => { ts := [(0, (.lit (.int .i64 n))), (2, (.ptr 0 0)), (5, (.lit (.int .i64 k1))), (6, (.lit (.int .i64 great))), (16, (.sl (.excl 80) false (List.map GLontarlaw09Row.c q))), (17, (.lit (.int .i64 (q.length : Int)))), (18, (.lit (.int .i64 v)))], n := 55, σ := [.cells 38 [(.lit (.int .i64 0)), (.lit (.complex .f64 0 0))]] }

def X_lontarlaw09_Letter_L1_0 (n : Int) (great : Int) (q : (List GLontarlaw09Row)) (v : Int) (m : Int) (m_re : Nat) (m_im : Nat) (m1 : Int) (m2 : Int) (m3 : List Int) : St := { ts := [(2, (.ptr 0 0)), (3, (.lit (.int .i64 v))), (4, (.lit (.bool true)))], n := 55, σ := [.cells 38 [(.lit (.int .i64 m)), (.lit (.complex .f64 m_re m_im))], .cells 80 [(.lit (.int .i64 m1)), (.lit (.int .i64 m2)), (.sl .view false (eI .i64 m3))]] }

def X_lontarlaw09_Letter_L1_1 (n : Int) (great : Int) (q : (List GLontarlaw09Row)) (v : Int) (m : Int) (m_re : Nat) (m_im : Nat) (m1 : Int) (m2 : Int) (m3 : List Int) : St := { ts := [(2, (.ptr 0 0)), (3, (.lit (.int .i64 v))), (4, (.lit (.bool true)))], n := 55, σ := [.cells 38 [(.lit (.int .i64 m)), (.lit (.complex .f64 m_re m_im))], .cells 80 [(.lit (.int .i64 m1)), (.lit (.int .i64 m2)), (.sl .view false (eI .i64 m3))]] }

def X_lontarlaw09_Letter_L1_2 (n : Int) (great : Int) (q : (List GLontarlaw09Row)) (k1 : Int) (v : Int) (v1 : Bool) : St := { ts := [(0, (.lit (.int .i64 n))), (2, (.ptr 0 0)), (5, (.lit (.int .i64 k1))), (6, (.lit (.int .i64 great))), (16, (.sl (.excl 80) false (List.map GLontarlaw09Row.c q))), (17, (.lit (.int .i64 (q.length : Int)))), (18, (.lit (.int .i64 v))), (19, (.lit (.bool v1)))], n := 55, σ := [.cells 38 [(.lit (.int .i64 0)), (.lit (.complex .f64 0 0))]] }

def E_lontarlaw09_Letter_L1 (n : Int) (great : Int) (q : (List GLontarlaw09Row)) (vv : lontarlaw09_Letter_L1_R) : Exit × St :=
  match vv with
  | .x0 v m m_re m_im m1 m2 m3 => (.ret, X_lontarlaw09_Letter_L1_0 n great q v m m_re m_im m1 m2 m3)
  | .x1 v m m_re m_im m1 m2 m3 => (.ret, X_lontarlaw09_Letter_L1_1 n great q v m m_re m_im m1 m2 m3)
  | .x2 k1 v v1 => (.exit 2, X_lontarlaw09_Letter_L1_2 n great q k1 v v1)

set_option maxRecDepth 100000 in
theorem body_lontarlaw09_Letter_L1 (n : Int) (great : Int) (q : (List GLontarlaw09Row)) (vv : Int × Int) (x) (h : lontarlaw09_Letter_L1 n great q vv = some x) : RunsB Try.prog 0 (sub [1, 1, 0, 1, 0, 0, 1, 0, 0, 1, 0, 0] (fbody Try.f29)) (S_lontarlaw09_Letter_L1 n great q vv) (sideX (E_lontarlaw09_Letter_L1 n great q) x) (sideS (S_lontarlaw09_Letter_L1 n great q) (E_lontarlaw09_Letter_L1 n great q) x) := by
  obtain ⟨k1, v⟩ := vv
  unfold lontarlaw09_Letter_L1 at h
  dsimp only at h
  rcases ite_some h with ⟨hc201, h⟩ | ⟨hc201, h⟩
  · obtain ⟨x_, h_x_, h⟩ := Option.bind_eq_some_iff.1 h
    obtain ⟨l214, hr_l214, h⟩ := Option.bind_eq_some_iff.1 h
    have hl_l214 := runs_lontarlaw09_Letter_L2 n great q v x_ hr_l214
    cases l214 with
    | x0 v1 m m_re m_im =>
      dsimp only at h
      injection h with h; subst h
      exact codeH_sound (C := C29) (base := 0) wf _ (cs := [.b true, .reg 7 [(0, { it := .cs (GLontarlaw09Row.c x_) }), (1, { it := .cs (GLontarlaw09Row.c x_) })], .reg 8 [(2, { it := .val (.int .i64 (x_.all.length : Int)) })], .lp (.ret) (X_lontarlaw09_Letter_L2_0 n great q v x_ v1 m m_re m_im)]) (cs' := []) (ps := [(decide (v < (q.length : Int))) = true,
          nthPV (List.map GLontarlaw09Row.c q) v = some (GLontarlaw09Row.c x_),
          (List.map GLontarlaw09Row.c q)[v.toNat]? = some (GLontarlaw09Row.c x_),
          Value.int .i64 (↑(List.length (eI .i64 x_.all)) : Int) = .int .i64 (x_.all.length : Int),
          RunsB Try.prog 0 (.loop (sub [1, 1, 0, 1, 0, 0, 1, 0, 0, 1, 0, 0, 1, 1, 0, 0, 1, 1, 0, 0] (fbody Try.f29))) (S_lontarlaw09_Letter_L2 n great q v x_ (k1, 0)) (.ret) (X_lontarlaw09_Letter_L2_0 n great q v x_ v1 m m_re m_im)]) (by kernel_rfl)
        ⟨(decide_eq_true hc201), (nth_map _ h_x_), (nthPV_eq (nth_map _ h_x_)).2, (len_val _ _), hl_l214, trivial⟩
    | x1 v1 m_re m_im =>
      dsimp only at h
      injection h with h; subst h
      exact codeH_sound (C := C29) (base := 0) wf _ (cs := [.b true, .reg 7 [(0, { it := .cs (GLontarlaw09Row.c x_) }), (1, { it := .cs (GLontarlaw09Row.c x_) })], .reg 8 [(2, { it := .val (.int .i64 (x_.all.length : Int)) })], .lp (.ret) (X_lontarlaw09_Letter_L2_1 n great q v x_ v1 m_re m_im)]) (cs' := []) (ps := [(decide (v < (q.length : Int))) = true,
          nthPV (List.map GLontarlaw09Row.c q) v = some (GLontarlaw09Row.c x_),
          (List.map GLontarlaw09Row.c q)[v.toNat]? = some (GLontarlaw09Row.c x_),
          Value.int .i64 (↑(List.length (eI .i64 x_.all)) : Int) = .int .i64 (x_.all.length : Int),
          RunsB Try.prog 0 (.loop (sub [1, 1, 0, 1, 0, 0, 1, 0, 0, 1, 0, 0, 1, 1, 0, 0, 1, 1, 0, 0] (fbody Try.f29))) (S_lontarlaw09_Letter_L2 n great q v x_ (k1, 0)) (.ret) (X_lontarlaw09_Letter_L2_1 n great q v x_ v1 m_re m_im)]) (by kernel_rfl)
        ⟨(decide_eq_true hc201), (nth_map _ h_x_), (nthPV_eq (nth_map _ h_x_)).2, (len_val _ _), hl_l214, trivial⟩
    | x2 k2 v1 v2 =>
      dsimp only at h
      injection h with h; subst h
      exact codeH_sound (C := C29) (base := 0) wf _ (cs := [.b true, .reg 7 [(0, { it := .cs (GLontarlaw09Row.c x_) }), (1, { it := .cs (GLontarlaw09Row.c x_) })], .reg 8 [(2, { it := .val (.int .i64 (x_.all.length : Int)) })], .lp (.exit 4) (X_lontarlaw09_Letter_L2_2 n great q v x_ k2 v1 v2)]) (cs' := []) (ps := [(decide (v < (q.length : Int))) = true,
          nthPV (List.map GLontarlaw09Row.c q) v = some (GLontarlaw09Row.c x_),
          (List.map GLontarlaw09Row.c q)[v.toNat]? = some (GLontarlaw09Row.c x_),
          Value.int .i64 (↑(List.length (eI .i64 x_.all)) : Int) = .int .i64 (x_.all.length : Int),
          RunsB Try.prog 0 (.loop (sub [1, 1, 0, 1, 0, 0, 1, 0, 0, 1, 0, 0, 1, 1, 0, 0, 1, 1, 0, 0] (fbody Try.f29))) (S_lontarlaw09_Letter_L2 n great q v x_ (k1, 0)) (.exit 4) (X_lontarlaw09_Letter_L2_2 n great q v x_ k2 v1 v2),
          noRefss 1 (List.map GLontarlaw09Row.c q) = true]) (by kernel_rfl)
        ⟨(decide_eq_true hc201), (nth_map _ h_x_), (nthPV_eq (nth_map _ h_x_)).2, (len_val _ _), hl_l214, (map_noRef (GLontarlaw09Row.nr _) _), trivial⟩
  · injection h with h; subst h
    exact codeH_sound (C := C29) (base := 0) wf _ (cs := [.b false]) (cs' := []) (ps := [(decide (v < (q.length : Int))) = false]) (by kernel_rfl)
      ⟨(decide_eq_false hc201), trivial⟩

theorem runs_lontarlaw09_Letter_L1 (n : Int) (great : Int) (q : (List GLontarlaw09Row)) {nn} {vv : Int × Int} {rr} (h : loopM (lontarlaw09_Letter_L1 n great q) nn vv = some rr) : RunsB Try.prog 0 (.loop (sub [1, 1, 0, 1, 0, 0, 1, 0, 0, 1, 0, 0] (fbody Try.f29))) (S_lontarlaw09_Letter_L1 n great q vv) (E_lontarlaw09_Letter_L1 n great q rr).1 (E_lontarlaw09_Letter_L1 n great q rr).2 :=
  loop_runs (by intro r; cases r <;> simp [E_lontarlaw09_Letter_L1]) (body_lontarlaw09_Letter_L1 n great q) nn vv rr h

def S_lontarlaw09_Letter_L0 (n : Int) (vv : Int × Int) : St :=
  match vv with
  | (k, great) => { ts := [(0, (.lit (.int .i64 n))), (2, (.ptr 0 0)), (5, (.lit (.int .i64 k))), (6, (.lit (.int .i64 great)))], n := 55, σ := [.cells 38 [(.lit (.int .i64 0)), (.lit (.complex .f64 0 0))]] }

def X_lontarlaw09_Letter_L0_0 (n : Int) (v : Int) (m : Int) (m_re : Nat) (m_im : Nat) (m1 : Int) (m2 : Int) (m3 : List Int) : St := { ts := [(2, (.ptr 0 0)), (3, (.lit (.int .i64 v))), (4, (.lit (.bool true)))], n := 55, σ := [.cells 38 [(.lit (.int .i64 m)), (.lit (.complex .f64 m_re m_im))], .cells 80 [(.lit (.int .i64 m1)), (.lit (.int .i64 m2)), (.sl .view false (eI .i64 m3))]] }

def X_lontarlaw09_Letter_L0_1 (n : Int) (v : Int) (m : Int) (m_re : Nat) (m_im : Nat) (m1 : Int) (m2 : Int) (m3 : List Int) : St := { ts := [(2, (.ptr 0 0)), (3, (.lit (.int .i64 v))), (4, (.lit (.bool true)))], n := 55, σ := [.cells 38 [(.lit (.int .i64 m)), (.lit (.complex .f64 m_re m_im))], .cells 80 [(.lit (.int .i64 m1)), (.lit (.int .i64 m2)), (.sl .view false (eI .i64 m3))]] }

def X_lontarlaw09_Letter_L0_2 (n : Int) (k : Int) (great : Int) (v : Bool) : St := { ts := [(0, (.lit (.int .i64 n))), (2, (.ptr 0 0)), (5, (.lit (.int .i64 k))), (6, (.lit (.int .i64 great))), (13, (.lit (.bool v)))], n := 55, σ := [.cells 38 [(.lit (.int .i64 0)), (.lit (.complex .f64 0 0))]] }

def E_lontarlaw09_Letter_L0 (n : Int) (vv : lontarlaw09_Letter_L0_R) : Exit × St :=
  match vv with
  | .x0 v m m_re m_im m1 m2 m3 => (.ret, X_lontarlaw09_Letter_L0_0 n v m m_re m_im m1 m2 m3)
  | .x1 v m m_re m_im m1 m2 m3 => (.ret, X_lontarlaw09_Letter_L0_1 n v m m_re m_im m1 m2 m3)
  | .x2 k great v => (.exit 0, X_lontarlaw09_Letter_L0_2 n k great v)

set_option maxRecDepth 100000 in
theorem body_lontarlaw09_Letter_L0 (n : Int) (vv : Int × Int) (x) (h : lontarlaw09_Letter_L0 n vv = some x) : RunsB Try.prog 0 (sub [1, 1, 0, 1, 0, 0] (fbody Try.f29)) (S_lontarlaw09_Letter_L0 n vv) (sideX (E_lontarlaw09_Letter_L0 n) x) (sideS (S_lontarlaw09_Letter_L0 n) (E_lontarlaw09_Letter_L0 n) x) := by
  obtain ⟨k, great⟩ := vv
  unfold lontarlaw09_Letter_L0 at h
  dsimp only at h
  rcases ite_some h with ⟨hc158, h⟩ | ⟨hc158, h⟩
  · obtain ⟨q, h_q, h⟩ := Option.bind_eq_some_iff.1 h
    obtain ⟨l215, hr_l215, h⟩ := Option.bind_eq_some_iff.1 h
    have hl_l215 := runs_lontarlaw09_Letter_L1 n great q hr_l215
    cases l215 with
    | x0 v m m_re m_im m1 m2 m3 =>
      dsimp only at h
      injection h with h; subst h
      exact codeH_sound (C := C29) (base := 0) wf _ (cs := [.b true, .reg 5 [(0, { it := .res (.sl (.excl 80) false (List.map GLontarlaw09Row.c q)) [.cells 38 [(.lit (.int .i64 0)), (.lit (.complex .f64 0 0))]] [] }), (1, { it := .val (.int .i64 (q.length : Int)) })], .lp (.ret) (X_lontarlaw09_Letter_L1_0 n great q v m m_re m_im m1 m2 m3)]) (cs' := []) (ps := [(decide (great < 2)) = true,
          CallK Try.prog false 50 [] [.cells 38 [(.lit (.int .i64 0)), (.lit (.complex .f64 0 0))]] (.sl (.excl 80) false (List.map GLontarlaw09Row.c q)) [.cells 38 [(.lit (.int .i64 0)), (.lit (.complex .f64 0 0))]],
          Value.int .i64 (↑(List.length (List.map GLontarlaw09Row.c q)) : Int) = .int .i64 (q.length : Int),
          RunsB Try.prog 0 (.loop (sub [1, 1, 0, 1, 0, 0, 1, 0, 0, 1, 0, 0] (fbody Try.f29))) (S_lontarlaw09_Letter_L1 n great q (k, 0)) (.ret) (X_lontarlaw09_Letter_L1_0 n great q v m m_re m_im m1 m2 m3)]) (by kernel_rfl)
        ⟨(decide_eq_true hc158), (call_lontarlaw09_Rows h_q _ _), (len_val _ _), hl_l215, trivial⟩
    | x1 v m m_re m_im m1 m2 m3 =>
      dsimp only at h
      injection h with h; subst h
      exact codeH_sound (C := C29) (base := 0) wf _ (cs := [.b true, .reg 5 [(0, { it := .res (.sl (.excl 80) false (List.map GLontarlaw09Row.c q)) [.cells 38 [(.lit (.int .i64 0)), (.lit (.complex .f64 0 0))]] [] }), (1, { it := .val (.int .i64 (q.length : Int)) })], .lp (.ret) (X_lontarlaw09_Letter_L1_1 n great q v m m_re m_im m1 m2 m3)]) (cs' := []) (ps := [(decide (great < 2)) = true,
          CallK Try.prog false 50 [] [.cells 38 [(.lit (.int .i64 0)), (.lit (.complex .f64 0 0))]] (.sl (.excl 80) false (List.map GLontarlaw09Row.c q)) [.cells 38 [(.lit (.int .i64 0)), (.lit (.complex .f64 0 0))]],
          Value.int .i64 (↑(List.length (List.map GLontarlaw09Row.c q)) : Int) = .int .i64 (q.length : Int),
          RunsB Try.prog 0 (.loop (sub [1, 1, 0, 1, 0, 0, 1, 0, 0, 1, 0, 0] (fbody Try.f29))) (S_lontarlaw09_Letter_L1 n great q (k, 0)) (.ret) (X_lontarlaw09_Letter_L1_1 n great q v m m_re m_im m1 m2 m3)]) (by kernel_rfl)
        ⟨(decide_eq_true hc158), (call_lontarlaw09_Rows h_q _ _), (len_val _ _), hl_l215, trivial⟩
    | x2 k1 v v1 =>
      dsimp only at h
      injection h with h; subst h
      exact codeH_sound (C := C29) (base := 0) wf _ (cs := [.b true, .reg 5 [(0, { it := .res (.sl (.excl 80) false (List.map GLontarlaw09Row.c q)) [.cells 38 [(.lit (.int .i64 0)), (.lit (.complex .f64 0 0))]] [] }), (1, { it := .val (.int .i64 (q.length : Int)) })], .lp (.exit 2) (X_lontarlaw09_Letter_L1_2 n great q k1 v v1)]) (cs' := []) (ps := [(decide (great < 2)) = true,
          CallK Try.prog false 50 [] [.cells 38 [(.lit (.int .i64 0)), (.lit (.complex .f64 0 0))]] (.sl (.excl 80) false (List.map GLontarlaw09Row.c q)) [.cells 38 [(.lit (.int .i64 0)), (.lit (.complex .f64 0 0))]],
          Value.int .i64 (↑(List.length (List.map GLontarlaw09Row.c q)) : Int) = .int .i64 (q.length : Int),
          RunsB Try.prog 0 (.loop (sub [1, 1, 0, 1, 0, 0, 1, 0, 0, 1, 0, 0] (fbody Try.f29))) (S_lontarlaw09_Letter_L1 n great q (k, 0)) (.exit 2) (X_lontarlaw09_Letter_L1_2 n great q k1 v v1)]) (by kernel_rfl)
        ⟨(decide_eq_true hc158), (call_lontarlaw09_Rows h_q _ _), (len_val _ _), hl_l215, trivial⟩
  · injection h with h; subst h
    exact codeH_sound (C := C29) (base := 0) wf _ (cs := [.b false]) (cs' := []) (ps := [(decide (great < 2)) = false]) (by kernel_rfl)
      ⟨(decide_eq_false hc158), trivial⟩

theorem runs_lontarlaw09_Letter_L0 (n : Int) {nn} {vv : Int × Int} {rr} (h : loopM (lontarlaw09_Letter_L0 n) nn vv = some rr) : RunsB Try.prog 0 (.loop (sub [1, 1, 0, 1, 0, 0] (fbody Try.f29))) (S_lontarlaw09_Letter_L0 n vv) (E_lontarlaw09_Letter_L0 n rr).1 (E_lontarlaw09_Letter_L0 n rr).2 :=
  loop_runs (by intro r; cases r <;> simp [E_lontarlaw09_Letter_L0]) (body_lontarlaw09_Letter_L0 n) nn vv rr h

set_option maxRecDepth 100000 in
theorem knows_lontarlaw09_Letter (n : Int) {r} (h : lontarlaw09_Letter n = some r) : Knows Try.prog 29 [(.lit (.int .i64 n))] (.tup [(.agg [(.lit (.int .i64 r.1.base)), (.lit (.complex .f64 r.1.sign.1 r.1.sign.2))]), (.lit (.int .i64 r.2.1)), (.lit (.bool r.2.2))]) := by
  unfold lontarlaw09_Letter at h
  obtain ⟨l216, hr_l216, h⟩ := Option.bind_eq_some_iff.1 h
  have hl_l216 := runs_lontarlaw09_Letter_L0 n hr_l216
  cases l216 with
  | x0 v m m_re m_im m1 m2 m3 =>
    dsimp only at h
    injection h with h; subst h
    exact Knows.of (C := C29) wf Try.func29 (cs := [.lp (.ret) (X_lontarlaw09_Letter_L0_0 n v m m_re m_im m1 m2 m3)]) (args := [(.lit (.int .i64 n))]) (r := (.tup [(.agg [(.lit (.int .i64 m)), (.lit (.complex .f64 m_re m_im))]), (.lit (.int .i64 v)), (.lit (.bool true))])) (ps := [RunsB Try.prog 0 (.loop (sub [1, 1, 0, 1, 0, 0] (fbody Try.f29))) (S_lontarlaw09_Letter_L0 n (0, 0)) (.ret) (X_lontarlaw09_Letter_L0_0 n v m m_re m_im m1 m2 m3)]) (by kernel_rfl)
      ⟨hl_l216, trivial⟩
  | x1 v m m_re m_im m1 m2 m3 =>
    dsimp only at h
    injection h with h; subst h
    exact Knows.of (C := C29) wf Try.func29 (cs := [.lp (.ret) (X_lontarlaw09_Letter_L0_1 n v m m_re m_im m1 m2 m3)]) (args := [(.lit (.int .i64 n))]) (r := (.tup [(.agg [(.lit (.int .i64 m)), (.lit (.complex .f64 m_re m_im))]), (.lit (.int .i64 v)), (.lit (.bool true))])) (ps := [RunsB Try.prog 0 (.loop (sub [1, 1, 0, 1, 0, 0] (fbody Try.f29))) (S_lontarlaw09_Letter_L0 n (0, 0)) (.ret) (X_lontarlaw09_Letter_L0_1 n v m m_re m_im m1 m2 m3)]) (by kernel_rfl)
      ⟨hl_l216, trivial⟩
  | x2 k great v =>
    dsimp only at h
    injection h with h; subst h
    exact Knows.of (C := C29) wf Try.func29 (cs := [.lp (.exit 0) (X_lontarlaw09_Letter_L0_2 n k great v)]) (args := [(.lit (.int .i64 n))]) (r := (.tup [(.agg [(.lit (.int .i64 0)), (.lit (.complex .f64 0 0))]), (.lit (.int .i64 0)), (.lit (.bool false))])) (ps := [RunsB Try.prog 0 (.loop (sub [1, 1, 0, 1, 0, 0] (fbody Try.f29))) (S_lontarlaw09_Letter_L0 n (0, 0)) (.exit 0) (X_lontarlaw09_Letter_L0_2 n k great v)]) (by kernel_rfl)
      ⟨hl_l216, trivial⟩
theorem call_lontarlaw09_Letter {n : Int} {r} (h : lontarlaw09_Letter n = some r) (kp : Bool) (σ : List Bx) : CallK Try.prog kp 29 [(.lit (.int .i64 n))] σ (.tup [(.agg [(.lit (.int .i64 r.1.base)), (.lit (.complex .f64 r.1.sign.1 r.1.sign.2))]), (.lit (.int .i64 r.2.1)), (.lit (.bool r.2.2))]) σ :=
  (knows_lontarlaw09_Letter n h).call (and_t rfl rfl) rfl kp σ

def h33 : Nat → Option Hint
| 0 => some { keep := [0, 2] }
| 1 => some { keep := [0, 2, 4] }
| 2 => some { keep := [0, 2, 4, 9] }
| 3 => some { keep := [0, 2, 4], cut := some 1 }
| 4 => some { keep := [0, 2, 4, 5, 6] }
| 5 => some { keep := [0, 2, 4, 5, 20] }
| 6 => some { keep := [2, 3] }
| 7 => some { keep := [2, 3] }
| _ => none

noncomputable def C33 : Ctx := { P := Try.prog, mv := fun _ _ => false, res := resOf Try.f33, live := h33, call := fun _ _ _ => none }

def S_lontarlaw09_Split_L0 (s : Int) (vv : Int) : St :=
  match vv with
  | n => { ts := [(0, (.lit (.int .i64 s))), (2, (.ptr 0 0)), (4, (.lit (.int .i64 n)))], n := 23, σ := [.cells 38 [(.lit (.int .i64 0)), (.lit (.complex .f64 0 0))]] }

def X_lontarlaw09_Split_L0_0 (s : Int) (m : Int) (m_re : Nat) (m_im : Nat) (m1 : Int) (m_re1 : Nat) (m_im1 : Nat) : St := { ts := [(2, (.ptr 0 0)), (3, (.lit (.bool true)))], n := 23, σ := [.cells 38 [(.lit (.int .i64 m)), (.lit (.complex .f64 m_re m_im))], .cells 38 [(.lit (.int .i64 m1)), (.lit (.complex .f64 m_re1 m_im1))]] }

def X_lontarlaw09_Split_L0_1 (s : Int) (n : Int) (v : Bool) : St := { ts := [(0, (.lit (.int .i64 s))), (2, (.ptr 0 0)), (4, (.lit (.int .i64 n))), (9, (.lit (.bool v)))], n := 23, σ := [.cells 38 [(.lit (.int .i64 0)), (.lit (.complex .f64 0 0))]] }

def E_lontarlaw09_Split_L0 (s : Int) (vv : lontarlaw09_Split_L0_R) : Exit × St :=
  match vv with
  | .x0 m m_re m_im m1 m_re1 m_im1 => (.ret, X_lontarlaw09_Split_L0_0 s m m_re m_im m1 m_re1 m_im1)
  | .x1 n v => (.exit 0, X_lontarlaw09_Split_L0_1 s n v)

set_option maxRecDepth 100000 in
theorem body_lontarlaw09_Split_L0 (s : Int) (n : Int) (x) (h : lontarlaw09_Split_L0 s n = some x) : RunsB Try.prog 0 (sub [1, 0, 1, 0, 0] (fbody Try.f33)) (S_lontarlaw09_Split_L0 s n) (sideX (E_lontarlaw09_Split_L0 s) x) (sideS (S_lontarlaw09_Split_L0 s) (E_lontarlaw09_Split_L0 s) x) := by
  unfold lontarlaw09_Split_L0 at h
  dsimp only at h
  rcases ite_some h with ⟨hc6, h⟩ | ⟨hc6, h⟩
  · obtain ⟨q, h_q, h⟩ := Option.bind_eq_some_iff.1 h
    rcases ite_some h with ⟨hc7, h⟩ | ⟨hc7, h⟩
    · injection h with h; subst h
      exact codeH_sound (C := C33) (base := 0) wf _ (cs := [.b true, .reg 4 [(1, { it := .res (.tup [(.agg [(.lit (.int .i64 q.1.base)), (.lit (.complex .f64 q.1.sign.1 q.1.sign.2))]), (.lit (.int .i64 q.2.1)), (.lit (.bool q.2.2))]) [.cells 38 [(.lit (.int .i64 0)), (.lit (.complex .f64 0 0))]] [] })], .b true]) (cs' := []) (ps := [(decide (n < 148)) = true,
          CallK Try.prog false 29 [(.lit (.int .i64 n))] [.cells 38 [(.lit (.int .i64 0)), (.lit (.complex .f64 0 0))]] (.tup [(.agg [(.lit (.int .i64 q.1.base)), (.lit (.complex .f64 q.1.sign.1 q.1.sign.2))]), (.lit (.int .i64 q.2.1)), (.lit (.bool q.2.2))]) [.cells 38 [(.lit (.int .i64 0)), (.lit (.complex .f64 0 0))]],
          (q.2.1 == s) = true]) (by kernel_rfl)
        ⟨(decide_eq_true hc6), (call_lontarlaw09_Letter h_q _ _), (beq_iff_eq.2 hc7), trivial⟩
    · injection h with h; subst h
      exact codeH_sound (C := C33) (base := 0) wf _ (cs := [.b true, .reg 4 [(1, { it := .res (.tup [(.agg [(.lit (.int .i64 q.1.base)), (.lit (.complex .f64 q.1.sign.1 q.1.sign.2))]), (.lit (.int .i64 q.2.1)), (.lit (.bool q.2.2))]) [.cells 38 [(.lit (.int .i64 0)), (.lit (.complex .f64 0 0))]] [] })], .b false]) (cs' := []) (ps := [(decide (n < 148)) = true,
          CallK Try.prog false 29 [(.lit (.int .i64 n))] [.cells 38 [(.lit (.int .i64 0)), (.lit (.complex .f64 0 0))]] (.tup [(.agg [(.lit (.int .i64 q.1.base)), (.lit (.complex .f64 q.1.sign.1 q.1.sign.2))]), (.lit (.int .i64 q.2.1)), (.lit (.bool q.2.2))]) [.cells 38 [(.lit (.int .i64 0)), (.lit (.complex .f64 0 0))]],
          (q.2.1 == s) = false]) (by kernel_rfl)
        ⟨(decide_eq_true hc6), (call_lontarlaw09_Letter h_q _ _), (beq_eq_false_iff_ne.2 hc7), trivial⟩
  · injection h with h; subst h
    exact codeH_sound (C := C33) (base := 0) wf _ (cs := [.b false]) (cs' := []) (ps := [(decide (n < 148)) = false]) (by kernel_rfl)
      ⟨(decide_eq_false hc6), trivial⟩

theorem runs_lontarlaw09_Split_L0 (s : Int) {nn} {vv : Int} {rr} (h : loopM (lontarlaw09_Split_L0 s) nn vv = some rr) : RunsB Try.prog 0 (.loop (sub [1, 0, 1, 0, 0] (fbody Try.f33))) (S_lontarlaw09_Split_L0 s vv) (E_lontarlaw09_Split_L0 s rr).1 (E_lontarlaw09_Split_L0 s rr).2 :=
  loop_runs (by intro r; cases r <;> simp [E_lontarlaw09_Split_L0]) (body_lontarlaw09_Split_L0 s) nn vv rr h

set_option maxRecDepth 100000 in
theorem knows_lontarlaw09_Split (s : Int) {r} (h : lontarlaw09_Split s = some r) : Knows Try.prog 33 [(.lit (.int .i64 s))] (.tup [(.agg [(.lit (.int .i64 r.1.base)), (.lit (.complex .f64 r.1.sign.1 r.1.sign.2))]), (.lit (.bool r.2))]) := by
  unfold lontarlaw09_Split at h
  obtain ⟨l8, hr_l8, h⟩ := Option.bind_eq_some_iff.1 h
  have hl_l8 := runs_lontarlaw09_Split_L0 s hr_l8
  cases l8 with
  | x0 m m_re m_im m1 m_re1 m_im1 =>
    dsimp only at h
    injection h with h; subst h
    exact Knows.of (C := C33) wf Try.func33 (cs := [.lp (.ret) (X_lontarlaw09_Split_L0_0 s m m_re m_im m1 m_re1 m_im1)]) (args := [(.lit (.int .i64 s))]) (r := (.tup [(.agg [(.lit (.int .i64 m)), (.lit (.complex .f64 m_re m_im))]), (.lit (.bool true))])) (ps := [RunsB Try.prog 0 (.loop (sub [1, 0, 1, 0, 0] (fbody Try.f33))) (S_lontarlaw09_Split_L0 s 0) (.ret) (X_lontarlaw09_Split_L0_0 s m m_re m_im m1 m_re1 m_im1)]) (by kernel_rfl)
      ⟨hl_l8, trivial⟩
  | x1 n v =>
    dsimp only at h
    injection h with h; subst h
    exact Knows.of (C := C33) wf Try.func33 (cs := [.lp (.exit 0) (X_lontarlaw09_Split_L0_1 s n v)]) (args := [(.lit (.int .i64 s))]) (r := (.tup [(.agg [(.lit (.int .i64 0)), (.lit (.complex .f64 0 0))]), (.lit (.bool false))])) (ps := [RunsB Try.prog 0 (.loop (sub [1, 0, 1, 0, 0] (fbody Try.f33))) (S_lontarlaw09_Split_L0 s 0) (.exit 0) (X_lontarlaw09_Split_L0_1 s n v)]) (by kernel_rfl)
      ⟨hl_l8, trivial⟩
theorem call_lontarlaw09_Split {s : Int} {r} (h : lontarlaw09_Split s = some r) (kp : Bool) (σ : List Bx) : CallK Try.prog kp 33 [(.lit (.int .i64 s))] σ (.tup [(.agg [(.lit (.int .i64 r.1.base)), (.lit (.complex .f64 r.1.sign.1 r.1.sign.2))]), (.lit (.bool r.2))]) σ :=
  (knows_lontarlaw09_Split s h).call (and_t rfl rfl) rfl kp σ

def h35 : Nat → Option Hint
| 0 => some { keep := [0, 1, 2] }
| 1 => some { keep := [0, 1, 2, 8] }
| 2 => some { keep := [0, 1, 2, 8, 13] }
| 3 => some { keep := [0, 1, 2, 8], cut := some 0 }
| 4 => some { keep := [0, 1, 2, 8, 9, 10] }
| 5 => some { keep := [0, 1, 2, 8, 10, 39] }
| 6 => some { keep := [6, 7] }
| 7 => some { keep := [6, 7] }
| _ => none

noncomputable def C35 : Ctx := { P := Try.prog, mv := fun _ _ => false, res := resOf Try.f35, live := h35, call := fun _ _ _ => none }

def S_lontarlaw09_Join_L0 (base : Int) (mark : Nat) (tone : Nat) (vv : Int) : St :=
  match vv with
  | n => { ts := [(0, (.lit (.int .i64 base))), (1, (.lit (.float .f64 mark))), (2, (.lit (.float .f64 tone))), (8, (.lit (.int .i64 n)))], n := 41, σ := [] }

def X_lontarlaw09_Join_L0_0 (base : Int) (mark : Nat) (tone : Nat) (v : Int) (m : Int) (m_re : Nat) (m_im : Nat) : St := { ts := [(6, (.lit (.int .i64 v))), (7, (.lit (.bool true)))], n := 41, σ := [.cells 38 [(.lit (.int .i64 m)), (.lit (.complex .f64 m_re m_im))]] }

def X_lontarlaw09_Join_L0_1 (base : Int) (mark : Nat) (tone : Nat) (n : Int) (v : Bool) : St := { ts := [(0, (.lit (.int .i64 base))), (1, (.lit (.float .f64 mark))), (2, (.lit (.float .f64 tone))), (8, (.lit (.int .i64 n))), (13, (.lit (.bool v)))], n := 41, σ := [] }

def E_lontarlaw09_Join_L0 (base : Int) (mark : Nat) (tone : Nat) (vv : lontarlaw09_Join_L0_R) : Exit × St :=
  match vv with
  | .x0 v m m_re m_im => (.ret, X_lontarlaw09_Join_L0_0 base mark tone v m m_re m_im)
  | .x1 n v => (.exit 0, X_lontarlaw09_Join_L0_1 base mark tone n v)

set_option maxRecDepth 100000 in
theorem body_lontarlaw09_Join_L0 (base : Int) (mark : Nat) (tone : Nat) (n : Int) (x) (h : lontarlaw09_Join_L0 base mark tone n = some x) : RunsB Try.prog 0 (sub [1, 0, 1, 0, 0] (fbody Try.f35)) (S_lontarlaw09_Join_L0 base mark tone n) (sideX (E_lontarlaw09_Join_L0 base mark tone) x) (sideS (S_lontarlaw09_Join_L0 base mark tone) (E_lontarlaw09_Join_L0 base mark tone) x) := by
  unfold lontarlaw09_Join_L0 at h
  dsimp only at h
  rcases ite_some h with ⟨hc12, h⟩ | ⟨hc12, h⟩
  · obtain ⟨q, h_q, h⟩ := Option.bind_eq_some_iff.1 h
    rcases ite_some h with ⟨hc13, h⟩ | ⟨hc13, h⟩
    · rcases ite_some h with ⟨hc14, h⟩ | ⟨hc14, h⟩
      · rcases ite_some h with ⟨hc15, h⟩ | ⟨hc15, h⟩
        · injection h with h; subst h
          exact codeH_sound (C := C35) (base := 0) wf _ (cs := [.b true, .reg 4 [(1, { it := .res (.tup [(.agg [(.lit (.int .i64 q.1.base)), (.lit (.complex .f64 q.1.sign.1 q.1.sign.2))]), (.lit (.int .i64 q.2.1)), (.lit (.bool q.2.2))]) [] [] })], .reg 5 [(5, { w := some true }), (6, { w := some true }), (7, { it := .val (.float .f64 q.1.sign.1), w := some true }), (8, { w := some true }), (9, { it := .val (.bool (feq q.1.sign.1 mark)), w := some true }), (10, { it := .b true }), (12, { w := some true }), (13, { w := some true }), (14, { it := .val (.float .f64 q.1.sign.2), w := some true }), (15, { w := some true }), (16, { it := .val (.bool (feq q.1.sign.2 tone)), w := some true }), (17, { it := .b true })], .b true]) (cs' := []) (ps := [(decide (n < 148)) = true,
              CallK Try.prog false 29 [(.lit (.int .i64 n))] [] (.tup [(.agg [(.lit (.int .i64 q.1.base)), (.lit (.complex .f64 q.1.sign.1 q.1.sign.2))]), (.lit (.int .i64 q.2.1)), (.lit (.bool q.2.2))]) [],
              (q.1.base == base) = true,
              (q.1.base == base) = true,
              (q.1.base == base) = true,
              det Try.prog (builtin .real #[36] 47 [false].toArray [(.complex .f64 q.1.sign.1 q.1.sign.2)].toArray) = some (.value (.float .f64 q.1.sign.1)),
              (q.1.base == base) = true,
              (q.1.base == base) = true,
              det Try.prog (do eqGuard .eql 47 (.tmp 29) (.tmp 30) (.float .f64 q.1.sign.1) (.float .f64 mark); binOp .eql 47 (.float .f64 q.1.sign.1) (.float .f64 mark)) = some (.bool (feq q.1.sign.1 mark)),
              (q.1.base == base) = true,
              (feq q.1.sign.1 mark) = true,
              (feq q.1.sign.1 mark) = true,
              (feq q.1.sign.1 mark) = true,
              det Try.prog (builtin .imag #[36] 47 [false].toArray [(.complex .f64 q.1.sign.1 q.1.sign.2)].toArray) = some (.value (.float .f64 q.1.sign.2)),
              (feq q.1.sign.1 mark) = true,
              (feq q.1.sign.1 mark) = true,
              det Try.prog (do eqGuard .eql 47 (.tmp 36) (.tmp 37) (.float .f64 q.1.sign.2) (.float .f64 tone); binOp .eql 47 (.float .f64 q.1.sign.2) (.float .f64 tone)) = some (.bool (feq q.1.sign.2 tone)),
              (feq q.1.sign.1 mark) = true,
              (feq q.1.sign.2 tone) = true]) (by kernel_rfl)
            ⟨(decide_eq_true hc12), (call_lontarlaw09_Letter h_q _ _), (beq_iff_eq.2 hc13), (beq_iff_eq.2 hc13), (beq_iff_eq.2 hc13), rfl, (beq_iff_eq.2 hc13), (beq_iff_eq.2 hc13), (det_feql _ _ _ _ _ _), (beq_iff_eq.2 hc13), hc14, hc14, hc14, rfl, hc14, hc14, (det_feql _ _ _ _ _ _), hc14, hc15, trivial⟩
        · injection h with h; subst h
          exact codeH_sound (C := C35) (base := 0) wf _ (cs := [.b true, .reg 4 [(1, { it := .res (.tup [(.agg [(.lit (.int .i64 q.1.base)), (.lit (.complex .f64 q.1.sign.1 q.1.sign.2))]), (.lit (.int .i64 q.2.1)), (.lit (.bool q.2.2))]) [] [] })], .reg 5 [(5, { w := some true }), (6, { w := some true }), (7, { it := .val (.float .f64 q.1.sign.1), w := some true }), (8, { w := some true }), (9, { it := .val (.bool (feq q.1.sign.1 mark)), w := some true }), (10, { it := .b true }), (12, { w := some true }), (13, { w := some true }), (14, { it := .val (.float .f64 q.1.sign.2), w := some true }), (15, { w := some true }), (16, { it := .val (.bool (feq q.1.sign.2 tone)), w := some true }), (17, { it := .b true })], .b false]) (cs' := []) (ps := [(decide (n < 148)) = true,
              CallK Try.prog false 29 [(.lit (.int .i64 n))] [] (.tup [(.agg [(.lit (.int .i64 q.1.base)), (.lit (.complex .f64 q.1.sign.1 q.1.sign.2))]), (.lit (.int .i64 q.2.1)), (.lit (.bool q.2.2))]) [],
              (q.1.base == base) = true,
              (q.1.base == base) = true,
              (q.1.base == base) = true,
              det Try.prog (builtin .real #[36] 47 [false].toArray [(.complex .f64 q.1.sign.1 q.1.sign.2)].toArray) = some (.value (.float .f64 q.1.sign.1)),
              (q.1.base == base) = true,
              (q.1.base == base) = true,
              det Try.prog (do eqGuard .eql 47 (.tmp 29) (.tmp 30) (.float .f64 q.1.sign.1) (.float .f64 mark); binOp .eql 47 (.float .f64 q.1.sign.1) (.float .f64 mark)) = some (.bool (feq q.1.sign.1 mark)),
              (q.1.base == base) = true,
              (feq q.1.sign.1 mark) = true,
              (feq q.1.sign.1 mark) = true,
              (feq q.1.sign.1 mark) = true,
              det Try.prog (builtin .imag #[36] 47 [false].toArray [(.complex .f64 q.1.sign.1 q.1.sign.2)].toArray) = some (.value (.float .f64 q.1.sign.2)),
              (feq q.1.sign.1 mark) = true,
              (feq q.1.sign.1 mark) = true,
              det Try.prog (do eqGuard .eql 47 (.tmp 36) (.tmp 37) (.float .f64 q.1.sign.2) (.float .f64 tone); binOp .eql 47 (.float .f64 q.1.sign.2) (.float .f64 tone)) = some (.bool (feq q.1.sign.2 tone)),
              (feq q.1.sign.1 mark) = true,
              (feq q.1.sign.2 tone) = false]) (by kernel_rfl)
            ⟨(decide_eq_true hc12), (call_lontarlaw09_Letter h_q _ _), (beq_iff_eq.2 hc13), (beq_iff_eq.2 hc13), (beq_iff_eq.2 hc13), rfl, (beq_iff_eq.2 hc13), (beq_iff_eq.2 hc13), (det_feql _ _ _ _ _ _), (beq_iff_eq.2 hc13), hc14, hc14, hc14, rfl, hc14, hc14, (det_feql _ _ _ _ _ _), hc14, (Bool.eq_false_iff.2 hc15), trivial⟩
      · injection h with h; subst h
        exact codeH_sound (C := C35) (base := 0) wf _ (cs := [.b true, .reg 4 [(1, { it := .res (.tup [(.agg [(.lit (.int .i64 q.1.base)), (.lit (.complex .f64 q.1.sign.1 q.1.sign.2))]), (.lit (.int .i64 q.2.1)), (.lit (.bool q.2.2))]) [] [] })], .reg 5 [(5, { w := some true }), (6, { w := some true }), (7, { it := .val (.float .f64 q.1.sign.1), w := some true }), (8, { w := some true }), (9, { it := .val (.bool (feq q.1.sign.1 mark)), w := some true }), (10, { it := .b true }), (12, { w := some false }), (13, { w := some false }), (14, { w := some false }), (15, { w := some false }), (16, { w := some false }), (17, { it := .b false })], .b false]) (cs' := []) (ps := [(decide (n < 148)) = true,
            CallK Try.prog false 29 [(.lit (.int .i64 n))] [] (.tup [(.agg [(.lit (.int .i64 q.1.base)), (.lit (.complex .f64 q.1.sign.1 q.1.sign.2))]), (.lit (.int .i64 q.2.1)), (.lit (.bool q.2.2))]) [],
            (q.1.base == base) = true,
            (q.1.base == base) = true,
            (q.1.base == base) = true,
            det Try.prog (builtin .real #[36] 47 [false].toArray [(.complex .f64 q.1.sign.1 q.1.sign.2)].toArray) = some (.value (.float .f64 q.1.sign.1)),
            (q.1.base == base) = true,
            (q.1.base == base) = true,
            det Try.prog (do eqGuard .eql 47 (.tmp 29) (.tmp 30) (.float .f64 q.1.sign.1) (.float .f64 mark); binOp .eql 47 (.float .f64 q.1.sign.1) (.float .f64 mark)) = some (.bool (feq q.1.sign.1 mark)),
            (q.1.base == base) = true,
            (feq q.1.sign.1 mark) = false,
            (feq q.1.sign.1 mark) = false,
            (feq q.1.sign.1 mark) = false,
            (feq q.1.sign.1 mark) = false,
            (feq q.1.sign.1 mark) = false,
            (feq q.1.sign.1 mark) = false,
            false = false]) (by kernel_rfl)
          ⟨(decide_eq_true hc12), (call_lontarlaw09_Letter h_q _ _), (beq_iff_eq.2 hc13), (beq_iff_eq.2 hc13), (beq_iff_eq.2 hc13), rfl, (beq_iff_eq.2 hc13), (beq_iff_eq.2 hc13), (det_feql _ _ _ _ _ _), (beq_iff_eq.2 hc13), (Bool.eq_false_iff.2 hc14), (Bool.eq_false_iff.2 hc14), (Bool.eq_false_iff.2 hc14), (Bool.eq_false_iff.2 hc14), (Bool.eq_false_iff.2 hc14), (Bool.eq_false_iff.2 hc14), rfl, trivial⟩
    · injection h with h; subst h
      exact codeH_sound (C := C35) (base := 0) wf _ (cs := [.b true, .reg 4 [(1, { it := .res (.tup [(.agg [(.lit (.int .i64 q.1.base)), (.lit (.complex .f64 q.1.sign.1 q.1.sign.2))]), (.lit (.int .i64 q.2.1)), (.lit (.bool q.2.2))]) [] [] })], .reg 5 [(5, { w := some false }), (6, { w := some false }), (7, { w := some false }), (8, { w := some false }), (9, { w := some false }), (10, { it := .b false }), (12, { w := some false }), (13, { w := some false }), (14, { w := some false }), (15, { w := some false }), (16, { w := some false }), (17, { it := .b false })], .b false]) (cs' := []) (ps := [(decide (n < 148)) = true,
          CallK Try.prog false 29 [(.lit (.int .i64 n))] [] (.tup [(.agg [(.lit (.int .i64 q.1.base)), (.lit (.complex .f64 q.1.sign.1 q.1.sign.2))]), (.lit (.int .i64 q.2.1)), (.lit (.bool q.2.2))]) [],
          (q.1.base == base) = false,
          (q.1.base == base) = false,
          (q.1.base == base) = false,
          (q.1.base == base) = false,
          (q.1.base == base) = false,
          (q.1.base == base) = false,
          false = false,
          false = false,
          false = false,
          false = false,
          false = false,
          false = false,
          false = false]) (by kernel_rfl)
        ⟨(decide_eq_true hc12), (call_lontarlaw09_Letter h_q _ _), (beq_eq_false_iff_ne.2 hc13), (beq_eq_false_iff_ne.2 hc13), (beq_eq_false_iff_ne.2 hc13), (beq_eq_false_iff_ne.2 hc13), (beq_eq_false_iff_ne.2 hc13), (beq_eq_false_iff_ne.2 hc13), rfl, rfl, rfl, rfl, rfl, rfl, rfl, trivial⟩
  · injection h with h; subst h
    exact codeH_sound (C := C35) (base := 0) wf _ (cs := [.b false]) (cs' := []) (ps := [(decide (n < 148)) = false]) (by kernel_rfl)
      ⟨(decide_eq_false hc12), trivial⟩

theorem runs_lontarlaw09_Join_L0 (base : Int) (mark : Nat) (tone : Nat) {nn} {vv : Int} {rr} (h : loopM (lontarlaw09_Join_L0 base mark tone) nn vv = some rr) : RunsB Try.prog 0 (.loop (sub [1, 0, 1, 0, 0] (fbody Try.f35))) (S_lontarlaw09_Join_L0 base mark tone vv) (E_lontarlaw09_Join_L0 base mark tone rr).1 (E_lontarlaw09_Join_L0 base mark tone rr).2 :=
  loop_runs (by intro r; cases r <;> simp [E_lontarlaw09_Join_L0]) (body_lontarlaw09_Join_L0 base mark tone) nn vv rr h

set_option maxRecDepth 100000 in
theorem knows_lontarlaw09_Join (base : Int) (mark : Nat) (tone : Nat) {r} (h : lontarlaw09_Join base mark tone = some r) : Knows Try.prog 35 [(.lit (.int .i64 base)), (.lit (.float .f64 mark)), (.lit (.float .f64 tone))] (.tup [(.lit (.int .i64 r.1)), (.lit (.bool r.2))]) := by
  unfold lontarlaw09_Join at h
  obtain ⟨l16, hr_l16, h⟩ := Option.bind_eq_some_iff.1 h
  have hl_l16 := runs_lontarlaw09_Join_L0 base mark tone hr_l16
  cases l16 with
  | x0 v m m_re m_im =>
    dsimp only at h
    injection h with h; subst h
    exact Knows.of (C := C35) wf Try.func35 (cs := [.lp (.ret) (X_lontarlaw09_Join_L0_0 base mark tone v m m_re m_im)]) (args := [(.lit (.int .i64 base)), (.lit (.float .f64 mark)), (.lit (.float .f64 tone))]) (r := (.tup [(.lit (.int .i64 v)), (.lit (.bool true))])) (ps := [RunsB Try.prog 0 (.loop (sub [1, 0, 1, 0, 0] (fbody Try.f35))) (S_lontarlaw09_Join_L0 base mark tone 0) (.ret) (X_lontarlaw09_Join_L0_0 base mark tone v m m_re m_im)]) (by kernel_rfl)
      ⟨hl_l16, trivial⟩
  | x1 n v =>
    dsimp only at h
    injection h with h; subst h
    exact Knows.of (C := C35) wf Try.func35 (cs := [.lp (.exit 0) (X_lontarlaw09_Join_L0_1 base mark tone n v)]) (args := [(.lit (.int .i64 base)), (.lit (.float .f64 mark)), (.lit (.float .f64 tone))]) (r := (.tup [(.lit (.int .i64 0)), (.lit (.bool false))])) (ps := [RunsB Try.prog 0 (.loop (sub [1, 0, 1, 0, 0] (fbody Try.f35))) (S_lontarlaw09_Join_L0 base mark tone 0) (.exit 0) (X_lontarlaw09_Join_L0_1 base mark tone n v)]) (by kernel_rfl)
      ⟨hl_l16, trivial⟩
theorem call_lontarlaw09_Join {base : Int} {mark : Nat} {tone : Nat} {r} (h : lontarlaw09_Join base mark tone = some r) (kp : Bool) (σ : List Bx) : CallK Try.prog kp 35 [(.lit (.int .i64 base)), (.lit (.float .f64 mark)), (.lit (.float .f64 tone))] σ (.tup [(.lit (.int .i64 r.1)), (.lit (.bool r.2))]) σ :=
  (knows_lontarlaw09_Join base mark tone h).call (and_t rfl (and_t rfl (and_t rfl rfl))) rfl kp σ

def h36 : Nat → Option Hint
| 0 => some { keep := [] }
| 1 => some { keep := [0, 1] }
| _ => none

noncomputable def C36 : Ctx := { P := Try.prog, mv := fun _ _ => false, res := resOf Try.f36, live := h36, call := fun _ _ _ => none }

set_option maxRecDepth 100000 in
theorem knows_lontarlaw09_Marks {r} (h : lontarlaw09_Marks = some r) : Knows Try.prog 36 [] (.tup [(.sl .view false (eI .i64 r.1)), (.sl .view false (eC .f64 r.2))]) := by
  unfold lontarlaw09_Marks at h
  injection h with h; subst h
  exact Knows.of (C := C36) wf Try.func36 (cs := []) (args := []) (r := (.tup [(.sl .view false (eI .i64 [774, 770, 795, 768, 769, 777, 771, 803])), (.sl .view false (eC .f64 [(4607182418800017408, 0), (4611686018427387904, 0), (4613937818241073152, 0), (0, 4607182418800017408), (0, 4611686018427387904), (0, 4613937818241073152), (0, 4616189618054758400), (0, 4617315517961601024)]))])) (ps := []) (by kernel_rfl)
    trivial
theorem call_lontarlaw09_Marks {r} (h : lontarlaw09_Marks = some r) (kp : Bool) (σ : List Bx) : CallK Try.prog kp 36 [] σ (.tup [(.sl .view false (eI .i64 r.1)), (.sl .view false (eC .f64 r.2))]) σ :=
  (knows_lontarlaw09_Marks h).call rfl rfl kp σ

def h30 : Nat → Option Hint
| 0 => some { keep := [] }
| 1 => some { keep := [1, 2] }
| 2 => some { keep := [1, 2, 3, 4] }
| 3 => some { keep := [1, 2, 3, 4, 5, 6] }
| 4 => some { keep := [1, 2, 3, 4, 5, 6, 8] }
| 5 => some { keep := [0] }
| _ => none

noncomputable def C30 : Ctx := { P := Try.prog, mv := fun _ _ => false, res := resOf Try.f30, live := h30, call := fun _ _ _ => none }

set_option maxRecDepth 100000 in
theorem knows_lontarlaw09_awake {r} (h : lontarlaw09_awake = some r) : Knows Try.prog 30 [] (.lit (.bool r)) := by
  unfold lontarlaw09_awake at h
  obtain ⟨q, h_q, h⟩ := Option.bind_eq_some_iff.1 h
  obtain ⟨q1, h_q1, h⟩ := Option.bind_eq_some_iff.1 h
  obtain ⟨q2, h_q2, h⟩ := Option.bind_eq_some_iff.1 h
  obtain ⟨q3, h_q3, h⟩ := Option.bind_eq_some_iff.1 h
  rcases ite_some h with ⟨hc1, h⟩ | ⟨hc1, h⟩
  · rcases ite_some h with ⟨hc2, h⟩ | ⟨hc2, h⟩
    · rcases ite_some h with ⟨hc3, h⟩ | ⟨hc3, h⟩
      · rcases ite_some h with ⟨hc4, h⟩ | ⟨hc4, h⟩
        · rcases ite_some h with ⟨hc5, h⟩ | ⟨hc5, h⟩
          · rcases ite_some h with ⟨hc6, h⟩ | ⟨hc6, h⟩
            · rcases ite_some h with ⟨hc7, h⟩ | ⟨hc7, h⟩
              · injection h with h; subst h
                exact Knows.of (C := C30) wf Try.func30 (cs := [.reg 1 [(0, { it := .res (.tup [(.agg [(.lit (.int .i64 q.1.base)), (.lit (.complex .f64 q.1.sign.1 q.1.sign.2))]), (.lit (.bool q.2))]) [] [] })], .reg 2 [(1, { it := .res (.tup [(.lit (.int .i64 q1.1)), (.lit (.bool q1.2))]) [.cells 38 [(.lit (.int .i64 q.1.base)), (.lit (.complex .f64 q.1.sign.1 q.1.sign.2))]] [] })], .reg 3 [(1, { it := .res (.tup [(.agg [(.lit (.int .i64 q2.1.base)), (.lit (.complex .f64 q2.1.sign.1 q2.1.sign.2))]), (.lit (.bool q2.2))]) [.cells 38 [(.lit (.int .i64 q.1.base)), (.lit (.complex .f64 q.1.sign.1 q.1.sign.2))]] [] })], .reg 4 [(1, { it := .res (.tup [(.agg [(.lit (.int .i64 q3.1.base)), (.lit (.complex .f64 q3.1.sign.1 q3.1.sign.2))]), (.lit (.bool q3.2))]) [.cells 38 [(.lit (.int .i64 q.1.base)), (.lit (.complex .f64 q.1.sign.1 q.1.sign.2))], .cells 38 [(.lit (.int .i64 q2.1.base)), (.lit (.complex .f64 q2.1.sign.1 q2.1.sign.2))]] [] })], .reg 5 [(2, { w := some true }), (3, { w := some true }), (4, { w := some true }), (5, { it := .b true }), (7, { w := some true }), (8, { w := some true }), (9, { it := .val (.bool (ceq q.1.sign.1 q.1.sign.2 4611686018427387904 4611686018427387904)), w := some true }), (10, { it := .b true }), (12, { w := some true }), (13, { it := .b true }), (15, { w := some true }), (16, { w := some true }), (17, { it := .b true }), (19, { w := some true }), (20, { it := .b true }), (22, { w := some true }), (23, { w := some true }), (24, { it := .val (.bool (ceq q2.1.sign.1 q2.1.sign.2 4613937818241073152 0)), w := some true }), (25, { it := .b true }), (27, { w := some true }), (28, { w := some true }), (29, { it := .b true })]]) (args := []) (r := (.lit (.bool (!q3.2)))) (ps := [CallK Try.prog false 32 [(.lit (.int .i64 7871))] [] (.tup [(.agg [(.lit (.int .i64 q.1.base)), (.lit (.complex .f64 q.1.sign.1 q.1.sign.2))]), (.lit (.bool q.2))]) [],
                    CallK Try.prog false 34 [(.agg [(.lit (.int .i64 69)), (.lit (.complex .f64 4611686018427387904 4611686018427387904))])] [.cells 38 [(.lit (.int .i64 q.1.base)), (.lit (.complex .f64 q.1.sign.1 q.1.sign.2))]] (.tup [(.lit (.int .i64 q1.1)), (.lit (.bool q1.2))]) [.cells 38 [(.lit (.int .i64 q.1.base)), (.lit (.complex .f64 q.1.sign.1 q.1.sign.2))]],
                    CallK Try.prog false 37 [(.agg [(.lit (.int .i64 117)), (.lit (.complex .f64 0 0))]), (.lit (.complex .f64 4613937818241073152 0))] [.cells 38 [(.lit (.int .i64 q.1.base)), (.lit (.complex .f64 q.1.sign.1 q.1.sign.2))]] (.tup [(.agg [(.lit (.int .i64 q2.1.base)), (.lit (.complex .f64 q2.1.sign.1 q2.1.sign.2))]), (.lit (.bool q2.2))]) [.cells 38 [(.lit (.int .i64 q.1.base)), (.lit (.complex .f64 q.1.sign.1 q.1.sign.2))]],
                    CallK Try.prog false 37 [(.agg [(.lit (.int .i64 q2.1.base)), (.lit (.complex .f64 q2.1.sign.1 q2.1.sign.2))]), (.lit (.complex .f64 4607182418800017408 0))] [.cells 38 [(.lit (.int .i64 q.1.base)), (.lit (.complex .f64 q.1.sign.1 q.1.sign.2))], .cells 38 [(.lit (.int .i64 q2.1.base)), (.lit (.complex .f64 q2.1.sign.1 q2.1.sign.2))]] (.tup [(.agg [(.lit (.int .i64 q3.1.base)), (.lit (.complex .f64 q3.1.sign.1 q3.1.sign.2))]), (.lit (.bool q3.2))]) [.cells 38 [(.lit (.int .i64 q.1.base)), (.lit (.complex .f64 q.1.sign.1 q.1.sign.2))], .cells 38 [(.lit (.int .i64 q2.1.base)), (.lit (.complex .f64 q2.1.sign.1 q2.1.sign.2))]],
                    q.2 = true,
                    q.2 = true,
                    q.2 = true,
                    q.2 = true,
                    (q.1.base == 101) = true,
                    (q.1.base == 101) = true,
                    (q.1.base == 101) = true,
                    det Try.prog (do eqGuard .eql 36 (.tmp 36) (.const (.complex .f64 4611686018427387904 4611686018427387904)) (.complex .f64 q.1.sign.1 q.1.sign.2) (.complex .f64 4611686018427387904 4611686018427387904); binOp .eql 36 (.complex .f64 q.1.sign.1 q.1.sign.2) (.complex .f64 4611686018427387904 4611686018427387904)) = some (.bool (ceq q.1.sign.1 q.1.sign.2 4611686018427387904 4611686018427387904)),
                    (q.1.base == 101) = true,
                    (ceq q.1.sign.1 q.1.sign.2 4611686018427387904 4611686018427387904) = true,
                    (ceq q.1.sign.1 q.1.sign.2 4611686018427387904 4611686018427387904) = true,
                    q1.2 = true,
                    q1.2 = true,
                    q1.2 = true,
                    (q1.1 == 7870) = true,
                    (q1.1 == 7870) = true,
                    q2.2 = true,
                    q2.2 = true,
                    q2.2 = true,
                    det Try.prog (do eqGuard .eql 36 (.tmp 51) (.const (.complex .f64 4613937818241073152 0)) (.complex .f64 q2.1.sign.1 q2.1.sign.2) (.complex .f64 4613937818241073152 0); binOp .eql 36 (.complex .f64 q2.1.sign.1 q2.1.sign.2) (.complex .f64 4613937818241073152 0)) = some (.bool (ceq q2.1.sign.1 q2.1.sign.2 4613937818241073152 0)),
                    q2.2 = true,
                    (ceq q2.1.sign.1 q2.1.sign.2 4613937818241073152 0) = true,
                    (ceq q2.1.sign.1 q2.1.sign.2 4613937818241073152 0) = true,
                    (ceq q2.1.sign.1 q2.1.sign.2 4613937818241073152 0) = true]) (by kernel_rfl)
                  ⟨(call_viet_Split h_q _ _), (call_viet_Join h_q1 _ _), (call_viet_Add h_q2 _ _), (call_viet_Add h_q3 _ _), hc1, hc1, hc1, hc1, (beq_iff_eq.2 hc2), (beq_iff_eq.2 hc2), (beq_iff_eq.2 hc2), (det_ceql _ _ _ _ _ _ _ _), (beq_iff_eq.2 hc2), hc3, hc3, hc4, hc4, hc4, (beq_iff_eq.2 hc5), (beq_iff_eq.2 hc5), hc6, hc6, hc6, (det_ceql _ _ _ _ _ _ _ _), hc6, hc7, hc7, hc7, trivial⟩
              · injection h with h; subst h
                exact Knows.of (C := C30) wf Try.func30 (cs := [.reg 1 [(0, { it := .res (.tup [(.agg [(.lit (.int .i64 q.1.base)), (.lit (.complex .f64 q.1.sign.1 q.1.sign.2))]), (.lit (.bool q.2))]) [] [] })], .reg 2 [(1, { it := .res (.tup [(.lit (.int .i64 q1.1)), (.lit (.bool q1.2))]) [.cells 38 [(.lit (.int .i64 q.1.base)), (.lit (.complex .f64 q.1.sign.1 q.1.sign.2))]] [] })], .reg 3 [(1, { it := .res (.tup [(.agg [(.lit (.int .i64 q2.1.base)), (.lit (.complex .f64 q2.1.sign.1 q2.1.sign.2))]), (.lit (.bool q2.2))]) [.cells 38 [(.lit (.int .i64 q.1.base)), (.lit (.complex .f64 q.1.sign.1 q.1.sign.2))]] [] })], .reg 4 [(1, { it := .res (.tup [(.agg [(.lit (.int .i64 q3.1.base)), (.lit (.complex .f64 q3.1.sign.1 q3.1.sign.2))]), (.lit (.bool q3.2))]) [.cells 38 [(.lit (.int .i64 q.1.base)), (.lit (.complex .f64 q.1.sign.1 q.1.sign.2))], .cells 38 [(.lit (.int .i64 q2.1.base)), (.lit (.complex .f64 q2.1.sign.1 q2.1.sign.2))]] [] })], .reg 5 [(2, { w := some true }), (3, { w := some true }), (4, { w := some true }), (5, { it := .b true }), (7, { w := some true }), (8, { w := some true }), (9, { it := .val (.bool (ceq q.1.sign.1 q.1.sign.2 4611686018427387904 4611686018427387904)), w := some true }), (10, { it := .b true }), (12, { w := some true }), (13, { it := .b true }), (15, { w := some true }), (16, { w := some true }), (17, { it := .b true }), (19, { w := some true }), (20, { it := .b true }), (22, { w := some true }), (23, { w := some true }), (24, { it := .val (.bool (ceq q2.1.sign.1 q2.1.sign.2 4613937818241073152 0)), w := some true }), (25, { it := .b true }), (27, { w := some false }), (28, { w := some false }), (29, { it := .b false })]]) (args := []) (r := (.lit (.bool false))) (ps := [CallK Try.prog false 32 [(.lit (.int .i64 7871))] [] (.tup [(.agg [(.lit (.int .i64 q.1.base)), (.lit (.complex .f64 q.1.sign.1 q.1.sign.2))]), (.lit (.bool q.2))]) [],
                    CallK Try.prog false 34 [(.agg [(.lit (.int .i64 69)), (.lit (.complex .f64 4611686018427387904 4611686018427387904))])] [.cells 38 [(.lit (.int .i64 q.1.base)), (.lit (.complex .f64 q.1.sign.1 q.1.sign.2))]] (.tup [(.lit (.int .i64 q1.1)), (.lit (.bool q1.2))]) [.cells 38 [(.lit (.int .i64 q.1.base)), (.lit (.complex .f64 q.1.sign.1 q.1.sign.2))]],
                    CallK Try.prog false 37 [(.agg [(.lit (.int .i64 117)), (.lit (.complex .f64 0 0))]), (.lit (.complex .f64 4613937818241073152 0))] [.cells 38 [(.lit (.int .i64 q.1.base)), (.lit (.complex .f64 q.1.sign.1 q.1.sign.2))]] (.tup [(.agg [(.lit (.int .i64 q2.1.base)), (.lit (.complex .f64 q2.1.sign.1 q2.1.sign.2))]), (.lit (.bool q2.2))]) [.cells 38 [(.lit (.int .i64 q.1.base)), (.lit (.complex .f64 q.1.sign.1 q.1.sign.2))]],
                    CallK Try.prog false 37 [(.agg [(.lit (.int .i64 q2.1.base)), (.lit (.complex .f64 q2.1.sign.1 q2.1.sign.2))]), (.lit (.complex .f64 4607182418800017408 0))] [.cells 38 [(.lit (.int .i64 q.1.base)), (.lit (.complex .f64 q.1.sign.1 q.1.sign.2))], .cells 38 [(.lit (.int .i64 q2.1.base)), (.lit (.complex .f64 q2.1.sign.1 q2.1.sign.2))]] (.tup [(.agg [(.lit (.int .i64 q3.1.base)), (.lit (.complex .f64 q3.1.sign.1 q3.1.sign.2))]), (.lit (.bool q3.2))]) [.cells 38 [(.lit (.int .i64 q.1.base)), (.lit (.complex .f64 q.1.sign.1 q.1.sign.2))], .cells 38 [(.lit (.int .i64 q2.1.base)), (.lit (.complex .f64 q2.1.sign.1 q2.1.sign.2))]],
                    q.2 = true,
                    q.2 = true,
                    q.2 = true,
                    q.2 = true,
                    (q.1.base == 101) = true,
                    (q.1.base == 101) = true,
                    (q.1.base == 101) = true,
                    det Try.prog (do eqGuard .eql 36 (.tmp 36) (.const (.complex .f64 4611686018427387904 4611686018427387904)) (.complex .f64 q.1.sign.1 q.1.sign.2) (.complex .f64 4611686018427387904 4611686018427387904); binOp .eql 36 (.complex .f64 q.1.sign.1 q.1.sign.2) (.complex .f64 4611686018427387904 4611686018427387904)) = some (.bool (ceq q.1.sign.1 q.1.sign.2 4611686018427387904 4611686018427387904)),
                    (q.1.base == 101) = true,
                    (ceq q.1.sign.1 q.1.sign.2 4611686018427387904 4611686018427387904) = true,
                    (ceq q.1.sign.1 q.1.sign.2 4611686018427387904 4611686018427387904) = true,
                    q1.2 = true,
                    q1.2 = true,
                    q1.2 = true,
                    (q1.1 == 7870) = true,
                    (q1.1 == 7870) = true,
                    q2.2 = true,
                    q2.2 = true,
                    q2.2 = true,
                    det Try.prog (do eqGuard .eql 36 (.tmp 51) (.const (.complex .f64 4613937818241073152 0)) (.complex .f64 q2.1.sign.1 q2.1.sign.2) (.complex .f64 4613937818241073152 0); binOp .eql 36 (.complex .f64 q2.1.sign.1 q2.1.sign.2) (.complex .f64 4613937818241073152 0)) = some (.bool (ceq q2.1.sign.1 q2.1.sign.2 4613937818241073152 0)),
                    q2.2 = true,
                    (ceq q2.1.sign.1 q2.1.sign.2 4613937818241073152 0) = false,
                    (ceq q2.1.sign.1 q2.1.sign.2 4613937818241073152 0) = false,
                    (ceq q2.1.sign.1 q2.1.sign.2 4613937818241073152 0) = false]) (by kernel_rfl)
                  ⟨(call_viet_Split h_q _ _), (call_viet_Join h_q1 _ _), (call_viet_Add h_q2 _ _), (call_viet_Add h_q3 _ _), hc1, hc1, hc1, hc1, (beq_iff_eq.2 hc2), (beq_iff_eq.2 hc2), (beq_iff_eq.2 hc2), (det_ceql _ _ _ _ _ _ _ _), (beq_iff_eq.2 hc2), hc3, hc3, hc4, hc4, hc4, (beq_iff_eq.2 hc5), (beq_iff_eq.2 hc5), hc6, hc6, hc6, (det_ceql _ _ _ _ _ _ _ _), hc6, (Bool.eq_false_iff.2 hc7), (Bool.eq_false_iff.2 hc7), (Bool.eq_false_iff.2 hc7), trivial⟩
            · injection h with h; subst h
              exact Knows.of (C := C30) wf Try.func30 (cs := [.reg 1 [(0, { it := .res (.tup [(.agg [(.lit (.int .i64 q.1.base)), (.lit (.complex .f64 q.1.sign.1 q.1.sign.2))]), (.lit (.bool q.2))]) [] [] })], .reg 2 [(1, { it := .res (.tup [(.lit (.int .i64 q1.1)), (.lit (.bool q1.2))]) [.cells 38 [(.lit (.int .i64 q.1.base)), (.lit (.complex .f64 q.1.sign.1 q.1.sign.2))]] [] })], .reg 3 [(1, { it := .res (.tup [(.agg [(.lit (.int .i64 q2.1.base)), (.lit (.complex .f64 q2.1.sign.1 q2.1.sign.2))]), (.lit (.bool q2.2))]) [.cells 38 [(.lit (.int .i64 q.1.base)), (.lit (.complex .f64 q.1.sign.1 q.1.sign.2))]] [] })], .reg 4 [(1, { it := .res (.tup [(.agg [(.lit (.int .i64 q3.1.base)), (.lit (.complex .f64 q3.1.sign.1 q3.1.sign.2))]), (.lit (.bool q3.2))]) [.cells 38 [(.lit (.int .i64 q.1.base)), (.lit (.complex .f64 q.1.sign.1 q.1.sign.2))], .cells 38 [(.lit (.int .i64 q2.1.base)), (.lit (.complex .f64 q2.1.sign.1 q2.1.sign.2))]] [] })], .reg 5 [(2, { w := some true }), (3, { w := some true }), (4, { w := some true }), (5, { it := .b true }), (7, { w := some true }), (8, { w := some true }), (9, { it := .val (.bool (ceq q.1.sign.1 q.1.sign.2 4611686018427387904 4611686018427387904)), w := some true }), (10, { it := .b true }), (12, { w := some true }), (13, { it := .b true }), (15, { w := some true }), (16, { w := some true }), (17, { it := .b true }), (19, { w := some true }), (20, { it := .b true }), (22, { w := some false }), (23, { w := some false }), (24, { w := some false }), (25, { it := .b false }), (27, { w := some false }), (28, { w := some false }), (29, { it := .b false })]]) (args := []) (r := (.lit (.bool false))) (ps := [CallK Try.prog false 32 [(.lit (.int .i64 7871))] [] (.tup [(.agg [(.lit (.int .i64 q.1.base)), (.lit (.complex .f64 q.1.sign.1 q.1.sign.2))]), (.lit (.bool q.2))]) [],
                  CallK Try.prog false 34 [(.agg [(.lit (.int .i64 69)), (.lit (.complex .f64 4611686018427387904 4611686018427387904))])] [.cells 38 [(.lit (.int .i64 q.1.base)), (.lit (.complex .f64 q.1.sign.1 q.1.sign.2))]] (.tup [(.lit (.int .i64 q1.1)), (.lit (.bool q1.2))]) [.cells 38 [(.lit (.int .i64 q.1.base)), (.lit (.complex .f64 q.1.sign.1 q.1.sign.2))]],
                  CallK Try.prog false 37 [(.agg [(.lit (.int .i64 117)), (.lit (.complex .f64 0 0))]), (.lit (.complex .f64 4613937818241073152 0))] [.cells 38 [(.lit (.int .i64 q.1.base)), (.lit (.complex .f64 q.1.sign.1 q.1.sign.2))]] (.tup [(.agg [(.lit (.int .i64 q2.1.base)), (.lit (.complex .f64 q2.1.sign.1 q2.1.sign.2))]), (.lit (.bool q2.2))]) [.cells 38 [(.lit (.int .i64 q.1.base)), (.lit (.complex .f64 q.1.sign.1 q.1.sign.2))]],
                  CallK Try.prog false 37 [(.agg [(.lit (.int .i64 q2.1.base)), (.lit (.complex .f64 q2.1.sign.1 q2.1.sign.2))]), (.lit (.complex .f64 4607182418800017408 0))] [.cells 38 [(.lit (.int .i64 q.1.base)), (.lit (.complex .f64 q.1.sign.1 q.1.sign.2))], .cells 38 [(.lit (.int .i64 q2.1.base)), (.lit (.complex .f64 q2.1.sign.1 q2.1.sign.2))]] (.tup [(.agg [(.lit (.int .i64 q3.1.base)), (.lit (.complex .f64 q3.1.sign.1 q3.1.sign.2))]), (.lit (.bool q3.2))]) [.cells 38 [(.lit (.int .i64 q.1.base)), (.lit (.complex .f64 q.1.sign.1 q.1.sign.2))], .cells 38 [(.lit (.int .i64 q2.1.base)), (.lit (.complex .f64 q2.1.sign.1 q2.1.sign.2))]],
                  q.2 = true,
                  q.2 = true,
                  q.2 = true,
                  q.2 = true,
                  (q.1.base == 101) = true,
                  (q.1.base == 101) = true,
                  (q.1.base == 101) = true,
                  det Try.prog (do eqGuard .eql 36 (.tmp 36) (.const (.complex .f64 4611686018427387904 4611686018427387904)) (.complex .f64 q.1.sign.1 q.1.sign.2) (.complex .f64 4611686018427387904 4611686018427387904); binOp .eql 36 (.complex .f64 q.1.sign.1 q.1.sign.2) (.complex .f64 4611686018427387904 4611686018427387904)) = some (.bool (ceq q.1.sign.1 q.1.sign.2 4611686018427387904 4611686018427387904)),
                  (q.1.base == 101) = true,
                  (ceq q.1.sign.1 q.1.sign.2 4611686018427387904 4611686018427387904) = true,
                  (ceq q.1.sign.1 q.1.sign.2 4611686018427387904 4611686018427387904) = true,
                  q1.2 = true,
                  q1.2 = true,
                  q1.2 = true,
                  (q1.1 == 7870) = true,
                  (q1.1 == 7870) = true,
                  q2.2 = false,
                  q2.2 = false,
                  q2.2 = false,
                  q2.2 = false,
                  false = false,
                  false = false,
                  false = false]) (by kernel_rfl)
                ⟨(call_viet_Split h_q _ _), (call_viet_Join h_q1 _ _), (call_viet_Add h_q2 _ _), (call_viet_Add h_q3 _ _), hc1, hc1, hc1, hc1, (beq_iff_eq.2 hc2), (beq_iff_eq.2 hc2), (beq_iff_eq.2 hc2), (det_ceql _ _ _ _ _ _ _ _), (beq_iff_eq.2 hc2), hc3, hc3, hc4, hc4, hc4, (beq_iff_eq.2 hc5), (beq_iff_eq.2 hc5), (Bool.eq_false_iff.2 hc6), (Bool.eq_false_iff.2 hc6), (Bool.eq_false_iff.2 hc6), (Bool.eq_false_iff.2 hc6), rfl, rfl, rfl, trivial⟩
          · injection h with h; subst h
            exact Knows.of (C := C30) wf Try.func30 (cs := [.reg 1 [(0, { it := .res (.tup [(.agg [(.lit (.int .i64 q.1.base)), (.lit (.complex .f64 q.1.sign.1 q.1.sign.2))]), (.lit (.bool q.2))]) [] [] })], .reg 2 [(1, { it := .res (.tup [(.lit (.int .i64 q1.1)), (.lit (.bool q1.2))]) [.cells 38 [(.lit (.int .i64 q.1.base)), (.lit (.complex .f64 q.1.sign.1 q.1.sign.2))]] [] })], .reg 3 [(1, { it := .res (.tup [(.agg [(.lit (.int .i64 q2.1.base)), (.lit (.complex .f64 q2.1.sign.1 q2.1.sign.2))]), (.lit (.bool q2.2))]) [.cells 38 [(.lit (.int .i64 q.1.base)), (.lit (.complex .f64 q.1.sign.1 q.1.sign.2))]] [] })], .reg 4 [(1, { it := .res (.tup [(.agg [(.lit (.int .i64 q3.1.base)), (.lit (.complex .f64 q3.1.sign.1 q3.1.sign.2))]), (.lit (.bool q3.2))]) [.cells 38 [(.lit (.int .i64 q.1.base)), (.lit (.complex .f64 q.1.sign.1 q.1.sign.2))], .cells 38 [(.lit (.int .i64 q2.1.base)), (.lit (.complex .f64 q2.1.sign.1 q2.1.sign.2))]] [] })], .reg 5 [(2, { w := some true }), (3, { w := some true }), (4, { w := some true }), (5, { it := .b true }), (7, { w := some true }), (8, { w := some true }), (9, { it := .val (.bool (ceq q.1.sign.1 q.1.sign.2 4611686018427387904 4611686018427387904)), w := some true }), (10, { it := .b true }), (12, { w := some true }), (13, { it := .b true }), (15, { w := some true }), (16, { w := some true }), (17, { it := .b true }), (19, { w := some false }), (20, { it := .b false }), (22, { w := some false }), (23, { w := some false }), (24, { w := some false }), (25, { it := .b false }), (27, { w := some false }), (28, { w := some false }), (29, { it := .b false })]]) (args := []) (r := (.lit (.bool false))) (ps := [CallK Try.prog false 32 [(.lit (.int .i64 7871))] [] (.tup [(.agg [(.lit (.int .i64 q.1.base)), (.lit (.complex .f64 q.1.sign.1 q.1.sign.2))]), (.lit (.bool q.2))]) [],
                CallK Try.prog false 34 [(.agg [(.lit (.int .i64 69)), (.lit (.complex .f64 4611686018427387904 4611686018427387904))])] [.cells 38 [(.lit (.int .i64 q.1.base)), (.lit (.complex .f64 q.1.sign.1 q.1.sign.2))]] (.tup [(.lit (.int .i64 q1.1)), (.lit (.bool q1.2))]) [.cells 38 [(.lit (.int .i64 q.1.base)), (.lit (.complex .f64 q.1.sign.1 q.1.sign.2))]],
                CallK Try.prog false 37 [(.agg [(.lit (.int .i64 117)), (.lit (.complex .f64 0 0))]), (.lit (.complex .f64 4613937818241073152 0))] [.cells 38 [(.lit (.int .i64 q.1.base)), (.lit (.complex .f64 q.1.sign.1 q.1.sign.2))]] (.tup [(.agg [(.lit (.int .i64 q2.1.base)), (.lit (.complex .f64 q2.1.sign.1 q2.1.sign.2))]), (.lit (.bool q2.2))]) [.cells 38 [(.lit (.int .i64 q.1.base)), (.lit (.complex .f64 q.1.sign.1 q.1.sign.2))]],
                CallK Try.prog false 37 [(.agg [(.lit (.int .i64 q2.1.base)), (.lit (.complex .f64 q2.1.sign.1 q2.1.sign.2))]), (.lit (.complex .f64 4607182418800017408 0))] [.cells 38 [(.lit (.int .i64 q.1.base)), (.lit (.complex .f64 q.1.sign.1 q.1.sign.2))], .cells 38 [(.lit (.int .i64 q2.1.base)), (.lit (.complex .f64 q2.1.sign.1 q2.1.sign.2))]] (.tup [(.agg [(.lit (.int .i64 q3.1.base)), (.lit (.complex .f64 q3.1.sign.1 q3.1.sign.2))]), (.lit (.bool q3.2))]) [.cells 38 [(.lit (.int .i64 q.1.base)), (.lit (.complex .f64 q.1.sign.1 q.1.sign.2))], .cells 38 [(.lit (.int .i64 q2.1.base)), (.lit (.complex .f64 q2.1.sign.1 q2.1.sign.2))]],
                q.2 = true,
                q.2 = true,
                q.2 = true,
                q.2 = true,
                (q.1.base == 101) = true,
                (q.1.base == 101) = true,
                (q.1.base == 101) = true,
                det Try.prog (do eqGuard .eql 36 (.tmp 36) (.const (.complex .f64 4611686018427387904 4611686018427387904)) (.complex .f64 q.1.sign.1 q.1.sign.2) (.complex .f64 4611686018427387904 4611686018427387904); binOp .eql 36 (.complex .f64 q.1.sign.1 q.1.sign.2) (.complex .f64 4611686018427387904 4611686018427387904)) = some (.bool (ceq q.1.sign.1 q.1.sign.2 4611686018427387904 4611686018427387904)),
                (q.1.base == 101) = true,
                (ceq q.1.sign.1 q.1.sign.2 4611686018427387904 4611686018427387904) = true,
                (ceq q.1.sign.1 q.1.sign.2 4611686018427387904 4611686018427387904) = true,
                q1.2 = true,
                q1.2 = true,
                q1.2 = true,
                (q1.1 == 7870) = false,
                (q1.1 == 7870) = false,
                false = false,
                false = false,
                false = false,
                false = false,
                false = false,
                false = false,
                false = false]) (by kernel_rfl)
              ⟨(call_viet_Split h_q _ _), (call_viet_Join h_q1 _ _), (call_viet_Add h_q2 _ _), (call_viet_Add h_q3 _ _), hc1, hc1, hc1, hc1, (beq_iff_eq.2 hc2), (beq_iff_eq.2 hc2), (beq_iff_eq.2 hc2), (det_ceql _ _ _ _ _ _ _ _), (beq_iff_eq.2 hc2), hc3, hc3, hc4, hc4, hc4, (beq_eq_false_iff_ne.2 hc5), (beq_eq_false_iff_ne.2 hc5), rfl, rfl, rfl, rfl, rfl, rfl, rfl, trivial⟩
        · injection h with h; subst h
          exact Knows.of (C := C30) wf Try.func30 (cs := [.reg 1 [(0, { it := .res (.tup [(.agg [(.lit (.int .i64 q.1.base)), (.lit (.complex .f64 q.1.sign.1 q.1.sign.2))]), (.lit (.bool q.2))]) [] [] })], .reg 2 [(1, { it := .res (.tup [(.lit (.int .i64 q1.1)), (.lit (.bool q1.2))]) [.cells 38 [(.lit (.int .i64 q.1.base)), (.lit (.complex .f64 q.1.sign.1 q.1.sign.2))]] [] })], .reg 3 [(1, { it := .res (.tup [(.agg [(.lit (.int .i64 q2.1.base)), (.lit (.complex .f64 q2.1.sign.1 q2.1.sign.2))]), (.lit (.bool q2.2))]) [.cells 38 [(.lit (.int .i64 q.1.base)), (.lit (.complex .f64 q.1.sign.1 q.1.sign.2))]] [] })], .reg 4 [(1, { it := .res (.tup [(.agg [(.lit (.int .i64 q3.1.base)), (.lit (.complex .f64 q3.1.sign.1 q3.1.sign.2))]), (.lit (.bool q3.2))]) [.cells 38 [(.lit (.int .i64 q.1.base)), (.lit (.complex .f64 q.1.sign.1 q.1.sign.2))], .cells 38 [(.lit (.int .i64 q2.1.base)), (.lit (.complex .f64 q2.1.sign.1 q2.1.sign.2))]] [] })], .reg 5 [(2, { w := some true }), (3, { w := some true }), (4, { w := some true }), (5, { it := .b true }), (7, { w := some true }), (8, { w := some true }), (9, { it := .val (.bool (ceq q.1.sign.1 q.1.sign.2 4611686018427387904 4611686018427387904)), w := some true }), (10, { it := .b true }), (12, { w := some true }), (13, { it := .b true }), (15, { w := some false }), (16, { w := some false }), (17, { it := .b false }), (19, { w := some false }), (20, { it := .b false }), (22, { w := some false }), (23, { w := some false }), (24, { w := some false }), (25, { it := .b false }), (27, { w := some false }), (28, { w := some false }), (29, { it := .b false })]]) (args := []) (r := (.lit (.bool false))) (ps := [CallK Try.prog false 32 [(.lit (.int .i64 7871))] [] (.tup [(.agg [(.lit (.int .i64 q.1.base)), (.lit (.complex .f64 q.1.sign.1 q.1.sign.2))]), (.lit (.bool q.2))]) [],
              CallK Try.prog false 34 [(.agg [(.lit (.int .i64 69)), (.lit (.complex .f64 4611686018427387904 4611686018427387904))])] [.cells 38 [(.lit (.int .i64 q.1.base)), (.lit (.complex .f64 q.1.sign.1 q.1.sign.2))]] (.tup [(.lit (.int .i64 q1.1)), (.lit (.bool q1.2))]) [.cells 38 [(.lit (.int .i64 q.1.base)), (.lit (.complex .f64 q.1.sign.1 q.1.sign.2))]],
              CallK Try.prog false 37 [(.agg [(.lit (.int .i64 117)), (.lit (.complex .f64 0 0))]), (.lit (.complex .f64 4613937818241073152 0))] [.cells 38 [(.lit (.int .i64 q.1.base)), (.lit (.complex .f64 q.1.sign.1 q.1.sign.2))]] (.tup [(.agg [(.lit (.int .i64 q2.1.base)), (.lit (.complex .f64 q2.1.sign.1 q2.1.sign.2))]), (.lit (.bool q2.2))]) [.cells 38 [(.lit (.int .i64 q.1.base)), (.lit (.complex .f64 q.1.sign.1 q.1.sign.2))]],
              CallK Try.prog false 37 [(.agg [(.lit (.int .i64 q2.1.base)), (.lit (.complex .f64 q2.1.sign.1 q2.1.sign.2))]), (.lit (.complex .f64 4607182418800017408 0))] [.cells 38 [(.lit (.int .i64 q.1.base)), (.lit (.complex .f64 q.1.sign.1 q.1.sign.2))], .cells 38 [(.lit (.int .i64 q2.1.base)), (.lit (.complex .f64 q2.1.sign.1 q2.1.sign.2))]] (.tup [(.agg [(.lit (.int .i64 q3.1.base)), (.lit (.complex .f64 q3.1.sign.1 q3.1.sign.2))]), (.lit (.bool q3.2))]) [.cells 38 [(.lit (.int .i64 q.1.base)), (.lit (.complex .f64 q.1.sign.1 q.1.sign.2))], .cells 38 [(.lit (.int .i64 q2.1.base)), (.lit (.complex .f64 q2.1.sign.1 q2.1.sign.2))]],
              q.2 = true,
              q.2 = true,
              q.2 = true,
              q.2 = true,
              (q.1.base == 101) = true,
              (q.1.base == 101) = true,
              (q.1.base == 101) = true,
              det Try.prog (do eqGuard .eql 36 (.tmp 36) (.const (.complex .f64 4611686018427387904 4611686018427387904)) (.complex .f64 q.1.sign.1 q.1.sign.2) (.complex .f64 4611686018427387904 4611686018427387904); binOp .eql 36 (.complex .f64 q.1.sign.1 q.1.sign.2) (.complex .f64 4611686018427387904 4611686018427387904)) = some (.bool (ceq q.1.sign.1 q.1.sign.2 4611686018427387904 4611686018427387904)),
              (q.1.base == 101) = true,
              (ceq q.1.sign.1 q.1.sign.2 4611686018427387904 4611686018427387904) = true,
              (ceq q.1.sign.1 q.1.sign.2 4611686018427387904 4611686018427387904) = true,
              q1.2 = false,
              q1.2 = false,
              q1.2 = false,
              false = false,
              false = false,
              false = false,
              false = false,
              false = false,
              false = false,
              false = false,
              false = false,
              false = false]) (by kernel_rfl)
            ⟨(call_viet_Split h_q _ _), (call_viet_Join h_q1 _ _), (call_viet_Add h_q2 _ _), (call_viet_Add h_q3 _ _), hc1, hc1, hc1, hc1, (beq_iff_eq.2 hc2), (beq_iff_eq.2 hc2), (beq_iff_eq.2 hc2), (det_ceql _ _ _ _ _ _ _ _), (beq_iff_eq.2 hc2), hc3, hc3, (Bool.eq_false_iff.2 hc4), (Bool.eq_false_iff.2 hc4), (Bool.eq_false_iff.2 hc4), rfl, rfl, rfl, rfl, rfl, rfl, rfl, rfl, rfl, trivial⟩
      · injection h with h; subst h
        exact Knows.of (C := C30) wf Try.func30 (cs := [.reg 1 [(0, { it := .res (.tup [(.agg [(.lit (.int .i64 q.1.base)), (.lit (.complex .f64 q.1.sign.1 q.1.sign.2))]), (.lit (.bool q.2))]) [] [] })], .reg 2 [(1, { it := .res (.tup [(.lit (.int .i64 q1.1)), (.lit (.bool q1.2))]) [.cells 38 [(.lit (.int .i64 q.1.base)), (.lit (.complex .f64 q.1.sign.1 q.1.sign.2))]] [] })], .reg 3 [(1, { it := .res (.tup [(.agg [(.lit (.int .i64 q2.1.base)), (.lit (.complex .f64 q2.1.sign.1 q2.1.sign.2))]), (.lit (.bool q2.2))]) [.cells 38 [(.lit (.int .i64 q.1.base)), (.lit (.complex .f64 q.1.sign.1 q.1.sign.2))]] [] })], .reg 4 [(1, { it := .res (.tup [(.agg [(.lit (.int .i64 q3.1.base)), (.lit (.complex .f64 q3.1.sign.1 q3.1.sign.2))]), (.lit (.bool q3.2))]) [.cells 38 [(.lit (.int .i64 q.1.base)), (.lit (.complex .f64 q.1.sign.1 q.1.sign.2))], .cells 38 [(.lit (.int .i64 q2.1.base)), (.lit (.complex .f64 q2.1.sign.1 q2.1.sign.2))]] [] })], .reg 5 [(2, { w := some true }), (3, { w := some true }), (4, { w := some true }), (5, { it := .b true }), (7, { w := some true }), (8, { w := some true }), (9, { it := .val (.bool (ceq q.1.sign.1 q.1.sign.2 4611686018427387904 4611686018427387904)), w := some true }), (10, { it := .b true }), (12, { w := some false }), (13, { it := .b false }), (15, { w := some false }), (16, { w := some false }), (17, { it := .b false }), (19, { w := some false }), (20, { it := .b false }), (22, { w := some false }), (23, { w := some false }), (24, { w := some false }), (25, { it := .b false }), (27, { w := some false }), (28, { w := some false }), (29, { it := .b false })]]) (args := []) (r := (.lit (.bool false))) (ps := [CallK Try.prog false 32 [(.lit (.int .i64 7871))] [] (.tup [(.agg [(.lit (.int .i64 q.1.base)), (.lit (.complex .f64 q.1.sign.1 q.1.sign.2))]), (.lit (.bool q.2))]) [],
            CallK Try.prog false 34 [(.agg [(.lit (.int .i64 69)), (.lit (.complex .f64 4611686018427387904 4611686018427387904))])] [.cells 38 [(.lit (.int .i64 q.1.base)), (.lit (.complex .f64 q.1.sign.1 q.1.sign.2))]] (.tup [(.lit (.int .i64 q1.1)), (.lit (.bool q1.2))]) [.cells 38 [(.lit (.int .i64 q.1.base)), (.lit (.complex .f64 q.1.sign.1 q.1.sign.2))]],
            CallK Try.prog false 37 [(.agg [(.lit (.int .i64 117)), (.lit (.complex .f64 0 0))]), (.lit (.complex .f64 4613937818241073152 0))] [.cells 38 [(.lit (.int .i64 q.1.base)), (.lit (.complex .f64 q.1.sign.1 q.1.sign.2))]] (.tup [(.agg [(.lit (.int .i64 q2.1.base)), (.lit (.complex .f64 q2.1.sign.1 q2.1.sign.2))]), (.lit (.bool q2.2))]) [.cells 38 [(.lit (.int .i64 q.1.base)), (.lit (.complex .f64 q.1.sign.1 q.1.sign.2))]],
            CallK Try.prog false 37 [(.agg [(.lit (.int .i64 q2.1.base)), (.lit (.complex .f64 q2.1.sign.1 q2.1.sign.2))]), (.lit (.complex .f64 4607182418800017408 0))] [.cells 38 [(.lit (.int .i64 q.1.base)), (.lit (.complex .f64 q.1.sign.1 q.1.sign.2))], .cells 38 [(.lit (.int .i64 q2.1.base)), (.lit (.complex .f64 q2.1.sign.1 q2.1.sign.2))]] (.tup [(.agg [(.lit (.int .i64 q3.1.base)), (.lit (.complex .f64 q3.1.sign.1 q3.1.sign.2))]), (.lit (.bool q3.2))]) [.cells 38 [(.lit (.int .i64 q.1.base)), (.lit (.complex .f64 q.1.sign.1 q.1.sign.2))], .cells 38 [(.lit (.int .i64 q2.1.base)), (.lit (.complex .f64 q2.1.sign.1 q2.1.sign.2))]],
            q.2 = true,
            q.2 = true,
            q.2 = true,
            q.2 = true,
            (q.1.base == 101) = true,
            (q.1.base == 101) = true,
            (q.1.base == 101) = true,
            det Try.prog (do eqGuard .eql 36 (.tmp 36) (.const (.complex .f64 4611686018427387904 4611686018427387904)) (.complex .f64 q.1.sign.1 q.1.sign.2) (.complex .f64 4611686018427387904 4611686018427387904); binOp .eql 36 (.complex .f64 q.1.sign.1 q.1.sign.2) (.complex .f64 4611686018427387904 4611686018427387904)) = some (.bool (ceq q.1.sign.1 q.1.sign.2 4611686018427387904 4611686018427387904)),
            (q.1.base == 101) = true,
            (ceq q.1.sign.1 q.1.sign.2 4611686018427387904 4611686018427387904) = false,
            (ceq q.1.sign.1 q.1.sign.2 4611686018427387904 4611686018427387904) = false,
            false = false,
            false = false,
            false = false,
            false = false,
            false = false,
            false = false,
            false = false,
            false = false,
            false = false,
            false = false,
            false = false,
            false = false]) (by kernel_rfl)
          ⟨(call_viet_Split h_q _ _), (call_viet_Join h_q1 _ _), (call_viet_Add h_q2 _ _), (call_viet_Add h_q3 _ _), hc1, hc1, hc1, hc1, (beq_iff_eq.2 hc2), (beq_iff_eq.2 hc2), (beq_iff_eq.2 hc2), (det_ceql _ _ _ _ _ _ _ _), (beq_iff_eq.2 hc2), (Bool.eq_false_iff.2 hc3), (Bool.eq_false_iff.2 hc3), rfl, rfl, rfl, rfl, rfl, rfl, rfl, rfl, rfl, rfl, rfl, rfl, trivial⟩
    · injection h with h; subst h
      exact Knows.of (C := C30) wf Try.func30 (cs := [.reg 1 [(0, { it := .res (.tup [(.agg [(.lit (.int .i64 q.1.base)), (.lit (.complex .f64 q.1.sign.1 q.1.sign.2))]), (.lit (.bool q.2))]) [] [] })], .reg 2 [(1, { it := .res (.tup [(.lit (.int .i64 q1.1)), (.lit (.bool q1.2))]) [.cells 38 [(.lit (.int .i64 q.1.base)), (.lit (.complex .f64 q.1.sign.1 q.1.sign.2))]] [] })], .reg 3 [(1, { it := .res (.tup [(.agg [(.lit (.int .i64 q2.1.base)), (.lit (.complex .f64 q2.1.sign.1 q2.1.sign.2))]), (.lit (.bool q2.2))]) [.cells 38 [(.lit (.int .i64 q.1.base)), (.lit (.complex .f64 q.1.sign.1 q.1.sign.2))]] [] })], .reg 4 [(1, { it := .res (.tup [(.agg [(.lit (.int .i64 q3.1.base)), (.lit (.complex .f64 q3.1.sign.1 q3.1.sign.2))]), (.lit (.bool q3.2))]) [.cells 38 [(.lit (.int .i64 q.1.base)), (.lit (.complex .f64 q.1.sign.1 q.1.sign.2))], .cells 38 [(.lit (.int .i64 q2.1.base)), (.lit (.complex .f64 q2.1.sign.1 q2.1.sign.2))]] [] })], .reg 5 [(2, { w := some true }), (3, { w := some true }), (4, { w := some true }), (5, { it := .b true }), (7, { w := some false }), (8, { w := some false }), (9, { w := some false }), (10, { it := .b false }), (12, { w := some false }), (13, { it := .b false }), (15, { w := some false }), (16, { w := some false }), (17, { it := .b false }), (19, { w := some false }), (20, { it := .b false }), (22, { w := some false }), (23, { w := some false }), (24, { w := some false }), (25, { it := .b false }), (27, { w := some false }), (28, { w := some false }), (29, { it := .b false })]]) (args := []) (r := (.lit (.bool false))) (ps := [CallK Try.prog false 32 [(.lit (.int .i64 7871))] [] (.tup [(.agg [(.lit (.int .i64 q.1.base)), (.lit (.complex .f64 q.1.sign.1 q.1.sign.2))]), (.lit (.bool q.2))]) [],
          CallK Try.prog false 34 [(.agg [(.lit (.int .i64 69)), (.lit (.complex .f64 4611686018427387904 4611686018427387904))])] [.cells 38 [(.lit (.int .i64 q.1.base)), (.lit (.complex .f64 q.1.sign.1 q.1.sign.2))]] (.tup [(.lit (.int .i64 q1.1)), (.lit (.bool q1.2))]) [.cells 38 [(.lit (.int .i64 q.1.base)), (.lit (.complex .f64 q.1.sign.1 q.1.sign.2))]],
          CallK Try.prog false 37 [(.agg [(.lit (.int .i64 117)), (.lit (.complex .f64 0 0))]), (.lit (.complex .f64 4613937818241073152 0))] [.cells 38 [(.lit (.int .i64 q.1.base)), (.lit (.complex .f64 q.1.sign.1 q.1.sign.2))]] (.tup [(.agg [(.lit (.int .i64 q2.1.base)), (.lit (.complex .f64 q2.1.sign.1 q2.1.sign.2))]), (.lit (.bool q2.2))]) [.cells 38 [(.lit (.int .i64 q.1.base)), (.lit (.complex .f64 q.1.sign.1 q.1.sign.2))]],
          CallK Try.prog false 37 [(.agg [(.lit (.int .i64 q2.1.base)), (.lit (.complex .f64 q2.1.sign.1 q2.1.sign.2))]), (.lit (.complex .f64 4607182418800017408 0))] [.cells 38 [(.lit (.int .i64 q.1.base)), (.lit (.complex .f64 q.1.sign.1 q.1.sign.2))], .cells 38 [(.lit (.int .i64 q2.1.base)), (.lit (.complex .f64 q2.1.sign.1 q2.1.sign.2))]] (.tup [(.agg [(.lit (.int .i64 q3.1.base)), (.lit (.complex .f64 q3.1.sign.1 q3.1.sign.2))]), (.lit (.bool q3.2))]) [.cells 38 [(.lit (.int .i64 q.1.base)), (.lit (.complex .f64 q.1.sign.1 q.1.sign.2))], .cells 38 [(.lit (.int .i64 q2.1.base)), (.lit (.complex .f64 q2.1.sign.1 q2.1.sign.2))]],
          q.2 = true,
          q.2 = true,
          q.2 = true,
          q.2 = true,
          (q.1.base == 101) = false,
          (q.1.base == 101) = false,
          (q.1.base == 101) = false,
          (q.1.base == 101) = false,
          false = false,
          false = false,
          false = false,
          false = false,
          false = false,
          false = false,
          false = false,
          false = false,
          false = false,
          false = false,
          false = false,
          false = false,
          false = false,
          false = false]) (by kernel_rfl)
        ⟨(call_viet_Split h_q _ _), (call_viet_Join h_q1 _ _), (call_viet_Add h_q2 _ _), (call_viet_Add h_q3 _ _), hc1, hc1, hc1, hc1, (beq_eq_false_iff_ne.2 hc2), (beq_eq_false_iff_ne.2 hc2), (beq_eq_false_iff_ne.2 hc2), (beq_eq_false_iff_ne.2 hc2), rfl, rfl, rfl, rfl, rfl, rfl, rfl, rfl, rfl, rfl, rfl, rfl, rfl, rfl, trivial⟩
  · injection h with h; subst h
    exact Knows.of (C := C30) wf Try.func30 (cs := [.reg 1 [(0, { it := .res (.tup [(.agg [(.lit (.int .i64 q.1.base)), (.lit (.complex .f64 q.1.sign.1 q.1.sign.2))]), (.lit (.bool q.2))]) [] [] })], .reg 2 [(1, { it := .res (.tup [(.lit (.int .i64 q1.1)), (.lit (.bool q1.2))]) [.cells 38 [(.lit (.int .i64 q.1.base)), (.lit (.complex .f64 q.1.sign.1 q.1.sign.2))]] [] })], .reg 3 [(1, { it := .res (.tup [(.agg [(.lit (.int .i64 q2.1.base)), (.lit (.complex .f64 q2.1.sign.1 q2.1.sign.2))]), (.lit (.bool q2.2))]) [.cells 38 [(.lit (.int .i64 q.1.base)), (.lit (.complex .f64 q.1.sign.1 q.1.sign.2))]] [] })], .reg 4 [(1, { it := .res (.tup [(.agg [(.lit (.int .i64 q3.1.base)), (.lit (.complex .f64 q3.1.sign.1 q3.1.sign.2))]), (.lit (.bool q3.2))]) [.cells 38 [(.lit (.int .i64 q.1.base)), (.lit (.complex .f64 q.1.sign.1 q.1.sign.2))], .cells 38 [(.lit (.int .i64 q2.1.base)), (.lit (.complex .f64 q2.1.sign.1 q2.1.sign.2))]] [] })], .reg 5 [(2, { w := some false }), (3, { w := some false }), (4, { w := some false }), (5, { it := .b false }), (7, { w := some false }), (8, { w := some false }), (9, { w := some false }), (10, { it := .b false }), (12, { w := some false }), (13, { it := .b false }), (15, { w := some false }), (16, { w := some false }), (17, { it := .b false }), (19, { w := some false }), (20, { it := .b false }), (22, { w := some false }), (23, { w := some false }), (24, { w := some false }), (25, { it := .b false }), (27, { w := some false }), (28, { w := some false }), (29, { it := .b false })]]) (args := []) (r := (.lit (.bool false))) (ps := [CallK Try.prog false 32 [(.lit (.int .i64 7871))] [] (.tup [(.agg [(.lit (.int .i64 q.1.base)), (.lit (.complex .f64 q.1.sign.1 q.1.sign.2))]), (.lit (.bool q.2))]) [],
        CallK Try.prog false 34 [(.agg [(.lit (.int .i64 69)), (.lit (.complex .f64 4611686018427387904 4611686018427387904))])] [.cells 38 [(.lit (.int .i64 q.1.base)), (.lit (.complex .f64 q.1.sign.1 q.1.sign.2))]] (.tup [(.lit (.int .i64 q1.1)), (.lit (.bool q1.2))]) [.cells 38 [(.lit (.int .i64 q.1.base)), (.lit (.complex .f64 q.1.sign.1 q.1.sign.2))]],
        CallK Try.prog false 37 [(.agg [(.lit (.int .i64 117)), (.lit (.complex .f64 0 0))]), (.lit (.complex .f64 4613937818241073152 0))] [.cells 38 [(.lit (.int .i64 q.1.base)), (.lit (.complex .f64 q.1.sign.1 q.1.sign.2))]] (.tup [(.agg [(.lit (.int .i64 q2.1.base)), (.lit (.complex .f64 q2.1.sign.1 q2.1.sign.2))]), (.lit (.bool q2.2))]) [.cells 38 [(.lit (.int .i64 q.1.base)), (.lit (.complex .f64 q.1.sign.1 q.1.sign.2))]],
        CallK Try.prog false 37 [(.agg [(.lit (.int .i64 q2.1.base)), (.lit (.complex .f64 q2.1.sign.1 q2.1.sign.2))]), (.lit (.complex .f64 4607182418800017408 0))] [.cells 38 [(.lit (.int .i64 q.1.base)), (.lit (.complex .f64 q.1.sign.1 q.1.sign.2))], .cells 38 [(.lit (.int .i64 q2.1.base)), (.lit (.complex .f64 q2.1.sign.1 q2.1.sign.2))]] (.tup [(.agg [(.lit (.int .i64 q3.1.base)), (.lit (.complex .f64 q3.1.sign.1 q3.1.sign.2))]), (.lit (.bool q3.2))]) [.cells 38 [(.lit (.int .i64 q.1.base)), (.lit (.complex .f64 q.1.sign.1 q.1.sign.2))], .cells 38 [(.lit (.int .i64 q2.1.base)), (.lit (.complex .f64 q2.1.sign.1 q2.1.sign.2))]],
        q.2 = false,
        q.2 = false,
        q.2 = false,
        q.2 = false,
        false = false,
        false = false,
        false = false,
        false = false,
        false = false,
        false = false,
        false = false,
        false = false,
        false = false,
        false = false,
        false = false,
        false = false,
        false = false,
        false = false,
        false = false,
        false = false,
        false = false,
        false = false]) (by kernel_rfl)
      ⟨(call_viet_Split h_q _ _), (call_viet_Join h_q1 _ _), (call_viet_Add h_q2 _ _), (call_viet_Add h_q3 _ _), (Bool.eq_false_iff.2 hc1), (Bool.eq_false_iff.2 hc1), (Bool.eq_false_iff.2 hc1), (Bool.eq_false_iff.2 hc1), rfl, rfl, rfl, rfl, rfl, rfl, rfl, rfl, rfl, rfl, rfl, rfl, rfl, rfl, rfl, rfl, rfl, rfl, trivial⟩
theorem call_lontarlaw09_awake {r} (h : lontarlaw09_awake = some r) (kp : Bool) (σ : List Bx) : CallK Try.prog kp 30 [] σ (.lit (.bool r)) σ :=
  (knows_lontarlaw09_awake h).call rfl rfl kp σ
end Go.Proofs.Ytpbbgkmpjcddbaa
