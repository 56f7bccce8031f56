/- The texts of VISCII: there and back. -/
import Derived.Test.YtpbbgkmpjcddbaaV3
set_option linter.all false
namespace Go.Proofs.Ytpbbgkmpjcddbaa
open Go.AM

theorem back_run : (List.range 256).all (fun c => encS (decS (Int.ofNat c)) == some c) = true := by kernel_rfl
theorem back {c : Int} (h0 : 0 ≤ c) (h1 : c < 256) : encS (decS c) = some c.toNat := by
  have h := List.all_eq_true.1 back_run c.toNat (by simp; omega)
  have hc : Int.ofNat c.toNat = c := by simp; omega
  rw [hc] at h
  simpa using h
theorem dec_inj {a b : Int} (ha : 0 ≤ a) (ha' : a < 256) (hb : 0 ≤ b) (hb' : b < 256) (h : decS a = decS b) : a = b := by
  have h1 := back ha ha'
  have h2 := back hb hb'
  rw [h, h2] at h1
  injection h1 with h1
  omega

theorem ascii_run : (List.range 256).all (fun c => ends (run Try.prog oW h8 8 [.lit (.int .u8 (Int.ofNat c))] []) (.lit (.bool true))) = true := by kernel_rfl
theorem ascii_law (a0 : Int) (w0 : (Lit.int .u8 a0).wf = true) : AbsCall Try.prog 8 [.lit (.int .u8 a0)] [] (.lit (.bool true)) [] := by
  obtain ⟨h0, h1⟩ := wf_u8 w0
  have h := List.all_eq_true.1 ascii_run a0.toNat (by simp; omega)
  have hc : Int.ofNat a0.toNat = a0 := by simp; omega
  simp only [hc] at h
  exact run_abs wf oW_ok (ends_eq h)

theorem oW_23 (σ : List Bx) : oW 23 [] σ = some (.lit (.bool true), σ) := by simp [oW, Orc.and, s0]
theorem oW_24 {c : Int} (h0 : 0 ≤ c) (h1 : c < 256) (σ : List Bx) : oW 24 [.lit (.int .u8 c)] σ = some (.lit (.int .i64 (decS c)), σ) := by simp [oW, oV, o24, Orc.and, s24, h0, h1]
theorem oW_26 (s : Int) (σ : List Bx) : oW 26 [.lit (.int .i64 s)] σ = some (encPV (encS s), σ) := by simp [oW, oV, o24, Orc.and, s26]

@[simp] theorem detB4 (x y : Operand) (a b : Bool) : det Try.prog (do eqGuard .eql 4 x y (.bool a) (.bool b); binOp .eql 4 (.bool a) (.bool b)) = some (.bool (a == b)) := by
  cases a <;> cases b <;> kernel_rfl
@[simp] theorem detB4n (x y : Operand) (a b : Bool) : det Try.prog (do eqGuard .neq 4 x y (.bool a) (.bool b); binOp .neq 4 (.bool a) (.bool b)) = some (.bool (a != b)) := by
  cases a <;> cases b <;> kernel_rfl

noncomputable def C7 : Ctx := ctx Try.prog oW h7 Try.f7
@[simp] theorem C7_P : C7.P = Try.prog := rfl
@[simp] theorem C7_mv (f k : Nat) : C7.mv f k = false := rfl
@[simp] theorem C7_live : C7.live = h7 := rfl
@[simp] theorem C7_call : C7.call = oW := rfl
@[simp] theorem C7_res (t : Nat) : C7.res t = (4 == t || false) := rfl

theorem round_run {a b : Int} (ha : 0 ≤ a) (ha' : a < 256) (hb : 0 ≤ b) (hb' : b < 256) : run Try.prog oW h7 7 [.lit (.int .u8 a), .lit (.int .u8 b)] [] = some (.lit (.bool true), []) := by
  rw [run_eq Try.func7 (by kernel_rfl)]
  have hC : ctx Try.prog oW h7 Try.f7 = C7 := rfl
  rw [hC]
  simp only [Try.f7, fbody, sub, Option.getD_some]
  have e1 : ((a.toNat : Nat) : Int) = a := by omega
  by_cases hab : a = b
  · subst hab
    simp [h7, oW_23, oW_24 ha ha', oW_26, back ha ha', encPV, e1, endR, retAll, trunc]
  · have h1 : (a == b) = false := by simpa using hab
    have h2 : (decS a == decS b) = false := by
      have : decS a ≠ decS b := fun h => hab (dec_inj ha ha' hb hb' h)
      simpa using this
    simp [h7, oW_23, oW_24 ha ha', oW_24 hb hb', oW_26, back ha ha', encPV, e1, endR, retAll, h1, h2, trunc]

theorem round_law (a0 a1 : Int) (w0 : (Lit.int .u8 a0).wf = true) (w1 : (Lit.int .u8 a1).wf = true) : AbsCall Try.prog 7 [.lit (.int .u8 a0), .lit (.int .u8 a1)] [] (.lit (.bool true)) [] :=
  run_abs wf oW_ok (round_run (wf_u8 w0).1 (wf_u8 w0).2 (wf_u8 w1).1 (wf_u8 w1).2)
end Go.Proofs.Ytpbbgkmpjcddbaa
