/- The texts of VISCII: the statement on all letters. -/
import Derived.Test.YtpbbgkmpjcddbaaV5
import Derived.Test.YtpbbgkmpjcddbaaV8
set_option linter.all false
namespace Go.Proofs.Ytpbbgkmpjcddbaa
open Go.AM

def oX : Orc := oW.and 29 s29
theorem oX_ok : SoundC Try.prog oX := oW_ok.and Try.func29 (by kernel_rfl) s29_ok
theorem oX_23 (σ : List Bx) : oX 23 [] σ = some (.lit (.bool true), σ) := by simp [oX, oW, Orc.and, s0]
theorem oX_24 {c : Int} (h0 : 0 ≤ c) (h1 : c < 256) (σ : List Bx) : oX 24 [.lit (.int .u8 c)] σ = some (.lit (.int .i64 (decS c)), σ) := by simp [oX, oW, oV, o24, Orc.and, s24, h0, h1]
theorem oX_26 (s : Int) (σ : List Bx) : oX 26 [.lit (.int .i64 s)] σ = some (encPV (encS s), σ) := by simp [oX, oW, oV, o24, Orc.and, s26]
theorem oX_29 (n : Int) (σ : List Bx) : oX 29 [.lit (.int .i64 n)] σ = some (letPV (letS n), σ) := by simp [oX, Orc.and, s29]

theorem all_run : (List.range 148).all (fun n => match letS (Int.ofNat n) with
  | some (s, _) => (match encS s with | some c => decide (c < 256) && decide (decS c = s) | none => false)
  | none => false) = true := by kernel_rfl

noncomputable def C6 : Ctx := ctx Try.prog oX h6 Try.f6
@[simp] theorem C6_P : C6.P = Try.prog := rfl
@[simp] theorem C6_mv (f k : Nat) : C6.mv f k = false := rfl
@[simp] theorem C6_live : C6.live = h6 := rfl
@[simp] theorem C6_call : C6.call = oX := rfl
@[simp] theorem C6_res (t : Nat) : C6.res t = (2 == t || false) := rfl

theorem tmod_nn {a b : Int} (h : 0 ≤ a) : a.tmod b = a % b := Int.tmod_eq_emod_of_nonneg h

theorem visciiAll_run {n : Int} (h0 : 0 ≤ n) (h1 : n < 256) : run Try.prog oX h6 6 [.lit (.int .u8 n)] [] = some (.lit (.bool true), []) := by
  rw [run_eq Try.func6 (by kernel_rfl)]
  have hC : ctx Try.prog oX h6 Try.f6 = C6 := rfl
  rw [hC]
  have w1 : IntKind.i64.wrap n = n := wrap_i64_of (by omega) (by omega)
  have hm : n.tmod 148 = n % 148 := tmod_nn h0
  have ha := List.all_eq_true.1 all_run (n % 148).toNat (by simp; omega)
  have hc : Int.ofNat (n % 148).toNat = n % 148 := by simp; omega
  rw [hc] at ha
  cases hl : letS (n % 148) with
  | none => rw [hl] at ha; cases ha
  | some p =>
    obtain ⟨s, lc⟩ := p
    obtain ⟨x, re, im, rfl⟩ := letS_ref hl
    rw [hl] at ha
    simp only at ha
    cases he : encS s with
    | none => rw [he] at ha; cases ha
    | some c =>
      rw [he] at ha
      simp only [Bool.and_eq_true, decide_eq_true_eq] at ha
      have hd := oX_24 (c := (c : Int)) (by omega) (by omega)
      simp only [Try.f6, fbody, sub, Option.getD_some]
      simp [h6, oX_23, oX_26, oX_29, hd, w1, hm, hl, he, letPV, encPV, ha.2, St.putC, setBx, endR, retAll, trunc, noRef, noRefs]
theorem all_law (a0 : Int) (w0 : (Lit.int .u8 a0).wf = true) : AbsCall Try.prog 6 [.lit (.int .u8 a0)] [] (.lit (.bool true)) [] :=
  run_abs wf oX_ok (visciiAll_run (wf_u8 w0).1 (wf_u8 w0).2)
end Go.Proofs.Ytpbbgkmpjcddbaa
