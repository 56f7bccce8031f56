/- The texts of VISCII: its rules, the document's table, the examples. -/
import Derived.Test.YtpbbgkmpjcddbaaV2
set_option linter.all false
namespace Go.Proofs.Ytpbbgkmpjcddbaa
open Go.AM

def ruleC (c : Nat) (z : Int) : List PV := [.sl .view false [[.lit (.int .i64 (Int.ofNat c))]], .sl .view false [[.lit (.int .i64 z)]]]
def ruleL : List Int → Nat → List (List PV)
  | [], _ => []
  | z :: zs, c => ruleC c z :: ruleL zs (c + 1)
def rulesPV : PV := .sl (.excl 33) false (ruleL decL 0)
def tablePV : PV := .sl (.excl 3) false (rowPV .i64 decL)

theorem table_run : ends (run Try.prog Orc.none h25 25 [] []) tablePV = true := by kernel_rfl
theorem table_abs (σ : List Bx) : AbsCall Try.prog 25 [] σ tablePV σ := (run_abs wf (SoundC.none _) (ends_eq table_run)).frame (by kernel_rfl) (by kernel_rfl) σ
theorem rules_run : ends (run Try.prog o24 h27 27 [] []) rulesPV = true := by kernel_rfl
theorem rules_abs (σ : List Bx) : AbsCall Try.prog 27 [] σ rulesPV σ := (run_abs wf o24_ok (ends_eq rules_run)).frame (by kernel_rfl) (by kernel_rfl) σ

def s0 (r : PV) : List PV → List Bx → Option (PV × List Bx)
  | [], σ => some (r, σ)
  | _, _ => none
theorem s0_ok {f : Nat} {x : PV} (h : ∀ σ, AbsCall Try.prog f [] σ x σ) : ∀ args σ r σ', s0 x args σ = some (r, σ') → AbsCall Try.prog f args σ r σ' := by
  intro args σ r σ' he
  unfold s0 at he
  split at he
  · injection he with he; injection he with e1 e2; subst e1; subst e2; exact h _
  · cases he

def oV : Orc := ((o24.and 26 s26).and 27 (s0 rulesPV)).and 25 (s0 tablePV)
theorem oV_ok : SoundC Try.prog oV := ((o24_ok.and Try.func26 (by kernel_rfl) s26_ok).and Try.func27 (by kernel_rfl) (s0_ok rules_abs)).and Try.func25 (by kernel_rfl) (s0_ok table_abs)
theorem awake_run : ends (run Try.prog oV h23 23 [] []) (.lit (.bool true)) = true := by kernel_rfl
theorem awake_abs (σ : List Bx) : AbsCall Try.prog 23 [] σ (.lit (.bool true)) σ := (run_abs wf oV_ok (ends_eq awake_run)).frame (by kernel_rfl) (by kernel_rfl) σ
def oW : Orc := oV.and 23 (s0 (.lit (.bool true)))
theorem oW_ok : SoundC Try.prog oW := oV_ok.and Try.func23 (by kernel_rfl) (s0_ok awake_abs)

/-! ### VisciiDecode -/
theorem decode_run : (List.range 256).all (fun c => ends (run Try.prog oW h3 3 [.lit (.int .u8 (Int.ofNat c))] []) (.lit (.bool true))) = true := by kernel_rfl
theorem decode_abs {c : Int} (h0 : 0 ≤ c) (h1 : c < 256) : AbsCall Try.prog 3 [.lit (.int .u8 c)] [] (.lit (.bool true)) [] := by
  have h := List.all_eq_true.1 decode_run c.toNat (by simp; omega)
  have hc : Int.ofNat c.toNat = c := by simp; omega
  simp only [hc] at h
  exact run_abs wf oW_ok (ends_eq h)
theorem decode_law (a0 : Int) (w0 : (Lit.int .u8 a0).wf = true) : AbsCall Try.prog 3 [.lit (.int .u8 a0)] [] (.lit (.bool true)) [] := decode_abs (wf_u8 w0).1 (wf_u8 w0).2
end Go.Proofs.Ytpbbgkmpjcddbaa
