/- The letters: what the kernel sees of the models. -/
import Derived.Test.YtpbbgkmpjcddbaaMa
import Derived.Test.YtpbbgkmpjcddbaaP0
set_option linter.all false
namespace Go.AM.M
open Go.AM
theorem awake09 : lontarlaw09_awake = some true := by kernel_rfl
def vls : List GVietLetter := (viet_All.getD ([], [])).1
def vss : List Int := (viet_All.getD ([], [])).2
theorem vAll : viet_All = some (vls, vss) := by kernel_rfl
theorem vls_len : vls.length = 148 := by kernel_rfl
theorem vss_len : vss.length = 148 := by kernel_rfl
def vRow (n : Int) : Bool := match lontarlaw09_Letter n, nthI vls n, nthI vss n with
  | some (l, s, true), some l', some s' => l.base == l'.base && l.sign.1 == l'.sign.1 && l.sign.2 == l'.sign.2 && s == s' && GVietLetter.eq l l
  | _, _, _ => false
theorem vRow_k : ((List.range 148).all fun n => vRow n) = true := by kernel_rfl
theorem vLetter {n : Int} (h0 : 0 ≤ n) (h1 : n < 148) : ∃ l s, lontarlaw09_Letter n = some (l, s, true) ∧ nthI vls n = some l ∧ nthI vss n = some s ∧ GVietLetter.eq l l = true := by
  have h := upto (p := vRow) vRow_k h0 h1
  unfold vRow at h
  split at h
  · rename_i l s l' s' e1 e2 e3
    simp only [Bool.and_eq_true, beq_iff_eq] at h
    obtain ⟨⟨⟨⟨a, b⟩, c⟩, d⟩, e⟩ := h
    have : l = l' := by cases l; cases l'; simp only at a b c; simp only [GVietLetter.mk.injEq, Prod.ext_iff]; exact ⟨a, b, c⟩
    subst this; subst d
    exact ⟨l, s, e1, e2, e3, e⟩
  · cases h
end Go.AM.M
