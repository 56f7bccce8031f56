/- Plain laws: words for the models. -/
import Derived.Test.YtpbbgkmpjcddbaaA30
import Derived.Test.YtpbbgkmpjcddbaaMa
set_option linter.all false
namespace Go.AM.M
open Go.AM
theorem wf_int {k : IntKind} {n : Int} (h : (Lit.int k n).wf = true) : k.min ≤ n ∧ n ≤ k.max := by simpa [Lit.wf] using h
theorem wf_u8 {n : Int} (h : (Lit.int .u8 n).wf = true) : 0 ≤ n ∧ n < 256 := ⟨(wf_int h).1, Int.lt_add_one_of_le (wf_int h).2⟩
theorem wf_u16 {n : Int} (h : (Lit.int .u16 n).wf = true) : 0 ≤ n ∧ n < 65536 := ⟨(wf_int h).1, Int.lt_add_one_of_le (wf_int h).2⟩
theorem wf_i64 {n : Int} (h : (Lit.int .i64 n).wf = true) : -9223372036854775808 ≤ n ∧ n < 9223372036854775808 := ⟨(wf_int h).1, Int.lt_add_one_of_le (wf_int h).2⟩
/-- What the kernel saw of the first numbers. -/
theorem upto {p : Int → Bool} {k : Nat} (h : ((List.range k).all fun n => p n) = true) {n : Int} (h0 : 0 ≤ n) (h1 : n < k) : p n = true := by
  have h3 := List.all_eq_true.1 h n.toNat (List.mem_range.2 (by omega))
  simp only [Int.toNat_of_nonneg h0] at h3
  exact h3
/-- Two loops that go alike. -/
theorem loop_lock {α ρ σ : Type} {f : α → Option (α ⊕ ρ)} {g : α → Option (α ⊕ σ)} {I : α → Prop} {R : ρ → σ → Prop} {μ : α → Nat}
    (h : ∀ a, I a → (∃ a', f a = some (.inl a') ∧ g a = some (.inl a') ∧ I a' ∧ μ a' < μ a) ∨ (∃ r s, f a = some (.inr r) ∧ g a = some (.inr s) ∧ R r s)) :
    ∀ (n : Nat) (a : α), I a → μ a < n → ∃ r s, loopM f n a = some r ∧ loopM g n a = some s ∧ R r s := by
  intro n
  induction n with
  | zero => intro a _ h; omega
  | succ n ih =>
    intro a hi hn
    rcases h a hi with ⟨a', h1, h2, h3, h4⟩ | ⟨r, s, h1, h2, h3⟩
    · obtain ⟨r, s, k1, k2, k3⟩ := ih a' h3 (by omega)
      exact ⟨r, s, by simp only [loopM, h1, k1], by simp only [loopM, h2, k2], k3⟩
    · exact ⟨r, s, by simp only [loopM, h1], by simp only [loopM, h2], h3⟩
/-- A loop that ends where it should. -/
theorem loop_end {α ρ : Type} {f : α → Option (α ⊕ ρ)} {I : α → Prop} {R : ρ → Prop} {μ : α → Nat}
    (h : ∀ a, I a → (∃ a', f a = some (.inl a') ∧ I a' ∧ μ a' < μ a) ∨ (∃ r, f a = some (.inr r) ∧ R r)) :
    ∀ (n : Nat) (a : α), I a → μ a < n → ∃ r, loopM f n a = some r ∧ R r := by
  intro n
  induction n with
  | zero => intro a _ h; omega
  | succ n ih =>
    intro a hi hn
    rcases h a hi with ⟨a', h1, h3, h4⟩ | ⟨r, h1, h3⟩
    · obtain ⟨r, k1, k3⟩ := ih a' h3 (by omega)
      exact ⟨r, by simp only [loopM, h1, k1], k3⟩
    · exact ⟨r, by simp only [loopM, h1], h3⟩
theorem w64_id {n : Int} (h0 : -9223372036854775808 ≤ n) (h1 : n < 9223372036854775808) : w64 n = n := by
  unfold w64; rw [IntKind.wrap_i64]; omega
end Go.AM.M

/- The letters: what the kernel sees of the models. -/
namespace Go.AM.M
open Go.AM
theorem awake09 : lontarlaw09_awake = some true := by kernel_rfl
def vls : List GVietLetter := (viet_All.getD ([], [])).1
def vss : List Int := (viet_All.getD ([], [])).2
theorem vAll : viet_All = some (vls, vss) := by kernel_rfl
theorem vls_len : vls.length = 148 := by kernel_rfl
theorem vss_len : vss.length = 148 := by kernel_rfl
def vRow (n : Int) : Bool := match lontarlaw09_Letter n, nthI vls n, nthI vss n with
  | some (l, s, true), some l', some s' => l.base == l'.base && l.sign.1 == l'.sign.1 && l.sign.2 == l'.sign.2 && s == s' && GVietLetter.eq l l
  | _, _, _ => false
theorem vRow_k : ((List.range 148).all fun n => vRow n) = true := by kernel_rfl
theorem vLetter {n : Int} (h0 : 0 ≤ n) (h1 : n < 148) : ∃ l s, lontarlaw09_Letter n = some (l, s, true) ∧ nthI vls n = some l ∧ nthI vss n = some s ∧ GVietLetter.eq l l = true := by
  have h := upto (p := vRow) vRow_k h0 h1
  unfold vRow at h
  split at h
  · rename_i l s l' s' e1 e2 e3
    simp only [Bool.and_eq_true, beq_iff_eq] at h
    obtain ⟨⟨⟨⟨a, b⟩, c⟩, d⟩, e⟩ := h
    have : l = l' := by cases l; cases l'; simp only at a b c; simp only [GVietLetter.mk.injEq, Prod.ext_iff]; exact ⟨a, b, c⟩
    subst this; subst d
    exact ⟨l, s, e1, e2, e3, e⟩
  · cases h
end Go.AM.M
