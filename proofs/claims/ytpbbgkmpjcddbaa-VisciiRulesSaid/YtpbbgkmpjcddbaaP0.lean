/- Plain laws: words for the models. -/
import Derived.Test.YtpbbgkmpjcddbaaA30
set_option linter.all false
namespace Go.AM.M
open Go.AM
theorem wf_int {k : IntKind} {n : Int} (h : (Lit.int k n).wf = true) : k.min ≤ n ∧ n ≤ k.max := by simpa [Lit.wf] using h
theorem wf_u8 {n : Int} (h : (Lit.int .u8 n).wf = true) : 0 ≤ n ∧ n < 256 := ⟨(wf_int h).1, Int.lt_add_one_of_le (wf_int h).2⟩
theorem wf_u16 {n : Int} (h : (Lit.int .u16 n).wf = true) : 0 ≤ n ∧ n < 65536 := ⟨(wf_int h).1, Int.lt_add_one_of_le (wf_int h).2⟩
theorem wf_i64 {n : Int} (h : (Lit.int .i64 n).wf = true) : -9223372036854775808 ≤ n ∧ n < 9223372036854775808 := ⟨(wf_int h).1, Int.lt_add_one_of_le (wf_int h).2⟩
/-- What the kernel saw of the first numbers. -/
theorem upto {p : Int → Bool} {k : Nat} (h : ((List.range k).all fun n => p n) = true) {n : Int} (h0 : 0 ≤ n) (h1 : n < k) : p n = true := by
  have h3 := List.all_eq_true.1 h n.toNat (List.mem_range.2 (by omega))
  simp only [Int.toNat_of_nonneg h0] at h3
  exact h3
/-- Two loops that go alike. -/
theorem loop_lock {α ρ σ : Type} {f : α → Option (α ⊕ ρ)} {g : α → Option (α ⊕ σ)} {I : α → Prop} {R : ρ → σ → Prop} {μ : α → Nat}
    (h : ∀ a, I a → (∃ a', f a = some (.inl a') ∧ g a = some (.inl a') ∧ I a' ∧ μ a' < μ a) ∨ (∃ r s, f a = some (.inr r) ∧ g a = some (.inr s) ∧ R r s)) :
    ∀ (n : Nat) (a : α), I a → μ a < n → ∃ r s, loopM f n a = some r ∧ loopM g n a = some s ∧ R r s := by
  intro n
  induction n with
  | zero => intro a _ h; omega
  | succ n ih =>
    intro a hi hn
    rcases h a hi with ⟨a', h1, h2, h3, h4⟩ | ⟨r, s, h1, h2, h3⟩
    · obtain ⟨r, s, k1, k2, k3⟩ := ih a' h3 (by omega)
      exact ⟨r, s, by simp only [loopM, h1, k1], by simp only [loopM, h2, k2], k3⟩
    · exact ⟨r, s, by simp only [loopM, h1], by simp only [loopM, h2], h3⟩
/-- A loop that ends where it should. -/
theorem loop_end {α ρ : Type} {f : α → Option (α ⊕ ρ)} {I : α → Prop} {R : ρ → Prop} {μ : α → Nat}
    (h : ∀ a, I a → (∃ a', f a = some (.inl a') ∧ I a' ∧ μ a' < μ a) ∨ (∃ r, f a = some (.inr r) ∧ R r)) :
    ∀ (n : Nat) (a : α), I a → μ a < n → ∃ r, loopM f n a = some r ∧ R r := by
  intro n
  induction n with
  | zero => intro a _ h; omega
  | succ n ih =>
    intro a hi hn
    rcases h a hi with ⟨a', h1, h3, h4⟩ | ⟨r, h1, h3⟩
    · obtain ⟨r, k1, k3⟩ := ih a' h3 (by omega)
      exact ⟨r, by simp only [loopM, h1, k1], k3⟩
    · exact ⟨r, by simp only [loopM, h1], h3⟩
theorem w64_id {n : Int} (h0 : -9223372036854775808 ≤ n) (h1 : n < 9223372036854775808) : w64 n = n := by
  unfold w64; rw [IntKind.wrap_i64]; omega
end Go.AM.M
