/- The model of VietSplit answers true. -/
import Derived.Test.YtpbbgkmpjcddbaaMVietSplit
import Derived.Test.YtpbbgkmpjcddbaaPviet
set_option linter.all false
namespace Go.AM.M
open Go.AM
def splitR : viet_Split_L0_R → lontarlaw09_Split_L0_R → Prop
  | .x0 m a b, .x0 m' a' b' _ _ _ => m' = m ∧ a' = a ∧ b' = b ∧ GVietLetter.eq ⟨m, (a, b)⟩ ⟨m, (a, b)⟩ = true
  | .x1 _ _, .x1 _ _ => True
  | _, _ => False
theorem split_lock (s : Int) : ∃ r t, loopM (viet_Split_L0 s (vls, vss)) FU 0 = some r ∧ loopM (lontarlaw09_Split_L0 s) FU 0 = some t ∧ splitR r t := by
  refine loop_lock (I := fun v => 0 ≤ v ∧ v ≤ 148) (μ := fun v => (148 - v).toNat) ?_ FU 0 (by omega) (by simp [FU])
  intro v ⟨h0, h1⟩
  by_cases hv : v < 148
  · obtain ⟨l, x, e1, e2, e3, e4⟩ := vLetter h0 hv
    by_cases hx : x = s
    · refine .inr ⟨.x0 l.base l.sign.1 l.sign.2, .x0 l.base l.sign.1 l.sign.2 l.base l.sign.1 l.sign.2, ?_, ?_, rfl, rfl, rfl, e4⟩
      · simp [viet_Split_L0, vss_len, hv, e2, e3, hx]
      · simp [lontarlaw09_Split_L0, hv, e1, hx]
    · refine .inl ⟨v + 1, ?_, ?_, by omega, by omega⟩
      · simp [viet_Split_L0, vss_len, hv, e3, hx, w64_id (n := v + 1) (by omega) (by omega)]
      · simp [lontarlaw09_Split_L0, hv, e1, hx, w64_id (n := v + 1) (by omega) (by omega)]
  · refine .inr ⟨.x1 v (decide (v < 148)), .x1 v (decide (v < 148)), ?_, ?_, trivial⟩
    · simp [viet_Split_L0, vss_len, hv]
    · simp [lontarlaw09_Split_L0, hv]
theorem split_same (s : Int) : ∃ a b, viet_Split s = some a ∧ lontarlaw09_Split s = some b ∧ GVietLetter.eq a.1 b.1 = true ∧ a.2 = b.2 := by
  obtain ⟨r, t, h1, h2, h3⟩ := split_lock s
  unfold viet_Split lontarlaw09_Split
  rw [vAll, Option.bind_some, h1, h2]
  cases r <;> cases t <;> simp only [splitR] at h3
  · obtain ⟨rfl, rfl, rfl, h⟩ := h3
    exact ⟨_, _, rfl, rfl, h, rfl⟩
  · exact ⟨_, _, rfl, rfl, by kernel_rfl, rfl⟩
theorem vietSplit_true (s n : Int) (hs : (Lit.int .i64 s).wf = true) (hn : (Lit.int .u16 n).wf = true) : lontarlaw09_VietSplit s n = some true := by
  unfold lontarlaw09_VietSplit
  rw [awake09, Option.bind_some, if_pos rfl]
  have key : ∃ r, loopM (lontarlaw09_VietSplit_L0 s n) FU 0 = some r ∧ (match r with | .x2 _ _ => True | _ => False) := by
    refine loop_end (I := fun v => 0 ≤ v ∧ v ≤ 3) (μ := fun v => (3 - v).toNat) ?_ FU 0 (by omega) (by simp [FU])
    intro v ⟨h0, h1⟩
    by_cases hv : v < 3
    · obtain ⟨x, hx⟩ : ∃ x, nthI [s, (w64 (n.tmod 544)), (w64 (7824 + (w64 (n.tmod 112))))] v = some x := by
        have : v = 0 ∨ v = 1 ∨ v = 2 := by omega
        rcases this with rfl | rfl | rfl <;> exact ⟨_, rfl⟩
      obtain ⟨a, b, e1, e2, e3, e4⟩ := split_same x
      refine .inl ⟨v + 1, ?_, by omega, by omega⟩
      simp [lontarlaw09_VietSplit_L0, hv, hx, e1, e2, e3, e4, w64_id (n := v + 1) (by omega) (by omega)]
    · refine .inr ⟨.x2 v (decide (v < 3)), ?_, trivial⟩
      simp [lontarlaw09_VietSplit_L0, hv]
  obtain ⟨r, h1, h2⟩ := key
  rw [h1]
  cases r <;> first | rfl | cases h2
end Go.AM.M
