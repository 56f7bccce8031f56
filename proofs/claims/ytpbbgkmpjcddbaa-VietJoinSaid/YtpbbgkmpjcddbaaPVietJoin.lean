/- The model of VietJoin answers true. -/
import Derived.Test.YtpbbgkmpjcddbaaMVietJoin
import Derived.Test.YtpbbgkmpjcddbaaPviet
set_option linter.all false
namespace Go.AM.M
open Go.AM
def joinR : viet_Join_L0_R → lontarlaw09_Join_L0_R → Prop
  | .x0 v _ _ _, .x0 v' _ _ _ => v' = v
  | .x1 _ _, .x1 _ _ => True
  | _, _ => False
theorem join_lock (b : Int) (re im : Nat) : ∃ r t, loopM (viet_Join_L0 ⟨b, (re, im)⟩ (vls, vss)) FU 0 = some r ∧ loopM (lontarlaw09_Join_L0 b re im) FU 0 = some t ∧ joinR r t := by
  refine loop_lock (I := fun v => 0 ≤ v ∧ v ≤ 148) (μ := fun v => (148 - v).toNat) ?_ FU 0 (by omega) (by simp [FU])
  intro v ⟨h0, h1⟩
  by_cases hv : v < 148
  · obtain ⟨l, x, e1, e2, e3, e4⟩ := vLetter h0 hv
    by_cases c1 : l.base = b
    · by_cases c2 : feq l.sign.1 re = true
      · by_cases c3 : feq l.sign.2 im = true
        · refine .inr ⟨.x0 x l.base l.sign.1 l.sign.2, .x0 x l.base l.sign.1 l.sign.2, ?_, ?_, rfl⟩
          · simp [viet_Join_L0, vls_len, hv, e2, e3, GVietLetter.eq, ceq, c1, c2, c3]
          · simp [lontarlaw09_Join_L0, hv, e1, c1, c2, c3]
        · refine .inl ⟨v + 1, ?_, ?_, by omega, by omega⟩
          · simp [viet_Join_L0, vls_len, hv, e2, e3, GVietLetter.eq, ceq, c1, c2, c3, w64_id (n := v + 1) (by omega) (by omega)]
          · simp [lontarlaw09_Join_L0, hv, e1, c1, c2, c3, w64_id (n := v + 1) (by omega) (by omega)]
      · refine .inl ⟨v + 1, ?_, ?_, by omega, by omega⟩
        · simp [viet_Join_L0, vls_len, hv, e2, e3, GVietLetter.eq, ceq, c1, c2, w64_id (n := v + 1) (by omega) (by omega)]
        · simp [lontarlaw09_Join_L0, hv, e1, c1, c2, w64_id (n := v + 1) (by omega) (by omega)]
    · refine .inl ⟨v + 1, ?_, ?_, by omega, by omega⟩
      · simp [viet_Join_L0, vls_len, hv, e2, e3, GVietLetter.eq, ceq, c1, w64_id (n := v + 1) (by omega) (by omega)]
      · simp [lontarlaw09_Join_L0, hv, e1, c1, w64_id (n := v + 1) (by omega) (by omega)]
  · refine .inr ⟨.x1 v (decide (v < 148)), .x1 v (decide (v < 148)), ?_, ?_, trivial⟩
    · simp [viet_Join_L0, vls_len, hv]
    · simp [lontarlaw09_Join_L0, hv]
theorem join_same (b : Int) (re im : Nat) : ∃ a, viet_Join ⟨b, (re, im)⟩ = some a ∧ lontarlaw09_Join b re im = some a := by
  obtain ⟨r, t, h1, h2, h3⟩ := join_lock b re im
  unfold viet_Join lontarlaw09_Join
  rw [vAll, Option.bind_some, h1, h2]
  cases r <;> cases t <;> simp only [joinR] at h3
  · subst h3
    exact ⟨_, rfl, rfl⟩
  · exact ⟨_, rfl, rfl⟩
theorem base_k : ((List.range 256).all fun (n : Nat) => (strI (ByteArray.mk #[97, 101, 105, 111, 117, 121, 100, 65, 69, 73, 79, 85, 89, 68, 120, 122]) ((n : Int).tmod 16)).isSome) = true := by kernel_rfl
theorem vietJoin_true (base mark tone : Int) (re im : Nat) (hb : (Lit.int .u8 base).wf = true) : lontarlaw09_VietJoin base mark tone re im = some true := by
  unfold lontarlaw09_VietJoin
  rw [awake09, Option.bind_some, if_pos rfl]
  obtain ⟨c, hc⟩ := Option.isSome_iff_exists.1 (upto (p := fun n => (strI (ByteArray.mk #[97, 101, 105, 111, 117, 121, 100, 65, 69, 73, 79, 85, 89, 68, 120, 122]) (n.tmod 16)).isSome) base_k (wf_u8 hb).1 (wf_u8 hb).2)
  rw [hc, Option.bind_some]
  have key : ∃ r, loopM (lontarlaw09_VietJoin_L0 mark tone re im c) FU 0 = some r ∧ (match r with | .x2 _ _ => True | _ => False) := by
    refine loop_end (I := fun v => 0 ≤ v ∧ v ≤ 4) (μ := fun v => (4 - v).toNat) ?_ FU 0 (by omega) (by simp [FU])
    intro v ⟨h0, h1⟩
    by_cases hv : v < 4
    · obtain ⟨x, hx⟩ : ∃ x, nthI [((i2f (mark.tmod 6)), (i2f (tone.tmod 7))), (re, (i2f (tone.tmod 7))), ((i2f (mark.tmod 6)), im), (re, im)] v = some x := by
        have : v = 0 ∨ v = 1 ∨ v = 2 ∨ v = 3 := by omega
        rcases this with rfl | rfl | rfl | rfl <;> exact ⟨_, rfl⟩
      obtain ⟨a, e1, e2⟩ := join_same (w64 c) x.1 x.2
      refine .inl ⟨v + 1, ?_, by omega, by omega⟩
      simp [lontarlaw09_VietJoin_L0, hv, hx, e1, e2, w64_id (n := v + 1) (by omega) (by omega)]
    · refine .inr ⟨.x2 v (decide (v < 4)), ?_, trivial⟩
      simp [lontarlaw09_VietJoin_L0, hv]
  obtain ⟨r, h1, h2⟩ := key
  rw [h1]
  cases r <;> first | rfl | cases h2
end Go.AM.M
