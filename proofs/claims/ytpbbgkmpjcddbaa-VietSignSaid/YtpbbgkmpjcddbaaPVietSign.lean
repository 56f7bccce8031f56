/- The model of VietSign answers true. -/
import Derived.Test.YtpbbgkmpjcddbaaMVietSign
import Derived.Test.YtpbbgkmpjcddbaaPviet
set_option linter.all false
namespace Go.AM.M
open Go.AM
theorem ceq00 : (ceq 0 0 0 0 && (false == false)) = true := by kernel_rfl
def sgMarks : (List Int) × (List (Nat × Nat)) := (lontarlaw09_Marks.getD ([], []))
theorem sgMarks_eq : lontarlaw09_Marks = some sgMarks := by kernel_rfl
def sgList : List Int := [774, 770, 795, 768, 769, 777, 771, 803]
theorem sgMarks_fst : sgMarks.1 = sgList := by kernel_rfl
def signOk (x : Int) : Bool := match viet_Sign x, loopM (lontarlaw09_VietSign_L1 sgMarks x) FU (0, 0, false, 0) with
  | some a, some (z, w, i, _, _) => ceq a.1.1 a.1.2 z w && a.2 == i
  | _, _ => false
theorem sign_k : (sgList.all signOk) = true := by kernel_rfl
theorem sign_all (x : Int) : signOk x = true := by
  by_cases hx : x ∈ sgList
  · exact List.all_eq_true.1 sign_k x hx
  · have key : ∃ r, loopM (lontarlaw09_VietSign_L1 sgMarks x) FU (0, 0, false, 0) = some r ∧ (r.1 = 0 ∧ r.2.1 = 0 ∧ r.2.2.1 = false) := by
      refine loop_end (I := fun v => v.1 = 0 ∧ v.2.1 = 0 ∧ v.2.2.1 = false ∧ 0 ≤ v.2.2.2 ∧ v.2.2.2 ≤ 8) (μ := fun v => (8 - v.2.2.2).toNat) ?_ FU (0, 0, false, 0) ⟨rfl, rfl, rfl, by simp, by simp⟩ (by simp [FU])
      rintro ⟨z, w, i, v⟩ ⟨rfl, rfl, rfl, h0, h1⟩
      simp only at h0 h1
      by_cases hv : v < 8
      · have h8 : v.toNat < sgList.length := by show v.toNat < 8; omega
        have hy : nthI sgList v = some sgList[v.toNat] := by unfold nthI; rw [if_pos h0]; exact List.getElem?_eq_getElem h8
        have hne : sgList[v.toNat] ≠ x := fun e => hx (e ▸ List.getElem_mem h8)
        refine .inl ⟨(0, 0, false, v + 1), ?_, ⟨rfl, rfl, rfl, by simp only; omega, by simp only; omega⟩, by simp only; omega⟩
        have hl : (sgList.length : Int) = 8 := rfl
        simp only [lontarlaw09_VietSign_L1, sgMarks_fst, hl, if_pos hv, hy, Option.bind_some, if_neg hne, w64_id (n := v + 1) (by omega) (by omega)]
      · refine .inr ⟨(0, 0, false, v, decide (v < 8)), ?_, rfl, rfl, rfl⟩
        have hl : (sgList.length : Int) = 8 := rfl
        simp only [lontarlaw09_VietSign_L1, sgMarks_fst, hl, if_neg hv]
    obtain ⟨⟨z, w, i, v, b⟩, h1, h2, h3, h4⟩ := key
    simp only at h2 h3 h4
    subst h2; subst h3; subst h4
    have hs : viet_Sign x = some ((0, 0), false) := by
      simp only [sgList, List.mem_cons, not_or, List.not_mem_nil] at hx
      simp [viet_Sign, hx]
    unfold signOk
    rw [hs, h1]
    show (ceq 0 0 0 0 && (false == false)) = true
    exact ceq00
theorem vietSign_true (s n : Int) : lontarlaw09_VietSign s n = some true := by
  unfold lontarlaw09_VietSign
  rw [awake09, Option.bind_some, if_pos rfl, sgMarks_eq, Option.bind_some]
  have key : ∃ r, loopM (lontarlaw09_VietSign_L0 s n sgMarks) FU 0 = some r ∧ (match r with | .x2 _ _ => True | _ => False) := by
    refine loop_end (I := fun v => 0 ≤ v ∧ v ≤ 2) (μ := fun v => (2 - v).toNat) ?_ FU 0 (by omega) (by simp [FU])
    intro v ⟨h0, h1⟩
    by_cases hv : v < 2
    · obtain ⟨x, hx⟩ : ∃ x, nthI [s, (w64 (768 + (w64 (n.tmod 48))))] v = some x := by
        have : v = 0 ∨ v = 1 := by omega
        rcases this with rfl | rfl <;> exact ⟨_, rfl⟩
      have hg := sign_all x
      unfold signOk at hg
      split at hg
      · rename_i a z w i u t e1 e2
        obtain ⟨g1, g2⟩ := Bool.and_eq_true_iff.1 hg
        have g3 := beq_iff_eq.1 g2
        refine .inl ⟨v + 1, ?_, by omega, by omega⟩
        simp [lontarlaw09_VietSign_L0, hv, hx, e1, e2, g1, g3, w64_id (n := v + 1) (by omega) (by omega)]
      · cases hg
    · refine .inr ⟨.x2 v (decide (v < 2)), ?_, trivial⟩
      simp [lontarlaw09_VietSign_L0, hv]
  obtain ⟨r, h1, h2⟩ := key
  rw [h1]
  cases r <;> first | rfl | cases h2
end Go.AM.M
