/- The model of VietRound answers true. -/
import Derived.Test.YtpbbgkmpjcddbaaMVietRound
import Derived.Test.YtpbbgkmpjcddbaaPviet
set_option linter.all false
namespace Go.AM.M
open Go.AM
def rdOk (a : Int) : Bool := match nthI vls a, nthI vss a with
  | some l, some s => match viet_Join l, viet_Split s with
    | some (s', true), some (l', true) => s' == s && GVietLetter.eq l' l && (vss.idxOf s : Int) == a && (decide (a ≥ 74) || (match viet_Upper s, nthI vss (a + 74) with
      | some u, some u' => u == u'
      | _, _ => false))
    | _, _ => false
  | _, _ => false
theorem rd_k : ((List.range 148).all fun n => rdOk n) = true := by kernel_rfl
theorem rdGet {a : Int} (h0 : 0 ≤ a) (h1 : a < 148) : ∃ l s l', nthI vls a = some l ∧ nthI vss a = some s ∧ viet_Join l = some (s, true) ∧ viet_Split s = some (l', true) ∧ GVietLetter.eq l' l = true ∧ (vss.idxOf s : Int) = a ∧ (a < 74 → ∃ u, viet_Upper s = some u ∧ nthI vss (a + 74) = some u) := by
  have h := upto (p := rdOk) rd_k h0 h1
  unfold rdOk at h
  split at h
  · rename_i l s e1 e2
    split at h
    · rename_i s' l' e3 e4
      simp only [Bool.and_eq_true, Bool.or_eq_true, beq_iff_eq, decide_eq_true_eq] at h
      obtain ⟨⟨⟨k1, k2⟩, k3⟩, k4⟩ := h
      subst k1
      refine ⟨l, s', l', e1, e2, e3, e4, k2, k3, fun ha => ?_⟩
      rcases k4 with k4 | k4
      · omega
      · split at k4
        · rename_i u u' e5 e6
          have := beq_iff_eq.1 k4
          subst this
          exact ⟨u, e5, e6⟩
        · cases k4
    · cases h
  · cases h
theorem vietRound_true (n m : Int) (hn : (Lit.int .u8 n).wf = true) (hm : (Lit.int .u8 m).wf = true) : lontarlaw09_VietRound n m = some true := by
  have ⟨n0, n1⟩ := wf_u8 hn
  have ⟨m0, m1⟩ := wf_u8 hm
  have ta : ∀ x : Int, 0 ≤ x → x < 256 → 0 ≤ x.tmod 148 ∧ x.tmod 148 < 148 := fun x h0 _ => ⟨Int.tmod_nonneg _ h0, by rw [Int.tmod_eq_emod_of_nonneg h0]; omega⟩
  obtain ⟨a0, a1⟩ := ta n n0 n1
  obtain ⟨b0, b1⟩ := ta m m0 m1
  unfold lontarlaw09_VietRound
  rw [awake09, Option.bind_some, if_pos rfl, vAll, Option.bind_some]
  have hl : (vls.length : Int) = 148 := by rw [vls_len]; rfl
  have hs : (vss.length : Int) = 148 := by rw [vss_len]; rfl
  simp only [hl, hs, w64_id (n := n) (by omega) (by omega), w64_id (n := m) (by omega) (by omega)]
  generalize n.tmod 148 = a at *
  generalize m.tmod 148 = b at *
  obtain ⟨l, s, l', e1, e2, e3, e4, e5, e6, e7⟩ := rdGet a0 a1
  obtain ⟨lb, sb, lb', f1, f2, f3, f4, f5, f6, f7⟩ := rdGet b0 b1
  have hh : w64 74 = 74 := by kernel_rfl
  have hss : (s == sb) = (a == b) := by
    rw [Bool.eq_iff_iff, beq_iff_eq, beq_iff_eq]
    constructor
    · rintro rfl; rw [← e6, ← f6]
    · rintro rfl; rw [e2] at f2; exact Option.some.inj f2
  by_cases h74 : a < 74
  · obtain ⟨u, g1, g2⟩ := e7 h74
    have hw : w64 (a + 74) = a + 74 := w64_id (by omega) (by omega)
    simp [guardO, e1, e2, e3, e4, e5, f2, hss, hh, h74, g1, g2, hw]
  · simp [guardO, e1, e2, e3, e4, e5, f2, hss, hh, h74]
end Go.AM.M
