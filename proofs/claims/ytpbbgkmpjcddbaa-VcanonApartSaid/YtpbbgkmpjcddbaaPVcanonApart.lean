/- The model of VcanonApart answers true. -/
import Derived.Test.YtpbbgkmpjcddbaaMVcanonApart
import Derived.Test.YtpbbgkmpjcddbaaPcan8
set_option linter.all false
namespace Go.AM.M
open Go.AM
theorem slice30 {α : Type} (l : List α) : sliceI l (0 : Int) (minI (l.length : Int) 30) = some (l.take 30) := by
  by_cases h : (30 : Int) < l.length
  · have e : minI (l.length : Int) 30 = 30 := by simp [minI, h]
    rw [e]; unfold sliceI; rw [if_pos ⟨by omega, by omega, by omega⟩]; simp
  · have e : minI (l.length : Int) 30 = l.length := by simp [minI, h]
    rw [e]; unfold sliceI; rw [if_pos ⟨by omega, by omega, by omega⟩]
    simp only [Int.toNat_zero, List.drop_zero, Nat.sub_zero, Int.toNat_natCast]
    rw [List.take_of_length_le (Nat.le_refl _), List.take_of_length_le (by omega)]
theorem want_eq (q v : List Int) (hx : (q ++ v).length ≤ 2 ^ 39) : ∃ r, loopM (lontarlaw10_VcanonApart_L0 q v) FU ([], 0) = some r ∧ r.1 = (q ++ v).flatMap apT := by
  refine loop_end (I := fun (i : List Int × Int) => 0 ≤ i.2 ∧ i.2 ≤ ((q ++ v).length : Int) ∧ i.1.length ≤ 3 * i.2.toNat ∧ i.1 ++ ((q ++ v).drop i.2.toNat).flatMap apT = (q ++ v).flatMap apT) (μ := fun (i : List Int × Int) => (((q ++ v).length : Int) - i.2).toNat) ?_ FU ([], 0) ⟨by simp, by simp only; omega, by simp, by simp⟩ (by simp only [FU]; omega)
  rintro ⟨out, i⟩ ⟨h0, h1, h2, h3⟩
  simp only at h0 h1 h2 h3
  by_cases hv : i < ((q ++ v).length : Int)
  · obtain ⟨s, hs, hd⟩ := drop_cons h0 hv
    have hw : w64 (i + 1) = i + 1 := w64_id (by omega) (by omega)
    have hg : ∀ n : Nat, n ≤ 3 → (out.length + n) * 8 ≤ 2 ^ 46 := fun n hn => by omega
    have g1 := hg 1 (by omega)
    have g2 := hg 2 (by omega)
    have g3 := hg 3 (by omega)
    have hl := ap_len s
    rw [hd, List.flatMap_cons] at h3
    refine .inl ⟨(out ++ apT s, i + 1), ?_, ⟨by simp only; omega, by simp only; omega, by simp only [List.length_append]; omega, by simp only; rw [List.append_assoc]; exact h3⟩, by simp only; omega⟩
    have he := (split_eq s).1
    rcases ap_info s with ⟨_, e1, e2⟩ | ⟨l, a, b, _, e1, f1, f2, k1, k2, k3, k4, k5, _, _, e2, _⟩
    · simp only [lontarlaw10_VcanonApart_L0, if_pos hv, hs, Option.bind_some, he, e1, hw, e2, guardO, List.length_singleton, if_pos g1, Bool.false_eq_true, if_false]
    · rw [e2]
      by_cases c4 : a = 4
      · simp only [lontarlaw10_VcanonApart_L0, if_pos hv, hs, Option.bind_some, he, e1, if_true, if_pos (k5.2 c4), hw, if_pos c4, guardO, List.length_singleton, if_pos g1]
      · have c5 : ¬ feq l.sign.1 4616189618054758400 = true := fun h => c4 (k5.1 h)
        obtain ⟨m1, m2, m3⟩ := mk3_len k1 (by omega)
        obtain ⟨n1, n2, n3⟩ := mk5_len k3 (by omega)
        rw [if_neg c4]
        by_cases ca : a > 0
        · obtain ⟨m, p1, p2⟩ := m2 ca
          by_cases cb : b > 0
          · obtain ⟨t, p3, p4⟩ := n2 cb
            simp [lontarlaw10_VcanonApart_L0, ← List.length_append, hv, hs, he, e1, c5, f1, f2, hw, ca, cb, p1, p2, p3, p4, guardO, Nat.add_assoc, g1, g2, g3]
            try (simp only [List.length_append, List.length_cons, List.length_nil]; omega)
          · simp [lontarlaw10_VcanonApart_L0, ← List.length_append, hv, hs, he, e1, c5, f1, f2, hw, ca, cb, p1, p2, n3 cb, guardO, Nat.add_assoc, g1, g2]
            try (simp only [List.length_append, List.length_cons, List.length_nil]; omega)
        · by_cases cb : b > 0
          · obtain ⟨t, p3, p4⟩ := n2 cb
            simp [lontarlaw10_VcanonApart_L0, ← List.length_append, hv, hs, he, e1, c5, f1, f2, hw, ca, cb, m3 ca, p3, p4, guardO, Nat.add_assoc, g1, g2]
            try (simp only [List.length_append, List.length_cons, List.length_nil]; omega)
          · simp [lontarlaw10_VcanonApart_L0, ← List.length_append, hv, hs, he, e1, c5, f1, f2, hw, ca, cb, m3 ca, n3 cb, guardO, g1]
            try (simp only [List.length_append, List.length_cons, List.length_nil]; omega)
  · have hn : i = (q ++ v).length := by omega
    subst hn
    refine .inr ⟨(out, ((q ++ v).length : Int), decide (((q ++ v).length : Int) < ((q ++ v).length : Int))), by simp only [lontarlaw10_VcanonApart_L0, if_neg hv], ?_⟩
    simp only [Int.toNat_natCast, List.drop_length, List.flatMap_nil, List.append_nil] at h3
    exact h3
theorem vcanonApart_true (l ss : List Int) (hl : ∀ z ∈ l, (Lit.int .u8 z).wf = true) : lontarlaw10_VcanonApart l ss = some true := by
  obtain ⟨x, h1, h2⟩ := some_eq l hl
  have h3 : (ss.take 30).length ≤ 30 := by simp; omega
  have hlen : (x ++ ss.take 30).length ≤ 90 := by rw [List.length_append]; omega
  have k := apart_long (x ++ ss.take 30)
  obtain ⟨⟨w, i, b⟩, g1, g2⟩ := want_eq x (ss.take 30) (by omega)
  simp only at g2
  subst g2
  unfold lontarlaw10_VcanonApart
  rw [awake10, Option.bind_some, if_pos rfl, h1, Option.bind_some, slice30, Option.bind_some]
  simp only [guardO]
  rw [if_pos (by omega), g1, Option.bind_some]
  simp only
  rw [apart_eq _ (by omega), Option.bind_some, units_same _ (by omega)]
  rfl
end Go.AM.M
