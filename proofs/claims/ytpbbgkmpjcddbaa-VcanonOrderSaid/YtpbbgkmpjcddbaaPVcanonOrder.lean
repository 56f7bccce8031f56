/- The model of VcanonOrder answers true. -/
import Derived.Test.YtpbbgkmpjcddbaaMVcanonOrder
import Derived.Test.YtpbbgkmpjcddbaaPcan9
set_option linter.all false
namespace Go.AM.M
open Go.AM
theorem canG_pos (o : Option GVietLetter) (s : Int) (r : List Int) (hL : ∀ l, o = some l → isL l) : 1 ≤ (canG o (s :: r)).length := by
  cases o with
  | none =>
    cases h : splitT s with
    | none => rw [canG_none h]; simp
    | some m => rw [canG_split h]; obtain ⟨m', y, _, k⟩ := canG_head r m (split_isL h); rw [k]; simp
  | some l => obtain ⟨m', y, _, k⟩ := canG_head (s :: r) l (hL l rfl); rw [k]; simp
theorem sign_in {x : Int} (h : x ∈ sgList) : ∃ z, viet_Sign x = some (z, true) := by
  have hk : (sgList.all fun x => match viet_Sign x with | some (_, b) => b | none => false) = true := by kernel_rfl
  have := List.all_eq_true.1 hk x h
  split at this
  · rename_i z b e; exact ⟨z, by rw [e, this]⟩
  · cases this
/-- A letter and a sign: what the model adds. -/
theorem add_fit {l : GVietLetter} (h : isL l) {s : Int} {z : Nat × Nat} (hz : viet_Sign s = some (z, true)) :
    (∃ l', fitT l s = some l' ∧ isL l' ∧ viet_Add l z = some (l', true)) ∨ (fitT l s = none ∧ viet_Add l z = some (l, false)) := by
  obtain ⟨p, q, re, im, j, jb, _, _, _, _, _, _, k1, k2⟩ := add_sign h hz
  by_cases c : (feq p 0 && feq q 0) = true ∧ jb = true
  · obtain ⟨m1, m2, m3⟩ := k1 c.1 c.2
    exact .inl ⟨_, m1, m3, m2⟩
  · exact .inr (k2 c)
theorem vcanonOrder_true (n a b : Int) (hn : (Lit.int .u8 n).wf = true) (ha : (Lit.int .u8 a).wf = true) (hb : (Lit.int .u8 b).wf = true) : lontarlaw10_VcanonOrder n a b = some true := by
  have ⟨n0, n1⟩ := wf_u8 hn
  have ⟨a0, a1⟩ := wf_u8 ha
  have ⟨b0, b1⟩ := wf_u8 hb
  have h148 : 0 ≤ n.tmod 148 ∧ n.tmod 148 < 148 := ⟨Int.tmod_nonneg _ n0, by rw [Int.tmod_eq_emod_of_nonneg n0]; omega⟩
  have h3 : 0 ≤ a.tmod 3 ∧ a.tmod 3 < 3 := ⟨Int.tmod_nonneg _ a0, by rw [Int.tmod_eq_emod_of_nonneg a0]; omega⟩
  have h5 : 0 ≤ b.tmod 5 ∧ b.tmod 5 < 5 := ⟨Int.tmod_nonneg _ b0, by rw [Int.tmod_eq_emod_of_nonneg b0]; omega⟩
  obtain ⟨m, hm, mM, mS⟩ : ∃ m, nthI [774, 770, 795] (a.tmod 3) = some m ∧ m ∈ okM ∧ m ∈ sgList := by
    generalize a.tmod 3 = i at h3
    have : i = 0 ∨ i = 1 ∨ i = 2 := by omega
    rcases this with rfl | rfl | rfl <;> exact ⟨_, rfl, by decide, by decide⟩
  obtain ⟨t, ht, tM, tS⟩ : ∃ t, nthI [768, 769, 777, 771, 803] (b.tmod 5) = some t ∧ t ∈ okT ∧ t ∈ sgList := by
    generalize b.tmod 5 = i at h5
    have : i = 0 ∨ i = 1 ∨ i = 2 ∨ i = 3 ∨ i = 4 := by omega
    rcases this with rfl | rfl | rfl | rfl | rfl <;> exact ⟨_, rfl, by decide, by decide⟩
  obtain ⟨l, s, e1, e2, e3, _⟩ := vLetter h148.1 h148.2
  have hor := orOk_all h148.1 h148.2
  unfold orOk at hor
  rw [e2, e3] at hor
  obtain ⟨o1, o2⟩ := Bool.and_eq_true_iff.1 hor
  have hpair := List.all_eq_true.1 (List.all_eq_true.1 o2 m mM) t tM
  have hL : isL l := ⟨_, h148.1, h148.2, e2⟩
  have hs : viet_Split s = some (l, true) ∧ splitT s = some l := by
    rcases (split_eq s).2 with ⟨_, k2⟩ | ⟨l2, k1, k2, _⟩
    · rw [k2] at o1; cases o1
    · rw [k2] at o1
      simp only [Bool.and_eq_true, beq_iff_eq] at o1
      have : l2 = l := by
        cases l2; cases l; simp only at o1; simp only [GVietLetter.mk.injEq, Prod.ext_iff]; exact ⟨o1.1.1, o1.1.2, o1.2⟩
      subst this
      exact ⟨k1, k2⟩
  obtain ⟨z, hz⟩ := sign_in mS
  obtain ⟨w, hw⟩ := sign_in tS
  have x1 := all_eq [s, m, t] (by simp)
  have x2 := all_eq [s, t, m] (by simp)
  rw [canG_split hs.2] at x1 x2
  have hw64 : w64 n = n := w64_id (by omega) (by omega)
  unfold lontarlaw10_VcanonOrder
  rw [awake10, Option.bind_some, if_pos rfl, hw64, e1, Option.bind_some, hm, Option.bind_some, ht, Option.bind_some]
  simp only
  rw [x1, Option.bind_some, x2, Option.bind_some, hs.1, Option.bind_some, hz, Option.bind_some, hw, Option.bind_some]
  simp only
  have long2 : noY l m t = true → 2 ≤ (canG (some l) [t, m]).length := fun hy => by
    unfold noY at hy
    rcases add_fit hL hw with ⟨e, f1, f2, _⟩ | ⟨f1, _⟩
    · rw [f1] at hy
      have hy : fitT e m = none := Option.isNone_iff_eq_none.1 hy
      rw [canG_fit f1, canG_miss hy]
      have := canG_pos none m [] (by simp)
      simp only [List.length_cons]; omega
    · rw [canG_miss f1]
      have := canG_pos none t [m] (by simp)
      simp only [List.length_cons]; omega
  unfold pairOk at hpair
  rcases add_fit hL hz with ⟨c, f1, f2, f3⟩ | ⟨f1, f3⟩
  · rw [f1] at hpair
    simp only at hpair
    rw [f3, Option.bind_some]
    simp only
    rcases add_fit f2 hw with ⟨d, g1, g2, g3⟩ | ⟨g1, g3⟩
    · rw [g1] at hpair
      simp only at hpair
      rw [g3, Option.bind_some]
      simp only [if_true]
      rw [canG_fit f1, canG_fit g1, canG_one]
      have h1 : (([joinT d].length : Nat) : Int) = 1 := rfl
      unfold yes2 at hpair
      rcases add_fit hL hw with ⟨e, k1, k2, k3⟩ | ⟨k1, k3⟩
      · rw [k1] at hpair
        simp only at hpair
        rw [k3, Option.bind_some]
        simp only [if_true]
        rw [if_pos h1, canG_fit k1]
        cases hd : fitT e m with
        | none => rw [hd] at hpair; cases hpair
        | some d' =>
          rw [hd] at hpair
          simp only at hpair
          have hj := beq_iff_eq.1 hpair
          rw [canG_fit hd, canG_one, ← hj, units_same _ (by simp)]
          rfl
      · rw [k3, Option.bind_some]
        simp only [Bool.false_eq_true, if_false]
        rw [if_pos h1]
        have := canG_pos (some l) t [m] (fun _ h => Option.some.inj h ▸ hL)
        have h2 : ((canG (some l) [t, m]).length : Int) ≥ 1 := by omega
        rw [decide_eq_true h2]
    · rw [g1] at hpair
      simp only at hpair
      have k := long2 hpair
      rw [g3, Option.bind_some]
      simp only [if_true, Bool.false_eq_true, if_false]
      have k2 := canG_pos none t [] (by simp)
      have k3 : ((canG (some l) [m, t]).length : Int) > 1 := by
        rw [canG_fit f1, canG_miss g1]; simp only [List.length_cons]; omega
      have k4 : ((canG (some l) [t, m]).length : Int) > 1 := by omega
      rw [if_pos k3, decide_eq_true k4]
  · rw [f1] at hpair
    simp only at hpair
    have k := long2 hpair
    have k2 := canG_pos none m [t] (by simp)
    have k3 : ((canG (some l) [m, t]).length : Int) > 1 := by
      rw [canG_miss f1]; simp only [List.length_cons]; omega
    have k4 : ((canG (some l) [t, m]).length : Int) > 1 := by omega
    rw [f3, Option.bind_some]
    simp only
    rcases add_fit hL hw with ⟨e, _, _, g3⟩ | ⟨_, g3⟩
    · rw [g3, Option.bind_some]
      simp only [if_true, Bool.false_eq_true, if_false]
      rw [if_pos k3, decide_eq_true k4]
    · rw [g3, Option.bind_some]
      simp only [if_true, Bool.false_eq_true, if_false]
      rw [if_pos k3, decide_eq_true k4]
end Go.AM.M
