/- What is together stays so. -/
import Derived.Test.YtpbbgkmpjcddbaaPcan5
set_option linter.all false
namespace Go.AM.M
open Go.AM
def jsOk (v : Int) : Bool := match nthI vls v with
  | some l => match splitT (joinT l), signT (joinT l) with
    | some m, none => m.base == l.base && m.sign.1 == l.sign.1 && m.sign.2 == l.sign.2
    | _, _ => false
  | none => false
theorem jsOk_k : ((List.range 148).all fun v => jsOk v) = true := by kernel_rfl
theorem js_isL {l : GVietLetter} (h : isL l) : splitT (joinT l) = some l ∧ signT (joinT l) = none := by
  obtain ⟨v, h0, h1, h2⟩ := h
  have := upto (p := jsOk) jsOk_k h0 h1
  unfold jsOk at this
  rw [h2] at this
  simp only at this
  split at this
  · rename_i m e1 e2
    simp only [Bool.and_eq_true, beq_iff_eq] at this
    have e : m = l := by
      cases m; cases l; simp only at this; simp only [GVietLetter.mk.injEq, Prod.ext_iff]; exact ⟨this.1.1, this.1.2, this.2⟩
    subst e
    exact ⟨e1, e2⟩
  · cases this
theorem canG_head : ∀ (x : List Int) (m : GVietLetter), isL m → ∃ m' y, isL m' ∧ canG (some m) x = joinT m' :: y
  | [], m, h => ⟨m, [], h, canG_one m⟩
  | s :: r, m, h => by
    cases hf : fitT m s with
    | none => exact ⟨m, _, h, canG_miss hf⟩
    | some m2 => rw [canG_fit hf]; exact canG_head r m2 (fit_isL h hf)
theorem fit_none {l : GVietLetter} {s : Int} (h : signT s = none) : fitT l s = none := by unfold fitT; rw [h]
theorem canG_twice : ∀ (x : List Int), canG none (canG none x) = canG none x ∧ ∀ l, isL l → canG none (canG (some l) x) = canG (some l) x
  | [] => ⟨by rw [canG_nil, canG_nil], fun l hl => by rw [canG_one, canG_split (js_isL hl).1, canG_one]⟩
  | s :: r => by
    obtain ⟨i1, i2⟩ := canG_twice r
    have hn : canG none (canG none (s :: r)) = canG none (s :: r) := by
      cases h : splitT s with
      | none => rw [canG_none h, canG_none h, i1]
      | some m => rw [canG_split h]; exact i2 m (split_isL h)
    refine ⟨hn, fun l hl => ?_⟩
    cases h : fitT l s with
    | some l' => rw [canG_fit h]; exact i2 l' (fit_isL hl h)
    | none =>
      rw [canG_miss h, canG_split (js_isL hl).1]
      cases hs : splitT s with
      | none =>
        rw [canG_none hs] at hn ⊢
        rw [canG_miss h, hn]
      | some m =>
        rw [canG_split hs] at hn ⊢
        obtain ⟨m', y, k1, k2⟩ := canG_head r m (split_isL hs)
        rw [k2] at hn ⊢
        rw [canG_miss (fit_none (js_isL k1).2), hn]
end Go.AM.M

/- What letters are apart. -/
namespace Go.AM.M
open Go.AM
def mk3 (a : Int) : List Int := if a > 0 then (nthI [0, 774, 770, 795] a).toList else []
def mk5 (b : Int) : List Int := if b > 0 then (nthI [0, 768, 769, 777, 771, 803] b).toList else []
def apT (s : Int) : List Int := match splitT s with
  | none => [s]
  | some l => match f2i .i64 l.sign.1, f2i .i64 l.sign.2 with
    | some a, some b => if a = 4 then [s] else l.base :: (mk3 a ++ mk5 b)
    | _, _ => []
def runS (f : Option GVietLetter → Option (Option GVietLetter)) (s : Int) : Option (Option GVietLetter) := match splitT s with
  | some m => f (some m)
  | none => none
def runT (f : Option GVietLetter → Option (Option GVietLetter)) (l : GVietLetter) (s : Int) : Option (Option GVietLetter) := match fitT l s with
  | some m => f (some m)
  | none => none
def runC : List Int → Option GVietLetter → Option (Option GVietLetter)
  | [], st => some st
  | s :: r, none => runS (runC r) s
  | s :: r, some l => runT (runC r) l s
def apOk (v : Int) : Bool := match nthI vls v, nthI vss v with
  | some l, some s => match f2i .i64 l.sign.1, f2i .i64 l.sign.2 with
    | some a, some b => decide (0 ≤ a ∧ a ≤ 4 ∧ 0 ≤ b ∧ b ≤ 5) && (feq l.sign.1 4616189618054758400 == decide (a = 4)) && (signT s).isNone && (signT l.base).isNone &&
      (match runC (if a = 4 then [s] else l.base :: (mk3 a ++ mk5 b)) none with
        | some (some m) => m.base == l.base && m.sign.1 == l.sign.1 && m.sign.2 == l.sign.2
        | _ => false)
    | _, _ => false
  | _, _ => false
theorem apOk0 : ((List.range 74).all fun v => apOk v) = true := by kernel_rfl
theorem apOk1 : ((List.range 74).all fun v => apOk (74 + v)) = true := by kernel_rfl
theorem apOk_all {v : Int} (h0 : 0 ≤ v) (h1 : v < 148) : apOk v = true := by
  by_cases c1 : v < 74
  · exact upto (p := apOk) apOk0 h0 (by omega)
  · have := upto (p := fun n => apOk (74 + n)) apOk1 (n := v - 74) (by omega) (by omega)
    rwa [show 74 + (v - 74) = v by omega] at this
/-- A scalar, and what it is apart. -/
theorem ap_info (s : Int) : (splitT s = none ∧ viet_Split s = some (⟨0, (0, 0)⟩, false) ∧ apT s = [s]) ∨
    ∃ l a b, splitT s = some l ∧ viet_Split s = some (l, true) ∧ f2i .i64 l.sign.1 = some a ∧ f2i .i64 l.sign.2 = some b ∧ 0 ≤ a ∧ a ≤ 4 ∧ 0 ≤ b ∧ b ≤ 5 ∧ (feq l.sign.1 4616189618054758400 = true ↔ a = 4) ∧
      signT s = none ∧ signT l.base = none ∧ apT s = (if a = 4 then [s] else l.base :: (mk3 a ++ mk5 b)) ∧ runC (apT s) none = some (some l) := by
  rcases (split_eq s).2 with ⟨h1, h2⟩ | ⟨l, h1, h2, v, h3, h4, h5, h6⟩
  · exact .inl ⟨h2, h1, by unfold apT; rw [h2]⟩
  · have h := apOk_all h3 h4
    unfold apOk at h
    rw [h5, h6] at h
    simp only at h
    split at h
    · rename_i a b e1 e2
      have hap : apT s = (if a = 4 then [s] else l.base :: (mk3 a ++ mk5 b)) := by unfold apT; rw [h2]; simp only [e1, e2]
      simp only [Bool.and_eq_true, decide_eq_true_eq, beq_iff_eq, Option.isNone_iff_eq_none] at h
      obtain ⟨⟨⟨⟨⟨k1, k2, k3, k4⟩, k5⟩, k6⟩, k7⟩, k8⟩ := h
      rw [← hap] at k8
      split at k8
      · rename_i m em
        simp only [Bool.and_eq_true, beq_iff_eq] at k8
        have e : m = l := by
          cases m; cases l; simp only at k8; simp only [GVietLetter.mk.injEq, Prod.ext_iff]; exact ⟨k8.1.1, k8.1.2, k8.2⟩
        exact .inr ⟨l, a, b, h2, h1, e1, e2, k1, k2, k3, k4, by rw [k5]; simp, k6, k7, hap, e ▸ em⟩
      · cases k8
    · cases h
theorem mk3_len {a : Int} (h0 : 0 ≤ a) (h1 : a < 4) : (mk3 a).length ≤ 1 ∧ (a > 0 → ∃ m, nthI [0, 774, 770, 795] a = some m ∧ mk3 a = [m]) ∧ (¬ a > 0 → mk3 a = []) := by
  have : a = 0 ∨ a = 1 ∨ a = 2 ∨ a = 3 := by omega
  rcases this with rfl | rfl | rfl | rfl <;> refine ⟨by decide, fun h => ?_, fun h => ?_⟩ <;> first | omega | exact ⟨_, rfl, rfl⟩ | rfl
theorem mk5_len {b : Int} (h0 : 0 ≤ b) (h1 : b < 6) : (mk5 b).length ≤ 1 ∧ (b > 0 → ∃ m, nthI [0, 768, 769, 777, 771, 803] b = some m ∧ mk5 b = [m]) ∧ (¬ b > 0 → mk5 b = []) := by
  have : b = 0 ∨ b = 1 ∨ b = 2 ∨ b = 3 ∨ b = 4 ∨ b = 5 := by omega
  rcases this with rfl | rfl | rfl | rfl | rfl | rfl <;> refine ⟨by decide, fun h => ?_, fun h => ?_⟩ <;> first | omega | exact ⟨_, rfl, rfl⟩ | rfl
theorem ap_len (s : Int) : 1 ≤ (apT s).length ∧ (apT s).length ≤ 3 := by
  rcases ap_info s with ⟨_, _, h⟩ | ⟨l, a, b, _, _, _, _, k1, k2, k3, k4, _, _, _, h, _⟩
  · rw [h]; simp
  · rw [h]
    split
    · simp
    · have := (mk3_len k1 (by omega)).1
      have := (mk5_len k3 (by omega)).1
      simp; omega
end Go.AM.M

/- The model of vcanon.Apart, and the road back. -/
namespace Go.AM.M
open Go.AM
theorem apart_eq (x : List Int) (hx : x.length ≤ 2 ^ 39) : vcanon_Apart x = some (x.flatMap apT) := by
  have key : ∃ r, loopM (vcanon_Apart_L0 x) FU ([], 0) = some r ∧ r.1 = x.flatMap apT := by
    refine loop_end (I := fun (v : List Int × Int) => 0 ≤ v.2 ∧ v.2 ≤ (x.length : Int) ∧ v.1.length ≤ 3 * v.2.toNat ∧ v.1 ++ (x.drop v.2.toNat).flatMap apT = x.flatMap apT) (μ := fun (v : List Int × Int) => ((x.length : Int) - v.2).toNat) ?_ FU ([], 0) ⟨by simp, by simp, by simp, by simp⟩ (by simp [FU]; omega)
    rintro ⟨out, v⟩ ⟨h0, h1, h2, h3⟩
    simp only at h0 h1 h2 h3
    by_cases hv : v < (x.length : Int)
    · obtain ⟨s, hs, hd⟩ := drop_cons h0 hv
      have hw : w64 (v + 1) = v + 1 := w64_id (by omega) (by omega)
      have hg : ∀ n : Nat, n ≤ 3 → (out.length + n) * 8 ≤ 2 ^ 46 := fun n hn => by omega
      have hl := ap_len s
      rw [hd, List.flatMap_cons] at h3
      refine .inl ⟨(out ++ apT s, v + 1), ?_, ⟨by simp only; omega, by simp only; omega, by simp only [List.length_append]; omega, by simp only; rw [List.append_assoc]; exact h3⟩, by simp only; omega⟩
      rcases ap_info s with ⟨_, e1, e2⟩ | ⟨l, a, b, _, e1, f1, f2, k1, k2, k3, k4, _, _, _, e2, _⟩
      · simp [vcanon_Apart_L0, hv, hs, e1, hw, e2, guardO, hg 1 (by omega)]
        kernel_rfl
      · rw [e2]
        by_cases c4 : a = 4
        · simp [vcanon_Apart_L0, hv, hs, e1, f1, f2, hw, c4, guardO, hg 1 (by omega)]
        · obtain ⟨m1, m2, m3⟩ := mk3_len k1 (by omega)
          obtain ⟨n1, n2, n3⟩ := mk5_len k3 (by omega)
          rw [if_neg c4]
          by_cases ca : a > 0
          · obtain ⟨m, g1, g2⟩ := m2 ca
            by_cases cb : b > 0
            · obtain ⟨t, g3, g4⟩ := n2 cb
              simp [vcanon_Apart_L0, hv, hs, e1, f1, f2, hw, c4, ca, cb, g1, g2, g3, g4, guardO, Nat.add_assoc, hg 1 (by omega), hg 2 (by omega), hg 3 (by omega), show 0 ≤ a by omega, show a < 4 by omega, show 0 ≤ b by omega, show b < 6 by omega]
            · simp [vcanon_Apart_L0, hv, hs, e1, f1, f2, hw, c4, ca, cb, g1, g2, n3 cb, guardO, Nat.add_assoc, hg 1 (by omega), hg 2 (by omega), show 0 ≤ a by omega, show a < 4 by omega]
          · by_cases cb : b > 0
            · obtain ⟨t, g3, g4⟩ := n2 cb
              simp [vcanon_Apart_L0, hv, hs, e1, f1, f2, hw, c4, ca, cb, m3 ca, g3, g4, guardO, Nat.add_assoc, hg 1 (by omega), hg 2 (by omega), show 0 ≤ b by omega, show b < 6 by omega]
            · simp [vcanon_Apart_L0, hv, hs, e1, f1, f2, hw, c4, ca, cb, m3 ca, n3 cb, guardO, hg 1 (by omega)]
    · have hn : v = x.length := by omega
      subst hn
      refine .inr ⟨(out, (x.length : Int), decide ((x.length : Int) < (x.length : Int))), by simp [vcanon_Apart_L0], ?_⟩
      simpa using h3
  obtain ⟨⟨out, k, b⟩, h1, h2⟩ := key
  unfold vcanon_Apart
  rw [h1]
  exact congrArg some h2
theorem run_canG (r : List Int) (p : List Int) : ∀ (st st' : Option GVietLetter), runC p st = some st' → canG st (p ++ r) = canG st' r := by
  induction p with
  | nil =>
    intro st st' h
    have h : some st = some st' := h
    rw [Option.some.inj h, List.nil_append]
  | cons s p ih =>
    intro st st' h
    cases st with
    | none =>
      have h : runS (runC p) s = some st' := h
      unfold runS at h
      cases hs : splitT s with
      | none => rw [hs] at h; cases h
      | some m => rw [hs] at h; rw [List.cons_append, canG_split hs]; exact ih (some m) st' h
    | some l =>
      have h : runT (runC p) l s = some st' := h
      unfold runT at h
      cases hs : fitT l s with
      | none => rw [hs] at h; cases h
      | some m => rw [hs] at h; rw [List.cons_append, canG_fit hs]; exact ih (some m) st' h
theorem canG_apart : ∀ (x : List Int), canG none (x.flatMap apT) = canG none x ∧ ∀ l, canG (some l) (x.flatMap apT) = canG (some l) x
  | [] => ⟨rfl, fun _ => rfl⟩
  | s :: r => by
    obtain ⟨i1, i2⟩ := canG_apart r
    rcases ap_info s with ⟨e0, e1, e2⟩ | ⟨l, a, b, e0, e1, f1, f2, k1, k2, k3, k4, _, s1, s2, e2, e3⟩
    · have hn : canG none ((s :: r).flatMap apT) = canG none (s :: r) := by
        rw [List.flatMap_cons, e2, List.cons_append, List.nil_append, canG_none e0, canG_none e0, i1]
      refine ⟨hn, fun k => ?_⟩
      have hd : (s :: r).flatMap apT = s :: r.flatMap apT := by rw [List.flatMap_cons, e2, List.cons_append, List.nil_append]
      rw [hd] at hn ⊢
      cases hf : fitT k s with
      | none => rw [canG_miss hf, canG_miss hf, hn]
      | some k' => rw [canG_fit hf, canG_fit hf, i2 k']
    · have hn : canG none ((s :: r).flatMap apT) = canG none (s :: r) := by
        rw [List.flatMap_cons, run_canG _ _ _ _ e3, canG_split e0, i2 l]
      refine ⟨hn, fun k => ?_⟩
      obtain ⟨c, p, hp, hc⟩ : ∃ c p, (s :: r).flatMap apT = c :: p ∧ signT c = none := by
        rw [List.flatMap_cons, e2]
        split
        · exact ⟨s, _, rfl, s1⟩
        · exact ⟨l.base, _, rfl, s2⟩
      rw [hp] at hn ⊢
      rw [canG_miss (fit_none hc), canG_miss (fit_none s1), hn]
theorem apart_long : ∀ (x : List Int), x.length ≤ (x.flatMap apT).length ∧ (x.flatMap apT).length ≤ 3 * x.length
  | [] => ⟨by simp, by simp⟩
  | s :: r => by
    have h := apart_long r
    have k := ap_len s
    rw [List.flatMap_cons, List.length_append, List.length_cons]
    omega
end Go.AM.M
