/- The model of VcanonParts answers true. -/
import Derived.Test.YtpbbgkmpjcddbaaMVcanonParts
import Derived.Test.YtpbbgkmpjcddbaaPcan5
set_option linter.all false
namespace Go.AM.M
open Go.AM
theorem fit120 (l : GVietLetter) : fitT l 120 = none := by
  have h : signT 120 = none := by kernel_rfl
  unfold fitT; rw [h]
theorem split120 : splitT 120 = none := by kernel_rfl
theorem canG_parts (y : List Int) : ∀ (x : List Int), canG none (x ++ 120 :: y) = canG none x ++ canG none (120 :: y) ∧ ∀ l, canG (some l) (x ++ 120 :: y) = canG (some l) x ++ canG none (120 :: y)
  | [] => ⟨by simp [canG_nil], fun l => by rw [List.nil_append, canG_miss (fit120 l), canG_one, List.cons_append, List.nil_append]⟩
  | s :: r => by
    obtain ⟨i1, i2⟩ := canG_parts y r
    have hn : canG none (s :: (r ++ 120 :: y)) = canG none (s :: r) ++ canG none (120 :: y) := by
      cases h : splitT s with
      | none => rw [canG_none h, canG_none h, i1, List.cons_append]
      | some m => rw [canG_split h, canG_split h, i2 m]
    refine ⟨hn, fun l => ?_⟩
    show canG (some l) (s :: (r ++ 120 :: y)) = _
    cases h : fitT l s with
    | none => rw [canG_miss h, canG_miss h, hn, List.cons_append]
    | some l' => rw [canG_fit h, canG_fit h, i2 l']
theorem vcanonParts_true (a b : List Int) (ha : ∀ z ∈ a, (Lit.int .u8 z).wf = true) (hb : ∀ z ∈ b, (Lit.int .u8 z).wf = true) : lontarlaw10_VcanonParts a b = some true := by
  obtain ⟨x, h1, h2⟩ := some_eq a ha
  obtain ⟨y, h3, h4⟩ := some_eq b hb
  have k1 := (canG_len x).1
  have k2 := (canG_len (120 :: y)).1
  simp only [List.length_cons] at k2
  unfold lontarlaw10_VcanonParts
  rw [awake10, Option.bind_some, if_pos rfl, h1, Option.bind_some, h3, Option.bind_some]
  have e : [120] ++ y = 120 :: y := rfl
  simp only [e, guardO, List.length_append, List.length_cons, List.length_nil]
  rw [if_pos (by omega), if_pos (by omega), if_pos (by omega), all_eq _ (by simp; omega), Option.bind_some, all_eq x (by omega), Option.bind_some, all_eq (120 :: y) (by simp; omega), Option.bind_some, if_pos (by omega),
    (canG_parts y x).1, units_same _ (by simp; omega)]
  rfl
end Go.AM.M
