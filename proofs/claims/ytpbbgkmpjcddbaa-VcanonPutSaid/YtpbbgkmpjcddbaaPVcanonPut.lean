/- The model of VcanonPut answers true. -/
import Derived.Test.YtpbbgkmpjcddbaaMVcanonPut
import Derived.Test.YtpbbgkmpjcddbaaPcan8
set_option linter.all false
namespace Go.AM.M
open Go.AM
theorem take_snoc {x : List Int} {v : Int} {s : Int} (h0 : 0 ≤ v) (h1 : v < (x.length : Int)) (hs : nthI x v = some s) : x.take (v + 1).toNat = x.take v.toNat ++ [s] := by
  have h2 : v.toNat < x.length := by omega
  unfold nthI at hs
  rw [if_pos h0, List.getElem?_eq_getElem h2] at hs
  have : (v + 1).toNat = v.toNat + 1 := by omega
  rw [this, List.take_succ_eq_append_getElem h2, Option.some.inj hs]
theorem slice_to {α : Type} (l : List α) {k : Int} (h0 : 0 ≤ k) (h1 : k ≤ l.length) : sliceI l (0 : Int) k = some (l.take k.toNat) := by
  unfold sliceI; rw [if_pos ⟨by omega, h0, h1⟩]; simp
/-- A step: what Put gives, and what is to come. -/
theorem put_step (b0 : Int) (re im : Nat) (b : Bool) (hL : b = true → isL ⟨b0, (re, im)⟩) (s : Int) : ∃ q c, vcanon_Canon_Put ⟨b0, (re, im), b⟩ s = some (q, c) ∧ q.length ≤ 2 ∧
    (c.is = true → isL ⟨c.letter_base, c.letter_sign⟩) ∧ (∀ r, canG (stOf b0 re im b) (s :: r) = q ++ canG (stOf c.letter_base c.letter_sign.1 c.letter_sign.2 c.is) r) ∧ ((∃ l, splitT s = some l) → c.is = true) := by
  cases b with
  | false =>
    have hp := put_F b0 (re, im) s
    cases hsp : splitT s with
    | none => rw [hsp] at hp; exact ⟨_, _, hp, by simp, by simp, fun r => by simp [stOf, canG_none hsp], fun ⟨_, h⟩ => by cases h⟩
    | some l => rw [hsp] at hp; exact ⟨_, _, hp, by simp, fun _ => split_isL hsp, fun r => by simp [stOf, canG_split hsp], fun _ => rfl⟩
  | true =>
    have hp := put_T (hL rfl) s
    cases hf : fitT ⟨b0, (re, im)⟩ s with
    | some l' => rw [hf] at hp; exact ⟨_, _, hp, by simp, fun _ => fit_isL (hL rfl) hf, fun r => by simp [stOf, canG_fit hf], fun _ => rfl⟩
    | none =>
      rw [hf] at hp
      cases hsp : splitT s with
      | none => rw [hsp] at hp; exact ⟨_, _, hp, by simp, by simp, fun r => by simp [stOf, canG_miss hf, canG_none hsp], fun ⟨_, h⟩ => by cases h⟩
      | some l => rw [hsp] at hp; exact ⟨_, _, hp, by simp, fun _ => split_isL hsp, fun r => by simp [stOf, canG_miss hf, canG_split hsp], fun _ => rfl⟩
def heldI (b : Bool) : Int := if b = true then 1 else 0
theorem held_eq (c : GVcanonCanon) : vcanon_Canon_Held c = some (heldI c.is, c) := by
  unfold vcanon_Canon_Held heldI
  cases c.is <;> rfl
theorem flush_len (b0 : Int) (re im : Nat) (b : Bool) : ((canG (stOf b0 re im b) []).length : Int) = heldI b := by
  cases b
  · simp [stOf, canG_nil, heldI]
  · simp [stOf, canG_one, heldI]
def putEnd (x : List Int) : lontarlaw10_VcanonPut_L0_R → Prop
  | .x9 out _ _ m re im b => out ++ canG (stOf m re im b) [] = canG none x ∧ (b = true → isL ⟨m, (re, im)⟩) ∧ out.length ≤ 2 * x.length
  | _ => False
theorem put_loop (x : List Int) (hx : x.length ≤ 60) : ∃ r, loopM (lontarlaw10_VcanonPut_L0 x) FU ([], 0, 0, 0, 0, false) = some r ∧ putEnd x r := by
  refine loop_end (I := fun (v : List Int × Int × Int × Nat × Nat × Bool) => 0 ≤ v.2.1 ∧ v.2.1 ≤ (x.length : Int) ∧ v.1.length ≤ 2 * v.2.1.toNat ∧ (v.2.2.2.2.2 = true → isL ⟨v.2.2.1, (v.2.2.2.1, v.2.2.2.2.1)⟩) ∧
      ∀ r, canG none (x.take v.2.1.toNat ++ r) = v.1 ++ canG (stOf v.2.2.1 v.2.2.2.1 v.2.2.2.2.1 v.2.2.2.2.2) r)
    (μ := fun (v : List Int × Int × Int × Nat × Nat × Bool) => ((x.length : Int) - v.2.1).toNat) ?_ FU ([], 0, 0, 0, 0, false) ⟨by simp, by simp, by simp, by simp, fun r => by simp [stOf]⟩ (by simp [FU]; omega)
  rintro ⟨out, v, m, re, im, b⟩ ⟨h0, h1, h2, h3, h4⟩
  simp only at h0 h1 h2 h3 h4
  by_cases hv : v < (x.length : Int)
  · obtain ⟨s, hs, _⟩ := drop_cons h0 hv
    have hw : w64 (v + 1) = v + 1 := w64_id (by omega) (by omega)
    obtain ⟨q, c, e1, e2, e3, e4, e5⟩ := put_step m re im b h3 s
    have htk := take_snoc h0 hv hs
    have hsl : sliceI x (0 : Int) (v + 1) = some (x.take (v + 1).toNat) := slice_to x (by omega) (by omega)
    have hlen : (x.take (v + 1).toNat).length ≤ 60 := by simp; omega
    have hcan := canon_eq (x.take (v + 1).toNat) (by omega)
    have hall : ∀ r, canG none (x.take (v + 1).toNat ++ r) = (out ++ q) ++ canG (stOf c.letter_base c.letter_sign.1 c.letter_sign.2 c.is) r := fun r => by
      rw [htk, List.append_assoc, List.singleton_append, h4, e4, List.append_assoc]
    have hdone : canG none (x.take (v + 1).toNat) = (out ++ q) ++ canG (stOf c.letter_base c.letter_sign.1 c.letter_sign.2 c.is) [] := by
      have := hall []
      rwa [List.append_nil] at this
    have hfl := flush_len c.letter_base c.letter_sign.1 c.letter_sign.2 c.is
    have hol : ((out ++ q).length : Int) ≤ 200 := by rw [List.length_append]; omega
    have hh : 0 ≤ heldI c.is ∧ heldI c.is ≤ 1 := by unfold heldI; split <;> omega
    have hdl : w64 (((out ++ q).length : Int) + heldI c.is) = ((canG none (x.take (v + 1).toNat)).length : Int) := by
      rw [w64_id (by omega) (by omega), hdone]
      rw [List.length_append (as := out ++ q), Int.natCast_add, hfl]
    have hsl2 : sliceI (canG none (x.take (v + 1).toNat)) (0 : Int) ((out ++ q).length : Int) = some (out ++ q) := by
      rw [slice_to _ (by omega) (by rw [hdone, List.length_append (as := out ++ q)]; omega), hdone, Int.toNat_natCast, List.take_left']
      rfl
    have hun := units_same (out ++ q) (by rw [List.length_append]; omega)
    have hg : (out.length + q.length) * 8 ≤ 2 ^ 46 := by omega
    refine .inl ⟨(out ++ q, v + 1, c.letter_base, c.letter_sign.1, c.letter_sign.2, c.is), ?_, ⟨by simp only; omega, by simp only; omega, by simp only [List.length_append]; omega, e3, hall⟩, by simp only; omega⟩
    have hno : ¬ heldI c.is > 1 := by omega
    rcases (split_eq s).2 with ⟨g1, g2⟩ | ⟨l, g1, g2, _⟩
    · by_cases hb : heldI c.is = 1
      · simp only [lontarlaw10_VcanonPut_L0, if_pos hv, hs, Option.bind_some, e1, guardO, if_pos hg, hw, hsl, hcan, g1, held_eq, hdl, hsl2, hun, if_true, Bool.false_eq_true, if_false, if_pos hb, if_neg hno]
      · have hz : heldI c.is = 0 := by omega
        simp only [lontarlaw10_VcanonPut_L0, if_pos hv, hs, Option.bind_some, e1, guardO, if_pos hg, hw, hsl, hcan, g1, held_eq, hdl, hsl2, hun, if_true, Bool.false_eq_true, if_false, if_neg hb, if_pos hz, if_neg hno]
    · have hb : heldI c.is = 1 := by rw [e5 ⟨l, g2⟩]; rfl
      simp only [lontarlaw10_VcanonPut_L0, if_pos hv, hs, Option.bind_some, e1, guardO, if_pos hg, hw, hsl, hcan, g1, held_eq, hdl, hsl2, hun, if_true, if_pos hb, if_neg hno]
  · have hn : v = x.length := by omega
    subst hn
    refine .inr ⟨.x9 out (x.length : Int) (decide ((x.length : Int) < (x.length : Int))) m re im b, by simp only [lontarlaw10_VcanonPut_L0, if_neg hv], ?_, h3, by omega⟩
    have := h4 []
    simpa using this.symm
theorem vcanonPut_true (l : List Int) (hl : ∀ z ∈ l, (Lit.int .u8 z).wf = true) : lontarlaw10_VcanonPut l = some true := by
  obtain ⟨x, h1, h2⟩ := some_eq l hl
  obtain ⟨r, k1, k2⟩ := put_loop x h2
  unfold lontarlaw10_VcanonPut
  rw [awake10, Option.bind_some, if_pos rfl, h1, Option.bind_some, k1, Option.bind_some]
  cases r with
  | x9 out v t m re im b =>
    obtain ⟨j1, j2, j3⟩ := k2
    have hc := (canG_len x).1
    have hun := units_same (canG none x) (by omega)
    simp only
    cases b with
    | false =>
      simp only [stOf, canG_nil, List.append_nil] at j1
      simp [vcanon_Canon_End, vcanon_Canon_Held, guardO, canon_eq x (by omega), j1, hun]
      omega
    | true =>
      have hj := (join_isL (j2 rfl)).1
      simp only [stOf, canG_one] at j1
      simp [vcanon_Canon_End, vcanon_Canon_Held, guardO, hj, canon_eq x (by omega), j1, hun]
      omega
  | _ => cases k2
end Go.AM.M
