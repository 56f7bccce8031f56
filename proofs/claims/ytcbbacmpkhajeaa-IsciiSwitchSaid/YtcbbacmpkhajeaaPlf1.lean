/- Plain laws of the models. -/
import Derived.Test.YtcbbacmpkhajeaaWkf1
import Derived.KernelRfl
set_option linter.all false
namespace Go.AM.M
open Go.AM

/-- Enough fuel for any list that a machine bears. -/
def Fu (fu : Nat) : Prop := 18446744073709551616 ≤ fu
def small {α : Type} (l : List α) : Prop := l.length < 9223372036854775808

theorem w64_id {n : Int} (h0 : -9223372036854775808 ≤ n) (h1 : n < 9223372036854775808) : w64 n = n := by
  unfold w64; rw [IntKind.wrap_i64]; omega
theorem w64_nat {n : Nat} (h : n < 9223372036854775808) : w64 (n : Int) = n := w64_id (by omega) (by omega)
theorem w64_succ {k n : Nat} (h : k < n) (hn : n < 9223372036854775808) : w64 ((k : Int) + 1) = ((k + 1 : Nat) : Int) := by
  rw [w64_id (by omega) (by omega)]; rfl
theorem nthI_nat {α : Type} (l : List α) (k : Nat) : nthI l (k : Int) = l[k]? := by simp [nthI]
theorem nthI_get {α : Type} {l : List α} {k : Nat} (h : k < l.length) : nthI l (k : Int) = some l[k] := by rw [nthI_nat]; exact List.getElem?_eq_getElem h
theorem sliceI_to {α : Type} {l : List α} {k : Nat} (h : k ≤ l.length) : sliceI l 0 (k : Int) = some (l.take k) := by
  unfold sliceI
  rw [if_pos ⟨by omega, by omega, by omega⟩]
  simp
theorem sliceI_from {α : Type} {l : List α} {k : Nat} (h : k ≤ l.length) : sliceI l (k : Int) (l.length : Int) = some (l.drop k) := by
  unfold sliceI
  rw [if_pos ⟨by omega, by omega, by omega⟩]
  have e : ((k : Int)).toNat = k := by omega
  rw [e, List.take_of_length_le (by rw [List.length_drop]; omega)]
theorem bif_pos {α : Type} {b : Bool} {x y : α} (h : b = true) : (bif b then x else y) = x := by rw [h]; rfl
theorem bif_neg {α : Type} {b : Bool} {x y : α} (h : b = false) : (bif b then x else y) = y := by rw [h]; rfl
theorem dlt {a b : Nat} : decide ((a : Int) < (b : Int)) = decide (a < b) := by simp

/-- A loop over so many rounds. -/
theorem loop_n {α ρ : Type} {f : α → Option (α ⊕ ρ)} {I : Nat → α → Prop} {R : ρ → Prop} {n : Nat}
    (hstep : ∀ k a, k < n → I k a → (∃ a', f a = some (.inl a') ∧ I (k + 1) a') ∨ (∃ r, f a = some (.inr r) ∧ R r))
    (hend : ∀ a, I n a → ∃ r, f a = some (.inr r) ∧ R r) :
    ∀ (fu k : Nat) (a : α), k ≤ n → n < k + fu → I k a → ∃ r, loopM f fu a = some r ∧ R r := by
  intro fu
  induction fu with
  | zero => intro k a h1 h2; omega
  | succ fu ih =>
    intro k a h1 h2 h3
    rcases Nat.lt_or_ge k n with hk | hk
    · rcases hstep k a hk h3 with ⟨a', e, h4⟩ | ⟨r, e, h4⟩
      · obtain ⟨r, e2, h5⟩ := ih (k + 1) a' (by omega) (by omega) h4
        exact ⟨r, by simp only [loopM, e, e2], h5⟩
      · exact ⟨r, by simp only [loopM, e], h4⟩
    · have : k = n := by omega
      subst this
      obtain ⟨r, e, h4⟩ := hend a h3
      exact ⟨r, by simp only [loopM, e], h4⟩
/-- A loop whose states are known: it stops at the 'm'th. -/
theorem loop_st {α ρ : Type} {f : α → Option (α ⊕ ρ)} (st : Nat → α) {m fu : Nat} {r : ρ} (hstep : ∀ k, k < m → f (st k) = some (.inl (st (k + 1)))) (hend : f (st m) = some (.inr r)) (hf : m < fu) : loopM f fu (st 0) = some r := by
  obtain ⟨r', h1, h2⟩ := loop_n (f := f) (I := fun k a => a = st k) (R := fun r' => r' = r) (n := m) (fun k a hk e => .inl ⟨_, by rw [e]; exact hstep k hk, rfl⟩) (fun a e => ⟨r, by rw [e]; exact hend, rfl⟩) fu 0 (st 0) (by omega) (by omega) rfl
  rw [h1, h2]
/-- A loop by a measure. -/
theorem loop_mu {α ρ : Type} {f : α → Option (α ⊕ ρ)} {I : α → Prop} {R : ρ → Prop} {μ : α → Nat}
    (h : ∀ a, I a → (∃ a', f a = some (.inl a') ∧ I a' ∧ μ a' < μ a) ∨ (∃ r, f a = some (.inr r) ∧ R r)) :
    ∀ (n : Nat) (a : α), I a → μ a < n → ∃ r, loopM f n a = some r ∧ R r := by
  intro n
  induction n with
  | zero => intro a _ h; omega
  | succ n ih =>
    intro a hi hn
    rcases h a hi with ⟨a', h1, h3, h4⟩ | ⟨r, h1, h3⟩
    · obtain ⟨r, k1, k3⟩ := ih a' h3 (by omega)
      exact ⟨r, by simp only [loopM, h1, k1], k3⟩
    · exact ⟨r, by simp only [loopM, h1], h3⟩

theorem snocInd {α : Type} {P : List α → Prop} (nil : P []) (snoc : ∀ l a, P l → P (l ++ [a])) (l : List α) : P l := by
  have h : ∀ l : List α, P l.reverse := by
    intro l
    induction l with
    | nil => exact nil
    | cons a l ih => rw [List.reverse_cons]; exact snoc _ _ ih
  have := h l.reverse
  rwa [List.reverse_reverse] at this
/-- The first place of which something holds. -/
def findN {α : Type} (p : α → Bool) : List α → Option Nat
  | [] => none
  | x :: r => if p x then some 0 else (findN p r).map (· + 1)
def fI (o : Option Nat) : Int :=
  match o with
  | some k => k
  | none => -1
theorem findN_some {α : Type} {p : α → Bool} : ∀ {l : List α} {k : Nat}, findN p l = some k → ∃ h : k < l.length, p l[k] = true ∧ ∀ j (hj : j < k), p (l[j]'(by omega)) = false
  | [], k, h => by cases h
  | x :: r, k, h => by
    unfold findN at h
    split at h
    · rename_i hp
      injection h with h; subst h
      exact ⟨by simp, by simpa using hp, fun j hj => by omega⟩
    · rename_i hp
      cases hr : findN p r with
      | none => rw [hr] at h; cases h
      | some m =>
        rw [hr] at h
        simp only [Option.map_some, Option.some.injEq] at h
        subst h
        obtain ⟨h1, h2, h3⟩ := findN_some hr
        refine ⟨by simpa using h1, by simpa using h2, fun j hj => ?_⟩
        cases j with
        | zero => simpa using hp
        | succ j => simpa using h3 j (by omega)
theorem findN_none {α : Type} {p : α → Bool} : ∀ {l : List α}, findN p l = none ↔ ∀ x ∈ l, p x = false
  | [] => by simp [findN]
  | x :: r => by
    unfold findN
    split
    · rename_i hp; simp [hp]
    · rename_i hp
      simp only [Option.map_eq_none_iff, findN_none (l := r), List.mem_cons, forall_eq_or_imp]
      simp [hp]
theorem findN_of {α : Type} {p : α → Bool} {l : List α} {k : Nat} (h : k < l.length) (h1 : p l[k] = true) (h2 : ∀ j (hj : j < k), p (l[j]'(by omega)) = false) : findN p l = some k := by
  cases e : findN p l with
  | none => rw [findN_none.1 e _ (List.getElem_mem h)] at h1; cases h1
  | some m =>
    obtain ⟨e1, e2, e3⟩ := findN_some e
    rcases Nat.lt_trichotomy m k with hm | hm | hm
    · rw [h2 m hm] at e2; cases e2
    · rw [hm]
    · rw [e3 k hm] at h1; cases h1
/-- A loop that looks for the first element. -/
theorem loop_find {α β ρ : Type} {f : β → Option (β ⊕ ρ)} {l : List α} {p : α → Bool} {st : Nat → β} {yes : Nat → ρ} {no : ρ} {fu : Nat}
    (hstep : ∀ k (h : k < l.length), f (st k) = some (bif p l[k] then .inr (yes k) else .inl (st (k + 1)))) (hend : f (st l.length) = some (.inr no)) (hf : l.length < fu) :
    loopM f fu (st 0) = some (match findN p l with | some k => yes k | none => no) := by
  cases e : findN p l with
  | none =>
    refine loop_st st (fun k hk => ?_) hend hf
    rw [hstep k hk, findN_none.1 e _ (List.getElem_mem hk)]; rfl
  | some m =>
    obtain ⟨e1, e2, e3⟩ := findN_some e
    refine loop_st st (m := m) (fun k hk => ?_) ?_ (by omega)
    · rw [hstep k (by omega), e3 k hk]; rfl
    · rw [hstep m e1, e2]; rfl
theorem fI_neg {o : Option Nat} : fI o < 0 ↔ o = none := by cases o <;> simp [fI]
end Go.AM.M

namespace Go.AM.M
open Go.AM
variable {fu : Nat}

theorem bind_some' {α β : Type} (a : α) (f : α → Option β) : (some a).bind f = f a := rfl

theorem equal_loop {f : List Int × (List Int × (Int × Int)) → Option ((List Int × (List Int × (Int × Int))) ⊕ Bool)} (hf : Fu fu) {a b : List Int} (ha : small a) (hl : a.length = b.length)
    (hd : ∀ x, f x = bif (decide (x.2.2.2 < x.2.2.1)) then ((nthI x.1 x.2.2.2)).bind fun y0 => ((nthI x.2.1 x.2.2.2)).bind fun y1 => bif (y0 != y1) then some (Sum.inr false) else some (Sum.inl (x.1, (x.2.1, (x.2.2.1, (w64 (x.2.2.2 + (1 : Int))))))) else some (Sum.inr true)) :
    loopM f fu (a, (b, ((a.length : Int), (0 : Int)))) = some (decide (a = b)) := by
  unfold Fu at hf
  unfold small at ha
  obtain ⟨r, h1, h2⟩ := loop_n (f := f) (n := a.length) (I := fun k x => x = (a, (b, ((a.length : Int), (k : Int)))) ∧ ∀ j, j < k → a[j]? = b[j]?) (R := fun r => r = decide (a = b))
    (fun k x hk ⟨e, hj⟩ => by
      subst e
      rw [hd]
      have hkb : k < b.length := by omega
      simp only [dlt, decide_eq_true hk, cond_true, nthI_get hk, nthI_get hkb, bind_some']
      by_cases e : a[k] = b[k]
      · left
        simp only [e, bne_self_eq_false, cond_false]
        rw [w64_succ hk ha]
        refine ⟨_, rfl, rfl, fun j hj' => ?_⟩
        rcases Nat.lt_or_ge j k with h | h
        · exact hj j h
        · have : j = k := by omega
          subst this
          rw [List.getElem?_eq_getElem hk, List.getElem?_eq_getElem hkb, e]
      · right
        have : (a[k] != b[k]) = true := by simpa using e
        simp only [this, cond_true]
        refine ⟨_, rfl, ?_⟩
        rw [eq_comm, decide_eq_false_iff_not]
        rintro rfl
        exact e rfl)
    (fun x ⟨e, hj⟩ => by
      subst e
      rw [hd]
      simp only [dlt, decide_eq_false (Nat.lt_irrefl a.length), cond_false]
      refine ⟨_, rfl, ?_⟩
      rw [eq_comm, decide_eq_true_iff]
      apply List.ext_getElem?
      intro i
      rcases Nat.lt_or_ge i a.length with h | h
      · exact hj i h
      · rw [List.getElem?_eq_none h, List.getElem?_eq_none (by omega)])
    fu 0 (a, (b, ((a.length : Int), (0 : Int)))) (by omega) (by omega) ⟨rfl, fun j hj => by omega⟩
  rw [h1, h2]

theorem len_ne {a b : List Int} : ((a.length : Int) != (b.length : Int)) = !decide (a.length = b.length) := by
  by_cases h : a.length = b.length
  · simp [h]
  · have : (a.length : Int) ≠ (b.length : Int) := by omega
    simp [h]; omega

theorem equal_eq (hf : Fu fu) {a b : List Int} (ha : small a) : slices_Equal_int fu (a, b) = some (decide (a = b)) := by
  unfold slices_Equal_int
  simp only [len_ne]
  by_cases h : a.length = b.length
  · simp only [h, decide_true, Bool.not_true, cond_false]
    rw [← h]
    exact equal_loop hf ha h (fun x => rfl)
  · simp only [h, decide_false, Bool.not_false, cond_true]
    rw [decide_eq_false]; rintro rfl; exact h rfl
theorem units_eq (hf : Fu fu) {a b : List Int} (ha : small a) : lontarlaw01_Units fu (a, b) = some (decide (a = b)) := by
  unfold lontarlaw01_Units
  simp only [len_ne]
  by_cases h : a.length = b.length
  · simp only [h, decide_true, Bool.not_true, cond_false]
    rw [← h]
    exact equal_loop hf ha h (fun x => rfl)
  · simp only [h, decide_false, Bool.not_false, cond_true]
    rw [decide_eq_false]; rintro rfl; exact h rfl

abbrev Rule := List Int × List Int
abbrev Tok := Int × (Int × (List Int × Int))
/-- The first rule of some units. -/
def fnd (rs : List Rule) (x : List Int) : Int := fI (findN (fun r => decide (r.1 = x)) rs)
theorem fnd_neg {rs : List Rule} {x : List Int} : fnd rs x < 0 ↔ ∀ r ∈ rs, r.1 ≠ x := by
  unfold fnd
  rw [fI_neg, findN_none]
  simp
def ins (rs : List Rule) : Prop := ∀ r ∈ rs, small r.1
theorem find_eq (hf : Fu fu) {rs : List Rule} {x : List Int} (hs : small rs) (hi : ins rs) : rule_Find fu (rs, x) = some (fnd rs x) := by
  unfold rule_Find slices_IndexFunc_api_Rule_find fnd
  have := loop_find (f := slices_IndexFunc_api_Rule_find_L0 fu) (l := rs) (p := fun r => decide (r.1 = x)) (st := fun k => (rs, (x, ((rs.length : Int), (k : Int))))) (yes := fun k => (k : Int)) (no := -1) (fu := fu)
    (fun k h => by
      unfold slices_IndexFunc_api_Rule_find_L0 rule_Find_1
      simp only [dlt, decide_eq_true h, cond_true, nthI_get h, bind_some', equal_eq hf (hi _ (List.getElem_mem h)), w64_succ h hs]
      cases decide (rs[k].1 = x) <;> rfl)
    (by
      unfold slices_IndexFunc_api_Rule_find_L0
      simp only [dlt, decide_eq_false (Nat.lt_irrefl rs.length), cond_false])
    (by unfold Fu at hf; unfold small at hs; omega)
  simp only [Int.ofNat_zero] at this
  simp only
  rw [show ((0 : Int)) = ((0 : Nat) : Int) from rfl] at *
  rw [this]
  simp only [bind_some']
  cases findN (fun r => decide (r.1 = x)) rs <;> rfl
theorem find3_eq (hf : Fu fu) {rs : List Rule} {x : List Int} (hs : small rs) (hi : ins rs) : lontarlaw03_find fu (rs, x) = some (fnd rs x) := by
  unfold lontarlaw03_find fnd
  have := loop_find (f := lontarlaw03_find_L0 fu) (l := rs) (p := fun r => decide (r.1 = x)) (st := fun k => (rs, (x, (rs, ((rs.length : Int), (k : Int)))))) (yes := fun k => (k : Int)) (no := -1) (fu := fu)
    (fun k h => by
      unfold lontarlaw03_find_L0
      simp only [dlt, decide_eq_true h, cond_true, nthI_get h, bind_some', units_eq hf (hi _ (List.getElem_mem h)), w64_succ h hs]
      cases decide (rs[k].1 = x) <;> rfl)
    (by
      unfold lontarlaw03_find_L0
      simp only [dlt, decide_eq_false (Nat.lt_irrefl rs.length), cond_false])
    (by unfold Fu at hf; unfold small at hs; omega)
  simp only [Int.ofNat_zero] at this
  simp only
  rw [show ((0 : Int)) = ((0 : Nat) : Int) from rfl] at *
  rw [this]
  cases findN (fun r => decide (r.1 = x)) rs <;> rfl

/-- A rule's side that may be. -/
def okU (u : Int) : Bool := decide (0 ≤ u) && decide (u ≤ 1114111)
def sideB (us : List Int) : Bool := decide (0 < us.length) && (decide (us.length ≤ 8) && us.all okU)
theorem side_eq (hf : Fu fu) {us : List Int} : rule_side fu us = some (sideB us) := by
  unfold rule_side sideB
  have h0 : decide (((us.length : Nat) : Int) > 0) = decide (0 < us.length) := by simp
  have h8 : decide (((us.length : Nat) : Int) ≤ 8) = decide (us.length ≤ 8) := by
    rw [decide_eq_decide]; omega
  rw [h0, h8]
  by_cases e0 : 0 < us.length
  · by_cases e8 : us.length ≤ 8
    · simp only [e0, e8, decide_true, cond_true, Bool.true_and]
      unfold slices_ContainsFunc_int_side slices_IndexFunc_int_side
      have := loop_find (f := slices_IndexFunc_int_side_L0 fu) (l := us) (p := fun u => !okU u) (st := fun k => (us, ((us.length : Int), (k : Int)))) (yes := fun k => (k : Int)) (no := -1) (fu := fu)
        (fun k h => by
          unfold slices_IndexFunc_int_side_L0 rule_side_1
          simp only [dlt, decide_eq_true h, cond_true, nthI_get h, bind_some']
          rw [w64_succ (n := us.length) h (by omega)]
          unfold okU
          by_cases h1 : us[k] < 0
          · have : ¬ (0 ≤ us[k]) := by omega
            simp [h1, this]
          · have h1' : 0 ≤ us[k] := by omega
            by_cases h2 : us[k] > 1114111
            · have : ¬ (us[k] ≤ 1114111) := by omega
              simp [h1, h1', h2, this]
            · have : us[k] ≤ 1114111 := by omega
              simp [h1, h1', h2, this])
        (by
          unfold slices_IndexFunc_int_side_L0
          simp only [dlt, decide_eq_false (Nat.lt_irrefl us.length), cond_false])
        (by unfold Fu at hf; omega)
      simp only [Int.ofNat_zero] at this
      rw [show ((0 : Int)) = ((0 : Nat) : Int) from rfl] at *
      rw [this]
      simp only [bind_some']
      cases e : findN (fun u => !okU u) us with
      | none =>
        have := findN_none.1 e
        have : us.all okU = true := List.all_eq_true.2 fun x hx => by simpa using this x hx
        simp [this]
      | some k =>
        obtain ⟨hk, h1, _⟩ := findN_some e
        have : us.all okU = false := by
          rw [List.all_eq_false]
          exact ⟨_, List.getElem_mem hk, by simpa using h1⟩
        simp [this]
    · simp [e0, e8]
  · simp [e0]
theorem may_eq (hf : Fu fu) {us : List Int} (hs : small us) : lontarlaw03_may fu us = some (sideB us) := by
  unfold lontarlaw03_may sideB
  have := loop_find (f := lontarlaw03_may_L0 fu) (l := us) (p := fun u => !okU u) (st := fun k => (us, (us, ((us.length : Int), (k : Int))))) (yes := fun k => false) (no := decide (0 < us.length) && decide (us.length ≤ 8)) (fu := fu)
    (fun k h => by
      unfold lontarlaw03_may_L0
      simp only [dlt, decide_eq_true h, cond_true, nthI_get h, bind_some']
      rw [w64_succ (n := us.length) h hs]
      unfold okU
      by_cases h1 : us[k] < 0
      · have : ¬ (0 ≤ us[k]) := by omega
        simp [h1, this]
      · have h1' : 0 ≤ us[k] := by omega
        by_cases h2 : us[k] > 1114111
        · have : ¬ (us[k] ≤ 1114111) := by omega
          simp [h1, h1', h2, this]
        · have : us[k] ≤ 1114111 := by omega
          simp [h1, h1', h2, this])
    (by
      unfold lontarlaw03_may_L0
      have h0 : decide (((us.length : Nat) : Int) > 0) = decide (0 < us.length) := by simp
      have h8 : decide (((us.length : Nat) : Int) < 9) = decide (us.length ≤ 8) := by
        rw [decide_eq_decide]; omega
      simp only [dlt, decide_eq_false (Nat.lt_irrefl us.length), cond_false, h0, h8]
      cases decide (0 < us.length) <;> rfl)
    (by unfold Fu at hf; unfold small at hs; omega)
  simp only [Int.ofNat_zero] at this
  rw [show ((0 : Int)) = ((0 : Nat) : Int) from rfl] at *
  rw [this]
  cases e : findN (fun u => !okU u) us with
  | none =>
    have := findN_none.1 e
    have : us.all okU = true := List.all_eq_true.2 fun x hx => by simpa using this x hx
    simp [this]
  | some k =>
    obtain ⟨hk, h1, _⟩ := findN_some e
    have : us.all okU = false := by
      rw [List.all_eq_false]
      exact ⟨_, List.getElem_mem hk, by simpa using h1⟩
    simp [this]
end Go.AM.M

namespace Go.AM.M
open Go.AM
variable {fu : Nat}

structure Sides (rs : List Rule) : Prop where
  len : rs.length ≤ 512
  side : ∀ r ∈ rs, sideB r.1 = true ∧ sideB r.2 = true
structure Right (rs : List Rule) : Prop extends Sides rs where
  diff : rs.Pairwise fun a b => a.1 ≠ b.1
theorem sideB_len {us : List Int} (h : sideB us = true) : 0 < us.length ∧ us.length ≤ 8 := by
  simp only [sideB, Bool.and_eq_true, decide_eq_true_eq] at h
  exact ⟨h.1, h.2.1⟩
theorem sideB_u {us : List Int} (h : sideB us = true) : ∀ u ∈ us, 0 ≤ u ∧ u ≤ 1114111 := by
  simp only [sideB, Bool.and_eq_true, decide_eq_true_eq, List.all_eq_true] at h
  intro u hu
  have := h.2.2 u hu
  simpa [okU] using this
theorem Sides.ins {rs : List Rule} (h : Sides rs) : ins rs := fun r hr => by have := sideB_len (h.side r hr).1; unfold small; omega
theorem small_512 {α : Type} {l : List α} (h : l.length ≤ 512) : small l := by unfold small; omega
theorem fnd_take {rs : List Rule} (h : rs.Pairwise fun a b => a.1 ≠ b.1) {k : Nat} (hk : k < rs.length) : fnd (rs.take k) rs[k].1 < 0 := by
  rw [fnd_neg]
  intro r hr
  obtain ⟨j, hj, e⟩ := List.getElem_of_mem hr
  have hj' : j < k := by simp at hj; omega
  have := List.pairwise_iff_getElem.1 h j k (by omega) hk hj'
  rw [← e]; simpa using this

theorem check_eq (hf : Fu fu) {rs : List Rule} (h : Right rs) : rule_Check fu rs = some (-1, 0) := by
  unfold rule_Check
  refine loop_st (fun k => (rs, (rs, ((rs.length : Int), (k : Int))))) (m := rs.length) (fun k hk => ?_) ?_ (by have := h.len; unfold Fu at hf; omega)
  · unfold rule_Check_L0
    have hs := h.side _ (List.getElem_mem hk)
    have h512 : decide ((k : Int) ≥ 512) = false := by rw [decide_eq_false_iff_not]; have := h.len; omega
    simp only [dlt, decide_eq_true hk, cond_true, nthI_get hk, bind_some', h512, cond_false, side_eq hf, hs.1, hs.2, Bool.not_true, sliceI_to (Nat.le_of_lt hk)]
    rw [find_eq hf (by unfold small; have := h.len; simp; omega) (fun r hr => h.ins r (List.mem_of_mem_take hr)), bind_some', decide_eq_false (by have := fnd_take h.diff hk; omega), cond_false, w64_succ hk (by have := h.len; omega)]
  · unfold rule_Check_L0
    simp only [dlt, decide_eq_false (Nat.lt_irrefl rs.length), cond_false]

/-! ### Rules by numbers -/
theorem units03_eq (hf : Fu fu) {l : List Int} {first : Int} (hl : small l) : ∃ us, lontarlaw03_units fu (l, first) = some us ∧ us.length ≤ 5 := by
  unfold lontarlaw03_units
  simp only
  have hm : ∃ m : Nat, (if (4 : Int) < (l.length : Int) then (4 : Int) else (l.length : Int)) = (m : Int) ∧ m ≤ 4 ∧ m ≤ l.length := by
    split
    · exact ⟨4, rfl, by omega, by omega⟩
    · exact ⟨l.length, rfl, by omega, by omega⟩
  obtain ⟨m, hm, h4, hml⟩ := hm
  rw [hm, sliceI_to hml, bind_some']
  have hlen : (l.take m).length = m := by simp; omega
  rw [hlen]
  refine loop_n (n := m) (I := fun k x => ∃ out, x = (first, (out, (l.take m, ((m : Int), (k : Int))))) ∧ out.length = k) (R := fun us : List Int => us.length ≤ 5) ?_ ?_ fu 0 _ (by omega) (by unfold Fu at hf; omega) ⟨[], rfl, rfl⟩
  · rintro k x hk ⟨out, rfl, ho⟩
    left
    unfold lontarlaw03_units_L0
    have hkl : k < (l.take m).length := by omega
    simp only [dlt, decide_eq_true hk, cond_true, nthI_get hkl, bind_some']
    rw [decide_eq_true (by simp [ho]; omega), cond_true, w64_succ hk (by omega)]
    exact ⟨_, rfl, _, rfl, by simp [ho]⟩
  · rintro x ⟨out, rfl, ho⟩
    unfold lontarlaw03_units_L0
    simp only [dlt, decide_eq_false (Nat.lt_irrefl m), cond_false]
    rw [decide_eq_true (by simp [ho]; omega), cond_true]
    have hm2 : ∃ j : Nat, (if (out.length : Int) > 1 then (out.length : Int) else 1) = (j : Int) ∧ j ≤ 4 ∧ j ≤ (out ++ [first]).length := by
      split
      · exact ⟨out.length, rfl, by omega, by simp⟩
      · exact ⟨1, rfl, by omega, by simp⟩
    obtain ⟨j, hj, hj4, hjl⟩ := hm2
    rw [hj, sliceI_to hjl, bind_some']
    exact ⟨_, rfl, by simp; omega⟩

abbrev Row := List Int × (List Int × (Bool × (List Int × List Int)))
def okRow (r : Row) : Prop := small r.1 ∧ small r.2.1 ∧ small r.2.2.2.1 ∧ small r.2.2.2.2
theorem rules03_eq (hf : Fu fu) {rows : List Row} (hr : ∀ r ∈ rows, okRow r) : ∃ rs, lontarlaw03_Rules fu rows = some rs ∧ rs.length ≤ 40 ∧ ∀ r ∈ rs, small r.1 ∧ small r.2 := by
  unfold lontarlaw03_Rules
  have hm : ∃ m : Nat, (if (40 : Int) < (rows.length : Int) then (40 : Int) else (rows.length : Int)) = (m : Int) ∧ m ≤ 40 ∧ m ≤ rows.length := by
    split
    · exact ⟨40, rfl, by omega, by omega⟩
    · exact ⟨rows.length, rfl, by omega, by omega⟩
  obtain ⟨m, hm, h4, hml⟩ := hm
  rw [hm, sliceI_to hml, bind_some']
  have hlen : (rows.take m).length = m := by simp; omega
  rw [hlen]
  refine loop_n (n := m) (I := fun k x => ∃ out : List Rule, x = (out, (rows.take m, ((m : Int), (k : Int)))) ∧ out.length = k ∧ ∀ r ∈ out, small r.1 ∧ small r.2) (R := fun rs : List Rule => rs.length ≤ 40 ∧ ∀ r ∈ rs, small r.1 ∧ small r.2) ?_ ?_ fu 0 _ (by omega) (by unfold Fu at hf; omega) ⟨[], rfl, rfl, by simp⟩
  · rintro k x hk ⟨out, rfl, ho, hs⟩
    left
    unfold lontarlaw03_Rules_L0
    have hkl : k < (rows.take m).length := by omega
    have hrow := hr _ (List.mem_of_mem_take (List.getElem_mem hkl))
    obtain ⟨u1, e1, l1⟩ := units03_eq hf (first := 97) hrow.1
    obtain ⟨u2, e2, l2⟩ := units03_eq hf (first := 97) hrow.2.1
    simp only [dlt, decide_eq_true hk, cond_true, nthI_get hkl, bind_some', e1, e2]
    rw [decide_eq_true (by simp [ho]; omega), decide_eq_true (by simp [ho]; omega), cond_true, cond_true, w64_succ hk (by omega)]
    cases (rows.take m)[k].2.2.1 with
    | true => exact ⟨_, rfl, _, rfl, by simp [ho], by
        intro r hr
        rw [List.mem_append] at hr
        rcases hr with hr | hr
        · exact hs r hr
        · simp only [List.mem_singleton] at hr
          subst hr
          exact hrow.2.2⟩
    | false => exact ⟨_, rfl, _, rfl, by simp [ho], by
        intro r hr
        rw [List.mem_append] at hr
        rcases hr with hr | hr
        · exact hs r hr
        · simp only [List.mem_singleton] at hr
          subst hr
          exact ⟨by unfold small; simp only; omega, by unfold small; simp only; omega⟩⟩
  · rintro x ⟨out, rfl, ho, hs⟩
    unfold lontarlaw03_Rules_L0
    simp only [dlt, decide_eq_false (Nat.lt_irrefl m), cond_false]
    exact ⟨_, rfl, by omega, hs⟩

theorem right_snoc {out : List Rule} {r : Rule} (hd : out.Pairwise fun a b => a.1 ≠ b.1) (hs : ∀ r ∈ out, sideB r.1 = true ∧ sideB r.2 = true) (h1 : sideB r.1 = true) (h2 : sideB r.2 = true) (hn : fnd out r.1 < 0) :
    ((out ++ [r]).Pairwise fun a b => a.1 ≠ b.1) ∧ ∀ x ∈ out ++ [r], sideB x.1 = true ∧ sideB x.2 = true := by
  refine ⟨?_, ?_⟩
  · rw [List.pairwise_append]
    refine ⟨hd, by simp, fun a ha b hb => ?_⟩
    simp only [List.mem_singleton] at hb
    subst hb
    exact fnd_neg.1 hn a ha
  · intro x hx
    rw [List.mem_append] at hx
    rcases hx with hx | hx
    · exact hs x hx
    · simp only [List.mem_singleton] at hx
      subst hx; exact ⟨h1, h2⟩
theorem right03_eq (hf : Fu fu) {rows : List Row} (hr : ∀ r ∈ rows, okRow r) : ∃ rs, lontarlaw03_Right fu rows = some rs ∧ rs.length ≤ 40 ∧ Right rs := by
  unfold lontarlaw03_Right
  obtain ⟨rs0, e0, h0, hsm⟩ := rules03_eq hf hr
  rw [e0, bind_some']
  obtain ⟨rs, e, hl, hR⟩ := loop_n (f := lontarlaw03_Right_L0 fu) (n := rs0.length) (I := fun k x => ∃ out : List Rule, x = (out, (rs0, ((rs0.length : Int), (k : Int)))) ∧ out.length ≤ k ∧ (out.Pairwise fun a b => a.1 ≠ b.1) ∧ ∀ r ∈ out, sideB r.1 = true ∧ sideB r.2 = true)
    (R := fun rs : List Rule => rs.length ≤ 40 ∧ Right rs)
    (by
      rintro k x hk ⟨out, rfl, ho, hd, hs⟩
      left
      unfold lontarlaw03_Right_L0
      have hin := hsm _ (List.getElem_mem hk)
      simp only [dlt, decide_eq_true hk, cond_true, nthI_get hk, bind_some', Int.toNat_natCast, List.getElem?_eq_getElem hk, may_eq hf hin.1, may_eq hf hin.2]
      have hskip : ∃ a', some (Sum.inl (out, (rs0, ((rs0.length : Int), (w64 ((k : Int) + 1))))) : (List Rule × (List Rule × (Int × Int))) ⊕ List Rule) = some (.inl a') ∧
          ∃ out' : List Rule, a' = (out', (rs0, ((rs0.length : Int), ((k + 1 : Nat) : Int)))) ∧ out'.length ≤ k + 1 ∧ (out'.Pairwise fun a b => a.1 ≠ b.1) ∧ ∀ r ∈ out', sideB r.1 = true ∧ sideB r.2 = true := by
        rw [w64_succ hk (by omega)]
        exact ⟨_, rfl, out, rfl, by omega, hd, hs⟩
      cases e1 : sideB rs0[k].1 with
      | false => simp only [cond_false]; exact hskip
      | true =>
        cases e2 : sideB rs0[k].2 with
        | false => simp only [cond_true, cond_false]; exact hskip
        | true =>
          simp only [cond_true]
          rw [find3_eq hf (by unfold small; omega) (fun r hr => by have := sideB_len (hs r hr).1; unfold small; omega), bind_some']
          by_cases hn : fnd out rs0[k].1 < 0
          · rw [decide_eq_true hn, cond_true, decide_eq_true (by simp; omega), cond_true, w64_succ hk (by omega)]
            obtain ⟨h1, h2⟩ := right_snoc hd hs e1 e2 hn
            exact ⟨_, rfl, out ++ [(rs0[k].1, rs0[k].2)], rfl, by simp; omega, h1, h2⟩
          · rw [decide_eq_false hn, cond_false]; exact hskip)
    (by
      rintro x ⟨out, rfl, ho, hd, hs⟩
      unfold lontarlaw03_Right_L0
      simp only [dlt, decide_eq_false (Nat.lt_irrefl rs0.length), cond_false]
      exact ⟨_, rfl, by omega, ⟨⟨by omega, hs⟩, hd⟩⟩) fu 0 (([] : List Rule), (rs0, ((rs0.length : Int), (0 : Int)))) (by omega) (by unfold Fu at hf; omega) ⟨[], rfl, by simp, by simp, by simp⟩
  exact ⟨rs, e, hl, hR⟩
end Go.AM.M

namespace Go.AM.M
open Go.AM
variable {fu : Nat}

/-- Is a unit the last one of some In? -/
def usedB (rs : List Rule) (u : Int) : Bool := rs.any fun x => decide (x.1.getLast? = some u)
def okN (rs : List Rule) (r : List Int) (n : Nat) : Bool := rs.any (fun x => decide (x.1 = r.take n)) || (decide (n = 1) && !(usedB rs (r.headD 0)))
def closedP (rs : List Rule) : Prop := ∀ r ∈ rs, ∀ n, 1 ≤ n → n < r.1.length → okN rs r.1 n = true

theorem last_eq {l : List Int} (h : 0 < l.length) : nthI l (w64 ((l.length : Int) - 1)) = l.getLast? ∨ 9223372036854775808 ≤ l.length := by
  rcases Nat.lt_or_ge l.length 9223372036854775808 with hs | hs
  · left
    rw [w64_id (by omega) (by omega), show ((l.length : Int) - 1) = ((l.length - 1 : Nat) : Int) by omega, nthI_nat, List.getLast?_eq_getElem?]
  · exact .inr hs
theorem last_side {l : List Int} (h : sideB l = true) : ∃ u, nthI l (w64 ((l.length : Int) - 1)) = some u ∧ l.getLast? = some u := by
  have hl := sideB_len h
  rcases last_eq (l := l) hl.1 with e | e
  · cases hg : l.getLast? with
    | none => rw [List.getLast?_eq_none_iff] at hg; subst hg; simp at hl
    | some u => exact ⟨u, by rw [e, hg], rfl⟩
  · omega

/-! ### The law's own words -/
theorem closed15_in (hf : Fu fu) {rs : List Rule} (hS : Sides rs) {r : List Int} (hr : sideB r = true) {n : Nat} (hn : n < r.length) (c : List Rule) (m i : Int) (o2 : List Int) :
    loopM (lontarlaw15_Closed_L0 fu) fu (rs, ((n : Int), (false, (false, (c, (m, (i, (rs, ((rs.length : Int), ((0 : Int), (r, o2))))))))))) =
      some (bif rs.any (fun x => decide (x.1 = r.take n)) then .inl (rs, (((n + 1 : Nat) : Int), (c, (m, (i, (r, o2)))))) else bif (decide (1 < n) || usedB rs (r.headD 0)) then .inr (.inr false) else .inl (rs, (((n + 1 : Nat) : Int), (c, (m, (i, (r, o2))))))) := by
  have h512 := hS.len
  have hr8 := sideB_len hr
  obtain ⟨v, h1, h2⟩ := loop_n (f := lontarlaw15_Closed_L0 fu) (n := rs.length)
    (I := fun k x => x = (rs, ((n : Int), ((rs.take k).any (fun x => decide (x.1 = r.take n)), ((rs.take k).any (fun x => decide (x.1.getLast? = some (r.headD 0))), (c, (m, (i, (rs, ((rs.length : Int), ((k : Int), (r, o2))))))))))))
    (R := fun v => v = (bif rs.any (fun x => decide (x.1 = r.take n)) then .inl (rs, (((n + 1 : Nat) : Int), (c, (m, (i, (r, o2)))))) else bif (decide (1 < n) || usedB rs (r.headD 0)) then .inr (.inr false) else .inl (rs, (((n + 1 : Nat) : Int), (c, (m, (i, (r, o2))))))))
    (by
      rintro k x hk rfl
      left
      unfold lontarlaw15_Closed_L0
      have hs := (hS.side _ (List.getElem_mem hk)).1
      have hl := sideB_len hs
      obtain ⟨u, hu1, hu2⟩ := last_side hs
      have h0 : nthI r (0 : Int) = some (r.headD 0) := by
        cases r with
        | nil => simp at hr8
        | cons a t => rfl
      have hany : ∀ p : Rule → Bool, (rs.take (k + 1)).any p = ((rs.take k).any p || p rs[k]) := fun p => by
        rw [List.take_succ_eq_append_getElem hk, List.any_append]; simp
      have heq : (u == r.headD 0) = decide (rs[k].1.getLast? = some (r.headD 0)) := by
        rw [hu2]
        by_cases e : u = r.headD 0
        · rw [← e]; simp
        · rw [decide_eq_false (by simpa using e)]; simpa using e
      simp only [dlt, decide_eq_true hk, cond_true, nthI_get hk, bind_some', hu1, h0, sliceI_to (Nat.le_of_lt hn), units_eq hf (by unfold small; omega : small rs[k].1), w64_succ hk (by omega), hany, heq]
      cases (rs.take k).any (fun x => decide (x.1 = r.take n)) <;> cases (rs.take k).any (fun x => decide (x.1.getLast? = some (r.headD 0))) <;> simp only [cond_true, cond_false, Bool.true_or, Bool.false_or] <;> exact ⟨_, rfl, rfl⟩)
    (by
      rintro x rfl
      unfold lontarlaw15_Closed_L0
      simp only [dlt, decide_eq_false (Nat.lt_irrefl rs.length), cond_false, List.take_length]
      have e1 : decide ((n : Int) > 1) = decide (1 < n) := by rw [decide_eq_decide]; omega
      rw [e1, w64_succ hn (by omega)]
      show ∃ v, _ ∧ _
      unfold usedB
      cases rs.any (fun x => decide (x.1 = r.take n)) <;> cases rs.any (fun x => decide (x.1.getLast? = some (r.headD 0))) <;> cases decide (1 < n) <;> exact ⟨_, rfl, rfl⟩)
    fu 0 (rs, ((n : Int), (false, (false, (c, (m, (i, (rs, ((rs.length : Int), ((0 : Int), (r, o2)))))))))))  (by omega) (by unfold Fu at hf; omega) (by simp)
  rw [h1, h2]

theorem okN_false {rs : List Rule} {r : List Int} {n : Nat} (h1 : 1 ≤ n) : okN rs r n = (rs.any (fun x => decide (x.1 = r.take n)) || !(decide (1 < n) || usedB rs (r.headD 0))) := by
  unfold okN
  by_cases h : n = 1
  · subst h; simp
  · have : 1 < n := by omega
    simp [h, this]

/-- The rules that the law asks: a true answer tells that they are closed. -/
theorem closed15_eq (hf : Fu fu) {rs : List Rule} (hS : Sides rs) : ∃ b, lontarlaw15_Closed fu rs = some b ∧ (b = true → closedP rs) := by
  unfold lontarlaw15_Closed
  have h512 := hS.len
  obtain ⟨v, h1, h2⟩ := loop_n (f := lontarlaw15_Closed_L2 fu) (n := rs.length) (I := fun k x => x = (rs, (rs, ((rs.length : Int), (k : Int)))) ∧ ∀ j (hj : j < rs.length), j < k → ∀ n, 1 ≤ n → n < rs[j].1.length → okN rs rs[j].1 n = true)
    (R := fun b => b = true → closedP rs)
    (by
      rintro k x hk ⟨rfl, hI⟩
      unfold lontarlaw15_Closed_L2
      have hs := (hS.side _ (List.getElem_mem hk)).1
      have hl := sideB_len hs
      simp only [dlt, decide_eq_true hk, cond_true, nthI_get hk, bind_some']
      obtain ⟨v, h1, h2⟩ := loop_n (f := lontarlaw15_Closed_L1 fu) (n := rs[k].1.length - 1) (I := fun j x => (x = (rs, (((j + 1 : Nat) : Int), (rs, ((rs.length : Int), ((k : Int), (rs[k].1, rs[k].2)))))) ∧ ∀ m, 1 ≤ m → m ≤ j → okN rs rs[k].1 m = true))
        (R := fun v => (v = .inr false) ∨ (v = .inl (rs, (rs, ((rs.length : Int), ((k + 1 : Nat) : Int)))) ∧ ∀ m, 1 ≤ m → m < rs[k].1.length → okN rs rs[k].1 m = true))
        (by
          rintro j x hj ⟨rfl, hJ⟩
          unfold lontarlaw15_Closed_L1
          have hml : j + 1 < rs[k].1.length := by omega
          simp only [dlt, decide_eq_true hml, cond_true]
          rw [closed15_in hf hS hs hml]
          have hok := okN_false (rs := rs) (r := rs[k].1) (n := j + 1) (by omega)
          have hnext : ∀ h : okN rs rs[k].1 (j + 1) = true, ∀ m, 1 ≤ m → m ≤ j + 1 → okN rs rs[k].1 m = true := fun h m h1 h2 => by
            rcases Nat.lt_or_ge m (j + 1) with h3 | h3
            · exact hJ m h1 (by omega)
            · have : m = j + 1 := by omega
              rw [this]; exact h
          cases e1 : rs.any (fun x => decide (x.1 = rs[k].1.take (j + 1))) with
          | true =>
            rw [e1, Bool.true_or] at hok
            left
            exact ⟨_, rfl, rfl, hnext hok⟩
          | false =>
            rw [e1, Bool.false_or] at hok
            cases e2 : (decide (1 < j + 1) || usedB rs (rs[k].1.headD 0)) with
            | true => right; exact ⟨_, rfl, .inl rfl⟩
            | false =>
              rw [e2, Bool.not_false] at hok
              left
              exact ⟨_, rfl, rfl, hnext hok⟩)
        (by
          rintro x ⟨rfl, hJ⟩
          unfold lontarlaw15_Closed_L1
          have e : rs[k].1.length - 1 + 1 = rs[k].1.length := by omega
          rw [e]
          simp only [dlt, decide_eq_false (Nat.lt_irrefl rs[k].1.length), cond_false, w64_succ hk (show rs.length < 9223372036854775808 by omega)]
          exact ⟨_, rfl, .inr ⟨rfl, fun m h1 h2 => hJ m h1 (by omega)⟩⟩) fu 0 _ (by omega) (by unfold Fu at hf; omega) ⟨rfl, fun m h1 h2 => by omega⟩
      rcases h2 with rfl | ⟨rfl, h2⟩
      · right
        exact ⟨false, h1, fun h => by cases h⟩
      · left
        refine ⟨_, h1, rfl, fun j hj hjk n hn1 hn2 => ?_⟩
        rcases Nat.lt_or_ge j k with h3 | h3
        · exact hI j hj h3 n hn1 hn2
        · have : j = k := by omega
          subst this
          exact h2 n hn1 hn2)
    (by
      rintro x ⟨rfl, hI⟩
      unfold lontarlaw15_Closed_L2
      simp only [dlt, decide_eq_false (Nat.lt_irrefl rs.length), cond_false]
      exact ⟨_, rfl, fun _ r hr n h1 h2 => by
        obtain ⟨j, hj, e⟩ := List.getElem_of_mem hr
        subst e
        exact hI j hj hj n h1 h2⟩) fu 0 (rs, (rs, ((rs.length : Int), (0 : Int)))) (by omega) (by unfold Fu at hf; omega) ⟨rfl, fun j hj h => by omega⟩
  exact ⟨v, h1, h2⟩

theorem closedP_nil : closedP [] := fun r hr => by cases hr
/-- Rules by numbers are right, few, and closed. -/
theorem rules15_eq (hf : Fu fu) {rows : List Row} (hr : ∀ r ∈ rows, okRow r) : ∃ rs, lontarlaw15_Rules fu rows = some rs ∧ rs.length ≤ 40 ∧ Right rs ∧ closedP rs := by
  unfold lontarlaw15_Rules
  obtain ⟨rs0, e0, h0, hR⟩ := right03_eq hf hr
  rw [e0, bind_some']
  obtain ⟨v, h1, h2⟩ := loop_n (f := lontarlaw15_Rules_L0 fu) (n := rs0.length) (I := fun k x => ∃ out : List Rule, x = (out, (rs0, ((rs0.length : Int), (k : Int)))) ∧ out.Sublist (rs0.take k) ∧ closedP out)
    (R := fun rs => rs.length ≤ 40 ∧ Right rs ∧ closedP rs)
    (by
      rintro k x hk ⟨out, rfl, ho, hc⟩
      left
      unfold lontarlaw15_Rules_L0
      have hlen : out.length ≤ k := by have := ho.length_le; simp at this; omega
      have hsub : (out ++ [rs0[k]]).Sublist (rs0.take (k + 1)) := by
        rw [List.take_succ_eq_append_getElem hk]
        exact ho.append (List.Sublist.refl _)
      have hS : Sides (out ++ [rs0[k]]) := ⟨by simp; omega, fun r hr => hR.side r (List.mem_of_mem_take (hsub.subset hr))⟩
      obtain ⟨b, hb1, hb2⟩ := closed15_eq hf hS
      have heta : ((rs0[k].1, rs0[k].2) : Rule) = rs0[k] := rfl
      simp only [dlt, decide_eq_true hk, cond_true, nthI_get hk, bind_some', Int.toNat_natCast, List.getElem?_eq_getElem hk, heta, hb1]
      rw [decide_eq_true (by omega), decide_eq_true (by simp; omega), cond_true, cond_true, w64_succ hk (by omega)]
      cases b with
      | true => simp only [cond_true]; exact ⟨_, rfl, _, rfl, hsub, hb2 rfl⟩
      | false =>
        simp only [cond_false]
        exact ⟨_, rfl, out, rfl, ho.trans (by rw [List.take_succ_eq_append_getElem hk]; exact List.sublist_append_left _ _), hc⟩)
    (by
      rintro x ⟨out, rfl, ho, hc⟩
      unfold lontarlaw15_Rules_L0
      simp only [dlt, decide_eq_false (Nat.lt_irrefl rs0.length), cond_false]
      rw [List.take_length] at ho
      exact ⟨_, rfl, by have := ho.length_le; omega, ⟨⟨by have := ho.length_le; omega, fun r hr => hR.side r (ho.subset hr)⟩, hR.diff.sublist ho⟩, hc⟩)
    fu 0 (([] : List Rule), (rs0, ((rs0.length : Int), (0 : Int)))) (by omega) (by unfold Fu at hf; omega) ⟨[], rfl, by simp, closedP_nil⟩
  exact ⟨v, h1, h2⟩
end Go.AM.M

namespace Go.AM.M
open Go.AM
variable {fu : Nat}

def turnS (out : List Rule) (r : Rule) : List Rule := if fnd out r.2 < 0 then out ++ [(r.2, r.1)] else out
def turn (rs : List Rule) : List Rule := rs.foldl turnS []
theorem turn_snoc (rs : List Rule) (r : Rule) : turn (rs ++ [r]) = turnS (turn rs) r := by simp [turn]
theorem turn_mem {rs : List Rule} : ∀ t ∈ turn rs, (t.2, t.1) ∈ rs := by
  induction rs using snocInd with
  | nil => intro t h; simp [turn] at h
  | snoc rs r ih =>
    intro t h
    rw [turn_snoc] at h
    unfold turnS at h
    split at h
    · rw [List.mem_append] at h
      rcases h with h | h
      · exact List.mem_append_left _ (ih t h)
      · simp only [List.mem_singleton] at h
        subst h
        simp
    · exact List.mem_append_left _ (ih t h)
theorem turn_len (rs : List Rule) : (turn rs).length ≤ rs.length := by
  induction rs using snocInd with
  | nil => simp [turn]
  | snoc rs r ih =>
    rw [turn_snoc]
    unfold turnS
    split <;> simp <;> omega
theorem turn_diff (rs : List Rule) : (turn rs).Pairwise fun a b => a.1 ≠ b.1 := by
  induction rs using snocInd with
  | nil => simp [turn]
  | snoc rs r ih =>
    rw [turn_snoc]
    unfold turnS
    split
    · rename_i h
      rw [List.pairwise_append]
      refine ⟨ih, by simp, fun a ha b hb => ?_⟩
      simp only [List.mem_singleton] at hb
      subst hb
      exact fnd_neg.1 h a ha
    · exact ih
theorem turn_has {rs : List Rule} : ∀ r ∈ rs, ∃ t ∈ turn rs, t.1 = r.2 := by
  induction rs using snocInd with
  | nil => intro r h; cases h
  | snoc rs r ih =>
    intro x hx
    rw [turn_snoc]
    have key : ∀ t ∈ turn rs, t ∈ turnS (turn rs) r := fun t ht => by
      unfold turnS
      split
      · exact List.mem_append_left _ ht
      · exact ht
    rw [List.mem_append] at hx
    rcases hx with hx | hx
    · obtain ⟨t, h1, h2⟩ := ih x hx
      exact ⟨t, key t h1, h2⟩
    · simp only [List.mem_singleton] at hx
      subst hx
      unfold turnS
      split
      · exact ⟨(x.2, x.1), by simp, rfl⟩
      · rename_i h
        rw [fnd_neg] at h
        exact Classical.byContradiction fun hc => h fun t ht e => hc ⟨t, ht, e⟩
theorem turn_right {rs : List Rule} (h : Sides rs) : Right (turn rs) :=
  ⟨⟨Nat.le_trans (turn_len rs) h.len, fun t ht => by have := h.side _ (turn_mem t ht); exact ⟨this.2, this.1⟩⟩, turn_diff rs⟩
theorem Sides.take {rs : List Rule} (h : Sides rs) (k : Nat) : Sides (rs.take k) := ⟨by have := h.len; simp; omega, fun r hr => h.side r (List.mem_of_mem_take hr)⟩

theorem clone_eq {l : List Int} (h : 0 < l.length) (h2 : l.length ≤ 1000000) : slices_Clone_int fu l = some l := by
  unfold slices_Clone_int
  have : Nat.blt 0 l.length = true := by simpa using h
  rw [this, cond_true, decide_eq_true (by simp; omega), cond_true]; rfl
theorem turn_eq (hf : Fu fu) {rs : List Rule} (hS : Sides rs) : rule_Turn fu rs = some (turn rs) := by
  unfold rule_Turn
  have h512 := hS.len
  obtain ⟨v, h1, h2⟩ := loop_n (f := rule_Turn_L0 fu) (n := rs.length) (I := fun k x => x = (rs, (turn (rs.take k), (rs, ((rs.length : Int), (k : Int)))))) (R := fun v => v = turn rs)
    (by
      rintro k x hk rfl
      left
      unfold rule_Turn_L0
      have hs := hS.side _ (List.getElem_mem hk)
      have hl1 := sideB_len hs.1
      have hl2 := sideB_len hs.2
      have hT := turn_right (hS.take k)
      have hlen : (turn (rs.take k)).length ≤ k := Nat.le_trans (turn_len _) (by simp; omega)
      simp only [dlt, decide_eq_true hk, cond_true, nthI_get hk, bind_some', find_eq hf (small_512 hT.len) hT.ins, w64_succ hk (show rs.length < 9223372036854775808 by omega),
        clone_eq (fu := fu) hl1.1 (by omega), clone_eq (fu := fu) hl2.1 (by omega)]
      have hsn : turn (rs.take (k + 1)) = turnS (turn (rs.take k)) rs[k] := by rw [List.take_succ_eq_append_getElem hk, turn_snoc]
      rw [hsn]
      unfold turnS
      by_cases h : fnd (turn (rs.take k)) rs[k].2 < 0
      · rw [decide_eq_true h, cond_true, decide_eq_true (by simp; omega), cond_true, if_pos h]
        exact ⟨_, rfl, rfl⟩
      · rw [decide_eq_false h, cond_false, if_neg h]
        exact ⟨_, rfl, rfl⟩)
    (by
      rintro x rfl
      unfold rule_Turn_L0
      simp only [dlt, decide_eq_false (Nat.lt_irrefl rs.length), cond_false, List.take_length]
      exact ⟨_, rfl, rfl⟩)
    fu 0 (rs, (([] : List Rule), (rs, ((rs.length : Int), (0 : Int))))) (by omega) (by unfold Fu at hf; omega) rfl
  rw [h1, h2]

/-- How many units the longest In has. -/
def maxIn (rs : List Rule) : Nat := rs.foldl (fun n r => max n r.1.length) 0
theorem maxIn_snoc (rs : List Rule) (r : Rule) : maxIn (rs ++ [r]) = max (maxIn rs) r.1.length := by simp [maxIn]
theorem maxIn_le {rs : List Rule} : ∀ r ∈ rs, r.1.length ≤ maxIn rs := by
  induction rs using snocInd with
  | nil => intro r h; cases h
  | snoc rs r ih =>
    intro x hx
    rw [maxIn_snoc]
    rw [List.mem_append] at hx
    rcases hx with hx | hx
    · have := ih x hx; omega
    · simp only [List.mem_singleton] at hx
      subst hx; omega
theorem maxIn_bound {rs : List Rule} {m : Nat} (h : ∀ r ∈ rs, r.1.length ≤ m) : maxIn rs ≤ m := by
  induction rs using snocInd with
  | nil => simp [maxIn]
  | snoc rs r ih =>
    rw [maxIn_snoc]
    have h1 := ih (fun x hx => h x (List.mem_append_left _ hx))
    have h2 := h r (by simp)
    omega
theorem longest_eq (hf : Fu fu) {rs : List Rule} (hs : small rs) : rule_Longest fu rs = some (maxIn rs : Int) := by
  unfold rule_Longest
  obtain ⟨v, h1, h2⟩ := loop_n (f := rule_Longest_L0 fu) (n := rs.length) (I := fun k x => x = (rs, ((maxIn (rs.take k) : Int), (rs, ((rs.length : Int), (k : Int)))))) (R := fun v => v = (maxIn rs : Int))
    (by
      rintro k x hk rfl
      left
      unfold rule_Longest_L0
      simp only [dlt, decide_eq_true hk, cond_true, nthI_get hk, bind_some', w64_succ hk hs]
      refine ⟨_, rfl, ?_⟩
      have : maxIn (rs.take (k + 1)) = max (maxIn (rs.take k)) rs[k].1.length := by rw [List.take_succ_eq_append_getElem hk, maxIn_snoc]
      rw [this]
      congr 2
      split <;> omega)
    (by
      rintro x rfl
      unfold rule_Longest_L0
      simp only [dlt, decide_eq_false (Nat.lt_irrefl rs.length), cond_false, List.take_length]
      exact ⟨_, rfl, rfl⟩)
    fu 0 (rs, ((0 : Int), (rs, ((rs.length : Int), (0 : Int))))) (by omega) (by unfold Fu at hf; unfold small at hs; omega) rfl
  rw [h1, h2]

theorem used_eq (hf : Fu fu) {rs : List Rule} (hS : Sides rs) {u : Int} : table_used fu (rs, u) = some (usedB rs u) := by
  unfold table_used slices_ContainsFunc_api_Rule_used slices_IndexFunc_api_Rule_used usedB
  have h512 := hS.len
  have := loop_find (f := slices_IndexFunc_api_Rule_used_L0 fu) (l := rs) (p := fun x => decide (x.1.getLast? = some u)) (st := fun k => (rs, (u, ((rs.length : Int), (k : Int))))) (yes := fun k => (k : Int)) (no := -1) (fu := fu)
    (fun k h => by
      unfold slices_IndexFunc_api_Rule_used_L0 table_used_1
      obtain ⟨v, hv1, hv2⟩ := last_side (hS.side _ (List.getElem_mem h)).1
      have heq : (v == u) = decide (rs[k].1.getLast? = some u) := by
        rw [hv2]
        by_cases e : v = u
        · rw [← e]; simp
        · rw [decide_eq_false (by simpa using e)]; simpa using e
      simp only [dlt, decide_eq_true h, cond_true, nthI_get h, bind_some', hv1, heq, w64_succ h (show rs.length < 9223372036854775808 by omega)]
      cases decide (rs[k].1.getLast? = some u) <;> rfl)
    (by
      unfold slices_IndexFunc_api_Rule_used_L0
      simp only [dlt, decide_eq_false (Nat.lt_irrefl rs.length), cond_false])
    (by unfold Fu at hf; omega)
  simp only [Int.ofNat_zero] at this
  simp only
  rw [show ((0 : Int)) = ((0 : Nat) : Int) from rfl] at *
  rw [this]
  simp only [bind_some']
  cases e : findN (fun x : Rule => decide (x.1.getLast? = some u)) rs with
  | none =>
    have := findN_none.1 e
    rw [List.any_eq_false.2 (by simpa using this)]; rfl
  | some k =>
    obtain ⟨hk, h1, _⟩ := findN_some e
    rw [List.any_eq_true.2 ⟨_, List.getElem_mem hk, h1⟩]
    simp

theorem tclosed_eq (hf : Fu fu) {rs : List Rule} (hS : Sides rs) (hc : closedP rs) : table_closed fu rs = some true := by
  unfold table_closed
  have h512 := hS.len
  refine loop_st (fun k => (rs, (rs, ((rs.length : Int), (k : Int))))) (m := rs.length) (fun k hk => ?_) ?_ (by unfold Fu at hf; omega)
  · unfold table_closed_L1
    have hs := (hS.side _ (List.getElem_mem hk)).1
    have hl := sideB_len hs
    simp only [dlt, decide_eq_true hk, cond_true, nthI_get hk, bind_some']
    rw [w64_id (by omega) (by omega), show ((rs[k].1.length : Int) - 1) = ((rs[k].1.length - 1 : Nat) : Int) by omega]
    have := loop_st (f := table_closed_L0 fu) (fun j => (rs, (((rs[k].1.length - 1 - j : Nat) : Int), (rs, ((rs.length : Int), ((k : Int), (rs[k].1, rs[k].2))))))) (m := rs[k].1.length - 1) (r := .inl (rs, (rs, ((rs.length : Int), ((k + 1 : Nat) : Int))))) (fu := fu)
      (fun j hj => by
        unfold table_closed_L0
        have hn : 0 < rs[k].1.length - 1 - j := by omega
        have h1 : decide (((rs[k].1.length - 1 - j : Nat) : Int) > 0) = true := by rw [decide_eq_true_iff]; omega
        have hok := hc _ (List.getElem_mem hk) (rs[k].1.length - 1 - j) (by omega) (by omega)
        have hw : w64 (((rs[k].1.length - 1 - j : Nat) : Int) - 1) = ((rs[k].1.length - 1 - (j + 1) : Nat) : Int) := by rw [w64_id (by omega) (by omega)]; omega
        simp only [h1, cond_true, sliceI_to (show rs[k].1.length - 1 - j ≤ rs[k].1.length by omega), bind_some', find_eq hf (small_512 h512) hS.ins, hw]
        unfold okN at hok
        by_cases hfn : fnd rs (rs[k].1.take (rs[k].1.length - 1 - j)) < 0
        · rw [decide_eq_true hfn, cond_true]
          have hno : rs.any (fun x => decide (x.1 = rs[k].1.take (rs[k].1.length - 1 - j))) = false := by
            rw [List.any_eq_false]
            intro x hx
            simpa using fnd_neg.1 hfn x hx
          rw [hno, Bool.false_or, Bool.and_eq_true, decide_eq_true_iff] at hok
          obtain ⟨ho1, ho2⟩ := hok
          have h2 : decide (((rs[k].1.length - 1 - j : Nat) : Int) > 1) = false := by rw [decide_eq_false_iff_not]; omega
          have h0 : nthI rs[k].1 (0 : Int) = some (rs[k].1.headD 0) := by
            cases hh : rs[k].1 with
            | nil => rw [hh] at hl; simp at hl
            | cons a t => rfl
          rw [h2, cond_false, h0, bind_some', used_eq hf hS, bind_some']
          have : usedB rs (rs[k].1.headD 0) = false := by simpa using ho2
          rw [this, cond_false]
        · rw [decide_eq_false hfn, cond_false])
      (by
        unfold table_closed_L0
        simp only [Nat.sub_self]
        have : decide (((0 : Nat) : Int) > 0) = false := rfl
        rw [this, cond_false, w64_succ hk (show rs.length < 9223372036854775808 by omega)])
      (by unfold Fu at hf; omega)
    simp only [Nat.sub_zero] at this
    rw [this]
  · unfold table_closed_L1
    simp only [dlt, decide_eq_false (Nat.lt_irrefl rs.length), cond_false]
end Go.AM.M

namespace Go.AM.M
open Go.AM
variable {fu : Nat}

abbrev Node := Int × (Int × (Int × Int))
/-- Brothers, one behind the other. -/
inductive Chain (N : List Node) : Int → List Nat → Prop where
  | nil : Chain N 0 []
  | cons (c : Nat) (n : Node) (cs : List Nat) (h0 : 0 < c) (hn : N[c]? = some n) (hd : ∀ d ∈ cs, d < c) (h : Chain N n.2.2.1 cs) : Chain N (c : Int) (c :: cs)
/-- Nodes, and the units that lead to each. -/
structure Tr (N : List Node) (p : Nat → List Int) : Prop where
  pos : 0 < N.length
  root : p 0 = []
  inj : ∀ i j, i < N.length → j < N.length → p i = p j → i = j
  chain : ∀ i n, N[i]? = some n → ∃ cs, Chain N n.2.1 cs ∧ ∀ j, j ∈ cs ↔ (0 < j ∧ ∃ m, N[j]? = some m ∧ p j = p i ++ [m.1])
  up : ∀ j m, N[j]? = some m → 0 < j → ∃ i, i < N.length ∧ p j = p i ++ [m.1]

theorem Chain.lt {N : List Node} {k : Int} {cs : List Nat} (h : Chain N k cs) : ∀ c ∈ cs, c < N.length := by
  induction h with
  | nil => intro c hc; cases hc
  | cons c n cs h0 hn hd h ih =>
    intro d hd'
    rcases List.mem_cons.1 hd' with rfl | hd'
    · exact (List.getElem?_eq_some_iff.1 hn).1
    · exact ih d hd'
theorem Chain.len {N : List Node} {k : Int} {cs : List Nat} (h : Chain N k cs) : ∀ m : Nat, (∀ c ∈ cs, c < m) → cs.length ≤ m := by
  induction h with
  | nil => intro m _; simp
  | cons c n cs h0 hn hd h ih =>
    intro m hm
    have h1 := hm c (by simp)
    have h2 := ih c hd
    simp; omega

/-- The brother that has a unit. -/
def findC (N : List Node) (u : Int) : List Nat → Option Nat
  | [] => none
  | c :: cs => if (N[c]?.map (·.1)) = some u then some c else findC N u cs
theorem findC_some {N : List Node} {u : Int} : ∀ {cs : List Nat} {c : Nat}, findC N u cs = some c → c ∈ cs ∧ N[c]?.map (·.1) = some u
  | [], c, h => by cases h
  | d :: cs, c, h => by
    unfold findC at h
    split at h
    · rename_i e; injection h with h; subst h; exact ⟨by simp, e⟩
    · obtain ⟨h1, h2⟩ := findC_some h; exact ⟨List.mem_cons_of_mem _ h1, h2⟩
theorem findC_none {N : List Node} {u : Int} : ∀ {cs : List Nat}, findC N u cs = none → ∀ c ∈ cs, N[c]?.map (·.1) ≠ some u
  | [], h, c, hc => by cases hc
  | d :: cs, h, c, hc => by
    unfold findC at h
    split at h
    · cases h
    · rename_i e
      rcases List.mem_cons.1 hc with rfl | hc
      · exact e
      · exact findC_none h c hc
def stepR (o : Option Nat) : Int × Bool :=
  match o with
  | some c => (c, true)
  | none => (0, false)
theorem step_loop {N : List Node} {rules : List Rule} {u : Int} : ∀ {cs : List Nat} {k : Int}, Chain N k cs → ∀ f : Nat, cs.length < f → loopM (trie_Trie_Step_L0 fu) f (N, (rules, (u, k))) = some (stepR (findC N u cs)) := by
  intro cs k h
  induction h with
  | nil =>
    intro f hf
    cases f with
    | zero => omega
    | succ f => rfl
  | cons c n cs h0 hn hd h ih =>
    intro f hf
    cases f with
    | zero => simp at hf
    | succ f =>
      have hs : trie_Trie_Step_L0 fu (N, (rules, (u, (c : Int)))) = some (bif n.1 == u then .inr ((c : Int), true) else .inl (N, (rules, (u, n.2.2.1)))) := by
        unfold trie_Trie_Step_L0
        have : decide ((c : Int) > 0) = true := by simpa using h0
        simp only [this, cond_true, nthI_nat, hn, bind_some']
        cases n.1 == u <;> rfl
      unfold findC
      rw [hn]
      simp only [Option.map_some, Option.some.injEq]
      by_cases e : n.1 = u
      · rw [if_pos e]
        have : (n.1 == u) = true := by simpa using e
        simp only [loopM, hs, this, cond_true]
        rfl
      · rw [if_neg e]
        have : (n.1 == u) = false := by simpa using e
        simp only [loopM, hs, this, cond_false]
        exact ih f (by simp at hf; omega)
theorem stepb_loop {N : List Node} {rules : List Rule} {u : Int} : ∀ {cs : List Nat} {k : Int}, Chain N k cs → ∀ f : Nat, cs.length < f → loopM (trie_Trie_Step_box_L0 fu) f (u, (k, (N, rules))) = some ((stepR (findC N u cs)).1, ((stepR (findC N u cs)).2, (N, rules))) := by
  intro cs k h
  induction h with
  | nil =>
    intro f hf
    cases f with
    | zero => omega
    | succ f => rfl
  | cons c n cs h0 hn hd h ih =>
    intro f hf
    cases f with
    | zero => simp at hf
    | succ f =>
      have hs : trie_Trie_Step_box_L0 fu (u, ((c : Int), (N, rules))) = some (bif n.1 == u then .inr ((c : Int), (true, (N, rules))) else .inl (u, (n.2.2.1, (N, rules)))) := by
        unfold trie_Trie_Step_box_L0
        have : decide ((c : Int) > 0) = true := by simpa using h0
        simp only [this, cond_true, nthI_nat, hn, bind_some', Int.toNat_natCast]
        cases n.1 == u <;> rfl
      unfold findC
      rw [hn]
      simp only [Option.map_some, Option.some.injEq]
      by_cases e : n.1 = u
      · rw [if_pos e]
        have : (n.1 == u) = true := by simpa using e
        simp only [loopM, hs, this, cond_true]
        rfl
      · rw [if_neg e]
        have : (n.1 == u) = false := by simpa using e
        simp only [loopM, hs, this, cond_false]
        exact ih f (by simp at hf; omega)

/-- Where a unit leads from a node: to the node whose units are one more, if there is one. -/
theorem Tr.step {N : List Node} {p : Nat → List Int} (h : Tr N p) {at' : Nat} (ha : at' < N.length) (u : Int) :
    ∃ o : Option Nat, (∃ n cs, N[at']? = some n ∧ Chain N n.2.1 cs ∧ findC N u cs = o) ∧ (match o with
      | some c => 0 < c ∧ c < N.length ∧ p c = p at' ++ [u]
      | none => ∀ j, j < N.length → p j ≠ p at' ++ [u]) := by
  have hn : N[at']? = some N[at'] := List.getElem?_eq_getElem ha
  obtain ⟨cs, h1, h2⟩ := h.chain at' _ hn
  refine ⟨findC N u cs, ⟨_, cs, hn, h1, rfl⟩, ?_⟩
  cases e : findC N u cs with
  | some c =>
    obtain ⟨e1, e2⟩ := findC_some e
    obtain ⟨h3, m, h4, h5⟩ := (h2 c).1 e1
    rw [h4] at e2
    simp only [Option.map_some, Option.some.injEq] at e2
    exact ⟨h3, (List.getElem?_eq_some_iff.1 h4).1, by rw [h5, e2]⟩
  | none =>
    intro j hj hp
    have hj0 : 0 < j := by
      rcases Nat.eq_zero_or_pos j with rfl | h0
      · rw [h.root] at hp; simp at hp
      · exact h0
    have hm : N[j]? = some N[j] := List.getElem?_eq_getElem hj
    obtain ⟨i, hi, hpi⟩ := h.up j _ hm hj0
    have hpp := hpi.symm.trans hp
    have hu : N[j].1 = u := by
      have := congrArg List.getLast? hpp
      simpa using this
    have hmem : j ∈ cs := (h2 j).2 ⟨hj0, _, hm, by rw [hp, hu]⟩
    exact findC_none e j hmem (by rw [hm]; simp [hu])
theorem step_eq (hf : Fu fu) {N : List Node} {p : Nat → List Int} (h : Tr N p) (hs : small N) {rules : List Rule} {at' : Nat} (ha : at' < N.length) (u : Int) :
    ∃ o : Option Nat, trie_Trie_Step fu (N, (rules, ((at' : Int), u))) = some (stepR o) ∧ (match o with
      | some c => 0 < c ∧ c < N.length ∧ p c = p at' ++ [u]
      | none => ∀ j, j < N.length → p j ≠ p at' ++ [u]) := by
  obtain ⟨o, ⟨n, cs, h1, h2, h3⟩, h4⟩ := h.step ha u
  refine ⟨o, ?_, h4⟩
  unfold trie_Trie_Step
  have e1 : decide ((at' : Int) < 0) = false := by rw [decide_eq_false_iff_not]; omega
  have e2 : decide ((at' : Int) ≥ (N.length : Int)) = false := by rw [decide_eq_false_iff_not]; omega
  have hl := h2.len N.length h2.lt
  simp only [e1, e2, cond_false, nthI_nat, h1, bind_some']
  rw [step_loop h2 fu (by unfold Fu at hf; unfold small at hs; omega), h3]
theorem stepb_eq (hf : Fu fu) {N : List Node} {p : Nat → List Int} (h : Tr N p) (hs : small N) {rules : List Rule} {at' : Nat} (ha : at' < N.length) (u : Int) :
    ∃ o : Option Nat, trie_Trie_Step_box fu ((at' : Int), (u, (N, rules))) = some ((stepR o).1, ((stepR o).2, (N, rules))) ∧ (match o with
      | some c => 0 < c ∧ c < N.length ∧ p c = p at' ++ [u]
      | none => ∀ j, j < N.length → p j ≠ p at' ++ [u]) := by
  obtain ⟨o, ⟨n, cs, h1, h2, h3⟩, h4⟩ := h.step ha u
  refine ⟨o, ?_, h4⟩
  unfold trie_Trie_Step_box
  have e1 : decide ((at' : Int) < 0) = false := by rw [decide_eq_false_iff_not]; omega
  have e2 : decide ((at' : Int) ≥ (N.length : Int)) = false := by rw [decide_eq_false_iff_not]; omega
  have hl := h2.len N.length h2.lt
  simp only [e1, e2, cond_false, nthI_nat, h1, bind_some', Int.toNat_natCast]
  rw [stepb_loop h2 fu (by unfold Fu at hf; unfold small at hs; omega), h3]

/-! ### A new node -/
def addN (N : List Node) (a : Nat) (n : Node) (u : Int) : List Node := (N ++ [(u, ((0 : Int), (n.2.1, (-1 : Int))))]).set a (n.1, ((N.length : Int), (n.2.2.1, n.2.2.2)))
def addP (N : List Node) (p : Nat → List Int) (a : Nat) (u : Int) : Nat → List Int := fun j => if j = N.length then p a ++ [u] else p j
theorem addN_len {N : List Node} {a : Nat} {n : Node} {u : Int} : (addN N a n u).length = N.length + 1 := by simp [addN]
theorem addN_get {N : List Node} {a : Nat} {n : Node} {u : Int} (hn : N[a]? = some n) (j : Nat) : (addN N a n u)[j]? = if j = a then some (n.1, ((N.length : Int), (n.2.2.1, n.2.2.2))) else if j = N.length then some (u, ((0 : Int), (n.2.1, (-1 : Int)))) else N[j]? := by
  have ha := (List.getElem?_eq_some_iff.1 hn).1
  unfold addN
  rw [List.getElem?_set]
  by_cases e : a = j
  · subst e; simp; omega
  · rw [if_neg e, if_neg (fun h => e h.symm)]
    by_cases e2 : j = N.length
    · subst e2; simp
    · rw [if_neg e2, List.getElem?_append]
      split
      · rfl
      · rw [List.getElem?_eq_none (by simp; omega), List.getElem?_eq_none (by omega)]
theorem chain_add {N : List Node} {a : Nat} {n : Node} {u : Int} (hn : N[a]? = some n) {k : Int} {cs : List Nat} (h : Chain N k cs) : Chain (addN N a n u) k cs := by
  induction h with
  | nil => exact .nil
  | cons c m cs h0 hm hd h ih =>
    by_cases e : c = a
    · subst e
      rw [hn] at hm
      injection hm with hm
      subst hm
      exact .cons c (n.1, ((N.length : Int), (n.2.2.1, n.2.2.2))) cs h0 (by rw [addN_get hn, if_pos rfl]) hd ih
    · have hc := (List.getElem?_eq_some_iff.1 hm).1
      exact .cons c m cs h0 (by rw [addN_get hn, if_neg e, if_neg (by omega)]; exact hm) hd ih
theorem Tr.add {N : List Node} {p : Nat → List Int} (h : Tr N p) {a : Nat} {n : Node} {u : Int} (hn : N[a]? = some n) (hnew : ∀ j, j < N.length → p j ≠ p a ++ [u]) : Tr (addN N a n u) (addP N p a u) := by
  have ha := (List.getElem?_eq_some_iff.1 hn).1
  have hp : ∀ j, j < N.length → addP N p a u j = p j := fun j hj => if_neg (by omega)
  have hpn : addP N p a u N.length = p a ++ [u] := if_pos rfl
  -- units stay
  have hunit : ∀ (j : Nat) (m : Node), (addN N a n u)[j]? = some m → (j < N.length ∧ ∃ m', N[j]? = some m' ∧ m'.1 = m.1) ∨ (j = N.length ∧ m.1 = u) := fun j m hm => by
    rw [addN_get hn] at hm
    split at hm
    · rename_i e; subst e; injection hm with hm; subst hm; exact .inl ⟨ha, n, hn, rfl⟩
    · split at hm
      · rename_i e; injection hm with hm; subst hm; exact .inr ⟨e, rfl⟩
      · exact .inl ⟨(List.getElem?_eq_some_iff.1 hm).1, m, hm, rfl⟩
  have hunit2 : ∀ (j : Nat) (m' : Node), N[j]? = some m' → ∃ m : Node, (addN N a n u)[j]? = some m ∧ m.1 = m'.1 := fun j m' hm => by
    have hj := (List.getElem?_eq_some_iff.1 hm).1
    rw [addN_get hn]
    by_cases e : j = a
    · subst e; rw [if_pos rfl]; rw [hn] at hm; injection hm with hm; subst hm; exact ⟨_, rfl, rfl⟩
    · rw [if_neg e, if_neg (by omega)]; exact ⟨m', hm, rfl⟩
  refine ⟨by rw [addN_len]; omega, by rw [hp 0 h.pos]; exact h.root, fun i j hi hj e => ?_, fun i m hm => ?_, fun j m hm hj => ?_⟩
  · rw [addN_len] at hi hj
    rcases Nat.lt_or_ge i N.length with hi' | hi' <;> rcases Nat.lt_or_ge j N.length with hj' | hj'
    · rw [hp i hi', hp j hj'] at e; exact h.inj i j hi' hj' e
    · have : j = N.length := by omega
      subst this
      rw [hp i hi', hpn] at e
      exact absurd e (hnew i hi')
    · have : i = N.length := by omega
      subst this
      rw [hp j hj', hpn] at e
      exact absurd e.symm (hnew j hj')
    · omega
  · -- chains
    rw [addN_get hn] at hm
    by_cases e : i = a
    · subst e
      rw [if_pos rfl] at hm
      injection hm with hm; subst hm
      obtain ⟨cs, h1, h2⟩ := h.chain i n hn
      have hc := chain_add (u := u) hn h1
      refine ⟨N.length :: cs, .cons N.length (u, ((0 : Int), (n.2.1, (-1 : Int)))) cs (by omega) (by rw [addN_get hn, if_neg (by omega), if_pos rfl]) h1.lt hc, fun j => ?_⟩
      rw [List.mem_cons]
      constructor
      · rintro (rfl | hj)
        · exact ⟨by omega, _, by rw [addN_get hn, if_neg (by omega), if_pos rfl], by rw [hpn, hp i ha]⟩
        · obtain ⟨k0, m', k1, k2⟩ := (h2 j).1 hj
          obtain ⟨m, k3, k4⟩ := hunit2 j m' k1
          have hj' := (List.getElem?_eq_some_iff.1 k1).1
          exact ⟨k0, m, k3, by rw [hp j hj', hp i ha, k2, k4]⟩
      · rintro ⟨k0, m, k1, k2⟩
        rcases hunit j m k1 with ⟨hj', m', k3, k4⟩ | ⟨rfl, _⟩
        · right
          rw [hp j hj', hp i ha] at k2
          exact (h2 j).2 ⟨k0, m', k3, by rw [k2, k4]⟩
        · exact .inl rfl
    · rw [if_neg e] at hm
      by_cases e2 : i = N.length
      · subst e2
        rw [if_pos rfl] at hm
        injection hm with hm; subst hm
        refine ⟨[], .nil, fun j => ?_⟩
        constructor
        · intro hj; cases hj
        · rintro ⟨k0, m, k1, k2⟩
          exfalso
          rw [hpn] at k2
          rcases hunit j m k1 with ⟨hj', m', k3, k4⟩ | ⟨rfl, _⟩
          · rw [hp j hj'] at k2
            obtain ⟨i', hi', k5⟩ := h.up j m' k3 k0
            have : p i' = p a ++ [u] := by
              have := k5.symm.trans k2
              exact (List.append_inj' this rfl).1
            exact hnew i' hi' this
          · rw [hpn] at k2
            have := congrArg List.length k2
            simp at this
      · rw [if_neg e2] at hm
        have hi := (List.getElem?_eq_some_iff.1 hm).1
        obtain ⟨cs, h1, h2⟩ := h.chain i m hm
        refine ⟨cs, chain_add hn h1, fun j => ?_⟩
        rw [h2 j]
        constructor
        · rintro ⟨k0, m', k1, k2⟩
          obtain ⟨m2, k3, k4⟩ := hunit2 j m' k1
          have hj' := (List.getElem?_eq_some_iff.1 k1).1
          exact ⟨k0, m2, k3, by rw [hp j hj', hp i hi, k2, k4]⟩
        · rintro ⟨k0, m2, k1, k2⟩
          rcases hunit j m2 k1 with ⟨hj', m', k3, k4⟩ | ⟨rfl, k3⟩
          · rw [hp j hj', hp i hi] at k2
            exact ⟨k0, m', k3, by rw [k2, k4]⟩
          · exfalso
            rw [hpn, hp i hi, k3] at k2
            have := h.inj a i ha hi (List.append_inj' k2 rfl).1
            exact e this.symm
  · rcases hunit j m hm with ⟨hj', m', k3, k4⟩ | ⟨rfl, k3⟩
    · obtain ⟨i, hi, k5⟩ := h.up j m' k3 hj
      exact ⟨i, by rw [addN_len]; omega, by rw [hp j hj', hp i hi, k5, k4]⟩
    · exact ⟨a, by rw [addN_len]; omega, by rw [hpn, hp a ha, k3]⟩
/-- A node's rule is another one: all else stays. -/
theorem Tr.mark {N : List Node} {p : Nat → List Int} (h : Tr N p) {a : Nat} {n : Node} (hn : N[a]? = some n) (k : Int) : Tr (N.set a (n.1, (n.2.1, (n.2.2.1, k)))) p := by
  have ha := (List.getElem?_eq_some_iff.1 hn).1
  have hget : ∀ j, (N.set a (n.1, (n.2.1, (n.2.2.1, k))))[j]? = if j = a then some (n.1, (n.2.1, (n.2.2.1, k))) else N[j]? := fun j => by
    rw [List.getElem?_set]
    by_cases e : a = j
    · subst e; simp [ha]
    · rw [if_neg e, if_neg (fun h => e h.symm)]
  have hto : ∀ (j : Nat) (m : Node), (N.set a (n.1, (n.2.1, (n.2.2.1, k))))[j]? = some m → ∃ m' : Node, N[j]? = some m' ∧ m'.1 = m.1 ∧ m'.2.1 = m.2.1 ∧ m'.2.2.1 = m.2.2.1 := fun j m hm => by
    rw [hget] at hm
    split at hm
    · rename_i e; subst e; injection hm with hm; subst hm; exact ⟨n, hn, rfl, rfl, rfl⟩
    · exact ⟨m, hm, rfl, rfl, rfl⟩
  have hfrom : ∀ (j : Nat) (m' : Node), N[j]? = some m' → ∃ m : Node, (N.set a (n.1, (n.2.1, (n.2.2.1, k))))[j]? = some m ∧ m.1 = m'.1 ∧ m.2.2.1 = m'.2.2.1 := fun j m' hm => by
    rw [hget]
    by_cases e : j = a
    · subst e; rw [if_pos rfl]; rw [hn] at hm; injection hm with hm; subst hm; exact ⟨_, rfl, rfl, rfl⟩
    · rw [if_neg e]; exact ⟨m', hm, rfl, rfl⟩
  have hch : ∀ {k' : Int} {cs : List Nat}, Chain N k' cs → Chain (N.set a (n.1, (n.2.1, (n.2.2.1, k)))) k' cs := fun {k' cs} hc => by
    induction hc with
    | nil => exact .nil
    | cons c m cs h0 hm hd h ih =>
      obtain ⟨m2, e1, _, e3⟩ := hfrom c m hm
      exact .cons c m2 cs h0 e1 hd (by rw [e3]; exact ih)
  have hlen : (N.set a (n.1, (n.2.1, (n.2.2.1, k)))).length = N.length := by simp
  refine ⟨by rw [hlen]; exact h.pos, h.root, fun i j hi hj e => h.inj i j (by rwa [hlen] at hi) (by rwa [hlen] at hj) e, fun i m hm => ?_, fun j m hm hj => ?_⟩
  · obtain ⟨m', e1, e2, e3, _⟩ := hto i m hm
    obtain ⟨cs, h1, h2⟩ := h.chain i m' e1
    rw [e3] at h1
    refine ⟨cs, hch h1, fun j => ?_⟩
    rw [h2 j]
    constructor
    · rintro ⟨k0, m2, k1, k2⟩
      obtain ⟨m3, k3, k4, _⟩ := hfrom j m2 k1
      exact ⟨k0, m3, k3, by rw [k4]; exact k2⟩
    · rintro ⟨k0, m2, k1, k2⟩
      obtain ⟨m3, k3, k4, _⟩ := hto j m2 k1
      exact ⟨k0, m3, k3, by rw [k4]; exact k2⟩
  · obtain ⟨m', e1, e2, _⟩ := hto j m hm
    obtain ⟨i, hi, hp⟩ := h.up j m' e1 hj
    exact ⟨i, by rwa [hlen], by rw [hp, e2]⟩
end Go.AM.M

namespace Go.AM.M
open Go.AM
variable {fu : Nat}

/-! ### The longest rule -/
def anyIn (rs : List Rule) (x : List Int) : Bool := rs.any fun r => decide (r.1 = x)
theorem anyIn_iff {rs : List Rule} {x : List Int} : anyIn rs x = true ↔ ∃ r ∈ rs, r.1 = x := by simp [anyIn]
theorem anyIn_fnd {rs : List Rule} {x : List Int} : anyIn rs x = decide (0 ≤ fnd rs x) := by
  cases h : anyIn rs x with
  | true =>
    rw [eq_comm, decide_eq_true_iff]
    rcases Int.lt_or_le (fnd rs x) 0 with h1 | h1
    · obtain ⟨r, hr, e⟩ := anyIn_iff.1 h
      exact absurd e (fnd_neg.1 h1 r hr)
    · exact h1
  | false =>
    rw [eq_comm, decide_eq_false_iff_not]
    intro h1
    have : ¬ fnd rs x < 0 := by omega
    rw [fnd_neg] at this
    exact this fun r hr e => by
      have := anyIn_iff.2 ⟨r, hr, e⟩
      rw [h] at this; cases this
def lngN (rs : List Rule) (us : List Int) : Nat → Nat
  | 0 => 0
  | n + 1 => if anyIn rs (us.take (n + 1)) then n + 1 else lngN rs us n
def openB (rs : List Rule) (us : List Int) : Bool := rs.any fun r => decide (us.length < r.1.length ∧ r.1.take us.length = us)
def lng (rs : List Rule) (us : List Int) : Int × (Int × Bool) := (fnd rs (us.take (lngN rs us us.length)), ((lngN rs us us.length : Int), openB rs us))
theorem lngN_le {rs : List Rule} {us : List Int} : ∀ m, lngN rs us m ≤ m
  | 0 => Nat.le_refl _
  | m + 1 => by
    unfold lngN
    split
    · exact Nat.le_refl _
    · have := lngN_le (rs := rs) (us := us) m; omega
theorem lngN_has {rs : List Rule} {us : List Int} : ∀ m, 0 < lngN rs us m → anyIn rs (us.take (lngN rs us m)) = true
  | 0, h => by simp [lngN] at h
  | m + 1, h => by
    unfold lngN at h ⊢
    split at h
    · rename_i e; rw [if_pos e]; exact e
    · rename_i e; rw [if_neg e]; exact lngN_has m h
theorem lngN_max {rs : List Rule} {us : List Int} {n : Nat} (h0 : 0 < n) (ha : anyIn rs (us.take n) = true) : ∀ m, n ≤ m → n ≤ lngN rs us m
  | 0, h => by omega
  | m + 1, h => by
    unfold lngN
    split
    · exact h
    · rename_i e
      rcases Nat.lt_or_ge n (m + 1) with h1 | h1
      · exact lngN_max h0 ha m (by omega)
      · have : n = m + 1 := by omega
        subst this
        exact absurd ha e
theorem lngN_eq {rs : List Rule} {us : List Int} {m n : Nat} (hn : n ≤ m) (h1 : n = 0 ∨ anyIn rs (us.take n) = true) (h2 : ∀ k, n < k → k ≤ m → anyIn rs (us.take k) = false) : lngN rs us m = n := by
  rcases Nat.lt_trichotomy (lngN rs us m) n with h | h | h
  · rcases h1 with h1 | h1
    · omega
    · have := lngN_max (rs := rs) (us := us) (n := n) (by omega) h1 m hn; omega
  · exact h
  · have := lngN_has (rs := rs) (us := us) m (by omega)
    rw [h2 _ h (lngN_le m)] at this; cases this
theorem fnd_nil {rs : List Rule} (hS : Sides rs) : fnd rs [] = -1 := by
  have h : fnd rs [] < 0 := fnd_neg.2 fun r hr e => by have := sideB_len (hS.side r hr).1; rw [e] at this; simp at this
  unfold fnd at h ⊢
  rw [fI_neg] at h
  rw [h]; rfl
theorem findN_append {α : Type} {p : α → Bool} {l : List α} {x : α} : findN p (l ++ [x]) = match findN p l with | some k => some k | none => if p x then some l.length else none := by
  induction l with
  | nil => simp [findN]
  | cons y l ih =>
    rw [List.cons_append]
    simp only [findN]
    split
    · rfl
    · rw [ih]
      cases findN p l with
      | some k => rfl
      | none =>
        simp only [Option.map_none]
        split
        · rfl
        · rfl
theorem fnd_snoc {l : List Rule} {r : Rule} {x : List Int} : fnd (l ++ [r]) x = if 0 ≤ fnd l x then fnd l x else if r.1 = x then (l.length : Int) else -1 := by
  unfold fnd
  rw [findN_append]
  cases findN (fun r : Rule => decide (r.1 = x)) l with
  | some k => simp [fI]
  | none =>
    by_cases e : r.1 = x <;> simp [e, fI]
theorem fnd_ge {rs : List Rule} {x : List Int} (h : ¬ fnd rs x < 0) : 0 ≤ fnd rs x := by omega
theorem fnd_neg1 {rs : List Rule} {x : List Int} (h : fnd rs x < 0) : fnd rs x = -1 := by
  unfold fnd at h ⊢
  rw [fI_neg] at h
  rw [h]; rfl
theorem fnd_get {rs : List Rule} {x : List Int} (h : 0 ≤ fnd rs x) : ∃ k, ∃ hk : k < rs.length, fnd rs x = (k : Int) ∧ rs[k].1 = x := by
  unfold fnd at h ⊢
  cases e : findN (fun r : Rule => decide (r.1 = x)) rs with
  | none => rw [e] at h; simp [fI] at h
  | some k =>
    obtain ⟨h1, h2, _⟩ := findN_some e
    exact ⟨k, h1, rfl, by simpa using h2⟩

structure TrieOk (N : List Node) (rs : List Rule) : Prop where
  small : small N
  ex : ∃ p, Tr N p ∧ (∀ j m, N[j]? = some m → m.2.2.2 = fnd rs (p j)) ∧ (∀ j, j < N.length → p j = [] ∨ ∃ r ∈ rs, p j <+: r.1) ∧
    ∀ r ∈ rs, ∀ n, n ≤ r.1.length → ∃ j, j < N.length ∧ p j = r.1.take n

/-! ### The trie is built -/
structure Part (N : List Node) (p : Nat → List Int) (rs : List Rule) (r : List Int) (i : Nat) : Prop where
  tr : Tr N p
  mark : ∀ j m, N[j]? = some m → m.2.2.2 = fnd rs (p j)
  cov : ∀ j, j < N.length → p j = [] ∨ (∃ r ∈ rs, p j <+: r.1) ∨ p j <+: r.take i
  comp : ∀ r ∈ rs, ∀ n, n ≤ r.1.length → ∃ j, j < N.length ∧ p j = r.1.take n
  own : ∀ n, n ≤ i → ∃ j, j < N.length ∧ p j = r.take n
theorem take_prefix {l : List Int} {i j : Nat} (h : i ≤ j) : l.take i <+: l.take j := by
  rw [show l.take i = (l.take j).take i by rw [List.take_take]; congr 1; omega]
  exact List.take_prefix _ _
theorem Part.same {N : List Node} {p : Nat → List Int} {rs : List Rule} {r : List Int} {i : Nat} (h : Part N p rs r i) (hi : i < r.length) {c : Nat} (hc : c < N.length) (hp : p c = r.take (i + 1)) : Part N p rs r (i + 1) where
  tr := h.tr
  mark := h.mark
  cov j hj := by
    rcases h.cov j hj with h1 | h1 | h1
    · exact .inl h1
    · exact .inr (.inl h1)
    · exact .inr (.inr (h1.trans (take_prefix (by omega))))
  comp := h.comp
  own n hn := by
    rcases Nat.lt_or_ge n (i + 1) with h1 | h1
    · exact h.own n (by omega)
    · have : n = i + 1 := by omega
      subst this
      exact ⟨c, hc, hp⟩
theorem Part.add {N : List Node} {p : Nat → List Int} {rs : List Rule} {r : List Int} {i : Nat} (h : Part N p rs r i) (hi : i < r.length) {a : Nat} {n : Node} (hn : N[a]? = some n) (hp : p a = r.take i) (hnew : ∀ j, j < N.length → p j ≠ p a ++ [r[i]]) :
    Part (addN N a n r[i]) (addP N p a r[i]) rs r (i + 1) ∧ addP N p a r[i] N.length = r.take (i + 1) := by
  have ha := (List.getElem?_eq_some_iff.1 hn).1
  have hpn : addP N p a r[i] N.length = r.take (i + 1) := by
    show (if N.length = N.length then p a ++ [r[i]] else _) = _
    rw [if_pos rfl, hp, List.take_succ_eq_append_getElem hi]
  have hpo : ∀ j, j < N.length → addP N p a r[i] j = p j := fun j hj => if_neg (by omega)
  refine ⟨⟨h.tr.add hn hnew, fun j m hm => ?_, fun j hj => ?_, fun r' hr' n' hn' => ?_, fun n' hn' => ?_⟩, hpn⟩
  · rw [addN_get hn] at hm
    split at hm
    · rename_i e
      subst e
      injection hm with hm; subst hm
      rw [hpo j ha]
      exact h.mark j n hn
    · split at hm
      · rename_i e
        subst e
        injection hm with hm; subst hm
        rw [hpn]
        rw [eq_comm]
        apply fnd_neg1
        rw [fnd_neg]
        intro x hx e
        obtain ⟨j, hj, hpj⟩ := h.comp x hx x.1.length (Nat.le_refl _)
        rw [List.take_length, e] at hpj
        exact hnew j hj (by rw [hpj, hp, List.take_succ_eq_append_getElem hi])
      · have hj := (List.getElem?_eq_some_iff.1 hm).1
        rw [hpo j hj]
        exact h.mark j m hm
  · rw [addN_len] at hj
    rcases Nat.lt_or_ge j N.length with h1 | h1
    · rw [hpo j h1]
      rcases h.cov j h1 with h2 | h2 | h2
      · exact .inl h2
      · exact .inr (.inl h2)
      · exact .inr (.inr (h2.trans (take_prefix (by omega))))
    · have : j = N.length := by omega
      subst this
      rw [hpn]
      exact .inr (.inr (List.prefix_refl _))
  · obtain ⟨j, hj, e⟩ := h.comp r' hr' n' hn'
    exact ⟨j, by rw [addN_len]; omega, by rw [hpo j hj]; exact e⟩
  · rcases Nat.lt_or_ge n' (i + 1) with h1 | h1
    · obtain ⟨j, hj, e⟩ := h.own n' (by omega)
      exact ⟨j, by rw [addN_len]; omega, by rw [hpo j hj]; exact e⟩
    · have : n' = i + 1 := by omega
      subst this
      exact ⟨N.length, by rw [addN_len]; omega, hpn⟩
/-- A rule is there. -/
theorem Part.done {N : List Node} {p : Nat → List Int} {rs : List Rule} {r : Rule} (h : Part N p rs r.1 r.1.length) {a : Nat} {n : Node} (hn : N[a]? = some n) (hp : p a = r.1) (hnot : fnd rs r.1 < 0) (r' : List Int) :
    Part (N.set a (n.1, (n.2.1, (n.2.2.1, (rs.length : Int))))) p (rs ++ [r]) r' 0 := by
  have ha := (List.getElem?_eq_some_iff.1 hn).1
  have hlen : (N.set a (n.1, (n.2.1, (n.2.2.1, (rs.length : Int))))).length = N.length := by simp
  refine ⟨h.tr.mark hn _, fun j m hm => ?_, fun j hj => ?_, fun x hx n' hn' => ?_, fun n' hn' => ?_⟩
  · rw [List.getElem?_set] at hm
    split at hm
    · rename_i e
      subst e
      injection hm with hm; subst hm
      rw [hp, fnd_snoc, if_neg (by omega), if_pos rfl]
    · rename_i e
      have hj := (List.getElem?_eq_some_iff.1 hm).1
      have hne : p j ≠ r.1 := fun e2 => e (h.tr.inj a j ha hj (by rw [hp, e2]))
      rw [h.mark j m hm, fnd_snoc]
      split
      · rfl
      · rw [if_neg (fun e2 => hne e2.symm)]
        exact fnd_neg1 (by omega)
  · rw [hlen] at hj
    rcases h.cov j hj with h2 | ⟨x, hx, h2⟩ | h2
    · exact .inl h2
    · exact .inr (.inl ⟨x, List.mem_append_left _ hx, h2⟩)
    · rw [List.take_length] at h2
      exact .inr (.inl ⟨r, by simp, h2⟩)
  · rw [List.mem_append] at hx
    rcases hx with hx | hx
    · obtain ⟨j, hj, e⟩ := h.comp x hx n' hn'
      exact ⟨j, by rw [hlen]; exact hj, e⟩
    · simp only [List.mem_singleton] at hx
      subst hx
      obtain ⟨j, hj, e⟩ := h.own n' hn'
      exact ⟨j, by rw [hlen]; exact hj, e⟩
  · have : n' = 0 := by omega
    subst this
    exact ⟨0, by rw [hlen]; exact h.tr.pos, by rw [h.tr.root]; rfl⟩
theorem Part.next {N : List Node} {p : Nat → List Int} {rs : List Rule} {r r' : List Int} (h : Part N p rs r 0) : Part N p rs r' 0 where
  tr := h.tr
  mark := h.mark
  cov j hj := by
    rcases h.cov j hj with h1 | h1 | h1
    · exact .inl h1
    · exact .inr (.inl h1)
    · simp at h1; exact .inl h1
  comp := h.comp
  own n hn := by
    have : n = 0 := by omega
    subst this
    exact ⟨0, h.tr.pos, by rw [h.tr.root]; rfl⟩

def outsOf (rs : List Rule) : List Rule := rs.map fun r => ([], r.2)
theorem of_inner (hf : Fu fu) {rs : List Rule} {k : Nat} (hk : k < rs.length) (hR : Right rs) {N0 : List Node} {p0 : Nat → List Int} {R : List Rule} (h0 : Part N0 p0 (rs.take k) rs[k].1 0) (hlen : N0.length ≤ 1 + 8 * k) :
    ∃ N p, loopM (trie_Of_L0 fu) fu (rs, ((k : Int), ((0 : Int), (rs, ((rs.length : Int), ((k : Int), (rs[k].1, ((rs[k].1.length : Int), ((0 : Int), (N0, (R, (rs[k].1, rs[k].2)))))))))))) =
      some (.inl (rs, (rs, ((rs.length : Int), (((k + 1 : Nat) : Int), (N, R)))))) ∧ Part N p (rs.take (k + 1)) rs[k].1 0 ∧ N.length ≤ 1 + 8 * (k + 1) := by
  have hs := (hR.side _ (List.getElem_mem hk)).1
  have hl := sideB_len hs
  have h512 := hR.len
  obtain ⟨v, h1, N, p, rfl, h2, h3⟩ := loop_n (f := trie_Of_L0 fu) (n := rs[k].1.length)
    (I := fun i x => ∃ (a : Nat) (N : List Node) (p : Nat → List Int), x = (rs, ((k : Int), ((a : Int), (rs, ((rs.length : Int), ((k : Int), (rs[k].1, ((rs[k].1.length : Int), ((i : Int), (N, (R, (rs[k].1, rs[k].2))))))))))))
      ∧ Part N p (rs.take k) rs[k].1 i ∧ a < N.length ∧ p a = rs[k].1.take i ∧ N.length ≤ 1 + 8 * k + i)
    (R := fun v => ∃ N p, v = .inl (rs, (rs, ((rs.length : Int), (((k + 1 : Nat) : Int), (N, R))))) ∧ Part N p (rs.take (k + 1)) rs[k].1 0 ∧ N.length ≤ 1 + 8 * (k + 1))
    (by
      rintro i x hi ⟨a, N, p, rfl, hP, ha, hpa, hN⟩
      left
      unfold trie_Of_L0
      obtain ⟨o, ho, hm⟩ := stepb_eq (fu := fu) hf hP.tr (by unfold small; omega) (rules := R) ha rs[k].1[i]
      simp only [dlt, decide_eq_true hi, cond_true, nthI_get hi, bind_some', ho, w64_succ hi (show rs[k].1.length < 9223372036854775808 by omega)]
      cases o with
      | some c =>
        obtain ⟨hc0, hc, hpc⟩ := hm
        simp only [stepR, Bool.not_true, cond_false]
        have hpc' : p c = rs[k].1.take (i + 1) := by rw [hpc, hpa, List.take_succ_eq_append_getElem hi]
        exact ⟨_, rfl, c, N, p, rfl, hP.same hi hc hpc', hc, hpc', by omega⟩
      | none =>
        have hn : N[a]? = some N[a] := List.getElem?_eq_getElem ha
        simp only [stepR, Bool.not_false, cond_true, nthI_nat, Int.toNat_natCast, hn, bind_some']
        rw [decide_eq_true (by simp; omega), cond_true]
        have hn2 : ∀ t : Node, (N ++ [t])[a]? = some N[a] := fun t => by rw [List.getElem?_append_left ha]; exact hn
        simp only [hn2, bind_some']
        obtain ⟨hA, hB⟩ := hP.add hi hn hpa hm
        exact ⟨_, rfl, N.length, addN N a N[a] rs[k].1[i], _, rfl, hA, by rw [addN_len]; omega, hB, by rw [addN_len]; omega⟩)
    (by
      rintro x ⟨a, N, p, rfl, hP, ha, hpa, hN⟩
      unfold trie_Of_L0
      have hn : N[a]? = some N[a] := List.getElem?_eq_getElem ha
      simp only [dlt, decide_eq_false (Nat.lt_irrefl rs[k].1.length), cond_false, nthI_nat, Int.toNat_natCast, hn, bind_some', w64_succ hk (show rs.length < 9223372036854775808 by omega), Option.map_some]
      have hD := hP.done (r := rs[k]) hn (by rw [hpa, List.take_length]) (fnd_take hR.diff hk) rs[k].1
      have hkl : (rs.take k).length = k := by simp; omega
      rw [hkl, ← List.take_succ_eq_append_getElem hk] at hD
      exact ⟨_, rfl, _, p, rfl, hD, by simp; omega⟩)
    fu 0 _ (by omega) (by unfold Fu at hf; omega) ⟨0, N0, p0, rfl, h0, h0.tr.pos, by rw [h0.tr.root]; rfl, by omega⟩
  exact ⟨N, p, h1, h2, h3⟩

theorem trie_eq (hf : Fu fu) {rs : List Rule} (hR : Right rs) : ∃ N, trie_Of fu rs = some (.inr (N, (outsOf rs, (0 : Int)))) ∧ TrieOk N rs := by
  unfold trie_Of
  rw [check_eq hf hR, bind_some']
  have h512 := hR.len
  simp only [bne_self_eq_false, cond_false]
  obtain ⟨v, h1, N, rfl, h2⟩ := loop_n (f := trie_Of_L1 fu) (n := rs.length)
    (I := fun k x => ∃ (N : List Node) (p : Nat → List Int), x = (rs, (rs, ((rs.length : Int), ((k : Int), (N, outsOf (rs.take k)))))) ∧ Part N p (rs.take k) [] 0 ∧ N.length ≤ 1 + 8 * k)
    (R := fun v => ∃ N, v = .inr (N, (outsOf rs, (0 : Int))) ∧ TrieOk N rs)
    (by
      rintro k x hk ⟨N, p, rfl, hP, hN⟩
      left
      unfold trie_Of_L1
      have hs := hR.side _ (List.getElem_mem hk)
      have hl := sideB_len hs.2
      obtain ⟨N', p', h1, h2, h3⟩ := of_inner hf hk hR (R := outsOf (rs.take k) ++ [([], rs[k].2)]) hP.next hN
      simp only [dlt, decide_eq_true hk, cond_true, nthI_get hk, bind_some']
      rw [decide_eq_true (by omega), cond_true, decide_eq_true (by simp [outsOf]; omega), cond_true]
      have ho : outsOf (rs.take (k + 1)) = outsOf (rs.take k) ++ [([], rs[k].2)] := by unfold outsOf; rw [List.take_succ_eq_append_getElem hk, List.map_append]; rfl
      refine ⟨_, h1, N', p', ?_, h2.next, h3⟩
      rw [ho])
    (by
      rintro x ⟨N, p, rfl, hP, hN⟩
      unfold trie_Of_L1
      simp only [dlt, decide_eq_false (Nat.lt_irrefl rs.length), cond_false, List.take_length] at hP ⊢
      refine ⟨_, rfl, N, rfl, ⟨by unfold small; omega, p, hP.tr, hP.mark, fun j hj => ?_, hP.comp⟩⟩
      rcases hP.cov j hj with h1 | h1 | h1
      · exact .inl h1
      · exact .inr h1
      · simp at h1; exact .inl h1)
    fu 0 (rs, (rs, ((rs.length : Int), ((0 : Int), ([((0 : Int), ((0 : Int), ((0 : Int), (-(1 : Int)))))], ([] : List Rule)))))) (by omega) (by unfold Fu at hf; omega)
    ⟨[((0 : Int), ((0 : Int), ((0 : Int), (-(1 : Int)))))], fun _ => [], rfl, ⟨⟨by simp, rfl, fun i j hi hj _ => by simp at hi hj; omega, fun i n hn => by
      have hi := (List.getElem?_eq_some_iff.1 hn).1
      simp at hi
      subst hi
      simp at hn
      subst hn
      refine ⟨[], .nil, fun j => ⟨fun h => (by cases h), ?_⟩⟩
      rintro ⟨_, m, _, h⟩
      simp at h, fun j m hm hj => by
      have hi := (List.getElem?_eq_some_iff.1 hm).1
      simp at hi; omega⟩, fun j m hm => by
      have hi := (List.getElem?_eq_some_iff.1 hm).1
      simp at hi
      subst hi
      simp at hm
      subst hm
      rfl, fun j _ => .inl rfl, by simp, fun n hn => ⟨0, by simp, by simp⟩⟩, by simp⟩
  exact ⟨N, h1, h2⟩
end Go.AM.M

namespace Go.AM.M
open Go.AM
variable {fu : Nat}

theorem Chain.zero {N : List Node} {k : Int} {cs : List Nat} (h : Chain N k cs) : k = 0 ↔ cs = [] := by
  cases h with
  | nil => simp
  | cons c n cs h0 => simp; omega
theorem lngN_stop {rs : List Rule} {us : List Int} {i : Nat} (h : ∀ r ∈ rs, ¬ us.take (i + 1) <+: r.1) : ∀ m, i ≤ m → m ≤ us.length → lngN rs us m = lngN rs us i := by
  intro m
  induction m with
  | zero => intro h1 _; have : i = 0 := by omega
            rw [this]
  | succ m ih =>
    intro h1 h2
    rcases Nat.lt_or_ge i (m + 1) with h3 | h3
    · have hno : anyIn rs (us.take (m + 1)) = false := by
        rw [Bool.eq_false_iff]
        intro hc
        obtain ⟨r, hr, e⟩ := anyIn_iff.1 hc
        exact h r hr (by rw [e]; exact take_prefix (by omega))
      rw [lngN, hno]
      exact ih (by omega) (by omega)
    · have : i = m + 1 := by omega
      rw [this]
theorem openB_false {rs : List Rule} {us : List Int} {i : Nat} (hi : i < us.length) (h : ∀ r ∈ rs, ¬ us.take (i + 1) <+: r.1) : openB rs us = false := by
  rw [Bool.eq_false_iff]
  intro hc
  unfold openB at hc
  rw [List.any_eq_true] at hc
  obtain ⟨r, hr, e⟩ := hc
  simp only [decide_eq_true_eq] at e
  exact h r hr (by rw [← e.2, List.take_take]; exact List.take_prefix _ _)
theorem prefix_take {l m : List Int} (h : l <+: m) : m.take l.length = l := by
  obtain ⟨t, rfl⟩ := h; simp

theorem longest_trie (hf : Fu fu) {N : List Node} {rs : List Rule} (hS : Sides rs) (hT : TrieOk N rs) {R : List Rule} {us : List Int} (hu : small us) : trie_Trie_Longest fu (N, (R, us)) = some (lng rs us) := by
  obtain ⟨hN, p, tr, mark, cov, comp⟩ := hT
  have ruleEq : ∀ {a : Nat}, a < N.length → trie_Trie_Rule fu (N, (R, (a : Int))) = some (fnd rs (p a)) := fun {a} ha => by
    unfold trie_Trie_Rule
    have e1 : decide ((a : Int) < 0) = false := by rw [decide_eq_false_iff_not]; omega
    have e2 : decide ((a : Int) ≥ (N.length : Int)) = false := by rw [decide_eq_false_iff_not]; omega
    have hn : N[a]? = some N[a] := List.getElem?_eq_getElem ha
    simp only [e1, e2, cond_false, nthI_nat, hn, bind_some', mark a _ hn]
  unfold trie_Trie_Longest
  obtain ⟨v, h1, h2⟩ := loop_n (f := trie_Trie_Longest_L0 fu) (n := us.length)
    (I := fun i x => ∃ a : Nat, x = (N, (R, (us, (fnd rs (us.take (lngN rs us i)), (((lngN rs us i : Nat) : Int), ((a : Int), (us, ((us.length : Int), (i : Int))))))))) ∧ a < N.length ∧ p a = us.take i)
    (R := fun v => v = lng rs us)
    (by
      rintro i x hi ⟨a, rfl, ha, hpa⟩
      unfold trie_Trie_Longest_L0
      obtain ⟨o, ho, hm⟩ := step_eq (fu := fu) hf tr hN (rules := R) ha us[i]
      simp only [dlt, decide_eq_true hi, cond_true, nthI_get hi, bind_some', ho, w64_succ hi hu]
      cases o with
      | some c =>
        obtain ⟨hc0, hc, hpc⟩ := hm
        have hpc' : p c = us.take (i + 1) := by rw [hpc, hpa, List.take_succ_eq_append_getElem hi]
        left
        simp only [stepR, Bool.not_true, cond_false, ruleEq hc, bind_some', hpc']
        have hgd : decide (fnd rs (us.take (i + 1)) ≥ 0) = anyIn rs (us.take (i + 1)) := by rw [anyIn_fnd]
        rw [hgd]
        cases e : anyIn rs (us.take (i + 1)) with
        | true =>
          have hl : lngN rs us (i + 1) = i + 1 := by rw [lngN, e]; rfl
          rw [hl]
          exact ⟨_, rfl, c, rfl, hc, hpc'⟩
        | false =>
          have hl : lngN rs us (i + 1) = lngN rs us i := by rw [lngN, e]; rfl
          rw [hl]
          exact ⟨_, rfl, c, rfl, hc, hpc'⟩
      | none =>
        right
        simp only [stepR, Bool.not_false, cond_true]
        refine ⟨_, rfl, ?_⟩
        have hno : ∀ r ∈ rs, ¬ us.take (i + 1) <+: r.1 := fun r hr hp => by
          have hlen : (us.take (i + 1)).length = i + 1 := by simp; omega
          have hle : i + 1 ≤ r.1.length := by have := hp.length_le; omega
          obtain ⟨j, hj, e⟩ := comp r hr (i + 1) hle
          have := prefix_take hp
          rw [hlen] at this
          exact hm j hj (by rw [e, this, hpa, List.take_succ_eq_append_getElem hi])
        unfold lng
        rw [lngN_stop hno us.length (by omega) (Nat.le_refl _), openB_false hi hno])
    (by
      rintro x ⟨a, rfl, ha, hpa⟩
      unfold trie_Trie_Longest_L0 trie_Trie_Leaf
      rw [List.take_length] at hpa
      have e1 : decide ((a : Int) < 0) = false := by rw [decide_eq_false_iff_not]; omega
      have e2 : decide ((a : Int) ≥ (N.length : Int)) = false := by rw [decide_eq_false_iff_not]; omega
      have hn : N[a]? = some N[a] := List.getElem?_eq_getElem ha
      simp only [dlt, decide_eq_false (Nat.lt_irrefl us.length), cond_false, e1, e2, nthI_nat, hn, bind_some', Option.map_some]
      refine ⟨_, rfl, ?_⟩
      unfold lng
      obtain ⟨cs, hc, hch⟩ := tr.chain a _ hn
      have hop : (!(N[a].2.1 == 0)) = openB rs us := by
        cases hb : openB rs us with
        | true =>
          unfold openB at hb
          rw [List.any_eq_true] at hb
          obtain ⟨r, hr, e⟩ := hb
          simp only [decide_eq_true_eq] at e
          obtain ⟨el, et⟩ := e
          obtain ⟨j, hj, hpj⟩ := comp r hr (us.length + 1) (by omega)
          have hpj' : p j = us ++ [r.1[us.length]] := by rw [hpj, List.take_succ_eq_append_getElem el, et]
          have hj0 : 0 < j := by
            rcases Nat.eq_zero_or_pos j with rfl | h0
            · rw [tr.root] at hpj'; simp at hpj'
            · exact h0
          have hjn : N[j]? = some N[j] := List.getElem?_eq_getElem hj
          obtain ⟨i, hi, hpi⟩ := tr.up j _ hjn hj0
          have hu1 : N[j].1 = r.1[us.length] := by
            have := congrArg List.getLast? (hpi.symm.trans hpj')
            simpa using this
          have hmem := (hch j).2 ⟨hj0, _, hjn, by rw [hpj', hpa, hu1]⟩
          have : N[a].2.1 ≠ 0 := fun h0 => by rw [hc.zero.1 h0] at hmem; cases hmem
          simpa using this
        | false =>
          have : cs = [] := by
            rcases cs with _ | ⟨c, cs⟩
            · rfl
            · exfalso
              obtain ⟨h0, m, hm1, hm2⟩ := (hch c).1 (by simp)
              have hcl := (List.getElem?_eq_some_iff.1 hm1).1
              rcases cov c hcl with h3 | ⟨r, hr, h3⟩
              · rw [h3, hpa] at hm2; simp at hm2
              · rw [hm2, hpa] at h3
                have : openB rs us = true := by
                  unfold openB
                  rw [List.any_eq_true]
                  refine ⟨r, hr, ?_⟩
                  simp only [decide_eq_true_eq]
                  have hl := h3.length_le
                  simp at hl
                  refine ⟨by omega, ?_⟩
                  exact prefix_take (List.IsPrefix.trans (List.prefix_append us [m.1]) h3)
                rw [hb] at this; cases this
          have := hc.zero.2 this
          simpa using this
      rw [hop])
    fu 0 (N, (R, (us, ((-(1 : Int)), ((0 : Int), ((0 : Int), (us, ((us.length : Int), (0 : Int))))))))) (by omega) (by unfold Fu at hf; unfold small at hu; omega)
    ⟨0, by simp [lngN, fnd_nil hS], tr.pos, by rw [tr.root]; rfl⟩
  rw [h1, h2]

/-! ### The law's words -/
theorem anyIn_snoc {rs : List Rule} {r : Rule} {x : List Int} : anyIn (rs ++ [r]) x = (anyIn rs x || decide (r.1 = x)) := by simp [anyIn]
theorem openB_snoc {rs : List Rule} {r : Rule} {us : List Int} : openB (rs ++ [r]) us = (openB rs us || decide (us.length < r.1.length ∧ r.1.take us.length = us)) := by simp [openB]
theorem anyIn_mono {rs : List Rule} {r : Rule} {x : List Int} (h : anyIn rs x = true) : anyIn (rs ++ [r]) x = true := by rw [anyIn_snoc, h]; rfl
theorem lng_snoc_hit {rs : List Rule} {r : Rule} {us : List Int} (h1 : r.1.length ≤ us.length) (h2 : r.1 = us.take r.1.length) (h3 : lngN rs us us.length < r.1.length) :
    lngN (rs ++ [r]) us us.length = r.1.length ∧ fnd (rs ++ [r]) (us.take r.1.length) = (rs.length : Int) := by
  have hno : ∀ k, r.1.length ≤ k → k ≤ us.length → anyIn rs (us.take k) = false := fun k hk hku => by
    rw [Bool.eq_false_iff]
    intro hc
    have := lngN_max (rs := rs) (us := us) (n := k) (by omega) hc us.length hku
    omega
  refine ⟨lngN_eq h1 (.inr (by rw [anyIn_snoc, ← h2]; simp)) fun k hk hku => ?_, ?_⟩
  · rw [anyIn_snoc, hno k (by omega) hku, Bool.false_or, decide_eq_false_iff_not]
    intro e
    have := congrArg List.length e
    simp at this; omega
  · have hneg : fnd rs (us.take r.1.length) < 0 := by
      have := hno r.1.length (Nat.le_refl _) h1
      rw [anyIn_fnd, decide_eq_false_iff_not] at this
      omega
    rw [fnd_snoc, if_neg (by omega), if_pos h2]
theorem lng_snoc_miss {rs : List Rule} {r : Rule} {us : List Int} (h0 : 0 < r.1.length) (h : ¬ (r.1.length ≤ us.length ∧ r.1 = us.take r.1.length ∧ lngN rs us us.length < r.1.length)) :
    lngN (rs ++ [r]) us us.length = lngN rs us us.length ∧ fnd (rs ++ [r]) (us.take (lngN rs us us.length)) = fnd rs (us.take (lngN rs us us.length)) := by
  refine ⟨lngN_eq (lngN_le _) ?_ fun k hk hku => ?_, ?_⟩
  · rcases Nat.eq_zero_or_pos (lngN rs us us.length) with e | e
    · exact .inl e
    · exact .inr (anyIn_mono (lngN_has _ e))
  · rw [anyIn_snoc, Bool.or_eq_false_iff, decide_eq_false_iff_not]
    refine ⟨?_, fun e => ?_⟩
    · rw [Bool.eq_false_iff]
      intro hc
      have := lngN_max (rs := rs) (us := us) (n := k) (by omega) hc us.length hku
      omega
    · have hl : r.1.length = k := by rw [e]; simp; omega
      exact h ⟨by omega, by rw [hl]; exact e, by omega⟩
  · rw [fnd_snoc]
    split
    · rfl
    · rename_i hneg
      rcases Nat.eq_zero_or_pos (lngN rs us us.length) with e | e
      · rw [e] at hneg ⊢
        rw [if_neg (fun e2 => by rw [e2] at h0; simp at h0), fnd_neg1 (by omega)]
      · have := lngN_has (rs := rs) (us := us) _ e
        rw [anyIn_fnd, decide_eq_true_eq] at this
        omega
theorem longest04_eq (hf : Fu fu) {rs : List Rule} (hS : Sides rs) {us : List Int} (hu : small us) : lontarlaw04_Longest fu (rs, us) = some (lng rs us) := by
  unfold lontarlaw04_Longest
  have h512 := hS.len
  obtain ⟨v, h1, h2⟩ := loop_n (f := lontarlaw04_Longest_L0 fu) (n := rs.length)
    (I := fun k x => x = (rs, (us, (fnd (rs.take k) (us.take (lngN (rs.take k) us us.length)), (((lngN (rs.take k) us us.length : Nat) : Int), (openB (rs.take k) us, (rs, ((rs.length : Int), (k : Int)))))))))
    (R := fun v => v = lng rs us)
    (by
      rintro k x hk rfl
      left
      have hs := sideB_len (hS.side _ (List.getElem_mem hk)).1
      have hkl : (rs.take k).length = k := by simp; omega
      have hsn : rs.take (k + 1) = rs.take k ++ [rs[k]] := List.take_succ_eq_append_getElem hk
      unfold lontarlaw04_Longest_L0
      have hsm : small rs[k].1 := by unfold small; omega
      have d1 : decide ((rs[k].1.length : Int) ≤ (us.length : Int)) = decide (rs[k].1.length ≤ us.length) := by rw [decide_eq_decide]; omega
      have d2 : decide ((rs[k].1.length : Int) > ((lngN (rs.take k) us us.length : Nat) : Int)) = decide (lngN (rs.take k) us us.length < rs[k].1.length) := by rw [decide_eq_decide]; omega
      have d3 : decide ((rs[k].1.length : Int) > (us.length : Int)) = decide (us.length < rs[k].1.length) := by rw [decide_eq_decide]; omega
      simp only [dlt, decide_eq_true hk, cond_true, nthI_get hk, bind_some', d1, d2, d3, w64_succ hk (show rs.length < 9223372036854775808 by omega)]
      rw [hsn, openB_snoc]
      by_cases c1 : rs[k].1.length ≤ us.length
      · have c3 : ¬ us.length < rs[k].1.length := by omega
        have hop : decide (us.length < rs[k].1.length ∧ rs[k].1.take us.length = us) = false := by rw [decide_eq_false_iff_not]; exact fun h => c3 h.1
        rw [decide_eq_true c1, cond_true, decide_eq_false c3, hop, Bool.or_false, sliceI_to c1, bind_some', units_eq hf hsm, bind_some']
        by_cases c2 : rs[k].1 = us.take rs[k].1.length
        · rw [decide_eq_true c2, cond_true]
          by_cases c4 : lngN (rs.take k) us us.length < rs[k].1.length
          · obtain ⟨e1, e2⟩ := lng_snoc_hit c1 c2 c4
            rw [decide_eq_true c4, cond_true, e1, e2, hkl]
            cases openB (rs.take k) us <;> exact ⟨_, rfl, rfl⟩
          · obtain ⟨e1, e2⟩ := lng_snoc_miss hs.1 (fun h => c4 h.2.2)
            rw [decide_eq_false c4, cond_false, e1, e2]
            cases openB (rs.take k) us <;> exact ⟨_, rfl, rfl⟩
        · obtain ⟨e1, e2⟩ := lng_snoc_miss (rs := rs.take k) (us := us) hs.1 (fun h => c2 h.2.1)
          rw [decide_eq_false c2, cond_false, e1, e2]
          cases openB (rs.take k) us <;> exact ⟨_, rfl, rfl⟩
      · have c3 : us.length < rs[k].1.length := by omega
        obtain ⟨e1, e2⟩ := lng_snoc_miss (rs := rs.take k) (us := us) hs.1 (fun h => c1 h.1)
        rw [decide_eq_false c1, cond_false, decide_eq_true c3, e1, e2]
        have hop : decide (us.length < rs[k].1.length ∧ rs[k].1.take us.length = us) = decide (rs[k].1.take us.length = us) := by rw [decide_eq_decide]; exact ⟨fun h => h.2, fun h => ⟨c3, h⟩⟩
        rw [hop]
        simp only [cond_true, sliceI_to (Nat.le_of_lt c3), bind_some', units_eq hf (show small (rs[k].1.take us.length) by unfold small; simp; omega)]
        cases openB (rs.take k) us <;> exact ⟨_, rfl, rfl⟩)
    (by
      rintro x rfl
      unfold lontarlaw04_Longest_L0
      simp only [dlt, decide_eq_false (Nat.lt_irrefl rs.length), cond_false, List.take_length]
      exact ⟨_, rfl, rfl⟩)
    fu 0 (rs, (us, ((-(1 : Int)), ((0 : Int), (false, (rs, ((rs.length : Int), (0 : Int)))))))) (by omega) (by unfold Fu at hf; omega)
    (by
      have hz : lngN [] us us.length = 0 := lngN_eq (by omega) (.inl rfl) fun k _ _ => rfl
      simp only [List.take_zero, hz]
      rfl)
  rw [h1, h2]
end Go.AM.M

namespace Go.AM.M
open Go.AM
variable {fu : Nat}

def outI (rs : List Rule) (k : Int) : List Int :=
  match rs[k.toNat]? with
  | some r => r.2
  | none => []
def nn (rs : List Rule) (us : List Int) : Nat := lngN rs us us.length
def adv (rs : List Rule) (us : List Int) : Nat := max 1 (nn rs us)
def tok (rs : List Rule) (at' : Int) (us : List Int) : Tok := if nn rs us = 0 then (at', ((1 : Int), (([] : List Int), (3 : Int)))) else (at', ((nn rs us : Int), (outI rs (fnd rs (us.take (nn rs us))), (0 : Int))))
def toks (rs : List Rule) : Nat → Int → List Int → List Tok
  | 0, _, _ => []
  | f + 1, a, us => if us = [] then [] else tok rs a us :: toks rs f (a + (adv rs us : Int)) (us.drop (adv rs us))
def toksA (rs : List Rule) (a : Int) (us : List Int) : List Tok := toks rs us.length a us
theorem adv_pos (rs : List Rule) (us : List Int) : 1 ≤ adv rs us := by unfold adv; omega
theorem nn_le (rs : List Rule) (us : List Int) : nn rs us ≤ us.length := lngN_le _
theorem adv_le {rs : List Rule} {us : List Int} (h : us ≠ []) : adv rs us ≤ us.length := by
  have := nn_le rs us
  have h1 : 0 < us.length := List.length_pos_iff.2 h
  unfold adv; omega
theorem toks_fuel {rs : List Rule} : ∀ (f : Nat) (a : Int) (us : List Int), us.length ≤ f → toks rs f a us = toksA rs a us := by
  intro f
  induction f using Nat.strongRecOn with
  | ind f ih =>
    intro a us h
    unfold toksA
    cases us with
    | nil => cases f <;> simp [toks]
    | cons u us =>
      cases f with
      | zero => simp at h
      | succ f =>
        simp only [List.length_cons, toks]
        rw [if_neg (by simp), if_neg (by simp)]
        have h1 := adv_pos rs (u :: us)
        have hd : ((u :: us).drop (adv rs (u :: us))).length ≤ us.length := by simp; omega
        simp only [List.length_cons] at h
        rw [ih f (by omega) _ _ (by omega)]
        congr 1
        rcases Nat.lt_or_ge us.length (f + 1) with h2 | h2
        · rw [ih us.length (by omega) _ _ hd]
        · omega
theorem toksA_nil (rs : List Rule) (a : Int) : toksA rs a [] = [] := rfl
theorem toksA_cons {rs : List Rule} {a : Int} {us : List Int} (h : us ≠ []) : toksA rs a us = tok rs a us :: toksA rs (a + (adv rs us : Int)) (us.drop (adv rs us)) := by
  cases us with
  | nil => exact absurd rfl h
  | cons u us =>
    conv => lhs; unfold toksA
    simp only [List.length_cons, toks]
    rw [if_neg (by simp)]
    have h1 := adv_pos rs (u :: us)
    rw [toks_fuel _ _ _ (by simp; omega)]
/-- Induction over what is left. -/
theorem toks_ind {rs : List Rule} {P : List Int → Prop} (h0 : P []) (h1 : ∀ us, us ≠ [] → P (us.drop (adv rs us)) → P us) (us : List Int) : P us := by
  generalize hn : us.length = n
  induction n using Nat.strongRecOn generalizing us with
  | ind n ih =>
    rcases us with _ | ⟨u, us⟩
    · exact h0
    · refine h1 _ (by simp) (ih _ ?_ _ rfl)
      have := adv_pos rs (u :: us)
      simp at hn ⊢; omega

theorem fnd_nn {rs : List Rule} (hS : Sides rs) (us : List Int) : fnd rs (us.take (nn rs us)) < 0 ↔ nn rs us = 0 := by
  constructor
  · intro h
    rcases Nat.eq_zero_or_pos (nn rs us) with e | e
    · exact e
    · have := lngN_has (rs := rs) (us := us) us.length e
      rw [anyIn_fnd, decide_eq_true_eq] at this
      unfold nn at h
      omega
  · intro h
    rw [h]
    rw [List.take_zero, fnd_nil hS]; omega
theorem lng_nn (rs : List Rule) (us : List Int) : lng rs us = (fnd rs (us.take (nn rs us)), ((nn rs us : Int), openB rs us)) := rfl

theorem all05_eq (hf : Fu fu) {rs : List Rule} (hS : Sides rs) {us : List Int} (hu : us.length ≤ 1000000) : lontarlaw05_All fu (rs, us) = some (toksA rs 0 us) := by
  unfold lontarlaw05_All
  have key : ∀ (n k : Nat) (g : Nat) (out : List Tok), k ≤ us.length → us.length - k ≤ n → n < g → out.length ≤ k → loopM (lontarlaw05_All_L0 fu) g (rs, (us, (out, (k : Int)))) = some (out ++ toksA rs (k : Int) (us.drop k)) := by
    intro n
    induction n with
    | zero =>
      intro k g out hk hn hg ho
      cases g with
      | zero => omega
      | succ g =>
        have : k = us.length := by omega
        subst this
        have hs : lontarlaw05_All_L0 fu (rs, (us, (out, ((us.length : Nat) : Int)))) = some (.inr out) := by
          unfold lontarlaw05_All_L0
          simp only [dlt, decide_eq_false (Nat.lt_irrefl us.length), cond_false]
        simp only [loopM, hs, List.drop_length, toksA_nil, List.append_nil]
    | succ n ih =>
      intro k g out hk hn hg ho
      rcases Nat.lt_or_ge k us.length with hlt | hge
      · cases g with
        | zero => omega
        | succ g =>
          have hne : us.drop k ≠ [] := by intro e; have := congrArg List.length e; simp at this; omega
          have hal := adv_le (rs := rs) hne
          have hap := adv_pos rs (us.drop k)
          rw [List.length_drop] at hal
          have hnext : lontarlaw05_All_L0 fu (rs, (us, (out, (k : Int)))) = some (.inl (rs, (us, (out ++ [tok rs (k : Int) (us.drop k)], ((k + adv rs (us.drop k) : Nat) : Int))))) := by
            unfold lontarlaw05_All_L0
            simp only [dlt, decide_eq_true hlt, cond_true, sliceI_from (Nat.le_of_lt hlt), bind_some', longest04_eq hf hS (show small (us.drop k) by unfold small; simp; omega), lng_nn]
            unfold tok
            by_cases h0 : nn rs (us.drop k) = 0
            · have hneg := (fnd_nn hS (us.drop k)).2 h0
              have ha : adv rs (us.drop k) = 1 := by unfold adv; omega
              rw [decide_eq_true hneg, cond_true, if_pos h0, decide_eq_true (by simp; omega), cond_true, ha, w64_id (by omega) (by omega)]
              rfl
            · have hnneg : ¬ fnd rs ((us.drop k).take (nn rs (us.drop k))) < 0 := fun h => h0 ((fnd_nn hS _).1 h)
              obtain ⟨j, hj, e1, e2⟩ := fnd_get (fnd_ge hnneg)
              have ha : adv rs (us.drop k) = nn rs (us.drop k) := by unfold adv; omega
              rw [decide_eq_false hnneg, cond_false, if_neg h0, e1, nthI_get hj, bind_some', decide_eq_true (by simp; omega), cond_true, ha, w64_id (by omega) (by omega)]
              simp [outI, hj]
          simp only [loopM, hnext]
          rw [ih (k + adv rs (us.drop k)) g _ (by omega) (by omega) (by omega) (by simp; omega), toksA_cons hne, List.drop_drop]
          simp
      · have : k = us.length := by omega
        subst this
        cases g with
        | zero => omega
        | succ g =>
          have hs : lontarlaw05_All_L0 fu (rs, (us, (out, ((us.length : Nat) : Int)))) = some (.inr out) := by
            unfold lontarlaw05_All_L0
            simp only [dlt, decide_eq_false (Nat.lt_irrefl us.length), cond_false]
          simp only [loopM, hs, List.drop_length, toksA_nil, List.append_nil]
  have := key us.length 0 fu [] (by omega) (by omega) (by unfold Fu at hf; omega) (by simp)
  simpa using this

/-! ### One by one -/
def takeF (rs : List Rule) (e : Bool) : Nat → Int → List Int → List Tok × (List Int × Int)
  | 0, a, w => ([], (w, a))
  | f + 1, a, w => if w = [] then ([], ([], a)) else if openB rs w && !e then ([], (w, a)) else
      (tok rs a w :: (takeF rs e f (a + (adv rs w : Int)) (w.drop (adv rs w))).1, (takeF rs e f (a + (adv rs w : Int)) (w.drop (adv rs w))).2)

theorem out_eq {rs : List Rule} (hS : Sides rs) {N : List Node} {k : Nat} (hk : k < rs.length) : trie_Trie_Out fu (N, (outsOf rs, (k : Int))) = some rs[k].2 := by
  unfold trie_Trie_Out
  have e1 : decide ((k : Int) < 0) = false := by rw [decide_eq_false_iff_not]; omega
  have hl : (outsOf rs).length = rs.length := by simp [outsOf]
  have e2 : decide ((k : Int) ≥ ((outsOf rs).length : Int)) = false := by rw [decide_eq_false_iff_not, hl]; omega
  have hg : (outsOf rs)[k]? = some ([], rs[k].2) := by simp [outsOf, hk]
  have hs := sideB_len (hS.side _ (List.getElem_mem hk)).2
  simp only [e1, e2, cond_false, nthI_nat, hg, bind_some']
  rw [decide_eq_true (by omega), cond_true]
theorem max_adv (rs : List Rule) (w : List Int) : (if (nn rs w : Int) > 1 then (nn rs w : Int) else 1) = (adv rs w : Int) := by
  unfold adv
  split <;> omega
theorem take_loop (hf : Fu fu) {rs : List Rule} (hS : Sides rs) {N : List Node} (hT : TrieOk N rs) (e : Bool) : ∀ (n : Nat) (w : List Int) (g : Nat) (out : List Tok) (a st : Int), w.length ≤ n → n < g → n + out.length ≤ 1000000 → 0 ≤ a → a + w.length ≤ 1000000000000 →
    ∃ st', loopM (match_Match_take_L0 fu) g (e, (out, (N, (outsOf rs, (w, (a, st)))))) = some (out ++ (takeF rs e n a w).1, (N, (outsOf rs, ((takeF rs e n a w).2.1, ((takeF rs e n a w).2.2, st'))))) := by
  intro n
  induction n with
  | zero =>
    intro w g out a st hw hg ho ha ha2
    have : w = [] := List.eq_nil_of_length_eq_zero (by omega)
    subst this
    cases g with
    | zero => omega
    | succ g =>
      refine ⟨st, ?_⟩
      have hs : match_Match_take_L0 fu (e, (out, (N, (outsOf rs, ([], (a, st)))))) = some (.inr (out, (N, (outsOf rs, ([], (a, st)))))) := rfl
      simp only [loopM, hs, takeF, List.append_nil]
  | succ n ih =>
    intro w g out a st hw hg ho ha ha2
    cases g with
    | zero => omega
    | succ g =>
      by_cases hne : w = []
      · subst hne
        refine ⟨st, ?_⟩
        have hs : match_Match_take_L0 fu (e, (out, (N, (outsOf rs, ([], (a, st)))))) = some (.inr (out, (N, (outsOf rs, ([], (a, st)))))) := rfl
        simp only [loopM, hs, takeF, if_true, List.append_nil]
      · have hpos : 0 < w.length := List.length_pos_iff.2 hne
        have hd : decide ((w.length : Int) > 0) = true := by rw [decide_eq_true_iff]; omega
        have hsm : small w := by unfold small; omega
        have hal := adv_le (rs := rs) hne
        have hap := adv_pos rs w
        by_cases hop : (openB rs w && !e) = true
        · rw [Bool.and_eq_true, Bool.not_eq_true'] at hop
          obtain ⟨ho1, rfl⟩ := hop
          refine ⟨w64 (st + (w.length : Int)), ?_⟩
          have hs : match_Match_take_L0 fu (false, (out, (N, (outsOf rs, (w, (a, st)))))) = some (.inr (out, (N, (outsOf rs, (w, (a, w64 (st + (w.length : Int)))))))) := by
            unfold match_Match_take_L0
            simp only [hd, cond_true, longest_trie hf hS hT hsm, bind_some', lng_nn, ho1, Bool.not_false]
          simp only [loopM, hs, takeF, if_neg hne, ho1, Bool.not_false, Bool.and_true, if_true, List.append_nil]
        · have hstep : match_Match_take_L0 fu (e, (out, (N, (outsOf rs, (w, (a, st)))))) = some (.inl (e, (out ++ [tok rs a w], (N, (outsOf rs, (w.drop (adv rs w), (a + (adv rs w : Int), w64 (st + (w.length : Int))))))))) := by
            unfold match_Match_take_L0
            simp only [hd, cond_true, longest_trie hf hS hT hsm, bind_some', lng_nn, max_adv]
            have hA : (bif decide (fnd rs (w.take (nn rs w)) < 0) then
                (bif (decide ((((List.length out) + (List.length [(a, ((adv rs w : Int), (([] : List Int), (3 : Int))))])) * (48 : Nat)) ≤ ((2 : Nat) ^ (46 : Nat)))) then
                  ((sliceI w (adv rs w : Int) (↑((List.length w)) : Int))).bind fun y1 =>
                  bif (decide (((List.length y1) * (8 : Nat)) ≤ ((2 : Nat) ^ (46 : Nat)))) then
                    some (Sum.inl (e, ((out ++ [(a, ((adv rs w : Int), (([] : List Int), (3 : Int))))]), (N, (outsOf rs, (y1, ((w64 (a + (adv rs w : Int))), (w64 (st + (↑((List.length w)) : Int))))))))))
                  else none
                else none)
              else
                ((trie_Trie_Out fu (N, (outsOf rs, fnd rs (w.take (nn rs w))))).bind fun y2 =>
                bif (decide ((((List.length out) + (List.length [(a, ((adv rs w : Int), (y2, (0 : Int))))])) * (48 : Nat)) ≤ ((2 : Nat) ^ (46 : Nat)))) then
                  ((sliceI w (adv rs w : Int) (↑((List.length w)) : Int))).bind fun y3 =>
                  bif (decide (((List.length y3) * (8 : Nat)) ≤ ((2 : Nat) ^ (46 : Nat)))) then
                    some (Sum.inl (e, ((out ++ [(a, ((adv rs w : Int), (y2, (0 : Int))))]), (N, (outsOf rs, (y3, ((w64 (a + (adv rs w : Int))), (w64 (st + (↑((List.length w)) : Int))))))))))
                  else none
                else none)) = (some (.inl (e, (out ++ [tok rs a w], (N, (outsOf rs, (w.drop (adv rs w), (a + (adv rs w : Int), w64 (st + (w.length : Int))))))))) : Option ((Bool × (List Tok × (List Node × (List Rule × (List Int × (Int × Int)))))) ⊕ (List Tok × (List Node × (List Rule × (List Int × (Int × Int))))))) := by
              unfold tok
              by_cases h0 : nn rs w = 0
              · have hneg := (fnd_nn hS w).2 h0
                have haa : adv rs w = 1 := by unfold adv; omega
                rw [decide_eq_true hneg, cond_true, decide_eq_true (by simp; omega), cond_true, sliceI_from hal, bind_some', decide_eq_true (by simp; omega), cond_true, if_pos h0, w64_id (by omega) (by omega), haa]
                rfl
              · have hnneg : ¬ fnd rs (w.take (nn rs w)) < 0 := fun h => h0 ((fnd_nn hS _).1 h)
                obtain ⟨j, hj, e1, e2⟩ := fnd_get (fnd_ge hnneg)
                have haa : adv rs w = nn rs w := by unfold adv; omega
                rw [decide_eq_false hnneg, cond_false, e1, out_eq hS hj, bind_some', decide_eq_true (by simp; omega), cond_true, sliceI_from hal, bind_some', decide_eq_true (by simp; omega), cond_true, if_neg h0, w64_id (by omega) (by omega), haa]
                simp [outI, hj]
            cases hob : openB rs w with
            | true =>
              rw [hob, Bool.true_and] at hop
              have he : e = true := by cases e <;> simp_all
              subst he
              simp only [Bool.not_true, cond_true, cond_false]
              exact hA
            | false =>
              simp only [cond_false]
              exact hA
          have hop' : (openB rs w && !e) = false := by simpa using hop
          obtain ⟨st', h⟩ := ih (w.drop (adv rs w)) g (out ++ [tok rs a w]) (a + (adv rs w : Int)) (w64 (st + (w.length : Int))) (by simp; omega) (by omega) (by simp; omega) (by omega) (by rw [List.length_drop]; omega)
          refine ⟨st', ?_⟩
          simp only [loopM, hstep, h, takeF, if_neg hne, hop', Bool.false_eq_true, if_false]
          simp
end Go.AM.M

namespace Go.AM.M
open Go.AM
variable {fu : Nat}

theorem lngN_more {rs : List Rule} {w rest : List Int} (h : openB rs w = false) : nn rs (w ++ rest) = nn rs w := by
  unfold nn
  refine lngN_eq (Nat.le_trans (nn_le rs w) (by simp)) ?_ fun k hk hk2 => ?_
  · rcases Nat.eq_zero_or_pos (lngN rs w w.length) with e | e
    · exact .inl e
    · right
      rw [List.take_append_of_le_length (lngN_le _)]
      exact lngN_has _ e
  · rw [Bool.eq_false_iff]
    intro hc
    rcases Nat.lt_or_ge w.length k with h1 | h1
    · obtain ⟨r, hr, e⟩ := anyIn_iff.1 hc
      have : openB rs w = true := by
        unfold openB
        rw [List.any_eq_true]
        refine ⟨r, hr, ?_⟩
        simp only [decide_eq_true_eq]
        rw [e]
        refine ⟨by simp; simp at hk2; omega, ?_⟩
        rw [List.take_take, show min w.length k = w.length by omega]
        simp
      rw [h] at this; cases this
    · rw [List.take_append_of_le_length h1] at hc
      have := lngN_max (rs := rs) (us := w) (n := k) (by omega) hc w.length h1
      omega
theorem adv_more {rs : List Rule} {w rest : List Int} (h : openB rs w = false) : adv rs (w ++ rest) = adv rs w := by unfold adv; rw [lngN_more h]
theorem tok_more {rs : List Rule} {a : Int} {w rest : List Int} (h : openB rs w = false) : tok rs a (w ++ rest) = tok rs a w := by
  unfold tok
  rw [lngN_more h, List.take_append_of_le_length (nn_le rs w)]

theorem takeF_end {rs : List Rule} : ∀ (n : Nat) (a : Int) (w : List Int), w.length ≤ n → takeF rs true n a w = (toksA rs a w, ([], a + (w.length : Int))) := by
  intro n
  induction n with
  | zero =>
    intro a w h
    have : w = [] := List.eq_nil_of_length_eq_zero (by omega)
    subst this
    simp [takeF, toksA_nil]
  | succ n ih =>
    intro a w h
    by_cases hne : w = []
    · subst hne; simp [takeF, toksA_nil]
    · have h1 := adv_pos rs w
      have h2 := adv_le (rs := rs) hne
      simp only [takeF, if_neg hne, Bool.not_true, Bool.and_false, Bool.false_eq_true, if_false]
      rw [ih _ _ (by simp; omega), toksA_cons hne]
      simp only [List.length_drop]
      congr 2
      omega
structure Put (rs : List Rule) (a : Int) (w : List Int) (r : List Tok × (List Int × Int)) : Prop where
  all : ∀ rest, toksA rs a (w ++ rest) = r.1 ++ toksA rs r.2.2 (r.2.1 ++ rest)
  op : r.2.1 = [] ∨ openB rs r.2.1 = true
  at' : r.2.2 + (r.2.1.length : Int) = a + (w.length : Int)
  len : r.1.length + r.2.1.length ≤ w.length
  suf : r.2.1 <:+ w
theorem takeF_put {rs : List Rule} : ∀ (n : Nat) (a : Int) (w : List Int), w.length ≤ n → Put rs a w (takeF rs false n a w) := by
  intro n
  induction n with
  | zero =>
    intro a w h
    have : w = [] := List.eq_nil_of_length_eq_zero (by omega)
    subst this
    exact ⟨fun rest => rfl, .inl rfl, rfl, by simp [takeF], List.suffix_refl _⟩
  | succ n ih =>
    intro a w h
    by_cases hne : w = []
    · subst hne
      simp only [takeF, if_true]
      exact ⟨fun rest => rfl, .inl rfl, rfl, by simp, List.suffix_refl _⟩
    · have h1 := adv_pos rs w
      have h2 := adv_le (rs := rs) hne
      cases hop : openB rs w with
      | true =>
        simp only [takeF, if_neg hne, hop, Bool.not_false, Bool.and_true, if_true]
        exact ⟨fun rest => rfl, .inr hop, rfl, by simp, List.suffix_refl _⟩
      | false =>
        simp only [takeF, if_neg hne, hop, Bool.false_and, Bool.false_eq_true, if_false]
        obtain ⟨k1, k2, k3, k4, k5⟩ := ih (a + (adv rs w : Int)) (w.drop (adv rs w)) (by simp; omega)
        refine ⟨fun rest => ?_, k2, ?_, ?_, k5.trans (List.drop_suffix _ _)⟩
        · rw [toksA_cons (by simp [hne]), tok_more hop, adv_more hop, List.drop_append_of_le_length h2, k1 rest]
          rfl
        · rw [k3]; simp only [List.length_drop]; omega
        · simp only [List.length_drop] at k4
          simp only [List.length_cons]; omega

abbrev MSt := List Node × (List Rule × (List Int × (Int × Int)))
theorem match_put_eq (hf : Fu fu) {rs : List Rule} (hS : Sides rs) {N : List Node} (hT : TrieOk N rs) {u a st : Int} {w : List Int} (hw : w.length ≤ 100000) (ha : 0 ≤ a) (ha2 : a ≤ 100000000000) :
    ∃ r st', match_Match_Put fu (u, (N, (outsOf rs, (w, (a, st))))) = some (r.1, (N, (outsOf rs, (r.2.1, (r.2.2, st'))))) ∧ r = takeF rs false (w.length + 1) a (w ++ [u]) := by
  unfold match_Match_Put match_Match_take
  obtain ⟨st', h⟩ := take_loop hf hS hT false (w.length + 1) (w ++ [u]) fu [] a st (by simp) (by unfold Fu at hf; omega) (by simp; omega) ha (by simp; omega)
  refine ⟨_, st', ?_, rfl⟩
  rw [decide_eq_true (by simp; omega), cond_true]
  simp only [h, bind_some', List.nil_append]
theorem match_end_eq (hf : Fu fu) {rs : List Rule} (hS : Sides rs) {N : List Node} (hT : TrieOk N rs) {a st : Int} {w : List Int} (hw : w.length ≤ 100000) (ha : 0 ≤ a) (ha2 : a ≤ 100000000000) :
    ∃ st', match_Match_End fu (N, (outsOf rs, (w, (a, st)))) = some (toksA rs a w, (N, (outsOf rs, (([] : List Int), (a + (w.length : Int), st'))))) := by
  unfold match_Match_End match_Match_take
  obtain ⟨st', h⟩ := take_loop hf hS hT true w.length w fu [] a st (by simp) (by unfold Fu at hf; omega) (by simp; omega) ha (by omega)
  refine ⟨st', ?_⟩
  simp only [h, bind_some', List.nil_append, takeF_end _ _ _ (Nat.le_refl _)]
theorem toksA_len {rs : List Rule} : ∀ (us : List Int) (a : Int), (toksA rs a us).length ≤ us.length := by
  intro us
  induction us using toks_ind (rs := rs) with
  | h0 => intro a; simp [toksA_nil]
  | h1 us hne ih =>
    intro a
    rw [toksA_cons hne]
    have h1 := adv_pos rs us
    have h2 := adv_le (rs := rs) hne
    have := ih (a + (adv rs us : Int))
    simp only [List.length_drop] at this
    simp only [List.length_cons]; omega

theorem all_dec_eq (hf : Fu fu) {rs : List Rule} (hS : Sides rs) {N : List Node} (hT : TrieOk N rs) {us : List Int} (hu : us.length ≤ 1000) {a0 st : Int} (ha : 0 ≤ a0) (ha2 : a0 ≤ 10000000000) :
    ∃ st', machine_All_dec fu (us, (N, (outsOf rs, (([] : List Int), (a0, st))))) = some (toksA rs a0 us, (N, (outsOf rs, (([] : List Int), (a0 + (us.length : Int), st'))))) := by
  unfold machine_All_dec
  obtain ⟨v, h1, st', h2⟩ := loop_n (f := machine_All_dec_L0 fu) (n := us.length)
    (I := fun k x => ∃ (out : List Tok) (w : List Int) (a st : Int), x = (us, (out, (us, ((us.length : Int), ((k : Int), (N, (outsOf rs, (w, (a, st)))))))))
      ∧ (∀ rest, out ++ toksA rs a (w ++ rest) = toksA rs a0 (us.take k ++ rest)) ∧ a + (w.length : Int) = a0 + (k : Int) ∧ out.length + w.length ≤ k ∧ a0 ≤ a)
    (R := fun v => ∃ st', v = (toksA rs a0 us, (N, (outsOf rs, (([] : List Int), (a0 + (us.length : Int), st'))))))
    (by
      rintro k x hk ⟨out, w, a, st, rfl, h1, h2, h3, h4⟩
      left
      unfold machine_All_dec_L0
      obtain ⟨r, st', e1, e2⟩ := match_put_eq hf hS hT (u := us[k]) (a := a) (st := st) (w := w) (by omega) (by omega) (by omega)
      have hP := takeF_put (rs := rs) (w.length + 1) a (w ++ [us[k]]) (by simp)
      rw [← e2] at hP
      obtain ⟨p1, p2, p3, p4, p5⟩ := hP
      simp only [List.length_append, List.length_singleton] at p3 p4
      simp only [dlt, decide_eq_true hk, cond_true, nthI_get hk, bind_some', e1, w64_succ hk (show us.length < 9223372036854775808 by omega)]
      rw [decide_eq_true (by omega), cond_true]
      have hlw : r.2.1.length ≤ w.length + 1 := by omega
      refine ⟨_, rfl, out ++ r.1, r.2.1, r.2.2, st', rfl, fun rest => ?_, by omega, by simp; omega, by omega⟩
      rw [List.append_assoc, ← p1 rest, List.append_assoc, h1, List.take_succ_eq_append_getElem hk, List.append_assoc])
    (by
      rintro x ⟨out, w, a, st, rfl, h1, h2, h3, h4⟩
      unfold machine_All_dec_L0
      obtain ⟨st', e1⟩ := match_end_eq hf hS hT (a := a) (st := st) (w := w) (by omega) (by omega) (by omega)
      simp only [dlt, decide_eq_false (Nat.lt_irrefl us.length), cond_false, e1, bind_some']
      have hl := toksA_len (rs := rs) w a
      rw [decide_eq_true (by omega), cond_true]
      have := h1 []
      simp only [List.append_nil, List.take_length] at this
      rw [Option.map_some, this, h2]
      exact ⟨_, rfl, st', rfl⟩)
    fu 0 (us, (([] : List Tok), (us, ((us.length : Int), ((0 : Int), (N, (outsOf rs, (([] : List Int), (a0, st))))))))) (by omega) (by unfold Fu at hf; omega)
    ⟨[], [], a0, st, rfl, fun rest => by simp, by simp, by simp, Int.le_refl _⟩
  exact ⟨st', by rw [h1, h2]⟩

/-! ### What stands ahead -/
def joinB (rs : List Rule) (ahead us : List Int) : Bool := decide (ahead ≠ [] ∧ ahead.length < nn rs (ahead ++ us))
def joinT (rs : List Rule) (ahead : List Int) (x : Tok) : Tok := if x.2.2.2 = 0 ∧ joinB rs ahead x.2.2.1 = true then (x.1, (x.2.1, (([] : List Int), (3 : Int)))) else x
def aheadT (rs : List Rule) (ahead : List Int) (x : Tok) : List Int := if (joinT rs ahead x).2.2.2 = 0 then x.2.2.1 else ahead
def joinF (rs : List Rule) : List Int → List Tok → List Tok × List Int
  | ahead, [] => ([], ahead)
  | ahead, x :: xs => (joinT rs ahead x :: (joinF rs (aheadT rs ahead x) xs).1, (joinF rs (aheadT rs ahead x) xs).2)
theorem joinF_append (rs : List Rule) : ∀ (xs ys : List Tok) (ahead : List Int), joinF rs ahead (xs ++ ys) = ((joinF rs ahead xs).1 ++ (joinF rs (joinF rs ahead xs).2 ys).1, (joinF rs (joinF rs ahead xs).2 ys).2)
  | [], ys, ahead => rfl
  | x :: xs, ys, ahead => by simp only [List.cons_append, joinF, joinF_append rs xs ys]
theorem joinF_len (rs : List Rule) : ∀ (xs : List Tok) (ahead : List Int), (joinF rs ahead xs).1.length = xs.length
  | [], _ => rfl
  | x :: xs, ahead => by simp only [joinF, List.length_cons, joinF_len rs xs]
def fewO (xs : List Tok) : Prop := ∀ x ∈ xs, x.2.2.1.length ≤ 8
theorem tok_few {rs : List Rule} (hS : Sides rs) (a : Int) (us : List Int) : (tok rs a us).2.2.1.length ≤ 8 := by
  unfold tok
  split
  · simp
  · unfold outI
    simp only
    split
    · rename_i r hr
      have := sideB_len (hS.side _ (List.mem_of_getElem? hr)).2
      omega
    · simp
theorem toksA_few {rs : List Rule} (hS : Sides rs) : ∀ (us : List Int) (a : Int), fewO (toksA rs a us) := by
  intro us
  induction us using toks_ind (rs := rs) with
  | h0 => intro a x hx; cases hx
  | h1 us hne ih =>
    intro a x hx
    rw [toksA_cons hne] at hx
    rcases List.mem_cons.1 hx with rfl | hx
    · exact tok_few hS a us
    · exact ih _ x hx
theorem takeF_few {rs : List Rule} (hS : Sides rs) (e : Bool) : ∀ (n : Nat) (a : Int) (w : List Int), fewO (takeF rs e n a w).1 := by
  intro n
  induction n with
  | zero => intro a w x hx; simp [takeF] at hx
  | succ n ih =>
    intro a w x hx
    simp only [takeF] at hx
    split at hx
    · cases hx
    · split at hx
      · cases hx
      · rcases List.mem_cons.1 hx with rfl | hx
        · exact tok_few hS a w
        · exact ih _ _ x hx

structure TabOk (N1 N2 : List Node) (rs : List Rule) : Prop where
  right : Right rs
  read : TrieOk N1 rs
  write : TrieOk N2 (turn rs)
theorem joins_eq (hf : Fu fu) {rs : List Rule} (hS : Sides rs) {N1 N2 : List Node} {R1 R2 : List Rule} (hT : TrieOk N1 rs) {i o : Int} {ahead us : List Int} (h1 : ahead.length ≤ 1000) (h2 : us.length ≤ 1000) :
    table_Table_Joins fu (i, (o, (N1, (R1, (N2, (R2, (ahead, us))))))) = some (joinB rs ahead us) := by
  unfold table_Table_Joins joinB
  by_cases h0 : ahead = []
  · subst h0
    simp
  · have hpos : 0 < ahead.length := List.length_pos_iff.2 h0
    have e : ((ahead.length : Int) == 0) = false := by rw [beq_eq_false_iff_ne]; omega
    simp only [e, cond_false, clone_eq (fu := fu) hpos (by omega), bind_some']
    rw [decide_eq_true (by omega), cond_true, longest_trie hf hS hT (by unfold small; simp; omega), bind_some', lng_nn]
    congr 1
    rw [decide_eq_decide]
    simp only [ne_eq, h0, not_false_eq_true, true_and]
    omega
theorem join_eq (hf : Fu fu) {rs : List Rule} (hS : Sides rs) {N1 N2 : List Node} {R1 R2 : List Rule} (hT : TrieOk N1 rs) {i o : Int} {ahead : List Int} {x : Tok} (h1 : ahead.length ≤ 1000) (h2 : x.2.2.1.length ≤ 1000) :
    table_Table_Join fu (i, (o, (N1, (R1, (N2, (R2, (ahead, (x.1, (x.2.1, (x.2.2.1, x.2.2.2)))))))))) = some (joinT rs ahead x) := by
  unfold table_Table_Join joinT
  by_cases h0 : x.2.2.2 = 0
  · have e : (x.2.2.2 == 0) = true := by simpa using h0
    simp only [e, cond_true, joins_eq hf hS hT h1 h2, bind_some']
    cases hj : joinB rs ahead x.2.2.1 with
    | true => simp [h0]
    | false => simp
  · have e : (x.2.2.2 == 0) = false := by simpa using h0
    simp only [e, cond_false, h0, false_and, if_false]
theorem joinT_out {rs : List Rule} {ahead : List Int} {x : Tok} : (joinT rs ahead x).2.2.1.length ≤ x.2.2.1.length := by
  unfold joinT; split <;> simp
theorem joinF_few {rs : List Rule} : ∀ (xs : List Tok) (ahead : List Int), fewO xs → ahead.length ≤ 8 → fewO (joinF rs ahead xs).1 ∧ (joinF rs ahead xs).2.length ≤ 8
  | [], ahead, _, h => ⟨fun x hx => (by cases hx), h⟩
  | x :: xs, ahead, hx, h => by
    have hah : (aheadT rs ahead x).length ≤ 8 := by
      unfold aheadT
      split
      · exact hx x (by simp)
      · exact h
    obtain ⟨k1, k2⟩ := joinF_few xs (aheadT rs ahead x) (fun y hy => hx y (List.mem_cons_of_mem _ hy)) hah
    refine ⟨fun y hy => ?_, k2⟩
    rcases List.mem_cons.1 hy with rfl | hy
    · exact Nat.le_trans joinT_out (hx x (by simp))
    · exact k1 y hy
theorem enc_join_eq (hf : Fu fu) {rs : List Rule} (hS : Sides rs) {N1 N2 N3 : List Node} {R1 R2 R3 : List Rule} (hT : TrieOk N1 rs) {i o a st : Int} {ahead w : List Int} {ts : List Tok} (hts : ts.length ≤ 100000) (hfew : fewO ts) (h1 : ahead.length ≤ 8) :
    machine_Encoder_join fu (ts, (i, (o, (N1, (R1, (N2, (R2, (ahead, (N3, (R3, (w, (a, st)))))))))))) = some ((joinF rs ahead ts).1, (i, (o, (N1, (R1, (N2, (R2, ((joinF rs ahead ts).2, (N3, (R3, (w, (a, st)))))))))))) := by
  unfold machine_Encoder_join
  obtain ⟨v, e1, e2⟩ := loop_n (f := machine_Encoder_join_L0 fu) (n := ts.length)
    (I := fun k x => x = ((joinF rs ahead (ts.take k)).1 ++ ts.drop k, ((ts.length : Int), ((k : Int), (i, (o, (N1, (R1, (N2, (R2, ((joinF rs ahead (ts.take k)).2, (N3, (R3, (w, (a, st)))))))))))))))
    (R := fun v => v = ((joinF rs ahead ts).1, (i, (o, (N1, (R1, (N2, (R2, ((joinF rs ahead ts).2, (N3, (R3, (w, (a, st)))))))))))))
    (by
      rintro k x hk rfl
      left
      unfold machine_Encoder_join_L0
      have hl : (joinF rs ahead (ts.take k)).1.length = k := by rw [joinF_len]; simp; omega
      have hget : ((joinF rs ahead (ts.take k)).1 ++ ts.drop k)[k]? = some ts[k] := by
        rw [List.getElem?_append_right (by omega), hl]
        simp
      have hfk := joinF_few (rs := rs) (ts.take k) ahead (fun x hx => hfew x (List.mem_of_mem_take hx)) h1
      have hset : ∀ y : Tok, ((joinF rs ahead (ts.take k)).1 ++ ts.drop k).set k y = (joinF rs ahead (ts.take k)).1 ++ y :: ts.drop (k + 1) := fun y => by
        rw [List.set_append_right _ _ (by omega), hl, Nat.sub_self, List.drop_eq_getElem_cons hk, List.set_cons_zero]
      have hget2 : ∀ y : Tok, ((joinF rs ahead (ts.take k)).1 ++ y :: ts.drop (k + 1))[k]? = some y := fun y => by
        rw [List.getElem?_append_right (by omega), hl]
        simp
      have heta : ∀ y : Tok, ((y.1, (y.2.1, (y.2.2.1, y.2.2.2))) : Tok) = y := fun y => rfl
      simp only [dlt, decide_eq_true hk, cond_true, nthI_nat, hget, bind_some', Int.toNat_natCast, join_eq (i := i) (o := o) (N2 := N2) (R1 := R1) (R2 := R2) hf hS hT (by omega : (joinF rs ahead (ts.take k)).2.length ≤ 1000) (by have := hfew _ (List.getElem_mem hk); omega : ts[k].2.2.1.length ≤ 1000), heta, hset, hget2,
        w64_succ hk (show ts.length < 9223372036854775808 by omega)]
      have hsn : ts.take (k + 1) = ts.take k ++ [ts[k]] := List.take_succ_eq_append_getElem hk
      have hj := joinF_append rs (ts.take k) [ts[k]] ahead
      rw [← hsn] at hj
      simp only [joinF] at hj
      rw [hj]
      unfold aheadT
      by_cases h0 : (joinT rs (joinF rs ahead (ts.take k)).2 ts[k]).2.2.2 = 0
      · have : ((joinT rs (joinF rs ahead (ts.take k)).2 ts[k]).2.2.2 == 0) = true := by simpa using h0
        simp only [this, cond_true, h0, if_true]
        exact ⟨_, rfl, by simp⟩
      · have : ((joinT rs (joinF rs ahead (ts.take k)).2 ts[k]).2.2.2 == 0) = false := by simpa using h0
        simp only [this, cond_false, h0, if_false]
        exact ⟨_, rfl, by simp⟩)
    (by
      rintro x rfl
      unfold machine_Encoder_join_L0
      simp only [dlt, decide_eq_false (Nat.lt_irrefl ts.length), cond_false, List.take_length, List.drop_length, List.append_nil]
      exact ⟨_, rfl, rfl⟩)
    fu 0 (ts, ((ts.length : Int), ((0 : Int), (i, (o, (N1, (R1, (N2, (R2, (ahead, (N3, (R3, (w, (a, st)))))))))))))) (by omega) (by unfold Fu at hf; omega) (by simp [joinF])
  rw [e1, e2]
end Go.AM.M

namespace Go.AM.M
open Go.AM
variable {fu : Nat}

theorem enc_put_eq (hf : Fu fu) {rs ws : List Rule} (hS : Sides rs) (hW : Sides ws) {N1 N2 N3 : List Node} {R1 R2 : List Rule} (hT : TrieOk N1 rs) (hT3 : TrieOk N3 ws) {i o a st u : Int} {ahead w : List Int} (hw : w.length ≤ 10000) (ha : 0 ≤ a) (ha2 : a ≤ 100000000000) (h1 : ahead.length ≤ 8) :
    ∃ r st', machine_Encoder_Put fu (u, (i, (o, (N1, (R1, (N2, (R2, (ahead, (N3, (outsOf ws, (w, (a, st)))))))))))) = some ((joinF rs ahead r.1).1, (i, (o, (N1, (R1, (N2, (R2, ((joinF rs ahead r.1).2, (N3, (outsOf ws, (r.2.1, (r.2.2, st')))))))))))) ∧ r = takeF ws false (w.length + 1) a (w ++ [u]) := by
  unfold machine_Encoder_Put
  obtain ⟨r, st', e1, e2⟩ := match_put_eq hf hW hT3 (u := u) (a := a) (st := st) (w := w) (by omega) ha ha2
  have hP := takeF_put (rs := ws) (w.length + 1) a (w ++ [u]) (by simp)
  rw [← e2] at hP
  have hl := hP.len
  simp only [List.length_append, List.length_singleton] at hl
  refine ⟨r, st', ?_, e2⟩
  simp only [e1, bind_some']
  rw [enc_join_eq hf hS hT (by omega) (by rw [e2]; exact takeF_few hW _ _ _ _) h1]
  rfl
theorem enc_end_eq (hf : Fu fu) {rs ws : List Rule} (hS : Sides rs) (hW : Sides ws) {N1 N2 N3 : List Node} {R1 R2 : List Rule} (hT : TrieOk N1 rs) (hT3 : TrieOk N3 ws) {i o a st : Int} {ahead w : List Int} (hw : w.length ≤ 10000) (ha : 0 ≤ a) (ha2 : a ≤ 100000000000) (h1 : ahead.length ≤ 8) :
    ∃ st', machine_Encoder_End fu (i, (o, (N1, (R1, (N2, (R2, (ahead, (N3, (outsOf ws, (w, (a, st))))))))))) = some ((joinF rs ahead (toksA ws a w)).1, (i, (o, (N1, (R1, (N2, (R2, ((joinF rs ahead (toksA ws a w)).2, (N3, (outsOf ws, (([] : List Int), (a + (w.length : Int), st')))))))))))) := by
  unfold machine_Encoder_End
  obtain ⟨st', e1⟩ := match_end_eq hf hW hT3 (a := a) (st := st) (w := w) (by omega) ha ha2
  refine ⟨st', ?_⟩
  simp only [e1, bind_some']
  have := toksA_len (rs := ws) w a
  rw [enc_join_eq hf hS hT (by omega) (toksA_few hW _ _) h1]
  rfl
theorem all_enc_eq (hf : Fu fu) {rs ws : List Rule} (hS : Sides rs) (hW : Sides ws) {N1 N2 N3 : List Node} {R1 R2 : List Rule} (hT : TrieOk N1 rs) (hT3 : TrieOk N3 ws) {us : List Int} (hu : us.length ≤ 1000) {i o a0 st : Int} {ah : List Int} (ha : 0 ≤ a0) (ha2 : a0 ≤ 10000000000) (hah : ah.length ≤ 8) :
    ∃ st', machine_All_enc fu (us, (i, (o, (N1, (R1, (N2, (R2, (ah, (N3, (outsOf ws, (([] : List Int), (a0, st)))))))))))) =
      some ((joinF rs ah (toksA ws a0 us)).1, (i, (o, (N1, (R1, (N2, (R2, ((joinF rs ah (toksA ws a0 us)).2, (N3, (outsOf ws, (([] : List Int), (a0 + (us.length : Int), st')))))))))))) := by
  unfold machine_All_enc
  obtain ⟨v, h1, st', h2⟩ := loop_n (f := machine_All_enc_L0 fu) (n := us.length)
    (I := fun k x => ∃ (out raw : List Tok) (ahead w : List Int) (a st : Int), x = (us, (out, (us, ((us.length : Int), ((k : Int), (i, (o, (N1, (R1, (N2, (R2, (ahead, (N3, (outsOf ws, (w, (a, st))))))))))))))))
      ∧ joinF rs ah raw = (out, ahead) ∧ fewO raw ∧ (∀ rest, raw ++ toksA ws a (w ++ rest) = toksA ws a0 (us.take k ++ rest)) ∧ a + (w.length : Int) = a0 + (k : Int) ∧ out.length + w.length ≤ k ∧ a0 ≤ a)
    (R := fun v => ∃ st', v = ((joinF rs ah (toksA ws a0 us)).1, (i, (o, (N1, (R1, (N2, (R2, ((joinF rs ah (toksA ws a0 us)).2, (N3, (outsOf ws, (([] : List Int), (a0 + (us.length : Int), st')))))))))))))
    (by
      rintro k x hk ⟨out, raw, ahead, w, a, st, rfl, hj, hfw, h1, h2, h3, h4⟩
      left
      unfold machine_All_enc_L0
      have hfj := joinF_few (rs := rs) raw ah hfw hah
      rw [hj] at hfj
      obtain ⟨r, st', e1, e2⟩ := enc_put_eq hf hS hW hT hT3 (i := i) (o := o) (N2 := N2) (R1 := R1) (R2 := R2) (u := us[k]) (a := a) (st := st) (ahead := ahead) (w := w) (by omega) (by omega) (by omega) hfj.2
      have hP := takeF_put (rs := ws) (w.length + 1) a (w ++ [us[k]]) (by simp)
      rw [← e2] at hP
      obtain ⟨p1, p2, p3, p4, p5⟩ := hP
      simp only [List.length_append, List.length_singleton] at p3 p4
      simp only [dlt, decide_eq_true hk, cond_true, nthI_get hk, bind_some', e1, w64_succ hk (show us.length < 9223372036854775808 by omega), joinF_len]
      rw [decide_eq_true (by omega), cond_true]
      refine ⟨_, rfl, out ++ (joinF rs ahead r.1).1, raw ++ r.1, _, r.2.1, r.2.2, st', rfl, ?_, ?_, fun rest => ?_, by omega, by simp [joinF_len]; omega, by omega⟩
      · rw [joinF_append, hj]
      · intro x hx
        rw [List.mem_append] at hx
        rcases hx with hx | hx
        · exact hfw x hx
        · rw [e2] at hx; exact takeF_few hW _ _ _ _ x hx
      · rw [List.append_assoc, ← p1 rest, List.append_assoc, h1, List.take_succ_eq_append_getElem hk, List.append_assoc])
    (by
      rintro x ⟨out, raw, ahead, w, a, st, rfl, hj, hfw, h1, h2, h3, h4⟩
      unfold machine_All_enc_L0
      have hfj := joinF_few (rs := rs) raw ah hfw hah
      rw [hj] at hfj
      obtain ⟨st', e1⟩ := enc_end_eq hf hS hW hT hT3 (i := i) (o := o) (N2 := N2) (R1 := R1) (R2 := R2) (a := a) (st := st) (ahead := ahead) (w := w) (by omega) (by omega) (by omega) hfj.2
      simp only [dlt, decide_eq_false (Nat.lt_irrefl us.length), cond_false, e1, bind_some', joinF_len]
      have hl := toksA_len (rs := ws) w a
      rw [decide_eq_true (by omega), cond_true]
      have := h1 []
      simp only [List.append_nil, List.take_length] at this
      have hja := joinF_append rs raw (toksA ws a w) ah
      rw [hj, this] at hja
      rw [Option.map_some, hja, h2]
      exact ⟨_, rfl, st', rfl⟩)
    fu 0 (us, (([] : List Tok), (us, ((us.length : Int), ((0 : Int), (i, (o, (N1, (R1, (N2, (R2, (ah, (N3, (outsOf ws, (([] : List Int), (a0, st)))))))))))))))) (by omega) (by unfold Fu at hf; omega)
    ⟨[], [], ah, [], a0, st, rfl, rfl, (fun x hx => (by cases hx)), fun rest => by simp, by simp, by simp, Int.le_refl _⟩
  exact ⟨st', by rw [h1, h2]⟩

/-! ### The law's words -/
theorem joinB_iff {rs : List Rule} {ahead us : List Int} : joinB rs ahead us = true ↔ ahead ≠ [] ∧ ∃ r ∈ rs, ahead.length < r.1.length ∧ r.1.length ≤ (ahead ++ us).length ∧ r.1 = (ahead ++ us).take r.1.length := by
  unfold joinB
  rw [decide_eq_true_iff]
  refine and_congr_right fun hne => ⟨fun h => ?_, ?_⟩
  · obtain ⟨r, hr, e⟩ := anyIn_iff.1 (lngN_has (rs := rs) (us := ahead ++ us) (ahead ++ us).length (by unfold nn at h; omega))
    have hl : r.1.length = nn rs (ahead ++ us) := by
      have := congrArg List.length e
      rw [List.length_take] at this
      have h2 := nn_le rs (ahead ++ us)
      unfold nn at h2 ⊢
      omega
    exact ⟨r, hr, by omega, by have := nn_le rs (ahead ++ us); omega, by rw [hl]; exact e⟩
  · rintro ⟨r, hr, h1, h2, h3⟩
    have := lngN_max (rs := rs) (us := ahead ++ us) (n := r.1.length) (by omega) (anyIn_iff.2 ⟨r, hr, h3⟩) (ahead ++ us).length h2
    unfold nn
    omega
theorem joins15_eq (hf : Fu fu) {rs : List Rule} (hS : Sides rs) {ahead us : List Int} (h1 : ahead.length ≤ 1000) (h2 : us.length ≤ 1000) : lontarlaw15_Joins fu (rs, (ahead, us)) = some (joinB rs ahead us) := by
  unfold lontarlaw15_Joins
  have h512 := hS.len
  simp only
  rw [decide_eq_true (by omega), decide_eq_true (by omega), cond_true, cond_true]
  have := loop_find (f := lontarlaw15_Joins_L0 fu) (l := rs) (p := fun r => decide (ahead ≠ [] ∧ ahead.length < r.1.length ∧ r.1.length ≤ (ahead ++ us).length ∧ r.1 = (ahead ++ us).take r.1.length))
    (st := fun k => (rs, (ahead, (ahead ++ us, (rs, ((rs.length : Int), (k : Int))))))) (yes := fun _ => true) (no := false) (fu := fu)
    (fun k h => by
      unfold lontarlaw15_Joins_L0
      have hs := sideB_len (hS.side _ (List.getElem_mem h)).1
      have d1 : decide ((ahead.length : Int) > 0) = decide (ahead ≠ []) := by
        rw [decide_eq_decide]
        cases ahead <;> simp
      have d2 : decide ((rs[k].1.length : Int) > (ahead.length : Int)) = decide (ahead.length < rs[k].1.length) := by rw [decide_eq_decide]; omega
      have d3 : decide ((rs[k].1.length : Int) ≤ ((ahead ++ us).length : Int)) = decide (rs[k].1.length ≤ (ahead ++ us).length) := by rw [decide_eq_decide]; omega
      simp only [dlt, decide_eq_true h, cond_true, nthI_get h, bind_some', d1, d2, d3, w64_succ h (show rs.length < 9223372036854775808 by omega)]
      by_cases c1 : ahead = []
      · simp [c1]
      · by_cases c2 : ahead.length < rs[k].1.length
        · by_cases c3 : rs[k].1.length ≤ (ahead ++ us).length
          · rw [sliceI_to c3, bind_some', units_eq hf (by unfold small; omega), bind_some']
            by_cases c4 : rs[k].1 = (ahead ++ us).take rs[k].1.length
            · have hd : decide (ahead ≠ [] ∧ ahead.length < rs[k].1.length ∧ rs[k].1.length ≤ (ahead ++ us).length ∧ rs[k].1 = (ahead ++ us).take rs[k].1.length) = true := decide_eq_true ⟨c1, c2, c3, c4⟩
              rw [decide_eq_true (show ahead ≠ [] from c1), decide_eq_true c2, decide_eq_true c3, decide_eq_true c4, hd]; rfl
            · have hd : decide (ahead ≠ [] ∧ ahead.length < rs[k].1.length ∧ rs[k].1.length ≤ (ahead ++ us).length ∧ rs[k].1 = (ahead ++ us).take rs[k].1.length) = false := decide_eq_false fun h => c4 h.2.2.2
              rw [decide_eq_true (show ahead ≠ [] from c1), decide_eq_true c2, decide_eq_true c3, decide_eq_false c4, hd]; rfl
          · have hd : decide (ahead ≠ [] ∧ ahead.length < rs[k].1.length ∧ rs[k].1.length ≤ (ahead ++ us).length ∧ rs[k].1 = (ahead ++ us).take rs[k].1.length) = false := decide_eq_false fun h => c3 h.2.2.1
            rw [decide_eq_true (show ahead ≠ [] from c1), decide_eq_true c2, decide_eq_false c3, hd]; rfl
        · have hd : decide (ahead ≠ [] ∧ ahead.length < rs[k].1.length ∧ rs[k].1.length ≤ (ahead ++ us).length ∧ rs[k].1 = (ahead ++ us).take rs[k].1.length) = false := decide_eq_false fun h => c2 h.2.1
          rw [decide_eq_true (show ahead ≠ [] from c1), decide_eq_false c2, hd]; rfl)
    (by
      unfold lontarlaw15_Joins_L0
      simp only [dlt, decide_eq_false (Nat.lt_irrefl rs.length), cond_false])
    (by unfold Fu at hf; omega)
  simp only [Int.ofNat_zero] at this
  rw [show ((0 : Int)) = ((0 : Nat) : Int) from rfl] at *
  rw [this]
  cases e : findN (fun r : Rule => decide (ahead ≠ [] ∧ ahead.length < r.1.length ∧ r.1.length ≤ (ahead ++ us).length ∧ r.1 = (ahead ++ us).take r.1.length)) rs with
  | none =>
    have hn := findN_none.1 e
    congr 1
    rw [eq_comm, Bool.eq_false_iff]
    intro hj
    obtain ⟨hne, r, hr, k1, k2, k3⟩ := joinB_iff.1 hj
    have := hn r hr
    rw [decide_eq_false_iff_not] at this
    exact this ⟨hne, k1, k2, k3⟩
  | some k =>
    obtain ⟨hk, k1, _⟩ := findN_some e
    rw [decide_eq_true_eq] at k1
    congr 1
    rw [eq_comm]
    exact joinB_iff.2 ⟨k1.1, _, List.getElem_mem hk, k1.2⟩
theorem encode15_eq (hf : Fu fu) {rs : List Rule} (hS : Sides rs) {us : List Int} (hu : us.length ≤ 1000) : lontarlaw15_Encode fu (rs, us) = some (joinF rs [] (toksA (turn rs) 0 us)).1 := by
  unfold lontarlaw15_Encode
  have hW := (turn_right hS).toSides
  rw [turn_eq hf hS, bind_some', all05_eq hf hW (us := us) (by omega), bind_some']
  have hfw := toksA_few hW us 0
  have hlen := toksA_len (rs := turn rs) us 0
  generalize toksA (turn rs) 0 us = ts at hfw hlen ⊢
  obtain ⟨v, h1, h2⟩ := loop_n (f := lontarlaw15_Encode_L0 fu) (n := ts.length)
    (I := fun k x => x = (rs, ((joinF rs [] (ts.take k)).1 ++ ts.drop k, ((joinF rs [] (ts.take k)).2, ((ts.length : Int), (k : Int))))))
    (R := fun v => v = (joinF rs [] ts).1)
    (by
      rintro k x hk rfl
      left
      unfold lontarlaw15_Encode_L0
      have hl : (joinF rs [] (ts.take k)).1.length = k := by rw [joinF_len]; simp; omega
      have hget : ((joinF rs [] (ts.take k)).1 ++ ts.drop k)[k]? = some ts[k] := by
        rw [List.getElem?_append_right (by omega), hl]
        simp
      have hfk := joinF_few (rs := rs) (ts.take k) [] (fun x hx => hfw x (List.mem_of_mem_take hx)) (by simp)
      have hset : ∀ y : Tok, ((joinF rs [] (ts.take k)).1 ++ ts.drop k).set k y = (joinF rs [] (ts.take k)).1 ++ y :: ts.drop (k + 1) := fun y => by
        rw [List.set_append_right _ _ (by omega), hl, Nat.sub_self, List.drop_eq_getElem_cons hk, List.set_cons_zero]
      have hsn : ts.take (k + 1) = ts.take k ++ [ts[k]] := List.take_succ_eq_append_getElem hk
      have hj := joinF_append rs (ts.take k) [ts[k]] []
      rw [← hsn] at hj
      simp only [joinF] at hj
      rw [hj]
      simp only [dlt, decide_eq_true hk, cond_true, nthI_nat, hget, bind_some', Int.toNat_natCast, w64_succ hk (show ts.length < 9223372036854775808 by omega),
        joins15_eq hf hS (by omega : (joinF rs [] (ts.take k)).2.length ≤ 1000) (by have := hfw _ (List.getElem_mem hk); omega : ts[k].2.2.1.length ≤ 1000), hset]
      have hdrop : ts.drop k = ts[k] :: ts.drop (k + 1) := List.drop_eq_getElem_cons hk
      unfold aheadT joinT
      by_cases h0 : ts[k].2.2.2 = 0
      · have : (ts[k].2.2.2 != 0) = false := by simpa using h0
        rw [this, cond_false]
        cases hjb : joinB rs (joinF rs [] (ts.take k)).2 ts[k].2.2.1 with
        | true =>
          simp only [cond_true, h0, true_and, if_true]
          exact ⟨_, rfl, by simp⟩
        | false =>
          simp only [cond_false, h0, true_and, Bool.false_eq_true, if_false, if_true]
          exact ⟨_, rfl, by rw [hdrop]; simp⟩
      · have : (ts[k].2.2.2 != 0) = true := by simpa using h0
        rw [this, cond_true]
        simp only [h0, false_and, if_false]
        exact ⟨_, rfl, by rw [hdrop]; simp⟩)
    (by
      rintro x rfl
      unfold lontarlaw15_Encode_L0
      simp only [dlt, decide_eq_false (Nat.lt_irrefl ts.length), cond_false, List.take_length, List.drop_length, List.append_nil]
      exact ⟨_, rfl, rfl⟩)
    fu 0 (rs, (ts, (([] : List Int), ((ts.length : Int), (0 : Int))))) (by omega) (by unfold Fu at hf; omega) (by simp [joinF])
  rw [h1, h2]

theorem same_eq (hf : Fu fu) {a b : List Tok} (ha : small a) (hs : ∀ x ∈ a, small x.2.2.1) : lontarlaw01_Same fu (a, b) = some (decide (a = b)) := by
  unfold lontarlaw01_Same
  have hne : ((a.length : Int) != (b.length : Int)) = !decide (a.length = b.length) := by
    by_cases h : a.length = b.length
    · simp [h]
    · have : (a.length : Int) ≠ (b.length : Int) := by omega
      simp [h]; omega
  simp only [hne]
  by_cases h : a.length = b.length
  · simp only [h, decide_true, Bool.not_true, cond_false]
    rw [← h]
    obtain ⟨r, h1, h2⟩ := loop_n (f := lontarlaw01_Same_L0 fu) (n := a.length) (I := fun k x => x = (a, (b, ((a.length : Int), (k : Int)))) ∧ ∀ j, j < k → a[j]? = b[j]?) (R := fun r => r = decide (a = b))
      (fun k x hk ⟨e, hj⟩ => by
        subst e
        unfold lontarlaw01_Same_L0
        have hkb : k < b.length := by omega
        simp only [dlt, decide_eq_true hk, cond_true, nthI_get hk, nthI_get hkb, bind_some', units_eq hf (hs _ (List.getElem_mem hk)), w64_succ hk ha]
        have hno : a[k] ≠ b[k] → false = decide (a = b) := fun hne => by
          rw [eq_comm, decide_eq_false_iff_not]
          rintro rfl
          exact hne rfl
        by_cases c1 : a[k].1 = b[k].1
        · by_cases c2 : a[k].2.1 = b[k].2.1
          · by_cases c3 : a[k].2.2.2 = b[k].2.2.2
            · by_cases c4 : a[k].2.2.1 = b[k].2.2.1
              · left
                simp only [c1, c2, c3, c4, bne_self_eq_false, cond_false, decide_true, Bool.not_true]
                refine ⟨_, rfl, rfl, fun j hj' => ?_⟩
                rcases Nat.lt_or_ge j k with h | h
                · exact hj j h
                · have : j = k := by omega
                  subst this
                  rw [List.getElem?_eq_getElem hk, List.getElem?_eq_getElem hkb]
                  congr 1
                  exact Prod.ext c1 (Prod.ext c2 (Prod.ext c4 c3))
              · right
                simp only [c1, c2, c3, c4, bne_self_eq_false, cond_false, decide_false, Bool.not_false, cond_true]
                exact ⟨_, rfl, hno fun e => c4 (by rw [e])⟩
            · right
              have : (a[k].2.2.2 != b[k].2.2.2) = true := by simpa using c3
              simp only [c1, c2, this, bne_self_eq_false, cond_false, cond_true]
              exact ⟨_, rfl, hno fun e => c3 (by rw [e])⟩
          · right
            have : (a[k].2.1 != b[k].2.1) = true := by simpa using c2
            simp only [c1, this, bne_self_eq_false, cond_false, cond_true]
            exact ⟨_, rfl, hno fun e => c2 (by rw [e])⟩
        · right
          have : (a[k].1 != b[k].1) = true := by simpa using c1
          simp only [this, cond_true]
          exact ⟨_, rfl, hno fun e => c1 (by rw [e])⟩)
      (fun x ⟨e, hj⟩ => by
        subst e
        unfold lontarlaw01_Same_L0
        simp only [dlt, decide_eq_false (Nat.lt_irrefl a.length), cond_false]
        refine ⟨_, rfl, ?_⟩
        rw [eq_comm, decide_eq_true_iff]
        apply List.ext_getElem?
        intro i
        rcases Nat.lt_or_ge i a.length with h | h
        · exact hj i h
        · rw [List.getElem?_eq_none h, List.getElem?_eq_none (by omega)])
      fu 0 (a, (b, ((a.length : Int), (0 : Int)))) (by omega) (by unfold Fu at hf; unfold small at ha; omega) ⟨rfl, fun j hj => by omega⟩
    rw [h1, h2]
  · simp only [h, decide_false, Bool.not_false, cond_true]
    rw [decide_eq_false]; rintro rfl; exact h rfl

/-- The table of rules that are right and closed. -/
theorem table_eq (hf : Fu fu) {rs : List Rule} (hR : Right rs) (hc : closedP rs) : ∃ N1 N2, table_Of fu rs = some (.inr ((maxIn rs : Int), ((maxIn (turn rs) : Int), (N1, (outsOf rs, (N2, (outsOf (turn rs), (0 : Int)))))))) ∧ TrieOk N1 rs ∧ TrieOk N2 (turn rs) := by
  obtain ⟨N1, e1, t1⟩ := trie_eq hf hR
  have hT := turn_right hR.toSides
  obtain ⟨N2, e2, t2⟩ := trie_eq hf hT
  refine ⟨N1, N2, ?_, t1, t2⟩
  unfold table_Of
  simp only [e1, bind_some', bne_self_eq_false, cond_false, tclosed_eq hf hR.toSides hc, Bool.not_true, turn_eq hf hR.toSides, longest_eq hf (small_512 hR.len), longest_eq hf (small_512 hT.len), e2]
theorem some04_eq (hf : Fu fu) {l : List Int} : ∃ us, lontarlaw04_Some fu l = some us ∧ us.length ≤ 60 ∧ us.length ≤ l.length := by
  unfold lontarlaw04_Some
  have hm : ∃ m : Nat, (if (60 : Int) < (l.length : Int) then (60 : Int) else (l.length : Int)) = (m : Int) ∧ m ≤ 60 ∧ m ≤ l.length := by
    split
    · exact ⟨60, rfl, by omega, by omega⟩
    · exact ⟨l.length, rfl, by omega, by omega⟩
  obtain ⟨m, hm, h4, hml⟩ := hm
  rw [hm, sliceI_to hml, bind_some']
  have hlen : (l.take m).length = m := by simp; omega
  rw [hlen]
  refine loop_n (n := m) (I := fun k x => ∃ out : List Int, x = (out, (l.take m, ((m : Int), (k : Int)))) ∧ out.length = k) (R := fun rs : List Int => rs.length ≤ 60 ∧ rs.length ≤ l.length) ?_ ?_ fu 0 _ (by omega) (by unfold Fu at hf; omega) ⟨[], rfl, rfl⟩
  · rintro k x hk ⟨out, rfl, ho⟩
    left
    unfold lontarlaw04_Some_L0
    have hkl : k < (l.take m).length := by omega
    simp only [dlt, decide_eq_true hk, cond_true, nthI_get hkl, bind_some']
    rw [decide_eq_true (by simp [ho]; omega), cond_true, w64_succ hk (by omega)]
    exact ⟨_, rfl, _, rfl, by simp [ho]⟩
  · rintro x ⟨out, rfl, ho⟩
    unfold lontarlaw04_Some_L0
    simp only [dlt, decide_eq_false (Nat.lt_irrefl m), cond_false]
    exact ⟨_, rfl, by omega, by omega⟩
theorem few_eq (hf : Fu fu) (l : List Int) : ∃ us, lontarlaw16_few fu l = some us ∧ us.length ≤ 40 := by
  unfold lontarlaw16_few
  have hm : ∃ m : Nat, (if (40 : Int) < (l.length : Int) then (40 : Int) else (l.length : Int)) = (m : Int) ∧ m ≤ 40 ∧ m ≤ l.length := by
    split
    · exact ⟨40, rfl, by omega, by omega⟩
    · exact ⟨l.length, rfl, by omega, by omega⟩
  obtain ⟨m, hm, h4, hml⟩ := hm
  rw [hm, sliceI_to hml, bind_some']
  obtain ⟨us, h1, h2, h3⟩ := some04_eq hf (l := l.take m)
  rw [h1]
  exact ⟨us, rfl, by simp at h3; omega⟩
end Go.AM.M

namespace Go.AM.M
open Go.AM
def FU64 : Nat := 18446744073709551616
theorem fu64 : Fu FU64 := Nat.le_refl _
theorem awake16 : lontarlaw16_awake FU64 () = some true := by kernel_rfl
end Go.AM.M

namespace Go.AM.M
open Go.AM

theorem fewO_small {xs : List Tok} (h : fewO xs) : ∀ x ∈ xs, small x.2.2.1 := fun x hx => by have := h x hx; unfold small; omega
theorem dec_eq {fu : Nat} {i o : Int} {N1 N2 : List Node} {R1 R2 : List Rule} : machine_Decode fu (i, (o, (N1, (R1, (N2, R2))))) = some (N1, (R1, (([] : List Int), ((0 : Int), (0 : Int))))) := rfl
theorem enc_eq {fu : Nat} {i o : Int} {N1 N2 : List Node} {R1 R2 : List Rule} : machine_Encode fu (i, (o, (N1, (R1, (N2, R2))))) = some (N2, (R2, (([] : List Int), ((0 : Int), ((0 : Int), (i, (o, (N1, (R1, (N2, (R2, ([] : List Int)))))))))))) := rfl

theorem machineDecode_true (rows : List Row) (l : List Int) (hr : ∀ r ∈ rows, okRow r) : lontarlaw16_MachineDecode FU64 (rows, l) = some true := by
  unfold lontarlaw16_MachineDecode
  obtain ⟨rs, e1, hl, hR, hc⟩ := rules15_eq fu64 hr
  obtain ⟨N1, N2, e2, t1, t2⟩ := table_eq fu64 hR hc
  obtain ⟨us, e3, hu⟩ := few_eq fu64 l
  obtain ⟨st', e4⟩ := all_dec_eq fu64 hR.toSides t1 (us := us) (by omega) (a0 := 0) (st := 0) (by omega) (by omega)
  have hlen := toksA_len (rs := rs) us 0
  simp only [awake16, bind_some', Bool.not_true, cond_false, e1, e2, bne_self_eq_false, dec_eq, e3, e4, all05_eq fu64 hR.toSides (us := us) (by omega),
    same_eq fu64 (by unfold small; omega : small (toksA rs 0 us)) (fewO_small (toksA_few hR.toSides us 0)), decide_true, cond_true]
  rfl

theorem machineEncode_true (rows : List Row) (l : List Int) (hr : ∀ r ∈ rows, okRow r) : lontarlaw16_MachineEncode FU64 (rows, l) = some true := by
  unfold lontarlaw16_MachineEncode
  obtain ⟨rs, e1, hl, hR, hc⟩ := rules15_eq fu64 hr
  obtain ⟨N1, N2, e2, t1, t2⟩ := table_eq fu64 hR hc
  obtain ⟨us, e3, hu⟩ := few_eq fu64 l
  have hW := (turn_right hR.toSides).toSides
  obtain ⟨st', e4⟩ := all_enc_eq fu64 hR.toSides hW t1 t2 (us := us) (by omega) (i := (maxIn rs : Int)) (o := (maxIn (turn rs) : Int)) (N2 := N2) (R1 := outsOf rs) (R2 := outsOf (turn rs)) (a0 := 0) (st := 0) (ah := []) (by omega) (by omega) (by simp)
  have hlen := toksA_len (rs := turn rs) us 0
  have hfw := (joinF_few (rs := rs) (toksA (turn rs) 0 us) [] (toksA_few hW us 0) (by simp)).1
  simp only [awake16, bind_some', Bool.not_true, cond_false, e1, e2, bne_self_eq_false, enc_eq, e3, e4, encode15_eq fu64 hR.toSides (us := us) (by omega),
    same_eq fu64 (by unfold small; rw [joinF_len]; omega : small (joinF rs [] (toksA (turn rs) 0 us)).1) (fewO_small hfw), decide_true, cond_true]
  rfl

theorem open_max {rs : List Rule} {w : List Int} (h : w = [] ∨ openB rs w = true) : (w.length : Int) < max 1 (maxIn rs : Int) := by
  rcases h with rfl | h
  · simp; omega
  · unfold openB at h
    rw [List.any_eq_true] at h
    obtain ⟨r, hr, e⟩ := h
    simp only [decide_eq_true_eq] at e
    have := maxIn_le r hr
    omega
theorem maxI (n : Int) : (if n > 1 then n else 1) = max 1 n := by omega

theorem machineHeld_true (rows : List Row) (l : List Int) (hr : ∀ r ∈ rows, okRow r) : lontarlaw16_MachineHeld FU64 (rows, l) = some true := by
  unfold lontarlaw16_MachineHeld
  obtain ⟨rs, e1, hl, hR, hc⟩ := rules15_eq fu64 hr
  obtain ⟨N1, N2, e2, t1, t2⟩ := table_eq fu64 hR hc
  obtain ⟨us, e3, hu⟩ := few_eq fu64 l
  have hS := hR.toSides
  have hW := (turn_right hR.toSides).toSides
  have hTL : table_Table_Longest FU64 ((maxIn rs : Int), ((maxIn (turn rs) : Int), (N1, (outsOf rs, (N2, outsOf (turn rs)))))) = some ((maxIn rs : Int), (maxIn (turn rs) : Int)) := rfl
  simp only [awake16, bind_some', Bool.not_true, cond_false, e1, e2, bne_self_eq_false, enc_eq, dec_eq, e3, hTL]
  obtain ⟨v, h1, h2⟩ := loop_n (f := lontarlaw16_MachineHeld_L0 FU64) (n := us.length)
    (I := fun k x => ∃ (w w2 ah : List Int) (a st a2 st2 : Int), x = ((maxIn rs : Int), ((maxIn (turn rs) : Int), (us, ((us.length : Int), ((k : Int), (N1, (outsOf rs, (w, (a, (st, (N2, (outsOf (turn rs), (w2, (a2, (st2, ((maxIn rs : Int), ((maxIn (turn rs) : Int), (N1, (outsOf rs, (N2, (outsOf (turn rs), ah)))))))))))))))))))))
      ∧ a + (w.length : Int) = (k : Int) ∧ a2 + (w2.length : Int) = (k : Int) ∧ 0 ≤ a ∧ 0 ≤ a2 ∧ ah.length ≤ 8)
    (R := fun v => v = true)
    (by
      rintro k x hk ⟨w, w2, ah, a, st, a2, st2, rfl, h1, h2, h3, h4, h5⟩
      left
      unfold lontarlaw16_MachineHeld_L0
      obtain ⟨r, st', p1, p2⟩ := match_put_eq fu64 hS t1 (u := us[k]) (a := a) (st := st) (w := w) (by omega) (by omega) (by omega)
      have hP := takeF_put (rs := rs) (w.length + 1) a (w ++ [us[k]]) (by simp)
      rw [← p2] at hP
      obtain ⟨r2, st2', q1, q2⟩ := enc_put_eq fu64 hS hW t1 t2 (i := (maxIn rs : Int)) (o := (maxIn (turn rs) : Int)) (N2 := N2) (R1 := outsOf rs) (R2 := outsOf (turn rs)) (u := us[k]) (a := a2) (st := st2) (ahead := ah) (w := w2) (by omega) (by omega) (by omega) h5
      have hP2 := takeF_put (rs := turn rs) (w2.length + 1) a2 (w2 ++ [us[k]]) (by simp)
      rw [← q2] at hP2
      have hfj := joinF_few (rs := rs) r2.1 ah (by rw [q2]; exact takeF_few hW _ _ _ _) h5
      have m1 := open_max hP.op
      have m2 := open_max hP2.op
      have ha1 := hP.at'
      have ha2 := hP2.at'
      have hl1 := hP.len
      have hl2 := hP2.len
      simp only [List.length_append, List.length_singleton] at ha1 ha2 hl1 hl2
      simp only [dlt, decide_eq_true hk, cond_true, nthI_get hk, bind_some', Int.toNat_natCast, List.getElem?_eq_getElem hk, p1, q1, match_Match_Held, machine_Encoder_Held, maxI, w64_succ hk (show us.length < 9223372036854775808 by omega)]
      have d1 : decide ((r.2.1.length : Int) ≥ max 1 (maxIn rs : Int)) = false := by rw [decide_eq_false_iff_not]; omega
      have d2 : decide ((r2.2.1.length : Int) ≥ max 1 (maxIn (turn rs) : Int)) = false := by rw [decide_eq_false_iff_not]; omega
      rw [d1, d2, cond_false, cond_false]
      exact ⟨_, rfl, _, _, _, _, _, _, _, rfl, by omega, by omega, by omega, by omega, hfj.2⟩)
    (by
      rintro x ⟨w, w2, ah, a, st, a2, st2, rfl, _⟩
      unfold lontarlaw16_MachineHeld_L0
      simp only [dlt, decide_eq_false (Nat.lt_irrefl us.length), cond_false]
      exact ⟨_, rfl, rfl⟩)
    FU64 0 _ (by omega) (by show us.length < 0 + FU64; unfold FU64; omega) ⟨[], [], [], 0, 0, 0, 0, rfl, by simp, by simp, by omega, by omega, by simp⟩
  rw [h2] at h1
  exact h1

/-- How long tokens are, together. -/
def lens (ts : List Tok) : Int := ts.foldr (fun x n => x.2.1 + n) 0
theorem tok_len {rs : List Rule} {a : Int} {us : List Int} : (tok rs a us).2.1 = (adv rs us : Int) := by
  unfold tok adv
  split <;> simp <;> omega
theorem lens_take {rs : List Rule} (e : Bool) : ∀ (n : Nat) (a : Int) (w : List Int), w.length ≤ n → lens (takeF rs e n a w).1 + ((takeF rs e n a w).2.1.length : Int) = (w.length : Int) := by
  intro n
  induction n with
  | zero => intro a w h; simp [takeF, lens]
  | succ n ih =>
    intro a w h
    by_cases hne : w = []
    · subst hne; simp [takeF, lens]
    · have h1 := adv_pos rs w
      have h2 := adv_le (rs := rs) hne
      simp only [takeF, if_neg hne]
      split
      · simp [lens]
      · have := ih (a + (adv rs w : Int)) (w.drop (adv rs w)) (by simp; omega)
        simp only [lens, List.foldr_cons, tok_len] at this ⊢
        simp only [List.length_drop] at this
        omega
theorem lens_nonneg {rs : List Rule} (e : Bool) : ∀ (n : Nat) (a : Int) (w : List Int), ∀ x ∈ (takeF rs e n a w).1, 1 ≤ x.2.1 ∧ x.2.1 ≤ (w.length : Int) := by
  intro n
  induction n with
  | zero => intro a w x hx; simp [takeF] at hx
  | succ n ih =>
    intro a w x hx
    simp only [takeF] at hx
    split at hx
    · cases hx
    · rename_i hne
      split at hx
      · cases hx
      · have h1 := adv_pos rs w
        have h2 := adv_le (rs := rs) hne
        rcases List.mem_cons.1 hx with rfl | hx
        · rw [tok_len]; omega
        · have := ih _ _ x hx
          simp only [List.length_drop] at this
          omega
theorem lens_append (a b : List Tok) : lens (a ++ b) = lens a + lens b := by
  induction a with
  | nil => simp [lens]
  | cons x a ih => simp only [lens, List.cons_append, List.foldr_cons] at ih ⊢; omega
theorem machineSoon_true (rows : List Row) (l : List Int) (hr : ∀ r ∈ rows, okRow r) : lontarlaw16_MachineSoon FU64 (rows, l) = some true := by
  unfold lontarlaw16_MachineSoon
  obtain ⟨rs, e1, hl, hR, hc⟩ := rules15_eq fu64 hr
  obtain ⟨N1, N2, e2, t1, t2⟩ := table_eq fu64 hR hc
  obtain ⟨us, e3, hu⟩ := few_eq fu64 l
  have hS := hR.toSides
  simp only [awake16, bind_some', Bool.not_true, cond_false, e1, e2, bne_self_eq_false, dec_eq, e3]
  obtain ⟨v, h1, h2⟩ := loop_n (f := lontarlaw16_MachineSoon_L1 FU64) (n := us.length)
    (I := fun k x => ∃ (w : List Int) (a st s : Int), x = (s, (us, ((us.length : Int), ((k : Int), (N1, (outsOf rs, (w, (a, st)))))))) ∧ s + (w.length : Int) = (k : Int) ∧ a + (w.length : Int) = (k : Int) ∧ 0 ≤ a)
    (R := fun v => v = true)
    (by
      rintro k x hk ⟨w, a, st, s, rfl, hs, ha, h0⟩
      left
      unfold lontarlaw16_MachineSoon_L1
      obtain ⟨r, st', p1, p2⟩ := match_put_eq fu64 hS t1 (u := us[k]) (a := a) (st := st) (w := w) (by omega) (by omega) (by omega)
      have hP := takeF_put (rs := rs) (w.length + 1) a (w ++ [us[k]]) (by simp)
      rw [← p2] at hP
      have ha1 := hP.at'
      have hl1 := hP.len
      have hlens := lens_take (rs := rs) false (w.length + 1) a (w ++ [us[k]]) (by simp)
      have hpos := lens_nonneg (rs := rs) false (w.length + 1) a (w ++ [us[k]])
      rw [← p2] at hlens hpos
      simp only [List.length_append, List.length_singleton] at ha1 hl1 hlens hpos
      simp only [dlt, decide_eq_true hk, cond_true, nthI_get hk, bind_some', Int.toNat_natCast, List.getElem?_eq_getElem hk, p1]
      have hbound : ∀ j, lens (r.1.take j) ≤ (w.length : Int) + 1 ∧ 0 ≤ lens (r.1.take j) := fun j => by
        have hsplit := lens_append (r.1.take j) (r.1.drop j)
        rw [List.take_append_drop] at hsplit
        have hnn : ∀ xs : List Tok, (∀ x ∈ xs, 1 ≤ x.2.1) → 0 ≤ lens xs := by
          intro xs
          induction xs with
          | nil => intro _; simp [lens]
          | cons x xs ih =>
            intro h
            have := ih (fun y hy => h y (List.mem_cons_of_mem _ hy))
            have h1 := h x (by simp)
            simp only [lens, List.foldr_cons] at this ⊢
            omega
        have n1 := hnn (r.1.take j) (fun x hx => (hpos x (List.mem_of_mem_take hx)).1)
        have n2 := hnn (r.1.drop j) (fun x hx => (hpos x (List.mem_of_mem_drop hx)).1)
        omega
      obtain ⟨v, k1, k2⟩ := loop_n (f := lontarlaw16_MachineSoon_L0 FU64) (n := r.1.length)
        (I := fun j x => x = (s + lens (r.1.take j), ((k : Int), (us, ((us.length : Int), ((k : Int), (r.1, ((r.1.length : Int), ((j : Int), (N1, (outsOf rs, (r.2.1, (r.2.2, st')))))))))))))
        (R := fun v => v = .inl (s + lens r.1, (us, ((us.length : Int), (((k + 1 : Nat) : Int), (N1, (outsOf rs, (r.2.1, (r.2.2, st')))))))))
        (by
          rintro j x hj rfl
          left
          unfold lontarlaw16_MachineSoon_L0
          have hsn : lens (r.1.take (j + 1)) = lens (r.1.take j) + r.1[j].2.1 := by
            rw [List.take_succ_eq_append_getElem hj, lens_append]; simp [lens]
          have hb := hbound (j + 1)
          simp only [dlt, decide_eq_true hj, cond_true, nthI_get hj, bind_some', Int.toNat_natCast, List.getElem?_eq_getElem hj, w64_succ hj (show r.1.length < 9223372036854775808 by omega)]
          rw [w64_id (by omega) (by omega)]
          refine ⟨_, rfl, ?_⟩
          rw [hsn, Int.add_assoc])
        (by
          rintro x rfl
          unfold lontarlaw16_MachineSoon_L0
          simp only [dlt, decide_eq_false (Nat.lt_irrefl r.1.length), cond_false, List.take_length, match_Match_Held, bind_some', w64_succ hk (show us.length < 9223372036854775808 by omega)]
          have hb := hbound r.1.length
          rw [List.take_length] at hb
          rw [w64_id (by omega) (by omega)]
          have he : ((s + lens r.1 + (r.2.1.length : Int)) != ((k + 1 : Nat) : Int)) = false := by
            rw [bne_eq_false_iff_eq]; omega
          rw [he, cond_false]
          exact ⟨_, rfl, rfl⟩)
        FU64 0 (s, ((k : Int), (us, ((us.length : Int), ((k : Int), (r.1, ((r.1.length : Int), ((0 : Int), (N1, (outsOf rs, (r.2.1, (r.2.2, st'))))))))))))  (by omega) (by show r.1.length < 0 + FU64; unfold FU64; omega) (by simp [lens])
      rw [k2] at k1
      refine ⟨_, k1, _, _, _, _, rfl, by omega, by omega, by omega⟩)
    (by
      rintro x ⟨w, a, st, s, rfl, _⟩
      unfold lontarlaw16_MachineSoon_L1
      simp only [dlt, decide_eq_false (Nat.lt_irrefl us.length), cond_false]
      exact ⟨_, rfl, rfl⟩)
    FU64 0 _ (by omega) (by show us.length < 0 + FU64; unfold FU64; omega) ⟨[], 0, 0, 0, rfl, by simp, by simp, by omega⟩
  rw [h2] at h1
  exact h1

/-! ### As inputs come -/
abbrev rowSh : Sh := .cons (.sl (.int .u8)) (.cons (.sl (.int .u8)) (.cons .bool (.cons (.sl (.int .i64)) (.sl (.int .i64)))))
theorem small_of {α : Type} {l : List α} (h : l.length ≤ maxLen) : small l := by
  have : maxLen = 9223372036854775807 := rfl
  unfold small; omega
theorem okRow_of {a : (Sh.sl rowSh).den} (h : wfD (.sl rowSh) a) : ∀ r ∈ (show List Row from a), okRow r := fun r hr => by
  obtain ⟨h1, h2, _, h3, h4⟩ := h.2 r hr
  exact ⟨small_of h1.1, small_of h2.1, small_of h3.1, small_of h4.1⟩
theorem machineDecode_law (a0 : (Sh.sl rowSh).den) (a1 : (Sh.sl (.int .u8)).den) (w0 : wfD (.sl rowSh) a0) (_ : wfD (.sl (.int .u8)) a1) : lontarlaw16_MachineDecode FU64 (a0, a1) = some true := machineDecode_true a0 a1 (okRow_of w0)
theorem machineEncode_law (a0 : (Sh.sl rowSh).den) (a1 : (Sh.sl (.int .u8)).den) (w0 : wfD (.sl rowSh) a0) (_ : wfD (.sl (.int .u8)) a1) : lontarlaw16_MachineEncode FU64 (a0, a1) = some true := machineEncode_true a0 a1 (okRow_of w0)
theorem machineHeld_law (a0 : (Sh.sl rowSh).den) (a1 : (Sh.sl (.int .u8)).den) (w0 : wfD (.sl rowSh) a0) (_ : wfD (.sl (.int .u8)) a1) : lontarlaw16_MachineHeld FU64 (a0, a1) = some true := machineHeld_true a0 a1 (okRow_of w0)
theorem machineSoon_law (a0 : (Sh.sl rowSh).den) (a1 : (Sh.sl (.int .u8)).den) (w0 : wfD (.sl rowSh) a0) (_ : wfD (.sl (.int .u8)) a1) : lontarlaw16_MachineSoon FU64 (a0, a1) = some true := machineSoon_true a0 a1 (okRow_of w0)
end Go.AM.M

namespace Go.AM.M
open Go.AM

/-- What one unit of a token means, by the script. -/
def mu1 (p : List Int × Int) (u : Int) : List Int × Int :=
  if u ≥ 8192 then (p.1 ++ [w64 (u - 8192)], p.2) else if u ≥ 4096 then (p.1, w64 (u - 4096)) else (p.1 ++ [w64 (w64 (2304 + w64 (128 * p.2)) + u)], p.2)
def muU (sc : Int) (us : List Int) : List Int × Int := us.foldl mu1 ([], sc)
def meanT : Int → List Tok → List Tok × Int
  | sc, [] => ([], sc)
  | sc, t :: ts => ((t.1, (t.2.1, ((muU sc t.2.2.1).1, t.2.2.2))) :: (meanT (muU sc t.2.2.1).2 ts).1, (meanT (muU sc t.2.2.1).2 ts).2)
theorem meanT_append : ∀ (sc : Int) (a b : List Tok), meanT sc (a ++ b) = ((meanT sc a).1 ++ (meanT (meanT sc a).2 b).1, (meanT (meanT sc a).2 b).2)
  | sc, [], b => rfl
  | sc, t :: a, b => by simp only [List.cons_append, meanT, meanT_append _ a b]
theorem meanT_len : ∀ (sc : Int) (a : List Tok), (meanT sc a).1.length = a.length
  | sc, [] => rfl
  | sc, t :: a => by simp only [meanT, List.length_cons, meanT_len _ a]
theorem mu1_len (p : List Int × Int) (u : Int) : (mu1 p u).1.length ≤ p.1.length + 1 := by
  unfold mu1; split
  · simp
  · split <;> simp
theorem muU_snoc (sc : Int) (us : List Int) (u : Int) : muU sc (us ++ [u]) = mu1 (muU sc us) u := by simp [muU]
theorem muU_len (sc : Int) (us : List Int) : (muU sc us).1.length ≤ us.length := by
  induction us using snocInd with
  | nil => simp [muU]
  | snoc l a ih =>
    rw [muU_snoc]
    have := mu1_len (muU sc l) a
    simp only [List.length_append, List.length_singleton]; omega
theorem meanT_few : ∀ (sc : Int) (a : List Tok), fewO a → fewO (meanT sc a).1
  | sc, [], _ => by intro x hx; cases hx
  | sc, t :: a, h => by
    intro x hx
    simp only [meanT] at hx
    rcases List.mem_cons.1 hx with rfl | hx
    · have := muU_len sc t.2.2.1
      have := h t (by simp)
      show (muU sc t.2.2.1).1.length ≤ 8
      omega
    · exact meanT_few _ a (fun y hy => h y (List.mem_cons_of_mem _ hy)) x hx
theorem fit8 {n m : Nat} (h : n ≤ 1000000) (h2 : m ≤ 1000000) : decide ((n + m) * (8 : Nat) ≤ (2 : Nat) ^ (46 : Nat)) = true := by
  have : (2 : Nat) ^ 46 = 70368744177664 := by decide
  rw [this, decide_eq_true_eq]; omega
theorem fit48 {n m : Nat} (h : n ≤ 1000000) (h2 : m ≤ 1000000) : decide ((n + m) * (48 : Nat) ≤ (2 : Nat) ^ (46 : Nat)) = true := by
  have : (2 : Nat) ^ 46 = 70368744177664 := by decide
  rw [this, decide_eq_true_eq]; omega
theorem indic_Scalar_eq (fu : Nat) (sc u : Int) : indic_Scalar fu (sc, u) = some (w64 (w64 (2304 + w64 (128 * sc)) + u)) := rfl

theorem mid_get {a b : List Tok} {t : Tok} {k : Nat} (h : a.length = k) : (a ++ t :: b)[k]? = some t := by subst h; simp
theorem mid_set {a b : List Tok} {t u : Tok} {k : Nat} (h : a.length = k) : (a ++ t :: b).set k u = (a ++ [u]) ++ b := by subst h; simp

/-- The loop of what tokens mean, with the tokens in front already told. -/
theorem mean_eq {ts : List Tok} {sc : Int} {N : List Node} {R : List Rule} {w : List Int} {a st : Int} (h1 : ts.length ≤ 100000) (h2 : fewO ts) :
    iscii_Decoder_mean FU64 (ts, (sc, (N, (R, (w, (a, st)))))) = some ((meanT sc ts).1, ((meanT sc ts).2, (N, (R, (w, (a, st)))))) := by
  unfold iscii_Decoder_mean
  obtain ⟨v, k1, k2⟩ := loop_n (f := iscii_Decoder_mean_L1 FU64) (n := ts.length)
    (I := fun k x => x = ((meanT sc (ts.take k)).1 ++ ts.drop k, ((ts.length : Int), ((k : Int), ((meanT sc (ts.take k)).2, (N, (R, (w, (a, st)))))))))
    (R := fun v => v = ((meanT sc ts).1, ((meanT sc ts).2, (N, (R, (w, (a, st)))))))
    (by
      rintro k x hk rfl
      left
      unfold iscii_Decoder_mean_L1
      have hl : (meanT sc (ts.take k)).1.length = k := by rw [meanT_len]; simp; omega
      have hd : ts.drop k = ts[k] :: ts.drop (k + 1) := List.drop_eq_getElem_cons hk
      have hg : ((meanT sc (ts.take k)).1 ++ ts.drop k)[k]? = some ts[k] := by rw [hd]; exact mid_get hl
      simp only [dlt, decide_eq_true hk, cond_true, nthI_nat, Int.toNat_natCast, hg, bind_some']
      have hf := h2 ts[k] (List.getElem_mem hk)
      have hs : meanT sc (ts.take (k + 1)) = ((meanT sc (ts.take k)).1 ++ [(ts[k].1, (ts[k].2.1, ((muU (meanT sc (ts.take k)).2 ts[k].2.2.1).1, ts[k].2.2.2)))], (muU (meanT sc (ts.take k)).2 ts[k].2.2.1).2) := by
        rw [List.take_succ_eq_append_getElem hk, meanT_append]; rfl
      have := loop_st (f := iscii_Decoder_mean_L0 FU64) (m := ts[k].2.2.1.length) (fu := FU64)
        (fun j => ((meanT sc (ts.take k)).1 ++ ts.drop k, ((k : Int), ((muU (meanT sc (ts.take k)).2 (ts[k].2.2.1.take j)).1, ((ts.length : Int), ((k : Int), (ts[k].2.2.1, ((ts[k].2.2.1.length : Int), ((j : Int), ((muU (meanT sc (ts.take k)).2 (ts[k].2.2.1.take j)).2, (N, (R, (w, (a, (st, (ts[k].1, (ts[k].2.1, (ts[k].2.2.1, ts[k].2.2.2))))))))))))))))))
        (r := .inl ((meanT sc (ts.take (k + 1))).1 ++ ts.drop (k + 1), ((ts.length : Int), (((k + 1 : Nat) : Int), ((meanT sc (ts.take (k + 1))).2, (N, (R, (w, (a, st)))))))))
        (by
          intro j hj
          unfold iscii_Decoder_mean_L0
          have hm := muU_len (meanT sc (ts.take k)).2 (ts[k].2.2.1.take j)
          rw [List.length_take] at hm
          have hsn : muU (meanT sc (ts.take k)).2 (ts[k].2.2.1.take (j + 1)) = mu1 (muU (meanT sc (ts.take k)).2 (ts[k].2.2.1.take j)) ts[k].2.2.1[j] := by
            rw [List.take_succ_eq_append_getElem hj, muU_snoc]
          simp only [dlt, decide_eq_true hj, cond_true, nthI_get hj, bind_some', indic_Scalar_eq, List.length_singleton, fit8 (show (muU (meanT sc (ts.take k)).2 (ts[k].2.2.1.take j)).1.length ≤ 1000000 by omega) (show 1 ≤ 1000000 by omega), w64_succ hj (show ts[k].2.2.1.length < 9223372036854775808 by omega), hsn]
          unfold mu1
          by_cases c1 : ts[k].2.2.1[j] ≥ 8192
          · rw [decide_eq_true c1, cond_true, if_pos c1]
          · rw [decide_eq_false c1, cond_false, if_neg c1]
            by_cases c2 : ts[k].2.2.1[j] ≥ 4096
            · rw [decide_eq_true c2, cond_true, if_pos c2]
            · rw [decide_eq_false c2, cond_false, if_neg c2])
        (by
          unfold iscii_Decoder_mean_L0
          simp only [dlt, decide_eq_false (Nat.lt_irrefl ts[k].2.2.1.length), cond_false, nthI_nat, Int.toNat_natCast, hg, bind_some', List.take_length, Option.map_some, w64_succ hk (show ts.length < 9223372036854775808 by omega), hs]
          rw [hd, mid_set hl])
        (by unfold FU64; omega)
      exact ⟨_, this, rfl⟩)
    (by
      rintro x rfl
      unfold iscii_Decoder_mean_L1
      simp only [dlt, decide_eq_false (Nat.lt_irrefl ts.length), cond_false, List.take_length, List.drop_length, List.append_nil]
      exact ⟨_, rfl, rfl⟩)
    FU64 0 (ts, ((ts.length : Int), ((0 : Int), (sc, (N, (R, (w, (a, st)))))))) (by omega) (by show ts.length < 0 + FU64; unfold FU64; omega) (by simp [meanT])
  rw [k2] at k1
  exact k1
end Go.AM.M

namespace Go.AM.M
open Go.AM

def okS (s : Int) : Bool := decide (2304 ≤ s ∧ s < 3456 ∧ s ≠ 2404)
def scalB (s : Int) : Bool := decide (0 ≤ s ∧ s ≤ 1114111 ∧ (s < 55296 ∨ s > 57343))
def scrS (s : Int) : Int := (s - 2304) / 128
def unitS (s : Int) : Int := if okS s = true then s % 128 else if scalB s = true then w64 (8192 + s) else -1
def codesL : List Int := [66, 67, 75, 74, 71, 68, 69, 72, 73]
def codeS (k : Int) : Int := (codesL[k.toNat]?).getD 0
theorem okS_r {s : Int} (h : okS s = true) : 2304 ≤ s ∧ s < 3456 := by unfold okS at h; rw [decide_eq_true_eq] at h; omega
theorem okS_scal {s : Int} (h : okS s = true) : scalB s = true := by have := okS_r h; unfold scalB; rw [decide_eq_true_eq]; omega
theorem scrS_r {s : Int} (h : okS s = true) : 0 ≤ scrS s ∧ scrS s < 9 := by have := okS_r h; unfold scrS; omega
theorem tdiv_scr {s : Int} (h : 2304 ≤ s ∧ s < 3456) : w64 (Int.tdiv (w64 (s - 2304)) 128) = scrS s := by
  rw [w64_id (n := s - 2304) (by omega) (by omega), Int.tdiv_eq_ediv_of_nonneg (by omega)]
  unfold scrS; exact w64_id (by omega) (by omega)
theorem tmod_plc {s : Int} (h : 2304 ≤ s ∧ s < 3456) : Int.tmod (w64 (s - 2304)) 128 = s % 128 := by
  rw [w64_id (by omega) (by omega), Int.tmod_eq_emod_of_nonneg (by omega)]; omega
theorem tmod_plc2 {s : Int} (h : 2304 ≤ s ∧ s < 3456) : Int.tmod s 128 = s % 128 := by
  rw [Int.tmod_eq_emod_of_nonneg (by omega)]
theorem indic_Of_eq (fu : Nat) (s : Int) : indic_Of fu s = some (if okS s = true then (scrS s, (s % 128, true)) else (0, (0, false))) := by
  unfold indic_Of okS
  by_cases h1 : s < 2304
  · rw [decide_eq_true h1, cond_true, if_neg (by rw [decide_eq_true_eq]; omega)]
  · rw [decide_eq_false h1, cond_false]
    by_cases h2 : s ≥ 3456
    · rw [decide_eq_true h2, cond_true, if_neg (by rw [decide_eq_true_eq]; omega)]
    · rw [decide_eq_false h2, cond_false]
      by_cases h3 : s = 2404
      · rw [beq_iff_eq.2 h3, cond_true, if_neg (by rw [decide_eq_true_eq]; omega)]
      · rw [beq_eq_false_iff_ne.2 h3, cond_false, if_pos (by rw [decide_eq_true_eq]; omega), tdiv_scr (by omega), tmod_plc (by omega)]
theorem utf_Scalar_eq (fu : Nat) (s : Int) : utf_Scalar fu s = some (scalB s) := by
  unfold utf_Scalar scalB
  by_cases h1 : s ≥ 0
  · rw [decide_eq_true h1, cond_true]
    by_cases h2 : s ≤ 1114111
    · rw [decide_eq_true h2, cond_true]
      by_cases h3 : s < 55296
      · rw [decide_eq_true h3, cond_true, decide_eq_true (by omega)]
      · rw [decide_eq_false h3, cond_false]
        congr 1
        rw [decide_eq_decide]; omega
    · rw [decide_eq_false h2, cond_false, decide_eq_false (by omega)]
  · rw [decide_eq_false h1, cond_false, decide_eq_false (by omega)]
theorem codes_get {k : Int} (h0 : 0 ≤ k) (h9 : k < 9) : nthI codesL k = some (codeS k) ∧ codesL[k.toNat]? = some (codeS k) := by
  have h : k = 0 ∨ k = 1 ∨ k = 2 ∨ k = 3 ∨ k = 4 ∨ k = 5 ∨ k = 6 ∨ k = 7 ∨ k = 8 := by omega
  rcases h with rfl | rfl | rfl | rfl | rfl | rfl | rfl | rfl | rfl <;> exact ⟨rfl, rfl⟩
theorem indic_Code_eq (fu : Nat) {k : Int} (h0 : 0 ≤ k) (h9 : k < 9) : indic_Code fu k = some (codeS k, true) := by
  unfold indic_Code indic_code
  have := (codes_get h0 h9).1
  unfold codesL at this
  rw [decide_eq_false (by omega), cond_false, decide_eq_false (by omega), cond_false, this]
  rfl
theorem codes14_eq (fu : Nat) : lontarlaw14_Codes fu () = some codesL := rfl

structure ES where
  out : List Tok
  sc : Int
  frm : Int
  us : List Int
def part (rs : List Rule) (frm : Int) (us : List Int) : List Tok := (joinF rs [] (toksA (turn rs) frm us)).1
def swT (k c : Int) : Tok := (k, ((0 : Int), ([(239 : Int), c], (0 : Int))))
def esStep (rs : List Rule) (k : Int) (e : ES) (s : Int) : ES :=
  if okS s = true ∧ scrS s ≠ e.sc then ⟨e.out ++ part rs e.frm e.us ++ [swT k (codeS (scrS s))], scrS s, k, [unitS s]⟩ else ⟨e.out, e.sc, e.frm, e.us ++ [unitS s]⟩
def esRun (rs : List Rule) : Int → ES → List Int → ES
  | _, e, [] => e
  | k, e, s :: ss => esRun rs (k + 1) (esStep rs k e s) ss
def esOut (rs : List Rule) (e : ES) : List Tok := e.out ++ part rs e.frm e.us
def es0 : ES := ⟨[], 0, 0, []⟩
theorem esRun_snoc (rs : List Rule) : ∀ (k : Int) (e : ES) (ss : List Int) (s : Int), esRun rs k e (ss ++ [s]) = esStep rs (k + (ss.length : Int)) (esRun rs k e ss) s
  | k, e, [], s => by simp [esRun]
  | k, e, x :: ss, s => by
    simp only [List.cons_append, esRun, esRun_snoc rs _ _ ss s, List.length_cons]
    congr 1; omega

/-- What an encoder holds behind 'k' scalars, and what it has told. -/
structure ERel (rs : List Rule) (k : Nat) (e : ES) (out : List Tok) (ahead w : List Int) (a : Int) (raw : List Tok) : Prop where
  o : out = e.out ++ (joinF rs [] raw).1
  ah : ahead = (joinF rs [] raw).2
  fw : fewO raw
  all : ∀ rest, raw ++ toksA (turn rs) a (w ++ rest) = toksA (turn rs) e.frm (e.us ++ rest)
  at' : a + (w.length : Int) = (k : Int)
  len : e.out.length + raw.length + w.length ≤ 2 * k
  a0 : 0 ≤ a
  op : w = [] ∨ openB (turn rs) w = true
  sc : 0 ≤ e.sc ∧ e.sc < 9
  fwo : fewO e.out
  frm : e.frm + (e.us.length : Int) = (k : Int)
  wk : w.length ≤ k
theorem ERel.zero (rs : List Rule) : ERel rs 0 es0 [] [] [] 0 [] :=
  ⟨rfl, rfl, (fun x hx => by cases hx), fun rest => rfl, rfl, Nat.le_refl _, Int.le_refl _, .inl rfl, ⟨Int.le_refl _, by decide⟩, (fun x hx => by cases hx), rfl, Nat.le_refl _⟩
theorem ERel.ah8 {rs : List Rule} {k : Nat} {e : ES} {out : List Tok} {ahead w : List Int} {a : Int} {raw : List Tok} (h : ERel rs k e out ahead w a raw) : ahead.length ≤ 8 := by
  rw [h.ah]; exact (joinF_few raw [] h.fw (by simp)).2
theorem ERel.outLen {rs : List Rule} {k : Nat} {e : ES} {out : List Tok} {ahead w : List Int} {a : Int} {raw : List Tok} (h : ERel rs k e out ahead w a raw) : out.length ≤ 2 * k := by
  rw [h.o, List.length_append, joinF_len]; have := h.len; omega

variable {rs : List Rule} {N1 N2 N3 : List Node} {R1 R2 : List Rule}
/-- One more unit to the part. -/
theorem ERel.put {k : Nat} {e : ES} {out : List Tok} {ahead w : List Int} {a : Int} {raw : List Tok} (hW : Sides (turn rs)) (h : ERel rs k e out ahead w a raw) (u : Int) {r : List Tok × (List Int × Int)} (hr : r = takeF (turn rs) false (w.length + 1) a (w ++ [u])) :
    ERel rs (k + 1) ⟨e.out, e.sc, e.frm, e.us ++ [u]⟩ (out ++ (joinF rs ahead r.1).1) (joinF rs ahead r.1).2 r.2.1 r.2.2 (raw ++ r.1) := by
  have hP := takeF_put (rs := turn rs) (w.length + 1) a (w ++ [u]) (by simp)
  rw [← hr] at hP
  obtain ⟨p1, p2, p3, p4, p5⟩ := hP
  simp only [List.length_append, List.length_singleton] at p3 p4
  have hja := joinF_append rs raw r.1 []
  rw [← h.ah] at hja
  refine ⟨?_, ?_, ?_, fun rest => ?_, ?_, ?_, ?_, p2, h.sc, h.fwo, ?_, ?_⟩
  · rw [hja, h.o, List.append_assoc]
  · rw [hja]
  · intro x hx
    rw [List.mem_append] at hx
    rcases hx with hx | hx
    · exact h.fw x hx
    · rw [hr] at hx; exact takeF_few hW _ _ _ _ x hx
  · rw [List.append_assoc, ← p1 rest, List.append_assoc, h.all, List.append_assoc]
  · have := h.at'; omega
  · have := h.len; simp only [List.length_append]; omega
  · have := h.a0; have := h.at'; omega
  · have := h.frm; simp only [List.length_append, List.length_singleton]; omega
  · have := h.wk; omega
/-- What is told at the end of a part. -/
theorem ERel.fin {k : Nat} {e : ES} {out : List Tok} {ahead w : List Int} {a : Int} {raw : List Tok} (h : ERel rs k e out ahead w a raw) :
    out ++ (joinF rs ahead (toksA (turn rs) a w)).1 = esOut rs e := by
  have hja := joinF_append rs raw (toksA (turn rs) a w) []
  rw [← h.ah] at hja
  have := h.all []
  simp only [List.append_nil] at this
  rw [this] at hja
  unfold esOut part
  rw [hja, h.o, List.append_assoc]
theorem part_few (hS : Sides rs) (hW : Sides (turn rs)) (frm : Int) (us : List Int) : fewO (part rs frm us) := (joinF_few _ [] (toksA_few hW us frm) (by simp)).1
theorem ERel.sw {k : Nat} {e : ES} {out : List Tok} {ahead w : List Int} {a : Int} {raw : List Tok} (hS : Sides rs) (hW : Sides (turn rs)) (h : ERel rs k e out ahead w a raw) (c sc : Int) (hc : 0 ≤ sc ∧ sc < 9) :
    ∀ u r, r = takeF (turn rs) false (([] : List Int).length + 1) (a + (w.length : Int)) ([] ++ [u]) →
    ERel rs (k + 1) ⟨e.out ++ part rs e.frm e.us ++ [swT k c], sc, k, [u]⟩ (out ++ ((joinF rs ahead (toksA (turn rs) a w)).1 ++ [swT k c] ++ (joinF rs [] r.1).1)) (joinF rs [] r.1).2 r.2.1 r.2.2 r.1 := by
  intro u r hr
  have hP := takeF_put (rs := turn rs) (([] : List Int).length + 1) (a + (w.length : Int)) ([] ++ [u]) (by simp)
  rw [← hr] at hP
  obtain ⟨p1, p2, p3, p4, p5⟩ := hP
  simp only [List.length_append, List.length_singleton, List.length_nil] at p3 p4
  have hf := h.fin
  have hl := h.len
  have hwk := h.wk
  have hat := h.at'
  have ha0 := h.a0
  have htl := toksA_len (rs := turn rs) w a
  have hpl : (part rs e.frm e.us).length ≤ raw.length + w.length := by
    unfold part
    have := h.all []
    simp only [List.append_nil] at this
    rw [joinF_len, ← this, List.length_append]; omega
  refine ⟨?_, rfl, ?_, fun rest => ?_, ?_, ?_, ?_, p2, hc, ?_, ?_, ?_⟩
  · rw [← List.append_assoc, ← List.append_assoc, hf]; unfold esOut; rfl
  · intro x hx; rw [hr] at hx; exact takeF_few hW _ _ _ _ x hx
  · rw [← p1 rest, hat]; rfl
  · omega
  · simp only [List.length_append, List.length_singleton]; omega
  · omega
  · intro x hx
    simp only [List.mem_append, List.mem_singleton] at hx
    rcases hx with (hx | hx) | rfl
    · exact h.fwo x hx
    · exact part_few hS hW _ _ x hx
    · show [(239 : Int), c].length ≤ 8; simp
  · simp
  · omega
theorem apart_eq {fu : Nat} {i o a st : Int} {ahead w : List Int} {R3 : List Rule} : machine_Encoder_Apart fu (i, (o, (N1, (R1, (N2, (R2, (ahead, (N3, (R3, (w, (a, st))))))))))) = some (i, (o, (N1, (R1, (N2, (R2, (([] : List Int), (N3, (R3, (w, (a, st))))))))))) := rfl

theorem iput_eq (hS : Sides rs) (hW : Sides (turn rs)) (hT : TrieOk N1 rs) (hT3 : TrieOk N3 (turn rs)) {k : Nat} {e : ES} {out raw : List Tok} {ahead w : List Int} {a : Int} (hk : k ≤ 1000) (h : ERel rs k e out ahead w a raw) (s st b i o : Int) :
    ∃ new ahead' w' a' st' raw', iscii_Encoder_Put FU64 (s, (e.sc, ((k : Int), (b, (i, (o, (N1, (R1, (N2, (R2, (ahead, (N3, (outsOf (turn rs), (w, (a, st))))))))))))))) =
      some (new, ((esStep rs k e s).sc, (((k + 1 : Nat) : Int), (b, (i, (o, (N1, (R1, (N2, (R2, (ahead', (N3, (outsOf (turn rs), (w', (a', st')))))))))))))))
      ∧ ERel rs (k + 1) (esStep rs k e s) (out ++ new) ahead' w' a' raw' ∧ new.length ≤ 10000 := by
  have ha0 := h.a0
  have hat := h.at'
  have hwk := h.wk
  have hah := h.ah8
  have hw1 : w64 ((k : Int) + 1) = ((k + 1 : Nat) : Int) := w64_succ (Nat.lt_succ_self k) (by omega)
  have key : ∀ u, u = unitS s → ¬ (okS s = true ∧ scrS s ≠ e.sc) → ∃ (r : List Tok × (List Int × Int)) (st' : Int), machine_Encoder_Put FU64 (u, (i, (o, (N1, (R1, (N2, (R2, (ahead, (N3, (outsOf (turn rs), (w, (a, st)))))))))))) = some ((joinF rs ahead r.1).1, (i, (o, (N1, (R1, (N2, (R2, ((joinF rs ahead r.1).2, (N3, (outsOf (turn rs), (r.2.1, (r.2.2, st'))))))))))))
      ∧ ERel rs (k + 1) (esStep rs k e s) (out ++ (joinF rs ahead r.1).1) (joinF rs ahead r.1).2 r.2.1 r.2.2 (raw ++ r.1) ∧ (esStep rs k e s).sc = e.sc ∧ (joinF rs ahead r.1).1.length ≤ 10000 := by
    intro u hu hn
    obtain ⟨r, st', e1, e2⟩ := enc_put_eq fu64 hS hW hT hT3 (i := i) (o := o) (N2 := N2) (R1 := R1) (R2 := R2) (u := u) (a := a) (st := st) (ahead := ahead) (w := w) (by omega) (by omega) (by omega) hah
    have hP := h.put hW u e2
    have he : esStep rs k e s = ⟨e.out, e.sc, e.frm, e.us ++ [u]⟩ := by unfold esStep; rw [if_neg hn, hu]
    have hl := hP.len
    refine ⟨r, st', e1, by rw [he]; exact hP, by rw [he], ?_⟩
    rw [joinF_len]
    simp only [List.length_append] at hl
    omega
  unfold iscii_Encoder_Put
  simp only [indic_Of_eq, utf_Scalar_eq, bind_some']
  cases hok : okS s with
  | false =>
    simp only [Bool.false_eq_true, if_false, cond_false, Bool.not_false, cond_true]
    cases hsc : scalB s with
    | false =>
      simp only [Bool.not_false, cond_true]
      obtain ⟨r, st', e1, hE, hsc', hl⟩ := key (-1) (by unfold unitS; rw [hok, hsc]; rfl) (by rw [hok]; simp)
      simp only [e1, bind_some', List.length_nil, fit48 (show 0 ≤ 1000000 by omega) (show (joinF rs ahead r.1).1.length ≤ 1000000 by omega), cond_true, List.nil_append, hw1]
      exact ⟨_, _, _, _, _, _, by rw [hsc'], hE, hl⟩
    | true =>
      simp only [Bool.not_true, cond_false]
      obtain ⟨r, st', e1, hE, hsc', hl⟩ := key (w64 (8192 + s)) (by unfold unitS; rw [hok, hsc]; rfl) (by rw [hok]; simp)
      simp only [e1, bind_some', List.length_nil, fit48 (show 0 ≤ 1000000 by omega) (show (joinF rs ahead r.1).1.length ≤ 1000000 by omega), cond_true, List.nil_append, hw1]
      exact ⟨_, _, _, _, _, _, by rw [hsc'], hE, hl⟩
  | true =>
    have hsc := okS_scal hok
    simp only [if_true, hsc, Bool.not_true, cond_false, cond_true]
    have hu : s % 128 = unitS s := by unfold unitS; rw [hok]; rfl
    by_cases hn : scrS s = e.sc
    · obtain ⟨r, st', e1, hE, hsc', hl⟩ := key (s % 128) hu (by rintro ⟨_, h2⟩; exact h2 hn)
      rw [bne_eq_false_iff_eq.2 hn, cond_false]
      simp only [e1, bind_some', List.length_nil, fit48 (show 0 ≤ 1000000 by omega) (show (joinF rs ahead r.1).1.length ≤ 1000000 by omega), cond_true, List.nil_append, hw1]
      exact ⟨_, _, _, _, _, _, by rw [hsc'], hE, hl⟩
    · rw [bne_iff_ne.2 hn, cond_true]
      have hr9 := scrS_r hok
      obtain ⟨st', e1⟩ := enc_end_eq fu64 hS hW hT hT3 (i := i) (o := o) (N2 := N2) (R1 := R1) (R2 := R2) (a := a) (st := st) (ahead := ahead) (w := w) (by omega) (by omega) (by omega) hah
      obtain ⟨r, st2, e3, e4⟩ := enc_put_eq fu64 hS hW hT hT3 (i := i) (o := o) (N2 := N2) (R1 := R1) (R2 := R2) (u := s % 128) (a := a + (w.length : Int)) (st := st') (ahead := []) (w := []) (by simp) (by omega) (by omega) (by simp)
      have hE := h.sw hS hW (codeS (scrS s)) (scrS s) hr9 (s % 128) r e4
      have hl := hE.outLen
      have htl := toksA_len (rs := turn rs) w a
      simp only [List.length_append, List.length_singleton, joinF_len] at hl
      have he : esStep rs k e s = ⟨e.out ++ part rs e.frm e.us ++ [swT k (codeS (scrS s))], scrS s, k, [s % 128]⟩ := by unfold esStep; rw [if_pos ⟨hok, hn⟩, hu]
      simp only [e1, bind_some', indic_Code_eq FU64 hr9.1 hr9.2, apart_eq, e3, joinF_len, List.length_append, List.length_singleton]
      rw [fit48 (by omega) (by omega), cond_true, fit48 (by omega) (by omega), cond_true, hw1]
      refine ⟨_, _, _, _, _, _, by rw [he], by rw [he]; exact hE, ?_⟩
      simp only [List.length_append, joinF_len, List.length_singleton]; omega
theorem iend_eq (hS : Sides rs) (hW : Sides (turn rs)) (hT : TrieOk N1 rs) (hT3 : TrieOk N3 (turn rs)) {k : Nat} {e : ES} {out raw : List Tok} {ahead w : List Int} {a : Int} (hk : k ≤ 1000) (h : ERel rs k e out ahead w a raw) (st b i o : Int) :
    ∃ new ahead' a' st', iscii_Encoder_End FU64 (e.sc, ((k : Int), (b, (i, (o, (N1, (R1, (N2, (R2, (ahead, (N3, (outsOf (turn rs), (w, (a, st)))))))))))))) =
      some (new, (e.sc, ((k : Int), (b, (i, (o, (N1, (R1, (N2, (R2, (ahead', (N3, (outsOf (turn rs), (([] : List Int), (a', st')))))))))))))))
      ∧ out ++ new = esOut rs e ∧ new.length ≤ 10000 := by
  have ha0 := h.a0
  have hat := h.at'
  have hwk := h.wk
  obtain ⟨st', e1⟩ := enc_end_eq fu64 hS hW hT hT3 (i := i) (o := o) (N2 := N2) (R1 := R1) (R2 := R2) (a := a) (st := st) (ahead := ahead) (w := w) (by omega) (by omega) (by omega) h.ah8
  unfold iscii_Encoder_End
  simp only [e1, bind_some']
  have htl := toksA_len (rs := turn rs) w a
  exact ⟨_, _, _, _, rfl, h.fin, by rw [joinF_len]; omega⟩
end Go.AM.M

namespace Go.AM.M
open Go.AM
set_option maxRecDepth 100000
def isR : List Rule := [
  ([0], [8192]),
  ([1], [8193]),
  ([2], [8194]),
  ([3], [8195]),
  ([4], [8196]),
  ([5], [8197]),
  ([6], [8198]),
  ([7], [8199]),
  ([8], [8200]),
  ([9], [8201]),
  ([10], [8202]),
  ([11], [8203]),
  ([12], [8204]),
  ([13], [8205]),
  ([14], [8206]),
  ([15], [8207]),
  ([16], [8208]),
  ([17], [8209]),
  ([18], [8210]),
  ([19], [8211]),
  ([20], [8212]),
  ([21], [8213]),
  ([22], [8214]),
  ([23], [8215]),
  ([24], [8216]),
  ([25], [8217]),
  ([26], [8218]),
  ([27], [8219]),
  ([28], [8220]),
  ([29], [8221]),
  ([30], [8222]),
  ([31], [8223]),
  ([32], [8224]),
  ([33], [8225]),
  ([34], [8226]),
  ([35], [8227]),
  ([36], [8228]),
  ([37], [8229]),
  ([38], [8230]),
  ([39], [8231]),
  ([40], [8232]),
  ([41], [8233]),
  ([42], [8234]),
  ([43], [8235]),
  ([44], [8236]),
  ([45], [8237]),
  ([46], [8238]),
  ([47], [8239]),
  ([48], [8240]),
  ([49], [8241]),
  ([50], [8242]),
  ([51], [8243]),
  ([52], [8244]),
  ([53], [8245]),
  ([54], [8246]),
  ([55], [8247]),
  ([56], [8248]),
  ([57], [8249]),
  ([58], [8250]),
  ([59], [8251]),
  ([60], [8252]),
  ([61], [8253]),
  ([62], [8254]),
  ([63], [8255]),
  ([64], [8256]),
  ([65], [8257]),
  ([66], [8258]),
  ([67], [8259]),
  ([68], [8260]),
  ([69], [8261]),
  ([70], [8262]),
  ([71], [8263]),
  ([72], [8264]),
  ([73], [8265]),
  ([74], [8266]),
  ([75], [8267]),
  ([76], [8268]),
  ([77], [8269]),
  ([78], [8270]),
  ([79], [8271]),
  ([80], [8272]),
  ([81], [8273]),
  ([82], [8274]),
  ([83], [8275]),
  ([84], [8276]),
  ([85], [8277]),
  ([86], [8278]),
  ([87], [8279]),
  ([88], [8280]),
  ([89], [8281]),
  ([90], [8282]),
  ([91], [8283]),
  ([92], [8284]),
  ([93], [8285]),
  ([94], [8286]),
  ([95], [8287]),
  ([96], [8288]),
  ([97], [8289]),
  ([98], [8290]),
  ([99], [8291]),
  ([100], [8292]),
  ([101], [8293]),
  ([102], [8294]),
  ([103], [8295]),
  ([104], [8296]),
  ([105], [8297]),
  ([106], [8298]),
  ([107], [8299]),
  ([108], [8300]),
  ([109], [8301]),
  ([110], [8302]),
  ([111], [8303]),
  ([112], [8304]),
  ([113], [8305]),
  ([114], [8306]),
  ([115], [8307]),
  ([116], [8308]),
  ([117], [8309]),
  ([118], [8310]),
  ([119], [8311]),
  ([120], [8312]),
  ([121], [8313]),
  ([122], [8314]),
  ([123], [8315]),
  ([124], [8316]),
  ([125], [8317]),
  ([126], [8318]),
  ([127], [8319]),
  ([161], [1]),
  ([162], [2]),
  ([163], [3]),
  ([164], [5]),
  ([165], [6]),
  ([166], [7]),
  ([167], [8]),
  ([168], [9]),
  ([169], [10]),
  ([170], [11]),
  ([171], [14]),
  ([172], [15]),
  ([173], [16]),
  ([174], [13]),
  ([175], [18]),
  ([176], [19]),
  ([177], [20]),
  ([178], [17]),
  ([179], [21]),
  ([180], [22]),
  ([181], [23]),
  ([182], [24]),
  ([183], [25]),
  ([184], [26]),
  ([185], [27]),
  ([186], [28]),
  ([187], [29]),
  ([188], [30]),
  ([189], [31]),
  ([190], [32]),
  ([191], [33]),
  ([192], [34]),
  ([193], [35]),
  ([194], [36]),
  ([195], [37]),
  ([196], [38]),
  ([197], [39]),
  ([198], [40]),
  ([199], [41]),
  ([200], [42]),
  ([201], [43]),
  ([202], [44]),
  ([203], [45]),
  ([204], [46]),
  ([205], [47]),
  ([206], [95]),
  ([207], [48]),
  ([208], [49]),
  ([209], [50]),
  ([210], [51]),
  ([211], [52]),
  ([212], [53]),
  ([213], [54]),
  ([214], [55]),
  ([215], [56]),
  ([216], [57]),
  ([218], [62]),
  ([219], [63]),
  ([220], [64]),
  ([221], [65]),
  ([222], [66]),
  ([223], [67]),
  ([224], [70]),
  ([225], [71]),
  ([226], [72]),
  ([227], [69]),
  ([228], [74]),
  ([229], [75]),
  ([230], [76]),
  ([231], [73]),
  ([232], [77]),
  ([233], [60]),
  ([241], [102]),
  ([242], [103]),
  ([243], [104]),
  ([244], [105]),
  ([245], [106]),
  ([246], [107]),
  ([247], [108]),
  ([248], [109]),
  ([249], [110]),
  ([250], [111]),
  ([161, 233], [80]),
  ([166, 233], [12]),
  ([167, 233], [97]),
  ([170, 233], [96]),
  ([179, 233], [88]),
  ([180, 233], [89]),
  ([181, 233], [90]),
  ([186, 233], [91]),
  ([191, 233], [92]),
  ([192, 233], [93]),
  ([201, 233], [94]),
  ([219, 233], [98]),
  ([220, 233], [99]),
  ([223, 233], [68]),
  ([239, 66], [4096]),
  ([239, 67], [4097]),
  ([239, 75], [4098]),
  ([239, 74], [4099]),
  ([239, 71], [4100]),
  ([239, 68], [4101]),
  ([239, 69], [4102]),
  ([239, 72], [4103]),
  ([239, 73], [4104]),
  ([217], [16397]),
  ([234], [10596]),
  ([234, 233], [61]),
  ([232, 232], [77, 16396]),
  ([232, 233], [77, 16397]),
  ([240, 184], [82]),
  ([240, 191], [112])]
theorem rules14_is : lontarlaw14_Rules FU64 () = some isR := by kernel_rfl
theorem indic_is : indic_Rules FU64 () = some isR := by kernel_rfl
def sidesB (rs : List Rule) : Bool := decide (rs.length ≤ 512) && rs.all fun r => sideB r.1 && sideB r.2
def diffB : List Rule → Bool
  | [] => true
  | r :: rs => (rs.all fun x => decide (r.1 ≠ x.1)) && diffB rs
def closedB (rs : List Rule) : Bool := rs.all fun r => (List.range r.1.length).all fun n => decide (n = 0) || okN rs r.1 n
theorem diffB_ok : ∀ {rs : List Rule}, diffB rs = true → rs.Pairwise fun a b => a.1 ≠ b.1
  | [], _ => List.Pairwise.nil
  | r :: rs, h => by
    simp only [diffB, Bool.and_eq_true, List.all_eq_true, decide_eq_true_eq] at h
    exact List.Pairwise.cons (fun x hx => h.1 x hx) (diffB_ok h.2)
theorem right_of {rs : List Rule} (h1 : sidesB rs = true) (h2 : diffB rs = true) : Right rs := by
  simp only [sidesB, Bool.and_eq_true, decide_eq_true_eq, List.all_eq_true] at h1
  exact { len := h1.1, side := fun r hr => h1.2 r hr, diff := diffB_ok h2 }
theorem closed_of {rs : List Rule} (h : closedB rs = true) : closedP rs := by
  intro r hr n h1 h2
  simp only [closedB, List.all_eq_true, List.mem_range, Bool.or_eq_true, decide_eq_true_eq] at h
  rcases h r hr n h2 with h | h
  · omega
  · exact h
theorem isR_right : Right isR := right_of (by kernel_rfl) (by kernel_rfl)
theorem isR_closed : closedP isR := closed_of (by kernel_rfl)
theorem isR_max : maxIn isR = 2 := by kernel_rfl
theorem isW_max : maxIn (turn isR) = 2 := by kernel_rfl
theorem isR_sides : Sides isR := isR_right.toSides
theorem isW_sides : Sides (turn isR) := (turn_right isR_sides).toSides
theorem iscii_all_of {rs : List Rule} (h : indic_Rules FU64 () = some rs) (hR : Right rs) (hc : closedP rs) : ∃ N1 N2, iscii_all FU64 () = some ((maxIn rs : Int), ((maxIn (turn rs) : Int), (N1, (outsOf rs, (N2, outsOf (turn rs)))))) ∧ TrieOk N1 rs ∧ TrieOk N2 (turn rs) := by
  obtain ⟨N1, N2, e, t1, t2⟩ := table_eq fu64 hR hc
  exact ⟨N1, N2, by unfold iscii_all; rw [h]; simp only [bind_some', e], t1, t2⟩
theorem iscii_all_eq : ∃ N1 N2, iscii_all FU64 () = some ((maxIn isR : Int), ((maxIn (turn isR) : Int), (N1, (outsOf isR, (N2, outsOf (turn isR)))))) ∧ TrieOk N1 isR ∧ TrieOk N2 (turn isR) :=
  iscii_all_of indic_is isR_right isR_closed
end Go.AM.M

namespace Go.AM.M
open Go.AM

/-- What a decoder holds behind some bytes, and what it has told. -/
structure DRel (rs : List Rule) (us : List Int) (out : List Tok) (sc a : Int) (w : List Int) (raw : List Tok) : Prop where
  o : out = (meanT 0 raw).1
  s : sc = (meanT 0 raw).2
  fw : fewO raw
  all : ∀ rest, raw ++ toksA rs a (w ++ rest) = toksA rs 0 (us ++ rest)
  at' : a + (w.length : Int) = (us.length : Int)
  len : raw.length + w.length ≤ us.length
  a0 : 0 ≤ a
  op : w = [] ∨ openB rs w = true
theorem DRel.zero (rs : List Rule) : DRel rs [] [] 0 0 [] [] := ⟨rfl, rfl, (fun x hx => by cases hx), fun rest => rfl, rfl, Nat.le_refl _, Int.le_refl _, .inl rfl⟩
variable {rs : List Rule} {N : List Node}
theorem dput_eq (hS : Sides rs) (hT : TrieOk N rs) {us : List Int} {out raw : List Tok} {sc a : Int} {w : List Int} (hk : us.length ≤ 1000) (h : DRel rs us out sc a w raw) (u st : Int) :
    ∃ new sc' w' a' st' raw', iscii_Decoder_Put FU64 (u, (sc, (N, (outsOf rs, (w, (a, st)))))) = some (new, (sc', (N, (outsOf rs, (w', (a', st'))))))
      ∧ DRel rs (us ++ [u]) (out ++ new) sc' a' w' raw' ∧ new.length ≤ 10000 ∧ fewO new := by
  have hl := h.len
  have ha := h.a0
  have hat := h.at'
  obtain ⟨r, st', e1, e2⟩ := match_put_eq fu64 hS hT (u := u) (a := a) (st := st) (w := w) (by omega) (by omega) (by omega)
  have hP := takeF_put (rs := rs) (w.length + 1) a (w ++ [u]) (by simp)
  have hF := takeF_few hS false (w.length + 1) a (w ++ [u])
  rw [← e2] at hP hF
  obtain ⟨p1, p2, p3, p4, p5⟩ := hP
  simp only [List.length_append, List.length_singleton] at p3 p4
  have hm := meanT_append 0 raw r.1
  rw [← h.o, ← h.s] at hm
  unfold iscii_Decoder_Put
  simp only [e1, bind_some', mean_eq (ts := r.1) (by omega) hF]
  refine ⟨_, _, _, _, _, raw ++ r.1, rfl, ⟨by rw [hm], by rw [hm], ?_, fun rest => ?_, ?_, ?_, by omega, p2⟩, by rw [meanT_len]; omega, meanT_few _ _ hF⟩
  · intro x hx
    rw [List.mem_append] at hx
    rcases hx with hx | hx
    · exact h.fw x hx
    · exact hF x hx
  · rw [List.append_assoc, ← p1 rest, List.append_assoc, h.all, List.append_assoc]
  · simp only [List.length_append, List.length_singleton]; omega
  · simp only [List.length_append, List.length_singleton]; omega
theorem dend_eq (hS : Sides rs) (hT : TrieOk N rs) {us : List Int} {out raw : List Tok} {sc a : Int} {w : List Int} (hk : us.length ≤ 1000) (h : DRel rs us out sc a w raw) (st : Int) :
    ∃ new sc' a' st', iscii_Decoder_End FU64 (sc, (N, (outsOf rs, (w, (a, st))))) = some (new, (sc', (N, (outsOf rs, (([] : List Int), (a', st'))))))
      ∧ out ++ new = (meanT 0 (toksA rs 0 us)).1 ∧ sc' = (meanT 0 (toksA rs 0 us)).2 ∧ new.length ≤ 10000 ∧ fewO new := by
  have hl := h.len
  have ha := h.a0
  have hat := h.at'
  obtain ⟨st', e1⟩ := match_end_eq fu64 hS hT (a := a) (st := st) (w := w) (by omega) (by omega) (by omega)
  have hF := toksA_few hS w a
  have htl := toksA_len (rs := rs) w a
  have hm := meanT_append 0 raw (toksA rs a w)
  rw [← h.o, ← h.s] at hm
  have := h.all []
  simp only [List.append_nil] at this
  rw [this] at hm
  unfold iscii_Decoder_End
  simp only [e1, bind_some', mean_eq (ts := toksA rs a w) (by omega) hF]
  exact ⟨_, _, _, _, rfl, by rw [hm], by rw [hm], by rw [meanT_len]; omega, meanT_few _ _ hF⟩

def flat (ts : List Tok) : List Int := ts.flatMap (·.2.2.1)
theorem flat_append (a b : List Tok) : flat (a ++ b) = flat a ++ flat b := by simp [flat]
theorem flat_snoc (a : List Tok) (t : Tok) : flat (a ++ [t]) = flat a ++ t.2.2.1 := by simp [flat]
theorem flat_len {ts : List Tok} (h : fewO ts) : (flat ts).length ≤ 8 * ts.length := by
  induction ts with
  | nil => simp [flat]
  | cons t ts ih =>
    have h1 := h t (by simp)
    have h2 := ih (fun x hx => h x (List.mem_cons_of_mem _ hx))
    have : flat (t :: ts) = t.2.2.1 ++ flat ts := by simp [flat]
    rw [this]; simp only [List.length_append, List.length_cons]; omega
theorem fewO_take {ts : List Tok} (h : fewO ts) (k : Nat) : fewO (ts.take k) := fun x hx => h x (List.mem_of_mem_take hx)
theorem fewO_append {a b : List Tok} (h1 : fewO a) (h2 : fewO b) : fewO (a ++ b) := fun x hx => by
  rw [List.mem_append] at hx
  rcases hx with hx | hx
  · exact h1 x hx
  · exact h2 x hx
theorem flat_take_le {ts : List Tok} (h : fewO ts) (k : Nat) : (flat (ts.take k)).length ≤ 8 * ts.length := by
  have := flat_len (fewO_take h k)
  simp only [List.length_take] at this
  omega

theorem iscii_Encode_of {i o : Int} {N1 N2 : List Node} {R1 R2 : List Rule} (h : iscii_all FU64 () = some (i, (o, (N1, (R1, (N2, R2)))))) : iscii_Encode FU64 () = some (N2, (R2, (([] : List Int), ((0 : Int), ((0 : Int), (i, (o, (N1, (R1, (N2, (R2, (([] : List Int), ((0 : Int), ((0 : Int), (0 : Int))))))))))))))) := by
  unfold iscii_Encode; rw [h]; rfl
theorem iscii_Decode_of {i o : Int} {N1 N2 : List Node} {R1 R2 : List Rule} (h : iscii_all FU64 () = some (i, (o, (N1, (R1, (N2, R2)))))) : iscii_Decode FU64 () = some (N1, (R1, (([] : List Int), ((0 : Int), ((0 : Int), (0 : Int)))))) := by
  unfold iscii_Decode; rw [h]; rfl

theorem awake_L0_eq {ts : List Tok} {b out : List Int} (hn : ts.length ≤ 10000) (hf : fewO ts) (ho : out.length ≤ 100000) (nb kb : Int) (z) :
    loopM (lontarlaw18_awake_L0 FU64) FU64 (b, (out, (nb, (kb, (ts, ((ts.length : Int), ((0 : Int), z))))))) = some (.inl (b, (out ++ flat ts, (nb, (w64 (kb + 1), z))))) := by
  have := loop_st (f := lontarlaw18_awake_L0 FU64) (m := ts.length) (fu := FU64) (fun k => (b, (out ++ flat (ts.take k), (nb, (kb, (ts, ((ts.length : Int), ((k : Int), z))))))))
    (r := .inl (b, (out ++ flat ts, (nb, (w64 (kb + 1), z)))))
    (by
      intro k hk
      unfold lontarlaw18_awake_L0
      have h1 := flat_take_le hf k
      have h2 := hf ts[k] (List.getElem_mem hk)
      simp only [dlt, decide_eq_true hk, cond_true, nthI_get hk, bind_some', Int.toNat_natCast, List.getElem?_eq_getElem hk, w64_succ hk (show ts.length < 9223372036854775808 by omega)]
      rw [fit8 (by simp only [List.length_append]; omega) (by omega), cond_true, List.take_succ_eq_append_getElem hk, flat_snoc, List.append_assoc])
    (by
      unfold lontarlaw18_awake_L0
      simp only [dlt, decide_eq_false (Nat.lt_irrefl ts.length), cond_false, List.take_length])
    (by unfold FU64; omega)
  have hz : out ++ flat (ts.take 0) = out := by simp [flat]
  simp only [hz] at this
  exact this
theorem awake_L1_eq {ts : List Tok} {b out : List Int} (hn : ts.length ≤ 10000) (hf : fewO ts) (ho : out.length ≤ 100000) (z) (hb : b = [239, 67, 179]) (hr : out ++ flat ts = [2453]) (hs : z.2.2.2.2.2.2.2.2.2.2.2.2.2.2.2.2.2.2.2.2 = (1 : Int)) :
    loopM (lontarlaw18_awake_L1 FU64) FU64 (b, (out, (ts, ((ts.length : Int), ((0 : Int), z))))) = some true := by
  have := loop_st (f := lontarlaw18_awake_L1 FU64) (m := ts.length) (fu := FU64) (fun k => (b, (out ++ flat (ts.take k), (ts, ((ts.length : Int), ((k : Int), z))))))
    (r := true)
    (by
      intro k hk
      unfold lontarlaw18_awake_L1
      have h1 := flat_take_le hf k
      have h2 := hf ts[k] (List.getElem_mem hk)
      simp only [dlt, decide_eq_true hk, cond_true, nthI_get hk, bind_some', Int.toNat_natCast, List.getElem?_eq_getElem hk, w64_succ hk (show ts.length < 9223372036854775808 by omega)]
      rw [fit8 (by simp only [List.length_append]; omega) (by omega), cond_true, List.take_succ_eq_append_getElem hk, flat_snoc, List.append_assoc])
    (by
      unfold lontarlaw18_awake_L1
      simp only [dlt, decide_eq_false (Nat.lt_irrefl ts.length), cond_false, List.take_length, hb, hr, units_eq fu64 (show small [(239 : Int), 67, 179] by unfold small; simp), units_eq fu64 (show small [(2453 : Int)] by unfold small; simp), decide_true, bind_some', cond_true, iscii_Decoder_Script, hs, Option.map_some]
      rfl)
    (by unfold FU64; omega)
  have hz : out ++ flat (ts.take 0) = out := by simp [flat]
  simp only [hz] at this
  exact this
end Go.AM.M

namespace Go.AM.M
open Go.AM

variable {N : List Node}
theorem awake_L2_eq (hT : TrieOk N isR) {b : List Int} (hb : b = [239, 67, 179]) (q1 : List Node) (q2 : List Rule) (q3 : List Int) (q4 : Int) (q5 : Int) (q6 : Int) (q7 : Int) (q8 : List Node) (q9 : List Rule) (q10 : List Node) (q11 : List Rule) (q12 : List Int) (q13 : Int) (q14 : Int) (q15 : Int) :
    loopM (lontarlaw18_awake_L2 FU64) FU64 (b, (([] : List Int), ((b.length : Int), ((0 : Int), (q1, (q2, (q3, (q4, (q5, (q6, (q7, (q8, (q9, (q10, (q11, (q12, (q13, (q14, (q15, (N, (outsOf isR, (([] : List Int), ((0 : Int), ((0 : Int), (0 : Int))))))))))))))))))))))))) = some true := by
  have hS := isR_sides
  have hbl : b.length = 3 := by rw [hb]; rfl
  obtain ⟨v, h1, h2⟩ := loop_n (f := lontarlaw18_awake_L2 FU64) (n := b.length)
    (I := fun k x => ∃ (ts raw : List Tok) (w : List Int) (a st sc : Int), x = (b, (flat ts, ((b.length : Int), ((k : Int), (q1, (q2, (q3, (q4, (q5, (q6, (q7, (q8, (q9, (q10, (q11, (q12, (q13, (q14, (q15, (N, (outsOf isR, (w, (a, (st, sc)))))))))))))))))))))))) ∧ DRel isR (b.take k) ts sc a w raw ∧ fewO ts ∧ ts.length ≤ 10000 * k)
    (R := fun v => v = true)
    (by
      rintro k x hk ⟨ts, raw, w, a, st, sc, rfl, hD, hf, hn⟩
      left
      unfold lontarlaw18_awake_L2
      obtain ⟨new, sc', w', a', st', raw', e1, hD', hn', hf'⟩ := dput_eq hS hT (by simp; omega) hD b[k] st
      have hfl := flat_len hf
      have hD2 : ts.length ≤ b.length := by
        have := hD.len; rw [hD.o, meanT_len]; simp only [List.length_take] at this; omega
      simp only [dlt, decide_eq_true hk, cond_true, nthI_get hk, bind_some', Int.toNat_natCast, List.getElem?_eq_getElem hk, e1]
      have := awake_L0_eq (ts := new) (b := b) (out := flat ts) hn' hf' (by omega) (b.length : Int) (k : Int) (q1, (q2, (q3, (q4, (q5, (q6, (q7, (q8, (q9, (q10, (q11, (q12, (q13, (q14, (q15, (N, (outsOf isR, (w', (a', (st', sc'))))))))))))))))))))
      rw [w64_succ hk (show b.length < 9223372036854775808 by omega), ← flat_append] at this
      rw [← List.take_succ_eq_append_getElem hk] at hD'
      exact ⟨_, this, _, _, _, _, _, _, rfl, hD', fewO_append hf hf', by simp only [List.length_append]; omega⟩)
    (by
      rintro x ⟨ts, raw, w, a, st, sc, rfl, hD, hf, hn⟩
      unfold lontarlaw18_awake_L2
      rw [List.take_length] at hD
      have hD2 : ts.length ≤ b.length := by
        have := hD.len; rw [hD.o, meanT_len]; omega
      obtain ⟨new, sc', a', st', e1, hm1, hm2, hn', hf'⟩ := dend_eq hS hT (by omega) hD st
      have hfl := flat_len hf
      have hr : flat ts ++ flat new = [2453] := by rw [← flat_append, hm1, hb]; kernel_rfl
      have hs : sc' = 1 := by rw [hm2, hb]; kernel_rfl
      simp only [dlt, decide_eq_false (Nat.lt_irrefl b.length), cond_false, e1, bind_some']
      rw [awake_L1_eq (ts := new) (b := b) (out := flat ts) hn' hf' (by omega) (q1, (q2, (q3, (q4, (q5, (q6, (q7, (q8, (q9, (q10, (q11, (q12, (q13, (q14, (q15, (N, (outsOf isR, (([] : List Int), (a', (st', sc')))))))))))))))))))) hb hr hs]
      exact ⟨_, rfl, rfl⟩)
    FU64 0 (b, (([] : List Int), ((b.length : Int), ((0 : Int), (q1, (q2, (q3, (q4, (q5, (q6, (q7, (q8, (q9, (q10, (q11, (q12, (q13, (q14, (q15, (N, (outsOf isR, (([] : List Int), ((0 : Int), ((0 : Int), (0 : Int))))))))))))))))))))))))) (by omega) (by show b.length < 0 + FU64; unfold FU64; omega) ⟨[], [], [], 0, 0, 0, rfl, DRel.zero isR, (fun x hx => by cases hx), by simp⟩
  rw [h2] at h1
  exact h1
theorem awake_L3_eq (hT : TrieOk N isR) {ts : List Tok} (hn : ts.length ≤ 10000) (hf : fewO ts) (hb : flat ts = [239, 67, 179]) (q1 : List Node) (q2 : List Rule) (q3 : List Int) (q4 : Int) (q5 : Int) (q6 : Int) (q7 : Int) (q8 : List Node) (q9 : List Rule) (q10 : List Node) (q11 : List Rule) (q12 : List Int) (q13 : Int) (q14 : Int) (q15 : Int) :
    loopM (lontarlaw18_awake_L3 FU64) FU64 (([] : List Int), (ts, ((ts.length : Int), ((0 : Int), (q1, (q2, (q3, (q4, (q5, (q6, (q7, (q8, (q9, (q10, (q11, (q12, (q13, (q14, (q15, (N, (outsOf isR, (([] : List Int), ((0 : Int), ((0 : Int), (0 : Int))))))))))))))))))))))))) = some true := by
  have := loop_st (f := lontarlaw18_awake_L3 FU64) (m := ts.length) (fu := FU64) (fun k => (flat (ts.take k), (ts, ((ts.length : Int), ((k : Int), (q1, (q2, (q3, (q4, (q5, (q6, (q7, (q8, (q9, (q10, (q11, (q12, (q13, (q14, (q15, (N, (outsOf isR, (([] : List Int), ((0 : Int), ((0 : Int), (0 : Int))))))))))))))))))))))))))
    (r := true)
    (by
      intro k hk
      unfold lontarlaw18_awake_L3
      have h1 := flat_take_le hf k
      have h2 := hf ts[k] (List.getElem_mem hk)
      simp only [dlt, decide_eq_true hk, cond_true, nthI_get hk, bind_some', Int.toNat_natCast, List.getElem?_eq_getElem hk, w64_succ hk (show ts.length < 9223372036854775808 by omega)]
      rw [fit8 (by omega) (by omega), cond_true, List.take_succ_eq_append_getElem hk, flat_snoc])
    (by
      unfold lontarlaw18_awake_L3
      simp only [dlt, decide_eq_false (Nat.lt_irrefl ts.length), cond_false, List.take_length]
      rw [awake_L2_eq hT hb]; rfl)
    (by unfold FU64; omega)
  exact this
theorem awake_tok : esOut isR (esStep isR 0 es0 2453) = [swT 0 67, (0, (1, ([179], 0)))] := by kernel_rfl
theorem awake18 : lontarlaw18_awake FU64 () = some true := by
  unfold lontarlaw18_awake
  obtain ⟨N1, N2, ea, t1, t2⟩ := iscii_all_eq
  have hS := isR_sides
  have hW := isW_sides
  obtain ⟨new, ahead', w', a', st', raw', e1, hE, hl1⟩ := iput_eq hS hW t1 t2 (k := 0) (by omega) (ERel.zero isR) 2453 0 0 (maxIn isR : Int) (maxIn (turn isR) : Int) (N2 := N2) (R1 := outsOf isR) (R2 := outsOf (turn isR))
  obtain ⟨new2, ahead2, a2, st2, e2, ho, hl2⟩ := iend_eq hS hW t1 t2 (k := 0 + 1) (by omega) hE st' 0 (maxIn isR : Int) (maxIn (turn isR) : Int) (N2 := N2) (R1 := outsOf isR) (R2 := outsOf (turn isR))
  rw [List.nil_append] at ho
  have ho' : new ++ new2 = [swT 0 67, (0, (1, ([179], 0)))] := ho.trans awake_tok
  have e1' : iscii_Encoder_Put FU64 ((2453 : Int), ((0 : Int), ((0 : Int), ((0 : Int), ((maxIn isR : Int), ((maxIn (turn isR) : Int), (N1, (outsOf isR, (N2, (outsOf (turn isR), (([] : List Int), (N2, (outsOf (turn isR), (([] : List Int), ((0 : Int), (0 : Int)))))))))))))))) = _ := e1
  rw [iscii_Encode_of ea, iscii_Decode_of ea]
  simp only [bind_some', e1', e2]
  rw [fit48 (by omega) (by omega), cond_true]
  exact awake_L3_eq t1 (by rw [ho']; decide) (by rw [ho']; intro x hx; simp only [List.mem_cons, List.not_mem_nil, or_false] at hx; rcases hx with rfl | rfl <;> decide) (by rw [ho']; rfl) _ _ _ _ _ _ _ _ _ _ _ _ _ _ _
end Go.AM.M

namespace Go.AM.M
open Go.AM

theorem upto60 {l : List Int} : ∃ m : Nat, (if (60 : Int) < (l.length : Int) then (60 : Int) else (l.length : Int)) = (m : Int) ∧ m ≤ 60 ∧ m ≤ l.length := by
  split
  · exact ⟨60, rfl, by omega, by omega⟩
  · exact ⟨l.length, rfl, by omega, by omega⟩
def isU8 (l : List Int) : Prop := ∀ x ∈ l, 0 ≤ x ∧ x < 256
theorem pick_get {l : List Int} {k : Int} (h0 : 0 ≤ k) (h1 : k < (l.length : Int)) : ∃ x, nthI l k = some x ∧ l[k.toNat]? = some x ∧ x ∈ l := by
  have hk : k.toNat < l.length := by omega
  have e : (k.toNat : Int) = k := by omega
  have := nthI_get hk
  rw [e] at this
  exact ⟨l[k.toNat], this, List.getElem?_eq_getElem hk, List.getElem_mem hk⟩
def byteL : List Int := [232, 233, 234, 217, 240, 184, 191, 161, 239, 66]
theorem bytes_eq {l : List Int} (hl : isU8 l) : ∃ us, lontarlaw18_Bytes FU64 l = some us ∧ us.length ≤ 120 := by
  unfold lontarlaw18_Bytes
  obtain ⟨m, hm, h60, hml⟩ := upto60 (l := l)
  rw [hm, sliceI_to hml, bind_some']
  have hlen : (l.take m).length = m := by simp; omega
  rw [hlen]
  refine loop_n (n := m) (I := fun k x => ∃ out : List Int, x = (out, (l.take m, ((m : Int), (k : Int)))) ∧ out.length ≤ 2 * k) (R := fun rs : List Int => rs.length ≤ 120) ?_ ?_ FU64 0 _ (by omega) (by unfold FU64; omega) ⟨[], rfl, by simp⟩
  · rintro k x hk ⟨out, rfl, ho⟩
    left
    unfold lontarlaw18_Bytes_L0
    have hkl : k < (l.take m).length := by omega
    have hx := hl (l.take m)[k] (List.mem_of_mem_take (List.getElem_mem hkl))
    simp only [dlt, decide_eq_true hk, cond_true, nthI_get hkl, bind_some', codes14_eq]
    generalize (l.take m)[k] = y at hx
    by_cases c1 : y < 20
    · rw [decide_eq_true c1, cond_true]
      obtain ⟨c, p1, p2, _⟩ := pick_get (l := codesL) (k := Int.tmod y 9) (by rw [Int.tmod_eq_emod_of_nonneg hx.1]; omega) (by rw [Int.tmod_eq_emod_of_nonneg hx.1]; show y % 9 < 9; omega)
      rw [p1, bind_some', p2, bind_some', fit8 (by omega) (by simp), cond_true, w64_succ hk (by omega)]
      exact ⟨_, rfl, _, rfl, by simp; omega⟩
    · rw [decide_eq_false c1, cond_false]
      by_cases c2 : y < 60
      · rw [decide_eq_true c2, cond_true]
        obtain ⟨c, p1, p2, _⟩ := pick_get (l := byteL) (k := Int.tmod y 10) (by rw [Int.tmod_eq_emod_of_nonneg hx.1]; omega) (by rw [Int.tmod_eq_emod_of_nonneg hx.1]; show y % 10 < 10; omega)
        unfold byteL at p1 p2
        rw [p1, bind_some', p2, bind_some', fit8 (by omega) (by simp), cond_true, w64_succ hk (by omega)]
        exact ⟨_, rfl, _, rfl, by simp; omega⟩
      · rw [decide_eq_false c2, cond_false, fit8 (by omega) (by simp), cond_true, w64_succ hk (by omega)]
        exact ⟨_, rfl, _, rfl, by simp; omega⟩
  · rintro x ⟨out, rfl, ho⟩
    unfold lontarlaw18_Bytes_L0
    simp only [dlt, decide_eq_false (Nat.lt_irrefl m), cond_false]
    exact ⟨_, rfl, by omega⟩
def scalL : List Int := [8204, 8205, 2404, 97, 2364, 2381, 2509, 2492, 2314, 3349]
theorem scalars_eq {l : List Int} (hl : isU8 l) : ∃ us, lontarlaw18_Scalars FU64 l = some us ∧ us.length ≤ 60 ∧ ∀ u ∈ us, 97 ≤ u ∧ u ≤ 8205 := by
  unfold lontarlaw18_Scalars
  obtain ⟨m, hm, h60, hml⟩ := upto60 (l := l)
  rw [hm, sliceI_to hml, bind_some']
  have hlen : (l.take m).length = m := by simp; omega
  rw [hlen]
  refine loop_n (n := m) (I := fun k x => ∃ out : List Int, x = (out, (l.take m, ((m : Int), (k : Int)))) ∧ out.length = k ∧ ∀ u ∈ out, 97 ≤ u ∧ u ≤ 8205) (R := fun rs : List Int => rs.length ≤ 60 ∧ ∀ u ∈ rs, 97 ≤ u ∧ u ≤ 8205) ?_ ?_ FU64 0 _ (by omega) (by unfold FU64; omega) ⟨[], rfl, rfl, fun u hu => by cases hu⟩
  · rintro k x hk ⟨out, rfl, ho, hr⟩
    left
    unfold lontarlaw18_Scalars_L0
    have hkl : k < (l.take m).length := by omega
    have hx := hl (l.take m)[k] (List.mem_of_mem_take (List.getElem_mem hkl))
    simp only [dlt, decide_eq_true hk, cond_true, nthI_get hkl, bind_some', codes14_eq]
    generalize (l.take m)[k] = y at hx
    have push : ∀ c : Int, (97 ≤ c ∧ c ≤ 8205) → (out ++ [c]).length = k + 1 ∧ ∀ u ∈ out ++ [c], 97 ≤ u ∧ u ≤ 8205 := by
      intro c hc
      refine ⟨by simp [ho], fun u hu => ?_⟩
      simp only [List.mem_append, List.mem_singleton] at hu
      rcases hu with hu | rfl
      · exact hr u hu
      · exact hc
    by_cases c1 : y < 30
    · rw [decide_eq_true c1, cond_true]
      obtain ⟨c, p1, p2, p3⟩ := pick_get (l := scalL) (k := Int.tmod y 10) (by rw [Int.tmod_eq_emod_of_nonneg hx.1]; omega) (by rw [Int.tmod_eq_emod_of_nonneg hx.1]; show y % 10 < 10; omega)
      have hc : 97 ≤ c ∧ c ≤ 8205 := by
        unfold scalL at p3
        simp only [List.mem_cons, List.not_mem_nil, or_false] at p3
        omega
      unfold scalL at p1 p2
      rw [p1, bind_some', p2, bind_some', fit8 (by omega) (by simp), cond_true, w64_succ hk (by omega)]
      exact ⟨_, rfl, _, rfl, push c hc⟩
    · rw [decide_eq_false c1, cond_false]
      by_cases c2 : y < 140
      · rw [decide_eq_true c2, cond_true, fit8 (by omega) (by simp), cond_true, w64_succ hk (by omega)]
        refine ⟨_, rfl, _, rfl, push _ ?_⟩
        rw [w64_id (n := y) (by omega) (by omega), Int.tmod_eq_emod_of_nonneg hx.1, w64_id (by omega) (by omega)]; omega
      · rw [decide_eq_false c2, cond_false]
        by_cases c3 : y < 220
        · rw [decide_eq_true c3, cond_true, fit8 (by omega) (by simp), cond_true, w64_succ hk (by omega)]
          refine ⟨_, rfl, _, rfl, push _ ?_⟩
          rw [w64_id (n := y) (by omega) (by omega), Int.tmod_eq_emod_of_nonneg hx.1, w64_id (by omega) (by omega)]; omega
        · rw [decide_eq_false c3, cond_false, fit8 (by omega) (by simp), cond_true, w64_succ hk (by omega)]
          refine ⟨_, rfl, _, rfl, push _ ?_⟩
          rw [Int.tmod_eq_emod_of_nonneg hx.1, w64_id (n := y % 9) (by omega) (by omega), w64_id (n := 128 * (y % 9)) (by omega) (by omega), w64_id (n := 2304 + 128 * (y % 9)) (by omega) (by omega), w64_id (by omega) (by omega)]; omega
  · rintro x ⟨out, rfl, ho, hr⟩
    unfold lontarlaw18_Scalars_L0
    simp only [dlt, decide_eq_false (Nat.lt_irrefl m), cond_false]
    exact ⟨_, rfl, by omega, hr⟩
theorem isU8_of {a : (Sh.sl (.int .u8)).den} (h : wfD (.sl (.int .u8)) a) : isU8 a := fun x hx => by
  have h1 : 0 ≤ x ∧ x < 256 := by
    have h1 : (Lit.int .u8 x).wf = true := h.2 x hx
    unfold Lit.wf at h1
    simp only [Bool.and_eq_true, decide_eq_true_eq] at h1
    have h2 : (0 : Int) ≤ x ∧ x ≤ 255 := h1
    omega
  exact h1
end Go.AM.M

namespace Go.AM.M
open Go.AM

theorem isciiHeld_L0_eq {N1 N2 : List Node} (t1 : TrieOk N1 isR) (t2 : TrieOk N2 (turn isR)) {us : List Int} (hu : us.length ≤ 60) (d) :
    loopM (lontarlaw18_IsciiHeld_L0 FU64) FU64 (us, ((us.length : Int), ((0 : Int), (N2, (outsOf (turn isR), (([] : List Int), ((0 : Int), ((0 : Int), ((maxIn isR : Int), ((maxIn (turn isR) : Int), (N1, (outsOf isR, (N2, (outsOf (turn isR), (([] : List Int), ((0 : Int), ((0 : Int), ((0 : Int), d)))))))))))))))))) = some true := by
  have hS := isR_sides
  have hW := isW_sides
  obtain ⟨v, h1, h2⟩ := loop_n (f := lontarlaw18_IsciiHeld_L0 FU64) (n := us.length)
    (I := fun k x => ∃ (e : ES) (out raw : List Tok) (w ahead : List Int) (a st : Int), x = (us, ((us.length : Int), ((k : Int), (N2, (outsOf (turn isR), (w, (a, (st, ((maxIn isR : Int), ((maxIn (turn isR) : Int), (N1, (outsOf isR, (N2, (outsOf (turn isR), (ahead, (e.sc, ((k : Int), ((0 : Int), d)))))))))))))))))) ∧ ERel isR k e out ahead w a raw)
    (R := fun v => v = true)
    (by
      rintro k x hk ⟨e, out, raw, w, ahead, a, st, rfl, hE⟩
      left
      unfold lontarlaw18_IsciiHeld_L0
      obtain ⟨new, ahead', w', a', st', raw', e1, hE', hn'⟩ := iput_eq hS hW t1 t2 (k := k) (by omega) hE us[k] st 0 (maxIn isR : Int) (maxIn (turn isR) : Int) (N2 := N2) (R1 := outsOf isR) (R2 := outsOf (turn isR))
      have hm := open_max hE'.op
      rw [isW_max] at hm
      simp only [dlt, decide_eq_true hk, cond_true, nthI_get hk, bind_some', Int.toNat_natCast, List.getElem?_eq_getElem hk, e1, iscii_Encoder_Held, machine_Encoder_Held, match_Match_Held, w64_succ hk (show us.length < 9223372036854775808 by omega)]
      rw [decide_eq_false (by omega), cond_false]
      exact ⟨_, rfl, _, _, _, _, _, _, _, rfl, hE'⟩)
    (by
      rintro x ⟨e, out, raw, w, ahead, a, st, rfl, hE⟩
      unfold lontarlaw18_IsciiHeld_L0
      simp only [dlt, decide_eq_false (Nat.lt_irrefl us.length), cond_false]
      exact ⟨_, rfl, rfl⟩)
    FU64 0 (us, ((us.length : Int), ((0 : Int), (N2, (outsOf (turn isR), (([] : List Int), ((0 : Int), ((0 : Int), ((maxIn isR : Int), ((maxIn (turn isR) : Int), (N1, (outsOf isR, (N2, (outsOf (turn isR), (([] : List Int), ((0 : Int), ((0 : Int), ((0 : Int), d)))))))))))))))))) (by omega) (by show us.length < 0 + FU64; unfold FU64; omega) ⟨es0, [], [], [], [], 0, 0, rfl, ERel.zero isR⟩
  rw [h2] at h1
  exact h1
theorem isciiHeld_true {l : List Int} (hl : isU8 l) : lontarlaw18_IsciiHeld FU64 l = some true := by
  unfold lontarlaw18_IsciiHeld
  obtain ⟨N1, N2, ea, t1, t2⟩ := iscii_all_eq
  obtain ⟨us, e1, hu⟩ := bytes_eq hl
  obtain ⟨ss, e2, hs, _⟩ := scalars_eq hl
  have hS := isR_sides
  simp only [awake18, bind_some', Bool.not_true, cond_false, iscii_Encode_of ea, iscii_Decode_of ea, e1]
  obtain ⟨v, h1, h2⟩ := loop_n (f := lontarlaw18_IsciiHeld_L1 FU64) (n := us.length)
    (I := fun k x => ∃ (out raw : List Tok) (w : List Int) (a st sc : Int), x = (l, (us, ((us.length : Int), ((k : Int), (N2, (outsOf (turn isR), (([] : List Int), ((0 : Int), ((0 : Int), ((maxIn isR : Int), ((maxIn (turn isR) : Int), (N1, (outsOf isR, (N2, (outsOf (turn isR), (([] : List Int), ((0 : Int), ((0 : Int), ((0 : Int), (N1, (outsOf isR, (w, (a, (st, sc)))))))))))))))))))))))) ∧ DRel isR (us.take k) out sc a w raw)
    (R := fun v => v = true)
    (by
      rintro k x hk ⟨out, raw, w, a, st, sc, rfl, hD⟩
      left
      unfold lontarlaw18_IsciiHeld_L1
      obtain ⟨new, sc', w', a', st', raw', p1, hD', hn', hf'⟩ := dput_eq hS t1 (by simp; omega) hD us[k] st
      have hm := open_max hD'.op
      rw [isR_max] at hm
      simp only [dlt, decide_eq_true hk, cond_true, nthI_get hk, bind_some', Int.toNat_natCast, List.getElem?_eq_getElem hk, p1, iscii_Decoder_Held, match_Match_Held, w64_succ hk (show us.length < 9223372036854775808 by omega)]
      rw [decide_eq_false (by omega), cond_false]
      rw [← List.take_succ_eq_append_getElem hk] at hD'
      exact ⟨_, rfl, _, _, _, _, _, _, rfl, hD'⟩)
    (by
      rintro x ⟨out, raw, w, a, st, sc, rfl, hD⟩
      unfold lontarlaw18_IsciiHeld_L1
      simp only [dlt, decide_eq_false (Nat.lt_irrefl us.length), cond_false, e2, bind_some']
      rw [isciiHeld_L0_eq t1 t2 hs (N1, (outsOf isR, (w, (a, (st, sc)))))]
      exact ⟨_, rfl, rfl⟩)
    FU64 0 (l, (us, ((us.length : Int), ((0 : Int), (N2, (outsOf (turn isR), (([] : List Int), ((0 : Int), ((0 : Int), ((maxIn isR : Int), ((maxIn (turn isR) : Int), (N1, (outsOf isR, (N2, (outsOf (turn isR), (([] : List Int), ((0 : Int), ((0 : Int), ((0 : Int), (N1, (outsOf isR, (([] : List Int), ((0 : Int), ((0 : Int), (0 : Int))))))))))))))))))))))))) (by omega) (by show us.length < 0 + FU64; unfold FU64; omega) ⟨[], [], [], 0, 0, 0, rfl, DRel.zero isR⟩
  rw [h2] at h1
  exact h1
theorem isciiHeld_law (a0 : (Sh.sl (.int .u8)).den) (w0 : wfD (.sl (.int .u8)) a0) : lontarlaw18_IsciiHeld FU64 a0 = some true := isciiHeld_true (isU8_of w0)

/-! ### The decoding of the law -/
theorem decode_mean {ts : List Tok} (h1 : ts.length ≤ 100000) (h2 : fewO ts) :
    loopM (lontarlaw18_Decode_L1 FU64) FU64 (ts, ((0 : Int), ((ts.length : Int), (0 : Int)))) = some (meanT 0 ts) := by
  obtain ⟨v, k1, k2⟩ := loop_n (f := lontarlaw18_Decode_L1 FU64) (n := ts.length)
    (I := fun k x => x = ((meanT 0 (ts.take k)).1 ++ ts.drop k, ((meanT 0 (ts.take k)).2, ((ts.length : Int), (k : Int)))))
    (R := fun v => v = meanT 0 ts)
    (by
      rintro k x hk rfl
      left
      unfold lontarlaw18_Decode_L1
      have hl : (meanT 0 (ts.take k)).1.length = k := by rw [meanT_len]; simp; omega
      have hd : ts.drop k = ts[k] :: ts.drop (k + 1) := List.drop_eq_getElem_cons hk
      have hg : ((meanT 0 (ts.take k)).1 ++ ts.drop k)[k]? = some ts[k] := by rw [hd]; exact mid_get hl
      simp only [dlt, decide_eq_true hk, cond_true, nthI_nat, Int.toNat_natCast, hg, bind_some']
      have hf := h2 ts[k] (List.getElem_mem hk)
      have hs : meanT 0 (ts.take (k + 1)) = ((meanT 0 (ts.take k)).1 ++ [(ts[k].1, (ts[k].2.1, ((muU (meanT 0 (ts.take k)).2 ts[k].2.2.1).1, ts[k].2.2.2)))], (muU (meanT 0 (ts.take k)).2 ts[k].2.2.1).2) := by
        rw [List.take_succ_eq_append_getElem hk, meanT_append]; rfl
      have := loop_st (f := lontarlaw18_Decode_L0 FU64) (m := ts[k].2.2.1.length) (fu := FU64)
        (fun j => ((meanT 0 (ts.take k)).1 ++ ts.drop k, ((muU (meanT 0 (ts.take k)).2 (ts[k].2.2.1.take j)).2, ((k : Int), ((muU (meanT 0 (ts.take k)).2 (ts[k].2.2.1.take j)).1, ((ts.length : Int), ((k : Int), (ts[k].2.2.1, ((ts[k].2.2.1.length : Int), ((j : Int), (ts[k].1, (ts[k].2.1, (ts[k].2.2.1, ts[k].2.2.2)))))))))))))
        (r := .inl ((meanT 0 (ts.take (k + 1))).1 ++ ts.drop (k + 1), ((meanT 0 (ts.take (k + 1))).2, ((ts.length : Int), ((k + 1 : Nat) : Int)))))
        (by
          intro j hj
          unfold lontarlaw18_Decode_L0
          have hm := muU_len (meanT 0 (ts.take k)).2 (ts[k].2.2.1.take j)
          rw [List.length_take] at hm
          have hsn : muU (meanT 0 (ts.take k)).2 (ts[k].2.2.1.take (j + 1)) = mu1 (muU (meanT 0 (ts.take k)).2 (ts[k].2.2.1.take j)) ts[k].2.2.1[j] := by
            rw [List.take_succ_eq_append_getElem hj, muU_snoc]
          simp only [dlt, decide_eq_true hj, cond_true, nthI_get hj, bind_some', List.length_singleton, fit8 (show (muU (meanT 0 (ts.take k)).2 (ts[k].2.2.1.take j)).1.length ≤ 1000000 by omega) (show 1 ≤ 1000000 by omega), w64_succ hj (show ts[k].2.2.1.length < 9223372036854775808 by omega), hsn]
          unfold mu1
          by_cases c1 : ts[k].2.2.1[j] ≥ 8192
          · rw [decide_eq_true c1, cond_true, if_pos c1]
          · rw [decide_eq_false c1, cond_false, if_neg c1]
            by_cases c2 : ts[k].2.2.1[j] ≥ 4096
            · rw [decide_eq_true c2, cond_true, if_pos c2]
            · rw [decide_eq_false c2, cond_false, if_neg c2])
        (by
          unfold lontarlaw18_Decode_L0
          simp only [dlt, decide_eq_false (Nat.lt_irrefl ts[k].2.2.1.length), cond_false, nthI_nat, Int.toNat_natCast, hg, bind_some', List.take_length, Option.map_some, w64_succ hk (show ts.length < 9223372036854775808 by omega), hs]
          rw [hd, mid_set hl])
        (by unfold FU64; omega)
      exact ⟨_, this, rfl⟩)
    (by
      rintro x rfl
      unfold lontarlaw18_Decode_L1
      simp only [dlt, decide_eq_false (Nat.lt_irrefl ts.length), cond_false, List.take_length, List.drop_length, List.append_nil]
      exact ⟨_, rfl, rfl⟩)
    FU64 0 (ts, ((0 : Int), ((ts.length : Int), (0 : Int)))) (by omega) (by show ts.length < 0 + FU64; unfold FU64; omega) (by simp [meanT])
  rw [k2] at k1
  exact k1
theorem decode18_eq {us : List Int} (hu : us.length ≤ 1000) : lontarlaw18_Decode FU64 us = some (meanT 0 (toksA isR 0 us)) := by
  unfold lontarlaw18_Decode
  have hl := toksA_len (rs := isR) us 0
  rw [rules14_is, bind_some', all05_eq fu64 isR_sides (by omega), bind_some']
  exact decode_mean (by omega) (toksA_few isR_sides us 0)
theorem isciiDecode_L0_eq {rs : List Rule} (hS : Sides rs) {N1 : List Node} (t1 : TrieOk N1 rs) {us : List Int} (hd : lontarlaw18_Decode FU64 us = some (meanT 0 (toksA rs 0 us))) (hu : us.length ≤ 1000) (LL : List (List Int)) (nn kk : Int) :
    loopM (lontarlaw18_IsciiDecode_L0 FU64) FU64 (us, (([] : List Tok), (LL, (nn, (kk, (us, ((us.length : Int), ((0 : Int), (N1, (outsOf rs, (([] : List Int), ((0 : Int), ((0 : Int), (0 : Int)))))))))))))) = some (.inl (LL, (nn, w64 (kk + 1)))) := by
  obtain ⟨v, h1, h2⟩ := loop_n (f := lontarlaw18_IsciiDecode_L0 FU64) (n := us.length)
    (I := fun k x => ∃ (out raw : List Tok) (w : List Int) (a st sc : Int), x = (us, (out, (LL, (nn, (kk, (us, ((us.length : Int), ((k : Int), (N1, (outsOf rs, (w, (a, (st, sc))))))))))))) ∧ DRel rs (us.take k) out sc a w raw)
    (R := fun v => v = .inl (LL, (nn, w64 (kk + 1))))
    (by
      rintro k x hk ⟨out, raw, w, a, st, sc, rfl, hD⟩
      left
      unfold lontarlaw18_IsciiDecode_L0
      have hD2 : out.length ≤ us.length := by
        have := hD.len; rw [hD.o, meanT_len]; simp only [List.length_take] at this; omega
      obtain ⟨new, sc', w', a', st', raw', p1, hD', hn', hf'⟩ := dput_eq hS t1 (by simp; omega) hD us[k] st
      simp only [dlt, decide_eq_true hk, cond_true, nthI_get hk, bind_some', p1, w64_succ hk (show us.length < 9223372036854775808 by omega)]
      rw [fit48 (by omega) (by omega), cond_true]
      rw [← List.take_succ_eq_append_getElem hk] at hD'
      exact ⟨_, rfl, _, _, _, _, _, _, rfl, hD'⟩)
    (by
      rintro x ⟨out, raw, w, a, st, sc, rfl, hD⟩
      unfold lontarlaw18_IsciiDecode_L0
      rw [List.take_length] at hD
      have hD2 : out.length ≤ us.length := by
        have := hD.len; rw [hD.o, meanT_len]; omega
      obtain ⟨new, sc', a', st', p1, hm1, hm2, hn', hf'⟩ := dend_eq hS t1 (by omega) hD st
      have hl := toksA_len (rs := rs) us 0
      have hfew := meanT_few 0 _ (toksA_few hS us 0)
      simp only [dlt, decide_eq_false (Nat.lt_irrefl us.length), cond_false, p1, bind_some']
      rw [fit48 (by omega) (by omega), cond_true, hd]
      simp only [bind_some', hm1, same_eq fu64 (by unfold small; rw [meanT_len]; omega : small (meanT 0 (toksA rs 0 us)).1) (fewO_small hfew), decide_true, Bool.not_true, cond_false, iscii_Decoder_Script, iscii_Decoder_Held, match_Match_Held, ← hm2, bne_self_eq_false, List.length_nil]
      exact ⟨_, rfl, rfl⟩)
    FU64 0 (us, (([] : List Tok), (LL, (nn, (kk, (us, ((us.length : Int), ((0 : Int), (N1, (outsOf rs, (([] : List Int), ((0 : Int), ((0 : Int), (0 : Int)))))))))))))) (by omega) (by show us.length < 0 + FU64; unfold FU64; omega) ⟨[], [], [], 0, 0, 0, rfl, DRel.zero rs⟩
  rw [h2] at h1
  exact h1
theorem isciiDecode_L1_eq {LL : List (List Int)} (hLL : LL.length ≤ 1000) (h : ∀ us ∈ LL, us.length ≤ 1000) :
    loopM (lontarlaw18_IsciiDecode_L1 FU64) FU64 (LL, ((LL.length : Int), (0 : Int))) = some true := by
  obtain ⟨N1, N2, ea, t1, t2⟩ := iscii_all_eq
  exact loop_st (f := lontarlaw18_IsciiDecode_L1 FU64) (m := LL.length) (fu := FU64) (fun k => (LL, ((LL.length : Int), (k : Int))))
    (by
      intro k hk
      unfold lontarlaw18_IsciiDecode_L1
      simp only [dlt, decide_eq_true hk, cond_true, nthI_get hk, bind_some', Int.toNat_natCast, List.getElem?_eq_getElem hk, iscii_Decode_of ea]
      have := isciiDecode_L0_eq isR_sides t1 (us := LL[k]) (decode18_eq (h _ (List.getElem_mem hk))) (h _ (List.getElem_mem hk)) LL (LL.length : Int) (k : Int)
      rw [w64_succ hk (show LL.length < 9223372036854775808 by omega)] at this
      exact this)
    (by
      unfold lontarlaw18_IsciiDecode_L1
      simp only [dlt, decide_eq_false (Nat.lt_irrefl LL.length), cond_false])
    (by unfold FU64; omega)
end Go.AM.M

namespace Go.AM.M
open Go.AM

theorem bind_of {α β : Type} {x : Option α} {f : α → Option β} {a : α} {r : Option β} (h : x = some a) (h2 : f a = r) : x.bind f = r := by subst h; exact h2
theorem isciiDecode_true {l b : List Int} (hl : isU8 l) : lontarlaw18_IsciiDecode FU64 (l, b) = some true := by
  unfold lontarlaw18_IsciiDecode
  obtain ⟨us, e1, hu⟩ := bytes_eq hl
  obtain ⟨m, hm, h60, hml⟩ := upto60 (l := b)
  have hlen : (b.take m).length = m := by simp; omega
  rw [awake18, bind_some', Bool.not_true, cond_false]
  show (sliceI b 0 (if (60 : Int) < (b.length : Int) then (60 : Int) else (b.length : Int))).bind _ = _
  rw [hm, sliceI_to hml, bind_some', hlen]
  obtain ⟨v, h1, h2⟩ := loop_n (f := lontarlaw18_IsciiDecode_L2 FU64) (n := m)
    (I := fun k x => ∃ out : List Int, x = (l, (out, (b.take m, ((m : Int), (k : Int))))) ∧ out.length = k)
    (R := fun v => v = true)
    (by
      rintro k x hk ⟨out, rfl, ho⟩
      left
      unfold lontarlaw18_IsciiDecode_L2
      have hkl : k < (b.take m).length := by omega
      simp only [dlt, decide_eq_true hk, cond_true, nthI_get hkl, bind_some']
      rw [fit8 (by omega) (by simp), cond_true, w64_succ hk (by omega)]
      exact ⟨_, rfl, _, rfl, by simp [ho]⟩)
    (by
      rintro x ⟨out, rfl, ho⟩
      have hL := isciiDecode_L1_eq (LL := [us, out]) (by simp) (by intro x hx; simp only [List.mem_cons, List.not_mem_nil, or_false] at hx; rcases hx with rfl | rfl <;> omega)
      refine ⟨true, ?_, rfl⟩
      unfold lontarlaw18_IsciiDecode_L2
      show (bif decide ((m : Int) < (m : Int)) then _ else _) = _
      rw [decide_eq_false (by omega), cond_false]
      have h3 : (lontarlaw18_Bytes FU64 l).bind (fun y1 => loopM (lontarlaw18_IsciiDecode_L1 FU64) FU64 ([y1, out], (((List.length [y1, out] : Nat) : Int), (0 : Int)))) = some true := by
        rw [e1, Option.bind_some]
        exact hL
      show Option.map Sum.inr ((lontarlaw18_Bytes FU64 l).bind (fun y1 => loopM (lontarlaw18_IsciiDecode_L1 FU64) FU64 ([y1, out], (((List.length [y1, out] : Nat) : Int), (0 : Int))))) = _
      rw [h3]
      rfl)
    FU64 0 (l, (([] : List Int), (b.take m, ((m : Int), (0 : Int))))) (by omega) (by show m < 0 + FU64; unfold FU64; omega) ⟨[], rfl, rfl⟩
  rw [h2] at h1
  exact h1
theorem isciiDecode_law (a0 a1 : (Sh.sl (.int .u8)).den) (w0 : wfD (.sl (.int .u8)) a0) (_ : wfD (.sl (.int .u8)) a1) : lontarlaw18_IsciiDecode FU64 (a0, a1) = some true := isciiDecode_true (isU8_of w0)
end Go.AM.M

namespace Go.AM.M
open Go.AM

theorem bind_someN {α β : Type} (a : α) (f : α → Option β) : (some a).bind f = f a := by
  have h : ∀ g : α → Option β, g = f → (some a).bind g = f a := fun g e => by rw [e]; rfl
  exact h f rfl
def sft18 (c : Int) (x : Tok) : Tok := (x.1 + c, x.2)
theorem tok_sft18 {rs : List Rule} {a c : Int} {us : List Int} : tok rs (a + c) us = sft18 c (tok rs a us) := by
  unfold tok sft18
  split <;> rfl
theorem toksA_sft18 {rs : List Rule} {c : Int} : ∀ (us : List Int) (a : Int), toksA rs (a + c) us = (toksA rs a us).map (sft18 c) := by
  intro us
  induction us using toks_ind (rs := rs) with
  | h0 => intro a; rfl
  | h1 us hne ih =>
    intro a
    rw [toksA_cons hne, toksA_cons hne, tok_sft18, List.map_cons, ← ih]
    congr 2
    omega
theorem joinT_sft18 {rs : List Rule} {ah : List Int} {x : Tok} {c : Int} : joinT rs ah (sft18 c x) = sft18 c (joinT rs ah x) := by
  unfold joinT sft18
  simp only
  split <;> rfl
theorem joinF_sft18 {rs : List Rule} {c : Int} : ∀ (xs : List Tok) (ah : List Int), joinF rs ah (xs.map (sft18 c)) = ((joinF rs ah xs).1.map (sft18 c), (joinF rs ah xs).2)
  | [], ah => rfl
  | x :: xs, ah => by
    have h1 : aheadT rs ah (sft18 c x) = aheadT rs ah x := by unfold aheadT; rw [joinT_sft18]; rfl
    simp only [List.map_cons, joinF, joinT_sft18, h1, joinF_sft18 xs]
theorem part_sft {rs : List Rule} {frm : Int} {us : List Int} : part rs frm us = (joinF rs [] (toksA (turn rs) 0 us)).1.map (sft18 frm) := by
  unfold part
  have := toksA_sft18 (rs := turn rs) (c := frm) us 0
  rw [Int.zero_add] at this
  rw [this, joinF_sft18]
theorem tok_at {rs : List Rule} {a : Int} {us : List Int} : (tok rs a us).1 = a := by unfold tok; split <;> rfl
theorem toksA_at {rs : List Rule} : ∀ (us : List Int) (a : Int), ∀ t ∈ toksA rs a us, a ≤ t.1 ∧ t.1 ≤ a + (us.length : Int) := by
  intro us
  induction us using toks_ind (rs := rs) with
  | h0 => intro a t ht; cases ht
  | h1 us hne ih =>
    intro a t ht
    rw [toksA_cons hne] at ht
    have h1 := adv_pos rs us
    have h2 := adv_le (rs := rs) hne
    rcases List.mem_cons.1 ht with rfl | ht
    · rw [tok_at]; omega
    · have := ih _ t ht
      simp only [List.length_drop] at this
      omega
theorem joinT_at {rs : List Rule} {ah : List Int} {x : Tok} : (joinT rs ah x).1 = x.1 := by unfold joinT; split <;> rfl
theorem joinF_at {rs : List Rule} : ∀ (xs : List Tok) (ah : List Int), ∀ t ∈ (joinF rs ah xs).1, ∃ y ∈ xs, t.1 = y.1
  | [], ah => fun t ht => by cases ht
  | x :: xs, ah => fun t ht => by
    simp only [joinF] at ht
    rcases List.mem_cons.1 ht with rfl | ht
    · exact ⟨x, by simp, joinT_at⟩
    · obtain ⟨y, hy, e⟩ := joinF_at xs _ t ht
      exact ⟨y, List.mem_cons_of_mem _ hy, e⟩
theorem encode18_1_eq {rs : List Rule} (hS : Sides rs) (hr : lontarlaw14_Rules FU64 () = some rs) {us : List Int} (hu : us.length ≤ 1000) {frm : Int} (h0 : 0 ≤ frm) (h1 : frm ≤ 1000) {out : List Tok} (ho : out.length ≤ 10000) :
    lontarlaw18_Encode_1 FU64 (us, (frm, out)) = some ([], (frm + (us.length : Int), out ++ part rs frm us)) := by
  unfold lontarlaw18_Encode_1
  simp only [hr, bind_some', encode15_eq fu64 hS hu]
  rw [part_sft]
  have hat : ∀ t ∈ (joinF rs [] (toksA (turn rs) 0 us)).1, 0 ≤ t.1 ∧ t.1 ≤ 1000 := by
    intro t ht
    obtain ⟨y, hy, e⟩ := joinF_at _ _ t ht
    have := toksA_at us 0 y hy
    omega
  have hlen : (joinF rs [] (toksA (turn rs) 0 us)).1.length ≤ 1000 := by
    rw [joinF_len]; have := toksA_len (rs := turn rs) us 0; omega
  generalize (joinF rs [] (toksA (turn rs) 0 us)).1 = ts at hat hlen
  have := loop_st (f := lontarlaw18_Encode_1_L0 FU64) (m := ts.length) (fu := FU64) (fun k => (ts, ((ts.length : Int), ((k : Int), (us, (frm, out ++ (ts.take k).map (sft18 frm)))))))
    (r := ([], (frm + (us.length : Int), out ++ ts.map (sft18 frm))))
    (by
      intro k hk
      unfold lontarlaw18_Encode_1_L0
      have hb := hat ts[k] (List.getElem_mem hk)
      simp only [dlt, decide_eq_true hk, cond_true, nthI_get hk, bind_some', Int.toNat_natCast, List.getElem?_eq_getElem hk, w64_succ hk (show ts.length < 9223372036854775808 by omega)]
      rw [fit48 (by simp only [List.length_append, List.length_map, List.length_take]; omega) (by simp), cond_true, w64_id (n := ts[k].1 + frm) (by omega) (by omega), List.take_succ_eq_append_getElem hk, List.map_append, List.append_assoc]
      rfl)
    (by
      unfold lontarlaw18_Encode_1_L0
      simp only [dlt, decide_eq_false (Nat.lt_irrefl ts.length), cond_false, List.take_length]
      rw [w64_id (by omega) (by omega)])
    (by unfold FU64; omega)
  simp only [List.take_zero, List.map_nil, List.append_nil] at this
  exact this
structure EB (k : Nat) (e : ES) : Prop where
  f0 : 0 ≤ e.frm
  fk : e.frm + (e.us.length : Int) = (k : Int)
  len : e.out.length + e.us.length ≤ 2 * k
theorem EB.step {rs : List Rule} {k : Nat} {e : ES} (h : EB k e) (s : Int) : EB (k + 1) (esStep rs k e s) := by
  obtain ⟨h1, h2, h3⟩ := h
  have hp : (part rs e.frm e.us).length ≤ e.us.length := by unfold part; rw [joinF_len]; exact toksA_len _ _
  unfold esStep
  split
  · exact ⟨by show (0 : Int) ≤ (k : Int); omega, by simp, by simp only [List.length_append, List.length_singleton]; omega⟩
  · exact ⟨h1, by simp only [List.length_append, List.length_singleton]; omega, by simp only [List.length_append, List.length_singleton]; omega⟩
theorem esRun_EB {rs : List Rule} (ss : List Int) : EB ss.length (esRun rs 0 es0 ss) := by
  induction ss using snocInd with
  | nil => exact ⟨Int.le_refl _, rfl, Nat.le_refl _⟩
  | snoc l a ih =>
    rw [esRun_snoc, List.length_append, List.length_singleton]
    have := ih.step (rs := rs) a
    rw [Int.zero_add]; exact this
theorem esRun_take {rs : List Rule} {ss : List Int} {k : Nat} (hk : k < ss.length) : esRun rs 0 es0 (ss.take (k + 1)) = esStep rs k (esRun rs 0 es0 (ss.take k)) ss[k] := by
  rw [List.take_succ_eq_append_getElem hk, esRun_snoc, Int.zero_add, List.length_take, Nat.min_eq_left (by omega)]
theorem okS_false {s : Int} (h : okS s = false) : ¬ (2304 ≤ s ∧ s < 3456 ∧ s ≠ 2404) := by unfold okS at h; rw [decide_eq_false_iff_not] at h; exact h
theorem encode18_eq {rs : List Rule} (hS : Sides rs) (hr : lontarlaw14_Rules FU64 () = some rs) {ss : List Int} (hu : ss.length ≤ 900) :
    lontarlaw18_Encode FU64 ss = some (esOut rs (esRun rs 0 es0 ss), (esRun rs 0 es0 ss).sc) := by
  unfold lontarlaw18_Encode
  have hX : ∀ (us : List Int) (frm : Int) (out : List Tok), us.length ≤ 1000 → 0 ≤ frm → frm ≤ 1000 → out.length ≤ 10000 → lontarlaw18_Encode_1 FU64 (us, (frm, out)) = some ([], (frm + (us.length : Int), out ++ part rs frm us)) :=
    fun us frm out h1 h2 h3 h4 => encode18_1_eq hS hr h1 h2 h3 h4
  have := loop_st (f := lontarlaw18_Encode_L0 FU64) (m := ss.length) (fu := FU64)
    (fun k => (ss, ((esRun rs 0 es0 (ss.take k)).sc, (ss, ((ss.length : Int), ((k : Int), ((esRun rs 0 es0 (ss.take k)).out, ((esRun rs 0 es0 (ss.take k)).frm, (esRun rs 0 es0 (ss.take k)).us))))))))
    (r := (esOut rs (esRun rs 0 es0 ss), (esRun rs 0 es0 ss).sc))
    (by
      intro k hk
      have hB := esRun_EB (rs := rs) (ss.take k)
      rw [List.length_take, Nat.min_eq_left (by omega)] at hB
      rw [esRun_take hk]
      generalize esRun rs 0 es0 (ss.take k) = e at hB
      obtain ⟨b1, b2, b3⟩ := hB
      unfold lontarlaw18_Encode_L0
      generalize lontarlaw18_Encode_1 FU64 = E1 at hX
      simp only [dlt, decide_eq_true hk, cond_true, nthI_get hk, w64_succ hk (show ss.length < 9223372036854775808 by omega)]
      generalize ss[k] = s
      refine bind_of rfl ?_
      refine bind_of (utf_Scalar_eq _ _) ?_
      cases hok : okS s with
      | true =>
        have hsc := okS_scal hok
        have hr1 := okS_r hok
        have hr9 := scrS_r hok
        have hne : s ≠ 2404 := by unfold okS at hok; rw [decide_eq_true_eq] at hok; exact hok.2.2
        have hu : unitS s = s % 128 := by unfold unitS; rw [hok]; rfl
        rw [hsc, Bool.not_true, cond_false, decide_eq_true (show s ≥ 2304 from hr1.1), cond_true, decide_eq_true hr1.2, cond_true, bne_iff_ne.2 hne, cond_true, tdiv_scr hr1, tmod_plc2 hr1]
        by_cases hn : scrS s = e.sc
        · rw [bne_eq_false_iff_eq.2 hn, cond_false, fit8 (by omega) (by simp), cond_true]
          unfold esStep
          rw [if_neg (by rintro ⟨_, h⟩; exact h hn), hu]
        · rw [bne_iff_ne.2 hn, cond_true, hX _ _ _ (by omega) b1 (by omega) (by omega)]
          have hp : (part rs e.frm e.us).length ≤ e.us.length := by unfold part; rw [joinF_len]; exact toksA_len _ _
          have hc := codes_get hr9.1 hr9.2
          simp only [bind_someN, codes14_eq, hc.1, hc.2]
          rw [fit48 (by simp only [List.length_append]; omega) (by simp), cond_true, fit8 (by simp) (by simp), cond_true]
          unfold esStep
          rw [if_pos ⟨hok, hn⟩, hu, b2]
          rfl
      | false =>
        have hn := okS_false hok
        have hst : esStep rs k e s = ⟨e.out, e.sc, e.frm, e.us ++ [unitS s]⟩ := by unfold esStep; rw [if_neg (by rw [hok]; simp)]
        rw [hst]
        cases hsc : scalB s with
        | true =>
          have hu : unitS s = w64 (8192 + s) := by unfold unitS; rw [hok, hsc]; rfl
          rw [Bool.not_true, cond_false, hu]
          by_cases c1 : s ≥ 2304
          · rw [decide_eq_true c1, cond_true]
            by_cases c2 : s < 3456
            · have c3 : s = 2404 := by omega
              rw [decide_eq_true c2, cond_true, bne_eq_false_iff_eq.2 c3, cond_false, fit8 (by omega) (by simp), cond_true]
            · rw [decide_eq_false c2, cond_false, fit8 (by omega) (by simp), cond_true]
          · rw [decide_eq_false c1, cond_false, fit8 (by omega) (by simp), cond_true]
        | false =>
          have hu : unitS s = -1 := by unfold unitS; rw [hok, hsc]; rfl
          rw [Bool.not_false, cond_true, hu]
          by_cases c1 : s ≥ 2304
          · rw [decide_eq_true c1, cond_true]
            by_cases c2 : s < 3456
            · have c3 : s = 2404 := by omega
              rw [decide_eq_true c2, cond_true, bne_eq_false_iff_eq.2 c3, cond_false, fit8 (by omega) (by simp), cond_true]
            · rw [decide_eq_false c2, cond_false, fit8 (by omega) (by simp), cond_true]
          · rw [decide_eq_false c1, cond_false, fit8 (by omega) (by simp), cond_true])
    (by
      have hB := esRun_EB (rs := rs) ss
      rw [List.take_length]
      generalize esRun rs 0 es0 ss = e at hB
      obtain ⟨b1, b2, b3⟩ := hB
      have h3 := hX e.us e.frm e.out (by omega) b1 (by omega) (by omega)
      have h4 : Option.map Sum.inr ((lontarlaw18_Encode_1 FU64 (e.us, (e.frm, e.out))).bind fun y10 => some (y10.2.2, e.sc)) = (some (.inr (esOut rs e, e.sc)) : Option ((List Int × (Int × (List Int × (Int × (Int × (List Tok × (Int × List Int))))))) ⊕ (List Tok × Int))) := by
        rw [h3]; rfl
      unfold lontarlaw18_Encode_L0
      show (bif decide ((ss.length : Int) < (ss.length : Int)) then _ else _) = _
      rw [decide_eq_false (by omega), cond_false]
      exact h4)
    (by unfold FU64; omega)
  simp only [List.take_zero, esRun, es0] at this
  exact this
theorem esOut_few {rs : List Rule} {k : Nat} {e : ES} {out raw : List Tok} {ahead w : List Int} {a : Int} (hS : Sides rs) (hW : Sides (turn rs)) (h : ERel rs k e out ahead w a raw) : fewO (esOut rs e) := by
  intro x hx
  unfold esOut at hx
  rw [List.mem_append] at hx
  rcases hx with hx | hx
  · exact h.fwo x hx
  · exact part_few hS hW _ _ x hx
theorem isciiEncode_L0_eq {rs : List Rule} (hS : Sides rs) (hW : Sides (turn rs)) (hr : lontarlaw14_Rules FU64 () = some rs) {N1 N2 : List Node} (t1 : TrieOk N1 rs) (t2 : TrieOk N2 (turn rs)) {ss : List Int} (hu : ss.length ≤ 900) (LL : List (List Int)) (nn kk : Int) :
    loopM (lontarlaw18_IsciiEncode_L0 FU64) FU64 (ss, (([] : List Tok), (LL, (nn, (kk, (ss, ((ss.length : Int), ((0 : Int), (N2, (outsOf (turn rs), (([] : List Int), ((0 : Int), ((0 : Int), ((maxIn rs : Int), ((maxIn (turn rs) : Int), (N1, (outsOf rs, (N2, (outsOf (turn rs), (([] : List Int), ((0 : Int), ((0 : Int), (0 : Int))))))))))))))))))))))) = some (.inl (LL, (nn, w64 (kk + 1)))) := by
  obtain ⟨v, h1, h2⟩ := loop_n (f := lontarlaw18_IsciiEncode_L0 FU64) (n := ss.length)
    (I := fun k x => ∃ (out raw : List Tok) (w ahead : List Int) (a st : Int), x = (ss, (out, (LL, (nn, (kk, (ss, ((ss.length : Int), ((k : Int), (N2, (outsOf (turn rs), (w, (a, (st, ((maxIn rs : Int), ((maxIn (turn rs) : Int), (N1, (outsOf rs, (N2, (outsOf (turn rs), (ahead, ((esRun rs 0 es0 (ss.take k)).sc, ((k : Int), (0 : Int))))))))))))))))))))))) ∧ ERel rs k (esRun rs 0 es0 (ss.take k)) out ahead w a raw)
    (R := fun v => v = .inl (LL, (nn, w64 (kk + 1))))
    (by
      rintro k x hk ⟨out, raw, w, ahead, a, st, rfl, hE⟩
      left
      unfold lontarlaw18_IsciiEncode_L0
      obtain ⟨new, ahead', w', a', st', raw', e1, hE', hn'⟩ := iput_eq hS hW t1 t2 (k := k) (by omega) hE ss[k] st 0 (maxIn rs : Int) (maxIn (turn rs) : Int) (N2 := N2) (R1 := outsOf rs) (R2 := outsOf (turn rs))
      have hol := hE.outLen
      simp only [dlt, decide_eq_true hk, cond_true, nthI_get hk, bind_some', e1, w64_succ hk (show ss.length < 9223372036854775808 by omega)]
      rw [fit48 (by omega) (by omega), cond_true]
      rw [← esRun_take hk] at hE' ⊢
      exact ⟨_, rfl, _, _, _, _, _, _, rfl, hE'⟩)
    (by
      rintro x ⟨out, raw, w, ahead, a, st, rfl, hE⟩
      unfold lontarlaw18_IsciiEncode_L0
      rw [List.take_length] at hE ⊢
      obtain ⟨new, ahead', a', st', e1, ho, hn'⟩ := iend_eq hS hW t1 t2 (k := ss.length) (by omega) hE st 0 (maxIn rs : Int) (maxIn (turn rs) : Int) (N2 := N2) (R1 := outsOf rs) (R2 := outsOf (turn rs))
      have hol := hE.outLen
      have hsm : (esOut rs (esRun rs 0 es0 ss)).length ≤ 100000 := by rw [← ho, List.length_append]; omega
      have hfew := esOut_few hS hW hE
      simp only [dlt, decide_eq_false (Nat.lt_irrefl ss.length), cond_false, e1, bind_some']
      rw [fit48 (by omega) (by omega), cond_true, encode18_eq hS hr hu]
      simp only [bind_some', ho, same_eq fu64 (by unfold small; omega : small (esOut rs (esRun rs 0 es0 ss))) (fewO_small hfew), decide_true, Bool.not_true, cond_false, iscii_Encoder_Script, iscii_Encoder_Held, machine_Encoder_Held, match_Match_Held, bne_self_eq_false, List.length_nil]
      exact ⟨_, rfl, rfl⟩)
    FU64 0 (ss, (([] : List Tok), (LL, (nn, (kk, (ss, ((ss.length : Int), ((0 : Int), (N2, (outsOf (turn rs), (([] : List Int), ((0 : Int), ((0 : Int), ((maxIn rs : Int), ((maxIn (turn rs) : Int), (N1, (outsOf rs, (N2, (outsOf (turn rs), (([] : List Int), ((0 : Int), ((0 : Int), (0 : Int))))))))))))))))))))))) (by omega) (by show ss.length < 0 + FU64; unfold FU64; omega) ⟨[], [], [], [], 0, 0, rfl, ERel.zero rs⟩
  rw [h2] at h1
  exact h1
theorem isciiEncode_L1_eq {LL : List (List Int)} (hLL : LL.length ≤ 1000) (h : ∀ us ∈ LL, us.length ≤ 900) :
    loopM (lontarlaw18_IsciiEncode_L1 FU64) FU64 (LL, ((LL.length : Int), (0 : Int))) = some true := by
  obtain ⟨N1, N2, ea, t1, t2⟩ := iscii_all_eq
  exact loop_st (f := lontarlaw18_IsciiEncode_L1 FU64) (m := LL.length) (fu := FU64) (fun k => (LL, ((LL.length : Int), (k : Int))))
    (by
      intro k hk
      unfold lontarlaw18_IsciiEncode_L1
      simp only [dlt, decide_eq_true hk, cond_true, nthI_get hk, bind_some', Int.toNat_natCast, List.getElem?_eq_getElem hk, iscii_Encode_of ea]
      have := isciiEncode_L0_eq isR_sides isW_sides rules14_is t1 t2 (ss := LL[k]) (h _ (List.getElem_mem hk)) LL (LL.length : Int) (k : Int)
      rw [w64_succ hk (show LL.length < 9223372036854775808 by omega)] at this
      exact this)
    (by
      unfold lontarlaw18_IsciiEncode_L1
      simp only [dlt, decide_eq_false (Nat.lt_irrefl LL.length), cond_false])
    (by unfold FU64; omega)
theorem isciiEncode_true {l b : List Int} (hl : isU8 l) : lontarlaw18_IsciiEncode FU64 (l, b) = some true := by
  unfold lontarlaw18_IsciiEncode
  obtain ⟨us, e1, hu, _⟩ := scalars_eq hl
  obtain ⟨m, hm, h60, hml⟩ := upto60 (l := b)
  have hlen : (b.take m).length = m := by simp; omega
  have hL := isciiEncode_L1_eq (LL := [us, b.take m]) (by simp) (by intro x hx; simp only [List.mem_cons, List.not_mem_nil, or_false] at hx; rcases hx with rfl | rfl <;> omega)
  have h2 : sliceI b 0 (if (60 : Int) < (b.length : Int) then (60 : Int) else (b.length : Int)) = some (b.take m) := by rw [hm, sliceI_to hml]
  rw [awake18, bind_some', Bool.not_true, cond_false]
  refine bind_of e1 ?_
  refine bind_of h2 ?_
  exact hL
theorem isciiEncode_law (a0 : (Sh.sl (.int .u8)).den) (a1 : (Sh.sl (.int .i64)).den) (w0 : wfD (.sl (.int .u8)) a0) (_ : wfD (.sl (.int .i64)) a1) : lontarlaw18_IsciiEncode FU64 (a0, a1) = some true := isciiEncode_true (isU8_of w0)
end Go.AM.M

namespace Go.AM.M
open Go.AM

theorem scripts_1_eq {ts : List Tok} {out : List Int} (hn : ts.length ≤ 10000) (hf : fewO ts) (ho : out.length ≤ 100000) :
    lontarlaw18_IsciiScripts_1 FU64 (out, ts) = some (out ++ flat ts) := by
  unfold lontarlaw18_IsciiScripts_1
  have := loop_st (f := lontarlaw18_IsciiScripts_1_L0 FU64) (m := ts.length) (fu := FU64) (fun k => (out ++ flat (ts.take k), (ts, (ts, ((ts.length : Int), (k : Int))))))
    (r := out ++ flat ts)
    (by
      intro k hk
      unfold lontarlaw18_IsciiScripts_1_L0
      have h1 := flat_take_le hf k
      have h2 := hf ts[k] (List.getElem_mem hk)
      simp only [dlt, decide_eq_true hk, cond_true, nthI_get hk, bind_some', w64_succ hk (show ts.length < 9223372036854775808 by omega)]
      rw [fit8 (by simp only [List.length_append]; omega) (by omega), cond_true, List.take_succ_eq_append_getElem hk, flat_snoc, List.append_assoc])
    (by
      unfold lontarlaw18_IsciiScripts_1_L0
      simp only [dlt, decide_eq_false (Nat.lt_irrefl ts.length), cond_false, List.take_length])
    (by unfold FU64; omega)
  have hz : out ++ flat (ts.take 0) = out := by simp [flat]
  simp only [hz] at this
  exact this
theorem ERel.few {rs : List Rule} {k : Nat} {e : ES} {out : List Tok} {ahead w : List Int} {a : Int} {raw : List Tok} (h : ERel rs k e out ahead w a raw) : fewO out := by
  rw [h.o]
  exact fewO_append h.fwo (joinF_few raw [] h.fw (by simp)).1
theorem few_right {a b : List Tok} (h : fewO (a ++ b)) : fewO b := fun x hx => h x (List.mem_append.2 (.inr hx))
def fxS (n : Int) : Int := w64 (2325 + w64 (Int.tmod n 20))
def fyS (kk n : Int) : Int := w64 (w64 (2325 + w64 (128 * kk)) + w64 (Int.tmod n 20))
theorem fx_def (n : Int) : w64 (2325 + w64 (Int.tmod n 20)) = fxS n := rfl
theorem fy_def (kk n : Int) : w64 (w64 (2325 + w64 (128 * kk)) + w64 (Int.tmod n 20)) = fyS kk n := rfl
theorem fyS_eq {kk n : Int} (h0 : 0 ≤ kk) (h9 : kk < 9) (hn : 0 ≤ n) : fyS kk n = 2325 + 128 * kk + n % 20 := by
  unfold fyS
  rw [Int.tmod_eq_emod_of_nonneg hn, w64_id (n := n % 20) (by omega) (by omega), w64_id (n := 128 * kk) (by omega) (by omega), w64_id (n := 2325 + 128 * kk) (by omega) (by omega), w64_id (by omega) (by omega)]
theorem fxS_eq {n : Int} (hn : 0 ≤ n) : fxS n = fyS 0 n := by
  rw [fyS_eq (Int.le_refl _) (by omega) hn]
  unfold fxS
  rw [Int.tmod_eq_emod_of_nonneg hn, w64_id (n := n % 20) (by omega) (by omega), w64_id (by omega) (by omega)]; omega
theorem fyS_ok {kk n : Int} (h0 : 0 ≤ kk) (h9 : kk < 9) (hn : 0 ≤ n) : okS (fyS kk n) = true ∧ scrS (fyS kk n) = kk ∧ unitS (fyS kk n) = 21 + n % 20 := by
  have e := fyS_eq h0 h9 hn
  have hok : okS (fyS kk n) = true := by unfold okS; rw [decide_eq_true_eq, e]; omega
  refine ⟨hok, ?_, ?_⟩
  · unfold scrS; rw [e]; omega
  · unfold unitS; rw [if_pos hok, e]; omega
theorem run_y {rs : List Rule} {kk : Int} (h0 : 0 ≤ kk) (h9 : kk < 9) (xs : List Int) (hx : isU8 xs) :
    esRun rs 0 es0 (xs.map (fyS kk)) = if kk = 0 ∨ xs = [] then ⟨[], 0, 0, xs.map (21 + · % 20)⟩ else ⟨[swT 0 (codeS kk)], kk, 0, xs.map (21 + · % 20)⟩ := by
  induction xs using snocInd with
  | nil => rw [if_pos (.inr rfl)]; rfl
  | snoc l a ih =>
    have ha := hx a (by simp)
    have hl : isU8 l := fun x h => hx x (by simp [h])
    obtain ⟨o1, o2, o3⟩ := fyS_ok h0 h9 ha.1
    rw [List.map_append, List.map_singleton, esRun_snoc, ih hl]
    have st1 : ∀ (j : Int) (o : List Tok) (U : List Int), esStep rs j ⟨o, kk, 0, U⟩ (fyS kk a) = ⟨o, kk, 0, U ++ [21 + a % 20]⟩ := by
      intro j o U
      unfold esStep
      rw [if_neg (by rw [o2]; exact fun h => h.2 rfl), o3]
    by_cases hk : kk = 0
    · subst hk
      rw [if_pos (show (0 : Int) = 0 ∨ l = [] from .inl rfl), if_pos (show (0 : Int) = 0 ∨ l ++ [a] = [] from .inl rfl), st1]
      simp
    · rw [if_neg (show ¬ (kk = 0 ∨ l ++ [a] = []) by simp [hk])]
      by_cases hl0 : l = []
      · subst hl0
        rw [if_pos (show kk = 0 ∨ ([] : List Int) = [] from .inr rfl)]
        have st2 : esStep rs (0 + (([] : List Int).map (fyS kk)).length) ⟨[], 0, 0, ([] : List Int).map (21 + · % 20)⟩ (fyS kk a) = ⟨[] ++ part rs 0 [] ++ [swT 0 (codeS kk)], kk, 0, [21 + a % 20]⟩ := by
          unfold esStep
          rw [if_pos (show okS (fyS kk a) = true ∧ scrS (fyS kk a) ≠ (0 : Int) from ⟨o1, by rw [o2]; exact hk⟩), o2, o3]
          rfl
        rw [st2]
        rfl
      · rw [if_neg (show ¬ (kk = 0 ∨ l = []) by simp [hk, hl0]), st1]
        simp
theorem flat_y {rs : List Rule} {kk : Int} (h0 : 0 ≤ kk) (h9 : kk < 9) (xs : List Int) (hx : isU8 xs) :
    flat (esOut rs (esRun rs 0 es0 (xs.map (fyS kk)))) = (if kk = 0 ∨ xs = [] then [] else [239, codeS kk]) ++ flat (esOut rs (esRun rs 0 es0 (xs.map (fyS 0)))) := by
  rw [run_y h0 h9 xs hx, run_y (Int.le_refl _) (by omega) xs hx, if_pos (show (0 : Int) = 0 ∨ xs = [] from .inl rfl)]
  split
  · simp
  · unfold esOut
    rw [flat_append, flat_append]
    simp [flat, swT]
theorem map_fx {xs : List Int} (hx : isU8 xs) : xs.map fxS = xs.map (fyS 0) := List.map_congr_left fun n hn => fxS_eq (hx n hn).1

theorem scripts_L0_eq {rs : List Rule} (hS : Sides rs) (hW : Sides (turn rs)) {N1 N2 : List Node} (t1 : TrieOk N1 rs) (t2 : TrieOk N2 (turn rs)) {l us : List Int} (hu : us.length ≤ 900) (hx : isU8 us) (hlu : l = [] ↔ us = []) {kk : Int} (h0 : 0 ≤ kk) (h9 : kk < 9) :
    loopM (lontarlaw18_IsciiScripts_L0 FU64) FU64 (l, (kk, (([] : List Int), (([] : List Int), (us, ((us.length : Int), ((0 : Int), (N2, (outsOf (turn rs), (([] : List Int), ((0 : Int), ((0 : Int), ((maxIn rs : Int), ((maxIn (turn rs) : Int), (N1, (outsOf rs, (N2, (outsOf (turn rs), (([] : List Int), ((0 : Int), ((0 : Int), ((0 : Int), (N2, (outsOf (turn rs), (([] : List Int), ((0 : Int), ((0 : Int), ((maxIn rs : Int), ((maxIn (turn rs) : Int), (N1, (outsOf rs, (N2, (outsOf (turn rs), (([] : List Int), ((0 : Int), ((0 : Int), (0 : Int))))))))))))))))))))))))))))))))))))) = some true := by
  obtain ⟨v, h1, h2⟩ := loop_n (f := lontarlaw18_IsciiScripts_L0 FU64) (n := us.length)
    (I := fun k x => ∃ (ox rx oy ry : List Tok) (wx ahx wy ahy : List Int) (ax sx ay sy : Int), x = (l, (kk, (flat ox, (flat oy, (us, ((us.length : Int), ((k : Int), (N2, (outsOf (turn rs), (wx, (ax, (sx, ((maxIn rs : Int), ((maxIn (turn rs) : Int), (N1, (outsOf rs, (N2, (outsOf (turn rs), (ahx, ((esRun rs 0 es0 ((us.map fxS).take k)).sc, ((k : Int), ((0 : Int), (N2, (outsOf (turn rs), (wy, (ay, (sy, ((maxIn rs : Int), ((maxIn (turn rs) : Int), (N1, (outsOf rs, (N2, (outsOf (turn rs), (ahy, ((esRun rs 0 es0 ((us.map (fyS kk)).take k)).sc, ((k : Int), (0 : Int)))))))))))))))))))))))))))))))))))))
      ∧ ERel rs k (esRun rs 0 es0 ((us.map fxS).take k)) ox ahx wx ax rx ∧ ERel rs k (esRun rs 0 es0 ((us.map (fyS kk)).take k)) oy ahy wy ay ry)
    (R := fun v => v = true)
    (by
      rintro k x hk ⟨ox, rx, oy, ry, wx, ahx, wy, ahy, ax, sx, ay, sy, rfl, hX, hY⟩
      left
      unfold lontarlaw18_IsciiScripts_L0
      obtain ⟨nx, ahx', wx', ax', sx', rx', e1, hX', hnx⟩ := iput_eq hS hW t1 t2 (k := k) (by omega) hX (fxS us[k]) sx 0 (maxIn rs : Int) (maxIn (turn rs) : Int) (N2 := N2) (R1 := outsOf rs) (R2 := outsOf (turn rs))
      obtain ⟨ny, ahy', wy', ay', sy', ry', e2, hY', hny⟩ := iput_eq hS hW t1 t2 (k := k) (by omega) hY (fyS kk us[k]) sy 0 (maxIn rs : Int) (maxIn (turn rs) : Int) (N2 := N2) (R1 := outsOf rs) (R2 := outsOf (turn rs))
      have fx := flat_len hX.few
      have fy := flat_len hY.few
      have lx := hX.outLen
      have ly := hY.outLen
      simp only [dlt, decide_eq_true hk, cond_true, nthI_get hk, bind_some', fx_def, fy_def, e1, e2, scripts_1_eq hnx (few_right hX'.few) (show (flat ox).length ≤ 100000 by omega), scripts_1_eq hny (few_right hY'.few) (show (flat oy).length ≤ 100000 by omega), w64_succ hk (show us.length < 9223372036854775808 by omega), ← flat_append]
      have gx := esRun_take (rs := rs) (ss := us.map fxS) (k := k) (by simpa using hk)
      have gy := esRun_take (rs := rs) (ss := us.map (fyS kk)) (k := k) (by simpa using hk)
      rw [List.getElem_map] at gx gy
      rw [← gx] at hX' ⊢
      rw [← gy] at hY' ⊢
      exact ⟨_, rfl, _, _, _, _, _, _, _, _, _, _, _, _, rfl, hX', hY'⟩)
    (by
      rintro x ⟨ox, rx, oy, ry, wx, ahx, wy, ahy, ax, sx, ay, sy, rfl, hX, hY⟩
      unfold lontarlaw18_IsciiScripts_L0
      have tx : (us.map fxS).take us.length = us.map fxS := by rw [List.take_of_length_le (by simp)]
      have ty : (us.map (fyS kk)).take us.length = us.map (fyS kk) := by rw [List.take_of_length_le (by simp)]
      rw [tx] at hX ⊢
      rw [ty] at hY ⊢
      obtain ⟨nx, ahx', ax', sx', e1, oX, hnx⟩ := iend_eq hS hW t1 t2 (k := us.length) (by omega) hX sx 0 (maxIn rs : Int) (maxIn (turn rs) : Int) (N2 := N2) (R1 := outsOf rs) (R2 := outsOf (turn rs))
      obtain ⟨ny, ahy', ay', sy', e2, oY, hny⟩ := iend_eq hS hW t1 t2 (k := us.length) (by omega) hY sy 0 (maxIn rs : Int) (maxIn (turn rs) : Int) (N2 := N2) (R1 := outsOf rs) (R2 := outsOf (turn rs))
      have fx := flat_len hX.few
      have fy := flat_len hY.few
      have lx := hX.outLen
      have ly := hY.outLen
      have wX := esOut_few hS hW hX
      have wY := esOut_few hS hW hY
      have kx : fewO nx := few_right (a := ox) (by rw [oX]; exact wX)
      have ky : fewO ny := few_right (a := oy) (by rw [oY]; exact wY)
      have hfl := flat_y (rs := rs) h0 h9 us hx
      rw [← oY, ← map_fx hx, ← oX] at hfl
      have bx : (flat (ox ++ nx)).length ≤ 100000 := by rw [flat_append, List.length_append]; have := flat_len kx; omega
      have hc := codes_get h0 h9
      simp only [dlt, decide_eq_false (Nat.lt_irrefl us.length), cond_false, bind_some', e1, e2, scripts_1_eq hnx kx (show (flat ox).length ≤ 100000 by omega), scripts_1_eq hny ky (show (flat oy).length ≤ 100000 by omega), ← flat_append, hfl, codes14_eq, hc.1, hc.2]
      by_cases c1 : kk > 0
      · rw [decide_eq_true c1, cond_true]
        by_cases c2 : (l.length : Int) > 0
        · have hne : ¬ (kk = 0 ∨ us = []) := by
            rintro (h | h)
            · omega
            · rw [hlu.2 h] at c2; simp at c2
          rw [decide_eq_true c2, cond_true, if_neg hne, fit8 (by simp) (by omega), cond_true, units_eq fu64 (by unfold small; simp only [List.length_append, List.length_cons, List.length_nil]; omega)]
          simp
        · have : us = [] := hlu.1 (List.eq_nil_of_length_eq_zero (by omega))
          rw [decide_eq_false c2, cond_false, if_pos (.inr this), List.nil_append, units_eq fu64 (by unfold small; omega)]
          simp
      · have : kk = 0 := by omega
        rw [decide_eq_false c1, cond_false, if_pos (.inl this), List.nil_append, units_eq fu64 (by unfold small; omega)]
        simp)
    FU64 0 (l, (kk, (([] : List Int), (([] : List Int), (us, ((us.length : Int), ((0 : Int), (N2, (outsOf (turn rs), (([] : List Int), ((0 : Int), ((0 : Int), ((maxIn rs : Int), ((maxIn (turn rs) : Int), (N1, (outsOf rs, (N2, (outsOf (turn rs), (([] : List Int), ((0 : Int), ((0 : Int), ((0 : Int), (N2, (outsOf (turn rs), (([] : List Int), ((0 : Int), ((0 : Int), ((maxIn rs : Int), ((maxIn (turn rs) : Int), (N1, (outsOf rs, (N2, (outsOf (turn rs), (([] : List Int), ((0 : Int), ((0 : Int), (0 : Int))))))))))))))))))))))))))))))))))))) (by omega) (by show us.length < 0 + FU64; unfold FU64; omega) ⟨[], [], [], [], [], [], [], [], 0, 0, 0, 0, rfl, ERel.zero rs, ERel.zero rs⟩
  rw [h2] at h1
  exact h1
theorem isciiScripts_true {s : Int} {l : List Int} (hs : 0 ≤ s ∧ s < 256) (hl : isU8 l) : lontarlaw18_IsciiScripts FU64 (s, l) = some true := by
  unfold lontarlaw18_IsciiScripts
  obtain ⟨N1, N2, ea, t1, t2⟩ := iscii_all_eq
  obtain ⟨m, hm, h60, hml⟩ := upto60 (l := l)
  have h2 : sliceI l 0 (if (60 : Int) < (l.length : Int) then (60 : Int) else (l.length : Int)) = some (l.take m) := by rw [hm, sliceI_to hml]
  have hk : w64 (Int.tmod s 9) = s % 9 := by rw [Int.tmod_eq_emod_of_nonneg hs.1, w64_id (by omega) (by omega)]
  have hlu : l = [] ↔ l.take m = [] := by
    constructor
    · intro h; rw [h]; simp
    · intro h
      have hlen : (l.take m).length = m := by simp; omega
      rw [h] at hlen
      have hm0 : m = 0 := by simpa using hlen.symm
      subst hm0
      split at hm
      · omega
      · exact List.eq_nil_of_length_eq_zero (by omega)
  have hL := scripts_L0_eq isR_sides isW_sides t1 t2 (l := l) (us := l.take m) (by simp; omega) (fun x hx => hl x (List.mem_of_mem_take hx)) hlu (kk := s % 9) (by omega) (by omega)
  rw [awake18, bind_some', Bool.not_true, cond_false]
  simp only [iscii_Encode_of ea, bind_someN, h2, hk]
  exact hL
theorem u8_of {a : Int} (h : wfD (.int .u8) a) : 0 ≤ a ∧ a < 256 := by
  have h1 : (Lit.int .u8 a).wf = true := h
  unfold Lit.wf at h1
  simp only [Bool.and_eq_true, decide_eq_true_eq] at h1
  have h2 : (0 : Int) ≤ a ∧ a ≤ 255 := h1
  omega
theorem isciiScripts_law (a0 : (Sh.int .u8).den) (a1 : (Sh.sl (.int .u8)).den) (w0 : wfD (.int .u8) a0) (w1 : wfD (.sl (.int .u8)) a1) : lontarlaw18_IsciiScripts FU64 (a0, a1) = some true := isciiScripts_true (u8_of w0) (isU8_of w1)
end Go.AM.M

namespace Go.AM.M
open Go.AM

def plainU (us : List Int) : Bool := us.all fun u => decide (u < 4096) || decide (u ≥ 8192)
def swO (us : List Int) : Bool := decide (us.length = 2) && decide (us.head? = some 239)
def noSw (rs : List Rule) : Bool := rs.all fun r => !plainU r.1 || !swO r.2
theorem isW_noSw : noSw (turn isR) = true := by kernel_rfl
theorem unitS_plain (s : Int) (h : s < 1000000000 ∨ scalB s = false) : decide (unitS s < 4096) || decide (unitS s ≥ 8192) := by
  unfold unitS
  split
  · have : s % 128 < 128 := Int.emod_lt_of_pos _ (by omega)
    simp; omega
  · split
    · rename_i h1 h2
      unfold scalB at h2
      rw [decide_eq_true_eq] at h2
      rw [w64_id (by omega) (by omega)]
      simp; omega
    · simp
theorem plainU_take {us : List Int} (h : plainU us = true) (n : Nat) : plainU (us.take n) = true := by
  unfold plainU at h ⊢
  rw [List.all_eq_true] at h ⊢
  exact fun x hx => h x (List.mem_of_mem_take hx)
theorem plainU_drop {us : List Int} (h : plainU us = true) (n : Nat) : plainU (us.drop n) = true := by
  unfold plainU at h ⊢
  rw [List.all_eq_true] at h ⊢
  exact fun x hx => h x (List.mem_of_mem_drop hx)
theorem tok_noSw {rs : List Rule} (hS : Sides rs) (hn : noSw rs = true) {a : Int} {us : List Int} (h : plainU us = true) : swO (tok rs a us).2.2.1 = false := by
  unfold tok
  split
  · rfl
  · show swO (outI rs (fnd rs (us.take (nn rs us)))) = false
    by_cases hf : 0 ≤ fnd rs (us.take (nn rs us))
    · obtain ⟨k, hk, e1, e2⟩ := fnd_get hf
      rw [e1]
      unfold noSw at hn
      rw [List.all_eq_true] at hn
      have h1 := hn rs[k] (List.getElem_mem hk)
      rw [e2, plainU_take h] at h1
      have h2 : outI rs (k : Int) = rs[k].2 := by unfold outI; simp [hk]
      rw [h2]; simpa using h1
    · rename_i h0
      exact absurd ((fnd_nn hS us).1 (by omega)) h0
theorem toksA_noSw {rs : List Rule} (hS : Sides rs) (hn : noSw rs = true) : ∀ (us : List Int) (a : Int), plainU us = true → ∀ t ∈ toksA rs a us, swO t.2.2.1 = false := by
  intro us
  induction us using toks_ind (rs := rs) with
  | h0 => intro a _ t ht; cases ht
  | h1 us hne ih =>
    intro a h t ht
    rw [toksA_cons hne] at ht
    rcases List.mem_cons.1 ht with rfl | ht
    · exact tok_noSw hS hn h
    · exact ih _ (plainU_drop h _) t ht
end Go.AM.M

namespace Go.AM.M
open Go.AM

inductive SwOk : Int → List Tok → Int → Prop where
  | nil (sc : Int) : SwOk sc [] sc
  | skip {sc c : Int} {t : Tok} {ts : List Tok} (h : swO t.2.2.1 = false) (r : SwOk sc ts c) : SwOk sc (t :: ts) c
  | sw {sc c j k : Int} {ts : List Tok} (h0 : 0 ≤ j) (h9 : j < 9) (hj : j ≠ sc) (hne : ts ≠ []) (r : SwOk j ts c) : SwOk sc (swT k (codeS j) :: ts) c
theorem SwOk.plain {sc c : Int} {ts : List Tok} : ∀ {xs : List Tok}, (∀ t ∈ xs, swO t.2.2.1 = false) → SwOk sc ts c → SwOk sc (xs ++ ts) c
  | [], _, r => r
  | x :: xs, h, r => .skip (h x (by simp)) (SwOk.plain (fun t ht => h t (List.mem_cons_of_mem _ ht)) r)
theorem joinT_noSw {rs : List Rule} {ah : List Int} {x : Tok} (h : swO x.2.2.1 = false) : swO (joinT rs ah x).2.2.1 = false := by
  unfold joinT
  split
  · rfl
  · exact h
theorem joinF_noSw {rs : List Rule} : ∀ (xs : List Tok) (ah : List Int), (∀ t ∈ xs, swO t.2.2.1 = false) → ∀ t ∈ (joinF rs ah xs).1, swO t.2.2.1 = false
  | [], ah, _ => fun t ht => by cases ht
  | x :: xs, ah, h => fun t ht => by
    simp only [joinF] at ht
    rcases List.mem_cons.1 ht with rfl | ht
    · exact joinT_noSw (h x (by simp))
    · exact joinF_noSw xs _ (fun y hy => h y (List.mem_cons_of_mem _ hy)) t ht
theorem part_noSw {rs : List Rule} (hW : Sides (turn rs)) (hn : noSw (turn rs) = true) {frm : Int} {us : List Int} (h : plainU us = true) : ∀ t ∈ part rs frm us, swO t.2.2.1 = false :=
  joinF_noSw _ [] (toksA_noSw hW hn us frm h)
theorem part_ne {rs : List Rule} {frm : Int} {us : List Int} (h : us ≠ []) : part rs frm us ≠ [] := by
  unfold part
  rw [toksA_cons h]
  simp [joinF]
structure EI (e : ES) : Prop where
  go : ∀ ts c, ts ≠ [] → SwOk e.sc ts c → SwOk 0 (e.out ++ ts) c
  pl : plainU e.us = true
  em : e.us = [] → e.out = [] ∧ e.sc = 0
theorem EI.zero : EI es0 := ⟨fun ts c _ h => h, rfl, fun _ => ⟨rfl, rfl⟩⟩
theorem EI.step {rs : List Rule} (hW : Sides (turn rs)) (hn : noSw (turn rs) = true) {e : ES} (h : EI e) (k s : Int) (hu : plainU [unitS s] = true) : EI (esStep rs k e s) := by
  unfold esStep
  split
  · rename_i hc
    have h9 := scrS_r hc.1
    refine ⟨fun ts c hne hr => ?_, hu, fun h => by cases h⟩
    show SwOk 0 (e.out ++ part rs e.frm e.us ++ [swT k (codeS (scrS s))] ++ ts) c
    rw [List.append_assoc, List.append_assoc]
    exact h.go _ c (by simp) (SwOk.plain (part_noSw hW hn h.pl) (.sw h9.1 h9.2 hc.2 hne hr))
  · refine ⟨h.go, ?_, fun h => by simp at h⟩
    have := h.pl
    unfold plainU at this hu ⊢
    rw [List.all_append, this, hu]; rfl
theorem EI.fin {rs : List Rule} (hW : Sides (turn rs)) (hn : noSw (turn rs) = true) {e : ES} (h : EI e) : SwOk 0 (esOut rs e) e.sc := by
  unfold esOut
  by_cases he : e.us = []
  · obtain ⟨h1, h2⟩ := h.em he
    rw [h1, h2, he]
    exact .nil 0
  · refine h.go _ _ (part_ne he) ?_
    have := SwOk.plain (part_noSw (frm := e.frm) hW hn h.pl) (.nil e.sc)
    rwa [List.append_nil] at this
theorem EI.run {rs : List Rule} (hW : Sides (turn rs)) (hn : noSw (turn rs) = true) (ss : List Int) (hu : ∀ s ∈ ss, s < 1000000000) : EI (esRun rs 0 es0 ss) := by
  induction ss using snocInd with
  | nil => exact EI.zero
  | snoc l a ih =>
    rw [esRun_snoc]
    refine (ih fun s hs => hu s (by simp [hs])).step hW hn _ _ ?_
    have := unitS_plain a (.inl (hu a (by simp)))
    unfold plainU
    simpa using this
end Go.AM.M

namespace Go.AM.M
open Go.AM
variable {fu : Nat}

def cat (ts : List Tok) : List Int := ts.flatMap fun x => x.2.2.1
theorem cat_append (a b : List Tok) : cat (a ++ b) = cat a ++ cat b := by simp [cat]
theorem cat_cons (x : Tok) (b : List Tok) : cat (x :: b) = x.2.2.1 ++ cat b := by simp [cat]
theorem cat_len {ts : List Tok} (h : fewO ts) : (cat ts).length ≤ 8 * ts.length := by
  induction ts with
  | nil => simp [cat]
  | cons x ts ih =>
    rw [cat_cons]
    have h1 := h x (by simp)
    have h2 := ih (fun y hy => h y (List.mem_cons_of_mem _ hy))
    simp only [List.length_append, List.length_cons]; omega
def okT (ts : List Tok) : Prop := ∀ x ∈ ts, x.2.2.2 = 0

/-- A rule's Out, by its In. -/
theorem outI_of {rs : List Rule} (hR : Right rs) {r : Rule} (hr : r ∈ rs) : outI rs (fnd rs r.1) = r.2 := by
  have h : ¬ fnd rs r.1 < 0 := fun h => fnd_neg.1 h r hr rfl
  obtain ⟨k, hk, e1, e2⟩ := fnd_get (fnd_ge h)
  obtain ⟨j, hj, e3⟩ := List.getElem_of_mem hr
  have : k = j := by
    rcases Nat.lt_trichotomy k j with h | h | h
    · exact absurd (e2.trans (by rw [e3])) (List.pairwise_iff_getElem.1 hR.diff k j hk hj h)
    · exact h
    · exact absurd ((by rw [e3] : rs[j].1 = r.1).trans e2.symm) (List.pairwise_iff_getElem.1 hR.diff j k hj hk h)
  subst this
  unfold outI
  rw [e1]
  simp [hk, e3]
theorem both_in {rs : List Rule} (hR : Right rs) (hc : closedP rs) : ∀ (us : List Int) (a : Int) (ahead : List Int), okT (joinF rs ahead (toksA (turn rs) a us)).1 →
    (∀ b, cat (toksA rs b (cat (toksA (turn rs) a us))) = us) ∧ (us ≠ [] → ∃ I rest, cat (toksA (turn rs) a us) = I ++ rest ∧ I ≠ [] ∧ joinB rs ahead I = false) := by
  intro us
  induction us using toks_ind (rs := turn rs) with
  | h0 => intro a ahead _; exact ⟨fun b => rfl, fun h => absurd rfl h⟩
  | h1 us hne ih =>
    intro a ahead hok
    rw [toksA_cons hne] at hok ⊢
    simp only [joinF] at hok
    have hx : (joinT rs ahead (tok (turn rs) a us)).2.2.2 = 0 := hok _ (by simp)
    have hx0 : (tok (turn rs) a us).2.2.2 = 0 ∧ joinB rs ahead (tok (turn rs) a us).2.2.1 = false := by
      unfold joinT at hx
      by_cases h1 : (tok (turn rs) a us).2.2.2 = 0 ∧ joinB rs ahead (tok (turn rs) a us).2.2.1 = true
      · rw [if_pos h1] at hx; cases hx
      · rw [if_neg h1] at hx
        refine ⟨hx, ?_⟩
        rw [Bool.eq_false_iff]
        exact fun h2 => h1 ⟨hx, h2⟩
    have hah : aheadT rs ahead (tok (turn rs) a us) = (tok (turn rs) a us).2.2.1 := by unfold aheadT; rw [if_pos hx]
    rw [hah] at hok
    obtain ⟨ih1, ih2⟩ := ih (a + (adv (turn rs) us : Int)) _ (fun x hx => hok x (List.mem_cons_of_mem _ hx))
    -- the first piece
    have hn : nn (turn rs) us ≠ 0 := fun h0 => by
      have := hx0.1
      unfold tok at this
      rw [if_pos h0] at this
      cases this
    have hadv : adv (turn rs) us = nn (turn rs) us := by unfold adv; omega
    obtain ⟨t, ht, et⟩ := anyIn_iff.1 (lngN_has (rs := turn rs) (us := us) us.length (by unfold nn at hn; omega))
    have hT := turn_right hR.toSides
    have hI : (tok (turn rs) a us).2.2.1 = t.2 := by
      unfold tok
      rw [if_neg hn]
      show outI (turn rs) (fnd (turn rs) (us.take (lngN (turn rs) us us.length))) = t.2
      rw [← et, outI_of hT ht]
    have hmem := turn_mem t ht
    have hside := hR.side _ hmem
    have hIl : 0 < t.2.length ∧ t.2.length ≤ 8 := sideB_len hside.1
    rw [hI] at hx0 hok ih2
    rw [cat_cons, hI]
    generalize hB : cat (toksA (turn rs) (a + (adv (turn rs) us : Int)) (us.drop (adv (turn rs) us))) = B' at ih1 ih2 ⊢
    have hIne : t.2 ≠ [] := List.length_pos_iff.1 hIl.1
    -- the longest rule is that one
    have hno : ∀ r ∈ rs, r.1 ≠ (t.2 ++ B').take (t.2.length + 1) ∨ B' = [] := by
      intro r hr
      by_cases hB0 : B' = []
      · exact .inr hB0
      · left
        intro e
        have hus' : us.drop (adv (turn rs) us) ≠ [] := fun h0 => by rw [h0, toksA_nil] at hB; exact hB0 hB.symm
        obtain ⟨I2, rest2, e2, hI2, hj⟩ := ih2 hus'
        have : joinB rs t.2 I2 = true := by
          rw [joinB_iff]
          have hI2l : 0 < I2.length := List.length_pos_iff.2 hI2
          have hrl : r.1.length = t.2.length + 1 := by
            rw [e, e2]; simp; omega
          refine ⟨hIne, r, hr, by omega, by simp; omega, ?_⟩
          rw [hrl, e, e2, ← List.append_assoc, List.take_append_of_le_length (by simp; omega)]
        rw [hj] at this; cases this
    have hnn : nn rs (t.2 ++ B') = t.2.length := by
      unfold nn
      refine lngN_eq (by simp) (.inr (anyIn_iff.2 ⟨(t.2, t.1), hmem, by simp⟩)) fun k hk hk2 => ?_
      rw [Bool.eq_false_iff]
      intro hcn
      obtain ⟨r, hr, e⟩ := anyIn_iff.1 hcn
      have hB0 : B' ≠ [] := fun h0 => by rw [h0] at hk2; simp at hk2; omega
      have hrl : r.1.length = k := by rw [e]; simp; simp at hk2; omega
      rcases Nat.lt_or_ge (t.2.length + 1) k with h1 | h1
      · have hok2 := hc r hr (t.2.length + 1) (by omega) (by omega)
        unfold okN at hok2
        have hne1 : decide (t.2.length + 1 = 1) = false := by rw [decide_eq_false_iff_not]; omega
        rw [hne1, Bool.false_and, Bool.or_false, List.any_eq_true] at hok2
        obtain ⟨r2, hr2, e2⟩ := hok2
        simp only [decide_eq_true_eq] at e2
        rcases hno r2 hr2 with h | h
        · apply h
          rw [e2, e, List.take_take]; congr 1; omega
        · exact hB0 h
      · have : k = t.2.length + 1 := by omega
        subst this
        rcases hno r hr with h | h
        · exact h e
        · exact hB0 h
    refine ⟨fun b => ?_, fun _ => ⟨t.2, B', rfl, hIne, hx0.2⟩⟩
    have hne2 : t.2 ++ B' ≠ [] := by simp [hIne]
    rw [toksA_cons hne2, cat_cons]
    have hadv2 : adv rs (t.2 ++ B') = t.2.length := by unfold adv; rw [hnn]; omega
    have hout : (tok rs b (t.2 ++ B')).2.2.1 = t.1 := by
      unfold tok
      rw [hnn, if_neg (by omega)]
      show outI rs (fnd rs ((t.2 ++ B').take t.2.length)) = t.1
      rw [List.take_left]
      exact outI_of hR hmem
    rw [hadv2, hout, List.drop_left, ih1, hadv, et]
    exact List.take_append_drop _ _
end Go.AM.M
