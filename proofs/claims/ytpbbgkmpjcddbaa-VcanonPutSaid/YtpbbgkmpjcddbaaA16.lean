/- The abstract machine, 16: calls. -/
import Derived.Test.YtpbbgkmpjcddbaaA15
set_option linter.all false
namespace Go.AM

/-- Some tmps are forgotten, or there are more, or fewer. -/
theorem Inv.fewer {P : Program} {st st' : St} {g : Gh} {vs vs' : Array Value} {w : World} (h : Inv P g st vs w) (hσ : st'.σ = st.σ) (hn : vs'.size = st'.n) (hvs : ∀ (t : Nat), t < st'.n → t < st.n → vs'[t]? = vs[t]?)
    (hget : ∀ (t : Nat) (x : PV), st'.get t = some x → x = .dead ∨ (st.get t = some x ∧ ∀ q, (x = .alias q ∨ ∃ k off, x = .elem q k off) → contentAt st' q = contentAt st q ∧ ∀ s, q = .tmp s → s < st'.n)) : Inv P g st' vs' w := by
  refine h.step (A := fun _ => False) (Chg.refl _ g w) hn ?_ (by rw [hσ]; exact h.rlen) ?_ ?_ h.rown h.olt h.flt h.fbox
  · intro t x hx
    rcases hget t x hx with rfl | ⟨h1, h2⟩
    · exact .inl rfl
    · refine .inr (.inl ⟨h1, hvs t (get_lt hx) (get_lt h1), fun _ => not_false, fun q hq => ?_⟩)
      obtain ⟨k1, k2⟩ := h2 q hq
      refine ⟨k1, ?_⟩
      cases q with
      | tmp s =>
        obtain ⟨fl, n, xs, k3, _⟩ := alias_content h h1 hq
        exact hvs s (k2 s rfl) (get_lt k3)
      | cell id off => rfl
  · intro id ty cs b h1 h2
    rw [hσ] at h1
    exact .inl ⟨h1, h2, not_false, fun _ _ _ _ => not_false⟩
  · intro id es b h1 h2
    rw [hσ] at h1
    exact .inl ⟨h1, h2, not_false⟩

theorem Inv.grow {P : Program} {st : St} {g : Gh} {vs : Array Value} {w : World} (h : Inv P g st vs w) (hl : ∀ t, st.n ≤ t → lkp st.ts t = .dead) (k : Nat) : Inv P g { st with n := st.n + k } (vs ++ Array.replicate k undef) w := by
  have hsz := h.size
  have hg : ∀ t, t < st.n → St.get { st with n := st.n + k } t = st.get t := by
    intro t ht
    simp only [St.get, if_pos ht, if_pos (show t < st.n + k by omega)]
  refine h.fewer rfl (by simp [hsz]) (fun t ht ht' => by rw [Array.getElem?_append_left (by omega)]) fun t x hx => ?_
  by_cases ht : t < st.n
  · rw [hg t ht] at hx
    refine .inr ⟨hx, fun q hq => ?_⟩
    obtain ⟨fl, n, xs, k1, _⟩ := alias_content h hx hq
    cases q with
    | tmp s =>
      have := get_lt k1
      exact ⟨hg s this, fun s' e => by injection e with e; subst e; show s < st.n + k; omega⟩
    | cell id off => exact ⟨rfl, fun s' e => by cases e⟩
  · left
    simp only [St.get] at hx
    split at hx
    · injection hx with hx
      rw [← hx]
      exact hl t (by omega)
    · cases hx

theorem lkp_cutN (N : Nat) (l : List (Nat × PV)) (t : Nat) : lkp (cutN N l) t = if t < N then fixN N (lkp l t) else .dead := by
  induction l with
  | nil => simp only [cutN, lkp]; split <;> rfl
  | cons p r ih =>
    obtain ⟨k, x⟩ := p
    simp only [cutN]
    by_cases hk : k < N
    · rw [if_pos hk]
      simp only [lkp]
      by_cases e : k = t
      · subst e; simp [Nat.beq_refl, hk]
      · simp only [beq_ne e]; exact ih
    · rw [if_neg hk, ih]
      by_cases e : k = t
      · subst e; rw [if_neg hk, if_neg hk]
      · simp only [lkp, beq_ne e]

theorem fixN_cases (N : Nat) (x : PV) : fixN N x = .dead ∨ (fixN N x = x ∧ ∀ s, (x = .alias (.tmp s) ∨ ∃ k off, x = .elem (.tmp s) k off) → s < N) := by
  cases x with
  | alias q =>
    cases q with
    | tmp s =>
      by_cases h : s < N
      · right
        refine ⟨by simp [fixN, h], ?_⟩
        rintro s' (e | ⟨_, _, e⟩)
        · injection e with e; injection e with e; omega
        · cases e
      · left; simp [fixN, h]
    | cell id off => right; exact ⟨rfl, fun s' e => by rcases e with e | ⟨_, _, e⟩ <;> cases e⟩
  | elem q k off =>
    cases q with
    | tmp s =>
      by_cases h : s < N
      · right
        refine ⟨by simp [fixN, h], ?_⟩
        rintro s' (e | ⟨_, _, e⟩)
        · cases e
        · injection e with e; injection e with e; omega
      · left; simp [fixN, h]
    | cell id off => right; exact ⟨rfl, fun s' e => by rcases e with e | ⟨_, _, e⟩ <;> cases e⟩
  | _ => right; exact ⟨rfl, fun s' e => by rcases e with e | ⟨_, _, e⟩ <;> cases e⟩

theorem Inv.shrink {P : Program} {st : St} {g : Gh} {vs vs' : Array Value} {w : World} {N : Nat} (h : Inv P g st vs w) (hN : N ≤ st.n) (hn : vs'.size = N) (hvs : ∀ t, t < N → vs'[t]? = vs[t]?) : Inv P g (st.shrink N) vs' w := by
  refine h.fewer rfl hn (fun t ht _ => hvs t ht) fun t x hx => ?_
  have ht := get_lt hx
  have ht' : t < N := ht
  have hg : ∀ s, s < N → (st.shrink N).get s = (st.get s).map (fixN N) := by
    intro s hs
    simp only [St.get, St.shrink, if_pos hs, if_pos (show s < st.n by omega), lkp_cutN, Option.map_some]
  rw [hg t ht'] at hx
  simp only [Option.map_eq_some_iff] at hx
  obtain ⟨y, hy, rfl⟩ := hx
  rcases fixN_cases N y with h1 | ⟨h1, h2⟩
  · exact .inl h1
  · rw [h1]
    refine .inr ⟨hy, fun q hq => ?_⟩
    obtain ⟨fl, n, xs, k1, _⟩ := alias_content h hy hq
    cases q with
    | tmp s =>
      have hs : s < N := h2 s (by rcases hq with e | ⟨k, off, e⟩; exact .inl e; exact .inr ⟨k, off, e⟩)
      refine ⟨?_, fun s' e => by injection e with e; subst e; exact hs⟩
      show (st.shrink N).get s = st.get s
      have k1' : st.get s = some (.sl fl n xs) := k1
      rw [hg s hs, k1']
      rfl
    | cell id off => exact ⟨rfl, fun s' e => by cases e⟩

/-- The values that arguments come of. -/
def SrcOk (g : Gh) (w : World) (vs : Array Value) (N : Nat) : List (PV ⊕ Operand) → List Value → Prop
  | [], [] => True
  | .inl x :: r, v :: us => Rel g w x v ∧ SrcOk g w vs N r us
  | .inr o :: r, v :: us => v = evalV vs o ∧ opLt N o = true ∧ SrcOk g w vs N r us
  | _, _ => False

theorem SrcOk.ext {g g' : Gh} {w w' : World} {vs vs' : Array Value} {N : Nat} (hE : Ext g g' w w') (hv : ∀ t, t < N → vs'[t]? = vs[t]?) : ∀ {l : List (PV ⊕ Operand)} {us : List Value}, SrcOk g w vs N l us → SrcOk g' w' vs' N l us := by
  intro l
  induction l with
  | nil => intro us h; cases us <;> exact h
  | cons s l ih =>
    intro us h
    cases us with
    | nil => cases s <;> exact h.elim
    | cons u us =>
      cases s with
      | inl x => exact ⟨h.1.ext hE, ih h.2⟩
      | inr o =>
        refine ⟨?_, h.2.1, ih h.2.2⟩
        rw [h.1]
        cases o with
        | tmp t =>
          have ht : t < N := by simpa [opLt] using h.2.1
          simp only [evalV, Array.getD_eq_getD_getElem?, hv t ht]
        | _ => rfl

theorem putT_ne {vs : Array Value} {d t : Nat} {v : Value} (h : t ≠ d) : (putT vs (some d) v)[t]? = vs[t]? := by
  simp only [putT]
  rw [Array.getElem?_setIfInBounds_ne (by omega)]

theorem setD_n {st st' : St} {d : Option Tmp} {x : PV} (h : st.setD d x = some st') : st'.n = st.n := by
  cases d with
  | none => injection h with h; subst h; rfl
  | some d =>
    simp only [St.setD] at h
    split at h
    · injection h with h; subst h; exact tsLen_setP
    · cases h
theorem mvD_n {st st' : St} {p : Plc} {d : Option Tmp} (h : st.mvD p d = some st') : st'.n = st.n := by
  unfold St.mvD at h
  split at h
  · split at h
    · injection h with h; subst h; rw [tsLen_setP, tsLen_setP]
    · cases h
  · cases h

theorem passL_lt {P : Program} {mv : Nat → Bool} {N j : Nat} {x : PV ⊕ Operand} {l : List (PV ⊕ Operand)} {st st1 : St} {g : Gh} {vs : Array Value} {w : World} (h : Inv P g st vs w) (he : st.passL mv N j (x :: l) = some st1) : N + j < st.n := by
  have key : ∀ {st0 st2 : St} {y : PV}, st0.setD (some (N + j)) y = some st2 → N + j < st0.n := by
    intro st0 st2 y hh
    simp only [St.setD] at hh
    split at hh
    · assumption
    · cases hh
  cases x with
  | inl x =>
    simp only [St.passL] at he
    split at he
    · rename_i hset; exact key hset
    · cases he
  | inr o =>
    simp only [St.passL] at he
    split at he
    · split at he
      · rename_i hm
        unfold St.mvD at hm
        split at hm
        · rename_i d' x' hd' _
          injection hd' with hd'
          subst hd'
          split at hm
          · rename_i hc; exact hc.1
          · cases hm
        · cases hm
      · cases he
    · split at he
      · rename_i y st3 hu
        obtain ⟨_, _, _, _, _, hn⟩ := use_sound h hu
        split at he
        · rename_i st4 hset
          rw [← hn]; exact key hset
        · cases he
      · cases he

theorem passL_sound {P : Program} {mv : Nat → Bool} {N : Nat} : ∀ {l : List (PV ⊕ Operand)} {us : List Value} {j : Nat} {st st1 : St} {g : Gh} {vs : Array Value} {w : World}, Inv P g st vs w → SrcOk g w vs N l us → st.passL mv N j l = some st1 →
    ∃ g' vs', Inv P g' st1 vs' w ∧ Ext g g' w w ∧ st1.n = st.n ∧ vs'.size = vs.size ∧ (∀ t, t < N + j → vs'[t]? = vs[t]?) ∧ us.length = l.length ∧ ∀ (i : Nat) (hi : i < us.length), vs'[N + j + i]? = some us[i] := by
  intro l
  induction l with
  | nil =>
    intro us j st st1 g vs w h hs he
    injection he with he
    subst he
    cases us with
    | nil => exact ⟨g, vs, h, Ext.refl _ _, rfl, rfl, fun _ _ => rfl, rfl, fun i hi => by simp at hi⟩
    | cons u us => exact hs.elim
  | cons s l ih =>
    intro us j st st1 g vs w h hs he
    cases us with
    | nil => cases s <;> exact hs.elim
    | cons u us =>
      have fin : ∀ {st2 : St} {g2 : Gh}, Inv P g2 st2 (putT vs (some (N + j)) u) w → Ext g g2 w w → st2.n = st.n → st2.passL mv N (j + 1) l = some st1 → SrcOk g w vs N l us →
          ∃ g' vs', Inv P g' st1 vs' w ∧ Ext g g' w w ∧ st1.n = st.n ∧ vs'.size = vs.size ∧ (∀ t, t < N + j → vs'[t]? = vs[t]?) ∧ (u :: us).length = (s :: l).length ∧ ∀ (i : Nat) (hi : i < (u :: us).length), vs'[N + j + i]? = some (u :: us)[i] := by
        intro st2 g2 i1 i2 i3 i4 i5
        obtain ⟨g', vs', j1, j2, j3, j4, j5, j6, j7⟩ := ih i1 (i5.ext i2 (fun t ht => putT_ne (by omega))) i4
        refine ⟨g', vs', j1, i2.trans j2, j3.trans i3, ?_, ?_, by simp [j6], ?_⟩
        · rw [j4]; simp [putT]
        · intro t ht
          rw [j5 t (by omega), putT_ne (by omega)]
        · intro i hi
          cases i with
          | zero =>
            rw [Nat.add_zero, j5 (N + j) (by omega)]
            have hlt : N + j < vs.size := by
              have := passL_lt h he
              have h2 := h.size
              omega
            simp [putT, hlt]
          | succ i =>
            have := j7 i (by simpa using hi)
            rw [show N + j + (i + 1) = N + (j + 1) + i by omega, this]
            rfl
      cases s with
      | inl x =>
        simp only [St.passL] at he
        split at he
        · rename_i st2 hset
          exact fin (setD_rel h hset hs.1) (Ext.refl _ _) (setD_n hset) he hs.2
        · cases he
      | inr o =>
        obtain ⟨hu, ho, hrest⟩ := hs
        simp only [St.passL] at he
        split at he
        · rename_i q hq
          have hq' : st.plc o = some q := by
            split at hq
            · exact hq
            · cases hq
          obtain ⟨fl, n, xs, k1, k2, k3, _⟩ := plc_slot h hq'
          split at he
          · rename_i st2 hm
            obtain ⟨g2, i1, i2⟩ := mvD_inv h k1 k2 k3 hm
            rw [← hu] at i1
            exact fin i1 i2 (mvD_n hm) he hrest
          · cases he
        · split at he
          · rename_i y st2 huse
            obtain ⟨g2, i1, i2, i3, _, i5⟩ := use_sound h huse
            split at he
            · rename_i st3 hset
              rw [← hu] at i3
              exact fin (setD_rel i1 hset i3) i2 ((setD_n hset).trans i5) he hrest
            · cases he
          · cases he

end Go.AM
