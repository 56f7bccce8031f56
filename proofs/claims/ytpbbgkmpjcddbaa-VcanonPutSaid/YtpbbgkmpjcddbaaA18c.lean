/- The abstract machine, 18c: regions whose operations may run in more than one order. -/
import Derived.Test.YtpbbgkmpjcddbaaA18b
import Derived.Orders
set_option linter.all false
namespace Go.AM

/-- Some tmps' values alone. -/
def pickL (ts : List (Nat × PV)) : List Nat → List (Nat × PV)
  | [] => []
  | t :: r => (t, lkp ts t) :: pickL ts r
theorem lkp_pickL (ts l : List (Nat × PV)) : ∀ (T : List Nat) (t : Nat), lkp (pickL ts T ++ l) t = if t ∈ T then lkp ts t else lkp l t := by
  intro T
  induction T with
  | nil => intro t; simp [pickL]
  | cons u r ih =>
    intro t
    simp only [pickL, List.cons_append, lkp]
    by_cases e : u = t
    · subst e; simp [Nat.beq_refl]
    · simp only [beq_ne e]
      rw [ih]
      have : (t ∈ u :: r) ↔ t ∈ r := by simp [Ne.symm e]
      simp only [this]
theorem lkp_pickL0 (ts : List (Nat × PV)) (T : List Nat) (t : Nat) : lkp (pickL ts T) t = if t ∈ T then lkp ts t else .dead := by
  have := lkp_pickL ts [] T t
  simpa [lkp] using this

theorem Inv.congr {P : Program} {st : St} {g : Gh} {vs : Array Value} {w : World} (h : Inv P g st vs w) {ts' : List (Nat × PV)} (hl : ∀ t, lkp ts' t = lkp st.ts t) : Inv P g { ts := ts', n := st.n, σ := st.σ } vs w := by
  have hg : ∀ t, St.get { ts := ts', n := st.n, σ := st.σ } t = st.get t := fun t => by simp only [St.get, hl]
  have hc : ∀ q, contentAt { ts := ts', n := st.n, σ := st.σ } q = contentAt st q := fun q => by
    cases q with
    | tmp t => exact hg t
    | cell id off => rfl
  exact
  { size := h.size
    slot := fun t x hx => by
      rw [hg] at hx
      obtain ⟨v, hv, hs⟩ := h.slot t x hx
      refine ⟨v, hv, ?_⟩
      cases x with
      | sl fl n xs => cases fl <;> exact hs
      | alias q => simp only [Slot] at hs ⊢; rw [hc]; exact hs
      | elem q k off => simp only [Slot] at hs ⊢; rw [hc]; exact hs
      | _ => exact hs
    rlen := h.rlen
    box := fun id ty cs b h1 h2 => by
      obtain ⟨c, fz, k1, k2, k3, k4⟩ := h.box id ty cs b h1 h2
      refine ⟨c, fz, k1, k2, k3, fun off x hx => ?_⟩
      obtain ⟨j1, v, j2, j3⟩ := k4 off x hx
      exact ⟨j1, v, j2, slot_cell j3 j1⟩
    bmap := h.bmap, rown := h.rown, olt := h.olt, flt := h.flt, fbox := h.fbox }

/-- One operation, in its place among others: it may be left out by its guard. -/
def StepRuns (P : Program) (ops : Array Oper) (j : Nat) (o : Oper) (chg : Bool) (st st' : St) : Prop :=
  ∀ {g : Gh} {a : Act} {w : World} {K : Act → World → Prop} {Q : Exit → Act → World → Prop}, Inv P g st a.tmps w →
    (∀ a' w' g', Inv P g' st' a'.tmps w' → Ext g g' w w' → a'.defers = a.defers → (∃ v, a' = a.put o.dst v) → (chg = false → BoxKeep g w w') → K a' w') → wpOp P ops Q j K a w

def bnd (ops : Array Oper) (j i : Nat) : Bool :=
  match ops[j]? with
  | some o => o.after.toList.any fun e => Region.binds .any e && Nat.beq e.on i
  | none => false
def dstOf (ops : Array Oper) (j : Nat) : Option Tmp :=
  match ops[j]? with
  | some o => o.dst
  | none => none

/-- What is reckoned of such a region, in the text's order: the tmps before each operation, which of them it looks at or turns, the boxes before and behind those that turn boxes. -/
structure Draw where
  ts : Nat → List (Nat × PV)
  T : Nat → List Nat
  σs : Nat → List Bx
  chg : Nat → Bool
  fz : Nat → Bool

variable {P : Program} {ops : Array Oper} {n : Nat}

def Draw.W (D : Draw) (ops : Array Oper) (j t : Nat) : Bool := (D.T j).contains t && (!D.fz t || dstOf ops j == some t)
def cntTo (p : Nat → Bool) : Nat → Nat
  | 0 => 0
  | k + 1 => (p k).toNat + cntTo p k
def Draw.lo (D : Draw) (ops : Array Oper) (j : Nat) : Nat := cntTo (fun i => D.chg i && (decide (i < j) && bnd ops j i)) ops.size
def Draw.hi (D : Draw) (ops : Array Oper) (j : Nat) : Nat := cntTo (fun i => D.chg i && (!Nat.beq i j && !(decide (j < i) && bnd ops i j))) ops.size

structure Draw.Ok (D : Draw) (P : Program) (ops : Array Oper) (n : Nat) : Prop where
  E : ∀ j o, ops[j]? = some o → ∀ e ∈ o.after, Region.binds .any e = true → e.on < j
  OC : ∀ i j t, i < j → j < ops.size → t ∈ D.T i → t ∈ D.T j → (D.W ops i t = true ∨ D.W ops j t = true) → bnd ops j i = true
  PO : ∀ j t, j < ops.size → D.W ops j t = false → lkp (D.ts (j + 1)) t = lkp (D.ts j) t
  RC : ∀ j t s, j < ops.size → t ∈ D.T j → ((lkp (D.ts j) t).root = some (.tmp s) ∨ (lkp (D.ts (j + 1)) t).root = some (.tmp s)) → s ∈ D.T j
  FC : ∀ i t s, i ≤ ops.size → (lkp (D.ts i) t).root = some (.tmp s) → D.fz s = false
  AC : ∀ i j t s, i ≤ j → j < ops.size → (lkp (D.ts i) t).root = some (.tmp s) → s ∈ D.T j → t ∈ D.T j
  CC : ∀ i j t id off, i ≤ j → j < ops.size → D.chg j = true → (lkp (D.ts i) t).root = some (.cell id off) → t ∈ D.T j
  CD : ∀ j k t id off, j < k → k < ops.size → D.chg j = true → t ∈ D.T k → (lkp (D.ts (k + 1)) t).root = some (.cell id off) → bnd ops k j = true
  SC : ∀ i j, i < j → j < ops.size → D.chg i = true → D.chg j = true → bnd ops j i = true
  DT : ∀ j d, dstOf ops j = some d → d ∈ D.T j
  H : ∀ j o, ops[j]? = some o → ∀ m, D.lo ops j ≤ m → m ≤ D.hi ops j →
    StepRuns P ops j o (D.chg j) { ts := pickL (D.ts j) (D.T j), n, σ := D.σs m } { ts := pickL (D.ts (j + 1)) (D.T j), n, σ := D.σs (if D.chg j then m + 1 else m) }

/-- The tmps when those operations are done that 'M' names, of the first 'k'. -/
def Draw.tsV (D : Draw) (ops : Array Oper) (M : Nat → Bool) : Nat → List (Nat × PV)
  | 0 => D.ts 0
  | k + 1 => if M k then pickL (D.ts (k + 1)) ((D.T k).filter (D.W ops k)) ++ D.tsV ops M k else D.tsV ops M k

theorem mem_filterW {D : Draw} {k t : Nat} : t ∈ (D.T k).filter (D.W ops k) ↔ D.W ops k t = true := by
  rw [List.mem_filter]
  refine ⟨fun h => h.2, fun h => ⟨?_, h⟩⟩
  simp only [Draw.W, Bool.and_eq_true] at h
  simpa using h.1

theorem tsV_succ (D : Draw) (M : Nat → Bool) (k t : Nat) : lkp (D.tsV ops M (k + 1)) t = if M k = true ∧ D.W ops k t = true then lkp (D.ts (k + 1)) t else lkp (D.tsV ops M k) t := by
  simp only [Draw.tsV]
  cases hM : M k with
  | false => simp
  | true =>
    simp only [if_true]
    rw [lkp_pickL]
    simp only [mem_filterW, true_and]

theorem W_T {D : Draw} {k t : Nat} (h : D.W ops k t = true) : t ∈ D.T k := by
  simp only [Draw.W, Bool.and_eq_true] at h
  simpa using h.1

/-- Where all is done that an operation waits for, and nothing that waits for it, it finds what it finds in the text's order. -/
theorem tsV_ready {D : Draw} (hD : D.Ok P ops n) {M : Nat → Bool} (hcl : ∀ j i, M j = true → bnd ops j i = true → M i = true) {j : Nat} (hj : j < ops.size) (hjM : M j = false)
    (hpre : ∀ i, bnd ops j i = true → M i = true) {t : Nat} (ht : t ∈ D.T j) : lkp (D.tsV ops M ops.size) t = lkp (D.ts j) t := by
  have h1 : ∀ k, k ≤ j → lkp (D.tsV ops M k) t = lkp (D.ts k) t := by
    intro k
    induction k with
    | zero => intro _; rfl
    | succ k ih =>
      intro hk
      rw [tsV_succ]
      split
      · rfl
      · rename_i hno
        rw [ih (by omega)]
        have hW : D.W ops k t = false := by
          cases hW : D.W ops k t with
          | false => rfl
          | true =>
            have hb := hD.OC k j t (by omega) hj (W_T hW) ht (.inl hW)
            exact absurd ⟨hpre k hb, hW⟩ hno
        exact (hD.PO k t (by omega) hW).symm
  have h2 : ∀ d, j + d ≤ ops.size → lkp (D.tsV ops M (j + d)) t = lkp (D.tsV ops M j) t := by
    intro d
    induction d with
    | zero => intro _; rfl
    | succ d ih =>
      intro hd
      rw [show j + (d + 1) = (j + d) + 1 by omega, tsV_succ, if_neg, ih (by omega)]
      rintro ⟨hM, hW⟩
      rcases Nat.eq_zero_or_pos d with rfl | hpos
      · rw [Nat.add_zero, hjM] at hM; cases hM
      · have hb := hD.OC j (j + d) t (by omega) (by omega) ht (W_T hW) (.inr hW)
        have := hcl _ _ hM hb
        rw [hjM] at this; cases this
  have := h2 (ops.size - j) (by omega)
  rw [show j + (ops.size - j) = ops.size by omega] at this
  rw [this, h1 j (Nat.le_refl _)]

def withJ (M : Nat → Bool) (j : Nat) : Nat → Bool := fun i => Nat.beq i j || M i
theorem withJ_self (M : Nat → Bool) (j : Nat) : withJ M j j = true := by simp [withJ, Nat.beq_refl]
theorem withJ_ne (M : Nat → Bool) {i j : Nat} (h : i ≠ j) : withJ M j i = M i := by simp [withJ, beq_ne h]

theorem tsV_with {D : Draw} (hD : D.Ok P ops n) {M : Nat → Bool} (hcl : ∀ j i, M j = true → bnd ops j i = true → M i = true) {j : Nat} (hj : j < ops.size) (hjM : M j = false) (t : Nat) :
    lkp (D.tsV ops (withJ M j) ops.size) t = if D.W ops j t = true then lkp (D.ts (j + 1)) t else lkp (D.tsV ops M ops.size) t := by
  have h1 : ∀ k, k ≤ j → D.tsV ops (withJ M j) k = D.tsV ops M k := by
    intro k
    induction k with
    | zero => intro _; rfl
    | succ k ih =>
      intro hk
      simp only [Draw.tsV]
      rw [withJ_ne M (by omega), ih (by omega)]
  have h2 : ∀ d, j + 1 + d ≤ ops.size → lkp (D.tsV ops (withJ M j) (j + 1 + d)) t = if D.W ops j t = true then lkp (D.ts (j + 1)) t else lkp (D.tsV ops M (j + 1 + d)) t := by
    intro d
    induction d with
    | zero =>
      intro _
      rw [Nat.add_zero, tsV_succ, tsV_succ, withJ_self, h1 j (Nat.le_refl _)]
      simp [hjM]
    | succ d ih =>
      intro hd
      rw [show j + 1 + (d + 1) = (j + 1 + d) + 1 by omega, tsV_succ, tsV_succ, withJ_ne M (by omega), ih (by omega)]
      by_cases hw : D.W ops j t = true
      · rw [if_pos hw, if_neg]
        · rw [if_pos hw]
        rintro ⟨hM, hW⟩
        have hb := hD.OC j (j + 1 + d) t (by omega) (by omega) (W_T hw) (W_T hW) (.inr hW)
        have := hcl _ _ hM hb
        rw [hjM] at this; cases this
      · simp only [if_neg hw]
  have := h2 (ops.size - (j + 1)) (by omega)
  rwa [show j + 1 + (ops.size - (j + 1)) = ops.size by omega] at this

theorem tsV_all {D : Draw} (hD : D.Ok P ops n) {M : Nat → Bool} (hM : ∀ j, j < ops.size → M j = true) (t : Nat) : lkp (D.tsV ops M ops.size) t = lkp (D.ts ops.size) t := by
  have : ∀ k, k ≤ ops.size → lkp (D.tsV ops M k) t = lkp (D.ts k) t := by
    intro k
    induction k with
    | zero => intro _; rfl
    | succ k ih =>
      intro hk
      rw [tsV_succ]
      split
      · rfl
      · rename_i hno
        rw [ih (by omega)]
        refine (hD.PO k t (by omega) ?_).symm
        cases hW : D.W ops k t with
        | false => rfl
        | true => exact absurd ⟨hM k (by omega), hW⟩ hno
  exact this _ (Nat.le_refl _)

theorem cntTo_mono {p q : Nat → Bool} : ∀ {k : Nat}, (∀ i, i < k → p i = true → q i = true) → cntTo p k ≤ cntTo q k := by
  intro k
  induction k with
  | zero => intro _; exact Nat.le_refl _
  | succ k ih =>
    intro h
    simp only [cntTo]
    have := ih fun i hi => h i (by omega)
    have h1 := h k (by omega)
    cases hp : p k with
    | false => simp; omega
    | true => rw [h1 hp]; simp; exact this
theorem cntTo_with {p : Nat → Bool} {M : Nat → Bool} {j : Nat} (hjM : M j = false) : ∀ {k : Nat}, cntTo (fun i => p i && withJ M j i) k = cntTo (fun i => p i && M i) k + (if j < k ∧ p j = true then 1 else 0) := by
  intro k
  induction k with
  | zero => simp [cntTo]
  | succ k ih =>
    simp only [cntTo, ih]
    by_cases e : k = j
    · subst e
      rw [withJ_self, hjM]
      cases hp : p k <;> simp
      omega
    · rw [withJ_ne M e]
      by_cases hlt : j < k
      · simp only [hlt, true_and, show j < k + 1 by omega]; omega
      · simp only [hlt, show ¬ j < k + 1 by omega, false_and, if_false]; omega

/-- Behind some of a region's operations. -/
structure Draw.At (D : Draw) (P : Program) (ops : Array Oper) (n : Nat) (g0 : Gh) (a0 : Act) (w0 : World) (M : Nat → Bool) (a : Act) (w : World) : Prop where
  cl : ∀ j i, M j = true → bnd ops j i = true → M i = true
  inv : ∃ g, Inv P g { ts := D.tsV ops M ops.size, n, σ := D.σs (cntTo (fun i => D.chg i && M i) ops.size) } a.tmps w ∧ Ext g0 g w0 w
  defers : a.defers = a0.defers
  rest : ∀ t, (∀ j, dstOf ops j ≠ some t) → a.tmps[t]? = a0.tmps[t]?

theorem bnd_lt {D : Draw} (hD : D.Ok P ops n) {j i : Nat} (h : bnd ops j i = true) : i < j := by
  unfold bnd at h
  split at h
  · rename_i o ho
    obtain ⟨e, he, hb⟩ := List.any_eq_true.1 h
    simp only [Bool.and_eq_true] at hb
    have := hD.E j o ho e (by simpa using he) hb.1
    rw [Nat.eq_of_beq_eq_true hb.2] at this
    exact this
  · cases h

def Draw.rootOk (D : Draw) (j : Nat) : Plc → Prop
  | .tmp s => s ∉ D.T j
  | .cell _ _ => D.chg j = false
theorem Draw.step {D : Draw} (hD : D.Ok P ops n) {g0 : Gh} {a0 : Act} {w0 : World} {M : Nat → Bool} {a : Act} {w : World} (h : D.At P ops n g0 a0 w0 M a w) {j : Nat} {o : Oper} (ho : ops[j]? = some o) (hjM : M j = false)
    (hpre : ∀ i, bnd ops j i = true → M i = true) {K : Act → World → Prop} {Q : Exit → Act → World → Prop} (hK : ∀ a' w', D.At P ops n g0 a0 w0 (withJ M j) a' w' → K a' w') : wpOp P ops Q j K a w := by
  obtain ⟨g, hi, hE0⟩ := h.inv
  have hj : j < ops.size := (Array.getElem?_eq_some_iff.1 ho).1
  have hdst : dstOf ops j = o.dst := by simp [dstOf, ho]
  have hval := fun t => tsV_ready hD h.cl hj hjM hpre (t := t)
  -- how many have turned boxes
  have hlo : D.lo ops j ≤ cntTo (fun i => D.chg i && M i) ops.size := cntTo_mono fun i _ hp => by
    simp only [Bool.and_eq_true, decide_eq_true_eq] at hp ⊢
    exact ⟨hp.1, hpre i hp.2.2⟩
  have hhi : cntTo (fun i => D.chg i && M i) ops.size ≤ D.hi ops j := cntTo_mono fun i _ hp => by
    simp only [Bool.and_eq_true] at hp
    have hne : i ≠ j := by rintro rfl; rw [hjM] at hp; cases hp.2
    have hnb : (decide (j < i) && bnd ops i j) = false := by
      cases hb : bnd ops i j with
      | false => simp
      | true => have := h.cl i j hp.2 hb; rw [hjM] at this; cases this
    simp [hp.1, hnb, beq_ne hne]
  let K0 : Nat → Bool := fun t => (D.T j).contains t
  have hK0 : ∀ t, K0 t = true ↔ t ∈ D.T j := fun t => by simp [K0]
  have hpart : Inv P (g.part K0) { ts := pickL (D.ts j) (D.T j), n, σ := D.σs (cntTo (fun i => D.chg i && M i) ops.size) } a.tmps w := by
    refine hi.part K0 fun t _ => ?_
    rw [lkp_pickL0]
    by_cases ht : t ∈ D.T j
    · right; left
      rw [if_pos ht]
      refine ⟨(hval t ht).symm, fun _ => (hK0 t).2 ht, fun s hs => ?_⟩
      have hs' : (lkp (D.ts j) t).root = some (.tmp s) := by rw [← hval t ht]; exact hs
      have hsT := hD.RC j t s hj ht (.inl hs')
      rw [lkp_pickL0, if_pos hsT]
      exact (hval s hsT).symm
    · left; rw [if_neg ht]
  refine hD.H j o ho _ hlo hhi hpart fun a' w' g' h1 h2 h3 h4 h5 => hK a' w' ?_
  obtain ⟨v, rfl⟩ := h4
  have hoth : ∀ t, t ∉ D.T j → (a.put o.dst v).tmps[t]? = a.tmps[t]? := fun t ht => by
    rw [put_tmps]
    cases hd' : o.dst with
    | none => rfl
    | some d =>
      have := hD.DT j d (by rw [hdst, hd'])
      simp only [putT]
      rw [Array.getElem?_setIfInBounds_ne (by rintro rfl; exact ht this)]
  have hcnt : cntTo (fun i => D.chg i && withJ M j i) ops.size = (if D.chg j = true then cntTo (fun i => D.chg i && M i) ops.size + 1 else cntTo (fun i => D.chg i && M i) ops.size) := by
    rw [cntTo_with hjM]
    cases D.chg j <;> simp [hj]
  -- values behind it
  have hnew : ∀ t, t ∈ D.T j → lkp (D.tsV ops (withJ M j) ops.size) t = lkp (D.ts (j + 1)) t := fun t ht => by
    rw [tsV_with hD h.cl hj hjM]
    split
    · rfl
    · rename_i hw
      rw [hval t ht]
      exact (hD.PO j t hj (by simpa using hw)).symm
  have hold : ∀ t, t ∉ D.T j → lkp (D.tsV ops (withJ M j) ops.size) t = lkp (D.tsV ops M ops.size) t := fun t ht => by
    rw [tsV_with hD h.cl hj hjM, if_neg fun hw => ht (W_T hw)]
  -- where a name of a place stands that is not of this operation's
  have hroot : ∀ t q, t ∉ D.T j → (lkp (D.tsV ops M ops.size) t).root = some q → D.rootOk j q := by
    intro t q ht hq
    have key : ∀ k, k ≤ ops.size → (lkp (D.tsV ops M k) t).root = some q → D.rootOk j q := by
      intro k
      induction k with
      | zero =>
        intro _ hq
        have hq : (lkp (D.ts 0) t).root = some q := hq
        cases q with
        | tmp s => exact fun hs => ht (hD.AC 0 j t s (by omega) hj hq hs)
        | cell id off =>
          cases hc : D.chg j with
          | false => exact hc
          | true => exact absurd (hD.CC 0 j t id off (by omega) hj hc hq) ht
      | succ k ih =>
        intro hk hq
        rw [tsV_succ] at hq
        split at hq
        · rename_i hMW
          obtain ⟨hMk, hW⟩ := hMW
          have hkj : k ≠ j := by rintro rfl; rw [hjM] at hMk; cases hMk
          cases q with
          | tmp s =>
            intro hs
            rcases Nat.lt_or_ge j k with hlt | hge
            · have hsk := hD.RC k t s (by omega) (W_T hW) (.inr hq)
              have hf := hD.FC (k + 1) t s (by omega) hq
              have hWs : D.W ops k s = true := by
                simp only [Draw.W, hf, Bool.not_false, Bool.true_or, Bool.and_true]
                simpa using hsk
              have hb := hD.OC j k s hlt (by omega) hs hsk (.inr hWs)
              have := h.cl k j hMk hb
              rw [hjM] at this; cases this
            · exact ht (hD.AC (k + 1) j t s (by omega) hj hq hs)
          | cell id off =>
            cases hc : D.chg j with
            | false => exact hc
            | true =>
              rcases Nat.lt_or_ge j k with hlt | hge
              · have hb := hD.CD j k t id off hlt (by omega) hc (W_T hW) hq
                have := h.cl k j hMk hb
                rw [hjM] at this; cases this
              · exact absurd (hD.CC (k + 1) j t id off (by omega) hj hc hq) ht
        · exact ih (by omega) hq
    exact key _ (Nat.le_refl _) hq
  obtain ⟨k1, k2⟩ := hi.join (K := K0) (tj := D.tsV ops (withJ M j) ops.size) h1 h2 (fun t _ => by
    by_cases ht : t ∈ D.T j
    · right; left
      rw [hnew t ht, lkp_pickL0, if_pos ht]
      refine ⟨rfl, fun s hs => ?_⟩
      have hsT := hD.RC j t s hj ht (.inr hs)
      rw [hnew s hsT, lkp_pickL0, if_pos hsT]
    · right; right
      refine ⟨hold t ht, hoth t ht, fun _ => by
        cases hk : K0 t with
        | false => rfl
        | true => exact absurd ((hK0 t).1 hk) ht, fun q hq => ?_⟩
      have := hroot t q ht hq
      cases q with
      | tmp s => exact ⟨hold s this, hoth s this⟩
      | cell id off =>
        have hc : D.chg j = false := this
        exact ⟨by rw [hc]; rfl, h5 hc⟩)
  exact
  { cl := fun x i hx hb => by
      by_cases e : x = j
      · subst e
        have := hpre i hb
        have hne : i ≠ x := by rintro rfl; rw [hjM] at this; cases this
        rw [withJ_ne M hne]; exact this
      · rw [withJ_ne M e] at hx
        have := h.cl x i hx hb
        by_cases e' : i = j
        · subst e'; exact withJ_self M i
        · rw [withJ_ne M e']; exact this
    inv := ⟨_, by rw [hcnt]; exact k1, hE0.trans k2⟩
    defers := by rw [h3]; exact h.defers
    rest := fun t ht => by
      refine Eq.trans ?_ (h.rest t ht)
      rw [put_tmps]
      cases hd' : o.dst with
      | none => rfl
      | some d =>
        have := ht j
        rw [hdst, hd'] at this
        simp only [putT]
        rw [Array.getElem?_setIfInBounds_ne (by rintro rfl; exact this rfl)] }

def maskOf (l : Array Bool) : Nat → Bool := fun i => l.getD i false
def openTo (l : Array Bool) : Nat → Nat := cntTo fun i => !maskOf l i

theorem Draw.run {D : Draw} (hD : D.Ok P ops n) {g0 : Gh} {a0 : Act} {w0 : World} {Q : Exit → Act → World → Prop}
    (hQ : ∀ a w, D.At P ops n g0 a0 w0 (fun _ => true) a w → Q .normal a w) : ∀ (fuel : Nat) (l : Array Bool) (a : Act) (w : World), l.size = ops.size → openTo l ops.size ≤ fuel →
    D.At P ops n g0 a0 w0 (maskOf l) a w → wpAny P .any ops Q fuel l a w := by
  have hdone : ∀ (l : Array Bool) (a : Act) (w : World), l.size = ops.size → D.At P ops n g0 a0 w0 (maskOf l) a w → (∀ j, j < ops.size → maskOf l j = true) → Q .normal a w := by
    intro l a w hl h hall
    refine hQ a w ⟨fun _ _ _ _ => rfl, ?_, h.defers, h.rest⟩
    obtain ⟨g, h1, h2⟩ := h.inv
    refine ⟨g, ?_, h2⟩
    have hc : cntTo (fun i => D.chg i && maskOf l i) ops.size = cntTo (fun i => D.chg i && true) ops.size :=
      Nat.le_antisymm (cntTo_mono fun i _ hp => by simp only [Bool.and_eq_true] at hp ⊢; exact ⟨hp.1, trivial⟩) (cntTo_mono fun i hi hp => by simp only [Bool.and_eq_true] at hp ⊢; exact ⟨hp.1, hall i hi⟩)
    rw [hc] at h1
    exact h1.congr fun t => (tsV_all hD (fun _ _ => rfl) t).trans (tsV_all hD hall t).symm
  have hnone : ∀ (l : Array Bool), l.size = ops.size → Region.ready .any ops l = [] → ∀ j, j < ops.size → maskOf l j = true := by
    intro l hl hr j
    induction j using Nat.strongRecOn with
    | _ j ih =>
      intro hj
      cases hm : maskOf l j with
      | true => rfl
      | false =>
        exfalso
        have : j ∈ Region.ready .any ops l := by
          rw [mem_ready]
          refine ⟨?_, ops[j], Array.getElem?_eq_getElem hj, fun e he hb => ?_⟩
          · have hjl : j < l.size := by omega
            simp only [maskOf, Array.getD_eq_getD_getElem?, Array.getElem?_eq_getElem hjl, Option.getD_some] at hm ⊢
            exact hm
          · have hlt := hD.E j ops[j] (Array.getElem?_eq_getElem hj) e he hb
            exact ih e.on hlt (by omega)
        rw [hr] at this
        cases this
  intro fuel
  induction fuel with
  | zero =>
    intro l a w hl ho h
    have hall : ∀ j, j < ops.size → maskOf l j = true := by
      intro j hj
      cases hm : maskOf l j with
      | true => rfl
      | false =>
        exfalso
        have : 1 ≤ openTo l ops.size := by
          have key : ∀ k, j < k → 1 ≤ openTo l k := by
            intro k
            induction k with
            | zero => intro h; omega
            | succ k ih =>
              intro h
              simp only [openTo, cntTo]
              by_cases e : j = k
              · subst e; rw [hm]; simp
              · have := ih (by omega); simp only [openTo] at this; omega
          exact key _ hj
        omega
    refine ⟨?_, hdone l a w hl h hall⟩
    cases hr : Region.ready .any ops l with
    | nil => rfl
    | cons j r =>
      have hj : j ∈ Region.ready .any ops l := by rw [hr]; exact List.mem_cons_self
      rw [mem_ready] at hj
      obtain ⟨h1, o, h2, _⟩ := hj
      have hjlt := (Array.getElem?_eq_some_iff.1 h2).1
      have := hall j hjlt
      have hjl : j < l.size := by omega
      simp only [maskOf, Array.getD_eq_getD_getElem?, Array.getElem?_eq_getElem hjl, Option.getD_some] at this h1
      rw [this] at h1; cases h1
  | succ fuel ih =>
    intro l a w hl ho h
    refine ⟨fun hr => hdone l a w hl h (hnone l hl hr), fun j hj => ?_⟩
    rw [mem_ready] at hj
    obtain ⟨h1, o, h2, h3⟩ := hj
    have hjlt := (Array.getElem?_eq_some_iff.1 h2).1
    have hjl : j < l.size := by omega
    have hjM : maskOf l j = false := by
      simp only [maskOf, Array.getD_eq_getD_getElem?, Array.getElem?_eq_getElem hjl, Option.getD_some] at h1 ⊢
      exact h1
    have hmask : maskOf (l.setIfInBounds j true) = withJ (maskOf l) j := by
      funext i
      simp only [maskOf, Array.getD_eq_getD_getElem?]
      by_cases e : i = j
      · subst e; rw [withJ_self]; simp [hjl]
      · rw [withJ_ne _ e, Array.getElem?_setIfInBounds_ne (Ne.symm e)]; simp only [maskOf, Array.getD_eq_getD_getElem?]
    refine Draw.step hD h h2 hjM (fun i hb => ?_) fun a' w' h' => ?_
    · unfold bnd at hb
      rw [h2] at hb
      obtain ⟨e, he, hb⟩ := List.any_eq_true.1 hb
      simp only [Bool.and_eq_true] at hb
      have := h3 e (by simpa using he) hb.1
      rw [Nat.eq_of_beq_eq_true hb.2] at this
      exact this
    · refine ih _ a' w' (by simp [hl]) ?_ (by rw [hmask]; exact h')
      have hcnt : openTo (l.setIfInBounds j true) ops.size + 1 = openTo l ops.size := by
        simp only [openTo]
        rw [hmask]
        have key : ∀ k, cntTo (fun i => !withJ (maskOf l) j i) k + (if j < k then 1 else 0) = cntTo (fun i => !maskOf l i) k := by
          intro k
          induction k with
          | zero => simp [cntTo]
          | succ k ihk =>
            simp only [cntTo]
            by_cases e : k = j
            · subst e
              rw [withJ_self, hjM]
              rw [if_neg (by omega)] at ihk
              rw [if_pos (by omega)]
              show 0 + _ + 1 = 1 + _
              omega
            · rw [withJ_ne _ e]
              by_cases hlt : j < k
              · rw [if_pos hlt] at ihk; rw [if_pos (by omega)]; omega
              · rw [if_neg hlt] at ihk; rw [if_neg (by omega)]; omega
        have := key ops.size
        rw [if_pos hjlt] at this
        exact this
      omega

end Go.AM
