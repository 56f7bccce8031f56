/- The abstract machine, 25: certificates of regions and code. -/
import Derived.Test.YtpbbgkmpjcddbaaA24
set_option linter.all false
namespace Go.AM
noncomputable section

def nextI : List (Nat × OI) → Nat → OI × List (Nat × OI)
  | (k, oi) :: r, j => match Nat.beq k j with
    | true => (oi, r)
    | false => ({}, (k, oi) :: r)
  | [], _ => ({}, [])

def wantH (ops : Array Oper) (o : Oper) (w : Option Bool) (st : St) : Option (Bool × List Prop) :=
  match w with
  | none => (match wantedA ops o st with
    | some b => some (b, [])
    | none => none)
  | some v => match o.guard with
    | some (j, want) => match ops[j]? with
      | some p => match p.dst with
        | some t => match st.get t with
          | some (.lit (.bool b)) => some (v == want, [b = v])
          | _ => none
        | none => none
      | none => none
    | none => none
theorem wantH_sound {P : Program} {ops : Array Oper} {o : Oper} {w : Option Bool} {st : St} {g : Gh} {vs : Array Value} {wd : World} {b : Bool} {ps : List Prop} (h : Inv P g st vs wd) (he : wantH ops o w st = some (b, ps)) (hp : allP ps) : Region.wanted o (yielded ops vs) = b := by
  refine wanted_sound h ?_
  unfold wantH at he
  split at he
  · split at he
    · rename_i b' hb; injection he with he; injection he with e1 e2; subst e1; exact hb
    · cases he
  · rename_i v
    split at he
    · rename_i j want hg
      split at he
      · rename_i p hpj
        split at he
        · rename_i t ht
          split at he
          · rename_i b' hx
            injection he with he; injection he with e1 e2; subst e1; subst e2
            obtain ⟨rfl, _⟩ := hp
            simp only [wantedA, hg, hpj, ht, hx]
          · cases he
        · cases he
      · cases he
    · cases he

def opsH (C : Ctx) (ops : Array Oper) : Nat → List Oper → List (Nat × OI) → St → Option (St × List Prop)
  | _, [], _, st => some (st, [])
  | j, o :: rest, is, st => match nextI is j with
    | (oi, is1) => match wantH ops o oi.w st with
      | some (true, ps) => match opH C false o oi.it st with
        | some (st1, ps1) => nrmS (touches o.op) st1 fun st1 => (match opsH C ops (j + 1) rest is1 st1 with
          | some (st2, ps2) => some (st2, ps ++ (ps1 ++ ps2))
          | none => none)
        | none => none
      | some (false, ps) => match st.setD o.dst (.lit undef) with
        | some st1 => nrmS false st1 fun st1 => (match opsH C ops (j + 1) rest is1 st1 with
          | some (st2, ps2) => some (st2, ps ++ ps2)
          | none => none)
        | none => none
      | none => none

theorem opH_wp {C : Ctx} {kp : Bool} {o : Oper} {it : Item} {st st' : St} {ps : List Prop} (hW : WF C.P) (h : opH C kp o it st = some (st', ps)) (hp : allP ps) {g : Gh} {a : Act} {w : World} (hi : Inv C.P g st a.tmps w) {next : Act → World → Prop} {Q : Exit → Act → World → Prop}
    (hnext : ∀ a' w' g', Inv C.P g' st' a'.tmps w' → Ext g g' w w' → a'.defers = a.defers → (∃ v, a' = a.put o.dst v) → (keepKind o.op = true → kp = true → BoxKeep g w w') → next a' w') : o.wp C.P a w next Q := by
  obtain ⟨call, mv, h1, h2⟩ := opH_sound h hp
  exact evOp'_soundK (C := { C with call, mv }) hW h1 hi h2 hnext

theorem opsH_sound {C : Ctx} {ops : Array Oper} (hW : WF C.P) {Q : Exit → Act → World → Prop} : ∀ {l : List Oper} {j : Nat} {is : List (Nat × OI)} {st st' : St} {ps : List Prop} {g : Gh} {a : Act} {w : World}, Inv C.P g st a.tmps w → opsH C ops j l is st = some (st', ps) → allP ps →
    (∀ a' w' g', Inv C.P g' st' a'.tmps w' → Ext g g' w w' → a'.defers = a.defers → Q .normal a' w') → wpList C.P ops Q l a w := by
  intro l
  induction l with
  | nil =>
    intro j is st st' ps g a w h he _ hQ
    injection he with he; injection he with he _
    subst he
    exact hQ a w g h (Ext.refl _ _) rfl
  | cons o l ih =>
    intro j is st st' ps g a w h he hp hQ
    simp only [opsH] at he
    unfold wpList
    split at he
    · rename_i qs hw
      split at he
      · rename_i st1 ps1 h1
        rw [nrmS_eq] at he
        split at he
        · rename_i st2 ps2 h2
          injection he with he; injection he with e1 e2; subst e1; subst e2
          obtain ⟨p1, p2⟩ := allP_append.1 hp
          obtain ⟨p2, p3⟩ := allP_append.1 p2
          rw [if_pos (wantH_sound h hw p1)]
          refine .inl (opH_wp hW h1 p2 h fun a' w' g' i1 i2 i3 _ _ => ?_)
          exact ih i1 h2 p3 fun a2 w2 g2 j1 j2 j3 => hQ a2 w2 g2 j1 (i2.trans j2) (j3.trans i3)
        · cases he
      · cases he
    · rename_i qs hw
      split at he
      · rename_i st1 h1
        rw [nrmS_eq] at he
        split at he
        · rename_i st2 ps2 h2
          injection he with he; injection he with e1 e2; subst e1; subst e2
          obtain ⟨p1, p2⟩ := allP_append.1 hp
          rw [if_neg (by rw [wantH_sound h hw p1]; simp)]
          have i1 := setD_rel h h1 (.lit undef)
          refine ih (g := g) ?_ h2 p2 fun a2 w2 g2 j1 j2 j3 => hQ a2 w2 g2 j1 j2 (j3.trans (put_defers _ _ _))
          rw [put_tmps]; exact i1
        · cases he
      · cases he
    · cases he

/-! ### Behind a region -/
mutual
/-- What is owed that no box from 'n' on stands in a tree. -/
def refN (n : Nat) : PV → Option (List Prop)
  | .ptr id _ => if id < n then some [] else none
  | .map id => if id < n then some [] else none
  | .sl _ _ xs => some [noRefss n xs = true]
  | .agg cs => refNs n cs
  | .tup vs => refNs n vs
  | .ifc _ v => refN n v
  | .fn _ a b => match refNs n a, refNs n b with
    | some p, some q => some (p ++ q)
    | _, _ => none
  | .alias _ => none
  | .elem _ _ _ => none
  | .elemv cs _ => refNs n cs
  | .lit _ => some []
  | .nilp => some []
  | .dead => some []
def refNs (n : Nat) : List PV → Option (List Prop)
  | [] => some []
  | x :: xs => match refN n x, refNs n xs with
    | some p, some q => some (p ++ q)
    | _, _ => none
end
mutual
theorem refN_ok {n : Nat} : ∀ (x : PV) {ps : List Prop}, refN n x = some ps → allP ps → noRef n x = true
  | .lit v, _, _, _ => rfl
  | .nilp, _, _, _ => rfl
  | .dead, _, _, _ => rfl
  | .ptr id off, _, h, _ => by
    simp only [refN] at h
    split at h
    · rename_i hlt; simp [noRef, hlt]
    · cases h
  | .map id, _, h, _ => by
    simp only [refN] at h
    split at h
    · rename_i hlt; simp [noRef, hlt]
    · cases h
  | .sl fl b xs, _, h, hp => by
    simp only [refN] at h
    injection h with h; subst h
    exact hp.1
  | .agg cs, _, h, hp => by simp only [refN] at h; simp only [noRef]; exact refNs_ok cs h hp
  | .tup cs, _, h, hp => by simp only [refN] at h; simp only [noRef]; exact refNs_ok cs h hp
  | .elemv cs off, _, h, hp => by simp only [refN] at h; simp only [noRef]; exact refNs_ok cs h hp
  | .ifc t v, _, h, hp => by simp only [refN] at h; simp only [noRef]; exact refN_ok v h hp
  | .fn f a b, _, h, hp => by
    simp only [refN] at h
    split at h
    · rename_i p q h1 h2
      injection h with h; subst h
      obtain ⟨p1, p2⟩ := allP_append.1 hp
      simp only [noRef, Bool.and_eq_true]
      exact ⟨refNs_ok a h1 p1, refNs_ok b h2 p2⟩
    · cases h
  | .alias q, _, h, _ => by simp [refN] at h
  | .elem q k off, _, h, _ => by simp [refN] at h
theorem refNs_ok {n : Nat} : ∀ (xs : List PV) {ps : List Prop}, refNs n xs = some ps → allP ps → noRefs n xs = true
  | [], _, _, _ => rfl
  | x :: xs, _, h, hp => by
    simp only [refNs] at h
    split at h
    · rename_i p q h1 h2
      injection h with h; subst h
      obtain ⟨p1, p2⟩ := allP_append.1 hp
      simp only [noRefs, Bool.and_eq_true]
      exact ⟨refN_ok x h1 p1, refNs_ok xs h2 p2⟩
    · cases h
end

def refT (n : Nat) (x : PV) : Option (List Prop) :=
  match x with
  | .alias (.tmp _) => some []
  | .elem (.tmp _) _ _ => some []
  | x => refN n x
theorem refT_ok {n : Nat} {x : PV} {ps : List Prop} (h : refT n x = some ps) (hp : allP ps) : noRefT n x = true := by
  unfold refT at h
  split at h
  · rfl
  · rfl
  · rename_i h1 h2
    have := refN_ok x h hp
    cases x with
    | alias q => cases q <;> first | rfl | simp [refN] at h
    | elem q k off => cases q <;> first | rfl | simp [refN] at h
    | _ => exact this
def refTs (n : Nat) : List (Nat × PV) → Option (List Prop)
  | [] => some []
  | (_, x) :: r => match refT n x, refTs n r with
    | some p, some q => some (p ++ q)
    | _, _ => none
theorem refTs_ok {n : Nat} : ∀ {l : List (Nat × PV)} {ps : List Prop}, refTs n l = some ps → allP ps → l.all (fun p => noRefT n p.2) = true := by
  intro l
  induction l with
  | nil => intro ps _ _; rfl
  | cons a r ih =>
    intro ps h hp
    obtain ⟨k, x⟩ := a
    simp only [refTs] at h
    split at h
    · rename_i p q h1 h2
      injection h with h; subst h
      obtain ⟨p1, p2⟩ := allP_append.1 hp
      simp only [List.all_cons, Bool.and_eq_true]
      exact ⟨refT_ok h1 p1, ih h2 p2⟩
    · cases h
def refBs (n : Nat) : List Bx → Option (List Prop)
  | [] => some []
  | .cells _ cs :: r => match refNs n cs, refBs n r with
    | some p, some q => some (p ++ q)
    | _, _ => none
  | .mp _ :: r => refBs n r
theorem refBs_ok {n : Nat} : ∀ {l : List Bx} {ps : List Prop}, refBs n l = some ps → allP ps → l.all (noRefB n) = true := by
  intro l
  induction l with
  | nil => intro ps _ _; rfl
  | cons b r ih =>
    intro ps h hp
    cases b with
    | cells ty cs =>
      simp only [refBs] at h
      split at h
      · rename_i p q h1 h2
        injection h with h; subst h
        obtain ⟨p1, p2⟩ := allP_append.1 hp
        simp only [List.all_cons, Bool.and_eq_true]
        exact ⟨refNs_ok cs h1 p1, ih h2 p2⟩
      · cases h
    | mp es =>
      simp only [refBs] at h
      simp only [List.all_cons, Bool.and_eq_true]
      exact ⟨rfl, ih h hp⟩

/-- What is forgotten, boxes too. -/
def restrictH (base : Nat) (h : Option Hint) (st : St) : Option (St × List Prop) :=
  match h with
  | none => some (st, [])
  | some h => match st.keepTo h with
    | st1 => match h.cut with
      | none => some (st1, [])
      | some n => if base ≤ n ∧ n ≤ st1.σ.length then (match refTs n st1.ts, refBs n (st1.σ.take n) with
          | some p, some q => some ({ st1 with σ := st1.σ.take n }, p ++ q)
          | _, _ => none) else none
theorem restrictH_sound {P : Program} {base : Nat} {k : Option Hint} {st st' : St} {ps : List Prop} {g : Gh} {vs : Array Value} {w : World} (h : Inv P g st vs w) (he : restrictH base k st = some (st', ps)) (hp : allP ps) :
    ∃ g', Inv P g' st' vs w ∧ Ext (g.cut base) (g'.cut base) w w := by
  unfold restrictH at he
  split at he
  · injection he with he; injection he with e1 _; subst e1
    exact ⟨g, h, Ext.refl _ _⟩
  · rename_i k
    obtain ⟨g1, h1, h2⟩ := h.keepTo k
    generalize st.keepTo k = st1 at he h1
    simp only at he
    split at he
    · injection he with he; injection he with e1 _; subst e1
      exact ⟨g1, h1, h2.cut base⟩
    · rename_i n _
      split at he
      · rename_i hn
        split at he
        · rename_i p q hp1 hq1
          injection he with he; injection he with e1 e2; subst e1; subst e2
          obtain ⟨k1, k2⟩ := allP_append.1 hp
          have hc : st1.cutOk n = true := by
            simp only [St.cutOk, Bool.and_eq_true]
            exact ⟨refTs_ok hp1 k1, refBs_ok hq1 k2⟩
          refine ⟨g1.cut n, h1.cutTo hc hn.2, ?_⟩
          rw [cut_cut g1 hn.1]
          exact h2.cut base
        · cases he
      · cases he

/-! ### Regions whose operations may run in more than one order -/
structure DStep where
  T : List Nat
  chg : Bool := false
  oi : OI := {}
  deriving Inhabited
structure DC where
  frz : List Nat
  lin : List Nat
  fz : List Nat
  σs : List (List Bx) := []
  steps : List DStep
  deriving Inhabited

def eqO (a b : List Bx) : List Prop :=
  match a, b with
  | [], [] => []
  | a, b => [a = b]
theorem eqO_ok {a b : List Bx} (h : allP (eqO a b)) : a = b := by
  unfold eqO at h
  split at h
  · rfl
  · exact h.1

def freezeD (fz : Bool) (d : Option Tmp) (st : St) : Option St :=
  match fz, d with
  | true, some d => match st.use (.tmp d) with
    | some (x, st1) => st1.setD (some d) x
    | none => none
  | _, _ => some st
def stepD (C : Ctx) (ops : Array Oper) (n : Nat) (o : Oper) (s : DStep) (fz : Bool) (loc : List (Nat × PV)) (σ : List Bx) : Option (List (Nat × PV) × List Bx × List Prop) :=
  match wantH ops o s.oi.w { ts := loc, n, σ } with
  | some (true, ps) => if s.chg || keepKind o.op then (match opH C (!s.chg) o s.oi.it { ts := loc, n, σ } with
    | some (st1, ps1) => match freezeD fz o.dst st1 with
      | some st2 => some (st2.ts, st2.σ, ps ++ ps1)
      | none => none
    | none => none) else none
  | some (false, ps) => match ({ ts := loc, n, σ } : St).setD o.dst (.lit undef) with
    | some st1 => some (st1.ts, st1.σ, ps)
    | none => none
  | none => none

theorem Inv.reTs {P : Program} {st : St} {g : Gh} {vs : Array Value} {w : World} (h : Inv P g st vs w) {ts' : List (Nat × PV)}
    (hts : ∀ t, t < st.n → lkp ts' t = .dead ∨
      (lkp ts' t = lkp st.ts t ∧ ∀ s, (lkp st.ts t).root = some (.tmp s) → lkp ts' s = lkp st.ts s) ∨
      ∃ v, vs[t]? = some v ∧ Rel g w (lkp ts' t) v ∧ (lkp ts' t).plain = true) : Inv P g { ts := ts', n := st.n, σ := st.σ } vs w := by
  have := h.part (fun _ => true) (ts' := ts') fun t ht => by
    rcases hts t ht with h1 | ⟨h1, h2⟩ | h1
    · exact .inl h1
    · exact .inr (.inl ⟨h1, fun _ => rfl, h2⟩)
    · exact .inr (.inr h1)
  have hg : g.part (fun _ => true) = g := by
    obtain ⟨rho, FP, ow⟩ := g
    simp only [Gh.part]
    congr 1
    funext b
    cases ow b with
    | none => rfl
    | some o =>
      have : hd (fun _ => true) o = false := by
        cases o with
        | plc p => cases p <;> rfl
        | _ => rfl
      exact pO_see this
  rwa [hg] at this

def plainF (x : PV) : Bool := x.isDead || (x.plain && !x.isOwn)

theorem stepD_sound {C : Ctx} {ops : Array Oper} {n j : Nat} {o : Oper} {s : DStep} {fz : Bool} {loc loc' : List (Nat × PV)} {σ σ' : List Bx} {ps : List Prop} (hW : WF C.P) (ho : ops[j]? = some o)
    (h : stepD C ops n o s fz loc σ = some (loc', σ', ps)) (hp : allP ps) : StepRuns C.P ops j o s.chg { ts := loc, n, σ } { ts := loc', n, σ := σ' } := by
  intro g a w K Q hi hK
  unfold stepD at h
  split at h
  · rename_i qs hw
    split at h
    · rename_i hkk
      split at h
      · rename_i st1 ps1 h1
        split at h
        · rename_i st2 h2
          injection h with h; injection h with e1 h; injection h with e2 e3
          subst e1; subst e2; subst e3
          obtain ⟨p1, p2⟩ := allP_append.1 hp
          unfold wpOp
          rw [ho]
          simp only
          rw [if_pos (wantH_sound hi hw p1)]
          refine .inl (opH_wp hW h1 p2 hi fun a' w' g' i1 i2 i3 i4 i5 => ?_)
          have hsz : st1.n = n := by
            obtain ⟨v, rfl⟩ := i4
            have e1 := i1.size
            have e2 : a.tmps.size = n := hi.size
            rw [put_tmps] at e1
            rw [← e1]
            cases o.dst <;> simp [putT, e2]
          have hbk : s.chg = false → BoxKeep g w w' := fun hc => i5 (by rw [hc] at hkk; simpa using hkk) (by rw [hc]; rfl)
          unfold freezeD at h2
          split at h2
          · rename_i d hd
            split at h2
            · rename_i x st3 hu
              obtain ⟨g2, j1, j2, j3, _, j5⟩ := use_sound i1 hu
              have hd' : d < st3.n := by
                simp only [St.setD] at h2
                split at h2
                · assumption
                · cases h2
              have k := setD_rel j1 h2 j3
              have hv : putT a'.tmps (some d) (evalV a'.tmps (.tmp d)) = a'.tmps := by
                simp only [putT, evalV]
                have hlt : d < a'.tmps.size := by rw [j1.size]; exact hd'
                exact setIf_self a'.tmps d _ (by rw [Array.getElem?_eq_getElem hlt]; simp [Array.getD_eq_getD_getElem?, Array.getElem?_eq_getElem hlt])
              rw [hv] at k
              have hn2 : st2.n = n := by rw [setD_n h2, j5, hsz]
              refine hK a' w' g2 ?_ (i2.trans j2) i3 i4 hbk
              rw [← hn2]; exact k
            · cases h2
          · injection h2 with h2; subst h2
            refine hK a' w' g' ?_ i2 i3 i4 hbk
            rw [← hsz]; exact i1
        · cases h
      · cases h
    · cases h
  · rename_i qs hw
    split at h
    · rename_i st1 h1
      injection h with h; injection h with e1 h; injection h with e2 e3
      subst e1; subst e2; subst e3
      unfold wpOp
      rw [ho]
      simp only
      rw [if_neg (by rw [wantH_sound hi hw hp]; simp)]
      have i1 := setD_rel hi h1 (.lit undef)
      have hn : st1.n = n := setD_n h1
      refine hK _ w g ?_ (Ext.refl _ _) (put_defers _ _ _) ⟨undef, rfl⟩ fun _ => .refl _ _
      rw [put_tmps, ← hn]; exact i1
    · cases h
  · cases h
end
end Go.AM
