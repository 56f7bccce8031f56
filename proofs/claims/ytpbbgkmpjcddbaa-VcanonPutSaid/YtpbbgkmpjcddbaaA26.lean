/- The abstract machine, 26: certificates of regions whose operations may run in more than one order. -/
import Derived.Test.YtpbbgkmpjcddbaaA25
set_option linter.all false
namespace Go.AM
noncomputable section

def delAll : List Nat → List (Nat × PV) → List (Nat × PV)
  | [], l => l
  | t :: r, l => delAll r (del l t)
theorem lkp_del_self (l : List (Nat × PV)) (t : Nat) : lkp (del l t) t = .dead := by
  induction l with
  | nil => rfl
  | cons p r ih =>
    obtain ⟨k, x⟩ := p
    simp only [del]
    cases e : Nat.beq k t with
    | true => exact ih
    | false => simp only [lkp, e]; exact ih
theorem lkp_delAll_ne {T : List Nat} : ∀ {l : List (Nat × PV)} {t : Nat}, t ∉ T → lkp (delAll T l) t = lkp l t := by
  induction T with
  | nil => intro l t _; rfl
  | cons u r ih =>
    intro l t h
    simp only [List.mem_cons, not_or] at h
    simp only [delAll]
    rw [ih h.2, lkp_del_ne l (Ne.symm h.1)]

/-- Which of the tmps that an operation touches it turns. -/
def turns (fz : List Nat) (s : DStep) (o : Oper) : List Nat := s.T.filter fun t => !fz.contains t || o.dst == some t

def loF (ops : Array Oper) (chg : Nat → Bool) (j : Nat) : Nat := cntTo (fun i => chg i && (decide (i < j) && bnd ops j i)) ops.size
def hiF (ops : Array Oper) (chg : Nat → Bool) (j : Nat) : Nat := cntTo (fun i => chg i && (!Nat.beq i j && !(decide (j < i) && bnd ops i j))) ops.size

def isFz (fz : List Nat) (o : Oper) : Bool :=
  match o.dst with
  | some d => fz.contains d
  | none => false
/-- The same, at other boxes. -/
def altsH (C : Ctx) (ops : Array Oper) (n : Nat) (o : Oper) (s : DStep) (fz : Bool) (loc loc' : List (Nat × PV)) (σs : Nat → List Bx) : List Nat → Option (List Prop)
  | [] => some []
  | m :: ms => match stepD C ops n o s fz loc (σs m), altsH C ops n o s fz loc loc' σs ms with
    | some (l1, σ1, ps), some qs => some (((pickL l1 s.T = pickL loc' s.T) :: eqO σ1 (σs (if s.chg then m + 1 else m))) ++ (ps ++ qs))
    | _, _ => none

def drawGo (C : Ctx) (ops : Array Oper) (n : Nat) (fz : List Nat) (chg : Nat → Bool) (σs : Nat → List Bx) : Nat → List Oper → List DStep → List (Nat × PV) → Option (List (List (Nat × PV)) × List Prop)
  | _, [], [], ts => some ([ts], [])
  | j, o :: os, s :: ss, ts =>
    match stepD C ops n o s (isFz fz o) (pickL ts s.T) (σs (loF ops chg j)) with
    | some (loc', σ', ps) => match altsH C ops n o s (isFz fz o) (pickL ts s.T) loc' σs ((List.range (hiF ops chg j - loF ops chg j)).map fun k => loF ops chg j + 1 + k) with
      | some qs => nrm (pickL loc' (turns fz s o) ++ delAll (turns fz s o) ts) fun ts' => (match drawGo C ops n fz chg σs (j + 1) os ss ts' with
        | some (tss, rs) => some (ts :: tss, (eqO σ' (σs (if s.chg then loF ops chg j + 1 else loF ops chg j)) ++ ps) ++ (qs ++ rs))
        | none => none)
      | none => none
    | none => none
  | _, _, _, _ => none

/-- What is known of each step. -/
structure StepF (C : Ctx) (ops : Array Oper) (n : Nat) (fz : List Nat) (chg : Nat → Bool) (σs : Nat → List Bx) (j : Nat) (o : Oper) (s : DStep) (ts ts' : List (Nat × PV)) : Prop where
  po : ∀ t, t ∉ turns fz s o → lkp ts' t = lkp ts t
  run : ∀ m, loF ops chg j ≤ m → m ≤ hiF ops chg j → loF ops chg j ≤ hiF ops chg j → ∃ loc σ', StepRuns C.P ops j o s.chg { ts := pickL ts s.T, n, σ := σs m } { ts := loc, n, σ := σ' } ∧ σ' = σs (if s.chg then m + 1 else m) ∧
    ∀ t, t ∈ turns fz s o → lkp ts' t = lkp loc t

theorem pickL_eq {l l' : List (Nat × PV)} {T : List Nat} (h : pickL l T = pickL l' T) {t : Nat} (ht : t ∈ T) : lkp l t = lkp l' t := by
  have h1 := lkp_pickL0 l T t
  have h2 := lkp_pickL0 l' T t
  rw [if_pos ht] at h1 h2
  rw [← h1, ← h2, h]

theorem altsH_ok {C : Ctx} {ops : Array Oper} {n j : Nat} {o : Oper} {s : DStep} {fz : Bool} {loc loc' : List (Nat × PV)} {σs : Nat → List Bx} (hW : WF C.P) (ho : ops[j]? = some o) : ∀ {ms : List Nat} {qs : List Prop}, altsH C ops n o s fz loc loc' σs ms = some qs → allP qs →
    ∀ m ∈ ms, ∃ l1 σ1, StepRuns C.P ops j o s.chg { ts := loc, n, σ := σs m } { ts := l1, n, σ := σ1 } ∧ σ1 = σs (if s.chg then m + 1 else m) ∧ ∀ t, t ∈ s.T → lkp loc' t = lkp l1 t := by
  intro ms
  induction ms with
  | nil => intro qs _ _ m hm; cases hm
  | cons m0 ms ih =>
    intro qs h hp m hm
    simp only [altsH] at h
    split at h
    · rename_i l1 σ1 ps qs' h1 h2
      injection h with h; subst h
      obtain ⟨p1, p2⟩ := allP_append.1 hp
      obtain ⟨p2, p3⟩ := allP_append.1 p2
      rcases List.mem_cons.1 hm with rfl | hm
      · exact ⟨l1, σ1, stepD_sound hW ho h1 p2, eqO_ok p1.2, fun t ht => (pickL_eq p1.1 ht).symm⟩
      · exact ih h2 p3 m hm
    · cases h

theorem drawGo_ok {C : Ctx} {ops : Array Oper} {n : Nat} {fz : List Nat} {chg : Nat → Bool} {σs : Nat → List Bx} (hW : WF C.P) : ∀ {os : List Oper} {ss : List DStep} {j : Nat} {ts : List (Nat × PV)} {tss : List (List (Nat × PV))} {ps : List Prop},
    (∀ k, os[k]? = ops[j + k]?) → drawGo C ops n fz chg σs j os ss ts = some (tss, ps) → allP ps →
    ss.length = os.length ∧ tss.length = os.length + 1 ∧ tss[0]? = some ts ∧ ∀ k o, os[k]? = some o → ∃ s, ss[k]? = some s ∧ StepF C ops n fz chg σs (j + k) o s (tss.getD k []) (tss.getD (k + 1) []) := by
  intro os
  induction os with
  | nil =>
    intro ss j ts tss ps _ h _
    cases ss with
    | nil =>
      injection h with h; injection h with h1 _; subst h1
      exact ⟨rfl, rfl, rfl, fun k o hk => by simp at hk⟩
    | cons s ss => simp [drawGo] at h
  | cons o os ih =>
    intro ss j ts tss ps hops h hp
    cases ss with
    | nil => simp [drawGo] at h
    | cons s ss =>
      simp only [drawGo] at h
      split at h
      · rename_i loc' σ' ps1 h1
        split at h
        · rename_i qs h2
          rw [nrm_eq] at h
          split at h
          · rename_i tss' rs h3
            injection h with h; injection h with e1 e2; subst e1; subst e2
            obtain ⟨p1, p2⟩ := allP_append.1 hp
            obtain ⟨p1, p1'⟩ := allP_append.1 p1
            obtain ⟨p2, p3⟩ := allP_append.1 p2
            have ho : ops[j]? = some o := by have := hops 0; simpa using this.symm
            obtain ⟨k1, k2, k3, k4⟩ := ih (fun k => by have := hops (k + 1); rw [show j + 1 + k = j + (k + 1) by omega]; simpa using this) h3 p3
            refine ⟨by simp [k1], by simp [k2], rfl, fun k o' hk => ?_⟩
            cases k with
            | zero =>
              have : o = o' := by simpa using hk
              subst this
              refine ⟨s, rfl, ?_⟩
              have hnew : (ts :: tss').getD (0 + 1) [] = pickL loc' (turns fz s o) ++ delAll (turns fz s o) ts := by
                simp only [Nat.zero_add, List.getD_cons_succ]
                rw [List.getD_eq_getElem?_getD, k3]; rfl
              rw [hnew]
              have hold : (ts :: tss').getD 0 [] = ts := rfl
              rw [hold, Nat.add_zero]
              refine ⟨fun t ht => ?_, fun m hm hm' _ => ?_⟩
              · rw [lkp_pickL, if_neg ht, lkp_delAll_ne ht]
              · rcases Nat.lt_or_ge (loF ops chg j) m with hlt | hge
                · obtain ⟨l1, σ1, r1, r2, r3⟩ := altsH_ok hW ho h2 p2 m (by
                    rw [List.mem_map]
                    exact ⟨m - (loF ops chg j + 1), by rw [List.mem_range]; omega, by omega⟩)
                  refine ⟨l1, σ1, r1, r2, fun t ht => ?_⟩
                  rw [lkp_pickL, if_pos ht]
                  exact r3 t (List.mem_filter.1 ht).1
                · have : m = loF ops chg j := by omega
                  subst this
                  refine ⟨loc', σ', stepD_sound hW ho h1 p1', eqO_ok p1, fun t ht => ?_⟩
                  rw [lkp_pickL, if_pos ht]
            | succ k =>
              obtain ⟨s', e1, e2⟩ := k4 k o' (by simpa using hk)
              refine ⟨s', by simpa using e1, ?_⟩
              rw [show j + (k + 1) = j + 1 + k by omega]
              simpa using e2
          · cases h
        · cases h
      · cases h

/-! ### The order is enough -/
def rootIn (T : List Nat) (x : PV) : Bool :=
  match x.root with
  | some (.tmp s) => T.contains s
  | _ => true
def allJ (m : Nat) (p : Nat → Bool) : Bool := (List.range m).all p
theorem allJ_ok {m : Nat} {p : Nat → Bool} (h : allJ m p = true) {j : Nat} (hj : j < m) : p j = true := List.all_eq_true.1 h j (List.mem_range.2 hj)

structure DV where
  tss : List (List (Nat × PV))
  Ts : List (List Nat)
  chgs : List Bool
  fz : List Nat
def DV.ts (v : DV) (j : Nat) : List (Nat × PV) := v.tss.getD j []
def DV.T (v : DV) (j : Nat) : List Nat := v.Ts.getD j []
def DV.chg (v : DV) (j : Nat) : Bool := v.chgs.getD j false
def DV.W (v : DV) (ops : Array Oper) (j t : Nat) : Bool := (v.T j).contains t && (!v.fz.contains t || dstOf ops j == some t)

def okDraw (ops : Array Oper) (v : DV) : Bool :=
  allJ ops.size (fun j => match ops[j]? with
    | some o => o.after.toList.all fun e => !Region.binds .any e || Nat.blt e.on j
    | none => true) &&
  (allJ ops.size (fun j => allJ j fun i => (v.T i).all fun t => !((v.T j).contains t && (v.W ops i t || v.W ops j t)) || bnd ops j i) &&
  (allJ ops.size (fun j => (v.T j).all fun t => rootIn (v.T j) (lkp (v.ts j) t) && rootIn (v.T j) (lkp (v.ts (j + 1)) t)) &&
  (allJ (ops.size + 1) (fun i => (v.ts i).all fun p => match p.2.root with
    | some (.tmp s) => !v.fz.contains s && allJ ops.size fun j => !(Nat.ble i j && (v.T j).contains s) || (v.T j).contains p.1
    | some (.cell _ _) => allJ ops.size fun j => !(Nat.ble i j && v.chg j) || (v.T j).contains p.1
    | none => true) &&
  (allJ ops.size (fun j => !v.chg j || allJ ops.size fun k => !Nat.blt j k || (v.T k).all fun t => match (lkp (v.ts (k + 1)) t).root with
    | some (.cell _ _) => bnd ops k j
    | _ => true) &&
  (allJ ops.size (fun j => allJ j fun i => !(v.chg i && v.chg j) || bnd ops j i) &&
  (allJ ops.size (fun j => match dstOf ops j with
    | some d => (v.T j).contains d
    | none => true) &&
  allJ ops.size (fun j => (v.T j).all fun t => !v.fz.contains t || plainF (lkp (v.ts j) t))))))))

theorem lkp_mem (l : List (Nat × PV)) (t : Nat) : lkp l t = .dead ∨ (t, lkp l t) ∈ l := by
  induction l with
  | nil => exact .inl rfl
  | cons p r ih =>
    obtain ⟨k, x⟩ := p
    simp only [lkp]
    cases e : Nat.beq k t with
    | true => right; rw [Nat.eq_of_beq_eq_true e]; exact List.mem_cons_self
    | false =>
      rcases ih with h | h
      · exact .inl h
      · exact .inr (List.mem_cons_of_mem _ h)

theorem draw_ok {C : Ctx} {ops : Array Oper} {n : Nat} {fz : List Nat} {σs : Nat → List Bx} {ss : List DStep} {ts : List (Nat × PV)} {tss : List (List (Nat × PV))} {ps : List Prop} (hW : WF C.P)
    (h : drawGo C ops n fz (fun j => (ss.map (·.chg)).getD j false) σs 0 ops.toList ss ts = some (tss, ps)) (hp : allP ps) (hok : okDraw ops { tss, Ts := ss.map (·.T), chgs := ss.map (·.chg), fz } = true) :
    Draw.Ok { ts := fun j => tss.getD j [], T := fun j => (ss.map (·.T)).getD j [], σs, chg := fun j => (ss.map (·.chg)).getD j false, fz := fun t => fz.contains t } C.P ops n := by
  obtain ⟨l1, l2, l3, l4⟩ := drawGo_ok hW (fun k => by simp) h hp
  have hst : ∀ j o, ops[j]? = some o → ∃ s, ss[j]? = some s ∧ StepF C ops n fz (fun j => (ss.map (·.chg)).getD j false) σs j o s (tss.getD j []) (tss.getD (j + 1) []) := fun j o ho => by
    obtain ⟨s, e1, e2⟩ := l4 j o (by simpa using ho)
    rw [Nat.zero_add] at e2
    exact ⟨s, e1, e2⟩
  have hT : ∀ {j s}, ss[j]? = some s → (ss.map (·.T)).getD j [] = s.T := fun {j s} e => by
    rw [List.getD_eq_getElem?_getD, List.getElem?_map, e]; rfl
  have hC : ∀ {j s}, ss[j]? = some s → (ss.map (·.chg)).getD j false = s.chg := fun {j s} e => by
    rw [List.getD_eq_getElem?_getD, List.getElem?_map, e]; rfl
  simp only [okDraw, Bool.and_eq_true] at hok
  obtain ⟨o1, o2, o3, o4, o5, o6, o7, o8⟩ := hok
  have hdst : ∀ {j o}, ops[j]? = some o → dstOf ops j = o.dst := fun {j o} ho => by simp [dstOf, ho]
  have hturn : ∀ {j o s t}, ops[j]? = some o → ss[j]? = some s → (Draw.W { ts := fun j => tss.getD j [], T := fun j => (ss.map (·.T)).getD j [], σs, chg := fun j => (ss.map (·.chg)).getD j false, fz := fun t => fz.contains t } ops j t = true ↔ t ∈ turns fz s o) := fun {j o s t} ho hs => by
    simp only [Draw.W, hT hs, hdst ho, turns, List.mem_filter, Bool.and_eq_true, List.contains_iff_mem]
  exact
  { E := fun j o ho e he hb => by
      have := allJ_ok o1 (j := j) (Array.getElem?_eq_some_iff.1 ho).1
      rw [ho] at this
      simp only at this
      have := List.all_eq_true.1 this e (by simpa using he)
      rw [hb] at this
      simpa [Nat.blt_eq] using this
    OC := fun i j t hij hj h1 h2 h3 => by
      have := allJ_ok (allJ_ok o2 hj) hij
      have := List.all_eq_true.1 this t h1
      simp only [Bool.or_eq_true, Bool.not_eq_true', Bool.and_eq_false_iff] at this
      rcases this with (this | this) | this
      · have h2' : (ss.map (·.T)).getD j [] |>.contains t := by simpa using h2
        exact absurd h2' (by simpa [DV.T] using this)
      · rcases h3 with h3 | h3
        · have := this; simp only [Bool.or_eq_false_iff] at this
          exact absurd h3 (by simpa [DV.W, Draw.W, DV.T] using this.1)
        · have := this; simp only [Bool.or_eq_false_iff] at this
          exact absurd h3 (by simpa [DV.W, Draw.W, DV.T] using this.2)
      · exact this
    PO := fun j t hj hw => by
      have ho := Array.getElem?_eq_getElem hj
      obtain ⟨s, e1, e2⟩ := hst j _ ho
      exact e2.po t fun hm => by
        rw [(hturn ho e1).2 hm] at hw; cases hw
    RC := fun j t s hj ht hr => by
      have := List.all_eq_true.1 (allJ_ok o3 hj) t ht
      simp only [Bool.and_eq_true] at this
      rcases hr with hr | hr
      · have h1 := this.1
        unfold rootIn at h1
        rw [show (lkp (DV.ts { tss, Ts := ss.map (·.T), chgs := ss.map (·.chg), fz } j) t).root = some (.tmp s) from hr] at h1
        simpa [DV.T] using h1
      · have h1 := this.2
        unfold rootIn at h1
        rw [show (lkp (DV.ts { tss, Ts := ss.map (·.T), chgs := ss.map (·.chg), fz } (j + 1)) t).root = some (.tmp s) from hr] at h1
        simpa [DV.T] using h1
    FC := fun i t s hi hr => by
      rcases lkp_mem (tss.getD i []) t with h1 | h1
      · have hr : (lkp (tss.getD i []) t).root = some (.tmp s) := hr
        rw [h1] at hr; cases hr
      · have := List.all_eq_true.1 (allJ_ok o4 (j := i) (by omega)) _ h1
        have hr : (lkp (tss.getD i []) t).root = some (.tmp s) := hr
        simp only [hr, Bool.and_eq_true, Bool.not_eq_true'] at this
        exact this.1
    AC := fun i j t s hij hj hr hs => by
      have hr : (lkp (tss.getD i []) t).root = some (.tmp s) := hr
      rcases lkp_mem (tss.getD i []) t with h1 | h1
      · rw [h1] at hr; cases hr
      · have := List.all_eq_true.1 (allJ_ok o4 (j := i) (by omega)) _ h1
        simp only [hr, Bool.and_eq_true] at this
        have := allJ_ok this.2 hj
        simp only [Bool.or_eq_true, Bool.not_eq_true', Bool.and_eq_false_iff] at this
        rcases this with (this | this) | this
        · exact absurd (Nat.ble_eq_true_of_le hij) (by rw [this]; simp)
        · have hs' : ((ss.map (·.T)).getD j []).contains s = true := by simpa using hs
          exact absurd hs' (by simpa [DV.T] using this)
        · simpa [DV.T] using this
    CC := fun i j t id off hij hj hc hr => by
      have hr : (lkp (tss.getD i []) t).root = some (.cell id off) := hr
      rcases lkp_mem (tss.getD i []) t with h1 | h1
      · rw [h1] at hr; cases hr
      · have := List.all_eq_true.1 (allJ_ok o4 (j := i) (by omega)) _ h1
        simp only [hr] at this
        have := allJ_ok this hj
        simp only [Bool.or_eq_true, Bool.not_eq_true', Bool.and_eq_false_iff] at this
        rcases this with (this | this) | this
        · exact absurd (Nat.ble_eq_true_of_le hij) (by rw [this]; simp)
        · have hc' : (ss.map (·.chg)).getD j false = true := hc
          have h2 : (ss.map (·.chg)).getD j false = false := this
          rw [hc'] at h2; cases h2
        · simpa [DV.T] using this
    CD := fun j k t id off hjk hk hc ht hr => by
      have := allJ_ok o5 (j := j) (by omega)
      simp only [Bool.or_eq_true, Bool.not_eq_true'] at this
      rcases this with this | this
      · have hc' : (ss.map (·.chg)).getD j false = true := hc
        have h2 : (ss.map (·.chg)).getD j false = false := this
        rw [hc'] at h2; cases h2
      · have := allJ_ok this hk
        simp only [Bool.or_eq_true, Bool.not_eq_true'] at this
        rcases this with this | this
        · exact absurd hjk (by
            intro hlt
            have h3 : Nat.blt j k = true := by simpa [Nat.blt_eq] using hlt
            rw [this] at h3; cases h3)
        · have := List.all_eq_true.1 this t ht
          rw [show (lkp (DV.ts { tss, Ts := ss.map (·.T), chgs := ss.map (·.chg), fz } (k + 1)) t).root = some (.cell id off) from hr] at this
          exact this
    SC := fun i j hij hj h1 h2 => by
      have := allJ_ok (allJ_ok o6 hj) hij
      simp only [Bool.or_eq_true, Bool.not_eq_true', Bool.and_eq_false_iff] at this
      rcases this with (this | this) | this
      · have h1' : (ss.map (·.chg)).getD i false = true := h1
        have h3 : (ss.map (·.chg)).getD i false = false := this
        rw [h1'] at h3; cases h3
      · have h1' : (ss.map (·.chg)).getD j false = true := h2
        have h3 : (ss.map (·.chg)).getD j false = false := this
        rw [h1'] at h3; cases h3
      · exact this
    DT := fun j d hd => by
      have hj : j < ops.size := by
        unfold dstOf at hd
        split at hd
        · rename_i o ho; exact (Array.getElem?_eq_some_iff.1 ho).1
        · cases hd
      have := allJ_ok o7 hj
      rw [hd] at this
      simpa [DV.T] using this
    H := fun j o ho m hm hm' => by
      obtain ⟨s, e1, e2⟩ := hst j o ho
      have hj : j < ops.size := (Array.getElem?_eq_some_iff.1 ho).1
      obtain ⟨loc, σ', r1, r2, r3⟩ := e2.run m hm hm' (Nat.le_trans hm hm')
      intro g a w K Q hi hK
      have hTs := hT e1
      have hCs := hC e1
      simp only [hTs, hCs] at hi hK ⊢
      refine r1 hi fun a' w' g' i1 i2 i3 i4 i5 => hK a' w' g' ?_ i2 i3 i4 i5
      subst r2
      refine i1.reTs fun t ht => ?_
      rw [lkp_pickL0]
      by_cases htT : t ∈ s.T
      · rw [if_pos htT]
        by_cases htt : t ∈ turns fz s o
        · right; left
          refine ⟨r3 t htt, fun s' hs' => ?_⟩
          rw [← r3 t htt] at hs'
          have hin : s' ∈ s.T := by
            have := List.all_eq_true.1 (allJ_ok o3 hj) t (show t ∈ (ss.map (·.T)).getD j [] by rw [hTs]; exact htT)
            simp only [Bool.and_eq_true] at this
            have h1 := this.2
            unfold rootIn at h1
            rw [show (lkp (DV.ts { tss, Ts := ss.map (·.T), chgs := ss.map (·.chg), fz } (j + 1)) t).root = some (.tmp s') from hs'] at h1
            have h1' : ((ss.map (·.T)).getD j []).contains s' = true := h1
            rw [hTs] at h1'
            simpa using h1'
          have hnf : fz.contains s' = false := by
            rcases lkp_mem (tss.getD (j + 1) []) t with h1 | h1
            · rw [h1] at hs'; cases hs'
            · have := List.all_eq_true.1 (allJ_ok o4 (j := j + 1) (by omega)) _ h1
              simp only [hs', Bool.and_eq_true, Bool.not_eq_true'] at this
              exact this.1
          have htt' : s' ∈ turns fz s o := by
            simp only [turns, List.mem_filter, hnf, Bool.not_false, Bool.true_or, and_true]
            exact hin
          rw [lkp_pickL0, if_pos hin]
          exact r3 s' htt'
        · -- a frozen one stays as it was
          have hfz : fz.contains t = true := by
            cases hf : fz.contains t with
            | true => rfl
            | false => exact absurd (by simp only [turns, List.mem_filter, hf, Bool.not_false, Bool.true_or, and_true]; exact htT) htt
          have hnd : o.dst ≠ some t := fun e => htt (by simp only [turns, List.mem_filter, e]; exact ⟨htT, by simp⟩)
          rw [e2.po t htt]
          have := List.all_eq_true.1 (allJ_ok o8 hj) t (show t ∈ (ss.map (·.T)).getD j [] by rw [hTs]; exact htT)
          rw [hfz] at this
          simp only [Bool.not_true, Bool.false_or, plainF, Bool.or_eq_true, Bool.and_eq_true, Bool.not_eq_true'] at this
          rcases this with hdead | ⟨hpl, hno⟩
          · left
            have : lkp (tss.getD j []) t = .dead := by
              have hd' : (lkp (tss.getD j []) t).isDead = true := hdead
              cases hx : lkp (tss.getD j []) t <;> rw [hx] at hd' <;> first | rfl | cases hd'
            exact this
          · right; right
            have hpl' : (lkp (tss.getD j []) t).plain = true := hpl
            have hno' : (lkp (tss.getD j []) t).isOwn = false := hno
            obtain ⟨v, hv, hs⟩ := hi.slot t (lkp (tss.getD j []) t) (by
              simp only [St.get]
              rw [if_pos ht, lkp_pickL0, if_pos htT])
            refine ⟨v, ?_, ?_, hpl'⟩
            · obtain ⟨u, rfl⟩ := i4
              rw [put_tmps]
              cases hd' : o.dst with
              | none => exact hv
              | some d =>
                simp only [putT]
                rw [Array.getElem?_setIfInBounds_ne (by rintro rfl; exact hnd hd')]
                exact hv
            · refine Rel.ext i2 (slot_rel hs hno' ?_ ?_)
              · cases hx : lkp (tss.getD j []) t <;> rw [hx] at hpl' <;> first | rfl | simp [PV.plain] at hpl'
              · intro hx; rw [hx] at hpl'; simp [PV.plain] at hpl'
      · left; rw [if_neg htT] }
end
end Go.AM
