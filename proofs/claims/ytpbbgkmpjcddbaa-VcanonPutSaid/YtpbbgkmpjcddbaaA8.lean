/- The abstract machine, 8: operands. -/
import Derived.Test.YtpbbgkmpjcddbaaA7
set_option linter.all false
namespace Go.AM

def putT (vs : Array Value) (d : Option Tmp) (v : Value) : Array Value :=
  match d with
  | some d => vs.setIfInBounds d v
  | none => vs
theorem put_tmps (a : Act) (d : Option Tmp) (v : Value) : (a.put d v).tmps = putT a.tmps d v := by cases d <;> rfl
theorem put_defers (a : Act) (d : Option Tmp) (v : Value) : (a.put d v).defers = a.defers := by cases d <;> rfl

def evalV (vs : Array Value) : Operand → Value
  | .tmp t => vs.getD t undef
  | .const v => v
  | .global g => .pointer (some ⟨g, 0, none⟩)
  | .func f => .func (.func f) #[] #[]
theorem eval_eq (a : Act) : a.eval = evalV a.tmps := by funext o; cases o <;> rfl

theorem Rel.plain {g : Gh} {w : World} {x : PV} {v : Value} (h : Rel g w x v) : x.plain = true := by
  cases h <;> first | rfl | simp [PV.plain, Flag.isOwn]

theorem rel_const1 (g : Gh) (w : World) (v : Value) : Rel g w (const1 v) v := by
  unfold const1
  split
  · exact .slnil _
  · exact .nilp
  · exact .lit _

theorem rel_constPV (g : Gh) (w : World) (v : Value) : Rel g w (constPV v) v := by
  unfold constPV
  split
  · exact .slnil _
  · exact .nilp
  · rename_i cs
    refine .agg _ _ (by simp) fun i hi hv => ?_
    simp only [List.getElem_map]
    have : cs.toList[i]'(by simpa using hv) = cs[i] := by simp
    rw [this]
    exact rel_const1 g w _
  · exact .lit _

theorem lit?_rel {g : Gh} {w : World} {x : PV} {u v : Value} (h : x.lit? = some u) (hr : Rel g w x v) : v = u := by
  unfold PV.lit? at h
  split at h
  · injection h with h; subst h; cases hr; rfl
  · injection h with h; subst h; cases hr; rfl
  · injection h with h; subst h; cases hr; rfl
  · cases h

theorem lits_rel {g : Gh} {w : World} : ∀ {xs : List PV} {us : List Value} {vs : List Value}, lits xs = some us → vs.length = xs.length →
    (∀ i (hi : i < xs.length) (hv : i < vs.length), Rel g w xs[i] vs[i]) → vs = us := by
  intro xs
  induction xs with
  | nil => intro us vs h hl _; simp [lits] at h; subst h; exact List.eq_nil_of_length_eq_zero hl
  | cons x xs ih =>
    intro us vs h hl hr
    simp only [lits] at h
    split at h
    · rename_i u us' h1 h2
      injection h with h
      subst h
      cases vs with
      | nil => simp at hl
      | cons v vs =>
        have e1 : v = u := lit?_rel h1 (hr 0 (by simp) (by simp))
        have e2 : vs = us' := ih h2 (by simpa using hl) fun i hi hv => hr (i + 1) (by simpa using hi) (by simpa using hv)
        rw [e1, e2]
    · cases h

theorem val_rel {g : Gh} {w : World} {x : PV} {u v : Value} (h : x.val = some u) (hr : Rel g w x v) : v = u := by
  unfold PV.val at h
  split at h
  · rename_i cs
    split at h
    · rename_i us hl
      injection h with h
      subst h
      cases hr with
      | agg _ vs hlen hrel =>
        have := lits_rel hl (vs := vs.toList) (by simpa using hlen) fun i hi hv => by
          have := hrel i hi (by simpa using hv)
          simpa using this
        rw [← this]
    · cases h
  · exact lit?_rel h hr

/-- How a slice reads. -/
def ReadSl (g : Gh) (w : World) (n : Bool) (xs : List (List PV)) (v : Value) : Prop :=
  (xs = [] ∧ v = .slice none 0 0) ∨
  (n = false ∧ ∃ b o cap s, v = .slice (some ⟨b, o, none⟩) xs.length cap ∧ xs.length ≤ cap ∧ Elems g w b o s xs)

theorem Elems.of_fp {g : Gh} {w : World} {b o s : Nat} {xs : List (List PV)} {vals : Nat → Nat → Value} (hlen : ∀ i, (h : i < xs.length) → xs[i].length = s)
    (hfp : ∀ i j, i < xs.length → j < s → g.FP b (o + i * s + j) ∧ w.cell? ⟨b, o + i * s + j, none⟩ = some (vals i j))
    (hrel : ∀ i j (hi : i < xs.length) (hj : j < xs[i].length), Rel g w xs[i][j] (vals i j)) : Elems g w b o s xs :=
  ⟨hlen, fun i j hi hj => ⟨_, (hfp i j hi (by rw [← hlen i hi]; exact hj)).2, hrel i j hi hj⟩⟩

theorem slot_sl {P : Program} {st : St} {g : Gh} {vs : Array Value} {w : World} {p : Plc} {fl : Flag} {n : Bool} {xs : List (List PV)} {v : Value} (h : Slot P st g vs w p (.sl fl n xs) v) : ReadSl g w n xs v := by
  have key : ∀ ex e, OwnOk P g w p ex e n xs v → ReadSl g w n xs v := by
    rintro ex e (h | ⟨hn, b, cap, hv, hb⟩)
    · exact .inl h
    · exact .inr ⟨hn, b, 0, cap, _, hv, hb.hcap, hb.el⟩
  cases fl with
  | own e => exact key _ _ h
  | excl e => exact key _ _ h
  | view =>
    have h : Rel g w (.sl .view n xs) v := h
    cases h with
    | slnil => exact .inl ⟨rfl, rfl⟩
    | slz => exact .inl ⟨rfl, rfl⟩
    | slv _ b o cap s vals hcap hlen hfp hrel => exact .inr ⟨rfl, b, o, cap, s, rfl, hcap, .of_fp hlen hfp hrel⟩

theorem contentAt_real {P : Program} {st : St} {g : Gh} {vs : Array Value} {w : World} (h : Inv P g st vs w) {p : Plc} {x : PV} (hc : contentAt st p = some x) : ∃ v, realAt g vs w p = some v ∧ Slot P st g vs w p x v := by
  cases p with
  | tmp t => exact h.slot t x hc
  | cell id off =>
    simp only [contentAt] at hc
    split at hc
    · rename_i ty cs hσ
      have hid : id < g.rho.length := by rw [h.rlen]; exact (List.getElem?_eq_some_iff.1 hσ).1
      obtain ⟨c, fz, hb, _, _, hx⟩ := h.box id ty cs _ hσ (List.getElem?_eq_getElem hid)
      obtain ⟨_, v, hv, hs⟩ := hx off _ hc
      refine ⟨v, ?_, hs⟩
      simp only [realAt, List.getElem?_eq_getElem hid, World.cell?, hb]
      simpa using hv
    · cases hc

theorem evalV_tmp {vs : Array Value} {t : Nat} {v : Value} (h : vs[t]? = some v) : evalV vs (.tmp t) = v := by
  simp [evalV, Array.getD_eq_getD_getElem?, h]

/-- Whatever is looked at stands as some slot does. -/
theorem peek_slot {P : Program} {st : St} {g : Gh} {vs : Array Value} {w : World} (h : Inv P g st vs w) {o : Operand} {x : PV} (hp : st.peek o = some x) : ∃ p, Slot P st g vs w p x (evalV vs o) := by
  cases o with
  | tmp t =>
    simp only [St.peek] at hp
    split at hp
    · rename_i q hq
      obtain ⟨v, hv, hs⟩ := h.slot t _ hq
      obtain ⟨u, hu, hs'⟩ := contentAt_real h hp
      obtain ⟨_, hreal⟩ := hs
      rw [hreal] at hu
      injection hu with hu
      subst hu
      exact ⟨q, by rw [evalV_tmp hv]; exact hs'⟩
    · obtain ⟨v, hv, hs⟩ := h.slot t _ hp
      exact ⟨.tmp t, by rw [evalV_tmp hv]; exact hs⟩
  | const v => injection hp with hp; subst hp; exact ⟨.tmp 0, slot_of_rel (rel_constPV g w v) (rel_constPV g w v).plain⟩
  | func f =>
    injection hp with hp; subst hp
    exact ⟨.tmp 0, Rel.fn _ [] [] #[] #[] rfl rfl (fun _ hi => by simp at hi) (fun _ hi => by simp at hi)⟩
  | global _ => cases hp

theorem int_val {P : Program} {st : St} {g : Gh} {vs : Array Value} {w : World} (h : Inv P g st vs w) {o : Operand} {n : Int} (hp : st.int o = some n) : ∃ k, evalV vs o = .int k n := by
  simp only [St.int] at hp
  split at hp
  · rename_i k m hx
    injection hp with hp
    subst hp
    obtain ⟨p, hs⟩ := peek_slot h hx
    have hs : Rel g w _ _ := hs
    refine ⟨k, ?_⟩
    generalize evalV vs o = u at hs
    cases hs
    rfl
  · cases hp
theorem bool_val {P : Program} {st : St} {g : Gh} {vs : Array Value} {w : World} (h : Inv P g st vs w) {o : Operand} {b : Bool} (hp : st.bool o = some b) : evalV vs o = .bool b := by
  simp only [St.bool] at hp
  split at hp
  · rename_i m hx
    injection hp with hp
    subst hp
    obtain ⟨p, hs⟩ := peek_slot h hx
    have hs : Rel g w _ _ := hs
    generalize evalV vs o = u at hs
    cases hs
    rfl
  · cases hp

theorem slot_rel {P : Program} {st : St} {g : Gh} {vs : Array Value} {w : World} {p : Plc} {x : PV} {v : Value} (h : Slot P st g vs w p x v) (ho : x.isOwn = false) (ha : x.noAl = true) (hd : x ≠ .dead) : Rel g w x v := by
  cases x with
  | sl fl n xs =>
    cases fl with
    | view => exact h
    | own e => simp [PV.isOwn, Flag.isOwn] at ho
    | excl e => simp [PV.isOwn, Flag.isOwn] at ho
  | alias _ => simp [PV.noAl] at ha
  | elem _ _ _ => simp [PV.noAl] at ha
  | dead => exact absurd rfl hd
  | _ => exact h

theorem val_slot {P : Program} {st : St} {g : Gh} {vs : Array Value} {w : World} {p : Plc} {x : PV} {u v : Value} (h : x.val = some u) (hs : Slot P st g vs w p x v) : v = u := by
  by_cases ho : x.isOwn = true
  · cases x with
    | sl fl n xs =>
      have hr := slot_sl hs
      cases n with
      | false => simp [PV.val, PV.lit?] at h
      | true =>
        cases xs with
        | cons y ys => simp [PV.val, PV.lit?] at h
        | nil =>
          simp only [PV.val, PV.lit?, Option.some.injEq] at h
          rcases hr with ⟨_, hv⟩ | ⟨hn, _⟩
          · rw [hv, h]
          · cases hn
    | _ => simp [PV.isOwn] at ho
  · refine val_rel h (slot_rel hs (by simpa using ho) ?_ ?_)
    · cases x <;> first | rfl | simp [PV.val, PV.lit?] at h
    · rintro rfl; simp [PV.val, PV.lit?] at h

theorem putP_share_n {st : St} {p : Plc} {x : PV} : (st.putP p x).n = st.n := by cases p <;> rfl

theorem useP_sound {P : Program} {st st1 : St} {g : Gh} {vs : Array Value} {w : World} (h : Inv P g st vs w) {p : Plc} {x : PV} (hu : st.useP p = some (x, st1)) :
    ∃ g' v, Inv P g' st1 vs w ∧ Ext g g' w w ∧ realAt g vs w p = some v ∧ Rel g' w x v ∧ g'.rho = g.rho ∧ st1.n = st.n := by
  unfold St.useP at hu
  split at hu
  · rename_i fl xs hc
    split at hu
    · rename_i ho
      injection hu with hu
      injection hu with h1 h2
      subst h1; subst h2
      obtain ⟨g', v, k1, k2, k3, k4, k5⟩ := h.share hc ho
      obtain ⟨v', hv', _⟩ := contentAt_real h hc
      refine ⟨g', v, k1, k2, ?_, k4, k5, putP_share_n⟩
      rw [← k3]
      cases p with
      | tmp t => rfl
      | cell id off => simp only [realAt, k5]
    · rename_i ho
      injection hu with hu
      injection hu with h1 h2
      subst h1; subst h2
      obtain ⟨v, hv, hs⟩ := contentAt_real h hc
      exact ⟨g, v, h, Ext.refl _ _, hv, slot_rel hs (by simpa [PV.isOwn] using ho) rfl (by simp), rfl, rfl⟩
  · rename_i fl xs hc
    injection hu with hu
    injection hu with h1 h2
    subst h1; subst h2
    obtain ⟨v, hv, hs⟩ := contentAt_real h hc
    have := slot_sl hs
    rcases this with ⟨_, e⟩ | ⟨e, _⟩
    · subst e
      exact ⟨g, _, h, Ext.refl _ _, hv, .slnil _, rfl, rfl⟩
    · cases e
  · cases hu
  · cases hu
  · cases hu
  · rename_i y n1 n2 n3 n4 n5 hc
    injection hu with hu
    injection hu with h1 h2
    subst h1; subst h2
    obtain ⟨v, hv, hs⟩ := contentAt_real h hc
    refine ⟨g, v, h, Ext.refl _ _, hv, slot_rel hs ?_ ?_ ?_, rfl, rfl⟩
    · cases y with
      | sl fl n xs =>
        cases n with
        | true => exact absurd rfl (n2 fl xs)
        | false => exact absurd rfl (n1 fl xs)
      | _ => rfl
    · cases y with
      | alias q => exact absurd rfl (n4 q)
      | elem q k off => exact absurd rfl (n5 q k off)
      | _ => rfl
    · rintro rfl; exact n3 rfl
  · cases hu

theorem use_sound {P : Program} {st st1 : St} {g : Gh} {vs : Array Value} {w : World} (h : Inv P g st vs w) {o : Operand} {x : PV} (hu : st.use o = some (x, st1)) :
    ∃ g', Inv P g' st1 vs w ∧ Ext g g' w w ∧ Rel g' w x (evalV vs o) ∧ g'.rho = g.rho ∧ st1.n = st.n := by
  cases o with
  | tmp t =>
    simp only [St.use] at hu
    split at hu
    · rename_i q hq
      obtain ⟨g', v, k1, k2, k3, k4, k5⟩ := useP_sound h hu
      obtain ⟨v', hv', hs⟩ := h.slot t _ hq
      obtain ⟨_, hreal⟩ := hs
      rw [hreal] at k3
      injection k3 with k3
      subst k3
      exact ⟨g', k1, k2, by rw [evalV_tmp hv']; exact k4, k5⟩
    · obtain ⟨g', v, k1, k2, k3, k4, k5⟩ := useP_sound h hu
      exact ⟨g', k1, k2, by rw [evalV_tmp k3]; exact k4, k5⟩
  | const v =>
    injection hu with hu
    injection hu with h1 h2
    subst h1; subst h2
    exact ⟨g, h, Ext.refl _ _, rel_constPV g w v, rfl, rfl⟩
  | func f =>
    injection hu with hu
    injection hu with h1 h2
    subst h1; subst h2
    exact ⟨g, h, Ext.refl _ _, Rel.fn _ [] [] #[] #[] rfl rfl (fun _ hi => by simp at hi) (fun _ hi => by simp at hi), rfl, rfl⟩
  | global _ => cases hu

theorem setD_rel {P : Program} {st st' : St} {g : Gh} {vs : Array Value} {w : World} (h : Inv P g st vs w) {d : Option Tmp} {x : PV} {v : Value} (hs : st.setD d x = some st') (hr : Rel g w x v) : Inv P g st' (putT vs d v) w := by
  cases d with
  | none => injection hs with hs; subst hs; exact h
  | some d =>
    simp only [St.setD] at hs
    split at hs
    · rename_i hd
      injection hs with hs
      subst hs
      exact h.setRel hd hr.plain hr
    · cases hs

theorem plc_slot {P : Program} {st : St} {g : Gh} {vs : Array Value} {w : World} (h : Inv P g st vs w) {o : Operand} {q : Plc} (hp : st.plc o = some q) :
    ∃ fl n xs, contentAt st q = some (.sl fl n xs) ∧ fl.isOwn = true ∧ realAt g vs w q = some (evalV vs o) ∧ st.peek o = some (.sl fl n xs) := by
  cases o with
  | tmp t =>
    simp only [St.plc] at hp
    split at hp
    · rename_i q' hq
      injection hp with hp
      subst hp
      obtain ⟨v, hv, ⟨fl, n, xs, k1, k2⟩, k3⟩ := h.slot t _ hq
      exact ⟨fl, n, xs, k1, k2, by rw [evalV_tmp hv]; exact k3, by simp only [St.peek, hq]; exact k1⟩
    · rename_i fl n xs hq
      split at hp
      · rename_i ho
        injection hp with hp
        subst hp
        obtain ⟨v, hv, hs⟩ := h.slot t _ hq
        exact ⟨fl, n, xs, hq, ho, by rw [evalV_tmp hv]; exact hv, by simp only [St.peek, hq]⟩
      · cases hp
    · cases hp
  | const _ => cases hp
  | func _ => cases hp
  | global _ => cases hp

end Go.AM
