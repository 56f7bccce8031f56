/- The abstract machine, 18d: what is forgotten behind a region; code. -/
import Derived.Test.YtpbbgkmpjcddbaaA18c
set_option linter.all false
namespace Go.AM

theorem Inv.freeze {P : Program} {vs : Array Value} {w : World} : ∀ (l : List Nat) {st : St} {g : Gh}, Inv P g st vs w → ∃ g', Inv P g' (St.freeze l st) vs w ∧ Ext g g' w w := by
  intro l
  induction l with
  | nil => intro st g h; exact ⟨g, h, Ext.refl _ _⟩
  | cons t r ih =>
    intro st g h
    simp only [St.freeze]
    split
    · rename_i x st1 hu
      obtain ⟨g1, i1, i2, i3, i4, i5⟩ := use_sound h hu
      split
      · rename_i st2 hs
        have ht : t < st1.n := by
          simp only [St.setD] at hs
          split at hs
          · assumption
          · cases hs
        have k := setD_rel i1 hs i3
        have hv : putT vs (some t) (evalV vs (.tmp t)) = vs := by
          simp only [putT, evalV]
          have hlt : t < vs.size := by rw [i1.size]; exact ht
          exact setIf_self vs t _ (by rw [Array.getElem?_eq_getElem hlt]; simp [Array.getD_eq_getD_getElem?, Array.getElem?_eq_getElem hlt])
        rw [hv] at k
        obtain ⟨g2, j1, j2⟩ := ih k
        exact ⟨g2, j1, i2.trans j2⟩
      · obtain ⟨g2, j1, j2⟩ := ih i1
        exact ⟨g2, j1, i2.trans j2⟩
    · exact ih h

theorem Inv.renil {P : Program} {vs : Array Value} {w : World} {g : Gh} : ∀ (l : List (Plc × TypeId)) {st : St}, Inv P g st vs w → Inv P g (St.renil l st) vs w := by
  intro l
  induction l with
  | nil => intro st h; exact h
  | cons q r ih =>
    obtain ⟨p, e⟩ := q
    intro st h
    simp only [St.renil]
    split
    · rename_i fl xs hc
      refine ih ?_
      obtain ⟨v, hv, hs⟩ := contentAt_real h hc
      have hvn : v = .slice none 0 0 := by
        rcases slot_sl hs with ⟨_, h1⟩ | ⟨h1, _⟩
        · exact h1
        · cases h1
      subst hvn
      have hnew : ∀ st' vs' w', Slot P st' g vs' w' p (.sl (.excl e) false []) (.slice none 0 0) := fun _ _ _ => .inl ⟨rfl, rfl⟩
      cases p with
      | tmp t =>
        have ht : t < st.n := get_lt hc
        have k := h.setPlain ht (hnew _ _ _)
        rwa [setIf_self vs t _ hv] at k
      | cell id off =>
        have hc' := hc
        simp only [contentAt] at hc'
        split at hc'
        · rename_i ty cs hσ
          have hid : id < g.rho.length := by rw [h.rlen]; exact (List.getElem?_eq_some_iff.1 hσ).1
          have hr : g.rho[id]? = some g.rho[id] := List.getElem?_eq_getElem hid
          obtain ⟨c, fz, hb, _, hsz, hx⟩ := h.box id ty cs _ hσ hr
          obtain ⟨k1, _⟩ := h.storeSlot (off := off) hσ hr (x := .sl (.excl e) false []) rfl (fun _ _ => hnew _ _ _)
          have hcell : c[off]? = some (.slice none 0 0) := by
            simp only [realAt, hr, World.cell?, hb] at hv
            simpa using hv
          rwa [setCell_self hb hcell] at k1
        · cases hc'
    · exact ih h

theorem Inv.cutTo {P : Program} {st : St} {g : Gh} {vs : Array Value} {w : World} (h : Inv P g st vs w) {n : Nat} (hc : st.cutOk n = true) (hn : n ≤ st.σ.length) :
    Inv P (g.cut n) { st with σ := st.σ.take n } vs w := by
  simp only [St.cutOk, Bool.and_eq_true] at hc
  obtain ⟨h1, h2⟩ := hc
  have hσ : ∀ (id : Nat) (bx : Bx), (st.σ.take n)[id]? = some bx → st.σ[id]? = some bx ∧ noRefB n bx = true := by
    intro id bx hx
    have hm := List.all_eq_true.1 h2 bx (List.mem_of_getElem? hx)
    refine ⟨?_, hm⟩
    rw [List.getElem?_take] at hx
    split at hx
    · exact hx
    · cases hx
  have hρ : ∀ (id b : Nat), (g.cut n).rho[id]? = some b → g.rho[id]? = some b := by
    intro id b hb
    have hb : (g.rho.take n)[id]? = some b := hb
    rw [List.getElem?_take] at hb
    split at hb
    · exact hb
    · cases hb
  have hT : ∀ t, lkp st.ts t = .dead ∨ noRefT n (lkp st.ts t) = true := by
    intro t
    have : ∀ (l : List (Nat × PV)), l.all (fun p => noRefT n p.2) = true → lkp l t = .dead ∨ noRefT n (lkp l t) = true := by
      intro l
      induction l with
      | nil => intro _; exact .inl rfl
      | cons p r ih =>
        obtain ⟨k, x⟩ := p
        intro hl
        simp only [List.all_cons, Bool.and_eq_true] at hl
        simp only [lkp]
        cases Nat.beq k t with
        | true => exact .inr hl.1
        | false => exact ih hl.2
    exact this _ h1
  refine ⟨h.size, ?_, ?_, ?_, ?_, ?_, h.olt, h.flt, h.fbox⟩
  · intro t x hx
    have hx' : st.get t = some x := hx
    obtain ⟨v, hv, hs⟩ := h.slot t x hx'
    refine ⟨v, hv, ?_⟩
    have hxe : x = lkp st.ts t := by
      simp only [St.get] at hx'
      split at hx'
      · exact (Option.some.inj hx').symm
      · cases hx'
    have hnr : x = .dead ∨ noRefT n x = true := by rw [hxe]; exact hT t
    rcases hnr with rfl | hnr
    · trivial
    · cases x with
      | alias q =>
        cases q with
        | tmp s => exact hs
        | cell id off => simp [noRefT, noRef] at hnr
      | elem q k off =>
        cases q with
        | tmp s => exact hs
        | cell id off => simp [noRefT, noRef] at hnr
      | _ => exact hs.cut hnr
  · show (g.rho.take n).length = (st.σ.take n).length
    have : g.rho.length = st.σ.length := h.rlen
    simp [this]
  · intro id ty cs b hx hb
    obtain ⟨k1, k2⟩ := hσ id _ hx
    obtain ⟨c, fz, j1, j2, j3, j4⟩ := h.box id ty cs b k1 (hρ id b hb)
    refine ⟨c, fz, j1, j2, j3, fun off x hox => ?_⟩
    obtain ⟨l1, v, l2, l3⟩ := j4 off x hox
    simp only [noRefB] at k2
    obtain ⟨m1, m2⟩ := List.getElem?_eq_some_iff.1 hox
    exact ⟨l1, v, l2, l3.cut (by have := noRefs_get k2 off m1; rwa [m2] at this)⟩
  · intro id es b hx hb
    obtain ⟨k1, k2⟩ := hσ id _ hx
    exact h.bmap id es b k1 (hρ id b hb)
  · intro id b hb; exact h.rown id b (hρ id b hb)

theorem Ext.cut {g g' : Gh} {w w' : World} (h : Ext g g' w w') (n : Nat) : Ext (g.cut n) (g'.cut n) w w' :=
  ⟨by
    obtain ⟨t, ht⟩ := h.rho
    show g.rho.take n <+: g'.rho.take n
    rw [← ht, List.take_append]
    exact List.prefix_append _ _, h.fp, h.fpc, h.keep, h.size, h.frame, h.noframe, h.none_, h.fnew, h.os, h.tape, h.output⟩
theorem cut_cut (g : Gh) {n m : Nat} (h : m ≤ n) : (g.cut n).cut m = g.cut m := by
  simp only [Gh.cut, List.take_take, Nat.min_eq_left h]
theorem cut_all (g : Gh) {n : Nat} (h : g.rho.length ≤ n) : g.cut n = g := by
  simp only [Gh.cut, List.take_of_length_le h]
theorem Ext.of_cut {g g' : Gh} {w w' : World} {n : Nat} (h : Ext g (g'.cut n) w w') : Ext g g' w w' :=
  ⟨h.rho.trans (List.take_prefix n g'.rho), h.fp, h.fpc, h.keep, h.size, h.frame, h.noframe, h.none_, h.fnew, h.os, h.tape, h.output⟩

theorem Inv.keepTo {P : Program} {st : St} {g : Gh} {vs : Array Value} {w : World} (h : Inv P g st vs w) (k : Hint) : ∃ g', Inv P g' (st.keepTo k) vs w ∧ Ext g g' w w := by
  obtain ⟨g1, h1, h2⟩ := h.freeze k.frz
  exact ⟨g1, (h1.renil k.nils).keep k.keep, h2⟩
theorem Inv.restrict {P : Program} {st : St} {g : Gh} {vs : Array Value} {w : World} (h : Inv P g st vs w) (k : Option Hint) : ∃ g', Inv P g' (st.restrict k) vs w ∧ Ext g g' w w := by
  cases k with
  | none => exact ⟨g, h, Ext.refl _ _⟩
  | some k => exact h.keepTo k

def CodeQ (P : Program) (g : Gh) (a : Act) (w : World) (x : Exit) (st' : St) : Exit → Act → World → Prop :=
  fun e a' w' => e = x ∧ ∃ g', Inv P g' st' a'.tmps w' ∧ Ext g g' w w' ∧ a'.defers = a.defers

theorem CodeQ.trans {P : Program} {g g1 : Gh} {a a1 : Act} {w w1 : World} {x : Exit} {st' : St} (hE : Ext g g1 w w1) (hd : a1.defers = a.defers) : ∀ e a' w', CodeQ P g1 a1 w1 x st' e a' w' → CodeQ P g a w x st' e a' w' := by
  rintro e a' w' ⟨h1, g', h2, h3, h4⟩
  exact ⟨h1, g', h2, hE.trans h3, h4.trans hd⟩

theorem evCode_sound {C : Ctx} (hW : WF C.P) (hC : SoundC C.P C.call) (n : Nat) : ∀ (c : Code) {st st' : St} {x : Exit} {g : Gh} {a : Act} {w : World}, Inv C.P g st a.tmps w → evCode C n c st = some (x, st') → c.wp C.P (CodeQ C.P g a w x st') a w := by
  intro c
  induction c with
  | skip =>
    intro st st' x g a w h he
    injection he with he; injection he with e1 e2; subst e1; subst e2
    exact wp_skip ⟨rfl, g, h, Ext.refl _ _, rfl⟩
  | region id ops draw =>
    intro st st' x g a w h he
    cases draw with
    | true => cases he
    | false =>
      simp only [evCode] at he
      split at he
      · rename_i st1 h1
        injection he with he; injection he with e1 e2; subst e1; subst e2
        exact wp_region_list (evOps_sound hW hC h h1 fun a' w' g' i1 i2 i3 => by
          obtain ⟨g2, j1, j2⟩ := i1.restrict (C.live id)
          exact ⟨rfl, g2, j1, i2.trans j2, i3⟩)
      · cases he
  | seq c1 c2 ih1 ih2 =>
    intro st st' x g a w h he
    simp only [evCode] at he
    refine wp_seq ?_
    split at he
    · rename_i st1 h1
      refine wp_mono (ih1 h h1) fun e a' w' hq => ?_
      obtain ⟨rfl, g', i1, i2, i3⟩ := hq
      exact wp_mono (ih2 i1 he) (CodeQ.trans i2 i3)
    · rename_i hne
      refine wp_mono (ih1 h he) fun e a' w' hq => ?_
      obtain ⟨rfl, hq⟩ := hq
      cases e with
      | normal => exact absurd he (hne st')
      | _ => exact ⟨rfl, hq⟩
  | cond cnd c1 c2 ih1 ih2 =>
    intro st st' x g a w h he
    simp only [evCode] at he
    split at he
    · rename_i hb
      exact wp_cond (t := true) (by rw [eval_eq]; exact bool_val h hb) (ih1 h he)
    · rename_i hb
      exact wp_cond (t := false) (by rw [eval_eq]; exact bool_val h hb) (ih2 h he)
    · cases he
  | block id c ih =>
    intro st st' x g a w h he
    simp only [evCode] at he
    refine wp_block ?_
    split at he
    · rename_i id' st1 h1
      refine wp_mono (ih h h1) fun e a' w' hq => ?_
      obtain ⟨rfl, hq⟩ := hq
      simp only [Exit.inBlock]
      split at he
      · rename_i hid
        injection he with he; injection he with e1 e2; subst e1; subst e2
        rw [if_pos hid]; exact ⟨rfl, hq⟩
      · rename_i hid
        injection he with he; injection he with e1 e2; subst e1; subst e2
        rw [if_neg hid]; exact ⟨rfl, hq⟩
    · rename_i hne
      refine wp_mono (ih h he) fun e a' w' hq => ?_
      obtain ⟨rfl, hq⟩ := hq
      cases e with
      | exit id' => exact absurd he (hne id' st')
      | _ => exact ⟨rfl, hq⟩
  | loop c ih =>
    intro st st' x g a w h he
    refine LoopWp.loop ?_
    have key : ∀ (m : Nat) {st : St} {g : Gh} {a : Act} {w : World}, Inv C.P g st a.tmps w → evLoop (evCode C n c) m st = some (x, st') → LoopWp C.P c (CodeQ C.P g a w x st') a w := by
      intro m
      induction m with
      | zero => intro st g a w h he; cases he
      | succ m ihm =>
        intro st g a w h he
        simp only [evLoop] at he
        refine LoopWp.round ?_
        split at he
        · rename_i st1 h1
          refine wp_mono (ih h h1) fun e a' w' hq => ?_
          obtain ⟨rfl, g', i1, i2, i3⟩ := hq
          intro b k cs
          obtain ⟨e, a2, w2, q, r⟩ := ihm i1 he b k cs
          exact ⟨e, a2, w2, CodeQ.trans i2 i3 _ _ _ q, r⟩
        · rename_i hne
          refine wp_mono (ih h he) fun e a' w' hq => ?_
          obtain ⟨rfl, hq⟩ := hq
          cases e with
          | normal => exact absurd he (hne st')
          | _ => exact ⟨rfl, hq⟩
    exact key n h he
  | exit id =>
    intro st st' x g a w h he
    injection he with he; injection he with e1 e2; subst e1; subst e2
    exact wp_exit ⟨rfl, g, h, Ext.refl _ _, rfl⟩
  | label l =>
    intro st st' x g a w h he
    injection he with he; injection he with e1 e2; subst e1; subst e2
    exact wp_label ⟨rfl, g, h, Ext.refl _ _, rfl⟩
  | goto l =>
    intro st st' x g a w h he
    injection he with he; injection he with e1 e2; subst e1; subst e2
    exact wp_goto ⟨rfl, g, h, Ext.refl _ _, rfl⟩
  | ret =>
    intro st st' x g a w h he
    injection he with he; injection he with e1 e2; subst e1; subst e2
    exact wp_ret ⟨rfl, g, h, Ext.refl _ _, rfl⟩
  | rangeFunc => intro st st' x g a w h he; simp [evCode] at he
  | scope => intro st st' x g a w h he; simp [evCode] at he
  | refuse => intro st st' x g a w h he; simp [evCode] at he

end Go.AM
