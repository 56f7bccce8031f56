/- The abstract machine, 27: certificates of code, of loops, of functions. -/
import Derived.Test.YtpbbgkmpjcddbaaA26
set_option linter.all false
namespace Go.AM
noncomputable section

theorem root_cases {x : PV} {q : Plc} (h : x.root = some q) : x = .alias q ∨ ∃ k off, x = .elem q k off := by
  cases x with
  | alias p => injection h with h; left; rw [h]
  | elem p k off => injection h with h; right; exact ⟨k, off, by rw [h]⟩
  | _ => cases h
def useAll : List Nat → St → Option (List (Nat × PV) × St)
  | [], st => some ([], st)
  | t :: r, st => match st.use (.tmp t) with
    | some (x, st1) => match useAll r st1 with
      | some (l, st2) => some ((t, x) :: l, st2)
      | none => none
    | none => none
theorem useAll_sound {P : Program} {vs : Array Value} {w : World} : ∀ {l : List Nat} {st st1 : St} {fl : List (Nat × PV)} {g : Gh}, Inv P g st vs w → useAll l st = some (fl, st1) →
    ∃ g', Inv P g' st1 vs w ∧ Ext g g' w w ∧ st1.n = st.n ∧ ∀ t, t < st.n → lkp fl t = .dead ∨ ∃ v, vs[t]? = some v ∧ Rel g' w (lkp fl t) v ∧ (lkp fl t).plain = true := by
  intro l
  induction l with
  | nil =>
    intro st st1 fl g h he
    injection he with he; injection he with e1 e2; subst e1; subst e2
    exact ⟨g, h, Ext.refl _ _, rfl, fun t _ => .inl rfl⟩
  | cons t r ih =>
    intro st st1 fl g h he
    simp only [useAll] at he
    split at he
    · rename_i x st2 hu
      split at he
      · rename_i l' st3 hr
        injection he with he; injection he with e1 e2; subst e1; subst e2
        obtain ⟨g1, i1, i2, i3, _, i5⟩ := use_sound h hu
        obtain ⟨g2, j1, j2, j3, j4⟩ := ih i1 hr
        refine ⟨g2, j1, i2.trans j2, j3.trans i5, fun u hu' => ?_⟩
        simp only [lkp]
        cases e : Nat.beq t u with
        | true =>
          right
          have e := Nat.eq_of_beq_eq_true e
          subst e
          have hlt : t < vs.size := by rw [h.size]; exact hu'
          refine ⟨evalV vs (.tmp t), ?_, i3.ext j2, i3.plain⟩
          simp only [evalV, Array.getD_eq_getD_getElem?, Array.getElem?_eq_getElem hlt, Option.getD_some]
        | false => exact j4 u (by rw [i5]; exact hu')
      · cases he
    · cases he

def outV (WL : List Nat) (x : PV) : PV :=
  match x.root with
  | some (.tmp s) => if WL.contains s then .dead else x
  | some (.cell _ _) => .dead
  | none => x
def outL (WL : List Nat) : List (Nat × PV) → List (Nat × PV)
  | [] => []
  | (t, x) :: r => (t, outV WL x) :: outL WL r
theorem lkp_outL (WL : List Nat) (l : List (Nat × PV)) (t : Nat) : lkp (outL WL l) t = outV WL (lkp l t) := by
  induction l with
  | nil => rfl
  | cons p r ih =>
    obtain ⟨k, x⟩ := p
    simp only [outL, lkp]
    cases Nat.beq k t with
    | true => rfl
    | false => exact ih

def turnsAll (fz : List Nat) : List Oper → List DStep → List Nat
  | o :: os, s :: ss => turns fz s o ++ turnsAll fz os ss
  | _, _ => []

def σsOf (σ : List Bx) (r : List (List Bx)) (m : Nat) : List Bx := (σ :: r).getD m []

def okStart (d : DC) (ts : List (Nat × PV)) : Bool := d.lin.all fun t => !d.frz.contains t && match (lkp ts t).root with
  | some (.tmp s) => d.lin.contains s && !d.frz.contains s
  | _ => true
def okEnd (ops : Array Oper) (WL : List Nat) (ts : List (Nat × PV)) : Bool := (WL.all fun t => rootIn WL (lkp ts t)) && allJ ops.size fun j => match dstOf ops j with
  | some d => WL.contains d
  | none => true

def drawH (C : Ctx) (ops : Array Oper) (d : DC) (st : St) : Option (St × List Prop) :=
  match useAll d.frz st with
  | some (fl, st1) => nrmS true st1 fun st1 =>
    if okStart d st1.ts then (match drawGo C ops st.n d.fz (fun j => (d.steps.map (·.chg)).getD j false) (σsOf st1.σ d.σs) 0 ops.toList d.steps (fl ++ pickL st1.ts d.lin) with
    | some (tss, ps) => if okDraw ops { tss, Ts := d.steps.map (·.T), chgs := d.steps.map (·.chg), fz := d.fz } then
        (if okEnd ops (d.lin ++ turnsAll d.fz ops.toList d.steps) (tss.getD ops.size []) then
          some ({ ts := pickL (tss.getD ops.size []) (d.lin ++ turnsAll d.fz ops.toList d.steps) ++ outL (d.lin ++ turnsAll d.fz ops.toList d.steps) st1.ts, n := st.n, σ := σsOf st1.σ d.σs (cntTo (fun i => (d.steps.map (·.chg)).getD i false && true) ops.size) }, ps)
        else none) else none
    | none => none) else none
  | none => none

theorem drawH_sound {C : Ctx} {id : Nat} {ops : Array Oper} {d : DC} {st st' : St} {ps : List Prop} {g : Gh} {a : Act} {w : World} {Q : Exit → Act → World → Prop} (hW : WF C.P) (h : Inv C.P g st a.tmps w) (he : drawH C ops d st = some (st', ps)) (hp : allP ps)
    (hQ : ∀ a' w' g', Inv C.P g' st' a'.tmps w' → Ext g g' w w' → a'.defers = a.defers → Q .normal a' w') : (Code.region id ops true).wp C.P Q a w := by
  unfold drawH at he
  split at he
  · rename_i fl st1 hu
    rw [nrmS_eq] at he
    split at he
    · rename_i hst
      split at he
      · rename_i tss ps1 hgo
        split at he
        · rename_i hok
          split at he
          · rename_i hend
            injection he with he; injection he with e1 e2; subst e1; subst e2
            refine wp_region_any hW.2 ?_
            obtain ⟨h0, hE0⟩ := h.world (w' := { w with drawn := w.drawn + 1 }) rfl rfl rfl rfl
            obtain ⟨g1, i1, i2, i3, i4⟩ := useAll_sound h0 hu
            have hD := draw_ok hW hgo hp hok
            generalize hWL : d.lin ++ turnsAll d.fz ops.toList d.steps = WL at *
            have hin : ∀ t, t ∈ d.lin → t ∈ WL := fun t ht => by rw [← hWL]; exact List.mem_append_left _ ht
            let K : Nat → Bool := fun t => WL.contains t
            have hstart := List.all_eq_true.1 hst
            have hts0 : tss.getD 0 [] = fl ++ pickL st1.ts d.lin := by
              obtain ⟨_, _, l3, _⟩ := drawGo_ok hW (fun k => by simp) hgo hp
              rw [List.getD_eq_getElem?_getD, l3]; rfl
            have hflk : ∀ t, t ∉ d.frz → lkp fl t = .dead := by
              have key : ∀ {l : List Nat} {st st1 : St} {fl : List (Nat × PV)}, useAll l st = some (fl, st1) → ∀ t, t ∉ l → lkp fl t = .dead := by
                intro l
                induction l with
                | nil => intro st st1 fl he t _; injection he with he; injection he with e1 _; subst e1; rfl
                | cons u r ih =>
                  intro st st1 fl he t ht
                  simp only [useAll] at he
                  split at he
                  · split at he
                    · rename_i hr
                      injection he with he; injection he with e1 _; subst e1
                      simp only [List.mem_cons, not_or] at ht
                      simp only [lkp, beq_ne (Ne.symm ht.1)]
                      exact ih hr t ht.2
                    · cases he
                  · cases he
              exact fun t ht => key hu t ht
            have hfln : ∀ t, t ∈ d.frz → ∃ x, (t, x) ∈ fl := by
              have key : ∀ {l : List Nat} {st st1 : St} {fl : List (Nat × PV)}, useAll l st = some (fl, st1) → ∀ t, t ∈ l → ∃ x, (t, x) ∈ fl := by
                intro l
                induction l with
                | nil => intro st st1 fl _ t ht; cases ht
                | cons u r ih =>
                  intro st st1 fl he t ht
                  simp only [useAll] at he
                  split at he
                  · split at he
                    · rename_i hr
                      injection he with he; injection he with e1 _; subst e1
                      rcases List.mem_cons.1 ht with rfl | ht
                      · exact ⟨_, List.mem_cons_self⟩
                      · obtain ⟨y, hy⟩ := ih hr t ht
                        exact ⟨y, List.mem_cons_of_mem _ hy⟩
                    · cases he
                  · cases he
              exact fun t ht => key hu t ht
            have happ : ∀ (l m : List (Nat × PV)) (t : Nat), (∀ x, (t, x) ∉ l) → lkp (l ++ m) t = lkp m t := by
              intro l
              induction l with
              | nil => intro m t _; rfl
              | cons p r ih =>
                obtain ⟨k, x⟩ := p
                intro m t ht
                have hk : k ≠ t := by rintro rfl; exact ht x List.mem_cons_self
                simp only [List.cons_append, lkp, beq_ne hk]
                exact ih m t fun y hy => ht y (List.mem_cons_of_mem _ hy)
            have happ2 : ∀ (l m : List (Nat × PV)) (t : Nat), (∃ x, (t, x) ∈ l) → lkp (l ++ m) t = lkp l t := by
              intro l
              induction l with
              | nil => intro m t ⟨x, hx⟩; cases hx
              | cons p r ih =>
                obtain ⟨k, x⟩ := p
                intro m t ⟨y, hy⟩
                simp only [List.cons_append, lkp]
                cases e : Nat.beq k t with
                | true => rfl
                | false =>
                  rcases List.mem_cons.1 hy with hy | hy
                  · injection hy with hy _; rw [hy, Nat.beq_refl] at e; cases e
                  · exact ih m t ⟨y, hy⟩
            have hnfl : ∀ t, t ∉ d.frz → ∀ x, (t, x) ∉ fl := by
              have key : ∀ {l : List Nat} {st st1 : St} {fl : List (Nat × PV)}, useAll l st = some (fl, st1) → ∀ t, t ∉ l → ∀ x, (t, x) ∉ fl := by
                intro l
                induction l with
                | nil => intro st st1 fl he t _ x hx; injection he with he; injection he with e1 _; subst e1; cases hx
                | cons u r ih =>
                  intro st st1 fl he t ht x hx
                  simp only [useAll] at he
                  split at he
                  · split at he
                    · rename_i hr
                      injection he with he; injection he with e1 _; subst e1
                      simp only [List.mem_cons, not_or] at ht
                      rcases List.mem_cons.1 hx with hx | hx
                      · injection hx with hx _; exact ht.1 hx
                      · exact ih hr t ht.2 x hx
                    · cases he
                  · cases he
              exact fun t ht => key hu t ht
            have hpart : Inv C.P (g1.part K) { ts := fl ++ pickL st1.ts d.lin, n := st1.n, σ := st1.σ } a.tmps { w with drawn := w.drawn + 1 } := by
              refine i1.part K fun t ht => ?_
              by_cases hf : t ∈ d.frz
              · rw [happ2 _ _ _ (hfln t hf)]
                rcases i4 t (by rw [← i3]; exact ht) with h1 | h1
                · exact .inl h1
                · exact .inr (.inr h1)
              · rw [happ _ _ _ (hnfl t hf), lkp_pickL0]
                by_cases hl : t ∈ d.lin
                · rw [if_pos hl]
                  right; left
                  refine ⟨rfl, fun _ => by simpa [K] using hin t hl, fun s hs => ?_⟩
                  have := hstart t hl
                  simp only [Bool.and_eq_true, Bool.not_eq_true', hs] at this
                  obtain ⟨_, hs1, hs2⟩ := this
                  have hs1' : s ∈ d.lin := by simpa using hs1
                  have hs2' : s ∉ d.frz := fun hm => by
                    have : d.frz.contains s = true := by simpa using hm
                    rw [hs2] at this; cases this
                  rw [happ _ _ _ (hnfl s hs2'), lkp_pickL0, if_pos hs1']
                · left; rw [if_neg hl]
            have hn : st1.n = st.n := i3
            simp only [okEnd, Bool.and_eq_true] at hend
            refine Draw.run hD (g0 := g1.part K) (a0 := a) (w0 := { w with drawn := w.drawn + 1 }) (fun a' w' hat => ?_) ops.size (Array.replicate ops.size false) a _ (by simp) ?_ ?_
            · obtain ⟨gc, k1, k2⟩ := hat.inv
              have k1' : Inv C.P gc { ts := tss.getD ops.size [], n := st1.n, σ := σsOf st1.σ d.σs (cntTo (fun i => (d.steps.map (·.chg)).getD i false && true) ops.size) } a'.tmps w' := by
                rw [hn]
                exact k1.congr fun t => (tsV_all hD (fun _ _ => rfl) t).symm
              have hrest : ∀ t, t ∉ WL → a'.tmps[t]? = a.tmps[t]? := fun t ht => hat.rest t fun j hj => by
                have hjl : j < ops.size := by
                  unfold dstOf at hj
                  split at hj
                  · rename_i o ho; exact (Array.getElem?_eq_some_iff.1 ho).1
                  · cases hj
                have := allJ_ok hend.2 hjl
                rw [hj] at this
                exact ht (by simpa using this)
              have hnotK : ∀ {t}, t ∉ WL → WL.contains t = false := fun {t} ht => by
                cases hk : WL.contains t with
                | false => rfl
                | true => exact absurd (by simpa using hk) ht
              obtain ⟨m1, m2⟩ := i1.join (K := K) (tj := pickL (tss.getD ops.size []) WL ++ outL WL st1.ts) k1' k2 (fun t ht => by
                rw [lkp_pickL]
                by_cases hm : t ∈ WL
                · rw [if_pos hm]
                  right; left
                  refine ⟨rfl, fun s hs => ?_⟩
                  have := List.all_eq_true.1 hend.1 t hm
                  unfold rootIn at this
                  rw [hs] at this
                  have hsm : s ∈ WL := by simpa using this
                  rw [lkp_pickL, if_pos hsm]
                · rw [if_neg hm, lkp_outL]
                  cases hr : (lkp st1.ts t).root with
                  | none =>
                    right; right
                    refine ⟨by simp only [outV, hr], hrest t hm, fun _ => hnotK hm, fun q hq => by cases hq⟩
                  | some q =>
                    cases q with
                    | cell id off => left; simp only [outV, hr]
                    | tmp s =>
                      by_cases hs : s ∈ WL
                      · left
                        have : WL.contains s = true := by simpa using hs
                        simp only [outV, hr, this, if_true]
                      · right; right
                        refine ⟨by simp only [outV, hr, hnotK hs, Bool.false_eq_true, if_false], hrest t hm, fun _ => hnotK hm, fun q hq => ?_⟩
                        injection hq with hq
                        subst hq
                        refine ⟨?_, hrest s hs⟩
                        rw [lkp_pickL, if_neg hs, lkp_outL]
                        have hgt : st1.get t = some (lkp st1.ts t) := by simp only [St.get]; rw [if_pos ht]
                        obtain ⟨fl', n', xs', hcn, _⟩ := alias_content i1 (q := .tmp s) hgt (root_cases hr)
                        have hcn : st1.get s = some (.sl fl' n' xs') := hcn
                        have hsl : lkp st1.ts s = .sl fl' n' xs' := by
                          simp only [St.get] at hcn
                          split at hcn
                          · injection hcn
                          · cases hcn
                        rw [hsl]; rfl)
              rw [hn] at m1
              exact hQ a' w' _ m1 ((hE0.trans i2).trans m2) hat.defers
            · have : openTo (Array.replicate ops.size false) ops.size ≤ ops.size := by
                have key : ∀ (p : Nat → Bool) (k : Nat), cntTo p k ≤ k := by
                  intro p k
                  induction k with
                  | zero => exact Nat.le_refl _
                  | succ k ih => simp only [cntTo]; have := Bool.toNat_le (p k); omega
                exact key _ _
              exact this
            · have hmask : maskOf (Array.replicate ops.size false) = fun _ => false := by
                funext i
                simp only [maskOf, Array.getD_eq_getD_getElem?, Array.getElem?_replicate]
                split <;> rfl
              rw [hmask]
              refine ⟨(fun j i hj => by cases hj), ⟨g1.part K, ?_, Ext.refl _ _⟩, rfl, fun _ _ => rfl⟩
              have hc0 : cntTo (fun i => (fun j => (d.steps.map (·.chg)).getD j false) i && (fun _ => false) i) ops.size = 0 := by
                have key : ∀ k, cntTo (fun i => (d.steps.map (·.chg)).getD i false && false) k = 0 := by
                  intro k
                  induction k with
                  | zero => rfl
                  | succ k ih => simp only [cntTo, Bool.and_false] at ih ⊢; simp [ih]
                exact key _
              have hV : ∀ t, lkp (Draw.tsV { ts := fun j => tss.getD j [], T := fun j => (d.steps.map (·.T)).getD j [], σs := σsOf st1.σ d.σs, chg := fun j => (d.steps.map (·.chg)).getD j false, fz := fun t => d.fz.contains t } ops (fun _ => false) ops.size) t = lkp (fl ++ pickL st1.ts d.lin) t := by
                intro t
                rw [← hts0]
                have key : ∀ k, Draw.tsV { ts := fun j => tss.getD j [], T := fun j => (d.steps.map (·.T)).getD j [], σs := σsOf st1.σ d.σs, chg := fun j => (d.steps.map (·.chg)).getD j false, fz := fun t => d.fz.contains t } ops (fun _ => false) k = tss.getD 0 [] := by
                  intro k
                  induction k with
                  | zero => rfl
                  | succ k ih => simp only [Draw.tsV, Bool.false_eq_true, if_false]; exact ih
                rw [key]
              have := hpart.congr hV
              rw [hn] at this
              show Inv C.P (g1.part K) { ts := _, n := st.n, σ := σsOf st1.σ d.σs (cntTo _ ops.size) } a.tmps _
              rw [hc0]
              exact this
          · cases he
        · cases he
      · cases he
    · cases he
  · cases he
end
end Go.AM
