/- The abstract machine, 11: operations, the second half. -/
import Derived.Test.YtpbbgkmpjcddbaaA10
set_option linter.all false
namespace Go.AM

theorem own_slice {P : Program} {g : Gh} {w : World} {p : Plc} {ex : Bool} {e : TypeId} {n : Bool} {xs : List (List PV)} {v : Value} (h : OwnOk P g w p ex e n xs v) : ∃ a l c, v = .slice a l c := by
  rcases h with ⟨_, _, rfl⟩ | ⟨_, b, cap, rfl, _⟩
  · exact ⟨_, _, _, rfl⟩
  · exact ⟨_, _, _, rfl⟩

theorem store_inv {P : Program} {st st1 : St} {g : Gh} {vs : Array Value} {w : World} (h : Inv P g st vs w) {t : TypeId} {a x : Operand} (he : evStore P st t a x = some st1) :
    ∃ w' g', (Instr.storeAt t (evalV vs a) (evalV vs x)).run P w = .ok () w' ∧ Inv P g' st1 vs w' ∧ Ext g g' w w' := by
  unfold evStore at he
  split at he
  · rename_i id off n hp hn
    obtain ⟨p, hs⟩ := peek_slot h hp
    have hs : Rel g w _ _ := hs
    generalize hev : evalV vs a = u at hs
    cases hs with
    | ptr _ _ b hb =>
      split at he
      · rename_i q hq
        obtain ⟨fl, m, xs, k1, k2, k3, k4⟩ := plc_slot h hq
        split at he
        · rename_i hh
          obtain ⟨rfl, hne⟩ := hh
          rw [k1] at he
          split at he
          · rename_i y0 y hc0 hy
            injection hy with hy
            subst hy
            have hslice : ∃ aa l c, evalV vs x = .slice aa l c := by
              obtain ⟨v, hv, hok⟩ := own_at h k1 k2
              rw [k3] at hv
              injection hv with hv
              subst hv
              exact own_slice hok
            obtain ⟨aa, ll, cc, hsl⟩ := hslice
            have hcc := hc0
            simp only [contentAt] at hc0
            split at hc0
            · rename_i ty cs hσ
              obtain ⟨c, fz, hblk, hz, hcs, hx⟩ := h.box id ty cs b hσ hb
              have hlt : off < cs.length := (List.getElem?_eq_some_iff.1 hc0).1
              have hcell : w.cell? ⟨b, off, none⟩ = some (c[off]'(by omega)) := by
                simp only [World.cell?, hblk]
                simp [show off < c.size by omega]
              have hrun : (Instr.storeAt t (.pointer (some ⟨b, off, none⟩)) (evalV vs x)).run P w = .ok () (w.setCell ⟨b, off, none⟩ (evalV vs x)) := by
                have h1 := run_store1 (P := P) hcell (unfz_frozen hblk hz (by omega)) (v := evalV vs x) (by rw [hsl]; intro _ e; cases e) (by rw [hsl]; intro _ e; cases e)
                simp only [Instr.storeAt, Instr.sureAddr, storeVar, Sem.run_bind, Sem.run_pure, Result.andThen_ok, run_size hn]
                rw [if_neg (by rw [hsl]; simp [Value.cells])]
                rw [hsl] at h1 ⊢
                simp only [Value.cells, storeCells, Sem.run_bind, add_off, Nat.add_zero, h1, Result.andThen_ok, Sem.run_pure]
              split at he
              · rename_i s
                split at he
                · injection he with he
                  subst he
                  obtain ⟨g', i1, i2⟩ := h.moveCell hσ hlt hb hne k1 k2 k3
                  exact ⟨_, g', hrun, i1, i2⟩
                · split at he
                  · rename_i z st2 hu
                    obtain ⟨g', v, i1, i2, i3, i4, i5, _⟩ := useP_sound h hu
                    rw [k3] at i3
                    injection i3 with i3
                    subst i3
                    have hb' : g'.rho[id]? = some b := by rw [i5]; exact hb
                    obtain ⟨w', r1, r2, r3⟩ := putC_sound hb' (i := 0) (off0 := off) i1 (RelL.single i4) (by simpa using he)
                    refine ⟨w', g', ?_, r2, i2.trans r3⟩
                    simp only [Instr.storeAt, Instr.sureAddr, storeVar, Sem.run_bind, Sem.run_pure, Result.andThen_ok, run_size hn]
                    rw [if_neg (by rw [hsl]; simp [Value.cells])]
                    rw [hsl] at r1 ⊢
                    exact r1
                  · cases he
              · cases he
            · cases hc0
          · cases he
        · cases he
      · split at he
        · rename_i y st2 hu
          split at he
          · rename_i hlen
            obtain ⟨g', i1, i2, i3, i4, _⟩ := use_sound h hu
            have hb' : g'.rho[id]? = some b := by rw [i4]; exact hb
            have hR := RelL.cells i3
            obtain ⟨w', r1, r2, r3⟩ := putC_sound hb' (i := 0) (off0 := off) i1 hR (by simpa using he)
            refine ⟨w', g', ?_, r2, i2.trans r3⟩
            simp only [Instr.storeAt, Instr.sureAddr, storeVar, Sem.run_bind, Sem.run_pure, Result.andThen_ok, run_size hn]
            rw [if_neg (by have := hR.1; simp at this; omega)]
            exact r1
          · cases he
        · cases he
  · rename_i q k off n hp hn
    obtain ⟨p, hs⟩ := peek_slot h hp
    obtain ⟨fl, xs, b, cap, k1, k2, k3, k4, k5⟩ := hs
    split at he
    · rename_i y st2 hu
      split at he
      · rename_i hlen
        obtain ⟨g', i1, i2, i3, i4, _⟩ := use_sound h hu
        have hR := RelL.cells i3
        obtain ⟨v0, hv0, hok0⟩ := own_at h k1 k2
        -- behind 'use' the place holds what it held, but for its flag
        have hst : ∃ fl2 , contentAt st2 q = some (.sl fl2 false xs) ∧ fl2.isOwn = true ∧ fl2.e = fl.e := by
          have hput : ∀ {p' : Plc} {fl' : Flag} {ys : List (List PV)}, contentAt st p' = some (.sl fl' false ys) → fl'.isOwn = true →
              ∃ fl2, contentAt (st.putP p' (.sl (.own fl'.e) false ys)) q = some (.sl fl2 false xs) ∧ fl2.isOwn = true ∧ fl2.e = fl.e := by
            intro p' fl' ys hc' ho'
            by_cases e : q = p'
            · subst e
              rw [k1] at hc'
              injection hc' with hc'
              injection hc' with e1 _ e3
              subst e1; subst e3
              exact ⟨_, contentAt_put_self k1, rfl, rfl⟩
            · exact ⟨fl, (contentAt_put_ne e).trans k1, k2, rfl⟩
          have huse : ∀ {p' : Plc} {z : PV} {st3 : St}, st.useP p' = some (z, st3) → ∃ fl2, contentAt st3 q = some (.sl fl2 false xs) ∧ fl2.isOwn = true ∧ fl2.e = fl.e := by
            intro p' z st3 hh
            unfold St.useP at hh
            split at hh
            · rename_i fl' ys hc'
              split at hh
              · rename_i ho'
                injection hh with hh
                injection hh with _ h2
                subst h2
                exact hput hc' ho'
              · injection hh with hh
                injection hh with _ h2
                subst h2
                exact ⟨fl, k1, k2, rfl⟩
            · injection hh with hh
              injection hh with _ h2
              subst h2
              exact ⟨fl, k1, k2, rfl⟩
            · cases hh
            · cases hh
            · cases hh
            · injection hh with hh
              injection hh with _ h2
              subst h2
              exact ⟨fl, k1, k2, rfl⟩
            · cases hh
          cases x with
          | tmp t0 =>
            simp only [St.use] at hu
            split at hu
            · exact huse hu
            · exact huse hu
          | const v => injection hu with hu; injection hu with _ h2; subst h2; exact ⟨fl, k1, k2, rfl⟩
          | func f => injection hu with hu; injection hu with _ h2; subst h2; exact ⟨fl, k1, k2, rfl⟩
          | global _ => cases hu
        obtain ⟨fl2, m1, m2, m3⟩ := hst
        have hreal : realAt g' vs w q = some (.slice (some ⟨b, 0, none⟩) xs.length cap) := by
          rw [← k3]
          cases q with
          | tmp t => rfl
          | cell id off => simp only [realAt, i4]
        cases hfl : fl2 with
        | view => rw [hfl] at m2; cases m2
        | own e =>
          rw [hfl] at m1
          cases hyc : y.cells with
          | nil =>
            rw [hyc] at he
            injection he with he
            subst he
            rw [hyc] at hR
            have hnil : (evalV vs x).cells.toList = [] := List.eq_nil_of_length_eq_zero hR.1
            refine ⟨w, g', ?_, i1, i2⟩
            rw [k5]
            simp only [Instr.storeAt, Instr.sureAddr, storeVar, Sem.run_bind, Sem.run_pure, Result.andThen_ok, run_size hn]
            have h0 : (evalV vs x).cells.toList.length = 0 := by rw [hnil]; rfl
            rw [hyc] at hlen
            simp only [Array.length_toList] at h0
            simp only [List.length_nil] at hlen
            rw [if_neg (by omega), hnil]
            rfl
          | cons z zs =>
            rw [hyc] at he
            simp only [St.putE, m1] at he
            cases he
        | excl e =>
          rw [hfl] at m1 m3
          have he' : e = fl.e := m3
          obtain ⟨w', r1, r2, r3⟩ := putE_sound (i := 0) (off0 := off) i1 m1 hreal hR (by simpa using he)
          refine ⟨w', g', ?_, r2, i2.trans r3⟩
          rw [k5, ← he']
          simp only [Instr.storeAt, Instr.sureAddr, storeVar, Sem.run_bind, Sem.run_pure, Result.andThen_ok, run_size hn]
          rw [if_neg (by have := hR.1; simp at this; omega)]
          exact r1
      · cases he
    · cases he
  · cases he

theorem store_ok {P : Program} {o : Oper} {st st1 st' : St} {g : Gh} {vs : Array Value} {w : World} (h : Inv P g st vs w) {t : TypeId} {a x : Operand} (ho : o.op = .store t a x) (he : evStore P st t a x = some st1)
    (hs : st1.setD o.dst (.lit undef) = some st') : OpOk P o vs w g st' := by
  obtain ⟨w', g', h1, h2, h3⟩ := store_inv h he
  exact ⟨.skip, undef, w', g', by simp [execOp, ho, h1], .inr ⟨rfl, rfl⟩, setD_rel h2 hs (.lit _), h3, fun hk => by rw [ho] at hk; cases hk⟩

theorem setAddr_inv {P : Program} {st st' : St} {g : Gh} {vs : Array Value} {w : World} (h : Inv P g st vs w) {d : Option Tmp} {x : PV} {v : Value} {p : Plc} (hs : st.setAddr d x = some st') (hx : Slot P st g vs w p x v) : Inv P g st' (putT vs d v) w := by
  cases x with
  | ptr id off => exact setD_rel h hs hx
  | elemv cs off => exact setD_rel h hs hx
  | elem q k off =>
    cases d with
    | none => cases hs
    | some t =>
      simp only [St.setAddr] at hs
      split at hs
      · cases hs
      · rename_i hne
        exact setD_elem h hs (fun t' ht => by injection ht with ht; subst ht; exact hne) hx
  | _ => simp [St.setAddr] at hs

theorem addOff_slot {P : Program} {st : St} {g : Gh} {vs : Array Value} {w : World} {p : Plc} {x z : PV} {v : Value} {n : Nat} (h : Slot P st g vs w p x v) (ha : addOff x n = some z) : ∃ b q, v = .pointer (some ⟨b, q, none⟩) ∧ Slot P st g vs w p z (.pointer (some ⟨b, q + n, none⟩)) := by
  cases x with
  | ptr id off =>
    injection ha with ha
    subst ha
    have h : Rel g w _ _ := h
    cases h with
    | ptr _ _ b hb => exact ⟨b, off, rfl, .ptr id (off + n) b hb⟩
  | elem q k off =>
    injection ha with ha
    subst ha
    obtain ⟨fl, xs, b, cap, k1, k2, k3, k4, k5⟩ := h
    exact ⟨b, _, k5, fl, xs, b, cap, k1, k2, k3, k4, by rw [Nat.add_assoc]⟩
  | elemv cs off =>
    injection ha with ha
    subst ha
    have h : Rel g w _ _ := h
    cases h with
    | elemv _ _ b o vals hfp hrel => exact ⟨b, o + off, rfl, by rw [Nat.add_assoc]; exact .elemv cs (off + n) b o vals hfp hrel⟩
  | _ => simp [addOff] at ha

theorem fieldAddr_ok {P : Program} {o : Oper} {st st' : St} {g : Gh} {vs : Array Value} {w : World} (h : Inv P g st vs w) {t : TypeId} {x : Operand} {f : Nat} (ho : o.op = .fieldAddr t x f) (he : evFieldAddr P st t x f o.dst = some st') : OpOk P o vs w g st' := by
  unfold evFieldAddr at he
  split at he
  · rename_i fs hu
    split at he
    · rename_i fd hf
      split at he
      · rename_i n y hn hp
        split at he
        · rename_i z hz
          obtain ⟨p, hs⟩ := peek_slot h hp
          obtain ⟨b, q, hv, hs'⟩ := addOff_slot hs hz
          refine ⟨_, _, w, g, ?_, .inl rfl, setAddr_inv h he hs', Ext.refl _ _, fun _ => .refl _ _⟩
          simp [execOp, ho, Instr.fieldAt, run_und hu, hf, Instr.sureAddr, hv, fieldPlace, run_size hn, add_off]
        · cases he
      · cases he
    · cases he
  · cases he

theorem indexAddr_ok {P : Program} {o : Oper} {st st' : St} {g : Gh} {vs : Array Value} {w : World} (h : Inv P g st vs w) {t : TypeId} {x i : Operand} (ho : o.op = .indexAddr t x i) (he : evIndexAddr P st t x i o.dst = some st') : OpOk P o vs w g st' := by
  unfold evIndexAddr at he
  split at he
  · rename_i len e ix hu hi
    obtain ⟨kk, hix⟩ := int_val h hi
    split at he
    · rename_i n y hn hp
      split at he
      · rename_i hb
        split at he
        · rename_i z hz
          obtain ⟨p, hs⟩ := peek_slot h hp
          obtain ⟨b, q, hv, hs'⟩ := addOff_slot hs hz
          refine ⟨_, _, w, g, ?_, .inl rfl, setAddr_inv h he hs', Ext.refl _ _, fun _ => .refl _ _⟩
          simp [execOp, ho, Instr.indexAt, hix, asIntOf, run_und hu, Instr.sureAddr, hv, run_size hn, add_off, hb.1, hb.2]
        · cases he
      · cases he
    · cases he
  · rename_i e ix hu hi
    obtain ⟨kk, hix⟩ := int_val h hi
    split at he
    · rename_i n xs hn hsl
      split at he
      · rename_i hb
        split at he
        · rename_i c hc
          split at he
          · rename_i hcl
            obtain ⟨hlt, hce⟩ := List.getElem?_eq_some_iff.1 hc
            have hrun : ∀ {b q cap}, evalV vs x = .slice (some ⟨b, q, none⟩) xs.length cap → (execOp (evalV vs) o).run P w = .ok (.value (.pointer (some ⟨b, q + ix.toNat * n, none⟩))) w := by
              intro b q cap hv
              simp [execOp, ho, Instr.indexAt, hix, asIntOf, run_und hu, hv, run_size hn, add_off, hb.1, hb.2]
            split at he
            · rename_i q hq
              obtain ⟨fl, m, ys, k1, k2, k3, k4⟩ := plc_slot h hq
              have hys : m = false ∧ ys = xs := by
                simp only [St.sl, k4] at hsl
                injection hsl with hsl
                injection hsl with e1 e2
                exact ⟨e1, e2⟩
              obtain ⟨rfl, rfl⟩ := hys
              obtain ⟨v0, hv0, hok⟩ := own_at h k1 k2
              rw [k3] at hv0
              injection hv0 with hv0
              rcases hok with ⟨hn', _⟩ | ⟨_, b, cap, hbv, hbk⟩
              · subst hn'; simp at hlt
              · have hv1 : evalV vs x = .slice (some ⟨b, 0, none⟩) ys.length cap := hv0.trans hbv
                have hsz := hbk.el.1 ix.toNat hlt
                rw [hce, hcl] at hsz
                refine ⟨_, _, w, g, hrun hv1, .inl rfl, setAddr_inv h he (p := .tmp 0) ⟨fl, ys, b, cap, k1, k2, by rw [k3, hv1], hlt, by rw [← hsz]; simp⟩, Ext.refl _ _, fun _ => .refl _ _⟩
            · rename_i hq
              have hpk : ∃ fl, st.peek x = some (.sl fl false xs) := by
                simp only [St.sl] at hsl
                split at hsl
                · rename_i fl m ys hpk
                  injection hsl with hsl
                  injection hsl with e1 e2
                  subst e1; subst e2
                  exact ⟨fl, hpk⟩
                · cases hsl
              obtain ⟨fl, hpk⟩ := hpk
              obtain ⟨p, hs⟩ := peek_slot h hpk
              have hview : fl = .view := by
                cases x with
                | tmp t0 =>
                  simp only [St.plc] at hq
                  simp only [St.peek] at hpk
                  split at hpk
                  · rename_i q' hq'
                    rw [hq'] at hq
                    simp at hq
                  · rw [hpk] at hq
                    simp only at hq
                    cases fl with
                    | view => rfl
                    | own e => simp [Flag.isOwn] at hq
                    | excl e => simp [Flag.isOwn] at hq
                | const v =>
                  injection hpk with hpk
                  unfold constPV at hpk
                  split at hpk
                  · injection hpk with _ e _; cases e
                  · cases hpk
                  · cases hpk
                  · cases hpk
                | func f => injection hpk with hpk; cases hpk
                | global _ => cases hpk
              subst hview
              have hs : Rel g w _ _ := hs
              generalize hev : evalV vs x = u at hs
              cases hs with
              | slz => simp at hlt
              | slv _ b o' cap s vals hcap hlen hfp hrel =>
                have hsn : s = n := by rw [← hlen ix.toNat hlt, hce, hcl]
                subst hsn
                refine ⟨_, _, w, g, hrun hev, .inl rfl, setAddr_inv h he (p := .tmp 0) (show Rel g w (.elemv c 0) _ from ?_), Ext.refl _ _, fun _ => .refl _ _⟩
                have := Rel.elemv (g := g) (w := w) c 0 b (o' + ix.toNat * s) (fun j => vals ix.toNat j) (fun j hj => hfp ix.toNat j hlt (by rw [← hcl]; exact hj)) (fun j hj => by
                  subst hce
                  exact hrel ix.toNat j hlt hj)
                simpa using this
          · cases he
        · cases he
      · cases he
    · cases he
  · cases he

theorem agg_slot {P : Program} {st : St} {g : Gh} {vs : Array Value} {w : World} (h : Inv P g st vs w) {x : Operand} {cs : List PV} (hp : st.peek x = some (.agg cs)) : ∃ us, evalV vs x = .agg us ∧ RelL g w cs us.toList := by
  obtain ⟨p, hs⟩ := peek_slot h hp
  have hs : Rel g w _ _ := hs
  generalize evalV vs x = u at hs
  cases hs with
  | agg _ us hl hr => exact ⟨us, rfl, RelL.of_agg (.agg cs us hl hr)⟩

theorem field_ok {P : Program} {o : Oper} {st st' : St} {g : Gh} {vs : Array Value} {w : World} (h : Inv P g st vs w) {t : TypeId} {x : Operand} {f : Nat} (ho : o.op = .field t x f) (he : evField P st t x f o.dst = some st') : OpOk P o vs w g st' := by
  unfold evField at he
  split at he
  · rename_i fs cs hu hp
    split at he
    · rename_i fd hf
      split at he
      · rename_i y hy
        obtain ⟨us, hv, hr⟩ := agg_slot h hp
        obtain ⟨v, h1, h2⟩ := part_part hy hr
        exact .rel (v := v) h (Ext.refl _ _) (by simp [execOp, ho, Instr.field, run_und hu, hf, hv, asAgg, h1]) he h2
      · cases he
    · cases he
  · cases he

theorem index_ok {P : Program} {o : Oper} {st st' : St} {g : Gh} {vs : Array Value} {w : World} (h : Inv P g st vs w) {t : TypeId} {x i : Operand} (ho : o.op = .index t x i) (he : evIndex P st t x i o.dst = some st') : OpOk P o vs w g st' := by
  unfold evIndex at he
  split at he
  · rename_i len e cs ix hu hp hi
    obtain ⟨kk, hix⟩ := int_val h hi
    split at he
    · rename_i n hn
      split at he
      · rename_i hb
        split at he
        · rename_i y hy
          obtain ⟨us, hv, hr⟩ := agg_slot h hp
          obtain ⟨v, h1, h2⟩ := part_part hy hr
          exact .rel (v := v) h (Ext.refl _ _) (by simp [execOp, ho, Instr.index, hix, asIntOf, run_und hu, hv, hb.1, hb.2, run_size hn, h1]) he h2
        · cases he
      · cases he
    · cases he
  · rename_i s ix hu hp hi
    obtain ⟨kk, hix⟩ := int_val h hi
    obtain ⟨p, hs⟩ := peek_slot h hp
    have hv := val_slot (u := .string s) rfl hs
    split at he
    · rename_i hb
      split at he
      · rename_i b hbb
        exact .rel (v := .int .u8 b.toNat) h (Ext.refl _ _) (by simp [execOp, ho, Instr.index, hix, asIntOf, run_und hu, hv, hb, hbb]) he (.lit _)
      · cases he
    · cases he
  · cases he

theorem extract_ok {P : Program} {o : Oper} {st st' : St} {g : Gh} {vs : Array Value} {w : World} (h : Inv P g st vs w) {x : Operand} {i : Nat} (ho : o.op = .extract x i) (he : evExtract st x i o.dst = some st') : OpOk P o vs w g st' := by
  unfold evExtract at he
  split at he
  · rename_i cs hp
    split at he
    · rename_i y hy
      obtain ⟨p, hs⟩ := peek_slot h hp
      have hs : Rel g w _ _ := hs
      generalize hev : evalV vs x = u at hs
      cases hs with
      | tup _ us hl hr =>
        obtain ⟨hlt, e⟩ := List.getElem?_eq_some_iff.1 hy
        have hu : us[i]? = some (us[i]'(by omega)) := Array.getElem?_eq_getElem (by omega)
        refine .rel (v := us[i]'(by omega)) h (Ext.refl _ _) (by simp [execOp, ho, Instr.extract, hev, hu]) he ?_
        rw [← e]
        exact hr i hlt (by omega)
    · cases he
  · cases he

theorem nilCheck_ok {P : Program} {o : Oper} {st st' : St} {g : Gh} {vs : Array Value} {w : World} (h : Inv P g st vs w) {x : Operand} (ho : o.op = .nilCheck x) (he : evNilCheck st x o.dst = some st') : OpOk P o vs w g st' := by
  unfold evNilCheck at he
  split at he
  · rename_i id off hp
    obtain ⟨p, hs⟩ := peek_slot h hp
    have hs : Rel g w _ _ := hs
    generalize hev : evalV vs x = u at hs
    cases hs with
    | ptr _ _ b hb => exact .rel h (Ext.refl _ _) (by simp [execOp, ho, hev]) he (.ptr id off b hb)
  · cases he

theorem det_run {α : Type} {P : Program} {s : Sem α} {x : α} (h : det P s = some x) (w : World) : s.run P w = .ok x w := by
  induction s with
  | pure a => injection h with h; subst h; rfl
  | program k ih => exact ih P h
  | _ => simp [det] at h

theorem un_ok {P : Program} {o : Oper} {st st' : St} {g : Gh} {vs : Array Value} {w : World} (h : Inv P g st vs w) {op : UnOp} {t : TypeId} {x : Operand} (ho : o.op = .unOp op t x) (he : evUn P st op x o.dst = some st') : OpOk P o vs w g st' := by
  unfold evUn at he
  split at he
  · rename_i b hp
    obtain ⟨p, hs⟩ := peek_slot h hp
    have hv := val_slot (u := .bool b) rfl hs
    exact .rel (v := .bool !b) h (Ext.refl _ _) (by simp [execOp, ho, hv, Op.unary]) he (.lit _)
  · rename_i u _ hp
    split at he
    · rename_i a ha
      split at he
      · rename_i r hr
        obtain ⟨p, hs⟩ := peek_slot h hp
        have hv := val_slot ha hs
        exact .rel (v := r) h (Ext.refl _ _) (by simp [execOp, ho, hv, det_run hr]) he (rel_constPV _ _ _)
      · cases he
    · cases he
  · cases he

theorem intBin_run {P : Program} {op : BinOp} {k k' : IntKind} {a b : Int} {v : Value} (h : intBin op k a k' b = some v) (t : TypeId) (w : World) : (binOp op t (.int k a) (.int k' b)).run P w = .ok v w := by
  unfold intBin at h
  split at h
  · split at h
    · cases h
    · rename_i hb; injection h with h; subst h; simp [binOp, Op.shift, hb]
  · split at h
    · cases h
    · rename_i hb; injection h with h; subst h; simp [binOp, Op.shift, hb]
  · split at h
    · cases h
    · rename_i hk
      have hk : k = k' := Classical.not_not.1 hk
      subst hk
      split at h <;> first
        | (injection h with h; subst h; simp [binOp, Op.intArith, Op.intCmp, Op.intBits]; done)
        | (split at h
           · cases h
           · rename_i hb; injection h with h; subst h; simp [binOp, Op.intDiv, hb])
        | cases h

theorem eqGuard_int {P : Program} {op : BinOp} {t : TypeId} {x y : Operand} {k k' : IntKind} {a b : Int} (w : World) : (eqGuard op t x y (.int k a) (.int k' b)).run P w = .ok () w := by
  unfold eqGuard
  cases op <;> simp

theorem bin_ok {P : Program} {o : Oper} {st st' : St} {g : Gh} {vs : Array Value} {w : World} (h : Inv P g st vs w) {op : BinOp} {t ty : TypeId} {x y : Operand} (ho : o.op = .binOp op t x y ty) (he : evBin P st op t x y o.dst = some st') : OpOk P o vs w g st' := by
  unfold evBin at he
  split at he
  · rename_i k a k' b hx hy
    split at he
    · rename_i v hv
      obtain ⟨p, hs⟩ := peek_slot h hx
      obtain ⟨p', hs'⟩ := peek_slot h hy
      have e1 := val_slot (u := .int k a) rfl hs
      have e2 := val_slot (u := .int k' b) rfl hs'
      exact .rel (v := v) h (Ext.refl _ _) (by simp [execOp, ho, e1, e2, eqGuard_int, intBin_run hv]) he (.lit _)
    · cases he
  · rename_i u v _ hx hy
    split at he
    · rename_i a b ha hb
      split at he
      · rename_i r hr
        obtain ⟨p, hs⟩ := peek_slot h hx
        obtain ⟨p', hs'⟩ := peek_slot h hy
        have e1 := val_slot ha hs
        have e2 := val_slot hb hs'
        refine .rel (v := r) h (Ext.refl _ _) ?_ he (rel_constPV _ _ _)
        have := det_run hr w
        simp only [execOp, ho, e1, e2, Sem.run_bind] at this ⊢
        rw [this]
        rfl
      · cases he
    · cases he
  · cases he

end Go.AM
