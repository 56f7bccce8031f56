/- The abstract machine, 12: what makes memory. -/
import Derived.Test.YtpbbgkmpjcddbaaA11
import Derived.Laws.Tables
import Derived.Laws.Append
import Derived.Laws.BytesArg
set_option linter.all false
namespace Go.AM

/-- A world of the same blocks. -/
theorem Inv.world {P : Program} {st : St} {g : Gh} {vs : Array Value} {w w' : World} (h : Inv P g st vs w) (hh : w'.heap = w.heap) (h1 : w'.os = w.os) (h2 : w'.tape = w.tape) (h3 : w'.output = w.output) : Inv P g st vs w' ∧ Ext g g w w' := by
  have hE : Ext g g w w' := ⟨List.prefix_rfl, fun _ _ h => h, fun b i _ => cell_of_heap (by rw [hh]) i, fun b _ _ => by rw [hh], by rw [hh]; exact Nat.le_refl _, fun _ h => h, fun _ h => h, fun _ _ h => h, fun _ _ _ h => h, h1, h2, h3⟩
  have hC : Chg (fun _ => False) g g w w' := ⟨hE, fun b _ _ _ _ => by rw [hh], fun _ _ h _ => h, fun _ _ _ _ _ h => h⟩
  have hreal : ∀ q, realAt g vs w' q = realAt g vs w q := by
    intro q
    cases q with
    | tmp t => rfl
    | cell id off => exact realAt_cell_same h hC rfl (by simp)
  refine ⟨h.step hC h.size (fun t x hx => .inr (.inl ⟨hx, rfl, fun _ => not_false, fun q _ => ⟨rfl, hreal q⟩⟩)) h.rlen (fun id ty cs b h1 h2 => .inl ⟨h1, h2, not_false, fun _ _ _ _ => not_false⟩) (fun id es b h1 h2 => .inl ⟨h1, h2, not_false⟩) h.rown ?_ ?_ h.fbox, hE⟩
  · intro b o hb; rw [hh]; exact h.olt b o hb
  · intro b i hb; rw [hh]; exact h.flt b i hb

theorem slice_ok {P : Program} {o : Oper} {st st' : St} {g : Gh} {vs : Array Value} {w : World} (h : Inv P g st vs w) {t : TypeId} {x : Operand} {lo hi mx : Option Operand} (ho : o.op = .slice t x lo hi mx) (he : evSlice P st t x lo hi mx o.dst = some st') : OpOk P o vs w g st' := by
  unfold evSlice at he
  split at he
  · rename_i e hu
    split at he
    · rename_i sz l hgh n xs st1 hsz hl hh hx
      split at he
      · rename_i hb
        obtain ⟨b1, b2, b3⟩ := hb
        rw [nrm_eq] at he
        split at he
        · rename_i hfirst
          obtain ⟨g', i1, i2, i3, i4, _⟩ := use_sound h hx
          -- the bounds
          have hlo : lo.map (evalV vs) = none ∧ l = 0 ∨ ∃ k, lo.map (evalV vs) = some (.int k l) := by
            cases lo with
            | none => left; injection hl with hl; exact ⟨rfl, hl.symm⟩
            | some lo => right; obtain ⟨k, hk⟩ := int_val h hl; exact ⟨k, by simp [hk]⟩
          have key : ∀ (a : Option Addr) (cap : Nat), evalV vs x = .slice a xs.length cap → xs.length ≤ cap →
              (execOp (evalV vs) o).run P w = .ok (.value (.slice (if cap = l.toNat then a else a.map (·.add (l.toNat * sz))) (hgh.toNat - l.toNat) (cap - l.toNat))) w := by
            intro a cap hv hcap
            have hhi : hi.map (evalV vs) = none ∧ hgh = xs.length ∨ ∃ k, hi.map (evalV vs) = some (.int k hgh) := by
              cases hi with
              | none =>
                left
                refine ⟨rfl, ?_⟩
                simp only at hh
                have hpk : (st.sl x).map (fun p => (p.2.length : Int)) = some (xs.length : Int) := by
                  cases hsl : st.sl x with
                  | none => rw [hsl] at hh; cases hh
                  | some pr =>
                    obtain ⟨m, ys⟩ := pr
                    have hpk : ∃ fl, st.peek x = some (.sl fl m ys) := by
                      simp only [St.sl] at hsl
                      split at hsl
                      · rename_i fl m' ys' hpk
                        injection hsl with hsl
                        injection hsl with e1 e2
                        subst e1; subst e2
                        exact ⟨fl, hpk⟩
                      · cases hsl
                    obtain ⟨fl, hpk⟩ := hpk
                    obtain ⟨p, hs⟩ := peek_slot h hpk
                    have := slot_sl hs
                    rw [hv] at this
                    rcases this with ⟨e1, e2⟩ | ⟨_, b, q, c, s, e2, _⟩
                    · injection e2 with _ e3 _
                      subst e1
                      simp [e3]
                    · injection e2 with _ e3 _
                      simp [e3]
                rw [hpk] at hh
                injection hh with hh
                exact hh.symm
              | some hi => right; obtain ⟨k, hk⟩ := int_val h hh; exact ⟨k, by simp [hk]⟩
            have hsb : (Instr.sliceBounds true xs.length cap (lo.map (evalV vs)) (hi.map (evalV vs)) none).run P w = .ok (l.toNat, hgh.toNat, cap) w := by
              rcases hlo with ⟨e1, e2⟩ | ⟨k, e1⟩ <;> rcases hhi with ⟨e3, e4⟩ | ⟨k', e3⟩
              · simp [Instr.sliceBounds, e1, e3, e2, e4]
              · rw [e1, e3]
                simp [Instr.sliceBounds, Instr.sliceBound, asIntOf, e2, show (0 : Int) ≤ hgh by omega, show hgh ≤ (cap : Int) by omega]
              · rw [e1, e3]
                simp [Instr.sliceBounds, Instr.sliceBound, asIntOf, e4, b1, show l ≤ (xs.length : Int) by omega]
              · rw [e1, e3]
                simp [Instr.sliceBounds, Instr.sliceBound, asIntOf, b1, show (0 : Int) ≤ hgh by omega, show hgh ≤ (cap : Int) by omega, show l ≤ (hgh.toNat : Int) by omega]
                intro h1; omega
            simp only [execOp, ho, Option.map_none, Instr.sliceAt, Sem.run_bind, run_und hu, Result.andThen_ok, Instr.slice, hv, hsb, run_size hsz, Sem.run_pure]
          have hlen : ((xs.drop l.toNat).take (hgh.toNat - l.toNat)).length = hgh.toNat - l.toNat := by
            simp only [List.length_take, List.length_drop]
            omega
          generalize hys : (xs.drop l.toNat).take (hgh.toNat - l.toNat) = ys at he hfirst hlen
          generalize hev : evalV vs x = u at i3 key
          cases i3 with
          | slnil fl =>
            have hk := key none 0 rfl (Nat.le_refl _)
            simp only [List.length_nil] at b3 hk
            have e1 : l = 0 := by omega
            have e2 : hgh = 0 := by simp at b3; omega
            subst e1; subst e2
            have : ys = [] := by rw [← hys]; rfl
            subst this
            refine .rel (v := .slice none 0 0) i1 i2 ?_ he (.slnil _)
            simpa using hk
          | slz =>
            have hk := key none 0 rfl (Nat.le_refl _)
            simp only [List.length_nil] at b3 hk
            have e1 : l = 0 := by omega
            have e2 : hgh = 0 := by simp at b3; omega
            subst e1; subst e2
            have : ys = [] := by rw [← hys]; rfl
            subst this
            refine .rel (v := .slice none 0 0) i1 i2 ?_ he .slz
            simpa using hk
          | slv _ b oo cap s vals hcap hlen' hfp hrel =>
            have hk := key (some ⟨b, oo, none⟩) cap rfl hcap
            have hl0 : l.toNat ≤ hgh.toNat := by omega
            have hh0 : hgh.toNat ≤ xs.length := by omega
            by_cases hy : ys = []
            · subst hy
              have hz : hgh.toNat - l.toNat = 0 := by simpa using hlen.symm
              rw [hz] at hk
              have hr : ∃ q, (if cap = l.toNat then (some ⟨b, oo, none⟩ : Option Addr) else (some ⟨b, oo, none⟩ : Option Addr).map (·.add (l.toNat * sz))) = some ⟨b, q, none⟩ := by
                split
                · exact ⟨oo, rfl⟩
                · exact ⟨oo + l.toNat * sz, by simp [add_off]⟩
              obtain ⟨q, hq⟩ := hr
              rw [hq] at hk
              refine .rel i1 i2 hk he ?_
              exact .slv [] b q (cap - l.toNat) 0 (fun _ _ => undef) (by simp) (fun i hi => by simp at hi) (fun i j hi => by simp at hi) (fun i j hi => by simp at hi)
            · have hne : cap ≠ l.toNat := by
                intro e
                have : ys.length = 0 := by rw [hlen]; omega
                exact hy (List.eq_nil_of_length_eq_zero this)
              have hpos : 0 < hgh.toNat - l.toNat := by
                rw [← hlen]; exact List.length_pos_iff.2 hy
              have hget : ∀ i (hi : i < ys.length), ys[i] = xs[l.toNat + i]'(by omega) := by
                intro i hi
                subst hys
                simp [List.getElem_take, List.getElem_drop]
              have hs : s = sz := by
                have e0 := hget 0 (by omega)
                cases ys with
                | nil => exact absurd rfl hy
                | cons c cs =>
                  have : c.length = sz := by simpa [firstLen] using hfirst
                  rw [← this, ← hlen' (l.toNat + 0) (by omega)]
                  simp only [List.getElem_cons_zero] at e0
                  rw [e0]
              subst hs
              rw [if_neg hne] at hk
              simp only [Option.map_some, add_off] at hk
              refine .rel i1 i2 hk he ?_
              rw [← hlen]
              refine .slv ys b (oo + l.toNat * s) (cap - l.toNat) s (fun i j => vals (l.toNat + i) j) (by omega) (fun i hi => by rw [hget i hi]; exact hlen' _ _) ?_ ?_
              · intro i j hi hj
                have := hfp (l.toNat + i) j (by omega) hj
                rw [Nat.add_mul] at this
                rw [show oo + l.toNat * s + i * s + j = oo + (l.toNat * s + i * s) + j by omega]
                exact this
              · intro i j hi hj
                have := hget i hi
                simp only [this] at hj ⊢
                exact hrel (l.toNat + i) j (by omega) hj
        · cases he
      · cases he
    · cases he
  · cases he

theorem alloc_ok {P : Program} {o : Oper} {st st' : St} {g : Gh} {vs : Array Value} {w : World} (h : Inv P g st vs w) {t : TypeId} (ho : o.op = .alloc t) (he : evAlloc P st t o.dst = some st') : OpOk P o vs w g st' := by
  unfold evAlloc at he
  split at he
  · rename_i cs hz
    obtain ⟨v, hv, rfl⟩ := run_zero hz w
    obtain ⟨i1, i2⟩ := h.newBox (ty := t) (c := v.cells) (cs := v.cells.toList.map const1) (by simp) (fun i x hx => by
      simp only [List.getElem?_map, Option.map_eq_some_iff, Array.getElem?_toList] at hx
      obtain ⟨u, hu, rfl⟩ := hx
      exact ⟨u, hu, .inr ⟨(rel_const1 g w u).plain, rel_const1 g w u⟩⟩)
    refine ⟨_, .pointer (some ⟨w.heap.size, 0, none⟩), w.alloc (.cells v.cells t), _, ?_, .inl rfl, setD_rel i1 he (.ptr _ _ _ (by simp [h.rlen])), i2, fun _ => BoxKeep.alloc h _⟩
    simp [execOp, ho, Instr.alloc, hv, newVar, newRow]
  · cases he

theorem setCell_self {w : World} {b off : Nat} {c : Array Value} {ty : TypeId} {fz : Nat × Nat} (h : w.heap[b]? = some (.cells c ty fz)) {v : Value} (hv : c[off]? = some v) : w.setCell ⟨b, off, none⟩ v = w := by
  obtain ⟨hlt, he⟩ := Array.getElem?_eq_some_iff.1 h
  unfold World.setCell
  congr 1
  apply Array.ext
  · simp
  · intro i h1 h2
    simp only [Array.getElem_modify]
    split
    · rename_i e
      subst e
      simp only [he]
      simp [setIf_self _ _ _ hv]
    · rfl

theorem box_ok {P : Program} {o : Oper} {st st' : St} {g : Gh} {vs : Array Value} {w : World} (h : Inv P g st vs w) {t : TypeId} {x : Operand} (ho : o.op = .box t x) (he : evBox st t x o.dst = some st') : OpOk P o vs w g st' := by
  have hrun : (execOp (evalV vs) o).run P w = .ok (.value (.pointer (some ⟨w.heap.size, 0, none⟩))) (w.alloc (.cells (evalV vs x).cells t)) := by
    simp [execOp, ho, Instr.box, newVar, newRow]
  unfold evBox at he
  split at he
  · rename_i q hq
    obtain ⟨fl, n, xs, k1, k2, k3, k4⟩ := plc_slot h hq
    rw [k1] at he
    cases x with
    | tmp s =>
      simp only at he
      split at he
      · rename_i e
        subst e
        obtain ⟨v0, hv0, hok⟩ := own_at h k1 k2
        rw [k3] at hv0
        injection hv0 with hv0
        obtain ⟨aa, ll, cc, hsl⟩ := own_slice hok
        have hcells : (evalV vs (.tmp s)).cells = #[evalV vs (.tmp s)] := by rw [hv0, hsl]; rfl
        obtain ⟨i1, i2⟩ := h.newBox (ty := t) (c := (evalV vs (.tmp s)).cells) (cs := [.dead]) (by rw [hcells]; rfl) (fun i x hx => by
          have : i = 0 := by have := (List.getElem?_eq_some_iff.1 hx).1; simpa using this
          subst this
          injection hx with hx
          exact ⟨evalV vs (.tmp s), by rw [hcells]; rfl, .inl hx.symm⟩)
        have hrho : (g.rho ++ [w.heap.size])[st.σ.length]? = some w.heap.size := by simp [← h.rlen]
        obtain ⟨g', j1, j2⟩ := i1.moveCell (id := st.σ.length) (off := 0) (ty := t) (cs := [.dead]) (b0 := w.heap.size) (by simp) (by simp) hrho (p := .tmp s) (by intro e; cases e) (by exact k1) k2 (by exact k3)
        rw [setCell_self (heap_alloc_new w _) (by rw [hcells]; rfl)] at j1 j2
        refine ⟨_, _, _, g', hrun, .inl rfl, setD_rel j1 he (.ptr _ _ _ (prefix_get j2.rho hrho)), i2.trans j2, fun hk => by rw [ho] at hk; cases hk⟩
      · cases he
    | const _ => cases he
    | func _ => cases he
    | global _ => cases he
  · split at he
    · rename_i y st1 hu
      obtain ⟨g', i1, i2, i3, i4, _⟩ := use_sound h hu
      have hR := RelL.cells i3
      obtain ⟨j1, j2⟩ := i1.newBox (ty := t) (c := (evalV vs x).cells) (cs := y.cells) (by simpa using hR.1) (fun i z hz => by
        obtain ⟨h1, h2⟩ := List.getElem?_eq_some_iff.1 hz
        have hl : i < (evalV vs x).cells.toList.length := by rw [hR.1]; exact h1
        have hr := hR.2 i h1 hl
        rw [h2] at hr
        refine ⟨(evalV vs x).cells.toList[i], by simp at hl; simp [hl], .inr ⟨hr.plain, hr⟩⟩)
      exact ⟨_, _, _, _, hrun, .inl rfl, setD_rel j1 he (.ptr _ _ _ (by simp [i1.rlen])), i2.trans j2, fun hk => by rw [ho] at hk; cases hk⟩
    · cases he

end Go.AM
