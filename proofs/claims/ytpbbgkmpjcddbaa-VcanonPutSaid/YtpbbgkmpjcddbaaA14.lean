/- The abstract machine, 14: append. -/
import Derived.Test.YtpbbgkmpjcddbaaA13
set_option linter.all false
namespace Go.AM

theorem div_mod_lt {k n s : Nat} (h : k < n * s) : k / s < n ∧ k % s < s ∧ k / s * s + k % s = k := by
  have hs : 0 < s := by
    rcases Nat.eq_zero_or_pos s with e | e
    · subst e; simp at h
    · exact e
  exact ⟨Nat.div_lt_of_lt_mul (by rw [Nat.mul_comm]; exact h), Nat.mod_lt _ hs, by rw [Nat.mul_comm]; exact Nat.div_add_mod k s⟩

/-- Elements laid flat, as values. -/
structure FlatL (g : Gh) (w : World) (s : Nat) (ys : List (List PV)) (us : List Value) : Prop where
  len : us.length = ys.length * s
  each : ∀ i, (h : i < ys.length) → ys[i].length = s
  rel : ∀ i j (hi : i < ys.length) (hj : j < ys[i].length), ∃ v, us[i * s + j]? = some v ∧ Rel g w ys[i][j] v

theorem Elems.flat {g : Gh} {w : World} {b o s : Nat} {xs : List (List PV)} (h : Elems g w b o s xs) : ∃ us, FlatL g w s xs us ∧ ∀ (k : Nat) (hk : k < us.length), w.cell? ⟨b, o + k, none⟩ = some us[k] := by
  refine ⟨(List.range (xs.length * s)).map fun k => (w.cell? ⟨b, o + k, none⟩).getD undef, ⟨by simp, h.1, ?_⟩, ?_⟩
  · intro i j hi hj
    obtain ⟨v, h1, h2⟩ := h.2 i j hi hj
    have hj' : j < s := by rw [← h.1 i hi]; exact hj
    refine ⟨v, ?_, h2⟩
    rw [List.getElem?_map, List.getElem?_range (mul_lt_of hi hj')]
    simp only [Option.map_some]
    rw [← Nat.add_assoc, h1]
    rfl
  · intro k hk
    simp only [List.length_map, List.length_range] at hk
    obtain ⟨h1, h2, h3⟩ := div_mod_lt hk
    obtain ⟨v, h4, _⟩ := h.2 (k / s) (k % s) h1 (by rw [h.1 _ h1]; exact h2)
    rw [Nat.add_assoc, h3] at h4
    simp [h4]

theorem FlatL.one {g : Gh} {w : World} {s : Nat} {ys : List (List PV)} {us : List Value} (h : FlatL g w s ys us) (ho : ∀ c ∈ ys, ∀ x ∈ c, x.one = true) : ∀ u ∈ us, (∀ cs, u ≠ .agg cs) ∧ ∀ cs, u ≠ .tuple cs := by
  intro u hu
  obtain ⟨k, hk, rfl⟩ := List.getElem_of_mem hu
  obtain ⟨h1, h2, h3⟩ := div_mod_lt (by rw [← h.len]; exact hk)
  have hj : k % s < (ys[k / s]).length := by rw [h.each _ h1]; exact h2
  obtain ⟨v, e1, e2⟩ := h.rel (k / s) (k % s) h1 hj
  rw [h3, List.getElem?_eq_getElem hk] at e1
  injection e1 with e1
  rw [e1]
  exact one_val e2 (ho _ (List.getElem_mem h1) _ (List.getElem_mem hj))

theorem run_storeCells_blit {P : Program} {b off0 : Nat} : ∀ {us : List Value} {i : Nat} {w : World} {c : Array Value} {ty : TypeId} {fz : Nat × Nat}, w.heap[b]? = some (.cells c ty fz) → Unfz fz c.size → off0 + i + us.length ≤ c.size →
    (∀ u ∈ us, (∀ cs, u ≠ .agg cs) ∧ ∀ cs, u ≠ .tuple cs) → (storeCells ⟨b, off0, none⟩ us i).run P w = .ok () (wblit w b (off0 + i) us) := by
  intro us
  induction us with
  | nil => intro i w c ty fz _ _ _ _; simp [storeCells, wblit]
  | cons u us ih =>
    intro i w c ty fz hb hz hs h1
    simp only [List.length_cons] at hs
    have hcell : w.cell? ⟨b, off0 + i, none⟩ = some (c[off0 + i]'(by omega)) := by
      simp only [World.cell?, hb]
      simp [show off0 + i < c.size by omega]
    obtain ⟨n1, n2⟩ := h1 u (by simp)
    simp only [storeCells, Sem.run_bind, add_off, run_store1 hcell (unfz_frozen hb hz (by omega)) n1 n2, Result.andThen_ok]
    have := ih (i := i + 1) (heap_setCell_self w b (off0 + i) u hb) (by simpa using hz) (by simp; omega) (fun u hu => h1 u (by simp [hu]))
    rw [this]
    rfl

theorem elemsOf_sound {P : Program} {st : St} {g : Gh} {vs : Array Value} {w : World} (h : Inv P g st vs w) {n : Nat} {x : Operand} {ys : List (List PV)} (he : elemsOf st n x = some ys) :
    ∃ us, FlatL g w n ys us ∧ (∀ u ∈ us, (∀ cs, u ≠ .agg cs) ∧ ∀ cs, u ≠ .tuple cs) ∧ (∀ w0 : World, w0.heap = w.heap → (Builtin.lenOf (evalV vs x)).run P w0 = .ok ys.length w0) ∧ ∀ w0 : World, w0.heap = w.heap → (Builtin.firstCells n ys.length (evalV vs x)).run P w0 = .ok us.toArray w0 := by
  unfold elemsOf at he
  split at he
  · rename_i fl nl ys' hp
    split at he
    · rename_i hall
      injection he with he
      subst he
      obtain ⟨p, hs⟩ := peek_slot h hp
      have hone : ∀ c ∈ ys', c.length = n ∧ ∀ x ∈ c, x.one = true := by
        intro c hc
        have := List.all_eq_true.1 hall c hc
        simpa using this
      rcases slot_sl hs with ⟨rfl, hv⟩ | ⟨_, b, o, cap, s, hv, hcap, hel⟩
      · exact ⟨[], ⟨by simp, fun i hi => by simp at hi, fun i j hi => by simp at hi⟩, fun u hu => by simp at hu, fun w0 _ => by simp [hv, Builtin.lenOf], fun w0 _ => by simp [hv, Builtin.firstCells]⟩
      · obtain ⟨us, hf, hc⟩ := hel.flat
        have hsn : ys' = [] ∨ s = n := by
          cases ys' with
          | nil => exact .inl rfl
          | cons c cs =>
            right
            have := hel.1 0 (by simp)
            rw [← this]
            exact (hone c (by simp)).1
        rcases hsn with rfl | rfl
        · have hus : us = [] := List.eq_nil_of_length_eq_zero (by have := hf.len; simpa using this)
          subst hus
          exact ⟨[], ⟨by simp, fun i hi => by simp at hi, fun i j hi => by simp at hi⟩, fun u hu => by simp at hu, fun w0 _ => by simp [hv, Builtin.lenOf], fun w0 _ => by simp [hv, Builtin.firstCells, loadCells, loadCellsFrom]⟩
        · refine ⟨us, hf, hf.one (fun c hc => (hone c hc).2), fun w0 _ => by simp [hv, Builtin.lenOf], fun w0 hw0 => ?_⟩
          rw [hv]
          refine run_firstCells_some w0 s ys'.length _ _ _ us hf.len fun j v hj => ?_
          obtain ⟨h1, h2⟩ := List.getElem?_eq_some_iff.1 hj
          rw [add_off, cell_of_heap (w := w) (by rw [hw0]), hc j h1, h2]
    · cases he
  · rename_i s hp
    split at he
    · rename_i hn
      injection he with he
      subst he
      subst hn
      obtain ⟨p, hs⟩ := peek_slot h hp
      have hv := val_slot (u := .string s) rfl hs
      refine ⟨s.data.toList.map fun b => .int .u8 b.toNat, ⟨by simp, fun i hi => by simp, fun i j hi hj => ?_⟩, ?_, ?_, ?_⟩
      · simp only [List.length_map, Array.length_toList] at hi
        simp only [List.getElem_map, List.length_singleton] at hj ⊢
        have : j = 0 := by omega
        subst this
        refine ⟨.int .u8 (s.data[i]).toNat, by simp only [Nat.mul_one, Nat.add_zero, List.getElem?_map, Array.getElem?_toList, Array.getElem?_eq_getElem hi, Option.map_some], ?_⟩
        simp only [List.getElem_cons_zero, Array.getElem_toList]
        exact .lit _
      · intro u hu
        simp only [List.mem_map] at hu
        obtain ⟨b, _, rfl⟩ := hu
        exact ⟨fun _ e => (by cases e), fun _ e => (by cases e)⟩
      · intro w0 _; simp only [hv, Builtin.lenOf, Sem.run_pure, List.length_map, Array.length_toList]; rfl
      · intro w0 _; rw [hv]
        simp only [Builtin.firstCells, Sem.run_pure]
        congr 1
        apply Array.ext'
        have e1 : (s.data.toList.map fun b => [PV.lit (.int .u8 b.toNat)]).length = s.size := by simp [← ByteArray.size_data]
        rw [e1]
        have e2 : s.extract 0 s.size = s := by
          apply ByteArray.ext
          rw [ByteArray.data_extract, ← ByteArray.size_data]
          simp
        rw [e2]
        simp
    · cases he
  · cases he

theorem run_choose_cap (P : Program) (w : World) (need old : Nat) (e : TypeId) : (choose (.appendCap need old e)).run P w = .ok ((Question.appendCap need old e).cut (w.tape w.drawn (.appendCap need old e))) w.drew := rfl

theorem flatL_at {g : Gh} {w : World} {s : Nat} {ys : List (List PV)} {us : List Value} (h : FlatL g w s ys us) : Flat g w s ys us.toArray :=
  ⟨by simpa using h.len, h.each, fun i j hi hj => by obtain ⟨v, h1, h2⟩ := h.rel i j hi hj; exact ⟨v, by simpa using h1, h2⟩⟩

theorem FlatL.append {g : Gh} {w : World} {s : Nat} {xs ys : List (List PV)} {us vs : List Value} (h : FlatL g w s xs us) (k : FlatL g w s ys vs) : FlatL g w s (xs ++ ys) (us ++ vs) := by
  refine ⟨by rw [List.length_append, List.length_append, h.len, k.len, Nat.add_mul], fun i hi => ?_, fun i j hi hj => ?_⟩
  · rcases Nat.lt_or_ge i xs.length with hx | hx
    · rw [List.getElem_append_left hx]; exact h.each i hx
    · rw [List.getElem_append_right hx]; exact k.each _ _
  · simp only [List.length_append] at hi
    rcases Nat.lt_or_ge i xs.length with hx | hx
    · simp only [List.getElem_append_left hx] at hj ⊢
      obtain ⟨v, h1, h2⟩ := h.rel i j hx hj
      exact ⟨v, by rw [List.getElem?_append_left (List.getElem?_eq_some_iff.1 h1).1]; exact h1, h2⟩
    · simp only [List.getElem_append_right hx] at hj ⊢
      obtain ⟨v, h1, h2⟩ := k.rel (i - xs.length) j (by omega) hj
      refine ⟨v, ?_, h2⟩
      have e3 : i * s = xs.length * s + (i - xs.length) * s := by rw [← Nat.add_mul]; congr 1; omega
      rw [List.getElem?_append_right (by rw [h.len]; omega), ← h1]
      congr 1
      rw [h.len]
      omega

theorem FlatL.ext {g g' : Gh} {w w' : World} {s : Nat} {ys : List (List PV)} {us : List Value} (h : FlatL g w s ys us) (hE : Ext g g' w w') : FlatL g' w' s ys us :=
  ⟨h.len, h.each, fun i j hi hj => let ⟨v, h1, h2⟩ := h.rel i j hi hj; ⟨v, h1, h2.ext hE⟩⟩

/-- A slice of one's own that is made anew, with room behind it. -/
theorem newRow_own {P : Program} {st : St} {g : Gh} {vs : Array Value} {w : World} (h : Inv P g st vs w) {t : Nat} (ht : t < st.n) {e : TypeId} {fl : Flag} (hfl : fl.isOwn = true) (hfe : fl.e = e) {zs : List (List PV)} {us : List Value} {z : Value} {nc : Nat}
    (hf : FlatL g w (P.cellsOf e) zs us) (hnc : zs.length ≤ nc) (hz : z.cells.size = P.cellsOf e) :
    ∃ g', Inv P g' (st.setP (.tmp t) (.sl fl false zs)) (vs.setIfInBounds t (.slice (some ⟨w.heap.size, 0, none⟩) zs.length nc)) (w.drew.alloc (.cells (us.toArray ++ Builtin.zeroCells z.cells (nc - zs.length)) e)) ∧
      Ext g g' w (w.drew.alloc (.cells (us.toArray ++ Builtin.zeroCells z.cells (nc - zs.length)) e)) := by
  obtain ⟨i1, i2⟩ := h.world (w' := w.drew) rfl rfl rfl rfl
  have hsz : (us.toArray ++ Builtin.zeroCells z.cells (nc - zs.length)).size = nc * P.cellsOf e := by
    simp only [Array.size_append, List.size_toArray, Builtin.zeroCells, Array.size_map, Array.size_range, hz, hf.len, ← Nat.add_mul]
    congr 1
    omega
  obtain ⟨j1, j2⟩ := i1.newOwn (fl := fl) ht hfl hfe (xs := zs) (c := us.toArray ++ Builtin.zeroCells z.cells (nc - zs.length)) (cap := nc) (fz := (0, 0)) hnc hsz (fun i _ h => by omega) hf.each (fun i j hi hj => by
    obtain ⟨v, h1, h2⟩ := hf.rel i j hi hj
    refine ⟨v, ?_, h2.ext i2⟩
    have hlt := (List.getElem?_eq_some_iff.1 h1).1
    rw [Array.getElem?_append_left (by simpa using hlt)]
    simpa using h1)
  exact ⟨_, j1, i2.trans j2⟩

theorem run_builtin_append {P : Program} {o : Oper} {c : Call} {s x : Operand} {vs : Array Value} {w w' : World} {v : Value} (ho : o.op = .call c) (hb : c.callee = .builtin .append) (ha : c.args.toList = [s, x])
    (hr : (Builtin.append_ c.argTypes o.type #[evalV vs s, evalV vs x]).run P w = .ok v w') : (execOp (evalV vs) o).run P w = .ok (.value v) w' := by
  have hargs : c.args = #[s, x] := by rw [← Array.toArray_toList (xs := c.args), ha]
  simp [execOp, ho, resolve, hb, hargs, invoke, builtin, hr]

theorem append_ok {P : Program} {o : Oper} {c : Call} {s x : Operand} {st st' : St} {g : Gh} {vs : Array Value} {w : World} (h : Inv P g st vs w) (ho : o.op = .call c) (hb : c.callee = .builtin .append) (ha : c.args.toList = [s, x])
    (he : evAppend P st c.argTypes s x o.dst = some st') : OpOk P o vs w g st' := by
  unfold evAppend at he
  split at he
  · rename_i ts tx h0 h1
    split at he
    · rename_i e ux hu hux
      split at he
      · cases he
      · rename_i hnint
        split at he
        · rename_i i fl nl xs hi hp
          split at he
          · rename_i ys hys
            split at he
            · rename_i hcond
              obtain ⟨hbd, hby, hzc⟩ := hcond
              have hzz : ∃ z, i.zero = some z ∧ z.cells.size = i.size := by
                unfold zeroFits at hzc
                split at hzc
                · rename_i z hz; exact ⟨z, hz, by simpa using hzc⟩
                · cases hzc
              obtain ⟨z, hz, hzs⟩ := hzz
              · 
                obtain ⟨us, hfl, hone, hlen', hfirst'⟩ := elemsOf_sound h hys
                have hlen := hlen' w rfl
                have hfirst := hfirst' w rfl
                obtain ⟨p, hs⟩ := peek_slot h hp
                have hce : P.cellsOf e = i.size := by simp [Program.cellsOf, hi]
                have hszr : ∀ w, (sizeOf e).run P w = .ok i.size w := fun w => by simp [sizeOf, typeInfo, hi]
                have hzeros : ∀ w, (do pure ((← underlying tx) matches .int _) : Sem Bool).run P w = .ok false w := by
                  intro w
                  simp only [Sem.run_bind, run_und hux, Result.andThen_ok, Sem.run_pure]
                  cases ux <;> first | rfl | (exfalso; exact hnint rfl)
                -- the new row
                have hgrow : ∀ (base : Option Addr) (sCap : Nat) (olds : List Value), evalV vs s = .slice base xs.length sCap → (∀ w0 : World, w0.heap = w.heap → (Builtin.firstCells i.size xs.length (evalV vs s)).run P w0 = .ok olds.toArray w0) → sCap < xs.length + ys.length →
                    ∃ nc, xs.length + ys.length ≤ nc ∧ (Builtin.append_ c.argTypes o.type #[evalV vs s, evalV vs x]).run P w =
                      .ok (.slice (some ⟨w.heap.size, 0, none⟩) (xs.length + ys.length) nc) (w.drew.alloc (.cells (olds.toArray ++ us.toArray ++ Builtin.zeroCells z.cells (nc - (xs.length + ys.length))) e)) := by
                  intro base sCap olds hv hold hlt
                  refine ⟨(Question.appendCap (xs.length + ys.length) sCap e).cut (w.tape w.drawn (.appendCap (xs.length + ys.length) sCap e)), by simp [Question.cut], ?_⟩
                  have hfits := growslice_fits (bytes := i.bytes) hlt (by omega)
                  have hf1 : (Builtin.firstCells i.size xs.length (.slice base xs.length sCap)).run P w.drew = .ok olds.toArray w.drew := by rw [← hv]; exact hold w.drew rfl
                  have hf2 : (Builtin.firstCells i.size ys.length (evalV vs x)).run P w.drew = .ok us.toArray w.drew := hfirst' w.drew rfl
                  rw [hv]
                  have hnb : ¬ ((xs.length + ys.length) ≤ sCap) := by omega
                  have hnm : ¬ (((xs.length + ys.length : Nat) : Int) > IntKind.i64.max ∧ (False ∨ i.bytes = 0)) := by
                    rintro ⟨_, hh | hh⟩
                    · exact hh
                    · omega
                  have hnf : ¬ (Builtin.nextslicecap (xs.length + ys.length) sCap * i.bytes > 2 ^ 48) := by omega
                  cases ux <;> first
                    | exact absurd rfl hnint
                    | (simp only [Builtin.append_, h0, h1, Sem.run_bind, run_und hu, run_und hux, Result.andThen_ok, hszr, hlen, typeInfo, run_program, hi, Sem.run_pure, List.getElem?_toArray, List.getElem?_cons_zero, List.getElem?_cons_succ, Bool.false_eq_true, if_false, Bool.not_false, if_true, hnb]
                       simp only [Sem.run_bind, Sem.run_pure, Sem.run_ite, Result.andThen_ok, run_program, hi, Bool.false_eq_true, hnm, hnf, if_false, Bool.not_false, if_true]
                       simp only [Sem.run_bind, run_choose_cap, Question.forced, Bool.false_eq_true, if_false, Result.andThen_ok, run_program, hi, Sem.run_pure, run_askRoom, hf1, hf2, zeroValue, typeInfo, hz, newRow, run_newObj]
                       rfl)
                have hnone : ys = [] → us = [] → (Builtin.append_ c.argTypes o.type #[.slice none 0 0, evalV vs x]).run P w = .ok (.slice none 0 0) w := by
                  intro hy1 hy2
                  rw [hy1] at hlen
                  rw [hy1, hy2] at hfirst
                  simp only [List.length_nil] at hlen hfirst
                  cases ux <;> first
                    | exact absurd rfl hnint
                    | (simp only [Builtin.append_, h0, h1, Sem.run_bind, run_und hu, run_und hux, Result.andThen_ok, hszr, hlen, hfirst, Sem.run_pure, List.getElem?_toArray, List.getElem?_cons_zero, List.getElem?_cons_succ, Bool.false_eq_true, if_false, Bool.not_false, if_true, Nat.add_zero, Nat.le_refl])
                split at he
                · -- nil
                  rename_i hnil
                  subst hnil
                  rcases slot_sl hs with ⟨rfl, hv⟩ | ⟨hc, _⟩
                  · split at he
                    · rename_i t hd
                      simp only [St.setD] at he
                      split at he
                      · rename_i hlt
                        injection he with he
                        subst he
                        by_cases hy : ys = []
                        · subst hy
                          have hus : us = [] := List.eq_nil_of_length_eq_zero (by have := hfl.len; simpa using this)
                          subst hus
                          refine ⟨_, .slice none 0 0, w, g, run_builtin_append ho hb ha ?_, .inl rfl, by rw [hd]; exact h.setPlain hlt (show OwnOk _ _ _ _ _ _ _ _ _ from .inl ⟨rfl, rfl⟩), Ext.refl _ _, fun _ => .refl _ _⟩
                          rw [hv]
                          exact hnone rfl rfl
                        · have hpos : 0 < ys.length := List.length_pos_iff.2 hy
                          obtain ⟨nc, hnc, hrun⟩ := hgrow none 0 [] (by simpa using hv) (fun w0 _ => by rw [hv]; simp [Builtin.firstCells]) (by simpa using hpos)
                          simp only [List.length_nil, Nat.zero_add] at hnc hrun
                          obtain ⟨g', j1, j2⟩ := newRow_own h hlt (e := e) (fl := .excl e) rfl rfl (zs := ys) (z := z) (nc := nc) (by rw [hce]; exact hfl) hnc (by rw [hce]; exact hzs)
                          refine ⟨_, _, _, g', run_builtin_append ho hb ha hrun, .inl rfl, ?_, ?_, fun _ => BoxKeep.alloc (w := w.drew) (h.world (w' := w.drew) rfl rfl rfl rfl).1 _⟩
                          · rw [hd]
                            show Inv P g' _ (vs.setIfInBounds t _) _
                            simpa using j1
                          · simpa using j2
                      · cases he
                    · cases he
                  · cases hc
                · rename_i hnil
                  have hnl : nl = false := by simpa using hnil
                  subst hnl
                  split at he
                  · rename_i hown
                    obtain ⟨hfo, hfe⟩ := hown
                    split at he
                    · rename_i p' t hpl hd
                      split at he
                      · rename_i hlt
                        obtain ⟨hlt, hpt⟩ := hlt
                        rw [nrm_eq] at he
                        injection he with he
                        subst he
                        obtain ⟨fl', n', xs', k1, k2, k3, k4⟩ := plc_slot h hpl
                        rw [hp] at k4
                        injection k4 with k4
                        injection k4 with e1 e2 e3
                        subst e1; subst e2; subst e3
                        obtain ⟨v0, hv0, hok⟩ := own_at h k1 k2
                        rw [k3] at hv0
                        injection hv0 with hv0
                        rcases hok with ⟨rfl, hbv⟩ | ⟨_, b, cap, hbv, hbk⟩
                        · have hv : evalV vs s = .slice none 0 0 := hv0.trans hbv
                          have hlt1 : t < (st.setP p' .dead).n := by rw [tsLen_setP]; exact hlt
                          by_cases hy : ys = []
                          · subst hy
                            have hus : us = [] := List.eq_nil_of_length_eq_zero (by have := hfl.len; simpa using this)
                            subst hus
                            refine ⟨_, .slice none 0 0, w, g, run_builtin_append ho hb ha ?_, .inl rfl, by rw [hd]; exact (h.forgetP k1).setPlain hlt1 (slot_own hfo (.inl ⟨rfl, rfl⟩)), Ext.refl _ _, fun _ => .refl _ _⟩
                            rw [hv]
                            exact hnone rfl rfl
                          · have hpos : 0 < ys.length := List.length_pos_iff.2 hy
                            obtain ⟨nc, hnc, hrun⟩ := hgrow none 0 [] (by simpa using hv) (fun w0 _ => by rw [hv]; simp [Builtin.firstCells]) (by simpa using hpos)
                            simp only [List.length_nil, Nat.zero_add] at hnc hrun
                            obtain ⟨g', j1, j2⟩ := newRow_own (h.forgetP k1) (e := e) (t := t) hlt1 hfo hfe (zs := [] ++ ys) (z := z) (nc := nc) (by rw [hce]; exact hfl) hnc (by rw [hce]; exact hzs)
                            refine ⟨_, _, _, g', run_builtin_append ho hb ha hrun, .inl rfl, ?_, ?_, fun _ => BoxKeep.alloc (w := w.drew) (h.world (w' := w.drew) rfl rfl rfl rfl).1 _⟩
                            · rw [hd]
                              show Inv P g' _ (vs.setIfInBounds t _) _
                              simpa using j1
                            · simpa using j2
                        · have hv : evalV vs s = .slice (some ⟨b, 0, none⟩) xs.length cap := hv0.trans hbv
                          have hce' : P.cellsOf fl.e = i.size := by rw [hfe]; exact hce
                          by_cases hroom : xs.length + ys.length ≤ cap
                          · obtain ⟨cc, fz, hblk, hcs, hz'⟩ := hbk.blk
                            have hst : (storeCells ⟨b, xs.length * i.size, none⟩ us).run P w = .ok () (wblit w b (xs.length * i.size) us) := by
                              have hm : (xs.length + ys.length) * i.size ≤ cap * i.size := Nat.mul_le_mul_right _ hroom
                              rw [Nat.add_mul] at hm
                              exact run_storeCells_blit (i := 0) hblk hz' (by rw [hfl.len, hcs, hce']; omega) hone
                            obtain ⟨g', j1, j2⟩ := h.appendIn hlt hpt k1 k2 hbk hroom (ys := ys) (us := us) (by rw [hce']; exact hfl.len) (fun i hi => by rw [hce']; exact hfl.each i hi) (fun i j hi hj => by rw [hce']; exact hfl.rel i j hi hj)
                            rw [hce'] at j1 j2
                            refine ⟨_, _, _, g', run_builtin_append ho hb ha ?_, .inl rfl, by rw [hd]; exact j1, j2, fun _ id b' hb' => (wblit_facts b us w _).2.2.2.2.1 b' (by rintro rfl; have := h.rown id b' hb'; rw [hbk.ow] at this; cases this)⟩
                            rw [hv]
                            cases ux <;> first
                              | exact absurd rfl hnint
                              | (simp only [Builtin.append_, h0, h1, Sem.run_bind, run_und hu, run_und hux, Result.andThen_ok, hszr, hlen, hfirst, Sem.run_pure, List.getElem?_toArray, List.getElem?_cons_zero, List.getElem?_cons_succ, Bool.false_eq_true, if_false, Bool.not_false, if_true, hroom, add_off, Nat.zero_add, hst])
                          · obtain ⟨olds, hfo2, hoc⟩ := hbk.el.flat
                            rw [hce'] at hfo2
                            obtain ⟨nc, hnc, hrun⟩ := hgrow (some ⟨b, 0, none⟩) cap olds hv (fun w0 hw0 => by
                              rw [hv]
                              refine run_firstCells_some w0 i.size xs.length _ _ _ olds hfo2.len fun j v hj => ?_
                              obtain ⟨h1, h2⟩ := List.getElem?_eq_some_iff.1 hj
                              rw [add_off, cell_of_heap (w := w) (by rw [hw0]), hoc j h1, h2]) (by omega)
                            have hlen2 : (xs ++ ys).length = xs.length + ys.length := List.length_append
                            obtain ⟨g', j1, j2⟩ := newRow_own (h.forgetP k1) (e := e) (t := t) (by rw [tsLen_setP]; exact hlt) hfo hfe (zs := xs ++ ys) (us := olds ++ us) (z := z) (nc := nc) (by rw [hce]; exact hfo2.append hfl) (by rw [hlen2]; exact hnc) (by rw [hce]; exact hzs)
                            rw [hlen2] at j1 j2
                            have ea : (olds ++ us).toArray = olds.toArray ++ us.toArray := by simp
                            rw [ea] at j1 j2
                            exact ⟨_, _, _, g', run_builtin_append ho hb ha hrun, .inl rfl, by rw [hd]; exact j1, j2, fun _ => BoxKeep.alloc (w := w.drew) (h.world (w' := w.drew) rfl rfl rfl rfl).1 _⟩
                      · cases he
                    · cases he
                  · cases he
            · cases he
          · cases he
        · cases he
    · cases he
  · cases he

end Go.AM
