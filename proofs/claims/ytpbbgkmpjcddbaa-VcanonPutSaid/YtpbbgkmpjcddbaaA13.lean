/- The abstract machine, 13: what is built; append; conversions; builtins. -/
import Derived.Test.YtpbbgkmpjcddbaaA12
set_option linter.all false
namespace Go.AM

/-- Parts, each with its place. -/
def RelP (g : Gh) (w : World) : List (Nat × List PV) → List (Nat × Value) → Prop
  | [], [] => True
  | (i, cs) :: ys, (j, v) :: us => i = j ∧ RelL g w cs v.cells.toList ∧ RelP g w ys us
  | _, _ => False

theorem RelL.ext {g g' : Gh} {w w' : World} {cs : List PV} {us : List Value} (h : RelL g w cs us) (hE : Ext g g' w w') : RelL g' w' cs us := ⟨h.1, fun i hi hv => (h.2 i hi hv).ext hE⟩

theorem parts_sound {P : Program} {vs : Array Value} {w : World} : ∀ {ps : List (Nat × Operand)} {st st1 : St} {ys : List (Nat × List PV)} {g : Gh}, Inv P g st vs w → st.parts ps = some (ys, st1) →
    ∃ g', Inv P g' st1 vs w ∧ Ext g g' w w ∧ RelP g' w ys (ps.map fun p => (p.1, evalV vs p.2)) ∧ st1.n = st.n := by
  intro ps
  induction ps with
  | nil =>
    intro st st1 ys g h he
    injection he with he
    injection he with h1 h2
    subst h1; subst h2
    exact ⟨g, h, Ext.refl _ _, trivial, rfl⟩
  | cons p ps ih =>
    intro st st1 ys g h he
    obtain ⟨i, x⟩ := p
    simp only [St.parts] at he
    split at he
    · rename_i y st2 hu
      split at he
      · rename_i ys' st3 hp
        injection he with he
        injection he with h1 h2
        subst h1; subst h2
        obtain ⟨g1, i1, i2, i3, i4, i5⟩ := use_sound h hu
        obtain ⟨g2, j1, j2, j3, j4⟩ := ih i1 hp
        exact ⟨g2, j1, i2.trans j2, ⟨rfl, (RelL.cells (i3.ext j2)), j3⟩, j4.trans i5⟩
      · cases he
    · cases he

theorem foldl_overw (vs : List Value) : ∀ (cs : Array Value) (off k : Nat), (vs.zipIdx k).foldl (fun cs p => cs.setIfInBounds (off + p.2) p.1) cs = overw cs (off + k) vs := by
  induction vs with
  | nil => intro cs off k; rfl
  | cons v vs ih =>
    intro cs off k
    simp only [List.zipIdx_cons, List.foldl_cons]
    rw [ih]
    simp only [overw, Nat.add_assoc]

theorem setRange_length (xs : List PV) : ∀ (cs : List PV) (off : Nat), (setRange cs off xs).length = cs.length := by
  induction xs with
  | nil => intro cs off; rfl
  | cons x xs ih => intro cs off; simp [setRange, ih]

theorem RelL.set {g : Gh} {w : World} {cs : List PV} {c : Array Value} (h : RelL g w cs c.toList) {i : Nat} {x : PV} {v : Value} (hr : Rel g w x v) : RelL g w (cs.set i x) (c.setIfInBounds i v).toList := by
  refine ⟨by simpa using h.1, fun j hj hv => ?_⟩
  simp only [Array.toList_setIfInBounds] at hv ⊢
  by_cases e : i = j
  · subst e
    simp only [List.getElem_set_self]
    exact hr
  · simp only [List.getElem_set_ne e]
    exact h.2 j (by simpa using hj) (by simpa using hv)

theorem setRange_rel {g : Gh} {w : World} {xs : List PV} : ∀ {us : List Value} {cs : List PV} {c : Array Value} {off : Nat}, RelL g w cs c.toList → RelL g w xs us → RelL g w (setRange cs off xs) (overw c off us).toList := by
  induction xs with
  | nil =>
    intro us cs c off h hx
    have : us = [] := List.eq_nil_of_length_eq_zero hx.1
    subst this
    exact h
  | cons x xs ih =>
    intro us cs c off h hx
    cases us with
    | nil => have := hx.1; simp at this
    | cons u us =>
      exact ih (h.set (hx.2 0 (by simp) (by simp))) ⟨by simpa using hx.1, fun j hj hv => hx.2 (j + 1) (by simpa using hj) (by simpa using hv)⟩

theorem fill_rel {g : Gh} {w : World} {place : Nat → Option (Nat × Nat)} : ∀ {ys : List (Nat × List PV)} {us : List (Nat × Value)} {cs cs' : List PV} {c : Array Value}, RelL g w cs c.toList → RelP g w ys us → fillP place cs ys = some cs' →
    ∃ c', Instr.fill place c us = some c' ∧ RelL g w cs' c'.toList := by
  intro ys
  induction ys with
  | nil =>
    intro us cs cs' c h hp he
    cases us with
    | nil => injection he with he; subst he; exact ⟨c, rfl, h⟩
    | cons u us => exact hp.elim
  | cons y ys ih =>
    intro us cs cs' c h hp he
    cases us with
    | nil => obtain ⟨i, xs⟩ := y; exact hp.elim
    | cons u us =>
      obtain ⟨i, xs⟩ := y
      obtain ⟨j, v⟩ := u
      obtain ⟨rfl, h1, h2⟩ := hp
      simp only [fillP] at he
      split at he
      · rename_i off size hpl
        split at he
        · rename_i hh
          rw [nrm_eq] at he
          have hsz : v.cells.size = size := by have := h1.1; simp at this; omega
          have hcs : c.size = cs.length := by simpa using h.1
          obtain ⟨c', k1, k2⟩ := ih (setRange_rel (off := off) h h1) h2 he
          refine ⟨c', ?_, k2⟩
          simp only [Instr.fill, hpl]
          rw [if_neg (by simp [hsz]; omega)]
          have hf := foldl_overw v.cells.toList c off 0
          have e : v.cells.zipIdx.foldl (fun cs p => cs.setIfInBounds (off + p.2) p.1) c = overw c off v.cells.toList := by
            rw [← Array.foldl_toList]
            simpa using hf
          rw [← k1, ← e]
        · cases he
      · cases he

theorem places_mapM {P : Program} : ∀ {fs : List Field} {pl : List (Nat × Nat)}, fieldPlaces P fs = some pl → fs.mapM (fun f => (P.info? f.type).map fun i => (f.offset, i.size)) = some pl := by
  intro fs
  induction fs with
  | nil => intro pl h; injection h with h; subst h; rfl
  | cons f fs ih =>
    intro pl h
    simp only [fieldPlaces] at h
    split at h
    · rename_i n r hn hr
      injection h with h
      subst h
      obtain ⟨i, hi, hs⟩ := szOf_info hn
      simp [List.mapM_cons, hi, ih hr, hs]
    · cases h

theorem build_ok {P : Program} {o : Oper} {st st' : St} {g : Gh} {vs : Array Value} {w : World} (h : Inv P g st vs w) {t : TypeId} {ps : Array (Nat × Operand)} (ho : o.op = .build t ps) (he : evBuild P st t ps o.dst = some st') : OpOk P o vs w g st' := by
  unfold evBuild at he
  split at he
  · rename_i zs ys st1 hz hp
    obtain ⟨g', i1, i2, i3, _⟩ := parts_sound h hp
    unfold zeroPV at hz
    split at hz
    · rename_i it hit
      split at hz
      · rename_i z hzz
        injection hz with hz
        have key : ∀ cs, P.built t (ps.toList.map fun p => (p.1, evalV vs p.2)) = some cs → (execOp (evalV vs) o).run P w = .ok (.value (.agg cs)) w := by
          intro cs hb
          have := run_build (P := P) w t (ps.map fun p => (p.1, evalV vs p.2)) cs (by simpa using hb)
          simp only [execOp, ho, Sem.run_bind, this, Result.andThen_ok, Sem.run_pure]
        have hzr : RelL g' w zs z.cells.toList := by rw [← hz]; exact RelL.zero g' w z
        split at he
        · rename_i fs hu
          split at he
          · rename_i pl hpl
            split at he
            · rename_i cs hcs
              obtain ⟨c', k1, k2⟩ := fill_rel hzr i3 hcs
              refine .rel (v := .agg c') i1 i2 (key c' ?_) he (by have := RelL.agg k2; simpa using this)
              simp only [Program.built, hit, hu, hzz, places_mapM hpl]
              rw [← k1]
              congr 1
              funext i
              simp
            · cases he
          · cases he
        · rename_i len e hu
          split at he
          · rename_i n hn
            split at he
            · rename_i cs hcs
              obtain ⟨ie, hie, hsz⟩ := szOf_info hn
              obtain ⟨c', k1, k2⟩ := fill_rel hzr i3 hcs
              refine .rel (v := .agg c') i1 i2 (key c' ?_) he (by have := RelL.agg k2; simpa using this)
              simp only [Program.built, hit, hu, hzz, hie, hsz]
              exact k1
            · cases he
          · cases he
        · cases he
      · cases hz
    · cases hz
  · cases he

/-- Elements as they lie flat. -/
def Flat (g : Gh) (w : World) (s : Nat) (xs : List (List PV)) (c : Array Value) : Prop :=
  c.size = xs.length * s ∧ (∀ i, (h : i < xs.length) → xs[i].length = s) ∧ ∀ i j (hi : i < xs.length) (hj : j < xs[i].length), ∃ v, c[i * s + j]? = some v ∧ Rel g w xs[i][j] v

theorem mul_lt_of {i j n s : Nat} (hi : i < n) (hj : j < s) : i * s + j < n * s := by
  have : (i + 1) * s ≤ n * s := Nat.mul_le_mul_right _ hi
  rw [Nat.succ_mul] at this
  omega

theorem Flat.set {g : Gh} {w : World} {s : Nat} {xs : List (List PV)} {c : Array Value} (h : Flat g w s xs c) {k : Nat} (hk : k < xs.length) {cs : List PV} {us : List Value} (hl : cs.length = s) (hr : RelL g w cs us) : Flat g w s (xs.set k cs) (overw c (k * s) us) := by
  have hul : us.length = s := by rw [hr.1, hl]
  have hin : k * s + us.length ≤ c.size := by
    rw [h.1, hul]
    have : (k + 1) * s ≤ xs.length * s := Nat.mul_le_mul_right _ hk
    rw [Nat.succ_mul] at this
    omega
  refine ⟨by rw [overw_size, h.1, List.length_set], fun i hi => ?_, fun i j hi hj => ?_⟩
  · by_cases e : k = i
    · subst e; simp [hl]
    · rw [List.getElem_set_ne e]; exact h.2.1 i (by simpa using hi)
  · rw [overw_get us c _ hin]
    by_cases e : k = i
    · subst e
      simp only [List.getElem_set_self] at hj ⊢
      rw [if_pos (by omega), Nat.add_sub_cancel_left]
      exact ⟨us[j]'(by omega), List.getElem?_eq_getElem (by omega), hr.2 j hj (by omega)⟩
    · simp only [List.getElem_set_ne e] at hj ⊢
      have hi' : i < xs.length := by simpa using hi
      have hj' : j < s := by rw [← h.2.1 i hi']; exact hj
      rw [if_neg]
      · exact h.2.2 i j hi' hj
      · intro hh
        rcases Nat.lt_or_gt_of_ne e with h5 | h5
        · have h6 : (k + 1) * s ≤ i * s := Nat.mul_le_mul_right _ h5
          rw [Nat.succ_mul] at h6
          omega
        · have h6 : (i + 1) * s ≤ k * s := Nat.mul_le_mul_right _ h5
          rw [Nat.succ_mul] at h6
          omega

theorem fillE_rel {g : Gh} {w : World} {s : Nat} : ∀ {ys : List (Nat × List PV)} {us : List (Nat × Value)} {xs xs' : List (List PV)} {c : Array Value}, Flat g w s xs c → RelP g w ys us → fillE s xs ys = some xs' →
    ∃ c', Instr.fill (fun i => some (i * s, s)) c us = some c' ∧ Flat g w s xs' c' ∧ xs'.length = xs.length := by
  intro ys
  induction ys with
  | nil =>
    intro us xs xs' c h hp he
    cases us with
    | nil => injection he with he; subst he; exact ⟨c, rfl, h, rfl⟩
    | cons u us => exact hp.elim
  | cons y ys ih =>
    intro us xs xs' c h hp he
    cases us with
    | nil => obtain ⟨i, cs⟩ := y; exact hp.elim
    | cons u us =>
      obtain ⟨i, cs⟩ := y
      obtain ⟨j, v⟩ := u
      obtain ⟨rfl, h1, h2⟩ := hp
      simp only [fillE] at he
      split at he
      · rename_i hh
        rw [nrm_eq] at he
        have hsz : v.cells.size = s := by have := h1.1; simp at this; omega
        obtain ⟨c', k1, k2, k3⟩ := ih (h.set hh.2 hh.1 h1) h2 he
        refine ⟨c', ?_, k2, by rw [k3, List.length_set]⟩
        simp only [Instr.fill]
        have hin : i * s + s ≤ c.size := by
          rw [h.1]
          have : (i + 1) * s ≤ xs.length * s := Nat.mul_le_mul_right _ hh.2
          rw [Nat.succ_mul] at this
          omega
        rw [if_neg (by simp [hsz]; omega)]
        have hf := foldl_overw v.cells.toList c (i * s) 0
        have e : v.cells.zipIdx.foldl (fun cs p => cs.setIfInBounds (i * s + p.2) p.1) c = overw c (i * s) v.cells.toList := by
          rw [← Array.foldl_toList]
          simpa using hf
        rw [← k1, ← e]
      · cases he

theorem flat_zero (g : Gh) (w : World) (z : Value) (len s : Nat) (hs : z.cells.size = s) (_hp : 0 < s) : Flat g w s (List.replicate len (z.cells.toList.map const1)) ((Array.range (len * s)).map (z.cells[· % z.cells.size]!)) := by
  refine ⟨by simp, fun i hi => by simp [hs], fun i j hi hj => ?_⟩
  simp only [List.length_replicate] at hi
  simp only [List.getElem_replicate, List.length_map, Array.length_toList] at hj ⊢
  have hj' : j < s := by omega
  have hlt := mul_lt_of hi hj'
  refine ⟨z.cells[j], ?_, ?_⟩
  · rw [Array.getElem?_map, Array.getElem?_range, if_pos hlt]
    simp only [Option.map_some, hs]
    rw [Nat.mul_comm i s, Nat.mul_add_mod, Nat.mod_eq_of_lt hj', getElem!_pos z.cells j (by omega)]
  · have : (z.cells.toList.map const1)[j]'(by simpa using hj) = const1 z.cells[j] := by simp
    rw [this]
    exact rel_const1 g w _

theorem buildSlice_ok {P : Program} {o : Oper} {st st' : St} {g : Gh} {vs : Array Value} {w : World} (h : Inv P g st vs w) {t : TypeId} {len : Nat} {ps : Array (Nat × Operand)} (ho : o.op = .buildSlice t len ps) (he : evBuildSlice P st t len ps o.dst = some st') : OpOk P o vs w g st' := by
  unfold evBuildSlice at he
  split at he
  · rename_i e hu
    split at he
    · rename_i n zs ys st1 hn hz hp
      obtain ⟨g', i1, i2, i3, _⟩ := parts_sound h hp
      obtain ⟨z, hzr, hzs⟩ := run_zero hz w
      split at he
      · rename_i hh
        obtain ⟨hb, hzl⟩ := hh
        split at he
        · rename_i xs hxs
          have hzn : z.cells.size = n + 1 := by rw [← hzl, hzs]; simp
          have hfl := flat_zero g' w z len (n + 1) hzn (by omega)
          rw [← hzs] at hfl
          obtain ⟨c', k1, k2, k3⟩ := fillE_rel hfl i3 hxs
          rw [List.length_replicate] at k3
          have hrun : (execOp (evalV vs) o).run P w = .ok (.value (.slice (some ⟨w.heap.size, 0, none⟩) len len)) (w.alloc (.cells c' e)) := by
            have hps : (ps.map fun p => (p.1, evalV vs p.2)).toList = ps.toList.map fun p => (p.1, evalV vs p.2) := by simp
            simp only [execOp, ho, Instr.buildSlice, Sem.run_bind, run_und hu, Result.andThen_ok, run_size hn, Nat.succ_eq_add_one, hps]
            rw [if_neg (by omega)]
            by_cases e0 : len * (n + 1) = 0
            · rw [if_pos e0]
              have k1' : Instr.fill (fun i => some (i * (n + 1), n + 1)) ((Array.range (len * (n + 1))).map ((#[] : Array Value)[· % (#[] : Array Value).size]!)) (ps.toList.map fun p => (p.1, evalV vs p.2)) = some c' := by
                have k2' := k1
                rw [e0] at k2' ⊢
                have ea : ∀ f f' : Nat → Value, (Array.range 0).map f = (Array.range 0).map f' := fun f f' => by simp
                rw [ea _ (fun x => z.cells[x % z.cells.size]!)]
                exact k2'
              simp only [Sem.run_bind, Sem.run_pure, Result.andThen_ok, k1', newRow, run_newObj]
              rfl
            · rw [if_neg e0]
              simp only [Sem.run_bind, hzr, Sem.run_pure, Result.andThen_ok, k1, newRow, run_newObj]
              rfl
          cases hd : o.dst with
          | none =>
            rw [hd] at he
            injection he with he
            subst he
            -- a result that nobody takes
            have hE : Ext g' g' w (w.alloc (.cells c' e)) :=
              ⟨List.prefix_rfl, fun _ _ h => h, fun b i hb => cell_of_heap (heap_alloc_lt _ _ _ (i1.flt b i hb)) i, fun b hb _ => heap_alloc_lt _ _ _ hb, by rw [size_alloc]; omega, fun _ h => h, fun _ h => h, fun _ _ h => h, fun _ _ _ h => h, rfl, rfl, rfl⟩
            have hC : Chg (fun _ => False) g' g' w (w.alloc (.cells c' e)) := ⟨hE, fun b _ _ _ hb => heap_alloc_lt _ _ _ hb, fun _ _ h _ => h, fun _ _ _ _ _ h => h⟩
            refine ⟨_, .slice (some ⟨w.heap.size, 0, none⟩) len len, _, g', hrun, .inl rfl, ?_, i2.trans hE, fun _ => BoxKeep.alloc h _⟩
            rw [hd]
            refine i1.step hC i1.size (fun t x hx => .inr (.inl ⟨hx, rfl, fun _ => not_false, fun q hq => ⟨rfl, ?_⟩⟩)) i1.rlen (fun id ty cs b h1 h2 => .inl ⟨h1, h2, not_false, fun _ _ _ _ => not_false⟩) (fun id es b h1 h2 => .inl ⟨h1, h2, not_false⟩) i1.rown ?_ ?_ i1.fbox
            · cases q with
              | tmp t => rfl
              | cell id off => exact realAt_cell_same i1 hC rfl (by simp)
            · intro b o hb; rw [size_alloc]; have := i1.olt b o hb; omega
            · intro b i hb; rw [size_alloc]; have := i1.flt b i hb; omega
          | some d =>
            rw [hd] at he
            simp only [St.setD] at he
            split at he
            · rename_i hlt
              injection he with he
              subst he
              have hce := szOf_cells hn
              obtain ⟨j1, j2⟩ := i1.newOwn (e := e) (fl := .excl e) hlt rfl rfl (xs := xs) (c := c') (cap := xs.length) (fz := (0, 0)) (Nat.le_refl _) (by rw [hce]; exact k2.1) (fun i _ h => by omega) (fun i hi => by rw [hce]; exact k2.2.1 i hi) (fun i j hi hj => by rw [hce]; exact k2.2.2 i j hi hj)
              rw [k3] at j1
              refine ⟨_, _, _, _, hrun, .inl rfl, ?_, i2.trans j2, fun _ => BoxKeep.alloc h _⟩
              rw [hd]
              exact j1
            · cases he
        · cases he
      · cases he
    · cases he
  · cases he

end Go.AM
