/- The abstract machine, 9: operations, the first half. -/
import Derived.Test.YtpbbgkmpjcddbaaA8
import Derived.Laws.Cells
set_option linter.all false
namespace Go.AM

/-- The boxes' blocks are as they were. -/
def BoxKeep (g : Gh) (w w' : World) : Prop := ∀ id b : Nat, g.rho[id]? = some b → w'.heap[b]? = w.heap[b]?
theorem BoxKeep.refl (g : Gh) (w : World) : BoxKeep g w w := fun _ _ _ => rfl
/-- Operations that write no box. -/
def keepKind : Op → Bool
  | .store .. => false
  | .box .. => false
  | _ => true
theorem BoxKeep.alloc {P : Program} {st : St} {g : Gh} {vs : Array Value} {w : World} (h : Inv P g st vs w) (o : Obj) : BoxKeep g w (w.alloc o) := fun id b hb => by
  have hlt := h.olt b _ (h.rown id b hb)
  simp only [World.alloc]
  rw [Array.getElem?_push, if_neg (by omega)]

/-- What is reckoned of an operation the machine does. -/
def OpOk (P : Program) (o : Oper) (vs : Array Value) (w : World) (g : Gh) (st' : St) : Prop :=
  ∃ r v w' g', (execOp (evalV vs) o).run P w = .ok r w' ∧ (r = .value v ∨ (r = .skip ∧ v = undef)) ∧ Inv P g' st' (putT vs o.dst v) w' ∧ Ext g g' w w' ∧ (keepKind o.op = true → BoxKeep g w w')

theorem OpOk.rel {P : Program} {o : Oper} {vs : Array Value} {w : World} {g g1 : Gh} {st1 st' : St} {x : PV} {v : Value} (h : Inv P g1 st1 vs w) (hE : Ext g g1 w w)
    (hrun : (execOp (evalV vs) o).run P w = .ok (.value v) w) (hs : st1.setD o.dst x = some st') (hr : Rel g1 w x v) : OpOk P o vs w g st' :=
  ⟨_, v, w, g1, hrun, .inl rfl, setD_rel h hs hr, hE, fun _ => .refl _ _⟩

theorem setD_alias {P : Program} {st st' : St} {g : Gh} {vs : Array Value} {w : World} (h : Inv P g st vs w) {d : Option Tmp} {q : Plc} {v : Value} (hs : st.setD d (.alias q) = some st') (hq : ∀ t, d = some t → q ≠ .tmp t)
    {fl : Flag} {n : Bool} {xs : List (List PV)} (hc : contentAt st q = some (.sl fl n xs)) (ho : fl.isOwn = true) (hv : realAt g vs w q = some v) : Inv P g st' (putT vs d v) w := by
  cases d with
  | none => injection hs with hs; subst hs; exact h
  | some d =>
    simp only [St.setD] at hs
    split at hs
    · rename_i hd
      injection hs with hs
      subst hs
      exact h.setAlias hd (hq d rfl) hc ho hv
    · cases hs

theorem setD_elem {P : Program} {st st' : St} {g : Gh} {vs : Array Value} {w : World} (h : Inv P g st vs w) {d : Option Tmp} {q : Plc} {k off : Nat} {v : Value} (hs : st.setD d (.elem q k off) = some st') (hq : ∀ t, d = some t → q ≠ .tmp t)
    {p : Plc} (hsl : Slot P st g vs w p (.elem q k off) v) : Inv P g st' (putT vs d v) w := by
  cases d with
  | none => injection hs with hs; subst hs; exact h
  | some d =>
    simp only [St.setD] at hs
    split at hs
    · rename_i hd
      injection hs with hs
      subst hs
      exact h.setElem hd (hq d rfl) hsl
    · cases hs

theorem tmp_val {P : Program} {st : St} {g : Gh} {vs : Array Value} {w : World} (h : Inv P g st vs w) {t : Nat} {x : PV} (hx : st.get t = some x) : vs[t]? = some (evalV vs (.tmp t)) ∧ Slot P st g vs w (.tmp t) x (evalV vs (.tmp t)) := by
  obtain ⟨v, hv, hs⟩ := h.slot t x hx
  rw [evalV_tmp hv]
  exact ⟨hv, hs⟩

theorem move_inv {P : Program} {st st' : St} {g : Gh} {vs : Array Value} {w : World} (h : Inv P g st vs w) {x : Operand} {d : Option Tmp} (he : evMove st x d = some st') : Inv P g st' (putT vs d (evalV vs x)) w := by
  cases x with
  | const v => exact setD_rel h he (rel_constPV g w v)
  | func f => exact setD_rel h he (Rel.fn _ [] [] #[] #[] rfl rfl (fun _ hi => by simp at hi) (fun _ hi => by simp at hi))
  | global _ => cases he
  | tmp s =>
    simp only [evMove] at he
    split at he
    · rename_i fl n xs hc
      obtain ⟨hv, hs⟩ := tmp_val h hc
      split at he
      · rename_i ho
        split at he
        · cases he
        · rename_i hd
          exact setD_alias h he (fun t ht e => by injection e with e; subst e; exact hd ht) hc ho hv
      · rename_i ho
        exact setD_rel h he (slot_rel hs (by simpa [PV.isOwn] using ho) rfl (by simp))
    · rename_i q hc
      obtain ⟨hv, ⟨fl, n, xs, k1, k2⟩, k3⟩ := tmp_val h hc
      cases d with
      | none => injection he with he; subst he; exact h
      | some t =>
        simp only at he
        split at he
        · cases he
        · rename_i hne
          exact setD_alias h he (fun t' ht => by injection ht with ht; subst ht; exact hne) k1 k2 k3
    · rename_i q k off hc
      obtain ⟨hv, hs⟩ := tmp_val h hc
      cases d with
      | none => injection he with he; subst he; exact h
      | some t =>
        simp only at he
        split at he
        · cases he
        · rename_i hne
          exact setD_elem h he (fun t' ht => by injection ht with ht; subst ht; exact hne) hs
    · cases he
    · rename_i y n1 n2 n3 n4 hc
      obtain ⟨hv, hs⟩ := tmp_val h hc
      refine setD_rel h he (slot_rel hs ?_ ?_ ?_)
      · cases y with
        | sl fl n xs => exact absurd rfl (n1 fl n xs)
        | _ => rfl
      · cases y with
        | alias q => exact absurd rfl (n2 q)
        | elem q k off => exact absurd rfl (n3 q k off)
        | _ => rfl
      · rintro rfl; exact n4 rfl
    · cases he

theorem mvD_inv {P : Program} {st st' : St} {g : Gh} {vs : Array Value} {w : World} (h : Inv P g st vs w) {q : Plc} {d : Option Tmp} {fl : Flag} {n : Bool} {xs : List (List PV)} (hc : contentAt st q = some (.sl fl n xs)) (ho : fl.isOwn = true) {v : Value}
    (hv : realAt g vs w q = some v) (he : st.mvD q d = some st') : ∃ g', Inv P g' st' (putT vs d v) w ∧ Ext g g' w w := by
  unfold St.mvD at he
  rw [hc] at he
  cases d with
  | none => cases he
  | some d =>
    simp only at he
    split at he
    · rename_i hh
      injection he with he
      subst he
      exact h.moveTmp hh.1 hh.2 hc ho hv
    · cases he

theorem assign_inv {P : Program} {C : Ctx} {st st' : St} {g : Gh} {vs : Array Value} {w : World} (h : Inv P g st vs w) {x : Operand} {d : Option Tmp} (he : evAssign C st x d = some st') : ∃ g', Inv P g' st' (putT vs d (evalV vs x)) w ∧ Ext g g' w w := by
  unfold evAssign at he
  split at he
  · rename_i q hq
    obtain ⟨fl, n, xs, k1, k2, k3, _⟩ := plc_slot h hq
    cases x with
    | tmp s =>
      simp only at he
      split at he
      · exact mvD_inv h k1 k2 k3 he
      · split at he
        · rename_i y st1 hu
          obtain ⟨g', v, i1, i2, i3, i4, i5, _⟩ := useP_sound h hu
          rw [k3] at i3
          injection i3 with i3
          subst i3
          exact ⟨g', setD_rel i1 he i4, i2⟩
        · cases he
    | const _ => cases he
    | func _ => cases he
    | global _ => cases he
  · split at he
    · rename_i y st1 hu
      obtain ⟨g', i1, i2, i3, _⟩ := use_sound h hu
      exact ⟨g', setD_rel i1 he i3, i2⟩
    · cases he

theorem move_ok {P : Program} {o : Oper} {st st' : St} {g : Gh} {vs : Array Value} {w : World} (h : Inv P g st vs w) {x : Operand} (ho : o.op = .move x) (he : evMove st x o.dst = some st') : OpOk P o vs w g st' :=
  ⟨_, evalV vs x, w, g, by simp only [execOp, ho]; rfl, .inl rfl, move_inv h he, Ext.refl _ _, fun _ => .refl _ _⟩

theorem assign_ok {P : Program} {C : Ctx} {o : Oper} {st st' : St} {g : Gh} {vs : Array Value} {w : World} (h : Inv P g st vs w) {x : Operand} (ho : o.op = .assign x) (he : evAssign C st x o.dst = some st') : OpOk P o vs w g st' := by
  obtain ⟨g', h1, h2⟩ := assign_inv h he
  exact ⟨_, evalV vs x, w, g', by simp only [execOp, ho]; rfl, .inl rfl, h1, h2, fun _ => .refl _ _⟩

theorem pick_ok {P : Program} {o : Oper} {st st' : St} {g : Gh} {vs : Array Value} {w : World} (h : Inv P g st vs w) {c x y : Operand} (ho : o.op = .pick c x y) (he : evPick st c x y o.dst = some st') : OpOk P o vs w g st' := by
  unfold evPick at he
  split at he
  · rename_i hb
    have hv := bool_val h hb
    split at he
    · rename_i v hx
      obtain ⟨p, hs⟩ := peek_slot h hx
      have e := val_slot (u := v) rfl hs
      exact .rel (v := v) h (Ext.refl _ _) (by simp [execOp, ho, hv, asBool, e]) he (.lit v)
    · cases he
  · rename_i hb
    have hv := bool_val h hb
    split at he
    · rename_i v hx
      obtain ⟨p, hs⟩ := peek_slot h hx
      have e := val_slot (u := v) rfl hs
      exact .rel (v := v) h (Ext.refl _ _) (by simp [execOp, ho, hv, asBool, e]) he (.lit v)
    · cases he
  · cases he

/-! ### What the tables say -/
theorem szOf_info {P : Program} {t : TypeId} {n : Nat} (h : szOf P t = some n) : ∃ i, P.info? t = some i ∧ i.size = n := by
  unfold szOf at h
  split at h
  · rename_i i hi
    injection h with h
    exact ⟨i, hi, h⟩
  · cases h
theorem szOf_cells {P : Program} {t : TypeId} {n : Nat} (h : szOf P t = some n) : P.cellsOf t = n := by
  obtain ⟨i, hi, hn⟩ := szOf_info h
  simp [Program.cellsOf, hi, hn]
theorem run_size {P : Program} {t : TypeId} {n : Nat} (h : szOf P t = some n) (w : World) : (sizeOf t).run P w = .ok n w := by
  obtain ⟨i, hi, hn⟩ := szOf_info h
  simp [sizeOf, typeInfo, hi, hn]
theorem run_agg {P : Program} {t : TypeId} {b : Bool} (h : aggT P t = some b) (w : World) : (isAgg t).run P w = .ok b w := by
  unfold aggT at h
  split at h
  · rename_i hu; injection h with h; subst h; simp [isAgg, underlying, hu]
  · rename_i hu; injection h with h; subst h; simp [isAgg, underlying, hu]
  · rename_i d n1 n2 hu
    injection h with h; subst h
    cases d <;> first | (simp [isAgg, underlying, hu]; done) | (rename_i fs; exact absurd rfl (n1 fs)) | (rename_i k e; exact absurd rfl (n2 k e))
  · cases h
theorem run_zero {P : Program} {t : TypeId} {zs : List PV} (h : zeroPV P t = some zs) (w : World) : ∃ v : Value, (zeroValue t).run P w = .ok v w ∧ zs = v.cells.toList.map const1 := by
  unfold zeroPV at h
  split at h
  · rename_i i hi
    split at h
    · rename_i v hv
      injection h with h
      exact ⟨v, by simp [zeroValue, typeInfo, hi, hv], h.symm⟩
    · cases h
  · cases h
theorem run_und {P : Program} {t : TypeId} {d : TypeDesc} (h : P.underlying t = some d) (w : World) : (underlying t).run P w = .ok d w := by simp [underlying, h]

/-- A row of frozen cells. -/
def RelL (g : Gh) (w : World) (cs : List PV) (vs : List Value) : Prop := vs.length = cs.length ∧ ∀ i (hi : i < cs.length) (hv : i < vs.length), Rel g w cs[i] vs[i]

theorem RelL.agg {g : Gh} {w : World} {cs : List PV} {vs : List Value} (h : RelL g w cs vs) : Rel g w (.agg cs) (.agg vs.toArray) :=
  .agg _ _ (by simpa using h.1) fun i hi hv => by simpa using h.2 i hi (by simpa using hv)
theorem RelL.of_agg {g : Gh} {w : World} {cs : List PV} {vs : Array Value} (h : Rel g w (.agg cs) (.agg vs)) : RelL g w cs vs.toList := by
  cases h with
  | agg _ _ hl hr => exact ⟨by simpa using hl, fun i hi hv => by rw [Array.getElem_toList]; exact hr i hi (by simpa using hv)⟩
theorem RelL.zero (g : Gh) (w : World) (v : Value) : RelL g w (v.cells.toList.map const1) v.cells.toList :=
  ⟨by simp, fun i hi hv => by simpa using rel_const1 g w _⟩
theorem RelL.single {g : Gh} {w : World} {x : PV} {v : Value} (h : Rel g w x v) : RelL g w [x] [v] :=
  ⟨rfl, fun i hi hv => by simp at hi; subst hi; exact h⟩
theorem RelL.cells {g : Gh} {w : World} {x : PV} {v : Value} (h : Rel g w x v) : RelL g w x.cells v.cells.toList := by
  cases h with
  | agg cs vs hl hr => exact ⟨by simpa [PV.cells, Value.cells] using hl, fun i hi hv => by
      have hv' : i < vs.size := by simpa [Value.cells] using hv
      exact hr i hi hv'⟩
  | lit v =>
    cases v with
    | agg cs => exact RelL.zero g w (.agg cs)
    | _ => exact RelL.single (.lit _)
  | ptr id off b h => exact RelL.single (.ptr id off b h)
  | nilp => exact RelL.single .nilp
  | slnil fl => exact RelL.single (.slnil fl)
  | slz => exact RelL.single .slz
  | slv xs b o cap s vals a1 a2 a3 a4 => exact RelL.single (.slv xs b o cap s vals a1 a2 a3 a4)
  | tup cs vs a1 a2 => exact RelL.single (.tup cs vs a1 a2)
  | ifc t x v h => exact RelL.single (.ifc t x v h)
  | fn f fs cs vf vc a1 a2 a3 a4 => exact RelL.single (.fn f fs cs vf vc a1 a2 a3 a4)
  | map id b h => exact RelL.single (.map id b h)
  | elemv cs off b o vals a1 a2 => exact RelL.single (.elemv cs off b o vals a1 a2)

end Go.AM
