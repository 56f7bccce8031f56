/- The abstract machine, 2: what is left alone stays. -/
import Derived.Test.YtpbbgkmpjcddbaaA1
set_option linter.all false
namespace Go.AM

/-- What some steps did: but for blocks whose owners are among 'A', all blocks that have one are as they were. -/
structure Chg (A : Own → Prop) (g g' : Gh) (w w' : World) : Prop where
  ext : Ext g g' w w'
  heap : ∀ b o, g.ow b = some o → ¬ A o → b < w.heap.size → w'.heap[b]? = w.heap[b]?
  ow : ∀ b o, g.ow b = some o → ¬ A o → g'.ow b = some o
  fp : ∀ b o i, g.ow b = some o → ¬ A o → g'.FP b i → g.FP b i

theorem Chg.refl (A : Own → Prop) (g : Gh) (w : World) : Chg A g g w w :=
  ⟨Ext.refl g w, fun _ _ _ _ _ => rfl, fun _ _ h _ => h, fun _ _ _ _ _ h => h⟩

theorem cell_of_heap {w w' : World} {b : Nat} (h : w'.heap[b]? = w.heap[b]?) (i : Nat) : w'.cell? ⟨b, i, none⟩ = w.cell? ⟨b, i, none⟩ := by
  simp only [World.cell?, h]

theorem Elems.mono {g g' : Gh} {w w' : World} {b o s : Nat} {xs : List (List PV)} (h : Elems g w b o s xs)
    (hE : Ext g g' w w') (hc : ∀ i, w'.cell? ⟨b, i, none⟩ = w.cell? ⟨b, i, none⟩) : Elems g' w' b o s xs := by
  refine ⟨h.1, fun i j hi hj => ?_⟩
  obtain ⟨v, h1, h2⟩ := h.2 i j hi hj
  exact ⟨v, (hc _).trans h1, h2.ext hE⟩

theorem OwnBlk.chg {P : Program} {A : Own → Prop} {g g' : Gh} {w w' : World} {p : Plc} {ex : Bool} {e : TypeId} {xs : List (List PV)} {b cap : Nat}
    (h : OwnBlk P g w p ex e xs b cap) (hC : Chg A g g' w w') (hA : ¬ A (.plc p)) : OwnBlk P g' w' p ex e xs b cap := by
  obtain ⟨c, fz, hb, hs, hz⟩ := h.blk
  have hlt : b < w.heap.size := (Array.getElem?_eq_some_iff.1 hb).1
  have hh := hC.heap b _ h.ow hA hlt
  exact ⟨h.hcap, ⟨c, fz, hh.trans hb, hs, hz⟩, hC.ow b _ h.ow hA, h.el.mono hC.ext (cell_of_heap hh),
    fun he i hf => h.ex_ he i (hC.fp b _ i h.ow hA hf), fun i hi hf => h.fr i hi (hC.fp b _ i h.ow hA hf)⟩

theorem OwnOk.chg {P : Program} {A : Own → Prop} {g g' : Gh} {w w' : World} {p : Plc} {ex : Bool} {e : TypeId} {n : Bool} {xs : List (List PV)} {v : Value}
    (h : OwnOk P g w p ex e n xs v) (hC : Chg A g g' w w') (hA : ¬ A (.plc p)) : OwnOk P g' w' p ex e n xs v := by
  rcases h with h | ⟨hn, b, cap, hv, hb⟩
  · exact .inl h
  · exact .inr ⟨hn, b, cap, hv, hb.chg hC hA⟩

/-- A slot that is left alone. -/
theorem Slot.chg {P : Program} {A : Own → Prop} {st st' : St} {g g' : Gh} {vs vs' : Array Value} {w w' : World} {p : Plc} {x : PV} {v : Value}
    (h : Slot P st g vs w p x v) (hC : Chg A g g' w w') (hA : x.isOwn = true → ¬ A (.plc p))
    (hal : ∀ q, (x = .alias q ∨ ∃ k off, x = .elem q k off) → contentAt st' q = contentAt st q ∧ realAt g' vs' w' q = realAt g vs w q) :
    Slot P st' g' vs' w' p x v := by
  match x with
  | .sl (.own e) n xs => exact OwnOk.chg h hC (hA rfl)
  | .sl (.excl e) n xs => exact OwnOk.chg h hC (hA rfl)
  | .alias q =>
    obtain ⟨h1, h2⟩ := hal q (.inl rfl)
    simp only [Slot] at h ⊢
    rw [h1, h2]; exact h
  | .elem q k off =>
    obtain ⟨h1, h2⟩ := hal q (.inr ⟨k, off, rfl⟩)
    simp only [Slot] at h ⊢
    rw [h1, h2]; exact h
  | .dead => trivial
  | .lit _ => exact Rel.ext hC.ext h
  | .ptr _ _ => exact Rel.ext hC.ext h
  | .nilp => exact Rel.ext hC.ext h
  | .sl .view _ _ => exact Rel.ext hC.ext h
  | .agg _ => exact Rel.ext hC.ext h
  | .tup _ => exact Rel.ext hC.ext h
  | .ifc _ _ => exact Rel.ext hC.ext h
  | .fn _ _ _ => exact Rel.ext hC.ext h
  | .map _ => exact Rel.ext hC.ext h
  | .elemv _ _ => exact Rel.ext hC.ext h

theorem slot_cell {P : Program} {st st' : St} {g : Gh} {vs vs' : Array Value} {w : World} {p : Plc} {x : PV} {v : Value}
    (h : Slot P st g vs w p x v) (hn : x.noAl = true) : Slot P st' g vs' w p x v := by
  cases x with
  | sl fl n xs => cases fl <;> exact h
  | alias _ => simp [PV.noAl] at hn
  | elem _ _ _ => simp [PV.noAl] at hn
  | _ => exact h

/-- The master law of a step. -/
theorem Inv.step {P : Program} {A : Own → Prop} {st st' : St} {g g' : Gh} {vs vs' : Array Value} {w w' : World} (h : Inv P g st vs w) (hC : Chg A g g' w w')
    (hsize : vs'.size = st'.n)
    (hslot : ∀ (t : Nat) (x : PV), st'.get t = some x → x = .dead ∨ (st.get t = some x ∧ vs'[t]? = vs[t]? ∧ (x.isOwn = true → ¬ A (.plc (.tmp t))) ∧
        ∀ q, (x = .alias q ∨ ∃ k off, x = .elem q k off) → contentAt st' q = contentAt st q ∧ realAt g' vs' w' q = realAt g vs w q) ∨
      ∃ v, vs'[t]? = some v ∧ Slot P st' g' vs' w' (.tmp t) x v)
    (hrlen : g'.rho.length = st'.σ.length)
    (hbox : ∀ (id : Nat) (ty : TypeId) (cs : List PV) (b : Nat), st'.σ[id]? = some (Bx.cells ty cs) → g'.rho[id]? = some b →
      (st.σ[id]? = some (Bx.cells ty cs) ∧ g.rho[id]? = some b ∧ ¬ A (.box id) ∧ ∀ (off : Nat) (x : PV), cs[off]? = some x → x.isOwn = true → ¬ A (.plc (.cell id off))) ∨
      ∃ c fz, w'.heap[b]? = some (.cells c ty fz) ∧ Unfz fz c.size ∧ c.size = cs.length ∧
        ∀ (off : Nat) (x : PV), cs[off]? = some x → x.noAl = true ∧ ∃ v, c[off]? = some v ∧ Slot P st' g' vs' w' (.cell id off) x v)
    (hbmap : ∀ (id : Nat) (es : List (Value × Value)) (b : Nat), st'.σ[id]? = some (Bx.mp es) → g'.rho[id]? = some b →
      (st.σ[id]? = some (Bx.mp es) ∧ g.rho[id]? = some b ∧ ¬ A (.box id)) ∨
      ∃ en ck, w'.heap[b]? = some (Obj.map en ck) ∧ en.toList.map (fun e => (e.key, e.val)) = es)
    (hrown : ∀ (id b : Nat), g'.rho[id]? = some b → g'.ow b = some (.box id))
    (holt : ∀ b o, g'.ow b = some o → b < w'.heap.size)
    (hflt : ∀ b i, g'.FP b i → b < w'.heap.size)
    (hfbox : ∀ b i id, g'.ow b = some (.box id) → ¬ g'.FP b i) : Inv P g' st' vs' w' where
  size := hsize
  slot t x hx := by
    rcases hslot t x hx with rfl | ⟨h1, h2, h3, h4⟩ | h1
    · have ht : t < st'.n := get_lt hx
      exact ⟨vs'[t]'(by omega), Array.getElem?_eq_getElem (by omega), trivial⟩
    · obtain ⟨v, hv, hs⟩ := h.slot t x h1
      exact ⟨v, h2.trans hv, hs.chg hC h3 h4⟩
    · exact h1
  rlen := hrlen
  box id ty cs b h1 h2 := by
    rcases hbox id ty cs b h1 h2 with ⟨k1, k2, k3, k4⟩ | k
    · obtain ⟨c, fz, hb, hz, hs, hx⟩ := h.box id ty cs b k1 k2
      have ho := h.rown id b k2
      have hlt := h.olt b _ ho
      refine ⟨c, fz, (hC.heap b _ ho k3 hlt).trans hb, hz, hs, fun off x hox => ?_⟩
      obtain ⟨hn, v, hv, hsl⟩ := hx off x hox
      refine ⟨hn, v, hv, hsl.chg hC (k4 off x hox) ?_⟩
      rintro q (rfl | ⟨_, _, rfl⟩) <;> simp [PV.noAl] at hn
    · exact k
  bmap id es b h1 h2 := by
    rcases hbmap id es b h1 h2 with ⟨k1, k2, k3⟩ | k
    · obtain ⟨en, ck, hb, he⟩ := h.bmap id es b k1 k2
      have ho := h.rown id b k2
      exact ⟨en, ck, (hC.heap b _ ho k3 (h.olt b _ ho)).trans hb, he⟩
    · exact k
  rown := hrown
  olt := holt
  flt := hflt
  fbox := hfbox


theorem alias_content {P : Program} {st : St} {g : Gh} {vs : Array Value} {w : World} (h : Inv P g st vs w) {t : Nat} {x : PV} {q : Plc}
    (hx : st.get t = some x) (hq : x = .alias q ∨ ∃ k off, x = .elem q k off) : ∃ fl n xs, contentAt st q = some (.sl fl n xs) ∧ fl.isOwn = true := by
  obtain ⟨v, _, hs⟩ := h.slot t x hx
  rcases hq with rfl | ⟨k, off, rfl⟩
  · exact hs.1
  · obtain ⟨fl, xs, b, cap, h1, h2, _⟩ := hs
    exact ⟨fl, false, xs, h1, h2⟩

/-! ### The state's moves -/

def killA (p : Plc) (x : PV) : PV :=
  match x with
  | .alias q => if q = p then .dead else x
  | .elem q _ _ => if q = p then .dead else x
  | _ => x

def killL (p : Plc) : List (Nat × PV) → List (Nat × PV)
  | [] => []
  | (k, x) :: r => (k, killA p x) :: killL p r
def St.kill (st : St) (p : Plc) : St := { st with ts := killL p st.ts }
theorem lkp_kill (p : Plc) (l : List (Nat × PV)) (t : Nat) : lkp (killL p l) t = killA p (lkp l t) := by
  induction l with
  | nil => rfl
  | cons q r ih =>
    obtain ⟨k, x⟩ := q
    simp only [killL, lkp]
    cases Nat.beq k t <;> simp [ih]
theorem get_kill (st : St) (p : Plc) (t : Nat) : (st.kill p).get t = (st.get t).map (killA p) := by
  simp only [St.get, St.kill, lkp_kill]
  split <;> rfl

def setBx (off : Nat) (x : PV) : Bx → Bx
  | .cells ty cs => .cells ty (cs.set off x)
  | m => m

def St.putP (st : St) (p : Plc) (x : PV) : St :=
  match p with
  | .tmp t => { st with ts := upd st.ts t x }
  | .cell id off => { st with σ := st.σ.modify id (setBx off x) }

def ownAt (st : St) (p : Plc) : Bool :=
  match contentAt st p with
  | some x => x.isOwn
  | none => false

def St.setP (st : St) (p : Plc) (x : PV) : St := if ownAt st p then (st.kill p).putP p x else st.putP p x

theorem killA_own {p : Plc} {x : PV} (h : x.noAl = true) : killA p x = x := by
  cases x <;> first | rfl | simp [PV.noAl] at h

theorem sl_noAl (fl : Flag) (n : Bool) (xs : List (List PV)) : (PV.sl fl n xs).noAl = true := rfl

theorem contentAt_kill {st : St} {p q : Plc} {x : PV} (h : contentAt st q = some x) (hn : x.noAl = true) : contentAt (st.kill p) q = some x := by
  cases q with
  | tmp t => simp only [contentAt, get_kill] at h ⊢; rw [h]; simp [killA_own hn]
  | cell id off => exact h

theorem contentAt_put_self {st : St} {p : Plc} {x y : PV} (h : contentAt st p = some y) : contentAt (st.putP p x) p = some x := by
  cases p with
  | tmp t =>
    simp only [contentAt, St.putP] at h ⊢
    have := get_lt h
    simp [St.get, this, lkp_upd_self]
  | cell id off =>
    simp only [contentAt, St.putP, List.getElem?_modify] at h ⊢
    split at h
    · rename_i ty cs hb
      rw [hb]
      have := (List.getElem?_eq_some_iff.1 h).1
      simp [setBx, this]
    · simp at h

theorem contentAt_put_ne {st : St} {p q : Plc} {x : PV} (h : q ≠ p) : contentAt (st.putP p x) q = contentAt st q := by
  cases p with
  | tmp t => cases q with
    | tmp u =>
      have : t ≠ u := fun e => h (by rw [e])
      simp [contentAt, St.putP, St.get, lkp_upd_ne _ x this]
    | cell id off => rfl
  | cell id off => cases q with
    | tmp u => rfl
    | cell id' off' =>
      simp only [contentAt, St.putP, List.getElem?_modify]
      by_cases e : id = id'
      · subst e
        have ho : off ≠ off' := fun e => h (by rw [e])
        simp only [if_pos]
        cases hb : st.σ[id]? with
        | none => rfl
        | some b => cases b with
          | cells ty cs => simp [setBx, ho]
          | mp es => simp [setBx]
      · cases hb : st.σ[id']? <;> simp [e]

theorem contentAt_set_ne {st : St} {p q : Plc} {x y : PV} (h : q ≠ p) (hc : contentAt st q = some y) (hn : y.noAl = true) : contentAt (st.setP p x) q = some y := by
  unfold St.setP
  split
  · rw [contentAt_put_ne h]; exact contentAt_kill hc hn
  · rw [contentAt_put_ne h]; exact hc

theorem contentAt_set_self {st : St} {p : Plc} {x y : PV} (h : contentAt st p = some y) : contentAt (st.setP p x) p = some x := by
  unfold St.setP
  split
  · rename_i ho
    have : y.isOwn = true := by simpa [ownAt, h] using ho
    refine contentAt_put_self (contentAt_kill h ?_)
    cases y <;> first | rfl | simp [PV.isOwn] at this
  · exact contentAt_put_self h

/-- A slot of the new state, but the one that was set: dead, or the very one that was; and no name in it is of the place that was set. -/
theorem set_slot {P : Program} {st : St} {g : Gh} {vs : Array Value} {w : World} (h : Inv P g st vs w) {p : Plc} {x : PV} {t : Nat} {y : PV}
    (hy : (st.setP p x).get t = some y) (hne : p ≠ .tmp t) :
    y = .dead ∨ (st.get t = some y ∧ ∀ q, (y = .alias q ∨ ∃ k off, y = .elem q k off) → q ≠ p ∧ ∃ fl n xs, contentAt st q = some (.sl fl n xs) ∧ contentAt (st.setP p x) q = some (.sl fl n xs) ∧ fl.isOwn = true) := by
  have key : ∀ {q : Plc}, q ≠ p → (∃ fl n xs, contentAt st q = some (.sl fl n xs) ∧ fl.isOwn = true) →
      q ≠ p ∧ ∃ fl n xs, contentAt st q = some (.sl fl n xs) ∧ contentAt (st.setP p x) q = some (.sl fl n xs) ∧ fl.isOwn = true := by
    rintro q hq ⟨fl, n, xs, h1, h2⟩
    exact ⟨hq, fl, n, xs, h1, contentAt_set_ne hq h1 rfl, h2⟩
  have hput : ∀ s : St, (s.putP p x).get t = s.get t := by
    intro s
    cases p with
    | tmp u =>
      have : u ≠ t := fun e => hne (by rw [e])
      simp [St.putP, St.get, lkp_upd_ne _ x this]
    | cell id off => rfl
  by_cases ho : ownAt st p = true
  · rw [show st.setP p x = (st.kill p).putP p x by unfold St.setP; rw [if_pos ho], hput] at hy
    rw [get_kill] at hy
    simp only [Option.map_eq_some_iff] at hy
    obtain ⟨z, hz, rfl⟩ := hy
    have hac := fun q hq => alias_content h (x := z) (q := q) hz hq
    cases z with
    | alias q =>
      by_cases e : q = p
      · left; simp [killA, e]
      · right
        simp only [killA, e, if_false]
        refine ⟨hz, ?_⟩
        rintro q' (e' | ⟨_, _, e'⟩)
        · injection e' with e'; subst e'; exact key e (hac _ (.inl rfl))
        · cases e'
    | elem q k off =>
      by_cases e : q = p
      · left; simp [killA, e]
      · right
        simp only [killA, e, if_false]
        refine ⟨hz, ?_⟩
        rintro q' (e' | ⟨_, _, e'⟩)
        · cases e'
        · injection e' with e'; subst e'; exact key e (hac _ (.inr ⟨_, _, rfl⟩))
    | _ =>
      right
      refine ⟨hz, ?_⟩
      rintro q' (e' | ⟨_, _, e'⟩) <;> simp [killA] at e'
  · rw [show st.setP p x = st.putP p x by unfold St.setP; rw [if_neg ho], hput] at hy
    right
    refine ⟨hy, fun q hq => ?_⟩
    obtain ⟨fl, n, xs, h1, h2⟩ := alias_content h hy hq
    have hqp : q ≠ p := by
      rintro rfl
      exact ho (by simp [ownAt, h1, PV.isOwn, h2])
    exact key hqp ⟨fl, n, xs, h1, h2⟩

end Go.AM
