/- The abstract machine, 1: values as trees, the abstract store, and how they stand to the machine's memory. -/
import Derived.Tactics
import Derived.Laws.World
set_option linter.all false
namespace Go.AM

inductive Plc where
  | tmp (t : Nat)
  | cell (id off : Nat)
  deriving DecidableEq, Inhabited

inductive Flag where
  | view
  | own (e : TypeId)
  | excl (e : TypeId)
  deriving DecidableEq, Inhabited

/-- Values as trees. A slice bears its elements, each a list of cells; its mark: it is nil for sure. -/
inductive PV where
  | lit (v : Value)
  | ptr (id off : Nat)
  | nilp
  | sl (fl : Flag) (isnil : Bool) (xs : List (List PV))
  | agg (cs : List PV)
  | tup (vs : List PV)
  | ifc (t : TypeId) (v : PV)
  | fn (f : Fn) (first captured : List PV)
  | map (id : Nat)
  | alias (p : Plc)
  | elem (p : Plc) (k off : Nat)
  | elemv (cs : List PV) (off : Nat)
  | dead
  deriving Inhabited

inductive Bx where
  | cells (ty : TypeId) (cs : List PV)
  | mp (es : List (Value × Value))
  deriving Inhabited

/-- The tmps that are known (the others are dead), how many there are; the boxes. -/
structure St where
  ts : List (Nat × PV)
  n : Nat
  σ : List Bx
  deriving Inhabited

def lkp : List (Nat × PV) → Nat → PV
  | [], _ => .dead
  | (k, x) :: r, t => match Nat.beq k t with
    | true => x
    | false => lkp r t
def del : List (Nat × PV) → Nat → List (Nat × PV)
  | [], _ => []
  | (k, x) :: r, t => match Nat.beq k t with
    | true => del r t
    | false => (k, x) :: del r t
def upd (l : List (Nat × PV)) (t : Nat) (x : PV) : List (Nat × PV) := (t, x) :: del l t
def St.get (st : St) (t : Nat) : Option PV := if t < st.n then some (lkp st.ts t) else none

theorem get_lt {st : St} {t : Nat} {x : PV} (h : st.get t = some x) : t < st.n := by
  unfold St.get at h
  split at h
  · assumption
  · cases h
theorem beq_ne {a b : Nat} (h : a ≠ b) : Nat.beq a b = false := by
  cases e : Nat.beq a b with
  | false => rfl
  | true => exact absurd (Nat.eq_of_beq_eq_true e) h
theorem lkp_del_ne (l : List (Nat × PV)) {t u : Nat} (h : t ≠ u) : lkp (del l t) u = lkp l u := by
  induction l with
  | nil => rfl
  | cons p r ih =>
    obtain ⟨k, x⟩ := p
    by_cases e : k = t
    · subst e
      simp [del, Nat.beq_refl, lkp, beq_ne h, ih]
    · simp only [del, beq_ne e, lkp, ih]
theorem lkp_upd_self (l : List (Nat × PV)) (t : Nat) (x : PV) : lkp (upd l t x) t = x := by simp [upd, lkp, Nat.beq_refl]
theorem lkp_upd_ne (l : List (Nat × PV)) {t u : Nat} (x : PV) (h : t ≠ u) : lkp (upd l t x) u = lkp l u := by simp [upd, lkp, beq_ne h, lkp_del_ne l h]

inductive Own where
  | box (id : Nat)
  | plc (p : Plc)
  | frame
  deriving DecidableEq

/-- What the proof alone knows: the blocks of the boxes; which cells nobody may write; who owns a block. -/
structure Gh where
  rho : List Nat
  FP : Nat → Nat → Prop
  ow : Nat → Option Own

/-- A frozen value: what a tree says of a machine's value; the cells that it reads are protected. -/
inductive Rel (g : Gh) (w : World) : PV → Value → Prop where
  | lit (v : Value) : Rel g w (.lit v) v
  | ptr (id off b : Nat) (h : g.rho[id]? = some b) : Rel g w (.ptr id off) (.pointer (some ⟨b, off, none⟩))
  | nilp : Rel g w .nilp (.pointer none)
  | slnil (fl : Flag) : Rel g w (.sl fl true []) (.slice none 0 0)
  | slz : Rel g w (.sl .view false []) (.slice none 0 0)
  | slv (xs : List (List PV)) (b o cap s : Nat) (vals : Nat → Nat → Value) (hcap : xs.length ≤ cap)
      (hlen : ∀ i, (h : i < xs.length) → xs[i].length = s)
      (hfp : ∀ i j, i < xs.length → j < s → g.FP b (o + i * s + j) ∧ w.cell? ⟨b, o + i * s + j, none⟩ = some (vals i j))
      (hrel : ∀ i j (hi : i < xs.length) (hj : j < xs[i].length), Rel g w xs[i][j] (vals i j)) :
      Rel g w (.sl .view false xs) (.slice (some ⟨b, o, none⟩) xs.length cap)
  | agg (cs : List PV) (vs : Array Value) (hlen : vs.size = cs.length)
      (hrel : ∀ i (hi : i < cs.length) (hv : i < vs.size), Rel g w cs[i] vs[i]) : Rel g w (.agg cs) (.agg vs)
  | tup (cs : List PV) (vs : Array Value) (hlen : vs.size = cs.length)
      (hrel : ∀ i (hi : i < cs.length) (hv : i < vs.size), Rel g w cs[i] vs[i]) : Rel g w (.tup cs) (.tuple vs)
  | ifc (t : TypeId) (x : PV) (v : Value) (h : Rel g w x v) : Rel g w (.ifc t x) (.iface t v)
  | fn (f : Fn) (fs cs : List PV) (vf vc : Array Value) (hf : vf.size = fs.length) (hc : vc.size = cs.length)
      (hrf : ∀ i (hi : i < fs.length) (hv : i < vf.size), Rel g w fs[i] vf[i])
      (hrc : ∀ i (hi : i < cs.length) (hv : i < vc.size), Rel g w cs[i] vc[i]) : Rel g w (.fn f fs cs) (.func f vf vc)
  | map (id b : Nat) (h : g.rho[id]? = some b) : Rel g w (.map id) (.map (some b))
  | elemv (cs : List PV) (off b o : Nat) (vals : Nat → Value)
      (hfp : ∀ j, j < cs.length → g.FP b (o + j) ∧ w.cell? ⟨b, o + j, none⟩ = some (vals j))
      (hrel : ∀ j (hj : j < cs.length), Rel g w cs[j] (vals j)) : Rel g w (.elemv cs off) (.pointer (some ⟨b, o + off, none⟩))

/-- What is seen of the whole at the end of some steps: nothing protected has turned. -/
structure Ext (g g' : Gh) (w w' : World) : Prop where
  rho : g.rho <+: g'.rho
  fp : ∀ b i, g.FP b i → g'.FP b i
  fpc : ∀ b i, g.FP b i → w'.cell? ⟨b, i, none⟩ = w.cell? ⟨b, i, none⟩
  keep : ∀ b, b < w.heap.size → (g.ow b = none ∨ g.ow b = some .frame) → w'.heap[b]? = w.heap[b]?
  size : w.heap.size ≤ w'.heap.size
  frame : ∀ b, g.ow b = some .frame → g'.ow b = some .frame
  noframe : ∀ b, g.ow b ≠ some .frame → g'.ow b ≠ some .frame
  none_ : ∀ b, b < w.heap.size → g.ow b = none → g'.ow b = none
  fnew : ∀ b i, g.ow b = some .frame → g'.FP b i → g.FP b i
  os : w'.os = w.os
  tape : w'.tape = w.tape
  output : w'.output = w.output

theorem Ext.refl (g : Gh) (w : World) : Ext g g w w :=
  ⟨List.prefix_rfl, fun _ _ h => h, fun _ _ _ => rfl, fun _ _ _ => rfl, Nat.le_refl _, fun _ h => h, fun _ h => h, fun _ _ h => h, fun _ _ _ h => h, rfl, rfl, rfl⟩

theorem Ext.trans {g g1 g2 : Gh} {w w1 w2 : World} (h : Ext g g1 w w1) (k : Ext g1 g2 w1 w2) : Ext g g2 w w2 where
  rho := h.rho.trans k.rho
  fp b i hb := k.fp b i (h.fp b i hb)
  fpc b i hb := (k.fpc b i (h.fp b i hb)).trans (h.fpc b i hb)
  keep b hb ho := by
    refine (k.keep b (Nat.lt_of_lt_of_le hb h.size) ?_).trans (h.keep b hb ho)
    rcases ho with ho | ho
    · exact .inl (h.none_ b hb ho)
    · exact .inr (h.frame b ho)
  size := Nat.le_trans h.size k.size
  frame b hb := k.frame b (h.frame b hb)
  noframe b hb := k.noframe b (h.noframe b hb)
  none_ b hb ho := k.none_ b (Nat.lt_of_lt_of_le hb h.size) (h.none_ b hb ho)
  fnew b i hb hf := h.fnew b i hb (k.fnew b i (h.frame b hb) hf)
  os := k.os.trans h.os
  tape := k.tape.trans h.tape
  output := k.output.trans h.output

theorem prefix_get {α : Type} {l l' : List α} (h : l <+: l') {i : Nat} {a : α} (hi : l[i]? = some a) : l'[i]? = some a := by
  obtain ⟨t, rfl⟩ := h
  rw [List.getElem?_append_left]
  · exact hi
  · exact (List.getElem?_eq_some_iff.1 hi).1

theorem Rel.mono {g g' : Gh} {w w' : World} (hr : g.rho <+: g'.rho) (hf : ∀ b i, g.FP b i → g'.FP b i)
    (hc : ∀ b i, g.FP b i → w'.cell? ⟨b, i, none⟩ = w.cell? ⟨b, i, none⟩) {x : PV} {v : Value} (h : Rel g w x v) : Rel g' w' x v := by
  induction h with
  | lit v => exact .lit v
  | ptr id off b h => exact .ptr id off b (prefix_get hr h)
  | nilp => exact .nilp
  | slnil fl => exact .slnil fl
  | slz => exact .slz
  | slv xs b o cap s vals hcap hlen hfp hrel ih =>
    exact .slv xs b o cap s vals hcap hlen (fun i j hi hj => ⟨hf _ _ (hfp i j hi hj).1, (hc _ _ (hfp i j hi hj).1).trans (hfp i j hi hj).2⟩) ih
  | agg cs vs hlen hrel ih => exact .agg cs vs hlen ih
  | tup cs vs hlen hrel ih => exact .tup cs vs hlen ih
  | ifc t x v h ih => exact .ifc t x v ih
  | fn f fs cs vf vc h1 h2 _ _ i1 i2 => exact .fn f fs cs vf vc h1 h2 i1 i2
  | map id b h => exact .map id b (prefix_get hr h)
  | elemv cs off b o vals hfp hrel ih =>
    exact .elemv cs off b o vals (fun j hj => ⟨hf _ _ (hfp j hj).1, (hc _ _ (hfp j hj).1).trans (hfp j hj).2⟩) ih

theorem Rel.ext {g g' : Gh} {w w' : World} (h : Ext g g' w w') {x : PV} {v : Value} (r : Rel g w x v) : Rel g' w' x v :=
  r.mono h.rho h.fp h.fpc

/-- The elements of a slice, as they stand in memory. -/
def Elems (g : Gh) (w : World) (b o s : Nat) (xs : List (List PV)) : Prop :=
  (∀ i, (h : i < xs.length) → xs[i].length = s) ∧
  ∀ i j (hi : i < xs.length) (hj : j < xs[i].length), ∃ v, w.cell? ⟨b, o + i * s + j, none⟩ = some v ∧ Rel g w xs[i][j] v

def Unfz (fz : Nat × Nat) (n : Nat) : Prop := ∀ i, i < n → ¬ (fz.1 ≤ i ∧ i < fz.2)

/-- A slice of one's own: a whole block, which nobody else writes; 'ex': nobody else reads it. -/
structure OwnBlk (P : Program) (g : Gh) (w : World) (p : Plc) (ex : Bool) (e : TypeId) (xs : List (List PV)) (b cap : Nat) : Prop where
  hcap : xs.length ≤ cap
  blk : ∃ c fz, w.heap[b]? = some (.cells c e fz) ∧ c.size = cap * P.cellsOf e ∧ Unfz fz c.size
  ow : g.ow b = some (.plc p)
  el : Elems g w b 0 (P.cellsOf e) xs
  ex_ : ex = true → ∀ i, ¬ g.FP b i
  fr : ∀ i, xs.length * P.cellsOf e ≤ i → ¬ g.FP b i

def OwnOk (P : Program) (g : Gh) (w : World) (p : Plc) (ex : Bool) (e : TypeId) (isnil : Bool) (xs : List (List PV)) (v : Value) : Prop :=
  (xs = [] ∧ v = .slice none 0 0) ∨
  (isnil = false ∧ ∃ b cap, v = .slice (some ⟨b, 0, none⟩) xs.length cap ∧ OwnBlk P g w p ex e xs b cap)

def contentAt (st : St) : Plc → Option PV
  | .tmp t => st.get t
  | .cell id off => match st.σ[id]? with
    | some (.cells _ cs) => cs[off]?
    | _ => none

def realAt (g : Gh) (vs : Array Value) (w : World) : Plc → Option Value
  | .tmp t => vs[t]?
  | .cell id off => match g.rho[id]? with
    | some b => w.cell? ⟨b, off, none⟩
    | none => none

def Flag.e : Flag → TypeId
  | .view => 0
  | .own e => e
  | .excl e => e
def Flag.isOwn : Flag → Bool
  | .view => false
  | _ => true
def Flag.isExcl : Flag → Bool
  | .excl _ => true
  | _ => false
def PV.isOwn : PV → Bool
  | .sl fl _ _ => fl.isOwn
  | _ => false

/-- No name of a place in it: such stand in boxes. -/
def PV.noAl : PV → Bool
  | .alias _ => false
  | .elem _ _ _ => false
  | _ => true

/-- What a slot holds. -/
def Slot (P : Program) (st : St) (g : Gh) (vs : Array Value) (w : World) (p : Plc) (x : PV) (v : Value) : Prop :=
  match x with
  | .sl (.own e) n xs => OwnOk P g w p false e n xs v
  | .sl (.excl e) n xs => OwnOk P g w p true e n xs v
  | .alias q => (∃ fl n xs, contentAt st q = some (.sl fl n xs) ∧ fl.isOwn = true) ∧ realAt g vs w q = some v
  | .elem q k off => ∃ fl xs b cap, contentAt st q = some (.sl fl false xs) ∧ fl.isOwn = true ∧
      realAt g vs w q = some (.slice (some ⟨b, 0, none⟩) xs.length cap) ∧ k < xs.length ∧ v = .pointer (some ⟨b, k * P.cellsOf fl.e + off, none⟩)
  | .dead => True
  | x => Rel g w x v

structure Inv (P : Program) (g : Gh) (st : St) (vs : Array Value) (w : World) : Prop where
  size : vs.size = st.n
  slot : ∀ t x, st.get t = some x → ∃ v, vs[t]? = some v ∧ Slot P st g vs w (.tmp t) x v
  rlen : g.rho.length = st.σ.length
  box : ∀ (id : Nat) (ty : TypeId) (cs : List PV) (b : Nat), st.σ[id]? = some (Bx.cells ty cs) → g.rho[id]? = some b → ∃ c fz, w.heap[b]? = some (.cells c ty fz) ∧ Unfz fz c.size ∧ c.size = cs.length ∧
    ∀ off x, cs[off]? = some x → x.noAl = true ∧ ∃ v, c[off]? = some v ∧ Slot P st g vs w (.cell id off) x v
  bmap : ∀ (id : Nat) (es : List (Value × Value)) (b : Nat), st.σ[id]? = some (Bx.mp es) → g.rho[id]? = some b → ∃ en ck, w.heap[b]? = some (Obj.map en ck) ∧ en.toList.map (fun e => (e.key, e.val)) = es
  rown : ∀ id b, g.rho[id]? = some b → g.ow b = some (.box id)
  olt : ∀ b o, g.ow b = some o → b < w.heap.size
  flt : ∀ b i, g.FP b i → b < w.heap.size
  fbox : ∀ b i id, g.ow b = some (.box id) → ¬ g.FP b i

end Go.AM
