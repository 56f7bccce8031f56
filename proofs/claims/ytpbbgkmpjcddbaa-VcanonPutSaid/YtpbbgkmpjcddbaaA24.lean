/- The abstract machine, 24: reckoning with unknowns, by certificates: what can't be seen from the text is said beside it, and owed. -/
import Derived.Test.YtpbbgkmpjcddbaaA20
set_option linter.all false
namespace Go.AM
noncomputable section

/-- What a certificate says of one operation. -/
inductive Item where
  | no
  | b (v : Bool)
  | cs (c : List PV)
  | cz (c : List PV) (zs : List (List PV))
  | sl (zs : List (List PV))
  | pv (y : PV)
  | val (v : Value)
  | res (r : PV) (σ : List Bx) (mv : List Nat)
  | op (s : St)
  deriving Inhabited
structure OI where
  it : Item := .no
  w : Option Bool := none
  deriving Inhabited

def allP : List Prop → Prop
  | [] => True
  | p :: r => p ∧ allP r
theorem allP_append {l m : List Prop} : allP (l ++ m) ↔ allP l ∧ allP m := by
  induction l with
  | nil => simp [allP]
  | cons p r ih => simp [allP, ih, and_assoc]

/-- A call is known. -/
def CallK (P : Program) (kp : Bool) (f : FuncId) (args : List PV) (σ : List Bx) (r : PV) (σ' : List Bx) : Prop :=
  (∃ fn, P.funcs[f]? = some fn ∧ fn.body.isSome = true) ∧ AbsK P (kp = true) f args σ r σ'

def noCall (C : Ctx) : Ctx := { C with call := fun _ _ _ => none }

def setDH (st : St) (d : Option Tmp) (x : PV) (ps : List Prop) : Option (St × List Prop) :=
  match st.setD d x with
  | some s => some (s, ps)
  | none => none
def setAddrH (st : St) (d : Option Tmp) (x : PV) (ps : List Prop) : Option (St × List Prop) :=
  match st.setAddr d x with
  | some s => some (s, ps)
  | none => none

def nthPV (xs : List (List PV)) (i : Int) : Option (List PV) := if 0 ≤ i ∧ i < xs.length then xs[i.toNat]? else none

def indexAddrH (P : Program) (st : St) (t : TypeId) (x i : Operand) (d : Option Tmp) (c : List PV) : Option (St × List Prop) :=
  match P.underlying t, st.int i with
  | some (.slice e), some i => match szOf P e, st.sl x with
    | some n, some (false, xs) => if c.length = n then (match st.plc x with
        | some q => setAddrH st d (.elem q i.toNat 0) [nthPV xs i = some c]
        | none => setAddrH st d (.elemv c 0) [nthPV xs i = some c]) else none
    | _, _ => none
  | _, _ => none
def indexArrH (P : Program) (st : St) (t : TypeId) (x i : Operand) (d : Option Tmp) : Option (St × List Prop) :=
  match P.underlying t, st.int i with
  | some (.array len e), some i => match szOf P e, st.peek x with
    | some n, some y => (match addOff y (i.toNat * n) with
        | some z => setAddrH st d z [0 ≤ i ∧ i < len]
        | none => none)
    | _, _ => none
  | _, _ => none

def loadElemH (P : Program) (st : St) (t : TypeId) (a : Operand) (d : Option Tmp) (c : List PV) : Option (St × List Prop) :=
  match st.peek a with
  | some (.elem q k off) => match contentAt st q with
    | some (.sl fl false xs) => if fl.isOwn then (match partOf P t c off with
      | some x => setDH st d x [xs[k]? = some c]
      | none => none) else none
    | _ => none
  | _ => none
def loadBoxH (P : Program) (st : St) (t : TypeId) (a : Operand) (d : Option Tmp) (y : PV) : Option (St × List Prop) :=
  match st.peek a, aggT P t, szOf P t with
  | some (.ptr id off), some false, some _ => match st.σ[id]? with
    | some (.cells _ cs) => if y.noAl && (!y.isOwn && !y.isDead) then setDH st d y [cs[off]? = some y] else none
    | _ => none
  | _, _, _ => none

def storeElemH (P : Program) (st : St) (t : TypeId) (a x : Operand) (d : Option Tmp) (c : List PV) (zs : List (List PV)) : Option (St × List Prop) :=
  match st.peek a, szOf P t with
  | some (.elem p k off), some n => match st.use x with
    | some (y, st1) => if y.cells.length = n ∧ 0 < n then (match contentAt st1 p with
      | some (.sl (.excl e) false ys) => if off + n ≤ c.length ∧ y.cells.all PV.one = true then setDH (st1.putP p (.sl (.excl e) false zs)) d (.lit undef) [ys[k]? = some c, ys.set k (setRange c off y.cells) = zs] else none
      | _ => none) else none
    | none => none
  | _, _ => none

def appendH (P : Program) (st : St) (tys : Array TypeId) (s x : Operand) (d : Option Tmp) (zs : List (List PV)) : Option (St × List Prop) :=
  match tys[0]?, tys[1]? with
  | some ts, some tx => match P.underlying ts, P.underlying tx with
    | some (.slice e), some ux => if isIntT ux = true then none else
      match P.info? e, st.peek s, st.peek x with
      | some i, some (.sl fl nil xs), some (.sl _ _ ys) => if 0 < i.bytes ∧ zeroFits i = true then
          (if nil then (match d with
              | some t => (match xs with
                | [] => setDH st (some t) (.sl (.excl e) false zs) [ys.length * i.bytes ≤ 2 ^ 46, ys.all (fun c => c.length = i.size && c.all PV.one) = true, ys = zs]
                | _ => none)
              | none => none)
            else if fl.isOwn ∧ fl.e = e then (match st.plc s, d with
              | some p, some t => if t < st.n ∧ p ≠ .tmp t then some ((st.setP p .dead).setP (.tmp t) (.sl fl false zs), [(xs.length + ys.length) * i.bytes ≤ 2 ^ 46, ys.all (fun c => c.length = i.size && c.all PV.one) = true, xs ++ ys = zs]) else none
              | _, _ => none)
            else none) else none
      | _, _, _ => none
    | _, _ => none
  | _, _ => none

def sliceH (P : Program) (st : St) (t : TypeId) (x : Operand) (lo hi mx : Option Operand) (d : Option Tmp) (zs : List (List PV)) : Option (St × List Prop) :=
  match P.underlying t, mx with
  | some (.slice e), none =>
    match szOf P e, (match lo with | some o => st.int o | none => some 0), (match hi with | some o => st.int o | none => (st.sl x).map fun p => (p.2.length : Int)), st.use x with
    | some sz, some l, some h, some (.sl .view n xs, st1) => setDH st1 d (.sl .view n zs) [0 ≤ l ∧ l ≤ h ∧ h ≤ xs.length, (xs.drop l.toNat).take (h.toNat - l.toNat) = zs, firstLen sz zs = true]
    | _, _, _, _ => none
  | _, _ => none

def binH (P : Program) (st : St) (op : BinOp) (t : TypeId) (x y : Operand) (d : Option Tmp) (v : Value) : Option (St × List Prop) :=
  match st.peek x, st.peek y with
  | some (.lit (.int k a)), some (.lit (.int k' b)) => setDH st d (.lit v) [intBin op k a k' b = some v]
  | some u, some w => match u.val, w.val with
    | some a, some b => setDH st d (constPV v) [det P (do eqGuard op t x y a b; binOp op t a b) = some v]
    | _, _ => none
  | _, _ => none

def builtinH (P : Program) (st : St) (b : Builtin) (tys : Array TypeId) (ty : TypeId) (args : List Operand) (d : Option Tmp) (v : Value) : Option (St × List Prop) :=
  match b with
  | .append => none
  | .len => match args with
    | [x] => match st.peek x with
      | some (.sl _ _ xs) => match tys[0]? with
        | some t => match P.underlying t with
          | some (.slice _) => setDH st d (.lit v) [Value.int .i64 xs.length = v]
          | _ => none
        | none => none
      | _ => none
    | _ => none
  | .recover => none
  | b => match vals st args with
    | some vs => setDH st d (constPV v) [det P (builtin b tys ty (args.map isConst).toArray vs.toArray) = some (.value v)]
    | none => none

def convertH (P : Program) (st : St) (src dst : TypeId) (x : Operand) (d : Option Tmp) (v : Value) : Option (St × List Prop) :=
  match st.peek x with
  | some (.lit (.int k n)) => match P.underlying src, P.underlying dst with
    | some _, some (.int _) => none
    | _, _ => setDH st d (constPV v) [det P (convert src dst (.int k n)) = some v]
  | some (.sl _ _ _) => none
  | some u => match u.val with
    | some a => setDH st d (constPV v) [det P (convert src dst a) = some v]
    | none => none
  | none => none

def unH (P : Program) (st : St) (op : UnOp) (x : Operand) (d : Option Tmp) (v : Value) : Option (St × List Prop) :=
  match op with
  | .not => none
  | op => match st.peek x with
    | some u => match u.val with
      | some a => setDH st d (constPV v) [det P (Op.unary op a) = some v]
      | none => none
    | none => none

def pickH (st : St) (c a b : Operand) (d : Option Tmp) (v : Bool) : Option (St × List Prop) :=
  match st.bool c with
  | some w => match st.peek (if v then a else b) with
    | some (.lit u) => setDH st d (.lit u) [w = v]
    | _ => none
  | none => none

def indexH (P : Program) (st : St) (t : TypeId) (x i : Operand) (d : Option Tmp) (y : PV) : Option (St × List Prop) :=
  match P.underlying t, st.peek x, st.int i with
  | some (.array len e), some (.agg cs), some i => match szOf P e with
    | some n => setDH st d y [0 ≤ i ∧ i < len, partOf P e cs (i.toNat * n) = some y]
    | none => none
  | some .string, some (.lit (.string s)), some i => setDH st d y [0 ≤ i, ∃ b, s[i.toNat]? = some b ∧ y = .lit (.int .u8 b.toNat)]
  | _, _, _ => none

def callH (C : Ctx) (kp : Bool) (st : St) (f : Operand) (args : List Operand) (d : Option Tmp) (r : PV) (σ : List Bx) (mv : List Nat) : Option (St × List Prop) :=
  match st.peek f with
  | some (.fn (.func k) first captured) =>
    if args.all (opLt st.n) then match ({ ts := cutN st.n st.ts, n := st.n + (first.length + args.length + captured.length), σ := st.σ } : St).passL (fun j => mv.contains j) st.n 0 (first.map .inl ++ args.map .inr ++ captured.map .inl) with
    | some st1 => nrm (getArgs st1.ts st.n (first.length + args.length + captured.length)) fun xs =>
      if xs.all PV.noAl then (if r.noAl = true ∧ r.isDead = false then (match afterCall st1 st.n d r σ with
        | some s => some (s, [CallK C.P kp k xs st1.σ r σ])
        | none => none) else none) else none
    | none => none else none
  | _ => none

def opH (C : Ctx) (kp : Bool) (o : Oper) (it : Item) (st : St) : Option (St × List Prop) :=
  match it with
  | .op s => some (s, [evOp' (noCall C) o st = some s])
  | .no => (match evOp' (noCall C) o st with
    | some s => some (s, [])
    | none => none)
  | .b v => match o.op with
    | .pick c a b => pickH st c a b o.dst v
    | .indexAddr t x i => indexArrH C.P st t x i o.dst
    | _ => none
  | .cs c => match o.op with
    | .indexAddr t x i => indexAddrH C.P st t x i o.dst c
    | .load t a => loadElemH C.P st t a o.dst c
    | _ => none
  | .cz c zs => match o.op with
    | .store t a x => storeElemH C.P st t a x o.dst c zs
    | _ => none
  | .sl zs => match o.op with
    | .slice t x lo hi mx => sliceH C.P st t x lo hi mx o.dst zs
    | .call c => match c.callee, c.args.toList with
      | .builtin .append, [s, x] => appendH C.P st c.argTypes s x o.dst zs
      | _, _ => none
    | _ => none
  | .pv y => match o.op with
    | .load t a => loadBoxH C.P st t a o.dst y
    | .index t x i => indexH C.P st t x i o.dst y
    | _ => none
  | .val v => match o.op with
    | .binOp op t x y _ => binH C.P st op t x y o.dst v
    | .unOp op _ x => unH C.P st op x o.dst v
    | .convert s t x => convertH C.P st s t x o.dst v
    | .call c => match c.callee with
      | .builtin b => builtinH C.P st b c.argTypes o.type c.args.toList o.dst v
      | _ => none
    | _ => none
  | .res r σ mv => match o.op with
    | .call c => match c.callee with
      | .value f => callH C kp st f c.args.toList o.dst r σ mv
      | _ => none
    | _ => none

/-! ### It is what the machine does -/
theorem setDH_eq {st st' : St} {d : Option Tmp} {x : PV} {ps qs : List Prop} (h : setDH st d x ps = some (st', qs)) : st.setD d x = some st' ∧ ps = qs := by
  unfold setDH at h
  split at h
  · rename_i s hs; injection h with h; injection h with h1 h2; subst h1; exact ⟨hs, h2⟩
  · cases h
theorem setAddrH_eq {st st' : St} {d : Option Tmp} {x : PV} {ps qs : List Prop} (h : setAddrH st d x ps = some (st', qs)) : st.setAddr d x = some st' ∧ ps = qs := by
  unfold setAddrH at h
  split at h
  · rename_i s hs; injection h with h; injection h with h1 h2; subst h1; exact ⟨hs, h2⟩
  · cases h
theorem nthPV_eq {xs : List (List PV)} {i : Int} {c : List PV} (h : nthPV xs i = some c) : (0 ≤ i ∧ i < xs.length) ∧ xs[i.toNat]? = some c := by
  unfold nthPV at h
  split at h
  · exact ⟨‹_›, h⟩
  · cases h

theorem upd_upd (l : List (Nat × PV)) (t : Nat) (x y : PV) : upd (upd l t x) t y = upd l t y := by
  have : ∀ l : List (Nat × PV), del (del l t) t = del l t := by
    intro l
    induction l with
    | nil => rfl
    | cons p r ih =>
      obtain ⟨k, z⟩ := p
      simp only [del]
      cases e : Nat.beq k t with
      | true => exact ih
      | false => simp only [del, e, ih]
  simp only [upd, del, Nat.beq_refl, this]
theorem putP_putP (st : St) (p : Plc) (x y : PV) : (st.putP p x).putP p y = st.putP p y := by
  cases p with
  | tmp t => simp only [St.putP, upd_upd]
  | cell id off =>
    simp only [St.putP]
    congr 1
    rw [List.modify_modify_eq]
    congr 1
    funext b
    cases b with
    | cells ty cs => simp [setBx]
    | mp es => rfl
theorem putE_all {p : Plc} {k : Nat} {e : TypeId} : ∀ {xs : List PV} {st : St} {ys : List (List PV)} {c : List PV} {off : Nat}, contentAt st p = some (.sl (.excl e) false ys) → ys[k]? = some c → off + xs.length ≤ c.length → xs.all PV.one = true → xs ≠ [] →
    st.putE p k off xs = some (st.putP p (.sl (.excl e) false (ys.set k (setRange c off xs)))) := by
  intro xs
  induction xs with
  | nil => intro st ys c off _ _ _ _ h; exact absurd rfl h
  | cons x xs ih =>
    intro st ys c off h1 h2 h3 h4 _
    simp only [List.all_cons, Bool.and_eq_true] at h4
    simp only [List.length_cons] at h3
    obtain ⟨hlt, hc⟩ := List.getElem?_eq_some_iff.1 h2
    simp only [St.putE, h1, h2, nrm_eq]
    rw [if_pos ⟨by omega, h4.1⟩]
    simp only [setRange]
    cases xs with
    | nil => simp only [St.putE, setRange]
    | cons z zs =>
      have hk : (ys.set k (c.set off x))[k]? = some (c.set off x) := by simp [hlt]
      rw [ih (contentAt_put_self h1) hk (by simpa using h3 |> fun h => (by simp only [List.length_cons] at h ⊢; omega)) h4.2 (by simp), putP_putP]
      simp

theorem evOp_call {C : Ctx} {call : FuncId → List PV → List Bx → Option (PV × List Bx)} {mv : FuncId → Nat → Bool} (o : Oper) (st : St) : evOp { C with call, mv } o st = evOp C o st := rfl

open Classical in
/-- An oracle that knows one call. -/
def oneCall (k : FuncId) (xs : List PV) (σ : List Bx) (r : PV) (σ' : List Bx) : FuncId → List PV → List Bx → Option (PV × List Bx) :=
  fun f a s => if f = k ∧ a = xs ∧ s = σ then some (r, σ') else none
theorem oneCall_self (k : FuncId) (xs : List PV) (σ : List Bx) (r : PV) (σ' : List Bx) : oneCall k xs σ r σ' k xs σ = some (r, σ') := by
  unfold oneCall; rw [if_pos ⟨rfl, rfl, rfl⟩]

theorem opH_sound {C : Ctx} {kp : Bool} {o : Oper} {it : Item} {st st' : St} {ps : List Prop} (h : opH C kp o it st = some (st', ps)) (hp : allP ps) :
    ∃ call mv, SoundK C.P (kp = true) call ∧ evOp' { C with call, mv } o st = some st' := by
  have hno : ∀ {s : St}, evOp' (noCall C) o st = some s → ∃ call mv, SoundK C.P (kp = true) call ∧ evOp' { C with call, mv } o st = some s := fun {s} he =>
    ⟨fun _ _ _ => none, C.mv, (fun f args σ r σ' hc => by cases hc), he⟩
  have hev : ∀ {s : St}, (∀ c f, o.op = .call c → c.callee ≠ .value f) → evOp (noCall C) o st = some s → evOp' (noCall C) o st = some s := fun {s} hn he => by
    unfold evOp'
    split
    · rename_i c ho
      split
      · rename_i f hf; exact absurd hf (hn c f ho)
      · exact he
    · exact he
  have hP : (noCall C).P = C.P := rfl
  unfold opH at h
  split at h
  · injection h with h; injection h with h1 h2; subst h1; subst h2
    exact hno hp.1
  · split at h
    · rename_i s hs
      injection h with h; injection h with h1 h2; subst h1
      exact hno hs
    · cases h
  · rename_i v
    split at h
    · rename_i c a b ho
      refine hno (hev (fun c' f e => by rw [ho] at e; cases e) ?_)
      unfold evOp; rw [ho]
      unfold pickH at h
      split at h
      · rename_i w hw
        split at h
        · rename_i u hu
          obtain ⟨k1, rfl⟩ := setDH_eq h
          obtain ⟨rfl, _⟩ := hp
          simp only [evPick, hw]
          cases w with
          | true => simp only [if_true] at hu; simp only [hu]; exact k1
          | false => simp only [Bool.false_eq_true, if_false] at hu; simp only [hu]; exact k1
        · cases h
      · cases h
    · rename_i t x i ho
      refine hno (hev (fun c' f e => by rw [ho] at e; cases e) ?_)
      unfold evOp; rw [ho]
      unfold indexArrH at h
      split at h
      · rename_i len e i' hu hi
        split at h
        · rename_i n y hn hy
          split at h
          · rename_i z hz
            obtain ⟨k1, rfl⟩ := setAddrH_eq h
            simp only [evIndexAddr, hP, hu, hi, hn, hy, if_pos hp.1, hz]
            exact k1
          · cases h
        · cases h
      · cases h
    · cases h
  · rename_i c
    split at h
    · rename_i t x i ho
      refine hno (hev (fun c' f e => by rw [ho] at e; cases e) ?_)
      unfold evOp; rw [ho]
      unfold indexAddrH at h
      split at h
      · rename_i e i' hu hi
        split at h
        · rename_i n xs hn hxs
          split at h
          · rename_i hc
            split at h
            · rename_i q hq
              obtain ⟨k1, rfl⟩ := setAddrH_eq h
              obtain ⟨b1, b2⟩ := nthPV_eq hp.1
              simp only [evIndexAddr, hP, hu, hi, hn, hxs, if_pos b1, b2, if_pos hc, hq]
              exact k1
            · rename_i hq
              obtain ⟨k1, rfl⟩ := setAddrH_eq h
              obtain ⟨b1, b2⟩ := nthPV_eq hp.1
              simp only [evIndexAddr, hP, hu, hi, hn, hxs, if_pos b1, b2, if_pos hc, hq]
              exact k1
          · cases h
        · cases h
      · cases h
    · rename_i t a ho
      refine hno (hev (fun c' f e => by rw [ho] at e; cases e) ?_)
      unfold evOp; rw [ho]
      unfold loadElemH at h
      split at h
      · rename_i q k off hpk
        split at h
        · rename_i fl xs hcn
          split at h
          · rename_i hown
            split at h
            · rename_i y hy
              obtain ⟨k1, rfl⟩ := setDH_eq h
              simp only [evLoad, hpk, elemCells, hcn, if_pos hown, hp.1]
              simp only [hP, hy]
              exact k1
            · cases h
          · cases h
        · cases h
      · cases h
    · cases h
  · rename_i c zs
    split at h
    · rename_i t a x ho
      refine hno (hev (fun c' f e => by rw [ho] at e; cases e) ?_)
      unfold evOp; rw [ho]
      unfold storeElemH at h
      split at h
      · rename_i p k off n hpk hn
        split at h
        · rename_i y st1 hu
          split at h
          · rename_i hl
            split at h
            · rename_i e ys hcn
              split at h
              · rename_i hc
                obtain ⟨k1, rfl⟩ := setDH_eq h
                have hne : y.cells ≠ [] := by rintro e; rw [e] at hl; simp at hl; omega
                have := putE_all hcn hp.1 (by rw [hl.1]; exact hc.1) hc.2 hne
                rw [hp.2.1] at this
                simp only [evStore, hpk, hP, hn, hu, if_pos hl.1, this]
                exact k1
              · cases h
            · cases h
          · cases h
        · cases h
      · cases h
    · cases h
  · rename_i zs
    split at h
    · rename_i t x lo hi mx ho
      refine hno (hev (fun c' f e => by rw [ho] at e; cases e) ?_)
      unfold evOp; rw [ho]
      unfold sliceH at h
      split at h
      · rename_i e hu
        split at h
        · rename_i sz l hh n xs st1 hsz hlo hhi huse
          obtain ⟨k1, rfl⟩ := setDH_eq h
          obtain ⟨q1, q2, q3, _⟩ := hp
          cases lo <;> cases hi <;> simp only at hlo hhi <;> simp only [evSlice, hP, hu, hsz, hlo, hhi, huse, if_pos q1, nrm_eq, q2, if_pos q3] <;> exact k1
        · cases h
      · cases h
    · rename_i c ho
      split at h
      · rename_i s x hcal hargs
        have hval : ∀ c' f, o.op = .call c' → c'.callee ≠ .value f := fun c' f e => by
          rw [ho] at e; injection e with e; subst e; rw [hcal]; simp
        refine hno (hev hval ?_)
        unfold evOp; rw [ho]
        simp only [hcal, evBuiltin, hargs]
        unfold appendH at h
        split at h
        · rename_i ts tx h0 h1
          split at h
          · rename_i e ux hu hux
            split at h
            · cases h
            · rename_i hni
              split at h
              · rename_i i fl nl xs fl2 n2 ys hi hps hpx
                split at h
                · rename_i hc
                  have hel : ∀ q : ys.all (fun c => c.length = i.size && c.all PV.one) = true, elemsOf st i.size x = some ys := fun q => by
                    simp only [elemsOf, hpx, if_pos q]
                  split at h
                  · rename_i hnil
                    split at h
                    · rename_i t hd
                      split at h
                      · obtain ⟨k1, rfl⟩ := setDH_eq h
                        obtain ⟨q1, q2, rfl, _⟩ := hp
                        simp only [evAppend, h0, h1, hP, hu, hux, if_neg hni, hi, hps, hel q2, List.length_nil, Nat.zero_add, if_pos (show ys.length * i.bytes ≤ 2 ^ 46 ∧ 0 < i.bytes ∧ zeroFits i = true from ⟨q1, hc⟩), hnil, if_true, hd]
                        exact k1
                      · cases h
                    · cases h
                  · rename_i hnil
                    split at h
                    · rename_i how
                      split at h
                      · rename_i p t hpl hd
                        split at h
                        · rename_i htp
                          injection h with h; injection h with k1 k2; subst k1; subst k2
                          obtain ⟨q1, q2, rfl, _⟩ := hp
                          simp only [evAppend, h0, h1, hP, hu, hux, if_neg hni, hi, hps, hel q2, if_pos (show (xs.length + ys.length) * i.bytes ≤ 2 ^ 46 ∧ 0 < i.bytes ∧ zeroFits i = true from ⟨q1, hc⟩), if_neg hnil, if_pos how, hpl, hd, if_pos htp, nrm_eq]
                        · cases h
                      · cases h
                    · cases h
                · cases h
              · cases h
          · cases h
        · cases h
      · cases h
    · cases h
  · rename_i y
    split at h
    · rename_i t a ho
      refine hno (hev (fun c' f e => by rw [ho] at e; cases e) ?_)
      unfold evOp; rw [ho]
      unfold loadBoxH at h
      split at h
      · rename_i id off n hpk ha hn
        split at h
        · rename_i ty cs hσ
          split at h
          · rename_i hc
            obtain ⟨k1, rfl⟩ := setDH_eq h
            simp only [Bool.and_eq_true, Bool.not_eq_true'] at hc
            have hcn : contentAt st (.cell id off) = some y := by simp only [contentAt, hσ]; exact hp.1
            simp only [evLoad, hpk, hP, ha, hn, hcn]
            cases y with
            | sl fl n xs =>
              have : fl.isOwn = false := hc.2.1
              simp only [this, Bool.false_eq_true, if_false]; exact k1
            | dead => exact absurd hc.2.2 (by simp [PV.isDead])
            | alias q => exact absurd hc.1 (by simp [PV.noAl])
            | elem q k off => exact absurd hc.1 (by simp [PV.noAl])
            | _ => exact k1
          · cases h
        · cases h
      · cases h
    · rename_i t x i ho
      refine hno (hev (fun c' f e => by rw [ho] at e; cases e) ?_)
      unfold evOp; rw [ho]
      unfold indexH at h
      split at h
      · rename_i len e cs i' hu hx hi
        split at h
        · rename_i n hn
          obtain ⟨k1, rfl⟩ := setDH_eq h
          simp only [evIndex, hP, hu, hx, hi, hn, if_pos hp.1, hp.2.1]
          exact k1
        · cases h
      · rename_i s i' hu hx hi
        obtain ⟨k1, rfl⟩ := setDH_eq h
        obtain ⟨q1, ⟨b, q2, rfl⟩, _⟩ := hp
        simp only [evIndex, hP, hu, hx, hi, if_pos q1, q2]
        exact k1
      · cases h
    · cases h
  · rename_i v
    split at h
    · rename_i op t x y ty ho
      refine hno (hev (fun c' f e => by rw [ho] at e; cases e) ?_)
      unfold evOp; rw [ho]
      unfold binH at h
      simp only [evBin]
      split at h
      · rename_i k a k' b hx hy
        obtain ⟨k1, rfl⟩ := setDH_eq h
        simp only [hx, hy, hp.1]
        exact k1
      · rename_i u w hnot hx hy
        split at h
        · rename_i a b ha hb
          obtain ⟨k1, rfl⟩ := setDH_eq h
          rw [hx, hy]
          split
          · rename_i k a' k' b' e1 e2
            injection e1 with e1; injection e2 with e2
            exact absurd e2 (hnot _ _ _ _ e1)
          · rename_i u' w' e1 e2
            injection e1 with e1; injection e2 with e2
            subst e1; subst e2
            simp only [ha, hb, hP, hp.1]
            exact k1
          · rename_i h0; exact absurd rfl (h0 u w rfl)
        · cases h
      · cases h
    · rename_i op t x ho
      refine hno (hev (fun c' f e => by rw [ho] at e; cases e) ?_)
      unfold evOp; rw [ho]
      unfold unH at h
      split at h
      · cases h
      · rename_i op' hne
        split at h
        · rename_i u hx
          split at h
          · rename_i a ha
            obtain ⟨k1, rfl⟩ := setDH_eq h
            simp only [evUn, hx]
            split
            · exact absurd rfl hne
            · rename_i u' _ e1
              injection e1 with e1
              subst e1
              simp only [ha, hP, hp.1]
              exact k1
            · rename_i e; cases e
          · cases h
        · cases h
    · rename_i s t x ho
      refine hno (hev (fun c' f e => by rw [ho] at e; cases e) ?_)
      unfold evOp; rw [ho]
      unfold convertH at h
      simp only [evConvert]
      split at h
      · rename_i k n hx
        simp only [hx]
        split at h
        · cases h
        · rename_i hnot
          obtain ⟨k1, rfl⟩ := setDH_eq h
          split
          · rename_i d k' e1 e2; exact absurd e2 (hnot _ _ e1)
          · simp only [hP, hp.1]; exact k1
      · cases h
      · rename_i u hn1 hn2 hx
        split at h
        · rename_i a ha
          obtain ⟨k1, rfl⟩ := setDH_eq h
          rw [hx]
          split
          · rename_i e; injection e with e; exact absurd e (hn1 _ _)
          · rename_i e; injection e with e; exact absurd e (hn2 _ _ _)
          · rename_i u' _ _ e
            injection e with e
            subst e
            simp only [ha, hP, hp.1]
            exact k1
          · rename_i e; cases e
        · cases h
      · cases h
    · rename_i c ho
      split at h
      · rename_i b hcal
        have hval : ∀ c' f, o.op = .call c' → c'.callee ≠ .value f := fun c' f e => by
          rw [ho] at e; injection e with e; subst e; rw [hcal]; simp
        refine hno (hev hval ?_)
        unfold evOp; rw [ho]
        simp only [hcal]
        unfold builtinH at h
        split at h
        · cases h
        · split at h
          · rename_i x hargs
            split at h
            · rename_i fl n xs hx
              split at h
              · rename_i t ht
                split at h
                · rename_i e hu
                  obtain ⟨k1, rfl⟩ := setDH_eq h
                  simp only [evBuiltin, hargs, hx, ht, hP, hu, hp.1]
                  exact k1
                · cases h
              · cases h
            · cases h
          · cases h
        · cases h
        · rename_i b' n1 n2 n3
          split at h
          · rename_i vs hvs
            obtain ⟨k1, rfl⟩ := setDH_eq h
            unfold evBuiltin
            split
            · exact absurd rfl n1
            · exact absurd rfl n2
            · exact absurd rfl n1
            · exact absurd rfl n3
            · simp only [hvs, hP, hp.1]; exact k1
          · cases h
      · cases h
    · cases h
  · rename_i r σ mv
    split at h
    · rename_i c ho
      split at h
      · rename_i f hcal
        unfold callH at h
        split at h
        · rename_i k first captured hpk
          split at h
          · rename_i hall
            split at h
            · rename_i st1 hpass
              rw [nrm_eq] at h
              split at h
              · rename_i hal
                split at h
                · rename_i hr
                  split at h
                  · rename_i s hs
                    injection h with h; injection h with k1 k2; subst k1; subst k2
                    obtain ⟨⟨hfn, habs⟩, _⟩ := hp
                    refine ⟨oneCall k (getArgs st1.ts st.n (first.length + c.args.toList.length + captured.length)) st1.σ r σ, fun _ j => mv.contains j, fun f' args σ0 r' σ' hc => ?_, ?_⟩
                    · unfold oneCall at hc
                      split at hc
                      · rename_i e
                        obtain ⟨rfl, rfl, rfl⟩ := e
                        injection hc with hc; injection hc with e1 e2; subst e1; subst e2
                        exact ⟨hfn, habs⟩
                      · cases hc
                    · unfold evOp'
                      rw [ho]
                      simp only [hcal, evCall, hpk, if_pos hall]
                      have hpass' : ({ ts := cutN st.n st.ts, n := st.n + (first.length + c.args.toList.length + captured.length), σ := st.σ } : St).passL (fun j => mv.contains j) st.n 0 (first.map .inl ++ c.args.toList.map .inr ++ captured.map .inl) = some st1 := hpass
                      rw [hpass']
                      simp only [nrm_eq, if_pos hal, oneCall_self, if_pos hr, hs]
                  · cases h
                · cases h
              · cases h
            · cases h
          · cases h
        · cases h
      · cases h
    · cases h

end
end Go.AM
