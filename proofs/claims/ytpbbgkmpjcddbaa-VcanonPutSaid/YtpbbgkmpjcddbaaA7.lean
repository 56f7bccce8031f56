/- The abstract machine, 7: what it does. -/
import Derived.Test.YtpbbgkmpjcddbaaA6
set_option linter.all false
namespace Go.AM
noncomputable section

/-- A list laid out, then the rest: nothing turns, but what is reckoned is reckoned once. -/
noncomputable def nrm {α β : Type} (l : List α) : (List α → β) → β :=
  List.rec (motive := fun _ => (List α → β) → β) (fun k => k []) (fun x _ ih k => ih fun ys => k (x :: ys)) l
theorem nrm_eq {α β : Type} (l : List α) : ∀ k : List α → β, nrm l k = k l := by
  induction l with
  | nil => intro k; rfl
  | cons x xs ih => intro k; exact ih fun ys => k (x :: ys)
def nrmB {β : Type} : List Bx → (List Bx → β) → β
  | [], k => k []
  | .cells ty cs :: r, k => nrm cs fun cs => nrmB r fun r => k (.cells ty cs :: r)
  | .mp es :: r, k => nrmB r fun r => k (.mp es :: r)
theorem nrmB_eq {β : Type} (l : List Bx) : ∀ k : List Bx → β, nrmB l k = k l := by
  induction l with
  | nil => intro k; rfl
  | cons x xs ih => intro k; cases x <;> simp [nrmB, nrm_eq, ih]

/-- A program of the model's that asks nothing of the memory. -/
def det {α : Type} (P : Program) : Sem α → Option α
  | .pure a => some a
  | .program k => det P (k P)
  | _ => none

def const1 : Value → PV
  | .slice none 0 0 => .sl .view true []
  | .pointer none => .nilp
  | v => .lit v
def constPV : Value → PV
  | .slice none 0 0 => .sl (.excl 0) true []
  | .pointer none => .nilp
  | .agg cs => .agg (cs.toList.map const1)
  | v => .lit v

def PV.lit? : PV → Option Value
  | .lit v => some v
  | .nilp => some (.pointer none)
  | .sl _ true [] => some (.slice none 0 0)
  | _ => none
def lits : List PV → Option (List Value)
  | [] => some []
  | x :: xs => match x.lit?, lits xs with
    | some v, some vs => some (v :: vs)
    | _, _ => none
/-- The value of a tree that leads to no memory. -/
def PV.val : PV → Option Value
  | .agg cs => match lits cs with
    | some vs => some (.agg vs.toArray)
    | none => none
  | x => x.lit?

/-- What to do behind a region: tmps to be kept (the others are forgotten), tmps to be frozen, nil slices to be held as one's own, how many boxes to keep. -/
structure Hint where
  keep : List Nat
  frz : List Nat := []
  nils : List (Plc × TypeId) := []
  cut : Option Nat := none
  deriving Inhabited

structure Ctx where
  P : Program
  mv : FuncId → Nat → Bool
  res : Nat → Bool
  live : Nat → Option Hint
  call : FuncId → List PV → List Bx → Option (PV × List Bx)

def szOf (P : Program) (t : TypeId) : Option Nat := match P.info? t with | some i => some i.size | none => none
def aggT (P : Program) (t : TypeId) : Option Bool :=
  match P.underlying t with
  | some (.struct _) => some true
  | some (.array _ _) => some true
  | some _ => some false
  | none => none
def zeroPV (P : Program) (t : TypeId) : Option (List PV) :=
  match P.info? t with
  | some i => match i.zero with
    | some v => some (v.cells.toList.map const1)
    | none => none
  | none => none

/-- One cell's worth. -/
def PV.one : PV → Bool
  | .agg _ => false
  | .tup _ => false
  | .lit (.agg _) => false
  | .lit (.tuple _) => false
  | _ => true
def PV.cells : PV → List PV
  | .agg cs => cs
  | .lit (.agg cs) => cs.toList.map const1
  | x => [x]

/-- The value at a place, frozen: what was owned is shared. -/
def St.useP (st : St) (p : Plc) : Option (PV × St) :=
  match contentAt st p with
  | some (.sl fl false xs) => if fl.isOwn then some (.sl .view false xs, st.putP p (.sl (.own fl.e) false xs)) else some (.sl fl false xs, st)
  | some (.sl _ true _) => some (.sl .view true [], st)
  | some .dead => none
  | some (.alias _) => none
  | some (.elem _ _ _) => none
  | some x => some (x, st)
  | none => none

def St.use (st : St) : Operand → Option (PV × St)
  | .tmp t => match st.get t with
    | some (.alias q) => st.useP q
    | _ => st.useP (.tmp t)
  | .const v => some (constPV v, st)
  | .func f => some (.fn (.func f) [] [], st)
  | .global _ => none

/-- What is read alone. -/
def St.peek (st : St) : Operand → Option PV
  | .tmp t => match st.get t with
    | some (.alias q) => contentAt st q
    | x => x
  | .const v => some (constPV v)
  | .func f => some (.fn (.func f) [] [])
  | .global _ => none
def St.sl (st : St) (o : Operand) : Option (Bool × List (List PV)) :=
  match st.peek o with
  | some (.sl _ n xs) => some (n, xs)
  | _ => none
def St.int (st : St) (o : Operand) : Option Int :=
  match st.peek o with
  | some (.lit (.int _ n)) => some n
  | _ => none
def St.bool (st : St) (o : Operand) : Option Bool :=
  match st.peek o with
  | some (.lit (.bool b)) => some b
  | _ => none
/-- The place whose slice an operand is. -/
def St.plc (st : St) : Operand → Option Plc
  | .tmp t => match st.get t with
    | some (.alias q) => some q
    | some (.sl fl _ _) => if fl.isOwn then some (.tmp t) else none
    | _ => none
  | _ => none

def St.setD (st : St) (d : Option Tmp) (x : PV) : Option St :=
  match d with
  | none => some st
  | some d => if d < st.n then some (st.setP (.tmp d) x) else none

/-- From a place to a tmp. -/
def St.mvD (st : St) (p : Plc) (d : Option Tmp) : Option St :=
  match d, contentAt st p with
  | some d, some x => if d < st.n ∧ p ≠ .tmp d then some ((st.setP p .dead).setP (.tmp d) x) else none
  | _, _ => none

def evMove (st : St) (x : Operand) (d : Option Tmp) : Option St :=
  match x with
  | .tmp s => match st.get s with
    | some (.sl fl n xs) => if fl.isOwn then (if d = some s then none else st.setD d (.alias (.tmp s))) else st.setD d (.sl fl n xs)
    | some (.alias q) => match d with | some t => if q = .tmp t then none else st.setD d (.alias q) | none => some st
    | some (.elem q k off) => match d with | some t => if q = .tmp t then none else st.setD d (.elem q k off) | none => some st
    | some .dead => none
    | some x => st.setD d x
    | none => none
  | .const v => st.setD d (constPV v)
  | .func f => st.setD d (.fn (.func f) [] [])
  | .global _ => none

def isRes (C : Ctx) (d : Option Tmp) : Bool :=
  match d with
  | some t => C.res t
  | none => false

def evAssign (C : Ctx) (st : St) (x : Operand) (d : Option Tmp) : Option St :=
  match st.plc x with
  | some q => match x with
    | .tmp s => if q = .tmp s ∨ isRes C d = true then st.mvD q d else match st.useP q with
      | some (y, st1) => st1.setD d y
      | none => none
    | _ => none
  | none => match st.use x with
    | some (y, st1) => st1.setD d y
    | none => none

/-- Cells at a box, frozen. -/
def St.takeC (st : St) (id : Nat) : Nat → Nat → Option (List PV × St)
  | _, 0 => some ([], st)
  | off, n + 1 => match st.useP (.cell id off) with
    | some (x, st1) => match st1.takeC id (off + 1) n with
      | some (xs, st2) => some (x :: xs, st2)
      | none => none
    | none => none

/-- A value of a type, out of frozen cells. -/
def partOf (P : Program) (t : TypeId) (cs : List PV) (off : Nat) : Option PV :=
  match aggT P t, szOf P t with
  | some true, some n => if off + n ≤ cs.length then some (.agg ((cs.drop off).take n)) else none
  | some false, some _ => cs[off]?
  | _, _ => none

def elemCells (st : St) (p : Plc) (k : Nat) : Option (List PV) :=
  match contentAt st p with
  | some (.sl fl false xs) => if fl.isOwn then xs[k]? else none
  | _ => none

def evLoad (P : Program) (st : St) (t : TypeId) (a : Operand) (d : Option Tmp) : Option St :=
  match st.peek a with
  | some (.ptr id off) => match aggT P t, szOf P t with
    | some true, some n => match st.takeC id off n with
      | some (cs, st1) => st1.setD d (.agg cs)
      | none => none
    | some false, some _ => match contentAt st (.cell id off) with
      | some (.sl fl n xs) => if fl.isOwn then st.setD d (.alias (.cell id off)) else st.setD d (.sl fl n xs)
      | some .dead => none
      | some (.alias _) => none
      | some (.elem _ _ _) => none
      | some x => st.setD d x
      | none => none
    | _, _ => none
  | some (.elem q k off) => match elemCells st q k with
    | some cs => match partOf P t cs off with
      | some x => st.setD d x
      | none => none
    | none => none
  | some (.elemv cs off) => match partOf P t cs off with
    | some x => st.setD d x
    | none => none
  | _ => none

/-- Frozen cells are stored into a box, one by one. -/
def St.putC (st : St) (id : Nat) : Nat → List PV → Option St
  | _, [] => some st
  | off, x :: xs => match contentAt st (.cell id off) with
    | some _ => if x.one then nrmB (st.setP (.cell id off) x).σ fun σ => St.putC { (st.setP (.cell id off) x) with σ } id (off + 1) xs else none
    | none => none
def St.putE (st : St) (p : Plc) (k : Nat) : Nat → List PV → Option St
  | _, [] => some st
  | off, x :: xs => match contentAt st p with
    | some (.sl (.excl e) false ys) => match ys[k]? with
      | some c => if off < c.length ∧ x.one then nrm (ys.set k (c.set off x)) fun zs => (st.putP p (.sl (.excl e) false zs)).putE p k (off + 1) xs else none
      | none => none
    | _ => none

def evStore (P : Program) (st : St) (t : TypeId) (a x : Operand) : Option St :=
  match st.peek a, szOf P t with
  | some (.ptr id off), some n => match st.plc x with
    | some q => if n = 1 ∧ q ≠ .cell id off then (match contentAt st (.cell id off), contentAt st q with
        | some _, some y => match x with
          | .tmp s => if q = .tmp s then some ((st.setP q .dead).setP (.cell id off) y) else match st.useP q with
            | some (z, st1) => st1.putC id off [z]
            | none => none
          | _ => none
        | _, _ => none) else none
    | none => match st.use x with
      | some (y, st1) => if y.cells.length = n then st1.putC id off y.cells else none
      | none => none
  | some (.elem p k off), some n => match st.use x with
    | some (y, st1) => if y.cells.length = n then st1.putE p k off y.cells else none
    | none => none
  | _, _ => none

def addOff (x : PV) (n : Nat) : Option PV :=
  match x with
  | .ptr id off => some (.ptr id (off + n))
  | .elem p k off => some (.elem p k (off + n))
  | .elemv cs off => some (.elemv cs (off + n))
  | _ => none

def St.setAddr (st : St) (d : Option Tmp) (x : PV) : Option St :=
  match x, d with
  | .elem q _ _, some t => if q = .tmp t then none else st.setD d x
  | .ptr _ _, _ => st.setD d x
  | .elemv _ _, _ => st.setD d x
  | _, _ => none

def evFieldAddr (P : Program) (st : St) (t : TypeId) (x : Operand) (f : Nat) (d : Option Tmp) : Option St :=
  match P.underlying t with
  | some (.struct fs) => match fs[f]? with
    | some fd => match szOf P fd.type, st.peek x with
      | some (n + 1), some y => match addOff y fd.offset with
        | some z => st.setAddr d z
        | none => none
      | _, _ => none
    | none => none
  | _ => none

def evIndexAddr (P : Program) (st : St) (t : TypeId) (x i : Operand) (d : Option Tmp) : Option St :=
  match P.underlying t, st.int i with
  | some (.array len e), some i => match szOf P e, st.peek x with
    | some n, some y => if 0 ≤ i ∧ i < len then (match addOff y (i.toNat * n) with
        | some z => st.setAddr d z
        | none => none) else none
    | _, _ => none
  | some (.slice e), some i => match szOf P e, st.sl x with
    | some n, some (false, xs) => if 0 ≤ i ∧ i < xs.length then (match xs[i.toNat]? with
        | some c => if c.length = n then (match st.plc x with
          | some q => st.setAddr d (.elem q i.toNat 0)
          | none => st.setAddr d (.elemv c 0)) else none
        | none => none) else none
    | _, _ => none
  | _, _ => none

def evField (P : Program) (st : St) (t : TypeId) (x : Operand) (f : Nat) (d : Option Tmp) : Option St :=
  match P.underlying t, st.peek x with
  | some (.struct fs), some (.agg cs) => match fs[f]? with
    | some fd => match partOf P fd.type cs fd.offset with
      | some y => st.setD d y
      | none => none
    | none => none
  | _, _ => none

def evIndex (P : Program) (st : St) (t : TypeId) (x i : Operand) (d : Option Tmp) : Option St :=
  match P.underlying t, st.peek x, st.int i with
  | some (.array len e), some (.agg cs), some i => match szOf P e with
    | some n => if 0 ≤ i ∧ i < len then (match partOf P e cs (i.toNat * n) with
        | some y => st.setD d y
        | none => none) else none
    | none => none
  | some .string, some (.lit (.string s)), some i => if 0 ≤ i then (match s[i.toNat]? with
      | some b => st.setD d (.lit (.int .u8 b.toNat))
      | none => none) else none
  | _, _, _ => none

def evExtract (st : St) (x : Operand) (i : Nat) (d : Option Tmp) : Option St :=
  match st.peek x with
  | some (.tup vs) => match vs[i]? with
    | some y => st.setD d y
    | none => none
  | _ => none

def evPick (st : St) (c a b : Operand) (d : Option Tmp) : Option St :=
  match st.bool c with
  | some true => match st.peek a with | some (.lit v) => st.setD d (.lit v) | _ => none
  | some false => match st.peek b with | some (.lit v) => st.setD d (.lit v) | _ => none
  | none => none

def evAlloc (P : Program) (st : St) (t : TypeId) (d : Option Tmp) : Option St :=
  match zeroPV P t with
  | some cs => ({ st with σ := st.σ ++ [.cells t cs] } : St).setD d (.ptr st.σ.length 0)
  | none => none

def evBox (st : St) (t : TypeId) (x : Operand) (d : Option Tmp) : Option St :=
  match st.plc x with
  | some q => match contentAt st q with
    | some y => match x with
      | .tmp s => if q = .tmp s then (((({ st with σ := st.σ ++ [.cells t [.dead]] } : St).setP q .dead).setP (.cell st.σ.length 0) y)).setD d (.ptr st.σ.length 0) else none
      | _ => none
    | none => none
  | none => match st.use x with
    | some (y, st1) => ({ st1 with σ := st1.σ ++ [.cells t y.cells] } : St).setD d (.ptr st1.σ.length 0)
    | none => none

/-- Parts' cells, each frozen. -/
def St.parts (st : St) : List (Nat × Operand) → Option (List (Nat × List PV) × St)
  | [] => some ([], st)
  | (i, x) :: rest => match st.use x with
    | some (y, st1) => match st1.parts rest with
      | some (ys, st2) => some ((i, y.cells) :: ys, st2)
      | none => none
    | none => none

def setRange (cs : List PV) (off : Nat) : List PV → List PV
  | [] => cs
  | x :: xs => setRange (cs.set off x) (off + 1) xs
def fillP (place : Nat → Option (Nat × Nat)) (cs : List PV) : List (Nat × List PV) → Option (List PV)
  | [] => some cs
  | (i, xs) :: rest => match place i with
    | some (off, size) => if xs.length = size ∧ off + size ≤ cs.length then nrm (setRange cs off xs) fun cs => fillP place cs rest else none
    | none => none

def fieldPlaces (P : Program) : List Field → Option (List (Nat × Nat))
  | [] => some []
  | f :: fs => match szOf P f.type, fieldPlaces P fs with
    | some n, some r => some ((f.offset, n) :: r)
    | _, _ => none

def evBuild (P : Program) (st : St) (t : TypeId) (ps : Array (Nat × Operand)) (d : Option Tmp) : Option St :=
  match zeroPV P t, st.parts ps.toList with
  | some zs, some (ys, st1) => match P.underlying t with
    | some (.struct fs) => match fieldPlaces P fs.toList with
      | some pl => match fillP (pl[·]?) zs ys with
        | some cs => st1.setD d (.agg cs)
        | none => none
      | none => none
    | some (.array _ e) => match szOf P e with
      | some n => match fillP (fun i => some (i * n, n)) zs ys with
        | some cs => st1.setD d (.agg cs)
        | none => none
      | none => none
    | _ => none
  | _, _ => none

def fillE (n : Nat) (xs : List (List PV)) : List (Nat × List PV) → Option (List (List PV))
  | [] => some xs
  | (i, c) :: rest => if c.length = n ∧ i < xs.length then nrm (xs.set i c) fun xs => fillE n xs rest else none

def evBuildSlice (P : Program) (st : St) (t : TypeId) (len : Nat) (ps : Array (Nat × Operand)) (d : Option Tmp) : Option St :=
  match P.underlying t with
  | some (.slice e) => match szOf P e, zeroPV P e, st.parts ps.toList with
    | some (n + 1), some zs, some (ys, st1) => if len * (n + 1) ≤ 2 ^ 24 ∧ zs.length = n + 1 then (match fillE (n + 1) (List.replicate len zs) ys with
        | some xs => st1.setD d (.sl (.excl e) false xs)
        | none => none) else none
    | _, _, _ => none
  | _ => none

def firstLen (n : Nat) : List (List PV) → Bool
  | [] => true
  | c :: _ => c.length == n

def evSlice (P : Program) (st : St) (t : TypeId) (x : Operand) (lo hi mx : Option Operand) (d : Option Tmp) : Option St :=
  match P.underlying t, mx with
  | some (.slice e), none =>
    match szOf P e, (match lo with | some o => st.int o | none => some 0), (match hi with | some o => st.int o | none => (st.sl x).map fun p => (p.2.length : Int)), st.use x with
    | some sz, some l, some h, some (.sl .view n xs, st1) => if 0 ≤ l ∧ l ≤ h ∧ h ≤ xs.length then nrm ((xs.drop l.toNat).take (h.toNat - l.toNat)) fun ys => if firstLen sz ys = true then st1.setD d (.sl .view n ys) else none else none
    | _, _, _, _ => none
  | _, _ => none

/-- What is appended: its elements, of so many cells each. -/
def elemsOf (st : St) (n : Nat) (x : Operand) : Option (List (List PV)) :=
  match st.peek x with
  | some (.sl _ _ ys) => if ys.all (fun c => c.length = n && c.all PV.one) then some ys else none
  | some (.lit (.string s)) => if n = 1 then some (s.data.toList.map fun b => [.lit (.int .u8 b.toNat)]) else none
  | _ => none

def isIntT : TypeDesc → Bool
  | .int _ => true
  | _ => false
def zeroFits (i : TypeInfo) : Bool :=
  match i.zero with
  | some z => z.cells.size == i.size
  | none => false

def evAppend (P : Program) (st : St) (tys : Array TypeId) (s x : Operand) (d : Option Tmp) : Option St :=
  match tys[0]?, tys[1]? with
  | some ts, some tx => match P.underlying ts, P.underlying tx with
    | some (.slice e), some ux => if isIntT ux = true then none else
      match P.info? e, st.peek s with
      | some i, some (.sl fl nil xs) => match elemsOf st i.size x with
        | some ys => if (xs.length + ys.length) * i.bytes ≤ 2 ^ 46 ∧ 0 < i.bytes ∧ zeroFits i = true then
            (if nil then (match d with
              | some t => st.setD (some t) (.sl (.excl e) false ys)
              | none => none)
            else if fl.isOwn ∧ fl.e = e then (match st.plc s, d with
              | some p, some t => if t < st.n ∧ p ≠ .tmp t then nrm (xs ++ ys) fun zs => some ((st.setP p .dead).setP (.tmp t) (.sl fl false zs)) else none
              | _, _ => none)
            else none) else none
        | none => none
      | _, _ => none
    | _, _ => none
  | _, _ => none

def intBin (op : BinOp) (k : IntKind) (a : Int) (k' : IntKind) (b : Int) : Option Value :=
  match op with
  | .shl => if b < 0 then none else some (.int k (k.wrap (a * 2 ^ (min b.toNat k.bits))))
  | .shr => if b < 0 then none else some (.int k (a.fdiv (2 ^ (min b.toNat k.bits))))
  | op => if k ≠ k' then none else match op with
    | .add => some (.int k (k.wrap (a + b)))
    | .sub => some (.int k (k.wrap (a - b)))
    | .mul => some (.int k (k.wrap (a * b)))
    | .quo => if b = 0 then none else some (.int k (k.wrap (a.tdiv b)))
    | .rem => if b = 0 then none else some (.int k (a.tmod b))
    | .eql => some (.bool (a == b))
    | .neq => some (.bool (a != b))
    | .lss => some (.bool (a < b))
    | .leq => some (.bool (a ≤ b))
    | .gtr => some (.bool (a > b))
    | .geq => some (.bool (a ≥ b))
    | .and => some (.int k (k.wrap (BitVec.ofInt k.bits a &&& BitVec.ofInt k.bits b).toNat))
    | .or => some (.int k (k.wrap (BitVec.ofInt k.bits a ||| BitVec.ofInt k.bits b).toNat))
    | .xor => some (.int k (k.wrap (BitVec.ofInt k.bits a ^^^ BitVec.ofInt k.bits b).toNat))
    | .andNot => some (.int k (k.wrap (BitVec.ofInt k.bits a &&& ~~~BitVec.ofInt k.bits b).toNat))
    | _ => none

def evBin (P : Program) (st : St) (op : BinOp) (t : TypeId) (x y : Operand) (d : Option Tmp) : Option St :=
  match st.peek x, st.peek y with
  | some (.lit (.int k a)), some (.lit (.int k' b)) => match intBin op k a k' b with
    | some v => st.setD d (.lit v)
    | none => none
  | some u, some v => match u.val, v.val with
    | some a, some b => match det P (do eqGuard op t x y a b; binOp op t a b) with
      | some r => st.setD d (constPV r)
      | none => none
    | _, _ => none
  | _, _ => none

def vals (st : St) : List Operand → Option (List Value)
  | [] => some []
  | o :: os => match st.peek o with
    | some x => match x.val, vals st os with
      | some v, some vs => some (v :: vs)
      | _, _ => none
    | none => none

def isConst : Operand → Bool
  | .const _ => true
  | _ => false

def evBuiltin (P : Program) (st : St) (b : Builtin) (tys : Array TypeId) (ty : TypeId) (args : List Operand) (d : Option Tmp) : Option St :=
  match b, args with
  | .append, [s, x] => evAppend P st tys s x d
  | .len, [x] => match st.peek x with
    | some (.sl _ _ xs) => match tys[0]? with
      | some t => match P.underlying t with
        | some (.slice _) => st.setD d (.lit (.int .i64 xs.length))
        | _ => none
      | none => none
    | some y => match y.val with
      | some v => match det P (builtin .len tys ty #[isConst x] #[v]) with
        | some (.value r) => st.setD d (constPV r)
        | _ => none
      | none => none
    | none => none
  | .append, _ => none
  | .recover, _ => none
  | b, args => match vals st args with
    | some vs => match det P (builtin b tys ty (args.map isConst).toArray vs.toArray) with
      | some (.value r) => st.setD d (constPV r)
      | _ => none
    | none => none

def evUn (P : Program) (st : St) (op : UnOp) (x : Operand) (d : Option Tmp) : Option St :=
  match op, st.peek x with
  | .not, some (.lit (.bool b)) => st.setD d (.lit (.bool !b))
  | op, some u => match u.val with
    | some a => match det P (Op.unary op a) with
      | some r => st.setD d (constPV r)
      | none => none
    | none => none
  | _, none => none

/-- The bytes of elements of one cell each. -/
def bytesOf : List (List PV) → Option (List UInt8)
  | [] => some []
  | [.lit (.int .u8 n)] :: rest => (bytesOf rest).map (UInt8.ofNat n.toNat :: ·)
  | _ => none

def evConvert (P : Program) (st : St) (src dst : TypeId) (x : Operand) (d : Option Tmp) : Option St :=
  match st.peek x with
  | some (.lit (.int k n)) => match P.underlying src, P.underlying dst with
    | some _, some (.int k') => st.setD d (.lit (.int k' (k'.wrap n)))
    | _, _ => match det P (convert src dst (.int k n)) with
      | some r => st.setD d (constPV r)
      | none => none
  | some (.sl _ _ xs) => match P.underlying src, P.underlying dst with
    | some (.slice e), some .string => match P.underlying e with
      | some (.int .u8) => match bytesOf xs with
        | some bs => st.setD d (.lit (.string ⟨bs.toArray⟩))
        | none => none
      | _ => none
    | _, _ => none
  | some u => match u.val with
    | some a => match det P (convert src dst a) with
      | some r => st.setD d (constPV r)
      | none => none
    | none => none
  | none => none

def evNilCheck (st : St) (x : Operand) (d : Option Tmp) : Option St :=
  match st.peek x with
  | some (.ptr id off) => st.setD d (.ptr id off)
  | _ => none

/-- Operations but calls of functions. -/
def evOp (C : Ctx) (o : Oper) (st : St) : Option St :=
  match o.op with
  | .move x => evMove st x o.dst
  | .assign x => evAssign C st x o.dst
  | .pick c a b => evPick st c a b o.dst
  | .alloc t => evAlloc C.P st t o.dst
  | .box t x => evBox st t x o.dst
  | .build t ps => evBuild C.P st t ps o.dst
  | .buildSlice t n ps => evBuildSlice C.P st t n ps o.dst
  | .load t a => evLoad C.P st t a o.dst
  | .store t a x => match evStore C.P st t a x with
    | some st1 => st1.setD o.dst (.lit undef)
    | none => none
  | .nilCheck x => evNilCheck st x o.dst
  | .binOp op t x y _ => evBin C.P st op t x y o.dst
  | .unOp op _ x => evUn C.P st op x o.dst
  | .convert s t x => evConvert C.P st s t x o.dst
  | .slice t x lo hi mx => evSlice C.P st t x lo hi mx o.dst
  | .fieldAddr t x f => evFieldAddr C.P st t x f o.dst
  | .field t x f => evField C.P st t x f o.dst
  | .indexAddr t x i => evIndexAddr C.P st t x i o.dst
  | .index t x i => evIndex C.P st t x i o.dst
  | .extract x i => evExtract st x i o.dst
  | .call c => match c.callee with
    | .builtin b => evBuiltin C.P st b c.argTypes o.type c.args.toList o.dst
    | _ => none
  | _ => none

/-! ### Calls, regions, code -/

/-- What is handed to a callee: tmps behind one's own; at the places that it takes over, what is owned; else frozen values. -/
def St.passL (st : St) (mv : Nat → Bool) (N : Nat) : Nat → List (PV ⊕ Operand) → Option St
  | _, [] => some st
  | j, .inl x :: r => match st.setD (some (N + j)) x with
    | some st1 => st1.passL mv N (j + 1) r
    | none => none
  | j, .inr o :: r =>
    match (if mv j then st.plc o else none) with
    | some q => match st.mvD q (some (N + j)) with
      | some st1 => st1.passL mv N (j + 1) r
      | none => none
    | none => match st.use o with
      | some (y, st1) => match st1.setD (some (N + j)) y with
        | some st2 => st2.passL mv N (j + 1) r
        | none => none
      | none => none

def getArgs (ts : List (Nat × PV)) : Nat → Nat → List PV
  | _, 0 => []
  | t, k + 1 => lkp ts t :: getArgs ts (t + 1) k

/-- Behind a call: no name of a box's cell, none of a tmp from 'N' on. -/
def fixC (N : Nat) (x : PV) : PV :=
  match x with
  | .alias (.tmp s) => if s < N then x else .dead
  | .elem (.tmp s) _ _ => if s < N then x else .dead
  | .alias (.cell _ _) => .dead
  | .elem (.cell _ _) _ _ => .dead
  | _ => x
def cutC (N : Nat) : List (Nat × PV) → List (Nat × PV)
  | [] => []
  | (k, x) :: r => if k < N then (k, fixC N x) :: cutC N r else cutC N r

def fixN (N : Nat) (x : PV) : PV :=
  match x with
  | .alias (.tmp s) => if s < N then x else .dead
  | .elem (.tmp s) _ _ => if s < N then x else .dead
  | _ => x
def cutN (N : Nat) : List (Nat × PV) → List (Nat × PV)
  | [] => []
  | (k, x) :: r => if k < N then (k, fixN N x) :: cutN N r else cutN N r
def St.shrink (st : St) (N : Nat) : St := { st with ts := cutN N st.ts, n := N }

def afterCall (st : St) (N : Nat) (d : Option Tmp) (r : PV) (σ : List Bx) : Option St :=
  match (if r.isOwn then (match d with
      | some _ => ({ ts := (N, r) :: cutC N st.ts, n := N + 1, σ } : St).mvD (.tmp N) d
      | none => some { ts := (N, r) :: cutC N st.ts, n := N + 1, σ })
    else ({ ts := (N, r) :: cutC N st.ts, n := N + 1, σ } : St).setD d r) with
  | some st1 => some (st1.shrink N)
  | none => none

def PV.isDead : PV → Bool
  | .dead => true
  | _ => false

def opLt (N : Nat) : Operand → Bool
  | .tmp t => decide (t < N)
  | _ => true

def evCall (C : Ctx) (st : St) (f : Operand) (args : List Operand) (d : Option Tmp) : Option St :=
  match st.peek f with
  | some (.fn (.func k) first captured) =>
    if args.all (opLt st.n) then match ({ ts := cutN st.n st.ts, n := st.n + (first.length + args.length + captured.length), σ := st.σ } : St).passL (C.mv k) st.n 0 (first.map .inl ++ args.map .inr ++ captured.map .inl) with
    | some st1 => nrm (getArgs st1.ts st.n (first.length + args.length + captured.length)) fun xs =>
      if xs.all PV.noAl then (match C.call k xs st1.σ with
        | some (r, σ) => if r.noAl = true ∧ r.isDead = false then afterCall st1 st.n d r σ else none
        | none => none) else none
    | none => none else none
  | _ => none

def evOp' (C : Ctx) (o : Oper) (st : St) : Option St :=
  match o.op with
  | .call c => match c.callee with
    | .value f => evCall C st f c.args.toList o.dst
    | _ => evOp C o st
  | _ => evOp C o st

def wantedA (ops : Array Oper) (o : Oper) (st : St) : Option Bool :=
  match o.guard with
  | none => some true
  | some (j, want) => match ops[j]? with
    | some p => match p.dst with
      | some t => match st.get t with
        | some (.lit (.bool b)) => some (b == want)
        | some (.lit _) => some false
        | _ => none
      | none => some false
    | none => some false

def touches : Op → Bool
  | .store .. => true
  | .alloc .. => true
  | .box .. => true
  | .call _ => true
  | _ => false
def nrmS {β : Type} (b : Bool) (st : St) (k : St → β) : β :=
  nrm st.ts fun ts => if b then nrmB st.σ fun σ => k { ts, n := st.n, σ } else k { ts, n := st.n, σ := st.σ }
theorem nrmS_eq {β : Type} (b : Bool) (st : St) (k : St → β) : nrmS b st k = k st := by
  simp only [nrmS, nrm_eq, nrmB_eq, ite_self]

def evOps (C : Ctx) (ops : Array Oper) : List Oper → St → Option St
  | [], st => some st
  | o :: rest, st => match wantedA ops o st with
    | some true => match evOp' C o st with
      | some st1 => nrmS (touches o.op) st1 fun st1 => evOps C ops rest st1
      | none => none
    | some false => match st.setD o.dst (.lit undef) with
      | some st1 => nrmS false st1 fun st1 => evOps C ops rest st1
      | none => none
    | none => none

/-! ### What is forgotten behind a region -/

mutual
/-- No box from 'n' on in it. -/
def noRef (n : Nat) : PV → Bool
  | .ptr id _ => id < n
  | .map id => id < n
  | .sl _ _ xs => noRefss n xs
  | .agg cs => noRefs n cs
  | .tup vs => noRefs n vs
  | .ifc _ v => noRef n v
  | .fn _ a b => noRefs n a && noRefs n b
  | .alias _ => false
  | .elem _ _ _ => false
  | .elemv cs _ => noRefs n cs
  | _ => true
def noRefs (n : Nat) : List PV → Bool
  | [] => true
  | x :: xs => noRef n x && noRefs n xs
def noRefss (n : Nat) : List (List PV) → Bool
  | [] => true
  | x :: xs => noRefs n x && noRefss n xs
end


/-- Tmps that are read no more are forgotten: which are kept is a hint. -/
def fixA (keep : List Nat) (x : PV) : PV :=
  match x with
  | .alias (.tmp s) => if keep.contains s then x else .dead
  | .elem (.tmp s) _ _ => if keep.contains s then x else .dead
  | _ => x
def keepL (keep : List Nat) (ts : List (Nat × PV)) : List Nat → List (Nat × PV)
  | [] => []
  | t :: r => (t, fixA keep (lkp ts t)) :: keepL keep ts r
def St.freeze : List Nat → St → St
  | [], st => st
  | t :: r, st => St.freeze r (match st.use (.tmp t) with
    | some (x, st1) => (match st1.setD (some t) x with
      | some st2 => st2
      | none => st1)
    | none => st)
def St.renil : List (Plc × TypeId) → St → St
  | [], st => st
  | (p, e) :: r, st => St.renil r (match contentAt st p with
    | some (.sl _ true _) => st.setP p (.sl (.excl e) false [])
    | _ => st)
def noRefT (n : Nat) (x : PV) : Bool :=
  match x with
  | .alias (.tmp _) => true
  | .elem (.tmp _) _ _ => true
  | x => noRef n x
def noRefB (n : Nat) : Bx → Bool
  | .cells _ cs => noRefs n cs
  | .mp _ => true
def St.cutOk (n : Nat) (st : St) : Bool := st.ts.all (fun p => noRefT n p.2) && (st.σ.take n).all (noRefB n)
def St.keepTo (h : Hint) (st : St) : St :=
  match St.renil h.nils (St.freeze h.frz st) with
  | st1 => { st1 with ts := keepL h.keep st1.ts h.keep }
def St.restrict (st : St) : Option Hint → St
  | none => st
  | some h => st.keepTo h

def evLoop (f : St → Option (Exit × St)) : Nat → St → Option (Exit × St)
  | 0, _ => none
  | n + 1, st => match f st with
    | some (.normal, st1) => evLoop f n st1
    | r => r

def evCode (C : Ctx) (n : Nat) : Code → St → Option (Exit × St)
  | .skip, st => some (.normal, st)
  | .region id ops false, st => match evOps C ops ops.toList st with
    | some st1 => some (.normal, st1.restrict (C.live id))
    | none => none
  | .region _ _ true, _ => none
  | .seq a b, st => match evCode C n a st with
    | some (.normal, st1) => evCode C n b st1
    | r => r
  | .cond c a b, st => match st.bool c with
    | some true => evCode C n a st
    | some false => evCode C n b st
    | none => none
  | .block id c, st => match evCode C n c st with
    | some (.exit id', st1) => if id' = id then some (.normal, st1) else some (.exit id', st1)
    | r => r
  | .loop c, st => evLoop (evCode C n c) n st
  | .exit id, st => some (.exit id, st)
  | .label _, st => some (.normal, st)
  | .goto l, st => some (.goto l, st)
  | .ret, st => some (.ret, st)
  | _, _ => none

def retVar (P : Program) (st : St) : ResultVar → Option (PV × St)
  | .tmp t => st.use (.tmp t)
  | .cell a t => match st.get a with
    | some (.ptr id off) => match aggT P t, szOf P t with
      | some true, some n => match st.takeC id off n with
        | some (cs, st1) => some (.agg cs, st1)
        | none => none
      | some false, some _ => st.useP (.cell id off)
      | _, _ => none
    | _ => none

def retVars (P : Program) : List ResultVar → St → Option (List PV × St)
  | [], st => some ([], st)
  | r :: rs, st => match retVar P st r with
    | some (x, st1) => match retVars P rs st1 with
      | some (xs, st2) => some (x :: xs, st2)
      | none => none
    | none => none

def retAll (P : Program) (rs : List ResultVar) (st : St) : Option (PV × St) :=
  match rs with
  | [.tmp t] => match st.get t with
    | some (.sl fl n xs) => some (.sl fl n xs, st)
    | _ => st.use (.tmp t)
  | [r] => retVar P st r
  | rs => match retVars P rs st with
    | some (xs, st1) => some (.tup xs, st1)
    | none => none

/-- What is left of the store behind a call. -/
def trunc (n : Nat) (r : PV) (σ : List Bx) : List Bx := if noRef n r && (σ.take n).all (noRefB n) then σ.take n else σ

def number : Nat → List PV → List (Nat × PV)
  | _, [] => []
  | k, x :: xs => (k, x) :: number (k + 1) xs

def resOf (fn : Func) (t : Nat) : Bool := fn.results.toList.any fun r => match r with
  | .tmp u => u == t
  | _ => false

def evFn (C : Ctx) (hint : FuncId → Nat → Option Hint) (n : Nat) (f : FuncId) (args : List PV) (σ : List Bx) : Option (PV × List Bx) :=
  match C.P.funcs[f]? with
  | some fn => match fn.body with
    | some c =>
      match evCode { C with live := hint f, res := resOf fn } n c { ts := number 0 args, n := args.length + (fn.ntmps - args.length), σ } with
      | some (.ret, st) => (match retAll C.P fn.results.toList st with
        | some (r, st1) => some (r, trunc σ.length r st1.σ)
        | none => none)
      | some (.normal, st) => (match retAll C.P fn.results.toList st with
        | some (r, st1) => some (r, trunc σ.length r st1.σ)
        | none => none)
      | _ => none
    | none => none
  | none => none

/-- Calls, so deep. -/
def ev (P : Program) (mv : FuncId → Nat → Bool) (hint : FuncId → Nat → Option Hint) (n : Nat) : Nat → FuncId → List PV → List Bx → Option (PV × List Bx)
  | 0, _, _, _ => none
  | k + 1, f, args, σ => evFn { P, mv, res := fun _ => false, live := fun _ => none, call := ev P mv hint n k } hint n f args σ

end
end Go.AM
