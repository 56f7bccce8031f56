/- The abstract machine, 30: words of the printed models and walks. -/
import Derived.Test.YtpbbgkmpjcddbaaA29
set_option linter.all false
namespace Go.AM

/-! ### Code within code -/
def sub : List Nat → Code → Code
  | [], c => c
  | 0 :: p, .seq a _ => sub p a
  | _ :: p, .seq _ b => sub p b
  | _ :: p, .block _ c => sub p c
  | _ :: p, .loop c => sub p c
  | 0 :: p, .cond _ a _ => sub p a
  | _ :: p, .cond _ _ b => sub p b
  | _, c => c
def fbody (f : Func) : Code := f.body.getD .skip

/-! ### Joints of models -/
def FU : Nat := 1125899906842624
def guardO {α : Type} (p : Prop) [Decidable p] (k : Option α) : Option α := if p then k else none
theorem guardO_some {α : Type} {p : Prop} [Decidable p] {k : Option α} {r : α} (h : guardO p k = some r) : p ∧ k = some r := by
  unfold guardO at h
  split at h
  · exact ⟨‹_›, h⟩
  · cases h
theorem ite_some {α : Type} {p : Prop} [Decidable p] {a b : Option α} {r : α} (h : (if p then a else b) = some r) : (p ∧ a = some r) ∨ (¬ p ∧ b = some r) := by
  split at h
  · exact .inl ⟨‹_›, h⟩
  · exact .inr ⟨‹_›, h⟩
theorem and_t {a b : Bool} (h : a = true) (k : b = true) : (a && b) = true := by rw [h, k]; rfl
theorem not_t {b : Bool} (h : b = false) : (!b) = true := by rw [h]; rfl
theorem not_f {b : Bool} (h : b = true) : (!b) = false := by rw [h]; rfl
theorem bne_f {a b : Int} (h : a = b) : (a != b) = false := by rw [h]; simp

/-! ### Numbers -/
def w64 (n : Int) : Int := IntKind.i64.wrap n
def w8 (n : Int) : Int := IntKind.u8.wrap n
def wu16 (n : Int) : Int := IntKind.u16.wrap n
def wu32 (n : Int) : Int := IntKind.u32.wrap n
def wu64 (n : Int) : Int := IntKind.u64.wrap n
def wi32 (n : Int) : Int := IntKind.i32.wrap n
def wi8 (n : Int) : Int := IntKind.i8.wrap n
def bAnd (k : IntKind) (a b : Int) : Int := k.wrap (BitVec.ofInt k.bits a &&& BitVec.ofInt k.bits b).toNat
def bOr (k : IntKind) (a b : Int) : Int := k.wrap (BitVec.ofInt k.bits a ||| BitVec.ofInt k.bits b).toNat
def bXor (k : IntKind) (a b : Int) : Int := k.wrap (BitVec.ofInt k.bits a ^^^ BitVec.ofInt k.bits b).toNat
def bAndnot (k : IntKind) (a b : Int) : Int := k.wrap (BitVec.ofInt k.bits a &&& ~~~BitVec.ofInt k.bits b).toNat
def bShl (k : IntKind) (a b : Int) : Int := k.wrap (a * 2 ^ (min b.toNat k.bits))
def bShr (k : IntKind) (a b : Int) : Int := a.fdiv (2 ^ (min b.toNat k.bits))
def minI (x y : Int) : Int := if y < x then y else x
def maxI (x y : Int) : Int := if y > x then y else x
def i2f (n : Int) : Nat := FloatKind.f64.nearest n
def f2i (k : IntKind) (x : Nat) : Option Int :=
  match (FloatKind.f64.decode x).toInt .zero with
  | some n => if k.min ≤ n ∧ n ≤ k.max then some n else none
  | none => none
def feq (a b : Nat) : Bool := FloatKind.f64.format.order a b == some .eq
def ceq (a b c d : Nat) : Bool := feq a c && feq b d
def fadd (a b : Nat) : Option Nat := FloatKind.f64.format.add a b
def fsub (a b : Nat) : Option Nat := FloatKind.f64.format.sub a b
def fmul (a b : Nat) : Option Nat := FloatKind.f64.format.mul a b

/-! ### Elements -/
/-- A long array's cells. -/
def aI (k : IntKind) (l : List Int) : List PV := l.map fun z => .lit (.int k z)
def eB (l : List Bool) : List (List PV) := l.map fun z => [.lit (.bool z)]
def eC (k : FloatKind) (l : List (Nat × Nat)) : List (List PV) := l.map fun z => [.lit (.complex k z.1 z.2)]
def eF (k : FloatKind) (l : List Nat) : List (List PV) := l.map fun z => [.lit (.float k z)]
def eS (l : List ByteArray) : List (List PV) := l.map fun z => [.lit (.string z)]
def eL {α : Type} (e : List α → List (List PV)) (l : List (List α)) : List (List PV) := l.map fun z => [.sl .view false (e z)]

theorem map_noRef {α : Type} {n : Nat} {c : α → List PV} (h : ∀ x, noRefs n (c x) = true) (l : List α) : noRefss n (l.map c) = true := by
  induction l with
  | nil => rfl
  | cons x r ih => simp only [List.map_cons, noRefss, h, ih, Bool.and_self]
theorem eB_noRef (n : Nat) (l : List Bool) : noRefss n (eB l) = true := map_noRef (fun _ => rfl) l
theorem eC_noRef (n : Nat) (k : FloatKind) (l : List (Nat × Nat)) : noRefss n (eC k l) = true := map_noRef (fun _ => rfl) l
theorem eF_noRef (n : Nat) (k : FloatKind) (l : List Nat) : noRefss n (eF k l) = true := map_noRef (fun _ => rfl) l
theorem eS_noRef (n : Nat) (l : List ByteArray) : noRefss n (eS l) = true := map_noRef (fun _ => rfl) l
theorem eL_noRef {α : Type} {n : Nat} {e : List α → List (List PV)} (h : ∀ l, noRefss n (e l) = true) (l : List (List α)) : noRefss n (eL e l) = true :=
  map_noRef (fun x => by simp only [noRefs, noRef, h, Bool.and_self]) l
theorem all_map {α : Type} {c : α → List PV} {p : List PV → Bool} (h : ∀ x, p (c x) = true) (l : List α) : (l.map c).all p = true := by
  simp [h]
theorem first_map {α : Type} {n : Nat} {c : α → List PV} (h : ∀ x, ((c x).length == n) = true) (l : List α) : firstLen n (l.map c) = true := by
  cases l with
  | nil => rfl
  | cons x r => exact h x
theorem len_map {α : Type} {c : α → List PV} {l : List α} {b m : Nat} (h : l.length * b ≤ m) : (l.map c).length * b ≤ m := by simpa using h
theorem len_val {α : Type} (c : α → List PV) (l : List α) : Value.int .i64 (↑(List.length (l.map c)) : Int) = .int .i64 (l.length : Int) := by rw [List.length_map]
theorem len_map2 {α β : Type} {c : α → List PV} {c' : β → List PV} {l : List α} {l' : List β} {b m : Nat} (h : (l.length + l'.length) * b ≤ m) : ((l.map c).length + (l'.map c').length) * b ≤ m := by simpa using h
theorem set_map {α : Type} (c : α → List PV) (l : List α) (k : Nat) (x : α) : (l.map c).set k (c x) = (l.set k x).map c := by
  rw [List.map_set]

theorem nthI_lt {α : Type} {l : List α} {i : Int} {x : α} (h : nthI l i = some x) : 0 ≤ i ∧ i < l.length := by
  unfold nthI at h
  split at h
  · have := (List.getElem?_eq_some_iff.1 h).1; omega
  · cases h

def sliceI {α : Type} (l : List α) (lo hi : Int) : Option (List α) := if 0 ≤ lo ∧ lo ≤ hi ∧ hi ≤ l.length then some ((l.drop lo.toNat).take (hi.toNat - lo.toNat)) else none
theorem sl_b {α : Type} {c : α → List PV} {l m : List α} {lo hi : Int} (h : sliceI l lo hi = some m) : 0 ≤ lo ∧ lo ≤ hi ∧ hi ≤ (↑(List.length (l.map c)) : Int) := by
  unfold sliceI at h
  split at h
  · simpa using ‹_›
  · cases h
theorem sl_e {α : Type} {c : α → List PV} {l m : List α} {lo hi : Int} (h : sliceI l lo hi = some m) : ((l.map c).drop lo.toNat).take (hi.toNat - lo.toNat) = m.map c := by
  unfold sliceI at h
  split at h
  · injection h with h; subst h; rw [List.map_take, List.map_drop]
  · cases h
/-- The same where the upper bound is the length. -/
theorem sl_b' {α : Type} {c : α → List PV} {l m : List α} {lo : Int} (h : sliceI l lo (l.length : Int) = some m) : 0 ≤ lo ∧ lo ≤ (↑(List.length (l.map c)) : Int) ∧ (↑(List.length (l.map c)) : Int) ≤ (↑(List.length (l.map c)) : Int) := by
  have := sl_b (c := c) h
  simpa using this
theorem sl_e' {α : Type} {c : α → List PV} {l m : List α} {lo : Int} (h : sliceI l lo (l.length : Int) = some m) : ((l.map c).drop lo.toNat).take (Int.toNat (↑(List.length (l.map c)) : Int) - lo.toNat) = m.map c := by
  have := sl_e (c := c) h
  simpa using this

theorem part_of {α : Type} {P : Program} {e : TypeId} {cs : List PV} {l : List α} {i : Int} {x : α} {c : α → PV} (h1 : aggT P e = some false) (h2 : szOf P e = some 1) (h : nthI l i = some x) (hc : cs = l.map c) : partOf P e cs (i.toNat * 1) = some (c x) := by
  subst hc
  unfold partOf
  rw [h1, h2]
  simp only [Nat.mul_one]
  unfold nthI at h
  split at h
  · simp [h]
  · cases h
theorem box_of {α : Type} {pre post : List PV} {l : List α} {i : Int} {x : α} (c : α → PV) (h : nthI l i = some x) : (pre ++ (l.map c ++ post))[pre.length + i.toNat * 1]? = some (c x) := by
  have h1 := nthI_lt h
  unfold nthI at h
  split at h
  · rw [List.getElem?_append_right (by omega), Nat.mul_one, Nat.add_sub_cancel_left, List.getElem?_append_left (by simp; omega)]
    simp [h]
  · cases h

/-! ### What asks nothing of the memory -/
theorem det_feql (P : Program) (t : TypeId) (x y : Operand) (a b : Nat) : det P (do eqGuard .eql t x y (.float .f64 a) (.float .f64 b); binOp .eql t (.float .f64 a) (.float .f64 b)) = some (.bool (feq a b)) := rfl
theorem det_fneq (P : Program) (t : TypeId) (x y : Operand) (a b : Nat) : det P (do eqGuard .neq t x y (.float .f64 a) (.float .f64 b); binOp .neq t (.float .f64 a) (.float .f64 b)) = some (.bool (!feq a b)) := rfl
theorem det_bind {α β : Type} (P : Program) (s : Sem α) (f : α → Sem β) : det P (s >>= f) = (match det P s with | some a => det P (f a) | none => none) := by
  induction s with
  | pure a => rfl
  | program k ih => exact ih P
  | _ => rfl
theorem det_pure {α : Type} (P : Program) (a : α) : det P (pure a) = some a := rfl
theorem det_ite {α : Type} (P : Program) (c : Prop) [Decidable c] (a b : Sem α) : det P (if c then a else b) = if c then det P a else det P b := by split <;> rfl
theorem det_prog (P : Program) : det P program = some P := rfl
theorem det_und {P : Program} {t : TypeId} {d : TypeDesc} (h : P.underlying t = some d) : det P (underlying t) = some d := by
  simp only [underlying, det_bind, det_prog, h, det_pure]
theorem det_beql {P : Program} {t : TypeId} (h : P.underlying t = some .bool) (x y : Operand) (a b : Bool) : det P (do eqGuard .eql t x y (.bool a) (.bool b); binOp .eql t (.bool a) (.bool b)) = some (.bool (a == b))  := by
  obtain ⟨n, h3⟩ : ∃ n, Op.maxDepth = n + 1 := ⟨9999, rfl⟩
  have e : det P (eqGuard .eql t x y (.bool a) (.bool b)) = some () := rfl
  rw [det_bind, e]
  simp [binOp, Op.equal, h3, Op.equalIn, det_bind, det_und h, det_pure]
theorem det_bneq {P : Program} {t : TypeId} (h : P.underlying t = some .bool) (x y : Operand) (a b : Bool) : det P (do eqGuard .neq t x y (.bool a) (.bool b); binOp .neq t (.bool a) (.bool b)) = some (.bool (a != b))  := by
  obtain ⟨n, h3⟩ : ∃ n, Op.maxDepth = n + 1 := ⟨9999, rfl⟩
  have e : det P (eqGuard .neq t x y (.bool a) (.bool b)) = some () := rfl
  rw [det_bind, e]
  simp [binOp, Op.equal, h3, Op.equalIn, det_bind, det_und h, det_pure, bne]
/-- A byte of a string. -/
def strI (s : ByteArray) (i : Int) : Option Int := if 0 ≤ i then (s[i.toNat]?).map (fun b => (b.toNat : Int)) else none
theorem strI_lo {s : ByteArray} {i v : Int} (h : strI s i = some v) : 0 ≤ i := by
  unfold strI at h
  split at h
  · assumption
  · cases h
theorem strI_ex {s : ByteArray} {i v : Int} (h : strI s i = some v) : ∃ b, s[i.toNat]? = some b ∧ (PV.lit (.int .u8 v)) = .lit (.int .u8 b.toNat) := by
  unfold strI at h
  split at h
  · cases hb : s[i.toNat]? with
    | none => rw [hb] at h; cases h
    | some b => rw [hb] at h; injection h with h; exact ⟨b, rfl, by rw [← h]⟩
  · cases h
theorem det_arith {P : Program} {op : BinOp} {k : FloatKind} {a b c : Nat} (h : (match op with | .add => some (k.format.add a b) | .sub => some (k.format.sub a b) | .mul => some (k.format.mul a b) | _ => none) = some (some c)) :
    det P (Op.floatArith op k a b) = some (.float k c) := by
  cases op <;> simp only at h <;> first | cases h | (injection h with h; simp only [Op.floatArith]; rw [det_bind]; simp only [h, det_pure])
theorem det_fadd {P : Program} {t : TypeId} {x y : Operand} {a b c : Nat} (h : fadd a b = some c) : det P (do eqGuard .add t x y (.float .f64 a) (.float .f64 b); binOp .add t (.float .f64 a) (.float .f64 b)) = some (.float .f64 c) :=
  det_arith (op := .add) (k := .f64) (by simpa [fadd] using h)
theorem det_fsub {P : Program} {t : TypeId} {x y : Operand} {a b c : Nat} (h : fsub a b = some c) : det P (do eqGuard .sub t x y (.float .f64 a) (.float .f64 b); binOp .sub t (.float .f64 a) (.float .f64 b)) = some (.float .f64 c) :=
  det_arith (op := .sub) (k := .f64) (by simpa [fsub] using h)
theorem det_fmul {P : Program} {t : TypeId} {x y : Operand} {a b c : Nat} (h : fmul a b = some c) : det P (do eqGuard .mul t x y (.float .f64 a) (.float .f64 b); binOp .mul t (.float .f64 a) (.float .f64 b)) = some (.float .f64 c) :=
  det_arith (op := .mul) (k := .f64) (by simpa [fmul] using h)
theorem det_ceql (P : Program) (t : TypeId) (x y : Operand) (a b c d : Nat) : det P (do eqGuard .eql t x y (.complex .f64 a b) (.complex .f64 c d); binOp .eql t (.complex .f64 a b) (.complex .f64 c d)) = some (.bool (ceq a b c d)) := rfl
theorem det_cneq (P : Program) (t : TypeId) (x y : Operand) (a b c d : Nat) : det P (do eqGuard .neq t x y (.complex .f64 a b) (.complex .f64 c d); binOp .neq t (.complex .f64 a b) (.complex .f64 c d)) = some (.bool (!ceq a b c d)) := rfl
theorem det_carith {P : Program} {op : BinOp} {a b c : Nat} (h : det P (Op.floatArith op .f64 a b) = some (.float .f64 c)) : det P (Op.Complex.arith op .f64 a b) = some c := by
  unfold Op.Complex.arith
  rw [det_bind, h]
  rfl
theorem det_cadd {P : Program} {t : TypeId} {x y : Operand} {a b c d r i : Nat} (h1 : fadd a c = some r) (h2 : fadd b d = some i) : det P (do eqGuard .add t x y (.complex .f64 a b) (.complex .f64 c d); binOp .add t (.complex .f64 a b) (.complex .f64 c d)) = some (.complex .f64 r i) := by
  show det P ((Op.Complex.arith .add .f64 a c) >>= fun r => (Op.Complex.arith .add .f64 b d) >>= fun i => pure (Value.complex .f64 r i)) = _
  rw [det_bind, det_carith (det_arith (op := .add) (k := .f64) (by simpa [fadd] using h1))]
  simp only
  rw [det_bind, det_carith (det_arith (op := .add) (k := .f64) (by simpa [fadd] using h2))]
  rfl
theorem det_i2f {P : Program} {s d : TypeId} {k ks : IntKind} {n : Int} (h1 : P.underlying s = some (.int ks)) (h2 : P.underlying d = some (.float .f64)) : det P (convert s d (.int k n)) = some (.float .f64 (i2f n)) := by
  simp only [convert, det_bind, det_und h1, det_und h2]
  rfl
theorem det_f2i {P : Program} {s d : TypeId} {k : IntKind} {x : Nat} {n : Int} (h1 : P.underlying s = some (.float .f64)) (h2 : P.underlying d = some (.int k)) (h : f2i k x = some n) : det P (convert s d (.float .f64 x)) = some (.int k n) := by
  simp only [convert, det_bind, det_und h1, det_und h2]
  unfold f2i at h
  simp only [Conv.floatToInt]
  split at h
  · rename_i m hm
    rw [hm]
    split at h
    · rename_i hb
      injection h with h; subst h
      simp only [if_pos hb]
      rfl
    · cases h
  · cases h
theorem det_min (P : Program) (tys : Array TypeId) (ty : TypeId) (cs : Array Bool) (k : IntKind) (a b : Int) : det P (builtin .min tys ty cs #[.int k a, .int k b]) = some (.value (.int k (minI a b))) := rfl
theorem det_max (P : Program) (tys : Array TypeId) (ty : TypeId) (cs : Array Bool) (k : IntKind) (a b : Int) : det P (builtin .max tys ty cs #[.int k a, .int k b]) = some (.value (.int k (maxI a b))) := rfl

/-! ### Nil arguments -/
def deNil : PV → PV
  | .sl _ true [] => .sl .view false []
  | x => x
end Go.AM
