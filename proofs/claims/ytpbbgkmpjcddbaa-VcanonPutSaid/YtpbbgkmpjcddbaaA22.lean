/- The abstract machine, 22: what the machine reckons of a law is what the program does at inputs from outside; trees compared. -/
import Derived.Test.YtpbbgkmpjcddbaaA21
import Derived.Below
import Derived.WideShapes
set_option linter.all false
namespace Go.AM
open Go.RowKit

/-! ### A law's start -/
def g0 (w : World) : Gh := { rho := [], FP := fun b _ => b < w.heap.size, ow := fun b => if b < w.heap.size then some .frame else none }

theorem inv0 {P : Program} {args : List PV} {us : Array Value} {w : World} (hsz : us.size = args.length) (h : ∀ (i : Nat) (hi : i < args.length) (hv : i < us.size), Rel (g0 w) w args[i] us[i]) :
    Inv P (g0 w) { ts := number 0 args, n := args.length, σ := [] } us w where
  size := hsz
  slot t x hx := by
    have ht : t < args.length := get_lt hx
    have hxa : x = args[t] := by
      simp only [St.get] at hx
      rw [if_pos ht, lkp_number, if_pos (by omega), Nat.sub_zero, List.getD_eq_getElem?_getD, List.getElem?_eq_getElem ht] at hx
      exact (Option.some.inj hx).symm
    subst hxa
    have hr := h t ht (by omega)
    exact ⟨us[t]'(by omega), Array.getElem?_eq_getElem (by omega), slot_of_rel hr hr.plain⟩
  rlen := rfl
  box id ty cs b h1 h2 := by cases h2
  bmap id es b h1 h2 := by cases h2
  rown id b hb := by cases hb
  olt b o hb := by
    have hb : (if b < w.heap.size then some Own.frame else none) = some o := hb
    split at hb
    · assumption
    · cases hb
  flt b i hb := hb
  fbox b i id hb := by
    have hb : (if b < w.heap.size then some Own.frame else none) = some (.box id) := hb
    split at hb <;> cases hb

theorem AbsCall.walk {P : Program} {f : FuncId} {args : List PV} {v : Value} {us : Array Value} {w : World} (hc : AbsCall P f args [] (.lit v) []) (hsz : us.size = args.length)
    (h : ∀ (i : Nat) (hi : i < args.length) (hv : i < us.size), Rel (g0 w) w args[i] us[i]) : Calls P f us w fun e w' => e = .returned v ∧ Below w.heap.size w w' := by
  refine (hc _ _ _ (inv0 hsz h)).mono ?_
  rintro e w' ⟨rv, gc, rfl, h1, h2⟩
  obtain ⟨u, hu, hs⟩ := h1.slot 0 (.lit v) (by simp [St.get, lkp])
  have hs : Rel gc w' (.lit v) u := hs
  have : u = rv := by simpa using hu.symm
  subst this
  cases hs
  refine ⟨rfl, h2.os, h2.tape, h2.output, h2.size, fun k hk => h2.keep k hk (.inr ?_)⟩
  show (if k < w.heap.size then some Own.frame else none) = _
  rw [if_pos hk]

def RelsL (g : Gh) (w : World) : List PV → List Value → Prop
  | [], [] => True
  | x :: xs, v :: vs => Rel g w x v ∧ RelsL g w xs vs
  | _, _ => False
theorem RelsL.get {g : Gh} {w : World} : ∀ {xs : List PV} {vs : List Value}, RelsL g w xs vs → vs.length = xs.length ∧ ∀ (i : Nat) (hi : i < xs.length) (hv : i < vs.length), Rel g w xs[i] vs[i] := by
  intro xs
  induction xs with
  | nil =>
    intro vs h
    cases vs with
    | nil => exact ⟨rfl, fun i hi => by simp at hi⟩
    | cons v vs => exact h.elim
  | cons x xs ih =>
    intro vs h
    cases vs with
    | nil => exact h.elim
    | cons v vs =>
      obtain ⟨h1, h2⟩ := h
      obtain ⟨k1, k2⟩ := ih h2
      refine ⟨by simp [k1], fun i hi hv => ?_⟩
      cases i with
      | zero => exact h1
      | succ i => exact k2 i (by simpa using hi) (by simpa using hv)
theorem AbsCall.walkL {P : Program} {f : FuncId} {args : List PV} {v : Value} {us : List Value} {w : World} (hc : AbsCall P f args [] (.lit v) [])
    (h : RelsL (g0 w) w args us) : Calls P f us.toArray w fun e w' => e = .returned v ∧ Below w.heap.size w w' :=
  hc.walk (by simpa using h.get.1) fun i hi hv => by simpa using h.get.2 i hi (by simpa using hv)

/-- Integers as elements of a slice. -/
def rowPV (k : IntKind) (zs : List Int) : List (List PV) := zs.map fun z => [.lit (.int k z)]
def rowSl (k : IntKind) (isnil : Bool) (zs : List Int) : PV := .sl .view isnil (rowPV k zs)

/-- What is told of a slice of integers that came in. -/
def IsRow (k : IntKind) (w : World) (a : Option Addr) (len cap : Nat) (zs : List Int) : Prop :=
  (a = none ∧ len = 0 ∧ cap = 0 ∧ zs = []) ∨
  ∃ x, a = some x ∧ x.spot = none ∧ len ≤ cap ∧ cap ≤ maxLen ∧ zs.length = cap ∧ (∀ i, i < zs.length → w.cell? (x.add i) = some (.int k (zs.getD i 0))) ∧ ∀ n ∈ zs, (Lit.int k n).wf = true

theorem okWide_spot {P : Program} {w : World} {r : Reach} {base : Nat} {t e : TypeId} {a : Addr} {len cap : Nat} (ht : P.underlying t = some (.slice e)) (h : Value.okWide P w r base t (.slice (some a) len cap)) : a.spot = none := by
  simp only [Value.okWide, ht, Cell.okWide, Cell.ok] at h
  exact h.2.2.2.1

theorem IsRow.rel {k : IntKind} {w : World} {a : Option Addr} {len cap : Nat} {zs : List Int} (h : IsRow k w a len cap zs) :
    Rel (g0 w) w (rowSl k a.isNone (zs.take len)) (.slice a len cap) ∧ (∀ n ∈ zs.take len, (Lit.int k n).wf = true) := by
  rcases h with ⟨rfl, rfl, rfl, rfl⟩ | ⟨x, rfl, hs, hl, hm, hz, hc, hw⟩
  · exact ⟨.slnil .view, fun n hn => by simp at hn⟩
  · refine ⟨?_, fun n hn => hw n (List.mem_of_mem_take hn)⟩
    obtain ⟨b, o, spot⟩ := x
    have hs : spot = none := hs
    subst hs
    have hlen : (rowPV k (zs.take len)).length = len := by simp [rowPV, hz]; omega
    have := Rel.slv (g := g0 w) (w := w) (rowPV k (zs.take len)) b o cap 1 (fun i _ => .int k (zs.getD i 0)) (by rw [hlen]; exact hl) (fun i hi => by simp [rowPV]) (fun i j hi hj => by
      rw [hlen] at hi
      have h1 := hc i (by omega)
      have h2 : w.cell? ⟨b, o + i * 1 + j, none⟩ = some (.int k (zs.getD i 0)) := by
        have hj0 : j = 0 := by omega
        subst hj0
        have ha : (⟨b, o, none⟩ : Addr).add i = ⟨b, o + i * 1 + 0, none⟩ := by
          by_cases hi0 : i = 0 <;> simp [Addr.add, hi0]
        rw [ha] at h1
        exact h1
      refine ⟨?_, h2⟩
      show b < w.heap.size
      rcases Nat.lt_or_ge b w.heap.size with hh | hh
      · exact hh
      · have h3 : w.heap[b]? = none := Array.getElem?_eq_none hh
        simp only [World.cell?, h3] at h2
        cases h2) (fun i j hi hj => by
      have hi' : i < len := by rw [← hlen]; exact hi
      have hj0 : j = 0 := by simp [rowPV] at hj; exact hj
      subst hj0
      have : (rowPV k (zs.take len))[i][0] = .lit (.int k (zs.getD i 0)) := by
        simp [rowPV, List.getElem_take, List.getD_eq_getElem?_getD, List.getElem?_eq_getElem (show i < zs.length by omega)]
      rw [this]
      exact .lit _)
    rw [hlen] at this
    exact this

/-! ### Trees compared -/
def vBeq : Value → Value → Bool
  | .bool a, .bool b => a == b
  | .int k a, .int k' b => decide (k = k') && decide (a = b)
  | .float k a, .float k' b => decide (k = k') && Nat.beq a b
  | .complex k a c, .complex k' b d => decide (k = k') && (Nat.beq a b && Nat.beq c d)
  | .string a, .string b => decide (a.data.toList = b.data.toList)
  | .nilIface, .nilIface => true
  | .nilFunc, .nilFunc => true
  | _, _ => false
theorem vBeq_eq {a b : Value} (h : vBeq a b = true) : a = b := by
  unfold vBeq at h
  split at h
  · simpa using h
  · simpa [and_comm] using h
  · simp only [Bool.and_eq_true, decide_eq_true_eq] at h; rw [h.1, Nat.eq_of_beq_eq_true h.2]
  · simp only [Bool.and_eq_true, decide_eq_true_eq] at h; rw [h.1, Nat.eq_of_beq_eq_true h.2.1, Nat.eq_of_beq_eq_true h.2.2]
  · rename_i a b
    simp only [decide_eq_true_eq] at h
    obtain ⟨⟨a⟩⟩ := a; obtain ⟨⟨b⟩⟩ := b
    simp at h; rw [h]
  · rfl
  · rfl
  · cases h

mutual
def pBeq : PV → PV → Bool
  | .lit a, .lit b => vBeq a b
  | .ptr a b, .ptr c d => Nat.beq a c && Nat.beq b d
  | .nilp, .nilp => true
  | .sl f n xs, .sl f' n' ys => decide (f = f') && (n == n' && pBeqss xs ys)
  | .agg xs, .agg ys => pBeqs xs ys
  | .tup xs, .tup ys => pBeqs xs ys
  | .ifc t x, .ifc u y => Nat.beq t u && pBeq x y
  | _, _ => false
def pBeqs : List PV → List PV → Bool
  | [], [] => true
  | x :: xs, y :: ys => pBeq x y && pBeqs xs ys
  | _, _ => false
def pBeqss : List (List PV) → List (List PV) → Bool
  | [], [] => true
  | x :: xs, y :: ys => pBeqs x y && pBeqss xs ys
  | _, _ => false
end

mutual
theorem pBeq_eq : ∀ {x y : PV}, pBeq x y = true → x = y := by
  intro x y h
  cases x <;> cases y <;> simp only [pBeq, Bool.and_eq_true, decide_eq_true_eq, beq_iff_eq] at h <;> try (cases h; done)
  · rw [vBeq_eq h]
  · rw [Nat.eq_of_beq_eq_true h.1, Nat.eq_of_beq_eq_true h.2]
  · rfl
  · rw [h.1, h.2.1, pBeqss_eq h.2.2]
  · rw [pBeqs_eq h]
  · rw [pBeqs_eq h]
  · rw [Nat.eq_of_beq_eq_true h.1, pBeq_eq h.2]
theorem pBeqs_eq : ∀ {x y : List PV}, pBeqs x y = true → x = y := by
  intro x y h
  cases x <;> cases y <;> simp only [pBeqs, Bool.and_eq_true] at h <;> try (cases h; done)
  · rfl
  · rw [pBeq_eq h.1, pBeqs_eq h.2]
theorem pBeqss_eq : ∀ {x y : List (List PV)}, pBeqss x y = true → x = y := by
  intro x y h
  cases x <;> cases y <;> simp only [pBeqss, Bool.and_eq_true] at h <;> try (cases h; done)
  · rfl
  · rw [pBeqs_eq h.1, pBeqss_eq h.2]
end

/-- An end with no box left, as expected. -/
noncomputable def ends (r : Option (PV × List Bx)) (x : PV) : Bool :=
  match r with
  | some (y, []) => pBeq y x
  | _ => false
theorem ends_eq {r : Option (PV × List Bx)} {x : PV} (h : ends r x = true) : r = some (x, []) := by
  unfold ends at h
  split at h
  · rw [pBeq_eq h]
  · cases h

end Go.AM
