/- The abstract machine, 21: equations by which the machine is reckoned with unknowns. -/
import Derived.Test.YtpbbgkmpjcddbaaA20
set_option linter.all false
namespace Go.AM

/-! ### Joints that nothing looks into before their first part is known -/
noncomputable def seqR (r : Option (Exit × St)) (f : St → Option (Exit × St)) : Option (Exit × St) :=
  match r with
  | some (.normal, st) => f st
  | r => r
theorem seqR_normal (st : St) (f : St → Option (Exit × St)) : seqR (some (.normal, st)) f = f st := rfl
theorem seqR_ret (st : St) (f : St → Option (Exit × St)) : seqR (some (.ret, st)) f = some (.ret, st) := rfl
theorem seqR_exit (id : Nat) (st : St) (f : St → Option (Exit × St)) : seqR (some (.exit id, st)) f = some (.exit id, st) := rfl
noncomputable def condR (b : Option Bool) (f g : St → Option (Exit × St)) (st : St) : Option (Exit × St) :=
  match b with
  | some true => f st
  | some false => g st
  | none => none
theorem condR_true (f g : St → Option (Exit × St)) (st : St) : condR (some true) f g st = f st := rfl
theorem condR_false (f g : St → Option (Exit × St)) (st : St) : condR (some false) f g st = g st := rfl
noncomputable def blkR (id : Nat) (r : Option (Exit × St)) : Option (Exit × St) :=
  match r with
  | some (.exit id', st1) => if id' = id then some (.normal, st1) else some (.exit id', st1)
  | r => r
theorem blkR_normal (id : Nat) (st : St) : blkR id (some (.normal, st)) = some (.normal, st) := rfl
theorem blkR_ret (id : Nat) (st : St) : blkR id (some (.ret, st)) = some (.ret, st) := rfl
theorem blkR_exit (id id' : Nat) (st : St) : blkR id (some (.exit id', st)) = if id' = id then some (.normal, st) else some (.exit id', st) := rfl
noncomputable def regR (C : Ctx) (id : Nat) (r : Option St) : Option (Exit × St) :=
  match r with
  | some st => some (.normal, st.restrict (C.live id))
  | none => none
theorem regR_some (C : Ctx) (id : Nat) (st : St) : regR C id (some st) = some (.normal, st.restrict (C.live id)) := rfl
noncomputable def loopR (r : Option (Exit × St)) (f : St → Option (Exit × St)) (n : Nat) : Option (Exit × St) :=
  match r with
  | some (.normal, st1) => evLoop f n st1
  | r => r
theorem loopR_normal (st : St) (f : St → Option (Exit × St)) (n : Nat) : loopR (some (.normal, st)) f n = evLoop f n st := rfl
theorem loopR_ret (st : St) (f : St → Option (Exit × St)) (n : Nat) : loopR (some (.ret, st)) f n = some (.ret, st) := rfl
theorem loopR_exit (id : Nat) (st : St) (f : St → Option (Exit × St)) (n : Nat) : loopR (some (.exit id, st)) f n = some (.exit id, st) := rfl
noncomputable def opsR (r : Option St) (f : St → Option St) : Option St :=
  match r with
  | some st => f st
  | none => none
theorem opsR_some (st : St) (f : St → Option St) : opsR (some st) f = f st := rfl
noncomputable def wantR (b : Option Bool) (f g : St → Option St) (st : St) : Option St :=
  match b with
  | some true => f st
  | some false => g st
  | none => none
theorem wantR_true (f g : St → Option St) (st : St) : wantR (some true) f g st = f st := rfl
theorem wantR_false (f g : St → Option St) (st : St) : wantR (some false) f g st = g st := rfl

theorem evCode_seq (C : Ctx) (n : Nat) (a b : Code) (st : St) : evCode C n (.seq a b) st = seqR (evCode C n a st) (evCode C n b) := by
  simp only [evCode, seqR]
  rfl
theorem evCode_cond (C : Ctx) (n : Nat) (c : Operand) (a b : Code) (st : St) : evCode C n (.cond c a b) st = condR (st.bool c) (evCode C n a) (evCode C n b) st := by
  simp only [evCode, condR]
  rfl
theorem evCode_block (C : Ctx) (n id : Nat) (c : Code) (st : St) : evCode C n (.block id c) st = blkR id (evCode C n c st) := by
  simp only [evCode, blkR]
  rfl
theorem evCode_loop (C : Ctx) (n : Nat) (c : Code) (st : St) : evCode C n (.loop c) st = evLoop (evCode C n c) n st := by
  simp only [evCode]
theorem evCode_skip (C : Ctx) (n : Nat) (st : St) : evCode C n .skip st = some (.normal, st) := by simp only [evCode]
theorem evCode_exit (C : Ctx) (n id : Nat) (st : St) : evCode C n (.exit id) st = some (.exit id, st) := by simp only [evCode]
theorem evCode_ret (C : Ctx) (n : Nat) (st : St) : evCode C n .ret st = some (.ret, st) := by simp only [evCode]
theorem evCode_label (C : Ctx) (n : Nat) (l : Nat) (st : St) : evCode C n (.label l) st = some (.normal, st) := by simp only [evCode]
theorem evLoop_succ (f : St → Option (Exit × St)) (n : Nat) (st : St) : evLoop f (n + 1) st = loopR (f st) f n := by
  simp only [evLoop, loopR]
  rfl

/-- A region's operations, where of its list only the destinations are borne along. -/
noncomputable def evL (C : Ctx) (ds : List (Option Tmp)) : List Oper → St → Option St
  | [], st => some st
  | o :: rest, st => match (match o.guard with
      | none => some true
      | some (j, want) => match ds[j]? with
        | some (some t) => match st.get t with
          | some (.lit (.bool b)) => some (b == want)
          | some (.lit _) => some false
          | _ => none
        | _ => some false) with
    | some true => match evOp' C o st with
      | some st1 => evL C ds rest st1
      | none => none
    | some false => match st.setD o.dst (.lit undef) with
      | some st1 => evL C ds rest st1
      | none => none
    | none => none
theorem evOps_evL (C : Ctx) (ops : Array Oper) : ∀ (l : List Oper) (st : St), evOps C ops l st = evL C (ops.toList.map (·.dst)) l st := by
  intro l
  induction l with
  | nil => intro st; rfl
  | cons o l ih =>
    intro st
    have hw : wantedA ops o st = (match o.guard with
      | none => some true
      | some (j, want) => match (ops.toList.map (·.dst))[j]? with
        | some (some t) => match st.get t with
          | some (.lit (.bool b)) => some (b == want)
          | some (.lit _) => some false
          | _ => none
        | _ => some false) := by
      unfold wantedA
      cases o.guard with
      | none => rfl
      | some p =>
        obtain ⟨j, want⟩ := p
        simp only [List.getElem?_map, Array.getElem?_toList]
        cases ops[j]? with
        | none => rfl
        | some p =>
          simp only [Option.map_some]
          cases p.dst with
          | none => rfl
          | some t => rfl
    simp only [evOps, evL, hw, nrmS_eq, ih]
    rfl
theorem evCode_region (C : Ctx) (n id : Nat) (ops : Array Oper) (st : St) : evCode C n (.region id ops false) st = regR C id (evL C (ops.toList.map (·.dst)) ops.toList st) := by
  rw [← evOps_evL]
  simp only [evCode, regR]
  rfl
theorem evL_nil (C : Ctx) (ds : List (Option Tmp)) (st : St) : evL C ds [] st = some st := rfl
theorem evL_plain (C : Ctx) (ds : List (Option Tmp)) (d : Option Tmp) (op : Op) (ty : TypeId) (ps : String) (af : Array Edge) (rest : List Oper) (st : St) :
    evL C ds ({ dst := d, op := op, type := ty, pos := ps, after := af, guard := none } :: rest) st = opsR (evOp' C { dst := d, op := op, type := ty, pos := "", after := #[], guard := none } st) (evL C ds rest) := by
  have : ∀ s, evOp' C { dst := d, op := op, type := ty, pos := ps, after := af, guard := none } s = evOp' C { dst := d, op := op, type := ty, pos := "", after := #[], guard := none } s := fun s => rfl
  simp only [evL, opsR, this]
noncomputable def thenR (C : Ctx) (ds : List (Option Tmp)) (d : Option Tmp) (op : Op) (ty : TypeId) (rest : List Oper) (st : St) : Option St := opsR (evOp' C { dst := d, op := op, type := ty, pos := "", after := #[], guard := none } st) (evL C ds rest)
noncomputable def skipR (C : Ctx) (ds : List (Option Tmp)) (d : Option Tmp) (rest : List Oper) (st : St) : Option St := opsR (st.setD d (.lit undef)) (evL C ds rest)
noncomputable def wantR' (b : Option Bool) (f g : St → Option St) (st : St) : Option St :=
  match b with
  | some true => f st
  | some false => g st
  | none => none
def wantG (ds : List (Option Tmp)) (j : Nat) (want : Bool) (st : St) : Option Bool :=
  match ds[j]? with
  | some (some t) => match st.get t with
    | some (.lit (.bool b)) => some (b == want)
    | some (.lit _) => some false
    | _ => none
  | _ => some false
theorem evL_guard (C : Ctx) (ds : List (Option Tmp)) (d : Option Tmp) (op : Op) (ty : TypeId) (ps : String) (af : Array Edge) (j : Nat) (want : Bool) (rest : List Oper) (st : St) :
    evL C ds ({ dst := d, op := op, type := ty, pos := ps, after := af, guard := some (j, want) } :: rest) st = wantR (wantG ds j want st) (thenR C ds d op ty rest) (skipR C ds d rest) st := by
  have : ∀ s, evOp' C { dst := d, op := op, type := ty, pos := ps, after := af, guard := some (j, want) } s = evOp' C { dst := d, op := op, type := ty, pos := "", after := #[], guard := none } s := fun s => rfl
  simp only [evL, wantR, wantG, thenR, skipR, opsR, this]
theorem thenR_eq (C : Ctx) (ds : List (Option Tmp)) (d : Option Tmp) (op : Op) (ty : TypeId) (rest : List Oper) (st : St) :
    thenR C ds d op ty rest st = opsR (evOp' C { dst := d, op := op, type := ty, pos := "", after := #[], guard := none } st) (evL C ds rest) := rfl
theorem skipR_eq (C : Ctx) (ds : List (Option Tmp)) (d : Option Tmp) (rest : List Oper) (st : St) : skipR C ds d rest st = opsR (st.setD d (.lit undef)) (evL C ds rest) := rfl
end Go.AM
