/- The abstract machine, 21: equations by which the machine is reckoned with unknowns. -/
import Derived.Test.YtpbbgkmpjcddbaaA20
set_option linter.all false
namespace Go.AM

/-! ### Joints that nothing looks into before their first part is known -/
noncomputable def seqR (r : Option (Exit × St)) (f : St → Option (Exit × St)) : Option (Exit × St) :=
  match r with
  | some (.normal, st) => f st
  | r => r
theorem seqR_normal (st : St) (f : St → Option (Exit × St)) : seqR (some (.normal, st)) f = f st := rfl
theorem seqR_ret (st : St) (f : St → Option (Exit × St)) : seqR (some (.ret, st)) f = some (.ret, st) := rfl
theorem seqR_exit (id : Nat) (st : St) (f : St → Option (Exit × St)) : seqR (some (.exit id, st)) f = some (.exit id, st) := rfl
noncomputable def condR (b : Option Bool) (f g : St → Option (Exit × St)) (st : St) : Option (Exit × St) :=
  match b with
  | some true => f st
  | some false => g st
  | none => none
theorem condR_true (f g : St → Option (Exit × St)) (st : St) : condR (some true) f g st = f st := rfl
theorem condR_false (f g : St → Option (Exit × St)) (st : St) : condR (some false) f g st = g st := rfl
noncomputable def blkR (id : Nat) (r : Option (Exit × St)) : Option (Exit × St) :=
  match r with
  | some (.exit id', st1) => if id' = id then some (.normal, st1) else some (.exit id', st1)
  | r => r
theorem blkR_normal (id : Nat) (st : St) : blkR id (some (.normal, st)) = some (.normal, st) := rfl
theorem blkR_ret (id : Nat) (st : St) : blkR id (some (.ret, st)) = some (.ret, st) := rfl
theorem blkR_exit (id id' : Nat) (st : St) : blkR id (some (.exit id', st)) = if id' = id then some (.normal, st) else some (.exit id', st) := rfl
noncomputable def regR (C : Ctx) (id : Nat) (r : Option St) : Option (Exit × St) :=
  match r with
  | some st => some (.normal, st.restrict (C.live id))
  | none => none
theorem regR_some (C : Ctx) (id : Nat) (st : St) : regR C id (some st) = some (.normal, st.restrict (C.live id)) := rfl
noncomputable def loopR (r : Option (Exit × St)) (f : St → Option (Exit × St)) (n : Nat) : Option (Exit × St) :=
  match r with
  | some (.normal, st1) => evLoop f n st1
  | r => r
theorem loopR_normal (st : St) (f : St → Option (Exit × St)) (n : Nat) : loopR (some (.normal, st)) f n = evLoop f n st := rfl
theorem loopR_ret (st : St) (f : St → Option (Exit × St)) (n : Nat) : loopR (some (.ret, st)) f n = some (.ret, st) := rfl
theorem loopR_exit (id : Nat) (st : St) (f : St → Option (Exit × St)) (n : Nat) : loopR (some (.exit id, st)) f n = some (.exit id, st) := rfl
noncomputable def opsR (r : Option St) (f : St → Option St) : Option St :=
  match r with
  | some st => f st
  | none => none
theorem opsR_some (st : St) (f : St → Option St) : opsR (some st) f = f st := rfl
noncomputable def wantR (b : Option Bool) (f g : St → Option St) (st : St) : Option St :=
  match b with
  | some true => f st
  | some false => g st
  | none => none
theorem wantR_true (f g : St → Option St) (st : St) : wantR (some true) f g st = f st := rfl
theorem wantR_false (f g : St → Option St) (st : St) : wantR (some false) f g st = g st := rfl

theorem evCode_seq (C : Ctx) (n : Nat) (a b : Code) (st : St) : evCode C n (.seq a b) st = seqR (evCode C n a st) (evCode C n b) := by
  simp only [evCode, seqR]
  rfl
theorem evCode_region (C : Ctx) (n id : Nat) (ops : Array Oper) (st : St) : evCode C n (.region id ops false) st = regR C id (evOps C ops ops.toList st) := by
  simp only [evCode, regR]
  rfl
theorem evCode_cond (C : Ctx) (n : Nat) (c : Operand) (a b : Code) (st : St) : evCode C n (.cond c a b) st = condR (st.bool c) (evCode C n a) (evCode C n b) st := by
  simp only [evCode, condR]
  rfl
theorem evCode_block (C : Ctx) (n id : Nat) (c : Code) (st : St) : evCode C n (.block id c) st = blkR id (evCode C n c st) := by
  simp only [evCode, blkR]
  rfl
theorem evCode_loop (C : Ctx) (n : Nat) (c : Code) (st : St) : evCode C n (.loop c) st = evLoop (evCode C n c) n st := by
  simp only [evCode]
theorem evCode_skip (C : Ctx) (n : Nat) (st : St) : evCode C n .skip st = some (.normal, st) := by simp only [evCode]
theorem evCode_exit (C : Ctx) (n id : Nat) (st : St) : evCode C n (.exit id) st = some (.exit id, st) := by simp only [evCode]
theorem evCode_ret (C : Ctx) (n : Nat) (st : St) : evCode C n .ret st = some (.ret, st) := by simp only [evCode]
theorem evCode_label (C : Ctx) (n : Nat) (l : Nat) (st : St) : evCode C n (.label l) st = some (.normal, st) := by simp only [evCode]
theorem evLoop_succ (f : St → Option (Exit × St)) (n : Nat) (st : St) : evLoop f (n + 1) st = loopR (f st) f n := by
  simp only [evLoop, loopR]
  rfl

theorem evOps_nil (C : Ctx) (ops : Array Oper) (st : St) : evOps C ops [] st = some st := rfl
theorem evOps_plain (C : Ctx) (ops : Array Oper) (d : Option Tmp) (op : Op) (ty : TypeId) (ps : String) (af : Array Edge) (rest : List Oper) (st : St) :
    evOps C ops ({ dst := d, op := op, type := ty, pos := ps, after := af, guard := none } :: rest) st = opsR (evOp' C { dst := d, op := op, type := ty, pos := ps, after := af, guard := none } st) (evOps C ops rest) := by
  simp only [evOps, wantedA, opsR, nrmS_eq]
  rfl
end Go.AM
