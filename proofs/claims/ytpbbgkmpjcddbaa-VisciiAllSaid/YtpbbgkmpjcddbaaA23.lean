/- The abstract machine, 23: words for reckoning with unknowns. -/
import Derived.Test.YtpbbgkmpjcddbaaA22
import Derived.Laws.BitsLemmas
set_option linter.all false
namespace Go.AM

attribute [simp] evCode_seq evCode_region evCode_cond evCode_block evCode_loop evCode_skip evCode_exit evCode_ret evCode_label seqR_normal seqR_ret seqR_exit condR_true condR_false
  blkR_normal blkR_ret blkR_exit regR_some loopR_normal loopR_ret loopR_exit opsR_some evL_nil evL_plain evL_guard nrm_eq nrmB_eq nrmS_eq wantR_true wantR_false thenR_eq skipR_eq wantG
  evOp' evOp evMove evAssign evPick evUn evBin evConvert evCall evIndexAddr evIndex evLoad evStore evFieldAddr evField evExtract evAlloc evBox evNilCheck evSlice evBuiltin
  intBin St.get St.peek St.int St.bool St.sl St.setD St.setP St.setAddr St.plc St.use St.useP contentAt lkp upd del Nat.beq isRes resOf St.restrict keepL fixA St.passL cutN fixN cutC fixC
  constPV St.putP St.kill ownAt killL killA getArgs PV.noAl PV.isDead afterCall PV.isOwn St.shrink opLt St.mvD addOff partOf Flag.isOwn Flag.isExcl Flag.e PV.one PV.cells PV.lit? PV.val isConst vals number

theorem wrap_u8_of {n : Int} (h : 0 ≤ n) (h' : n < 256) : IntKind.u8.wrap n = n := by
  rw [IntKind.wrap_u8]; omega
theorem wrap_i64_of {n : Int} (h : -9223372036854775808 ≤ n) (h' : n < 9223372036854775808) : IntKind.i64.wrap n = n := by
  rw [IntKind.wrap_i64]; omega

theorem wf_u8 {n : Int} (h : (Lit.int .u8 n).wf = true) : 0 ≤ n ∧ n < 256 := by
  simp [Lit.wf, IntKind.min, IntKind.max, IntKind.signed, IntKind.bits] at h; omega
theorem wf_u16 {n : Int} (h : (Lit.int .u16 n).wf = true) : 0 ≤ n ∧ n < 65536 := by
  simp [Lit.wf, IntKind.min, IntKind.max, IntKind.signed, IntKind.bits] at h; omega
theorem wf_i64 {n : Int} (h : (Lit.int .i64 n).wf = true) : -9223372036854775808 ≤ n ∧ n < 9223372036854775808 := by
  simp [Lit.wf, IntKind.min, IntKind.max, IntKind.signed, IntKind.bits] at h; omega

/-- Codes within codes. -/
def sub : List Nat → Code → Code
  | [], c => c
  | 0 :: p, .seq a _ => sub p a
  | _ :: p, .seq _ b => sub p b
  | _ :: p, .block _ c => sub p c
  | _ :: p, .loop c => sub p c
  | 0 :: p, .cond _ a _ => sub p a
  | _ :: p, .cond _ _ b => sub p b
  | _, c => c
def fbody (f : Func) : Code := f.body.getD .skip

/-- A context for a function alone. -/
def ctx (P : Program) (O : Orc) (h : Nat → Option (List Nat)) (fn : Func) : Ctx := { P, mv := fun _ _ => false, res := resOf fn, live := h, call := O }
@[simp] theorem ctx_P (P : Program) (O : Orc) (h : Nat → Option (List Nat)) (fn : Func) : (ctx P O h fn).P = P := rfl
@[simp] theorem ctx_mv (P : Program) (O : Orc) (h : Nat → Option (List Nat)) (fn : Func) (f k : Nat) : (ctx P O h fn).mv f k = false := rfl
@[simp] theorem ctx_res (P : Program) (O : Orc) (h : Nat → Option (List Nat)) (fn : Func) : (ctx P O h fn).res = resOf fn := rfl
@[simp] theorem ctx_live (P : Program) (O : Orc) (h : Nat → Option (List Nat)) (fn : Func) : (ctx P O h fn).live = h := rfl
@[simp] theorem ctx_call (P : Program) (O : Orc) (h : Nat → Option (List Nat)) (fn : Func) : (ctx P O h fn).call = O := rfl

noncomputable def run (P : Program) (O : Orc) (h : Nat → Option (List Nat)) (f : Nat) (args : List PV) (σ : List Bx) : Option (PV × List Bx) :=
  evFn { P, mv := fun _ _ => false, res := fun _ => false, live := fun _ => none, call := O } (fun _ => h) 100000 f args σ
theorem run_abs {P : Program} (hW : WF P) {O : Orc} (hO : SoundC P O) {h : Nat → Option (List Nat)} {f : Nat} {args : List PV} {σ : List Bx} {r : PV} {σ' : List Bx} (he : run P O h f args σ = some (r, σ')) : AbsCall P f args σ r σ' :=
  AbsCall.of_ev hW hO he

/-- What a body's end gives. -/
noncomputable def endR (P : Program) (fn : Func) (n : Nat) (r : Option (Exit × St)) : Option (PV × List Bx) :=
  match r with
  | some (.ret, st) => (match retAll P fn.results.toList st with
    | some (r, st1) => some (r, trunc n r st1.σ)
    | none => none)
  | some (.normal, st) => (match retAll P fn.results.toList st with
    | some (r, st1) => some (r, trunc n r st1.σ)
    | none => none)
  | _ => none
theorem run_eq {P : Program} {O : Orc} {h : Nat → Option (List Nat)} {f : Nat} {fn : Func} (hf : P.funcs[f]? = some fn) (hb : fn.body.isSome = true) (args : List PV) (σ : List Bx) :
    run P O h f args σ = endR P fn σ.length (evCode (ctx P O h fn) 100000 (fbody fn) { ts := number 0 args, n := args.length + (fn.ntmps - args.length), σ }) := by
  cases hc : fn.body with
  | none => rw [hc] at hb; cases hb
  | some c =>
    simp only [run, evFn, hf, hc, fbody, Option.getD_some, endR, ctx]
    rfl
end Go.AM
