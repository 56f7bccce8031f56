/-
  The given statement IsciiSwitch: the law returns true at every input, and each argument reads behind the call as it read before. No condition.
-/
import Derived.Test.YtcbbacmpkhajeaaPlf2
import Derived.Test.YtcbbacmpkhajeaaRows
import Derived.WalkKit
import Derived.ProofKit
import Derived.OpenShut
import Derived.ShutString
import Derived.ChangeOld
import Derived.Below
import Derived.Laws.Cover2
set_option linter.all false
namespace Go.Proofs.Ytcbbacmpkhajeaa.isciiSwitch
open Go.ChangeShapes Go.WideShapes Go.ChangeAt Go.RowKit Go.AM Go.AM.M
set_option linter.unusedVariables false

theorem own : ownKnob Try.prog.godebug = none := by kernel_rfl
theorem laidOut : laidOutB Try.prog = true := by kernel_rfl
theorem model_is : (kf11 FU64).model = lontarlaw18_IsciiSwitch FU64 := by kernel_rfl
theorem law (a0 : (.sl (.int .u8) : Sh).den) (w0 : wfD (.sl (.int .u8)) a0) : AbsCall Try.prog 11 [.sl .view false ⟨.int .u8, a0⟩] [] (.lit (.bool true)) [] :=
  Known.law (knows11 FU64) (a := a0) (b := true) ((congrFun model_is a0).trans (Go.AM.M.isciiSwitch_law a0 w0)) rfl rfl rfl rfl rfl

set_option maxRecDepth 100000 in
theorem lifted (os : Os) (started : os.Started) (H : Type) (enc : TypeId × Value → H) :
    ReturnsInHanded {} Try.checked os 11 .any (Rows.isciiSwitchSpec.pre6 enc Try.prog Try.f11 Rows.isciiSwitchRow.domain false) (Rows.isciiSwitchSpec.post enc Try.prog Try.f11 false true false false) := by
  refine returnsInHanded_of_change (C := Try.checked) own started (by kernel_rfl) Try.func11
    (ChangeSpec.witness6 (enc := enc) (C := Try.checked) false ⟨#[], #[.slice none 0 0], []⟩ 8 (by kernel_rfl) (by kernel_rfl) (by kernel_rfl) (by kernel_rfl)) ?_
  intro W base args ds gs before hval0 hW hcnd _
  have hval : ∀ (j : Nat) t v, Try.f11.params[j]? = some t → args[j]? = some v → Value.okWide Try.prog W .any base t v := hval0
  have hW' := hW
  obtain ⟨p, q, hA0, hV, rfl, hfz, hnd⟩ := hW
  have hA : DataW.TrodAll enc Try.prog W 0 (fun _ => true) true Try.f11.params.toList args.toList ds p := hA0
  rw [Try.params11] at hA hval
  obtain ⟨v0, vs0, d0, ds0, p0, q0, hargs, rfl, rfl, h0, r0⟩ := trodAll_cons hA
  obtain ⟨rfl, rfl, rfl⟩ := trodAll_nil r0
  obtain rfl : args = #[v0] := by cases args; simp_all
  obtain ⟨rfl, rfl⟩ := trodVars_none hV
  obtain ⟨y0, z0, c0, k0, g0⟩ := param_rel (d := 8) (s := .sl (.int .u8)) (by kernel_rfl) (fun fs h => by rw [Try.underlying23] at h; cases h) (hval 0 23 v0 rfl rfl) h0
  injection c0 with c0 _
  subst c0
  have lt0 : ∀ x ∈ p0, x.block < W.heap.size := by obtain ⟨m, hm⟩ := h0; exact DataW.trod_lt m _ _ _ hm
  clear hA0 hval0
  refine ((law y0 g0).walkL (us := [v0]) ⟨k0, trivial⟩).mono fun e W' ⟨he, bel⟩ => ?_
  subst he
  exact ⟨_, rfl, _, _, _, [], _, [], hW', trodAll_mk1 (shut_bool Try.underlying4 _), (trodAll_cons_mk (Below.trod laidOut (by kernel_rfl) (of_decide_eq_true (by kernel_rfl)) h0 bel lt0) trodAll_mk0), rfl, bel.frame _, fun h => by cases h⟩

theorem over : Rows.isciiSwitchRow.holds Try.pinned (OpenSpec.ofChange Rows.isciiSwitchSpec) :=
  OpenClaim.holds_of_wide 11 Try.f11 rfl rfl rfl rfl rfl rfl rfl ⟨rfl, rfl, rfl, rfl, rfl⟩ rfl rfl rfl rfl rfl (by kernel_rfl) Try.func11 (by kernel_rfl)
    (of_decide_eq_true (by kernel_rfl)) (by unfold Func.isWrapper; first | (rw [if_pos (by decide +kernel)]; kernel_rfl) | (rw [if_neg (by decide +kernel)]; exact ⟨rfl, rfl⟩))
    (fun os started H enc _ => lifted os started H enc)

/-- THE STATEMENT. -/
theorem proved : Rows.IsciiSwitchSaid := over
#print axioms proved
end Go.Proofs.Ytcbbacmpkhajeaa.isciiSwitch
