/-
  The given statement IsciiScripts: the law returns true at every input, and each argument reads behind the call as it read before. No condition.
-/
import Derived.Test.YtcbbacmpkhajeaaPle1
import Derived.Test.YtcbbacmpkhajeaaRows
import Derived.WalkKit
import Derived.ProofKit
import Derived.OpenShut
import Derived.ShutString
import Derived.ChangeOld
import Derived.Below
import Derived.Laws.Cover2
set_option linter.all false
namespace Go.Proofs.Ytcbbacmpkhajeaa.isciiScripts
open Go.ChangeShapes Go.WideShapes Go.ChangeAt Go.RowKit Go.AM Go.AM.M
set_option linter.unusedVariables false

theorem own : ownKnob Try.prog.godebug = none := by kernel_rfl
theorem laidOut : laidOutB Try.prog = true := by kernel_rfl
theorem model_is : (kf9 FU64).model = lontarlaw18_IsciiScripts FU64 := by kernel_rfl
theorem law (a0 : (.int .u8 : Sh).den) (a1 : (.sl (.int .u8) : Sh).den) (w0 : wfD (.int .u8) a0) (w1 : wfD (.sl (.int .u8)) a1) : AbsCall Try.prog 9 [.lit (.int .u8 a0), .sl .view false ⟨.int .u8, a1⟩] [] (.lit (.bool true)) [] :=
  Known.law (knows9 FU64) (a := (a0, a1)) (b := true) ((congrFun model_is (a0, a1)).trans (isciiScripts_law a0 a1 w0 w1)) rfl rfl rfl rfl rfl

set_option maxRecDepth 100000 in
theorem lifted (os : Os) (started : os.Started) (H : Type) (enc : TypeId × Value → H) :
    ReturnsInHanded {} Try.checked os 9 .any (Rows.isciiScriptsSpec.pre6 enc Try.prog Try.f9 Rows.isciiScriptsRow.domain false) (Rows.isciiScriptsSpec.post enc Try.prog Try.f9 false true false false) := by
  refine returnsInHanded_of_change (C := Try.checked) own started (by kernel_rfl) Try.func9
    (ChangeSpec.witness6 (enc := enc) (C := Try.checked) false ⟨#[], #[.int .u8 0, .slice none 0 0], []⟩ 8 (by kernel_rfl) (by kernel_rfl) (by kernel_rfl) (by kernel_rfl)) ?_
  intro W base args ds gs before hval0 hW hcnd _
  have hval : ∀ (j : Nat) t v, Try.f9.params[j]? = some t → args[j]? = some v → Value.okWide Try.prog W .any base t v := hval0
  have hW' := hW
  obtain ⟨p, q, hA0, hV, rfl, hfz, hnd⟩ := hW
  have hA : DataW.TrodAll enc Try.prog W 0 (fun _ => true) true Try.f9.params.toList args.toList ds p := hA0
  rw [Try.params9] at hA hval
  obtain ⟨v0, vs0, d0, ds0, p0, q0, hargs, rfl, rfl, h0, r0⟩ := trodAll_cons hA
  obtain ⟨v1, vs1, d1, ds1, p1, q1, rfl, rfl, rfl, h1, r1⟩ := trodAll_cons r0
  obtain ⟨rfl, rfl, rfl⟩ := trodAll_nil r1
  obtain rfl : args = #[v0, v1] := by cases args; simp_all
  obtain ⟨rfl, rfl⟩ := trodVars_none hV
  obtain ⟨y0, z0, c0, k0, g0⟩ := param_rel (d := 8) (s := .int .u8) (by kernel_rfl) (fun fs h => by rw [Try.underlying5] at h; cases h) (hval 0 5 v0 rfl rfl) h0
  injection c0 with c0 _
  subst c0
  have lt0 : ∀ x ∈ p0, x.block < W.heap.size := by obtain ⟨m, hm⟩ := h0; exact DataW.trod_lt m _ _ _ hm
  obtain ⟨y1, z1, c1, k1, g1⟩ := param_rel (d := 8) (s := .sl (.int .u8)) (by kernel_rfl) (fun fs h => by rw [Try.underlying23] at h; cases h) (hval 1 23 v1 rfl rfl) h1
  injection c1 with c1 _
  subst c1
  have lt1 : ∀ x ∈ p1, x.block < W.heap.size := by obtain ⟨m, hm⟩ := h1; exact DataW.trod_lt m _ _ _ hm
  clear hA0 hval0
  refine ((law y0 y1 g0 g1).walkL (us := [v0, v1]) ⟨k0, k1, trivial⟩).mono fun e W' ⟨he, bel⟩ => ?_
  subst he
  exact ⟨_, rfl, _, _, _, [], _, [], hW', trodAll_mk1 (shut_bool Try.underlying4 _), (trodAll_cons_mk (Below.trod laidOut (by kernel_rfl) (of_decide_eq_true (by kernel_rfl)) h0 bel lt0) (trodAll_cons_mk (Below.trod laidOut (by kernel_rfl) (of_decide_eq_true (by kernel_rfl)) h1 bel lt1) trodAll_mk0)), rfl, bel.frame _, fun h => by cases h⟩

theorem over : Rows.isciiScriptsRow.holds Try.pinned (OpenSpec.ofChange Rows.isciiScriptsSpec) :=
  OpenClaim.holds_of_wide 9 Try.f9 rfl rfl rfl rfl rfl rfl rfl ⟨rfl, rfl, rfl, rfl, rfl⟩ rfl rfl rfl rfl rfl (by kernel_rfl) Try.func9 (by kernel_rfl)
    (of_decide_eq_true (by kernel_rfl)) (by unfold Func.isWrapper; first | (rw [if_pos (by decide +kernel)]; kernel_rfl) | (rw [if_neg (by decide +kernel)]; exact ⟨rfl, rfl⟩))
    (fun os started H enc _ => lifted os started H enc)

/-- THE STATEMENT. -/
theorem proved : Rows.IsciiScriptsSaid := over
#print axioms proved
end Go.Proofs.Ytcbbacmpkhajeaa.isciiScripts
