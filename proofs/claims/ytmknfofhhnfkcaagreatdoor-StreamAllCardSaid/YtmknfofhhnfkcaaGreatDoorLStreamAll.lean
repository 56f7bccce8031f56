/-
  The given card StreamAll: the law returns true at every input, and each argument reads behind the call as it read before. No condition but that the listed tables start as the text lays them.
-/
import Derived.Test.YtmknfofhhnfkcaaGreatDoorPlF2
import Derived.Test.YtmknfofhhnfkcaaGreatDoorRows
import Derived.Test.YtmknfofhhnfkcaaGreatDoorCards
import Derived.Test.YtmknfofhhnfkcaaGreatDoorTie
import Derived.WalkKit
import Derived.ProofKit
import Derived.OpenShut
import Derived.ShutString
import Derived.ChangeOld
import Derived.Below
import Derived.Laws.Cover2
import Derived.LaidMore
import Derived.Lay
import Derived.SevenTiedAt
import Derived.Stop.Joined
set_option linter.all false
namespace Go.Proofs.YtmknfofhhnfkcaaGreatDoor.streamAll
open Go.ChangeShapes Go.WideShapes Go.ChangeAt Go.RowKit Go.AM Go.AM.M
set_option linter.unusedVariables false

theorem own : ownKnob Tryz.prog.godebug = none := by kernel_rfl
theorem laidOut : laidOutB Tryz.prog = true := by kernel_rfl
theorem model_is : (kf12 FU64).model = lontarlaw20_StreamAll FU64 := by kernel_rfl
theorem law (a0 : (.int .u8 : Sh).den) (a1 : (.sl (.int .u8) : Sh).den) (a2 : (.sl (.int .u8) : Sh).den) (a3 : (.int .u8 : Sh).den) (w0 : wfD (.int .u8) a0) (w1 : wfD (.sl (.int .u8)) a1) (w2 : wfD (.sl (.int .u8)) a2) (w3 : wfD (.int .u8) a3) : AbsCall Tryz.prog 12 [.lit (.int .u8 a0), .sl .view false ⟨.int .u8, a1⟩, .sl .view false ⟨.int .u8, a2⟩, .lit (.int .u8 a3)] [] (.lit (.bool true)) [] :=
  Known.law (knows12 FU64) (a := (a0, (a1, (a2, a3)))) (b := true) ((congrFun model_is (a0, (a1, (a2, a3)))).trans (all_law a0 a1 a2 a3 w0 w1 w2 w3)) rfl rfl rfl rfl rfl

set_option maxRecDepth 100000 in
theorem lifted (os : Os) (started : os.Started) (H : Type) (enc : TypeId × Value → H) :
    ReturnsInHanded {} Tryz.checked os 12 .any (fun w args => (Rows.streamAllSpec.pre enc Tryz.prog Tryz.f12 Rows.streamAllRow.domain false w args ∧ laidMetH Tryz.prog Rows.streamAllRow.laid w) ∧ sizedMet enc Tryz.prog Tryz.f12 (OpenSpec.ofChange Rows.streamAllSpec) false w args) (Rows.streamAllSpec.post enc Tryz.prog Tryz.f12 false true false false) := by
  refine returnsInHanded_of_change_and (C := Tryz.checked) (X := fun w _ => laidMetH Tryz.prog Rows.streamAllRow.laid w) (fun _ _ _ hh h => h.of_heap hh) own started (by kernel_rfl) Tryz.func12
    (ChangeSpec.witness_shaped (enc := enc) (C := Tryz.checked) (os := os) (X := fun w _ => laidMetH Tryz.prog Rows.streamAllRow.laid w) false (World.laidAll Tryz.prog os Rows.streamAllRow.laid) #[.int .u8 0, .slice none 0 0, .slice none 0 0, .int .u8 0] 8 (World.laidAll_os _ _ _)
      (World.shaped_of_ZipB (by kernel_rfl) (by kernel_rfl)) (by kernel_rfl) (by kernel_rfl) (by kernel_rfl)
      (by rw [MakeChecks.laidMetH_plain _ _ _ (by kernel_rfl)]; exact laidMet_laidAll _ (by kernel_rfl) (by kernel_rfl))) ?_
  intro W base args ds gs before hval0 hW hcnd _ hL _
  have hval : ∀ (j : Nat) t v, Tryz.f12.params[j]? = some t → args[j]? = some v → Value.okWide Tryz.prog W .any base t v := hval0
  have hW' := hW
  obtain ⟨p, q, hA0, hV, rfl, hfz, hnd⟩ := hW
  have hA : DataW.TrodAll enc Tryz.prog W 0 (fun _ => true) true Tryz.f12.params.toList args.toList ds p := hA0
  rw [Tryz.params12] at hA hval
  obtain ⟨v0, vs0, d0, ds0, p0, q0, hargs, rfl, rfl, h0, r0⟩ := trodAll_cons hA
  obtain ⟨v1, vs1, d1, ds1, p1, q1, rfl, rfl, rfl, h1, r1⟩ := trodAll_cons r0
  obtain ⟨v2, vs2, d2, ds2, p2, q2, rfl, rfl, rfl, h2, r2⟩ := trodAll_cons r1
  obtain ⟨v3, vs3, d3, ds3, p3, q3, rfl, rfl, rfl, h3, r3⟩ := trodAll_cons r2
  obtain ⟨rfl, rfl, rfl⟩ := trodAll_nil r3
  obtain rfl : args = #[v0, v1, v2, v3] := by cases args; simp_all
  obtain ⟨rfl, rfl⟩ := trodVars_none hV
  obtain ⟨y0, z0, c0, k0, g0⟩ := param_rel (d := 8) (s := .int .u8) (by kernel_rfl) (fun fs h => by rw [Tryz.underlying5] at h; cases h) (hval 0 5 v0 rfl rfl) h0
  injection c0 with c0 _
  subst c0
  have lt0 : ∀ x ∈ p0, x.block < W.heap.size := by obtain ⟨m, hm⟩ := h0; exact DataW.trod_lt m _ _ _ hm
  obtain ⟨y1, z1, c1, k1, g1⟩ := param_rel (d := 8) (s := .sl (.int .u8)) (by kernel_rfl) (fun fs h => by rw [Tryz.underlying26] at h; cases h) (hval 1 26 v1 rfl rfl) h1
  injection c1 with c1 _
  subst c1
  have lt1 : ∀ x ∈ p1, x.block < W.heap.size := by obtain ⟨m, hm⟩ := h1; exact DataW.trod_lt m _ _ _ hm
  obtain ⟨y2, z2, c2, k2, g2⟩ := param_rel (d := 8) (s := .sl (.int .u8)) (by kernel_rfl) (fun fs h => by rw [Tryz.underlying26] at h; cases h) (hval 2 26 v2 rfl rfl) h2
  injection c2 with c2 _
  subst c2
  have lt2 : ∀ x ∈ p2, x.block < W.heap.size := by obtain ⟨m, hm⟩ := h2; exact DataW.trod_lt m _ _ _ hm
  obtain ⟨y3, z3, c3, k3, g3⟩ := param_rel (d := 8) (s := .int .u8) (by kernel_rfl) (fun fs h => by rw [Tryz.underlying5] at h; cases h) (hval 3 5 v3 rfl rfl) h3
  injection c3 with c3 _
  subst c3
  have lt3 : ∀ x ∈ p3, x.block < W.heap.size := by obtain ⟨m, hm⟩ := h3; exact DataW.trod_lt m _ _ _ hm
  clear hA0 hval0
  refine ((law y0 y1 y2 y3 g0 g1 g2 g3).walkL (us := [v0, v1, v2, v3]) ⟨k0, k1, k2, k3, trivial⟩).mono fun e W' ⟨he, bel⟩ => ?_
  subst he
  exact ⟨_, rfl, _, _, _, [], _, [], hW', trodAll_mk1 (shut_bool Tryz.underlying4 _), (trodAll_cons_mk (Below.trod laidOut (by kernel_rfl) (of_decide_eq_true (by kernel_rfl)) h0 bel lt0) (trodAll_cons_mk (Below.trod laidOut (by kernel_rfl) (of_decide_eq_true (by kernel_rfl)) h1 bel lt1) (trodAll_cons_mk (Below.trod laidOut (by kernel_rfl) (of_decide_eq_true (by kernel_rfl)) h2 bel lt2) (trodAll_cons_mk (Below.trod laidOut (by kernel_rfl) (of_decide_eq_true (by kernel_rfl)) h3 bel lt3) trodAll_mk0)))), rfl, bel.frame _, fun h => by cases h⟩

theorem over : Rows.streamAllRow.holds Tryz.pinned (OpenSpec.ofChange Rows.streamAllSpec) :=
  OpenClaim.holds_of_wide 12 Tryz.f12 rfl rfl rfl rfl rfl rfl rfl ⟨rfl, rfl, rfl, rfl, rfl⟩ rfl rfl rfl rfl rfl (by kernel_rfl) Tryz.func12 (by kernel_rfl)
    (of_decide_eq_true (by kernel_rfl)) (by unfold Func.isWrapper; first | (rw [if_pos (by decide +kernel)]; kernel_rfl) | (rw [if_neg (by decide +kernel)]; exact ⟨rfl, rfl⟩))
    (fun os started H enc _ => lifted os started H enc)

/-- THE STATEMENT. -/
theorem proved : Rows.StreamAllCardSaid :=
  Claim7.holds_tied_plain_at .later [] [.data, .pinned, .pinned] true (true, "4fabf382b35be7a8704ad9d2679cf6e775ac4e3d166f6174f235407e8a3af9d9") false over (fun _ h => by cases h) (by kernel_rfl) (fun _ h => by cases h) streamAll_row_tie rfl ⟨rfl, rfl⟩ (by kernel_rfl) rfl
    (fun f fn hf hfn => by
      obtain rfl : f = 12 := Option.some.inj ((show Tryz.prog.funcNamed "lontar/lontarlaw20.StreamAll" = some 12 by kernel_rfl).symm.trans hf) |>.symm
      obtain rfl : fn = Tryz.f12 := (Option.some.inj (Tryz.func12.symm.trans hfn)).symm
      exact ⟨by kernel_rfl, fun j t ht => by
        rw [Tryz.params12] at ht
        have hm : t ∈ [5, 26] := by
          have := Array.mem_of_getElem? ht
          simp at this ⊢
          first | omega | exact this | (rcases this with h | h | h | h <;> simp [h] <;> done) | (rcases this with h | h | h <;> simp [h] <;> done) | (rcases this with h | h <;> simp [h] <;> done)
        have hall : ([5, 26].all fun u => !Tryz.prog.wantsStandIn u) = true := by kernel_rfl
        exact (show Tryz.prog.wantsStandIn t = false by simpa using List.all_eq_true.1 hall t hm)⟩)
    (by kernel_rfl)
#print axioms proved
end Go.Proofs.YtmknfofhhnfkcaaGreatDoor.streamAll
