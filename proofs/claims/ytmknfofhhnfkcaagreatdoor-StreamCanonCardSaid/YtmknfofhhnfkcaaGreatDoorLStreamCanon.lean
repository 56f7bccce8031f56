/-
  The given card StreamCanon: the law returns true at every input, and each argument reads behind the call as it read before. No condition but that the listed tables start as the text lays them.
-/
import Derived.Test.YtmknfofhhnfkcaaGreatDoorPlH2
import Derived.Test.YtmknfofhhnfkcaaGreatDoorRows
import Derived.Test.YtmknfofhhnfkcaaGreatDoorCards
import Derived.Test.YtmknfofhhnfkcaaGreatDoorTie
import Derived.WalkKit
import Derived.ProofKit
import Derived.OpenShut
import Derived.ShutString
import Derived.ChangeOld
import Derived.Below
import Derived.Laws.Cover2
import Derived.LaidMore
import Derived.Lay
import Derived.SevenTiedAt
import Derived.Stop.Joined
set_option linter.all false
namespace Go.Proofs.YtmknfofhhnfkcaaGreatDoor.streamCanon
open Go.ChangeShapes Go.WideShapes Go.ChangeAt Go.RowKit Go.AM Go.AM.M
set_option linter.unusedVariables false

theorem own : ownKnob Tryz.prog.godebug = none := by kernel_rfl
theorem laidOut : laidOutB Tryz.prog = true := by kernel_rfl
theorem model_is : (kf11 FU64).model = lontarlaw20_StreamCanon FU64 := by kernel_rfl
theorem law (a0 : (.sl (.int .u8) : Sh).den) (a1 : (.int .u8 : Sh).den) (w0 : wfD (.sl (.int .u8)) a0) (w1 : wfD (.int .u8) a1) : AbsCall Tryz.prog 11 [.sl .view false ⟨.int .u8, a0⟩, .lit (.int .u8 a1)] [] (.lit (.bool true)) [] :=
  Known.law (knows11 FU64) (a := (a0, a1)) (b := true) ((congrFun model_is (a0, a1)).trans (canon_law a0 a1 w0 w1)) rfl rfl rfl rfl rfl

set_option maxRecDepth 100000 in
theorem lifted (os : Os) (started : os.Started) (H : Type) (enc : TypeId × Value → H) :
    ReturnsInHanded {} Tryz.checked os 11 .any (fun w args => (Rows.streamCanonSpec.pre enc Tryz.prog Tryz.f11 Rows.streamCanonRow.domain false w args ∧ laidMetH Tryz.prog Rows.streamCanonRow.laid w) ∧ sizedMet enc Tryz.prog Tryz.f11 (OpenSpec.ofChange Rows.streamCanonSpec) false w args) (Rows.streamCanonSpec.post enc Tryz.prog Tryz.f11 false true false false) := by
  refine returnsInHanded_of_change_and (C := Tryz.checked) (X := fun w _ => laidMetH Tryz.prog Rows.streamCanonRow.laid w) (fun _ _ _ hh h => h.of_heap hh) own started (by kernel_rfl) Tryz.func11
    (ChangeSpec.witness_shaped (enc := enc) (C := Tryz.checked) (os := os) (X := fun w _ => laidMetH Tryz.prog Rows.streamCanonRow.laid w) false (World.laidAll Tryz.prog os Rows.streamCanonRow.laid) #[.slice none 0 0, .int .u8 0] 8 (World.laidAll_os _ _ _)
      (World.shaped_of_ZipB (by kernel_rfl) (by kernel_rfl)) (by kernel_rfl) (by kernel_rfl) (by kernel_rfl)
      (by rw [MakeChecks.laidMetH_plain _ _ _ (by kernel_rfl)]; exact laidMet_laidAll _ (by kernel_rfl) (by kernel_rfl))) ?_
  intro W base args ds gs before hval0 hW hcnd _ hL _
  have hval : ∀ (j : Nat) t v, Tryz.f11.params[j]? = some t → args[j]? = some v → Value.okWide Tryz.prog W .any base t v := hval0
  have hW' := hW
  obtain ⟨p, q, hA0, hV, rfl, hfz, hnd⟩ := hW
  have hA : DataW.TrodAll enc Tryz.prog W 0 (fun _ => true) true Tryz.f11.params.toList args.toList ds p := hA0
  rw [Tryz.params11] at hA hval
  obtain ⟨v0, vs0, d0, ds0, p0, q0, hargs, rfl, rfl, h0, r0⟩ := trodAll_cons hA
  obtain ⟨v1, vs1, d1, ds1, p1, q1, rfl, rfl, rfl, h1, r1⟩ := trodAll_cons r0
  obtain ⟨rfl, rfl, rfl⟩ := trodAll_nil r1
  obtain rfl : args = #[v0, v1] := by cases args; simp_all
  obtain ⟨rfl, rfl⟩ := trodVars_none hV
  obtain ⟨y0, z0, c0, k0, g0⟩ := param_rel (d := 8) (s := .sl (.int .u8)) (by kernel_rfl) (fun fs h => by rw [Tryz.underlying26] at h; cases h) (hval 0 26 v0 rfl rfl) h0
  injection c0 with c0 _
  subst c0
  have lt0 : ∀ x ∈ p0, x.block < W.heap.size := by obtain ⟨m, hm⟩ := h0; exact DataW.trod_lt m _ _ _ hm
  obtain ⟨y1, z1, c1, k1, g1⟩ := param_rel (d := 8) (s := .int .u8) (by kernel_rfl) (fun fs h => by rw [Tryz.underlying5] at h; cases h) (hval 1 5 v1 rfl rfl) h1
  injection c1 with c1 _
  subst c1
  have lt1 : ∀ x ∈ p1, x.block < W.heap.size := by obtain ⟨m, hm⟩ := h1; exact DataW.trod_lt m _ _ _ hm
  clear hA0 hval0
  refine ((law y0 y1 g0 g1).walkL (us := [v0, v1]) ⟨k0, k1, trivial⟩).mono fun e W' ⟨he, bel⟩ => ?_
  subst he
  exact ⟨_, rfl, _, _, _, [], _, [], hW', trodAll_mk1 (shut_bool Tryz.underlying4 _), (trodAll_cons_mk (Below.trod laidOut (by kernel_rfl) (of_decide_eq_true (by kernel_rfl)) h0 bel lt0) (trodAll_cons_mk (Below.trod laidOut (by kernel_rfl) (of_decide_eq_true (by kernel_rfl)) h1 bel lt1) trodAll_mk0)), rfl, bel.frame _, fun h => by cases h⟩

theorem over : Rows.streamCanonRow.holds Tryz.pinned (OpenSpec.ofChange Rows.streamCanonSpec) :=
  OpenClaim.holds_of_wide 11 Tryz.f11 rfl rfl rfl rfl rfl rfl rfl ⟨rfl, rfl, rfl, rfl, rfl⟩ rfl rfl rfl rfl rfl (by kernel_rfl) Tryz.func11 (by kernel_rfl)
    (of_decide_eq_true (by kernel_rfl)) (by unfold Func.isWrapper; first | (rw [if_pos (by decide +kernel)]; kernel_rfl) | (rw [if_neg (by decide +kernel)]; exact ⟨rfl, rfl⟩))
    (fun os started H enc _ => lifted os started H enc)

/-- THE STATEMENT. -/
theorem proved : Rows.StreamCanonCardSaid :=
  Claim7.holds_tied_plain_at .later [] [.data, .pinned, .pinned] true (true, "4fabf382b35be7a8704ad9d2679cf6e775ac4e3d166f6174f235407e8a3af9d9") false over (fun _ h => by cases h) (by kernel_rfl) (fun _ h => by cases h) streamCanon_row_tie rfl ⟨rfl, rfl⟩ (by kernel_rfl) rfl
    (fun f fn hf hfn => by
      obtain rfl : f = 11 := Option.some.inj ((show Tryz.prog.funcNamed "lontar/lontarlaw20.StreamCanon" = some 11 by kernel_rfl).symm.trans hf) |>.symm
      obtain rfl : fn = Tryz.f11 := (Option.some.inj (Tryz.func11.symm.trans hfn)).symm
      exact ⟨by kernel_rfl, fun j t ht => by
        rw [Tryz.params11] at ht
        have hm : t ∈ [5, 26] := by
          have := Array.mem_of_getElem? ht
          simp at this ⊢
          first | omega | exact this | (rcases this with h | h | h | h <;> simp [h] <;> done) | (rcases this with h | h | h <;> simp [h] <;> done) | (rcases this with h | h <;> simp [h] <;> done)
        have hall : ([5, 26].all fun u => !Tryz.prog.wantsStandIn u) = true := by kernel_rfl
        exact (show Tryz.prog.wantsStandIn t = false by simpa using List.all_eq_true.1 hall t hm)⟩)
    (by kernel_rfl)
#print axioms proved
end Go.Proofs.YtmknfofhhnfkcaaGreatDoor.streamCanon
