/- Walks, printed by wip/gen.py. -/
import Derived.Test.YtpbbgkmpjcddbaaMVcanonParts
import Derived.Test.YtpbbgkmpjcddbaaYd
set_option linter.all false
namespace Go.Proofs.Ytpbbgkmpjcddbaa
open Go.AM Go.AM.M

def h21 : Nat → Option Hint
| 0 => some { keep := [0, 1] }
| 1 => some { keep := [0, 1, 8] }
| 2 => some { keep := [4] }
| 3 => some { keep := [5, 6] }
| 4 => some { keep := [4] }
| _ => none

noncomputable def C21 : Ctx := { P := Try.prog, mv := fun _ _ => false, res := resOf Try.f21, live := h21, call := fun _ _ _ => none }

set_option maxRecDepth 100000 in
theorem knows_lontarlaw10_VcanonParts (a : (List Int)) (b : (List Int)) {r} (h : lontarlaw10_VcanonParts a b = some r) : Knows Try.prog 21 [(.sl .view false (eI .u8 a)), (.sl .view false (eI .u8 b))] (.lit (.bool r)) := by
  unfold lontarlaw10_VcanonParts at h
  obtain ⟨q, h_q, h⟩ := Option.bind_eq_some_iff.1 h
  rcases ite_some h with ⟨hc1, h⟩ | ⟨hc1, h⟩
  · obtain ⟨q1, h_q1, h⟩ := Option.bind_eq_some_iff.1 h
    obtain ⟨q2, h_q2, h⟩ := Option.bind_eq_some_iff.1 h
    obtain ⟨hg2, h⟩ := guardO_some h
    obtain ⟨hg3, h⟩ := guardO_some h
    obtain ⟨hg4, h⟩ := guardO_some h
    obtain ⟨q3, h_q3, h⟩ := Option.bind_eq_some_iff.1 h
    obtain ⟨q4, h_q4, h⟩ := Option.bind_eq_some_iff.1 h
    obtain ⟨q5, h_q5, h⟩ := Option.bind_eq_some_iff.1 h
    obtain ⟨hg5, h⟩ := guardO_some h
    obtain ⟨q6, h_q6, h⟩ := Option.bind_eq_some_iff.1 h
    injection h with h; subst h
    exact Knows.of (C := C21) wf Try.func21 (cs := [.reg 1 [(0, { it := .res (.lit (.bool q)) [] [] })], .b false, .reg 3 [(1, { it := .res (.sl (.excl 3) false (eI .i64 q1)) [] [] }), (4, { it := .res (.sl (.excl 3) false (eI .i64 q2)) [] [] }), (5, { it := .sl (eI .i64 ([120] ++ q2)) })], .reg 4 [(1, { it := .sl (eI .i64 q1) }), (3, { it := .sl (eI .i64 (q1 ++ ([120] ++ q2))) }), (4, { it := .res (.sl (.excl 3) false (eI .i64 q3)) [] [] }), (6, { it := .res (.sl (.excl 3) false (eI .i64 q4)) [] [] }), (8, { it := .res (.sl (.excl 3) false (eI .i64 q5)) [] [] }), (9, { it := .sl (eI .i64 (q4 ++ q5)) }), (10, { it := .res (.lit (.bool q6)) [] [] })]]) (args := [(.sl .view false (eI .u8 a)), (.sl .view false (eI .u8 b))]) (r := (.lit (.bool q6))) (ps := [CallK Try.prog false 40 [] [] (.lit (.bool q)) [],
        (!q) = false,
        CallK Try.prog false 41 [(.sl .view false (eI .u8 a))] [] (.sl (.excl 3) false (eI .i64 q1)) [],
        CallK Try.prog false 41 [(.sl .view false (eI .u8 b))] [] (.sl (.excl 3) false (eI .i64 q2)) [],
        (List.length (eI .i64 [120]) + List.length (eI .i64 q2)) * 8 ≤ 2 ^ 46,
        (eI .i64 q2).all (fun c => c.length = 1 && c.all PV.one) = true,
        (eI .i64 [120]) ++ (eI .i64 q2) = (eI .i64 ([120] ++ q2)),
        (List.length (eI .i64 q1)) * 8 ≤ 2 ^ 46,
        (eI .i64 q1).all (fun c => c.length = 1 && c.all PV.one) = true,
        (eI .i64 q1) = (eI .i64 q1),
        (List.length (eI .i64 q1) + List.length (eI .i64 ([120] ++ q2))) * 8 ≤ 2 ^ 46,
        (eI .i64 ([120] ++ q2)).all (fun c => c.length = 1 && c.all PV.one) = true,
        (eI .i64 q1) ++ (eI .i64 ([120] ++ q2)) = (eI .i64 (q1 ++ ([120] ++ q2))),
        CallK Try.prog false 43 [(.sl .view false (eI .i64 (q1 ++ ([120] ++ q2))))] [] (.sl (.excl 3) false (eI .i64 q3)) [],
        CallK Try.prog false 43 [(.sl .view false (eI .i64 q1))] [] (.sl (.excl 3) false (eI .i64 q4)) [],
        CallK Try.prog false 43 [(.sl .view false (eI .i64 ([120] ++ q2)))] [] (.sl (.excl 3) false (eI .i64 q5)) [],
        (List.length (eI .i64 q4) + List.length (eI .i64 q5)) * 8 ≤ 2 ^ 46,
        (eI .i64 q5).all (fun c => c.length = 1 && c.all PV.one) = true,
        (eI .i64 q4) ++ (eI .i64 q5) = (eI .i64 (q4 ++ q5)),
        CallK Try.prog false 42 [(.sl .view false (eI .i64 q3)), (.sl .view false (eI .i64 (q4 ++ q5)))] [] (.lit (.bool q6)) []]) (by kernel_rfl)
      ⟨(call_lontarlaw10_awake h_q _ _), (not_f hc1), (call_lontarlaw10_Some h_q1 _ _), (call_lontarlaw10_Some h_q2 _ _), (len_map2 hg2), (all_map (fun _ => rfl) _), (List.map_append).symm, (len_map hg3), (all_map (fun _ => rfl) _), rfl, (len_map2 hg4), (all_map (fun _ => rfl) _), (List.map_append).symm, (call_vcanon_All h_q3 _ _), (call_vcanon_All h_q4 _ _), (call_vcanon_All h_q5 _ _), (len_map2 hg5), (all_map (fun _ => rfl) _), (List.map_append).symm, (call_lontarlaw01_Units h_q6 _ _), trivial⟩
  · injection h with h; subst h
    exact Knows.of (C := C21) wf Try.func21 (cs := [.reg 1 [(0, { it := .res (.lit (.bool q)) [] [] })], .b true]) (args := [(.sl .view false (eI .u8 a)), (.sl .view false (eI .u8 b))]) (r := (.lit (.bool false))) (ps := [CallK Try.prog false 40 [] [] (.lit (.bool q)) [],
        (!q) = true]) (by kernel_rfl)
      ⟨(call_lontarlaw10_awake h_q _ _), (not_t (Bool.eq_false_iff.2 hc1)), trivial⟩
theorem call_lontarlaw10_VcanonParts {a : (List Int)} {b : (List Int)} {r} (h : lontarlaw10_VcanonParts a b = some r) (kp : Bool) (σ : List Bx) : CallK Try.prog kp 21 [(.sl .view false (eI .u8 a)), (.sl .view false (eI .u8 b))] σ (.lit (.bool r)) σ :=
  (knows_lontarlaw10_VcanonParts a b h).call (and_t (map_noRef (fun _ => rfl) _) (and_t (map_noRef (fun _ => rfl) _) rfl)) rfl kp σ
end Go.Proofs.Ytpbbgkmpjcddbaa
