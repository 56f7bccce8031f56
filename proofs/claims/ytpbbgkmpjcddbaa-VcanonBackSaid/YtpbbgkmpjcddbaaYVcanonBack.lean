/- Walks, printed by wip/gen.py. -/
import Derived.Test.YtpbbgkmpjcddbaaMVcanonBack
import Derived.Test.YtpbbgkmpjcddbaaYd
set_option linter.all false
namespace Go.Proofs.Ytpbbgkmpjcddbaa
open Go.AM Go.AM.M

def h19 : Nat → Option Hint
| 0 => some { keep := [0] }
| 1 => some { keep := [0, 5] }
| 2 => some { keep := [2] }
| 3 => some { keep := [3] }
| 4 => some { keep := [2] }
| _ => none

noncomputable def C19 : Ctx := { P := Try.prog, mv := fun _ _ => false, res := resOf Try.f19, live := h19, call := fun _ _ _ => none }

set_option maxRecDepth 100000 in
theorem knows_lontarlaw10_VcanonBack (l : (List Int)) {r} (h : lontarlaw10_VcanonBack l = some r) : Knows Try.prog 19 [(.sl .view false (eI .u8 l))] (.lit (.bool r)) := by
  unfold lontarlaw10_VcanonBack at h
  obtain ⟨q, h_q, h⟩ := Option.bind_eq_some_iff.1 h
  rcases ite_some h with ⟨hc1, h⟩ | ⟨hc1, h⟩
  · obtain ⟨q1, h_q1, h⟩ := Option.bind_eq_some_iff.1 h
    obtain ⟨q2, h_q2, h⟩ := Option.bind_eq_some_iff.1 h
    obtain ⟨q3, h_q3, h⟩ := Option.bind_eq_some_iff.1 h
    obtain ⟨q4, h_q4, h⟩ := Option.bind_eq_some_iff.1 h
    obtain ⟨q5, h_q5, h⟩ := Option.bind_eq_some_iff.1 h
    rcases ite_some h with ⟨hc2, h⟩ | ⟨hc2, h⟩
    · obtain ⟨q6, h_q6, h⟩ := Option.bind_eq_some_iff.1 h
      injection h with h; subst h
      exact Knows.of (C := C19) wf Try.func19 (cs := [.reg 1 [(0, { it := .res (.lit (.bool q)) [] [] })], .b false, .reg 3 [(1, { it := .res (.sl (.excl 3) false (eI .i64 q1)) [] [] })], .reg 4 [(1, { it := .res (.sl (.excl 3) false (eI .i64 q2)) [] [] }), (2, { it := .res (.sl (.excl 3) false (eI .i64 q3)) [] [] }), (4, { it := .res (.sl (.excl 3) false (eI .i64 q4)) [] [] }), (5, { it := .res (.lit (.bool q5)) [] [] }), (7, { w := some true }), (8, { it := .res (.sl (.excl 3) false (eI .i64 q6)) [] [], w := some true }), (9, { it := .val (.int .i64 (q6.length : Int)), w := some true }), (10, { w := some true }), (11, { it := .val (.int .i64 (q1.length : Int)), w := some true }), (12, { w := some true }), (13, { it := .b true })]]) (args := [(.sl .view false (eI .u8 l))]) (r := (.lit (.bool (decide ((q6.length : Int) ≥ (q1.length : Int)))))) (ps := [CallK Try.prog false 40 [] [] (.lit (.bool q)) [],
          (!q) = false,
          CallK Try.prog false 41 [(.sl .view false (eI .u8 l))] [] (.sl (.excl 3) false (eI .i64 q1)) [],
          CallK Try.prog false 45 [(.sl .view false (eI .i64 q1))] [] (.sl (.excl 3) false (eI .i64 q2)) [],
          CallK Try.prog false 43 [(.sl .view false (eI .i64 q2))] [] (.sl (.excl 3) false (eI .i64 q3)) [],
          CallK Try.prog false 43 [(.sl .view false (eI .i64 q1))] [] (.sl (.excl 3) false (eI .i64 q4)) [],
          CallK Try.prog false 42 [(.sl .view false (eI .i64 q3)), (.sl .view false (eI .i64 q4))] [] (.lit (.bool q5)) [],
          q5 = true,
          q5 = true,
          CallK Try.prog false 45 [(.sl .view false (eI .i64 q1))] [] (.sl (.excl 3) false (eI .i64 q6)) [],
          q5 = true,
          Value.int .i64 (↑(List.length (eI .i64 q6)) : Int) = .int .i64 (q6.length : Int),
          q5 = true,
          q5 = true,
          Value.int .i64 (↑(List.length (eI .i64 q1)) : Int) = .int .i64 (q1.length : Int),
          q5 = true,
          q5 = true]) (by kernel_rfl)
        ⟨(call_lontarlaw10_awake h_q _ _), (not_f hc1), (call_lontarlaw10_Some h_q1 _ _), (call_vcanon_Apart h_q2 _ _), (call_vcanon_All h_q3 _ _), (call_vcanon_All h_q4 _ _), (call_lontarlaw01_Units h_q5 _ _), hc2, hc2, (call_vcanon_Apart h_q6 _ _), hc2, (len_val _ _), hc2, hc2, (len_val _ _), hc2, hc2, trivial⟩
    · injection h with h; subst h
      exact Knows.of (C := C19) wf Try.func19 (cs := [.reg 1 [(0, { it := .res (.lit (.bool q)) [] [] })], .b false, .reg 3 [(1, { it := .res (.sl (.excl 3) false (eI .i64 q1)) [] [] })], .reg 4 [(1, { it := .res (.sl (.excl 3) false (eI .i64 q2)) [] [] }), (2, { it := .res (.sl (.excl 3) false (eI .i64 q3)) [] [] }), (4, { it := .res (.sl (.excl 3) false (eI .i64 q4)) [] [] }), (5, { it := .res (.lit (.bool q5)) [] [] }), (7, { w := some false }), (8, { w := some false }), (9, { w := some false }), (10, { w := some false }), (11, { w := some false }), (12, { w := some false }), (13, { it := .b false })]]) (args := [(.sl .view false (eI .u8 l))]) (r := (.lit (.bool false))) (ps := [CallK Try.prog false 40 [] [] (.lit (.bool q)) [],
          (!q) = false,
          CallK Try.prog false 41 [(.sl .view false (eI .u8 l))] [] (.sl (.excl 3) false (eI .i64 q1)) [],
          CallK Try.prog false 45 [(.sl .view false (eI .i64 q1))] [] (.sl (.excl 3) false (eI .i64 q2)) [],
          CallK Try.prog false 43 [(.sl .view false (eI .i64 q2))] [] (.sl (.excl 3) false (eI .i64 q3)) [],
          CallK Try.prog false 43 [(.sl .view false (eI .i64 q1))] [] (.sl (.excl 3) false (eI .i64 q4)) [],
          CallK Try.prog false 42 [(.sl .view false (eI .i64 q3)), (.sl .view false (eI .i64 q4))] [] (.lit (.bool q5)) [],
          q5 = false,
          q5 = false,
          q5 = false,
          q5 = false,
          q5 = false,
          q5 = false,
          q5 = false]) (by kernel_rfl)
        ⟨(call_lontarlaw10_awake h_q _ _), (not_f hc1), (call_lontarlaw10_Some h_q1 _ _), (call_vcanon_Apart h_q2 _ _), (call_vcanon_All h_q3 _ _), (call_vcanon_All h_q4 _ _), (call_lontarlaw01_Units h_q5 _ _), (Bool.eq_false_iff.2 hc2), (Bool.eq_false_iff.2 hc2), (Bool.eq_false_iff.2 hc2), (Bool.eq_false_iff.2 hc2), (Bool.eq_false_iff.2 hc2), (Bool.eq_false_iff.2 hc2), (Bool.eq_false_iff.2 hc2), trivial⟩
  · injection h with h; subst h
    exact Knows.of (C := C19) wf Try.func19 (cs := [.reg 1 [(0, { it := .res (.lit (.bool q)) [] [] })], .b true]) (args := [(.sl .view false (eI .u8 l))]) (r := (.lit (.bool false))) (ps := [CallK Try.prog false 40 [] [] (.lit (.bool q)) [],
        (!q) = true]) (by kernel_rfl)
      ⟨(call_lontarlaw10_awake h_q _ _), (not_t (Bool.eq_false_iff.2 hc1)), trivial⟩
theorem call_lontarlaw10_VcanonBack {l : (List Int)} {r} (h : lontarlaw10_VcanonBack l = some r) (kp : Bool) (σ : List Bx) : CallK Try.prog kp 19 [(.sl .view false (eI .u8 l))] σ (.lit (.bool r)) σ :=
  (knows_lontarlaw10_VcanonBack l h).call (and_t (map_noRef (fun _ => rfl) _) rfl) rfl kp σ
end Go.Proofs.Ytpbbgkmpjcddbaa
