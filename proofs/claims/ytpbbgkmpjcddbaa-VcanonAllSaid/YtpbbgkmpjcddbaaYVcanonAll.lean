/- Walks, printed by wip/gen.py. -/
import Derived.Test.YtpbbgkmpjcddbaaMVcanonAll
import Derived.Test.YtpbbgkmpjcddbaaYd
set_option linter.all false
namespace Go.Proofs.Ytpbbgkmpjcddbaa
open Go.AM Go.AM.M

def h16 : Nat → Option Hint
| 0 => some { keep := [0, 1] }
| 1 => some { keep := [0, 1, 7] }
| 2 => some { keep := [4] }
| 3 => some { keep := [1, 5] }
| 4 => some { keep := [1, 5] }
| 5 => some { keep := [4] }
| _ => none

noncomputable def C16 : Ctx := { P := Try.prog, mv := fun _ _ => false, res := resOf Try.f16, live := h16, call := fun _ _ _ => none }

set_option maxRecDepth 100000 in
theorem knows_lontarlaw10_VcanonAll (l : (List Int)) (ss : (List Int)) {r} (h : lontarlaw10_VcanonAll l ss = some r) : Knows Try.prog 16 [(.sl .view false (eI .u8 l)), (.sl .view false (eI .i64 ss))] (.lit (.bool r)) := by
  unfold lontarlaw10_VcanonAll at h
  obtain ⟨q, h_q, h⟩ := Option.bind_eq_some_iff.1 h
  rcases ite_some h with ⟨hc1, h⟩ | ⟨hc1, h⟩
  · obtain ⟨q1, h_q1, h⟩ := Option.bind_eq_some_iff.1 h
    obtain ⟨v, h_v, h⟩ := Option.bind_eq_some_iff.1 h
    obtain ⟨q2, h_q2, h⟩ := Option.bind_eq_some_iff.1 h
    obtain ⟨q3, h_q3, h⟩ := Option.bind_eq_some_iff.1 h
    obtain ⟨q4, h_q4, h⟩ := Option.bind_eq_some_iff.1 h
    rcases ite_some h with ⟨hc2, h⟩ | ⟨hc2, h⟩
    · obtain ⟨q5, h_q5, h⟩ := Option.bind_eq_some_iff.1 h
      obtain ⟨q6, h_q6, h⟩ := Option.bind_eq_some_iff.1 h
      obtain ⟨q7, h_q7, h⟩ := Option.bind_eq_some_iff.1 h
      injection h with h; subst h
      exact Knows.of (C := C16) wf Try.func16 (cs := [.reg 1 [(0, { it := .res (.lit (.bool q)) [] [] })], .b false, .reg 3 [(1, { it := .res (.sl (.excl 3) false (eI .i64 q1)) [] [] })], .reg 4 [(2, { it := .val (.int .i64 (ss.length : Int)) }), (3, { it := .val (.int .i64 (minI (ss.length : Int) 60)) }), (4, { it := .sl (eI .i64 v) })], .reg 5 [(1, { it := .res (.sl (.excl 3) false (eI .i64 q2)) [] [] }), (3, { it := .res (.sl (.excl 3) false (eI .i64 q3)) [] [] }), (4, { it := .res (.lit (.bool q4)) [] [] }), (6, { w := some true }), (7, { it := .res (.sl (.excl 3) false (eI .i64 q5)) [] [], w := some true }), (8, { w := some true }), (9, { it := .res (.sl (.excl 3) false (eI .i64 q6)) [] [], w := some true }), (10, { it := .res (.lit (.bool q7)) [] [], w := some true }), (11, { it := .b true })]]) (args := [(.sl .view false (eI .u8 l)), (.sl .view false (eI .i64 ss))]) (r := (.lit (.bool q7))) (ps := [CallK Try.prog false 40 [] [] (.lit (.bool q)) [],
          (!q) = false,
          CallK Try.prog false 41 [(.sl .view false (eI .u8 l))] [] (.sl (.excl 3) false (eI .i64 q1)) [],
          Value.int .i64 (↑(List.length (eI .i64 ss)) : Int) = .int .i64 (ss.length : Int),
          det Try.prog (builtin .min #[3, 3] 3 [false, true].toArray [(.int .i64 (ss.length : Int)), (.int .i64 60)].toArray) = some (.value (.int .i64 (minI (ss.length : Int) 60))),
          0 ≤ (0 : Int) ∧ (0 : Int) ≤ (minI (ss.length : Int) 60) ∧ (minI (ss.length : Int) 60) ≤ (↑(List.length (eI .i64 ss)) : Int),
          ((eI .i64 ss).drop (0 : Int).toNat).take ((minI (ss.length : Int) 60).toNat - (0 : Int).toNat) = (eI .i64 v),
          firstLen 1 (eI .i64 v) = true,
          CallK Try.prog false 43 [(.sl .view false (eI .i64 q1))] [] (.sl (.excl 3) false (eI .i64 q2)) [],
          CallK Try.prog false 44 [(.sl .view false (eI .i64 q1))] [] (.sl (.excl 3) false (eI .i64 q3)) [],
          CallK Try.prog false 42 [(.sl .view false (eI .i64 q2)), (.sl .view false (eI .i64 q3))] [] (.lit (.bool q4)) [],
          q4 = true,
          q4 = true,
          CallK Try.prog false 43 [(.sl .view false (eI .i64 v))] [] (.sl (.excl 3) false (eI .i64 q5)) [],
          q4 = true,
          q4 = true,
          CallK Try.prog false 44 [(.sl .view false (eI .i64 v))] [] (.sl (.excl 3) false (eI .i64 q6)) [],
          q4 = true,
          CallK Try.prog false 42 [(.sl .view false (eI .i64 q5)), (.sl .view false (eI .i64 q6))] [] (.lit (.bool q7)) [],
          q4 = true]) (by kernel_rfl)
        ⟨(call_lontarlaw10_awake h_q _ _), (not_f hc1), (call_lontarlaw10_Some h_q1 _ _), (len_val _ _), (det_min _ _ _ _ _ _ _), (sl_b h_v), (sl_e h_v), (first_map (fun _ => rfl) _), (call_vcanon_All h_q2 _ _), (call_lontarlaw10_canon h_q3 _ _), (call_lontarlaw01_Units h_q4 _ _), hc2, hc2, (call_vcanon_All h_q5 _ _), hc2, hc2, (call_lontarlaw10_canon h_q6 _ _), hc2, (call_lontarlaw01_Units h_q7 _ _), hc2, trivial⟩
    · injection h with h; subst h
      exact Knows.of (C := C16) wf Try.func16 (cs := [.reg 1 [(0, { it := .res (.lit (.bool q)) [] [] })], .b false, .reg 3 [(1, { it := .res (.sl (.excl 3) false (eI .i64 q1)) [] [] })], .reg 4 [(2, { it := .val (.int .i64 (ss.length : Int)) }), (3, { it := .val (.int .i64 (minI (ss.length : Int) 60)) }), (4, { it := .sl (eI .i64 v) })], .reg 5 [(1, { it := .res (.sl (.excl 3) false (eI .i64 q2)) [] [] }), (3, { it := .res (.sl (.excl 3) false (eI .i64 q3)) [] [] }), (4, { it := .res (.lit (.bool q4)) [] [] }), (6, { w := some false }), (7, { w := some false }), (8, { w := some false }), (9, { w := some false }), (10, { w := some false }), (11, { it := .b false })]]) (args := [(.sl .view false (eI .u8 l)), (.sl .view false (eI .i64 ss))]) (r := (.lit (.bool false))) (ps := [CallK Try.prog false 40 [] [] (.lit (.bool q)) [],
          (!q) = false,
          CallK Try.prog false 41 [(.sl .view false (eI .u8 l))] [] (.sl (.excl 3) false (eI .i64 q1)) [],
          Value.int .i64 (↑(List.length (eI .i64 ss)) : Int) = .int .i64 (ss.length : Int),
          det Try.prog (builtin .min #[3, 3] 3 [false, true].toArray [(.int .i64 (ss.length : Int)), (.int .i64 60)].toArray) = some (.value (.int .i64 (minI (ss.length : Int) 60))),
          0 ≤ (0 : Int) ∧ (0 : Int) ≤ (minI (ss.length : Int) 60) ∧ (minI (ss.length : Int) 60) ≤ (↑(List.length (eI .i64 ss)) : Int),
          ((eI .i64 ss).drop (0 : Int).toNat).take ((minI (ss.length : Int) 60).toNat - (0 : Int).toNat) = (eI .i64 v),
          firstLen 1 (eI .i64 v) = true,
          CallK Try.prog false 43 [(.sl .view false (eI .i64 q1))] [] (.sl (.excl 3) false (eI .i64 q2)) [],
          CallK Try.prog false 44 [(.sl .view false (eI .i64 q1))] [] (.sl (.excl 3) false (eI .i64 q3)) [],
          CallK Try.prog false 42 [(.sl .view false (eI .i64 q2)), (.sl .view false (eI .i64 q3))] [] (.lit (.bool q4)) [],
          q4 = false,
          q4 = false,
          q4 = false,
          q4 = false,
          q4 = false,
          q4 = false]) (by kernel_rfl)
        ⟨(call_lontarlaw10_awake h_q _ _), (not_f hc1), (call_lontarlaw10_Some h_q1 _ _), (len_val _ _), (det_min _ _ _ _ _ _ _), (sl_b h_v), (sl_e h_v), (first_map (fun _ => rfl) _), (call_vcanon_All h_q2 _ _), (call_lontarlaw10_canon h_q3 _ _), (call_lontarlaw01_Units h_q4 _ _), (Bool.eq_false_iff.2 hc2), (Bool.eq_false_iff.2 hc2), (Bool.eq_false_iff.2 hc2), (Bool.eq_false_iff.2 hc2), (Bool.eq_false_iff.2 hc2), (Bool.eq_false_iff.2 hc2), trivial⟩
  · injection h with h; subst h
    exact Knows.of (C := C16) wf Try.func16 (cs := [.reg 1 [(0, { it := .res (.lit (.bool q)) [] [] })], .b true]) (args := [(.sl .view false (eI .u8 l)), (.sl .view false (eI .i64 ss))]) (r := (.lit (.bool false))) (ps := [CallK Try.prog false 40 [] [] (.lit (.bool q)) [],
        (!q) = true]) (by kernel_rfl)
      ⟨(call_lontarlaw10_awake h_q _ _), (not_t (Bool.eq_false_iff.2 hc1)), trivial⟩
theorem call_lontarlaw10_VcanonAll {l : (List Int)} {ss : (List Int)} {r} (h : lontarlaw10_VcanonAll l ss = some r) (kp : Bool) (σ : List Bx) : CallK Try.prog kp 16 [(.sl .view false (eI .u8 l)), (.sl .view false (eI .i64 ss))] σ (.lit (.bool r)) σ :=
  (knows_lontarlaw10_VcanonAll l ss h).call (and_t (map_noRef (fun _ => rfl) _) (and_t (map_noRef (fun _ => rfl) _) rfl)) rfl kp σ
end Go.Proofs.Ytpbbgkmpjcddbaa
