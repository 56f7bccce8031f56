/- Walks, printed by wip/gen.py. -/
import Derived.Test.YtpbbgkmpjcddbaaMb
import Derived.Test.YtpbbgkmpjcddbaaYa
set_option linter.all false
namespace Go.Proofs.Ytpbbgkmpjcddbaa
open Go.AM Go.AM.M

def h49 : Nat → Option Hint
| 0 => some { keep := [0] }
| 1 => some { keep := [0] }
| _ => none

noncomputable def C49 : Ctx := { P := Try.prog, mv := fun _ _ => false, res := resOf Try.f49, live := h49, call := fun _ _ _ => none }

set_option maxRecDepth 100000 in
theorem knows_viscii_high {r} (h : viscii_high = some r) : Knows Try.prog 49 [] (.agg (aI .i64 r)) := by
  unfold viscii_high at h
  injection h with h; subst h
  exact Knows.of (C := C49) wf Try.func49 (cs := []) (args := []) (r := (.agg [(.lit (.int .i64 7840)), (.lit (.int .i64 7854)), (.lit (.int .i64 7856)), (.lit (.int .i64 7862)), (.lit (.int .i64 7844)), (.lit (.int .i64 7846)), (.lit (.int .i64 7848)), (.lit (.int .i64 7852)), (.lit (.int .i64 7868)), (.lit (.int .i64 7864)), (.lit (.int .i64 7870)), (.lit (.int .i64 7872)), (.lit (.int .i64 7874)), (.lit (.int .i64 7876)), (.lit (.int .i64 7878)), (.lit (.int .i64 7888)), (.lit (.int .i64 7890)), (.lit (.int .i64 7892)), (.lit (.int .i64 7894)), (.lit (.int .i64 7896)), (.lit (.int .i64 7906)), (.lit (.int .i64 7898)), (.lit (.int .i64 7900)), (.lit (.int .i64 7902)), (.lit (.int .i64 7882)), (.lit (.int .i64 7886)), (.lit (.int .i64 7884)), (.lit (.int .i64 7880)), (.lit (.int .i64 7910)), (.lit (.int .i64 360)), (.lit (.int .i64 7908)), (.lit (.int .i64 7922)), (.lit (.int .i64 213)), (.lit (.int .i64 7855)), (.lit (.int .i64 7857)), (.lit (.int .i64 7863)), (.lit (.int .i64 7845)), (.lit (.int .i64 7847)), (.lit (.int .i64 7849)), (.lit (.int .i64 7853)), (.lit (.int .i64 7869)), (.lit (.int .i64 7865)), (.lit (.int .i64 7871)), (.lit (.int .i64 7873)), (.lit (.int .i64 7875)), (.lit (.int .i64 7877)), (.lit (.int .i64 7879)), (.lit (.int .i64 7889)), (.lit (.int .i64 7891)), (.lit (.int .i64 7893)), (.lit (.int .i64 7895)), (.lit (.int .i64 7904)), (.lit (.int .i64 416)), (.lit (.int .i64 7897)), (.lit (.int .i64 7901)), (.lit (.int .i64 7903)), (.lit (.int .i64 7883)), (.lit (.int .i64 7920)), (.lit (.int .i64 7912)), (.lit (.int .i64 7914)), (.lit (.int .i64 7916)), (.lit (.int .i64 417)), (.lit (.int .i64 7899)), (.lit (.int .i64 431)), (.lit (.int .i64 192)), (.lit (.int .i64 193)), (.lit (.int .i64 194)), (.lit (.int .i64 195)), (.lit (.int .i64 7842)), (.lit (.int .i64 258)), (.lit (.int .i64 7859)), (.lit (.int .i64 7861)), (.lit (.int .i64 200)), (.lit (.int .i64 201)), (.lit (.int .i64 202)), (.lit (.int .i64 7866)), (.lit (.int .i64 204)), (.lit (.int .i64 205)), (.lit (.int .i64 296)), (.lit (.int .i64 7923)), (.lit (.int .i64 272)), (.lit (.int .i64 7913)), (.lit (.int .i64 210)), (.lit (.int .i64 211)), (.lit (.int .i64 212)), (.lit (.int .i64 7841)), (.lit (.int .i64 7927)), (.lit (.int .i64 7915)), (.lit (.int .i64 7917)), (.lit (.int .i64 217)), (.lit (.int .i64 218)), (.lit (.int .i64 7929)), (.lit (.int .i64 7925)), (.lit (.int .i64 221)), (.lit (.int .i64 7905)), (.lit (.int .i64 432)), (.lit (.int .i64 224)), (.lit (.int .i64 225)), (.lit (.int .i64 226)), (.lit (.int .i64 227)), (.lit (.int .i64 7843)), (.lit (.int .i64 259)), (.lit (.int .i64 7919)), (.lit (.int .i64 7851)), (.lit (.int .i64 232)), (.lit (.int .i64 233)), (.lit (.int .i64 234)), (.lit (.int .i64 7867)), (.lit (.int .i64 236)), (.lit (.int .i64 237)), (.lit (.int .i64 297)), (.lit (.int .i64 7881)), (.lit (.int .i64 273)), (.lit (.int .i64 7921)), (.lit (.int .i64 242)), (.lit (.int .i64 243)), (.lit (.int .i64 244)), (.lit (.int .i64 245)), (.lit (.int .i64 7887)), (.lit (.int .i64 7885)), (.lit (.int .i64 7909)), (.lit (.int .i64 249)), (.lit (.int .i64 250)), (.lit (.int .i64 361)), (.lit (.int .i64 7911)), (.lit (.int .i64 253)), (.lit (.int .i64 7907)), (.lit (.int .i64 7918))])) (ps := []) (by kernel_rfl)
    trivial
theorem call_viscii_high {r} (h : viscii_high = some r) (kp : Bool) (σ : List Bx) : CallK Try.prog kp 49 [] σ (.agg (aI .i64 r)) σ :=
  (knows_viscii_high h).call rfl rfl kp σ

def h24 : Nat → Option Hint
| 0 => some { keep := [0] }
| 1 => some { keep := [0, 3] }
| 2 => some { keep := [0, 3, 4] }
| 3 => some { keep := [2] }
| 4 => some { keep := [0, 3, 6] }
| 5 => some { keep := [2] }
| 6 => some { keep := [0, 3, 8] }
| 7 => some { keep := [2] }
| 8 => some { keep := [0, 3, 10] }
| 9 => some { keep := [2] }
| 10 => some { keep := [0, 3, 12] }
| 11 => some { keep := [2] }
| 12 => some { keep := [0, 14] }
| 13 => some { keep := [2] }
| 14 => some { keep := [0, 17] }
| 15 => some { keep := [2] }
| 16 => some { keep := [2] }
| _ => none

noncomputable def C24 : Ctx := { P := Try.prog, mv := fun _ _ => false, res := resOf Try.f24, live := h24, call := fun _ _ _ => none }

set_option maxRecDepth 100000 in
theorem knows_viscii_Decode (c : Int) {r} (h : viscii_Decode c = some r) : Knows Try.prog 24 [(.lit (.int .u8 c))] (.lit (.int .i64 r)) := by
  unfold viscii_Decode at h
  rcases ite_some h with ⟨hc1, h⟩ | ⟨hc1, h⟩
  · injection h with h; subst h
    exact Knows.of (C := C24) wf Try.func24 (cs := [.b true]) (args := [(.lit (.int .u8 c))]) (r := (.lit (.int .i64 7858))) (ps := [(c == 2) = true]) (by kernel_rfl)
      ⟨(beq_iff_eq.2 hc1), trivial⟩
  · rcases ite_some h with ⟨hc2, h⟩ | ⟨hc2, h⟩
    · injection h with h; subst h
      exact Knows.of (C := C24) wf Try.func24 (cs := [.b false, .b true]) (args := [(.lit (.int .u8 c))]) (r := (.lit (.int .i64 7860))) (ps := [(c == 2) = false,
          (c == 5) = true]) (by kernel_rfl)
        ⟨(beq_eq_false_iff_ne.2 hc1), (beq_iff_eq.2 hc2), trivial⟩
    · rcases ite_some h with ⟨hc3, h⟩ | ⟨hc3, h⟩
      · injection h with h; subst h
        exact Knows.of (C := C24) wf Try.func24 (cs := [.b false, .b false, .b true]) (args := [(.lit (.int .u8 c))]) (r := (.lit (.int .i64 7850))) (ps := [(c == 2) = false,
            (c == 5) = false,
            (c == 6) = true]) (by kernel_rfl)
          ⟨(beq_eq_false_iff_ne.2 hc1), (beq_eq_false_iff_ne.2 hc2), (beq_iff_eq.2 hc3), trivial⟩
      · rcases ite_some h with ⟨hc4, h⟩ | ⟨hc4, h⟩
        · injection h with h; subst h
          exact Knows.of (C := C24) wf Try.func24 (cs := [.b false, .b false, .b false, .b true]) (args := [(.lit (.int .u8 c))]) (r := (.lit (.int .i64 7926))) (ps := [(c == 2) = false,
              (c == 5) = false,
              (c == 6) = false,
              (c == 20) = true]) (by kernel_rfl)
            ⟨(beq_eq_false_iff_ne.2 hc1), (beq_eq_false_iff_ne.2 hc2), (beq_eq_false_iff_ne.2 hc3), (beq_iff_eq.2 hc4), trivial⟩
        · rcases ite_some h with ⟨hc5, h⟩ | ⟨hc5, h⟩
          · injection h with h; subst h
            exact Knows.of (C := C24) wf Try.func24 (cs := [.b false, .b false, .b false, .b false, .b true]) (args := [(.lit (.int .u8 c))]) (r := (.lit (.int .i64 7928))) (ps := [(c == 2) = false,
                (c == 5) = false,
                (c == 6) = false,
                (c == 20) = false,
                (c == 25) = true]) (by kernel_rfl)
              ⟨(beq_eq_false_iff_ne.2 hc1), (beq_eq_false_iff_ne.2 hc2), (beq_eq_false_iff_ne.2 hc3), (beq_eq_false_iff_ne.2 hc4), (beq_iff_eq.2 hc5), trivial⟩
          · rcases ite_some h with ⟨hc6, h⟩ | ⟨hc6, h⟩
            · injection h with h; subst h
              exact Knows.of (C := C24) wf Try.func24 (cs := [.b false, .b false, .b false, .b false, .b false, .b true]) (args := [(.lit (.int .u8 c))]) (r := (.lit (.int .i64 7924))) (ps := [(c == 2) = false,
                  (c == 5) = false,
                  (c == 6) = false,
                  (c == 20) = false,
                  (c == 25) = false,
                  (c == 30) = true]) (by kernel_rfl)
                ⟨(beq_eq_false_iff_ne.2 hc1), (beq_eq_false_iff_ne.2 hc2), (beq_eq_false_iff_ne.2 hc3), (beq_eq_false_iff_ne.2 hc4), (beq_eq_false_iff_ne.2 hc5), (beq_iff_eq.2 hc6), trivial⟩
            · rcases ite_some h with ⟨hc7, h⟩ | ⟨hc7, h⟩
              · injection h with h; subst h
                exact Knows.of (C := C24) wf Try.func24 (cs := [.b false, .b false, .b false, .b false, .b false, .b false, .b true]) (args := [(.lit (.int .u8 c))]) (r := (.lit (.int .i64 (w64 c)))) (ps := [(c == 2) = false,
                    (c == 5) = false,
                    (c == 6) = false,
                    (c == 20) = false,
                    (c == 25) = false,
                    (c == 30) = false,
                    (decide (c < 128)) = true]) (by kernel_rfl)
                  ⟨(beq_eq_false_iff_ne.2 hc1), (beq_eq_false_iff_ne.2 hc2), (beq_eq_false_iff_ne.2 hc3), (beq_eq_false_iff_ne.2 hc4), (beq_eq_false_iff_ne.2 hc5), (beq_eq_false_iff_ne.2 hc6), (decide_eq_true hc7), trivial⟩
              · obtain ⟨q, h_q, h⟩ := Option.bind_eq_some_iff.1 h
                obtain ⟨hg8, h⟩ := guardO_some h
                obtain ⟨v, h_v, h⟩ := Option.bind_eq_some_iff.1 h
                injection h with h; subst h
                exact Knows.of (C := C24) wf Try.func24 (cs := [.b false, .b false, .b false, .b false, .b false, .b false, .b false, .reg 16 [(0, { it := .res (.agg (aI .i64 q)) [] [] }), (3, { it := .pv (.lit (.int .i64 v)) })]]) (args := [(.lit (.int .u8 c))]) (r := (.lit (.int .i64 v))) (ps := [(c == 2) = false,
                    (c == 5) = false,
                    (c == 6) = false,
                    (c == 20) = false,
                    (c == 25) = false,
                    (c == 30) = false,
                    (decide (c < 128)) = false,
                    CallK Try.prog false 49 [] [] (.agg (aI .i64 q)) [],
                    0 ≤ (w8 (c - 128)) ∧ (w8 (c - 128)) < 128,
                    partOf Try.prog 3 (aI .i64 q) ((w8 (c - 128)).toNat * 1) = some (.lit (.int .i64 v))]) (by kernel_rfl)
                  ⟨(beq_eq_false_iff_ne.2 hc1), (beq_eq_false_iff_ne.2 hc2), (beq_eq_false_iff_ne.2 hc3), (beq_eq_false_iff_ne.2 hc4), (beq_eq_false_iff_ne.2 hc5), (beq_eq_false_iff_ne.2 hc6), (decide_eq_false hc7), (call_viscii_high h_q _ _), hg8, (part_of (c := fun z => .lit (.int .i64 z)) aggT3 szOf3 h_v rfl), trivial⟩
theorem call_viscii_Decode {c : Int} {r} (h : viscii_Decode c = some r) (kp : Bool) (σ : List Bx) : CallK Try.prog kp 24 [(.lit (.int .u8 c))] σ (.lit (.int .i64 r)) σ :=
  (knows_viscii_Decode c h).call (and_t rfl rfl) rfl kp σ

def h26 : Nat → Option Hint
| 0 => some { keep := [0] }
| 1 => some { keep := [0, 5] }
| 2 => some { keep := [0, 5, 6] }
| 3 => some { keep := [0, 4, 5] }
| 4 => some { keep := [0, 4, 5, 12] }
| 5 => some { keep := [2, 3] }
| 6 => some { keep := [0, 5] }
| 7 => some { keep := [2, 3] }
| _ => none

noncomputable def C26 : Ctx := { P := Try.prog, mv := fun _ _ => false, res := resOf Try.f26, live := h26, call := fun _ _ _ => none }

def S_viscii_Encode_L0 (s : Int) (vv : Int) : St :=
  match vv with
  | v => { ts := [(0, (.lit (.int .i64 s))), (5, (.lit (.int .i64 v)))], n := 16, σ := [] }

def X_viscii_Encode_L0_0 (s : Int) (v : Int) : St := { ts := [(2, (.lit (.int .u8 v))), (3, (.lit (.bool true)))], n := 16, σ := [] }

def X_viscii_Encode_L0_1 (s : Int) (v : Int) (v1 : Bool) : St := { ts := [(0, (.lit (.int .i64 s))), (5, (.lit (.int .i64 v))), (6, (.lit (.bool v1)))], n := 16, σ := [] }

def E_viscii_Encode_L0 (s : Int) (vv : viscii_Encode_L0_R) : Exit × St :=
  match vv with
  | .x0 v => (.ret, X_viscii_Encode_L0_0 s v)
  | .x1 v v1 => (.exit 0, X_viscii_Encode_L0_1 s v v1)

set_option maxRecDepth 100000 in
theorem body_viscii_Encode_L0 (s : Int) (v : Int) (x) (h : viscii_Encode_L0 s v = some x) : RunsB Try.prog 0 (sub [1, 0, 1, 0, 0] (fbody Try.f26)) (S_viscii_Encode_L0 s v) (sideX (E_viscii_Encode_L0 s) x) (sideS (S_viscii_Encode_L0 s) (E_viscii_Encode_L0 s) x) := by
  unfold viscii_Encode_L0 at h
  dsimp only at h
  rcases ite_some h with ⟨hc6, h⟩ | ⟨hc6, h⟩
  · obtain ⟨q, h_q, h⟩ := Option.bind_eq_some_iff.1 h
    rcases ite_some h with ⟨hc7, h⟩ | ⟨hc7, h⟩
    · injection h with h; subst h
      exact codeH_sound (C := C26) (base := 0) wf _ (cs := [.b true, .reg 4 [(2, { it := .res (.lit (.int .i64 q)) [] [] })], .b true]) (cs' := []) (ps := [(decide (v < 256)) = true,
          CallK Try.prog false 24 [(.lit (.int .u8 (w8 v)))] [] (.lit (.int .i64 q)) [],
          (q == s) = true]) (by kernel_rfl)
        ⟨(decide_eq_true hc6), (call_viscii_Decode h_q _ _), (beq_iff_eq.2 hc7), trivial⟩
    · injection h with h; subst h
      exact codeH_sound (C := C26) (base := 0) wf _ (cs := [.b true, .reg 4 [(2, { it := .res (.lit (.int .i64 q)) [] [] })], .b false]) (cs' := []) (ps := [(decide (v < 256)) = true,
          CallK Try.prog false 24 [(.lit (.int .u8 (w8 v)))] [] (.lit (.int .i64 q)) [],
          (q == s) = false]) (by kernel_rfl)
        ⟨(decide_eq_true hc6), (call_viscii_Decode h_q _ _), (beq_eq_false_iff_ne.2 hc7), trivial⟩
  · injection h with h; subst h
    exact codeH_sound (C := C26) (base := 0) wf _ (cs := [.b false]) (cs' := []) (ps := [(decide (v < 256)) = false]) (by kernel_rfl)
      ⟨(decide_eq_false hc6), trivial⟩

theorem runs_viscii_Encode_L0 (s : Int) {nn} {vv : Int} {rr} (h : loopM (viscii_Encode_L0 s) nn vv = some rr) : RunsB Try.prog 0 (.loop (sub [1, 0, 1, 0, 0] (fbody Try.f26))) (S_viscii_Encode_L0 s vv) (E_viscii_Encode_L0 s rr).1 (E_viscii_Encode_L0 s rr).2 :=
  loop_runs (by intro r; cases r <;> simp [E_viscii_Encode_L0]) (body_viscii_Encode_L0 s) nn vv rr h

set_option maxRecDepth 100000 in
theorem knows_viscii_Encode (s : Int) {r} (h : viscii_Encode s = some r) : Knows Try.prog 26 [(.lit (.int .i64 s))] (.tup [(.lit (.int .u8 r.1)), (.lit (.bool r.2))]) := by
  unfold viscii_Encode at h
  obtain ⟨l8, hr_l8, h⟩ := Option.bind_eq_some_iff.1 h
  have hl_l8 := runs_viscii_Encode_L0 s hr_l8
  cases l8 with
  | x0 v =>
    dsimp only at h
    injection h with h; subst h
    exact Knows.of (C := C26) wf Try.func26 (cs := [.lp (.ret) (X_viscii_Encode_L0_0 s v)]) (args := [(.lit (.int .i64 s))]) (r := (.tup [(.lit (.int .u8 v)), (.lit (.bool true))])) (ps := [RunsB Try.prog 0 (.loop (sub [1, 0, 1, 0, 0] (fbody Try.f26))) (S_viscii_Encode_L0 s 0) (.ret) (X_viscii_Encode_L0_0 s v)]) (by kernel_rfl)
      ⟨hl_l8, trivial⟩
  | x1 v v1 =>
    dsimp only at h
    injection h with h; subst h
    exact Knows.of (C := C26) wf Try.func26 (cs := [.lp (.exit 0) (X_viscii_Encode_L0_1 s v v1)]) (args := [(.lit (.int .i64 s))]) (r := (.tup [(.lit (.int .u8 0)), (.lit (.bool false))])) (ps := [RunsB Try.prog 0 (.loop (sub [1, 0, 1, 0, 0] (fbody Try.f26))) (S_viscii_Encode_L0 s 0) (.exit 0) (X_viscii_Encode_L0_1 s v v1)]) (by kernel_rfl)
      ⟨hl_l8, trivial⟩
theorem call_viscii_Encode {s : Int} {r} (h : viscii_Encode s = some r) (kp : Bool) (σ : List Bx) : CallK Try.prog kp 26 [(.lit (.int .i64 s))] σ (.tup [(.lit (.int .u8 r.1)), (.lit (.bool r.2))]) σ :=
  (knows_viscii_Encode s h).call (and_t rfl rfl) rfl kp σ

def h27 : Nat → Option Hint
| 0 => some { keep := [] }
| 1 => some { keep := [1], nils := [((.tmp 1), 33)] }
| 2 => some { keep := [1, 3] }
| 3 => some { keep := [1, 3, 4] }
| 4 => some { keep := [1, 2, 3] }
| 5 => some { keep := [1, 3] }
| 6 => some { keep := [1, 3] }
| 7 => some { keep := [0] }
| _ => none

noncomputable def C27 : Ctx := { P := Try.prog, mv := fun _ _ => false, res := resOf Try.f27, live := h27, call := fun _ _ _ => none }

def S_viscii_Rules_L0 (vv : (List GApiRule) × Int) : St :=
  match vv with
  | (out_, v) => { ts := [(1, (.sl (.excl 33) false (List.map GApiRule.c out_))), (3, (.lit (.int .i64 v)))], n := 18, σ := [] }

def X_viscii_Rules_L0_0 (out_ : List GApiRule) (v : Int) (v1 : Bool) : St := { ts := [(1, (.sl (.excl 33) false (List.map GApiRule.c out_))), (3, (.lit (.int .i64 v))), (4, (.lit (.bool v1)))], n := 18, σ := [] }

def E_viscii_Rules_L0 (vv : (List GApiRule) × Int × Bool) : Exit × St :=
  match vv with
  | (out_, v, v1) => (.exit 0, X_viscii_Rules_L0_0 out_ v v1)

set_option maxRecDepth 100000 in
theorem body_viscii_Rules_L0 (vv : (List GApiRule) × Int) (x) (h : viscii_Rules_L0 vv = some x) : RunsB Try.prog 0 (sub [1, 1, 0, 1, 0, 0] (fbody Try.f27)) (S_viscii_Rules_L0 vv) (sideX (E_viscii_Rules_L0) x) (sideS (S_viscii_Rules_L0) (E_viscii_Rules_L0) x) := by
  obtain ⟨out_, v⟩ := vv
  unfold viscii_Rules_L0 at h
  dsimp only at h
  rcases ite_some h with ⟨hc6, h⟩ | ⟨hc6, h⟩
  · obtain ⟨q, h_q, h⟩ := Option.bind_eq_some_iff.1 h
    obtain ⟨hg7, h⟩ := guardO_some h
    injection h with h; subst h
    exact codeH_sound (C := C27) (base := 0) wf _ (cs := [.b true, .reg 5 [(5, { it := .res (.lit (.int .i64 q)) [] [] }), (9, { it := .sl (List.map GApiRule.c (out_ ++ [(⟨[v], [q]⟩ : GApiRule)])) })]]) (cs' := []) (ps := [(decide (v < 256)) = true,
        CallK Try.prog false 24 [(.lit (.int .u8 (w8 v)))] [] (.lit (.int .i64 q)) [],
        (List.length (List.map GApiRule.c out_) + List.length (List.map GApiRule.c [(⟨[v], [q]⟩ : GApiRule)])) * 48 ≤ 2 ^ 46,
        (List.map GApiRule.c [(⟨[v], [q]⟩ : GApiRule)]).all (fun c => c.length = 2 && c.all PV.one) = true,
        (List.map GApiRule.c out_) ++ (List.map GApiRule.c [(⟨[v], [q]⟩ : GApiRule)]) = (List.map GApiRule.c (out_ ++ [(⟨[v], [q]⟩ : GApiRule)]))]) (by kernel_rfl)
      ⟨(decide_eq_true hc6), (call_viscii_Decode h_q _ _), (len_map2 hg7), (all_map (fun _ => rfl) _), (List.map_append).symm, trivial⟩
  · injection h with h; subst h
    exact codeH_sound (C := C27) (base := 0) wf _ (cs := [.b false]) (cs' := []) (ps := [(decide (v < 256)) = false]) (by kernel_rfl)
      ⟨(decide_eq_false hc6), trivial⟩

theorem runs_viscii_Rules_L0 {nn} {vv : (List GApiRule) × Int} {rr} (h : loopM (viscii_Rules_L0) nn vv = some rr) : RunsB Try.prog 0 (.loop (sub [1, 1, 0, 1, 0, 0] (fbody Try.f27))) (S_viscii_Rules_L0 vv) (E_viscii_Rules_L0 rr).1 (E_viscii_Rules_L0 rr).2 :=
  loop_runs (by intro r; simp [E_viscii_Rules_L0]) (body_viscii_Rules_L0) nn vv rr h

set_option maxRecDepth 100000 in
theorem knows_viscii_Rules {r} (h : viscii_Rules = some r) : Knows Try.prog 27 [] (.sl (.excl 33) false (List.map GApiRule.c r)) := by
  unfold viscii_Rules at h
  obtain ⟨l8, hr_l8, h⟩ := Option.bind_eq_some_iff.1 h
  have hl_l8 := runs_viscii_Rules_L0 hr_l8
  obtain ⟨out_, v, v1⟩ := l8
  dsimp only at h
  injection h with h; subst h
  exact Knows.of (C := C27) wf Try.func27 (cs := [.lp (.exit 0) (X_viscii_Rules_L0_0 out_ v v1)]) (args := []) (r := (.sl (.excl 33) false (List.map GApiRule.c out_))) (ps := [RunsB Try.prog 0 (.loop (sub [1, 1, 0, 1, 0, 0] (fbody Try.f27))) (S_viscii_Rules_L0 ([], 0)) (.exit 0) (X_viscii_Rules_L0_0 out_ v v1)]) (by kernel_rfl)
    ⟨hl_l8, trivial⟩
theorem call_viscii_Rules {r} (h : viscii_Rules = some r) (kp : Bool) (σ : List Bx) : CallK Try.prog kp 27 [] σ (.sl (.excl 33) false (List.map GApiRule.c r)) σ :=
  (knows_viscii_Rules h).call rfl rfl kp σ

def h25 : Nat → Option Hint
| 0 => some { keep := [] }
| 1 => some { keep := [1], nils := [((.tmp 1), 3)] }
| 2 => some { keep := [1, 2] }
| 3 => some { keep := [1, 2, 4] }
| 4 => some { keep := [1, 2] }
| 5 => some { keep := [1, 2] }
| 6 => some { keep := [1] }
| 7 => some { keep := [1] }
| 8 => some { keep := [1] }
| 9 => some { keep := [1] }
| 10 => some { keep := [0] }
| _ => none

noncomputable def C25 : Ctx := { P := Try.prog, mv := fun _ _ => false, res := resOf Try.f25, live := h25, call := fun _ _ _ => none }

def S_lontarlaw11_Table_L0 (vv : (List Int) × Int) : St :=
  match vv with
  | (out_, c) => { ts := [(1, (.sl (.excl 3) false (eI .i64 out_))), (2, (.lit (.int .i64 c)))], n := 35, σ := [] }

def X_lontarlaw11_Table_L0_0 (out_ : List Int) (c : Int) (v : Bool) : St := { ts := [(1, (.sl (.excl 3) false (eI .i64 out_))), (2, (.lit (.int .i64 c))), (4, (.lit (.bool v)))], n := 35, σ := [] }

def E_lontarlaw11_Table_L0 (vv : (List Int) × Int × Bool) : Exit × St :=
  match vv with
  | (out_, c, v) => (.exit 0, X_lontarlaw11_Table_L0_0 out_ c v)

set_option maxRecDepth 100000 in
theorem body_lontarlaw11_Table_L0 (vv : (List Int) × Int) (x) (h : lontarlaw11_Table_L0 vv = some x) : RunsB Try.prog 0 (sub [1, 1, 0, 1, 0, 0] (fbody Try.f25)) (S_lontarlaw11_Table_L0 vv) (sideX (E_lontarlaw11_Table_L0) x) (sideS (S_lontarlaw11_Table_L0) (E_lontarlaw11_Table_L0) x) := by
  obtain ⟨out_, c⟩ := vv
  unfold lontarlaw11_Table_L0 at h
  dsimp only at h
  rcases ite_some h with ⟨hc6, h⟩ | ⟨hc6, h⟩
  · obtain ⟨hg7, h⟩ := guardO_some h
    injection h with h; subst h
    exact codeH_sound (C := C25) (base := 0) wf _ (cs := [.b true, .reg 5 [(3, { it := .sl (eI .i64 (out_ ++ [c])) })]]) (cs' := []) (ps := [(decide (c < 128)) = true,
        (List.length (eI .i64 out_) + List.length (eI .i64 [c])) * 8 ≤ 2 ^ 46,
        (eI .i64 [c]).all (fun c => c.length = 1 && c.all PV.one) = true,
        (eI .i64 out_) ++ (eI .i64 [c]) = (eI .i64 (out_ ++ [c]))]) (by kernel_rfl)
      ⟨(decide_eq_true hc6), (len_map2 hg7), (all_map (fun _ => rfl) _), (List.map_append).symm, trivial⟩
  · injection h with h; subst h
    exact codeH_sound (C := C25) (base := 0) wf _ (cs := [.b false]) (cs' := []) (ps := [(decide (c < 128)) = false]) (by kernel_rfl)
      ⟨(decide_eq_false hc6), trivial⟩

theorem runs_lontarlaw11_Table_L0 {nn} {vv : (List Int) × Int} {rr} (h : loopM (lontarlaw11_Table_L0) nn vv = some rr) : RunsB Try.prog 0 (.loop (sub [1, 1, 0, 1, 0, 0] (fbody Try.f25))) (S_lontarlaw11_Table_L0 vv) (E_lontarlaw11_Table_L0 rr).1 (E_lontarlaw11_Table_L0 rr).2 :=
  loop_runs (by intro r; simp [E_lontarlaw11_Table_L0]) (body_lontarlaw11_Table_L0) nn vv rr h

set_option maxRecDepth 100000 in
theorem knows_lontarlaw11_Table {r} (h : lontarlaw11_Table = some r) : Knows Try.prog 25 [] (.sl (.excl 3) false (eI .i64 r)) := by
  unfold lontarlaw11_Table at h
  obtain ⟨l8, hr_l8, h⟩ := Option.bind_eq_some_iff.1 h
  have hl_l8 := runs_lontarlaw11_Table_L0 hr_l8
  obtain ⟨out_, c, v⟩ := l8
  dsimp only at h
  obtain ⟨x_, h_x_, h⟩ := Option.bind_eq_some_iff.1 h
  obtain ⟨x_1, h_x_1, h⟩ := Option.bind_eq_some_iff.1 h
  obtain ⟨x_2, h_x_2, h⟩ := Option.bind_eq_some_iff.1 h
  obtain ⟨x_3, h_x_3, h⟩ := Option.bind_eq_some_iff.1 h
  obtain ⟨x_4, h_x_4, h⟩ := Option.bind_eq_some_iff.1 h
  obtain ⟨x_5, h_x_5, h⟩ := Option.bind_eq_some_iff.1 h
  obtain ⟨hg9, h⟩ := guardO_some h
  obtain ⟨hg10, h⟩ := guardO_some h
  obtain ⟨hg11, h⟩ := guardO_some h
  obtain ⟨hg12, h⟩ := guardO_some h
  injection h with h; subst h
  exact Knows.of (C := C25) wf Try.func25 (cs := [.lp (.exit 0) (X_lontarlaw11_Table_L0_0 out_ c v), .reg 6 [(6, { it := .cs [(.lit (.int .i64 x_))] }), (7, { it := .cz [(.lit (.int .i64 x_))] (eI .i64 (out_.set 2 7858)) }), (8, { it := .cs [(.lit (.int .i64 x_1))] }), (9, { it := .cz [(.lit (.int .i64 x_1))] (eI .i64 ((out_.set 2 7858).set 5 7860)) }), (10, { it := .cs [(.lit (.int .i64 x_2))] }), (11, { it := .cz [(.lit (.int .i64 x_2))] (eI .i64 (((out_.set 2 7858).set 5 7860).set 6 7850)) }), (12, { it := .cs [(.lit (.int .i64 x_3))] }), (13, { it := .cz [(.lit (.int .i64 x_3))] (eI .i64 ((((out_.set 2 7858).set 5 7860).set 6 7850).set 20 7926)) }), (14, { it := .cs [(.lit (.int .i64 x_4))] }), (15, { it := .cz [(.lit (.int .i64 x_4))] (eI .i64 (((((out_.set 2 7858).set 5 7860).set 6 7850).set 20 7926).set 25 7928)) }), (16, { it := .cs [(.lit (.int .i64 x_5))] }), (17, { it := .cz [(.lit (.int .i64 x_5))] (eI .i64 ((((((out_.set 2 7858).set 5 7860).set 6 7850).set 20 7926).set 25 7928).set 30 7924)) })], .reg 7 [(2, { it := .sl (eI .i64 (((((((out_.set 2 7858).set 5 7860).set 6 7850).set 20 7926).set 25 7928).set 30 7924) ++ [7840, 7854, 7856, 7862, 7844, 7846, 7848, 7852, 7868, 7864, 7870, 7872, 7874, 7876, 7878, 7888, 7890, 7892, 7894, 7896, 7906, 7898, 7900, 7902, 7882, 7886, 7884, 7880, 7910, 360, 7908, 7922])) })], .reg 8 [(2, { it := .sl (eI .i64 ((((((((out_.set 2 7858).set 5 7860).set 6 7850).set 20 7926).set 25 7928).set 30 7924) ++ [7840, 7854, 7856, 7862, 7844, 7846, 7848, 7852, 7868, 7864, 7870, 7872, 7874, 7876, 7878, 7888, 7890, 7892, 7894, 7896, 7906, 7898, 7900, 7902, 7882, 7886, 7884, 7880, 7910, 360, 7908, 7922]) ++ [213, 7855, 7857, 7863, 7845, 7847, 7849, 7853, 7869, 7865, 7871, 7873, 7875, 7877, 7879, 7889, 7891, 7893, 7895, 7904, 416, 7897, 7901, 7903, 7883, 7920, 7912, 7914, 7916, 417, 7899, 431])) })], .reg 9 [(2, { it := .sl (eI .i64 (((((((((out_.set 2 7858).set 5 7860).set 6 7850).set 20 7926).set 25 7928).set 30 7924) ++ [7840, 7854, 7856, 7862, 7844, 7846, 7848, 7852, 7868, 7864, 7870, 7872, 7874, 7876, 7878, 7888, 7890, 7892, 7894, 7896, 7906, 7898, 7900, 7902, 7882, 7886, 7884, 7880, 7910, 360, 7908, 7922]) ++ [213, 7855, 7857, 7863, 7845, 7847, 7849, 7853, 7869, 7865, 7871, 7873, 7875, 7877, 7879, 7889, 7891, 7893, 7895, 7904, 416, 7897, 7901, 7903, 7883, 7920, 7912, 7914, 7916, 417, 7899, 431]) ++ [192, 193, 194, 195, 7842, 258, 7859, 7861, 200, 201, 202, 7866, 204, 205, 296, 7923, 272, 7913, 210, 211, 212, 7841, 7927, 7915, 7917, 217, 218, 7929, 7925, 221, 7905, 432])) })], .reg 10 [(2, { it := .sl (eI .i64 ((((((((((out_.set 2 7858).set 5 7860).set 6 7850).set 20 7926).set 25 7928).set 30 7924) ++ [7840, 7854, 7856, 7862, 7844, 7846, 7848, 7852, 7868, 7864, 7870, 7872, 7874, 7876, 7878, 7888, 7890, 7892, 7894, 7896, 7906, 7898, 7900, 7902, 7882, 7886, 7884, 7880, 7910, 360, 7908, 7922]) ++ [213, 7855, 7857, 7863, 7845, 7847, 7849, 7853, 7869, 7865, 7871, 7873, 7875, 7877, 7879, 7889, 7891, 7893, 7895, 7904, 416, 7897, 7901, 7903, 7883, 7920, 7912, 7914, 7916, 417, 7899, 431]) ++ [192, 193, 194, 195, 7842, 258, 7859, 7861, 200, 201, 202, 7866, 204, 205, 296, 7923, 272, 7913, 210, 211, 212, 7841, 7927, 7915, 7917, 217, 218, 7929, 7925, 221, 7905, 432]) ++ [224, 225, 226, 227, 7843, 259, 7919, 7851, 232, 233, 234, 7867, 236, 237, 297, 7881, 273, 7921, 242, 243, 244, 245, 7887, 7885, 7909, 249, 250, 361, 7911, 253, 7907, 7918])) })]]) (args := []) (r := (.sl (.excl 3) false (eI .i64 ((((((((((out_.set 2 7858).set 5 7860).set 6 7850).set 20 7926).set 25 7928).set 30 7924) ++ [7840, 7854, 7856, 7862, 7844, 7846, 7848, 7852, 7868, 7864, 7870, 7872, 7874, 7876, 7878, 7888, 7890, 7892, 7894, 7896, 7906, 7898, 7900, 7902, 7882, 7886, 7884, 7880, 7910, 360, 7908, 7922]) ++ [213, 7855, 7857, 7863, 7845, 7847, 7849, 7853, 7869, 7865, 7871, 7873, 7875, 7877, 7879, 7889, 7891, 7893, 7895, 7904, 416, 7897, 7901, 7903, 7883, 7920, 7912, 7914, 7916, 417, 7899, 431]) ++ [192, 193, 194, 195, 7842, 258, 7859, 7861, 200, 201, 202, 7866, 204, 205, 296, 7923, 272, 7913, 210, 211, 212, 7841, 7927, 7915, 7917, 217, 218, 7929, 7925, 221, 7905, 432]) ++ [224, 225, 226, 227, 7843, 259, 7919, 7851, 232, 233, 234, 7867, 236, 237, 297, 7881, 273, 7921, 242, 243, 244, 245, 7887, 7885, 7909, 249, 250, 361, 7911, 253, 7907, 7918])))) (ps := [RunsB Try.prog 0 (.loop (sub [1, 1, 0, 1, 0, 0] (fbody Try.f25))) (S_lontarlaw11_Table_L0 ([], 0)) (.exit 0) (X_lontarlaw11_Table_L0_0 out_ c v),
      nthPV (eI .i64 out_) 2 = some [(.lit (.int .i64 x_))],
      (eI .i64 out_)[2]? = some [(.lit (.int .i64 x_))],
      (eI .i64 out_).set 2 (setRange [(.lit (.int .i64 x_))] 0 [(.lit (.int .i64 7858))]) = (eI .i64 (out_.set 2 7858)),
      nthPV (eI .i64 (out_.set 2 7858)) 5 = some [(.lit (.int .i64 x_1))],
      (eI .i64 (out_.set 2 7858))[5]? = some [(.lit (.int .i64 x_1))],
      (eI .i64 (out_.set 2 7858)).set 5 (setRange [(.lit (.int .i64 x_1))] 0 [(.lit (.int .i64 7860))]) = (eI .i64 ((out_.set 2 7858).set 5 7860)),
      nthPV (eI .i64 ((out_.set 2 7858).set 5 7860)) 6 = some [(.lit (.int .i64 x_2))],
      (eI .i64 ((out_.set 2 7858).set 5 7860))[6]? = some [(.lit (.int .i64 x_2))],
      (eI .i64 ((out_.set 2 7858).set 5 7860)).set 6 (setRange [(.lit (.int .i64 x_2))] 0 [(.lit (.int .i64 7850))]) = (eI .i64 (((out_.set 2 7858).set 5 7860).set 6 7850)),
      nthPV (eI .i64 (((out_.set 2 7858).set 5 7860).set 6 7850)) 20 = some [(.lit (.int .i64 x_3))],
      (eI .i64 (((out_.set 2 7858).set 5 7860).set 6 7850))[20]? = some [(.lit (.int .i64 x_3))],
      (eI .i64 (((out_.set 2 7858).set 5 7860).set 6 7850)).set 20 (setRange [(.lit (.int .i64 x_3))] 0 [(.lit (.int .i64 7926))]) = (eI .i64 ((((out_.set 2 7858).set 5 7860).set 6 7850).set 20 7926)),
      nthPV (eI .i64 ((((out_.set 2 7858).set 5 7860).set 6 7850).set 20 7926)) 25 = some [(.lit (.int .i64 x_4))],
      (eI .i64 ((((out_.set 2 7858).set 5 7860).set 6 7850).set 20 7926))[25]? = some [(.lit (.int .i64 x_4))],
      (eI .i64 ((((out_.set 2 7858).set 5 7860).set 6 7850).set 20 7926)).set 25 (setRange [(.lit (.int .i64 x_4))] 0 [(.lit (.int .i64 7928))]) = (eI .i64 (((((out_.set 2 7858).set 5 7860).set 6 7850).set 20 7926).set 25 7928)),
      nthPV (eI .i64 (((((out_.set 2 7858).set 5 7860).set 6 7850).set 20 7926).set 25 7928)) 30 = some [(.lit (.int .i64 x_5))],
      (eI .i64 (((((out_.set 2 7858).set 5 7860).set 6 7850).set 20 7926).set 25 7928))[30]? = some [(.lit (.int .i64 x_5))],
      (eI .i64 (((((out_.set 2 7858).set 5 7860).set 6 7850).set 20 7926).set 25 7928)).set 30 (setRange [(.lit (.int .i64 x_5))] 0 [(.lit (.int .i64 7924))]) = (eI .i64 ((((((out_.set 2 7858).set 5 7860).set 6 7850).set 20 7926).set 25 7928).set 30 7924)),
      (List.length (eI .i64 ((((((out_.set 2 7858).set 5 7860).set 6 7850).set 20 7926).set 25 7928).set 30 7924)) + List.length (eI .i64 [7840, 7854, 7856, 7862, 7844, 7846, 7848, 7852, 7868, 7864, 7870, 7872, 7874, 7876, 7878, 7888, 7890, 7892, 7894, 7896, 7906, 7898, 7900, 7902, 7882, 7886, 7884, 7880, 7910, 360, 7908, 7922])) * 8 ≤ 2 ^ 46,
      (eI .i64 [7840, 7854, 7856, 7862, 7844, 7846, 7848, 7852, 7868, 7864, 7870, 7872, 7874, 7876, 7878, 7888, 7890, 7892, 7894, 7896, 7906, 7898, 7900, 7902, 7882, 7886, 7884, 7880, 7910, 360, 7908, 7922]).all (fun c => c.length = 1 && c.all PV.one) = true,
      (eI .i64 ((((((out_.set 2 7858).set 5 7860).set 6 7850).set 20 7926).set 25 7928).set 30 7924)) ++ (eI .i64 [7840, 7854, 7856, 7862, 7844, 7846, 7848, 7852, 7868, 7864, 7870, 7872, 7874, 7876, 7878, 7888, 7890, 7892, 7894, 7896, 7906, 7898, 7900, 7902, 7882, 7886, 7884, 7880, 7910, 360, 7908, 7922]) = (eI .i64 (((((((out_.set 2 7858).set 5 7860).set 6 7850).set 20 7926).set 25 7928).set 30 7924) ++ [7840, 7854, 7856, 7862, 7844, 7846, 7848, 7852, 7868, 7864, 7870, 7872, 7874, 7876, 7878, 7888, 7890, 7892, 7894, 7896, 7906, 7898, 7900, 7902, 7882, 7886, 7884, 7880, 7910, 360, 7908, 7922])),
      (List.length (eI .i64 (((((((out_.set 2 7858).set 5 7860).set 6 7850).set 20 7926).set 25 7928).set 30 7924) ++ [7840, 7854, 7856, 7862, 7844, 7846, 7848, 7852, 7868, 7864, 7870, 7872, 7874, 7876, 7878, 7888, 7890, 7892, 7894, 7896, 7906, 7898, 7900, 7902, 7882, 7886, 7884, 7880, 7910, 360, 7908, 7922])) + List.length (eI .i64 [213, 7855, 7857, 7863, 7845, 7847, 7849, 7853, 7869, 7865, 7871, 7873, 7875, 7877, 7879, 7889, 7891, 7893, 7895, 7904, 416, 7897, 7901, 7903, 7883, 7920, 7912, 7914, 7916, 417, 7899, 431])) * 8 ≤ 2 ^ 46,
      (eI .i64 [213, 7855, 7857, 7863, 7845, 7847, 7849, 7853, 7869, 7865, 7871, 7873, 7875, 7877, 7879, 7889, 7891, 7893, 7895, 7904, 416, 7897, 7901, 7903, 7883, 7920, 7912, 7914, 7916, 417, 7899, 431]).all (fun c => c.length = 1 && c.all PV.one) = true,
      (eI .i64 (((((((out_.set 2 7858).set 5 7860).set 6 7850).set 20 7926).set 25 7928).set 30 7924) ++ [7840, 7854, 7856, 7862, 7844, 7846, 7848, 7852, 7868, 7864, 7870, 7872, 7874, 7876, 7878, 7888, 7890, 7892, 7894, 7896, 7906, 7898, 7900, 7902, 7882, 7886, 7884, 7880, 7910, 360, 7908, 7922])) ++ (eI .i64 [213, 7855, 7857, 7863, 7845, 7847, 7849, 7853, 7869, 7865, 7871, 7873, 7875, 7877, 7879, 7889, 7891, 7893, 7895, 7904, 416, 7897, 7901, 7903, 7883, 7920, 7912, 7914, 7916, 417, 7899, 431]) = (eI .i64 ((((((((out_.set 2 7858).set 5 7860).set 6 7850).set 20 7926).set 25 7928).set 30 7924) ++ [7840, 7854, 7856, 7862, 7844, 7846, 7848, 7852, 7868, 7864, 7870, 7872, 7874, 7876, 7878, 7888, 7890, 7892, 7894, 7896, 7906, 7898, 7900, 7902, 7882, 7886, 7884, 7880, 7910, 360, 7908, 7922]) ++ [213, 7855, 7857, 7863, 7845, 7847, 7849, 7853, 7869, 7865, 7871, 7873, 7875, 7877, 7879, 7889, 7891, 7893, 7895, 7904, 416, 7897, 7901, 7903, 7883, 7920, 7912, 7914, 7916, 417, 7899, 431])),
      (List.length (eI .i64 ((((((((out_.set 2 7858).set 5 7860).set 6 7850).set 20 7926).set 25 7928).set 30 7924) ++ [7840, 7854, 7856, 7862, 7844, 7846, 7848, 7852, 7868, 7864, 7870, 7872, 7874, 7876, 7878, 7888, 7890, 7892, 7894, 7896, 7906, 7898, 7900, 7902, 7882, 7886, 7884, 7880, 7910, 360, 7908, 7922]) ++ [213, 7855, 7857, 7863, 7845, 7847, 7849, 7853, 7869, 7865, 7871, 7873, 7875, 7877, 7879, 7889, 7891, 7893, 7895, 7904, 416, 7897, 7901, 7903, 7883, 7920, 7912, 7914, 7916, 417, 7899, 431])) + List.length (eI .i64 [192, 193, 194, 195, 7842, 258, 7859, 7861, 200, 201, 202, 7866, 204, 205, 296, 7923, 272, 7913, 210, 211, 212, 7841, 7927, 7915, 7917, 217, 218, 7929, 7925, 221, 7905, 432])) * 8 ≤ 2 ^ 46,
      (eI .i64 [192, 193, 194, 195, 7842, 258, 7859, 7861, 200, 201, 202, 7866, 204, 205, 296, 7923, 272, 7913, 210, 211, 212, 7841, 7927, 7915, 7917, 217, 218, 7929, 7925, 221, 7905, 432]).all (fun c => c.length = 1 && c.all PV.one) = true,
      (eI .i64 ((((((((out_.set 2 7858).set 5 7860).set 6 7850).set 20 7926).set 25 7928).set 30 7924) ++ [7840, 7854, 7856, 7862, 7844, 7846, 7848, 7852, 7868, 7864, 7870, 7872, 7874, 7876, 7878, 7888, 7890, 7892, 7894, 7896, 7906, 7898, 7900, 7902, 7882, 7886, 7884, 7880, 7910, 360, 7908, 7922]) ++ [213, 7855, 7857, 7863, 7845, 7847, 7849, 7853, 7869, 7865, 7871, 7873, 7875, 7877, 7879, 7889, 7891, 7893, 7895, 7904, 416, 7897, 7901, 7903, 7883, 7920, 7912, 7914, 7916, 417, 7899, 431])) ++ (eI .i64 [192, 193, 194, 195, 7842, 258, 7859, 7861, 200, 201, 202, 7866, 204, 205, 296, 7923, 272, 7913, 210, 211, 212, 7841, 7927, 7915, 7917, 217, 218, 7929, 7925, 221, 7905, 432]) = (eI .i64 (((((((((out_.set 2 7858).set 5 7860).set 6 7850).set 20 7926).set 25 7928).set 30 7924) ++ [7840, 7854, 7856, 7862, 7844, 7846, 7848, 7852, 7868, 7864, 7870, 7872, 7874, 7876, 7878, 7888, 7890, 7892, 7894, 7896, 7906, 7898, 7900, 7902, 7882, 7886, 7884, 7880, 7910, 360, 7908, 7922]) ++ [213, 7855, 7857, 7863, 7845, 7847, 7849, 7853, 7869, 7865, 7871, 7873, 7875, 7877, 7879, 7889, 7891, 7893, 7895, 7904, 416, 7897, 7901, 7903, 7883, 7920, 7912, 7914, 7916, 417, 7899, 431]) ++ [192, 193, 194, 195, 7842, 258, 7859, 7861, 200, 201, 202, 7866, 204, 205, 296, 7923, 272, 7913, 210, 211, 212, 7841, 7927, 7915, 7917, 217, 218, 7929, 7925, 221, 7905, 432])),
      (List.length (eI .i64 (((((((((out_.set 2 7858).set 5 7860).set 6 7850).set 20 7926).set 25 7928).set 30 7924) ++ [7840, 7854, 7856, 7862, 7844, 7846, 7848, 7852, 7868, 7864, 7870, 7872, 7874, 7876, 7878, 7888, 7890, 7892, 7894, 7896, 7906, 7898, 7900, 7902, 7882, 7886, 7884, 7880, 7910, 360, 7908, 7922]) ++ [213, 7855, 7857, 7863, 7845, 7847, 7849, 7853, 7869, 7865, 7871, 7873, 7875, 7877, 7879, 7889, 7891, 7893, 7895, 7904, 416, 7897, 7901, 7903, 7883, 7920, 7912, 7914, 7916, 417, 7899, 431]) ++ [192, 193, 194, 195, 7842, 258, 7859, 7861, 200, 201, 202, 7866, 204, 205, 296, 7923, 272, 7913, 210, 211, 212, 7841, 7927, 7915, 7917, 217, 218, 7929, 7925, 221, 7905, 432])) + List.length (eI .i64 [224, 225, 226, 227, 7843, 259, 7919, 7851, 232, 233, 234, 7867, 236, 237, 297, 7881, 273, 7921, 242, 243, 244, 245, 7887, 7885, 7909, 249, 250, 361, 7911, 253, 7907, 7918])) * 8 ≤ 2 ^ 46,
      (eI .i64 [224, 225, 226, 227, 7843, 259, 7919, 7851, 232, 233, 234, 7867, 236, 237, 297, 7881, 273, 7921, 242, 243, 244, 245, 7887, 7885, 7909, 249, 250, 361, 7911, 253, 7907, 7918]).all (fun c => c.length = 1 && c.all PV.one) = true,
      (eI .i64 (((((((((out_.set 2 7858).set 5 7860).set 6 7850).set 20 7926).set 25 7928).set 30 7924) ++ [7840, 7854, 7856, 7862, 7844, 7846, 7848, 7852, 7868, 7864, 7870, 7872, 7874, 7876, 7878, 7888, 7890, 7892, 7894, 7896, 7906, 7898, 7900, 7902, 7882, 7886, 7884, 7880, 7910, 360, 7908, 7922]) ++ [213, 7855, 7857, 7863, 7845, 7847, 7849, 7853, 7869, 7865, 7871, 7873, 7875, 7877, 7879, 7889, 7891, 7893, 7895, 7904, 416, 7897, 7901, 7903, 7883, 7920, 7912, 7914, 7916, 417, 7899, 431]) ++ [192, 193, 194, 195, 7842, 258, 7859, 7861, 200, 201, 202, 7866, 204, 205, 296, 7923, 272, 7913, 210, 211, 212, 7841, 7927, 7915, 7917, 217, 218, 7929, 7925, 221, 7905, 432])) ++ (eI .i64 [224, 225, 226, 227, 7843, 259, 7919, 7851, 232, 233, 234, 7867, 236, 237, 297, 7881, 273, 7921, 242, 243, 244, 245, 7887, 7885, 7909, 249, 250, 361, 7911, 253, 7907, 7918]) = (eI .i64 ((((((((((out_.set 2 7858).set 5 7860).set 6 7850).set 20 7926).set 25 7928).set 30 7924) ++ [7840, 7854, 7856, 7862, 7844, 7846, 7848, 7852, 7868, 7864, 7870, 7872, 7874, 7876, 7878, 7888, 7890, 7892, 7894, 7896, 7906, 7898, 7900, 7902, 7882, 7886, 7884, 7880, 7910, 360, 7908, 7922]) ++ [213, 7855, 7857, 7863, 7845, 7847, 7849, 7853, 7869, 7865, 7871, 7873, 7875, 7877, 7879, 7889, 7891, 7893, 7895, 7904, 416, 7897, 7901, 7903, 7883, 7920, 7912, 7914, 7916, 417, 7899, 431]) ++ [192, 193, 194, 195, 7842, 258, 7859, 7861, 200, 201, 202, 7866, 204, 205, 296, 7923, 272, 7913, 210, 211, 212, 7841, 7927, 7915, 7917, 217, 218, 7929, 7925, 221, 7905, 432]) ++ [224, 225, 226, 227, 7843, 259, 7919, 7851, 232, 233, 234, 7867, 236, 237, 297, 7881, 273, 7921, 242, 243, 244, 245, 7887, 7885, 7909, 249, 250, 361, 7911, 253, 7907, 7918]))]) (by kernel_rfl)
    ⟨hl_l8, (nth_map _ h_x_), (nthPV_eq (nth_map _ h_x_)).2, (set_map _ _ _ _), (nth_map _ h_x_1), (nthPV_eq (nth_map _ h_x_1)).2, (set_map _ _ _ _), (nth_map _ h_x_2), (nthPV_eq (nth_map _ h_x_2)).2, (set_map _ _ _ _), (nth_map _ h_x_3), (nthPV_eq (nth_map _ h_x_3)).2, (set_map _ _ _ _), (nth_map _ h_x_4), (nthPV_eq (nth_map _ h_x_4)).2, (set_map _ _ _ _), (nth_map _ h_x_5), (nthPV_eq (nth_map _ h_x_5)).2, (set_map _ _ _ _), (len_map2 hg9), (all_map (fun _ => rfl) _), (List.map_append).symm, (len_map2 hg10), (all_map (fun _ => rfl) _), (List.map_append).symm, (len_map2 hg11), (all_map (fun _ => rfl) _), (List.map_append).symm, (len_map2 hg12), (all_map (fun _ => rfl) _), (List.map_append).symm, trivial⟩
theorem call_lontarlaw11_Table {r} (h : lontarlaw11_Table = some r) (kp : Bool) (σ : List Bx) : CallK Try.prog kp 25 [] σ (.sl (.excl 3) false (eI .i64 r)) σ :=
  (knows_lontarlaw11_Table h).call rfl rfl kp σ

def h23 : Nat → Option Hint
| 0 => some { keep := [] }
| 1 => some { keep := [1, 2] }
| 2 => some { keep := [1, 2, 4] }
| 3 => some { keep := [0] }
| _ => none

noncomputable def C23 : Ctx := { P := Try.prog, mv := fun _ _ => false, res := resOf Try.f23, live := h23, call := fun _ _ _ => none }

set_option maxRecDepth 100000 in
theorem knows_lontarlaw11_awake {r} (h : lontarlaw11_awake = some r) : Knows Try.prog 23 [] (.lit (.bool r)) := by
  unfold lontarlaw11_awake at h
  obtain ⟨q, h_q, h⟩ := Option.bind_eq_some_iff.1 h
  obtain ⟨q1, h_q1, h⟩ := Option.bind_eq_some_iff.1 h
  obtain ⟨q2, h_q2, h⟩ := Option.bind_eq_some_iff.1 h
  rcases ite_some h with ⟨hc1, h⟩ | ⟨hc1, h⟩
  · obtain ⟨q3, h_q3, h⟩ := Option.bind_eq_some_iff.1 h
    rcases ite_some h with ⟨hc2, h⟩ | ⟨hc2, h⟩
    · obtain ⟨q4, h_q4, h⟩ := Option.bind_eq_some_iff.1 h
      rcases ite_some h with ⟨hc3, h⟩ | ⟨hc3, h⟩
      · rcases ite_some h with ⟨hc4, h⟩ | ⟨hc4, h⟩
        · rcases ite_some h with ⟨hc5, h⟩ | ⟨hc5, h⟩
          · rcases ite_some h with ⟨hc6, h⟩ | ⟨hc6, h⟩
            · injection h with h; subst h
              exact Knows.of (C := C23) wf Try.func23 (cs := [.reg 1 [(0, { it := .res (.tup [(.lit (.int .u8 q.1)), (.lit (.bool q.2))]) [] [] })], .reg 2 [(0, { it := .res (.tup [(.lit (.int .u8 q1.1)), (.lit (.bool q1.2))]) [] [] })], .reg 3 [(0, { it := .res (.lit (.int .i64 q2)) [] [] }), (3, { it := .res (.lit (.int .i64 q3)) [] [], w := some true }), (4, { w := some true }), (5, { it := .b true }), (7, { it := .res (.lit (.int .i64 q4)) [] [], w := some true }), (8, { w := some true }), (9, { it := .b true }), (11, { w := some true }), (12, { it := .b true }), (14, { w := some true }), (15, { w := some true }), (16, { it := .b true }), (18, { w := some true }), (19, { w := some true }), (20, { it := .b true }), (22, { w := some false }), (23, { w := some false }), (24, { w := some false }), (25, { it := .b false })]]) (args := []) (r := (.lit (.bool false))) (ps := [CallK Try.prog false 26 [(.lit (.int .i64 7871))] [] (.tup [(.lit (.int .u8 q.1)), (.lit (.bool q.2))]) [],
                  CallK Try.prog false 26 [(.lit (.int .i64 2))] [] (.tup [(.lit (.int .u8 q1.1)), (.lit (.bool q1.2))]) [],
                  CallK Try.prog false 24 [(.lit (.int .u8 128))] [] (.lit (.int .i64 q2)) [],
                  (q2 == 7840) = true,
                  CallK Try.prog false 24 [(.lit (.int .u8 255))] [] (.lit (.int .i64 q3)) [],
                  (q2 == 7840) = true,
                  (q2 == 7840) = true,
                  (q3 == 7918) = true,
                  CallK Try.prog false 24 [(.lit (.int .u8 97))] [] (.lit (.int .i64 q4)) [],
                  (q3 == 7918) = true,
                  (q3 == 7918) = true,
                  (q4 == 97) = true,
                  (q4 == 97) = true,
                  q.2 = true,
                  q.2 = true,
                  q.2 = true,
                  (q.1 == 170) = true,
                  (q.1 == 170) = true,
                  (q.1 == 170) = true,
                  (!q1.2) = false,
                  (!q1.2) = false,
                  (!q1.2) = false,
                  (!q1.2) = false]) (by kernel_rfl)
                ⟨(call_viscii_Encode h_q _ _), (call_viscii_Encode h_q1 _ _), (call_viscii_Decode h_q2 _ _), (beq_iff_eq.2 hc1), (call_viscii_Decode h_q3 _ _), (beq_iff_eq.2 hc1), (beq_iff_eq.2 hc1), (beq_iff_eq.2 hc2), (call_viscii_Decode h_q4 _ _), (beq_iff_eq.2 hc2), (beq_iff_eq.2 hc2), (beq_iff_eq.2 hc3), (beq_iff_eq.2 hc3), hc4, hc4, hc4, (beq_iff_eq.2 hc5), (beq_iff_eq.2 hc5), (beq_iff_eq.2 hc5), (not_f hc6), (not_f hc6), (not_f hc6), (not_f hc6), trivial⟩
            · obtain ⟨q5, h_q5, h⟩ := Option.bind_eq_some_iff.1 h
              injection h with h; subst h
              exact Knows.of (C := C23) wf Try.func23 (cs := [.reg 1 [(0, { it := .res (.tup [(.lit (.int .u8 q.1)), (.lit (.bool q.2))]) [] [] })], .reg 2 [(0, { it := .res (.tup [(.lit (.int .u8 q1.1)), (.lit (.bool q1.2))]) [] [] })], .reg 3 [(0, { it := .res (.lit (.int .i64 q2)) [] [] }), (3, { it := .res (.lit (.int .i64 q3)) [] [], w := some true }), (4, { w := some true }), (5, { it := .b true }), (7, { it := .res (.lit (.int .i64 q4)) [] [], w := some true }), (8, { w := some true }), (9, { it := .b true }), (11, { w := some true }), (12, { it := .b true }), (14, { w := some true }), (15, { w := some true }), (16, { it := .b true }), (18, { w := some true }), (19, { w := some true }), (20, { it := .b true }), (22, { it := .res (.sl (.excl 33) false (List.map GApiRule.c q5)) [] [], w := some true }), (23, { it := .val (.int .i64 (q5.length : Int)), w := some true }), (24, { w := some true }), (25, { it := .b true })]]) (args := []) (r := (.lit (.bool ((q5.length : Int) == 256)))) (ps := [CallK Try.prog false 26 [(.lit (.int .i64 7871))] [] (.tup [(.lit (.int .u8 q.1)), (.lit (.bool q.2))]) [],
                  CallK Try.prog false 26 [(.lit (.int .i64 2))] [] (.tup [(.lit (.int .u8 q1.1)), (.lit (.bool q1.2))]) [],
                  CallK Try.prog false 24 [(.lit (.int .u8 128))] [] (.lit (.int .i64 q2)) [],
                  (q2 == 7840) = true,
                  CallK Try.prog false 24 [(.lit (.int .u8 255))] [] (.lit (.int .i64 q3)) [],
                  (q2 == 7840) = true,
                  (q2 == 7840) = true,
                  (q3 == 7918) = true,
                  CallK Try.prog false 24 [(.lit (.int .u8 97))] [] (.lit (.int .i64 q4)) [],
                  (q3 == 7918) = true,
                  (q3 == 7918) = true,
                  (q4 == 97) = true,
                  (q4 == 97) = true,
                  q.2 = true,
                  q.2 = true,
                  q.2 = true,
                  (q.1 == 170) = true,
                  (q.1 == 170) = true,
                  (q.1 == 170) = true,
                  (!q1.2) = true,
                  CallK Try.prog false 27 [] [] (.sl (.excl 33) false (List.map GApiRule.c q5)) [],
                  (!q1.2) = true,
                  Value.int .i64 (↑(List.length (List.map GApiRule.c q5)) : Int) = .int .i64 (q5.length : Int),
                  (!q1.2) = true,
                  (!q1.2) = true]) (by kernel_rfl)
                ⟨(call_viscii_Encode h_q _ _), (call_viscii_Encode h_q1 _ _), (call_viscii_Decode h_q2 _ _), (beq_iff_eq.2 hc1), (call_viscii_Decode h_q3 _ _), (beq_iff_eq.2 hc1), (beq_iff_eq.2 hc1), (beq_iff_eq.2 hc2), (call_viscii_Decode h_q4 _ _), (beq_iff_eq.2 hc2), (beq_iff_eq.2 hc2), (beq_iff_eq.2 hc3), (beq_iff_eq.2 hc3), hc4, hc4, hc4, (beq_iff_eq.2 hc5), (beq_iff_eq.2 hc5), (beq_iff_eq.2 hc5), (not_t (Bool.eq_false_iff.2 hc6)), (call_viscii_Rules h_q5 _ _), (not_t (Bool.eq_false_iff.2 hc6)), (len_val _ _), (not_t (Bool.eq_false_iff.2 hc6)), (not_t (Bool.eq_false_iff.2 hc6)), trivial⟩
          · injection h with h; subst h
            exact Knows.of (C := C23) wf Try.func23 (cs := [.reg 1 [(0, { it := .res (.tup [(.lit (.int .u8 q.1)), (.lit (.bool q.2))]) [] [] })], .reg 2 [(0, { it := .res (.tup [(.lit (.int .u8 q1.1)), (.lit (.bool q1.2))]) [] [] })], .reg 3 [(0, { it := .res (.lit (.int .i64 q2)) [] [] }), (3, { it := .res (.lit (.int .i64 q3)) [] [], w := some true }), (4, { w := some true }), (5, { it := .b true }), (7, { it := .res (.lit (.int .i64 q4)) [] [], w := some true }), (8, { w := some true }), (9, { it := .b true }), (11, { w := some true }), (12, { it := .b true }), (14, { w := some true }), (15, { w := some true }), (16, { it := .b true }), (18, { w := some false }), (19, { w := some false }), (20, { it := .b false }), (22, { w := some false }), (23, { w := some false }), (24, { w := some false }), (25, { it := .b false })]]) (args := []) (r := (.lit (.bool false))) (ps := [CallK Try.prog false 26 [(.lit (.int .i64 7871))] [] (.tup [(.lit (.int .u8 q.1)), (.lit (.bool q.2))]) [],
                CallK Try.prog false 26 [(.lit (.int .i64 2))] [] (.tup [(.lit (.int .u8 q1.1)), (.lit (.bool q1.2))]) [],
                CallK Try.prog false 24 [(.lit (.int .u8 128))] [] (.lit (.int .i64 q2)) [],
                (q2 == 7840) = true,
                CallK Try.prog false 24 [(.lit (.int .u8 255))] [] (.lit (.int .i64 q3)) [],
                (q2 == 7840) = true,
                (q2 == 7840) = true,
                (q3 == 7918) = true,
                CallK Try.prog false 24 [(.lit (.int .u8 97))] [] (.lit (.int .i64 q4)) [],
                (q3 == 7918) = true,
                (q3 == 7918) = true,
                (q4 == 97) = true,
                (q4 == 97) = true,
                q.2 = true,
                q.2 = true,
                q.2 = true,
                (q.1 == 170) = false,
                (q.1 == 170) = false,
                (q.1 == 170) = false,
                false = false,
                false = false,
                false = false,
                false = false]) (by kernel_rfl)
              ⟨(call_viscii_Encode h_q _ _), (call_viscii_Encode h_q1 _ _), (call_viscii_Decode h_q2 _ _), (beq_iff_eq.2 hc1), (call_viscii_Decode h_q3 _ _), (beq_iff_eq.2 hc1), (beq_iff_eq.2 hc1), (beq_iff_eq.2 hc2), (call_viscii_Decode h_q4 _ _), (beq_iff_eq.2 hc2), (beq_iff_eq.2 hc2), (beq_iff_eq.2 hc3), (beq_iff_eq.2 hc3), hc4, hc4, hc4, (beq_eq_false_iff_ne.2 hc5), (beq_eq_false_iff_ne.2 hc5), (beq_eq_false_iff_ne.2 hc5), rfl, rfl, rfl, rfl, trivial⟩
        · injection h with h; subst h
          exact Knows.of (C := C23) wf Try.func23 (cs := [.reg 1 [(0, { it := .res (.tup [(.lit (.int .u8 q.1)), (.lit (.bool q.2))]) [] [] })], .reg 2 [(0, { it := .res (.tup [(.lit (.int .u8 q1.1)), (.lit (.bool q1.2))]) [] [] })], .reg 3 [(0, { it := .res (.lit (.int .i64 q2)) [] [] }), (3, { it := .res (.lit (.int .i64 q3)) [] [], w := some true }), (4, { w := some true }), (5, { it := .b true }), (7, { it := .res (.lit (.int .i64 q4)) [] [], w := some true }), (8, { w := some true }), (9, { it := .b true }), (11, { w := some true }), (12, { it := .b true }), (14, { w := some false }), (15, { w := some false }), (16, { it := .b false }), (18, { w := some false }), (19, { w := some false }), (20, { it := .b false }), (22, { w := some false }), (23, { w := some false }), (24, { w := some false }), (25, { it := .b false })]]) (args := []) (r := (.lit (.bool false))) (ps := [CallK Try.prog false 26 [(.lit (.int .i64 7871))] [] (.tup [(.lit (.int .u8 q.1)), (.lit (.bool q.2))]) [],
              CallK Try.prog false 26 [(.lit (.int .i64 2))] [] (.tup [(.lit (.int .u8 q1.1)), (.lit (.bool q1.2))]) [],
              CallK Try.prog false 24 [(.lit (.int .u8 128))] [] (.lit (.int .i64 q2)) [],
              (q2 == 7840) = true,
              CallK Try.prog false 24 [(.lit (.int .u8 255))] [] (.lit (.int .i64 q3)) [],
              (q2 == 7840) = true,
              (q2 == 7840) = true,
              (q3 == 7918) = true,
              CallK Try.prog false 24 [(.lit (.int .u8 97))] [] (.lit (.int .i64 q4)) [],
              (q3 == 7918) = true,
              (q3 == 7918) = true,
              (q4 == 97) = true,
              (q4 == 97) = true,
              q.2 = false,
              q.2 = false,
              q.2 = false,
              false = false,
              false = false,
              false = false,
              false = false,
              false = false,
              false = false,
              false = false]) (by kernel_rfl)
            ⟨(call_viscii_Encode h_q _ _), (call_viscii_Encode h_q1 _ _), (call_viscii_Decode h_q2 _ _), (beq_iff_eq.2 hc1), (call_viscii_Decode h_q3 _ _), (beq_iff_eq.2 hc1), (beq_iff_eq.2 hc1), (beq_iff_eq.2 hc2), (call_viscii_Decode h_q4 _ _), (beq_iff_eq.2 hc2), (beq_iff_eq.2 hc2), (beq_iff_eq.2 hc3), (beq_iff_eq.2 hc3), (Bool.eq_false_iff.2 hc4), (Bool.eq_false_iff.2 hc4), (Bool.eq_false_iff.2 hc4), rfl, rfl, rfl, rfl, rfl, rfl, rfl, trivial⟩
      · injection h with h; subst h
        exact Knows.of (C := C23) wf Try.func23 (cs := [.reg 1 [(0, { it := .res (.tup [(.lit (.int .u8 q.1)), (.lit (.bool q.2))]) [] [] })], .reg 2 [(0, { it := .res (.tup [(.lit (.int .u8 q1.1)), (.lit (.bool q1.2))]) [] [] })], .reg 3 [(0, { it := .res (.lit (.int .i64 q2)) [] [] }), (3, { it := .res (.lit (.int .i64 q3)) [] [], w := some true }), (4, { w := some true }), (5, { it := .b true }), (7, { it := .res (.lit (.int .i64 q4)) [] [], w := some true }), (8, { w := some true }), (9, { it := .b true }), (11, { w := some false }), (12, { it := .b false }), (14, { w := some false }), (15, { w := some false }), (16, { it := .b false }), (18, { w := some false }), (19, { w := some false }), (20, { it := .b false }), (22, { w := some false }), (23, { w := some false }), (24, { w := some false }), (25, { it := .b false })]]) (args := []) (r := (.lit (.bool false))) (ps := [CallK Try.prog false 26 [(.lit (.int .i64 7871))] [] (.tup [(.lit (.int .u8 q.1)), (.lit (.bool q.2))]) [],
            CallK Try.prog false 26 [(.lit (.int .i64 2))] [] (.tup [(.lit (.int .u8 q1.1)), (.lit (.bool q1.2))]) [],
            CallK Try.prog false 24 [(.lit (.int .u8 128))] [] (.lit (.int .i64 q2)) [],
            (q2 == 7840) = true,
            CallK Try.prog false 24 [(.lit (.int .u8 255))] [] (.lit (.int .i64 q3)) [],
            (q2 == 7840) = true,
            (q2 == 7840) = true,
            (q3 == 7918) = true,
            CallK Try.prog false 24 [(.lit (.int .u8 97))] [] (.lit (.int .i64 q4)) [],
            (q3 == 7918) = true,
            (q3 == 7918) = true,
            (q4 == 97) = false,
            (q4 == 97) = false,
            false = false,
            false = false,
            false = false,
            false = false,
            false = false,
            false = false,
            false = false,
            false = false,
            false = false,
            false = false]) (by kernel_rfl)
          ⟨(call_viscii_Encode h_q _ _), (call_viscii_Encode h_q1 _ _), (call_viscii_Decode h_q2 _ _), (beq_iff_eq.2 hc1), (call_viscii_Decode h_q3 _ _), (beq_iff_eq.2 hc1), (beq_iff_eq.2 hc1), (beq_iff_eq.2 hc2), (call_viscii_Decode h_q4 _ _), (beq_iff_eq.2 hc2), (beq_iff_eq.2 hc2), (beq_eq_false_iff_ne.2 hc3), (beq_eq_false_iff_ne.2 hc3), rfl, rfl, rfl, rfl, rfl, rfl, rfl, rfl, rfl, rfl, trivial⟩
    · injection h with h; subst h
      exact Knows.of (C := C23) wf Try.func23 (cs := [.reg 1 [(0, { it := .res (.tup [(.lit (.int .u8 q.1)), (.lit (.bool q.2))]) [] [] })], .reg 2 [(0, { it := .res (.tup [(.lit (.int .u8 q1.1)), (.lit (.bool q1.2))]) [] [] })], .reg 3 [(0, { it := .res (.lit (.int .i64 q2)) [] [] }), (3, { it := .res (.lit (.int .i64 q3)) [] [], w := some true }), (4, { w := some true }), (5, { it := .b true }), (7, { w := some false }), (8, { w := some false }), (9, { it := .b false }), (11, { w := some false }), (12, { it := .b false }), (14, { w := some false }), (15, { w := some false }), (16, { it := .b false }), (18, { w := some false }), (19, { w := some false }), (20, { it := .b false }), (22, { w := some false }), (23, { w := some false }), (24, { w := some false }), (25, { it := .b false })]]) (args := []) (r := (.lit (.bool false))) (ps := [CallK Try.prog false 26 [(.lit (.int .i64 7871))] [] (.tup [(.lit (.int .u8 q.1)), (.lit (.bool q.2))]) [],
          CallK Try.prog false 26 [(.lit (.int .i64 2))] [] (.tup [(.lit (.int .u8 q1.1)), (.lit (.bool q1.2))]) [],
          CallK Try.prog false 24 [(.lit (.int .u8 128))] [] (.lit (.int .i64 q2)) [],
          (q2 == 7840) = true,
          CallK Try.prog false 24 [(.lit (.int .u8 255))] [] (.lit (.int .i64 q3)) [],
          (q2 == 7840) = true,
          (q2 == 7840) = true,
          (q3 == 7918) = false,
          (q3 == 7918) = false,
          (q3 == 7918) = false,
          false = false,
          false = false,
          false = false,
          false = false,
          false = false,
          false = false,
          false = false,
          false = false,
          false = false,
          false = false,
          false = false,
          false = false]) (by kernel_rfl)
        ⟨(call_viscii_Encode h_q _ _), (call_viscii_Encode h_q1 _ _), (call_viscii_Decode h_q2 _ _), (beq_iff_eq.2 hc1), (call_viscii_Decode h_q3 _ _), (beq_iff_eq.2 hc1), (beq_iff_eq.2 hc1), (beq_eq_false_iff_ne.2 hc2), (beq_eq_false_iff_ne.2 hc2), (beq_eq_false_iff_ne.2 hc2), rfl, rfl, rfl, rfl, rfl, rfl, rfl, rfl, rfl, rfl, rfl, rfl, trivial⟩
  · injection h with h; subst h
    exact Knows.of (C := C23) wf Try.func23 (cs := [.reg 1 [(0, { it := .res (.tup [(.lit (.int .u8 q.1)), (.lit (.bool q.2))]) [] [] })], .reg 2 [(0, { it := .res (.tup [(.lit (.int .u8 q1.1)), (.lit (.bool q1.2))]) [] [] })], .reg 3 [(0, { it := .res (.lit (.int .i64 q2)) [] [] }), (3, { w := some false }), (4, { w := some false }), (5, { it := .b false }), (7, { w := some false }), (8, { w := some false }), (9, { it := .b false }), (11, { w := some false }), (12, { it := .b false }), (14, { w := some false }), (15, { w := some false }), (16, { it := .b false }), (18, { w := some false }), (19, { w := some false }), (20, { it := .b false }), (22, { w := some false }), (23, { w := some false }), (24, { w := some false }), (25, { it := .b false })]]) (args := []) (r := (.lit (.bool false))) (ps := [CallK Try.prog false 26 [(.lit (.int .i64 7871))] [] (.tup [(.lit (.int .u8 q.1)), (.lit (.bool q.2))]) [],
        CallK Try.prog false 26 [(.lit (.int .i64 2))] [] (.tup [(.lit (.int .u8 q1.1)), (.lit (.bool q1.2))]) [],
        CallK Try.prog false 24 [(.lit (.int .u8 128))] [] (.lit (.int .i64 q2)) [],
        (q2 == 7840) = false,
        (q2 == 7840) = false,
        (q2 == 7840) = false,
        false = false,
        false = false,
        false = false,
        false = false,
        false = false,
        false = false,
        false = false,
        false = false,
        false = false,
        false = false,
        false = false,
        false = false,
        false = false,
        false = false,
        false = false]) (by kernel_rfl)
      ⟨(call_viscii_Encode h_q _ _), (call_viscii_Encode h_q1 _ _), (call_viscii_Decode h_q2 _ _), (beq_eq_false_iff_ne.2 hc1), (beq_eq_false_iff_ne.2 hc1), (beq_eq_false_iff_ne.2 hc1), rfl, rfl, rfl, rfl, rfl, rfl, rfl, rfl, rfl, rfl, rfl, rfl, rfl, rfl, rfl, trivial⟩
theorem call_lontarlaw11_awake {r} (h : lontarlaw11_awake = some r) (kp : Bool) (σ : List Bx) : CallK Try.prog kp 23 [] σ (.lit (.bool r)) σ :=
  (knows_lontarlaw11_awake h).call rfl rfl kp σ
end Go.Proofs.Ytpbbgkmpjcddbaa
