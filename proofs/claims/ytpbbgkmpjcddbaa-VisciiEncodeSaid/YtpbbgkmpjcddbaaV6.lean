/- The texts of VISCII: the statement on Encode. -/
import Derived.Test.YtpbbgkmpjcddbaaV5
import Derived.Test.YtpbbgkmpjcddbaaT1
set_option linter.all false
namespace Go.Proofs.Ytpbbgkmpjcddbaa
open Go.AM

theorem tab_len : (rowPV .i64 decL).length = 256 := by kernel_rfl
theorem tab_get {c : Nat} (h : c < (rowPV .i64 decL).length) : (rowPV .i64 decL)[c] = [.lit (.int .i64 (decS c))] := by
  have hl : c < decL.length := by simpa [rowPV] using h
  simp [rowPV, decS, List.getD_eq_getElem?_getD, List.getElem?_eq_getElem hl]

/-- What the law's own search finds: the last byte of the table whose scalar it is. -/
def lastFrom (x : Int) : Nat → Nat → Int × Bool → Int × Bool
  | 0, _, r => r
  | k + 1, c, r => lastFrom x k (c + 1) (if decS c = x then ((c : Int), true) else r)
theorem lastFrom_eq (x : Int) : ∀ (k c : Nat) (r : Int × Bool), c + k = 256 → lastFrom x k c r = match encFrom x k c with | some d => ((d : Int), true) | none => r := by
  intro k
  induction k with
  | zero => intro c r _; rfl
  | succ k ih =>
    intro c r hc
    simp only [lastFrom, encFrom]
    rw [ih (c + 1) _ (by omega)]
    by_cases h : decS c = x
    · rw [if_pos h, if_pos h]
      have : encFrom x k (c + 1) = none := by
        have hno : ∀ (k d : Nat), c < d → d + k = 256 → encFrom x k d = none := by
          intro k
          induction k with
          | zero => intro d _ _; rfl
          | succ k ih2 =>
            intro d hd he
            simp only [encFrom]
            rw [if_neg, ih2 (d + 1) (by omega) (by omega)]
            intro hd2
            have := dec_inj (a := (c : Int)) (b := (d : Int)) (by omega) (by omega) (by omega) (by omega) (h.trans hd2.symm)
            omega
        exact hno k (c + 1) (by omega) (by omega)
      rw [this]
    · rw [if_neg h, if_neg h]

theorem oW_25 (σ : List Bx) : oW 25 [] σ = some (tablePV, σ) := by simp [oW, oV, Orc.and, s0]

noncomputable def C4 : Ctx := ctx Try.prog oW h4 Try.f4
@[simp] theorem C4_P : C4.P = Try.prog := rfl
@[simp] theorem C4_mv (f k : Nat) : C4.mv f k = false := rfl
@[simp] theorem C4_live : C4.live = h4 := rfl
@[simp] theorem C4_call : C4.call = oW := rfl
@[simp] theorem C4_res (t : Nat) : C4.res t = (4 == t || false) := rfl

/-- Three scalars. -/
def xs3 (x y z : Int) : PV := .sl (.excl 3) false [[.lit (.int .i64 x)], [.lit (.int .i64 y)], [.lit (.int .i64 z)]]
def S4 (l : PV) (i x : Int) (r : Int × Bool) (c : Int) : St :=
  { ts := [(6, .lit (.int .i64 x)), (7, .lit (.int .u8 r.1)), (8, .lit (.bool r.2)), (23, l), (24, .lit (.int .i64 3)), (25, .lit (.int .i64 i)),
      (29, tablePV), (30, .lit (.int .i64 256)), (31, .lit (.int .i64 c))], n := 56, σ := [] }

theorem in_body (x y z i u : Int) (r : Int × Bool) (c : Nat) (hc : c < 256) (n : Nat) : evCode C4 n (sub [1, 1, 0, 1, 0, 0, 1, 1, 0, 0, 1, 1, 0, 1, 0, 0] (fbody Try.f4)) (S4 (xs3 x y z) i u r c) =
    some (.normal, S4 (xs3 x y z) i u (if decS c = u then ((c : Int), true) else r) (c + 1)) := by
  have h1 : (c : Int) < 256 := by omega
  have w1 := wrap_u8_of (n := (c : Int)) (by omega) h1
  have w2 := wrap_i64_of (n := (c : Int) + 1) (by omega) (by omega)
  by_cases hd : decS c = u
  · subst hd
    simp [Try.f4, fbody, sub, S4, xs3, tablePV, h1, w1, w2, h4, tab_len, tab_get, hc, elemCells]
  · have hd' : (decS c == u) = false := by simpa using hd
    simp [Try.f4, fbody, sub, S4, xs3, tablePV, h1, w1, w2, h4, tab_len, tab_get, hc, hd', hd, elemCells]

theorem in_last (x y z i u : Int) (r : Int × Bool) (n : Nat) : evCode C4 n (sub [1, 1, 0, 1, 0, 0, 1, 1, 0, 0, 1, 1, 0, 1, 0, 0] (fbody Try.f4)) (S4 (xs3 x y z) i u r 256) =
    some (.exit 2, { ts := [(6, .lit (.int .i64 u)), (7, .lit (.int .u8 r.1)), (8, .lit (.bool r.2)), (23, xs3 x y z), (24, .lit (.int .i64 3)), (25, .lit (.int .i64 i)),
      (29, tablePV), (30, .lit (.int .i64 256)), (31, .lit (.int .i64 256)), (32, .lit (.bool false))], n := 56, σ := [] }) := by
  simp [Try.f4, fbody, sub, S4, xs3, tablePV, h4]

theorem in_loop (x y z i u : Int) (n : Nat) : ∀ (k c m : Nat) (r : Int × Bool), c + k = 256 → k < m → evLoop (evCode C4 n (sub [1, 1, 0, 1, 0, 0, 1, 1, 0, 0, 1, 1, 0, 1, 0, 0] (fbody Try.f4))) m (S4 (xs3 x y z) i u r c) =
    some (.exit 2, { ts := [(6, .lit (.int .i64 u)), (7, .lit (.int .u8 (lastFrom u k c r).1)), (8, .lit (.bool (lastFrom u k c r).2)), (23, xs3 x y z), (24, .lit (.int .i64 3)), (25, .lit (.int .i64 i)),
      (29, tablePV), (30, .lit (.int .i64 256)), (31, .lit (.int .i64 256)), (32, .lit (.bool false))], n := 56, σ := [] }) := by
  intro k
  induction k with
  | zero =>
    intro c m r hc hm
    obtain ⟨m, rfl⟩ : ∃ m', m = m' + 1 := ⟨m - 1, by omega⟩
    have : c = 256 := by omega
    subst this
    rw [evLoop_succ]
    have := in_last x y z i u r n
    simp only [Int.cast_ofNat_Int]
    rw [this]
    rfl
  | succ k ih =>
    intro c m r hc hm
    obtain ⟨m, rfl⟩ : ∃ m', m = m' + 1 := ⟨m - 1, by omega⟩
    rw [evLoop_succ, in_body x y z i u r c (by omega) n, loopR_normal]
    have := ih (c + 1) m (if decS c = u then ((c : Int), true) else r) (by omega) (by omega)
    simp only [Int.natCast_add, Int.cast_ofNat_Int] at this
    exact this

/-- What both searches find is the same. -/
theorem both (x : Int) : encPV (encS x) = .tup [.lit (.int .u8 (lastFrom x 256 0 (0, false)).1), .lit (.bool (lastFrom x 256 0 (0, false)).2)] := by
  rw [lastFrom_eq x 256 0 (0, false) rfl]
  unfold encS
  cases encFrom x 256 0 <;> rfl

/-- One round of the outer loop. -/
theorem out_body (x y z : Int) (i : Nat) (hi : i < 3) (n : Nat) (hn : 300 < n) : evCode C4 n (sub [1, 1, 0, 1, 0, 0] (fbody Try.f4)) { ts := [(23, xs3 x y z), (24, .lit (.int .i64 3)), (25, .lit (.int .i64 i))], n := 56, σ := [] } =
    some (.normal, { ts := [(23, xs3 x y z), (24, .lit (.int .i64 3)), (25, .lit (.int .i64 ((i : Int) + 1)))], n := 56, σ := [] }) := by
  have w : ∀ k : Int, 0 ≤ k → k < 4 → IntKind.i64.wrap k = k := fun k h h' => wrap_i64_of (by omega) (by omega)
  have hl := fun i u => in_loop x y z i u n 256 0 n (0, false) rfl (by omega)
  have hb := fun u => both u
  generalize hg : lastFrom = G at hl hb
  simp only [S4, Int.cast_ofNat_Int] at hl
  simp only [Try.f4, fbody, sub, Option.getD_some] at hl ⊢
  rcases (by omega : i = 0 ∨ i = 1 ∨ i = 2) with rfl | rfl | rfl
  · simp [h4, xs3, oW_25, oW_26, tab_len, hb, elemCells, tablePV, w] at hl ⊢
    simp [h4, xs3, oW_25, oW_26, tab_len, hb, elemCells, tablePV, hl, w]
  · simp [h4, xs3, oW_25, oW_26, tab_len, hb, elemCells, tablePV, w] at hl ⊢
    simp [h4, xs3, oW_25, oW_26, tab_len, hb, elemCells, tablePV, hl, w]
  · simp [h4, xs3, oW_25, oW_26, tab_len, hb, elemCells, tablePV, w] at hl ⊢
    simp [h4, xs3, oW_25, oW_26, tab_len, hb, elemCells, tablePV, hl, w]

theorem out_last (x y z : Int) (n : Nat) : evCode C4 n (sub [1, 1, 0, 1, 0, 0] (fbody Try.f4)) { ts := [(23, xs3 x y z), (24, .lit (.int .i64 3)), (25, .lit (.int .i64 3))], n := 56, σ := [] } =
    some (.exit 0, { ts := [(23, xs3 x y z), (24, .lit (.int .i64 3)), (25, .lit (.int .i64 3)), (26, .lit (.bool false))], n := 56, σ := [] }) := by
  simp [Try.f4, fbody, sub, h4, xs3]

theorem out_loop (x y z : Int) (n : Nat) (hn : 300 < n) : evLoop (evCode C4 n (sub [1, 1, 0, 1, 0, 0] (fbody Try.f4))) n { ts := [(23, xs3 x y z), (24, .lit (.int .i64 3)), (25, .lit (.int .i64 0))], n := 56, σ := [] } =
    some (.exit 0, { ts := [(23, xs3 x y z), (24, .lit (.int .i64 3)), (25, .lit (.int .i64 3)), (26, .lit (.bool false))], n := 56, σ := [] }) := by
  obtain ⟨m, rfl⟩ : ∃ m, n = m + 1 + 1 + 1 + 1 := ⟨n - 4, by omega⟩
  have h0 := out_body x y z 0 (by omega) (m + 1 + 1 + 1 + 1) hn
  have h1 := out_body x y z 1 (by omega) (m + 1 + 1 + 1 + 1) hn
  have h2 := out_body x y z 2 (by omega) (m + 1 + 1 + 1 + 1) hn
  have h3 := out_last x y z (m + 1 + 1 + 1 + 1)
  simp only [Int.cast_ofNat_Int, Int.zero_add, Int.reduceAdd] at h0 h1 h2
  generalize hf : evCode C4 (m + 1 + 1 + 1 + 1) (sub [1, 1, 0, 1, 0, 0] (fbody Try.f4)) = F at *
  rw [evLoop_succ, h0, loopR_normal, evLoop_succ, h1, loopR_normal, evLoop_succ, h2, loopR_normal, evLoop_succ, h3, loopR_exit]

theorem encode_run {s k : Int} (hk : 0 ≤ k) (hk' : k < 65536) : run Try.prog oW h4 4 [.lit (.int .i64 s), .lit (.int .u16 k)] [] = some (.lit (.bool true), []) := by
  rw [run_eq Try.func4 (by kernel_rfl)]
  have hC : ctx Try.prog oW h4 Try.f4 = C4 := rfl
  rw [hC]
  have hl := fun x y z => out_loop x y z 100000 (by omega)
  simp only [Try.f4, fbody, sub, Option.getD_some] at hl ⊢
  have u1 : Try.prog.underlying 27 = some (.int .u16) := Try.underlying27
  simp [h4, xs3] at hl
  simp [h4, oW_23, xs3, endR, retAll, trunc, hl]

theorem encode_law (a0 a1 : Int) (w0 : (Lit.int .i64 a0).wf = true) (w1 : (Lit.int .u16 a1).wf = true) : AbsCall Try.prog 4 [.lit (.int .i64 a0), .lit (.int .u16 a1)] [] (.lit (.bool true)) [] :=
  run_abs wf oW_ok (encode_run (wf_u16 w1).1 (wf_u16 w1).2)

end Go.Proofs.Ytpbbgkmpjcddbaa
