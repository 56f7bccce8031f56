/- The document's letters of Vietnamese: the n-th one. -/
import Derived.Test.YtpbbgkmpjcddbaaV1
import Derived.Test.YtpbbgkmpjcddbaaT1
set_option linter.all false
namespace Go.Proofs.Ytpbbgkmpjcddbaa
open Go.AM

structure VRow where
  base : Int
  mark : Int
  all : List Int
def rowL : List VRow := [⟨97, 0, [97, 224, 225, 7843, 227, 7841]⟩, ⟨97, 1, [259, 7857, 7855, 7859, 7861, 7863]⟩, ⟨97, 2, [226, 7847, 7845, 7849, 7851, 7853]⟩, ⟨101, 0, [101, 232, 233, 7867, 7869, 7865]⟩, ⟨101, 2, [234, 7873, 7871, 7875, 7877, 7879]⟩, ⟨105, 0, [105, 236, 237, 7881, 297, 7883]⟩, ⟨111, 0, [111, 242, 243, 7887, 245, 7885]⟩, ⟨111, 2, [244, 7891, 7889, 7893, 7895, 7897]⟩, ⟨111, 3, [417, 7901, 7899, 7903, 7905, 7907]⟩, ⟨117, 0, [117, 249, 250, 7911, 361, 7909]⟩, ⟨117, 3, [432, 7915, 7913, 7917, 7919, 7921]⟩, ⟨121, 0, [121, 7923, 253, 7927, 7929, 7925]⟩, ⟨100, 0, [100]⟩, ⟨100, 4, [273]⟩]
def VRow.cells (r : VRow) : List PV := [.lit (.int .i64 r.base), .lit (.int .i64 r.mark), .sl .view false (rowPV .i64 r.all)]
def rowsPV : PV := .sl (.excl 80) false (rowL.map VRow.cells)

theorem rows_run : ends (run Try.prog Orc.none h50 50 [] []) rowsPV = true := by kernel_rfl
theorem rows_abs (σ : List Bx) : AbsCall Try.prog 50 [] σ rowsPV σ := (run_abs wf (SoundC.none _) (ends_eq rows_run)).frame (by kernel_rfl) (by kernel_rfl) σ

def upS (s : Int) : Int := if s < 256 then s - 32 else s - 1
theorem up_run {s : Int} (h0 : 0 ≤ s) (h1 : s < 65536) : run Try.prog Orc.none h51 51 [.lit (.int .i64 s)] [] = some (.lit (.int .i64 (upS s)), []) := by
  rw [run_eq Try.func51 (by kernel_rfl)]
  have w1 : IntKind.i64.wrap (s - 32) = s - 32 := wrap_i64_of (by omega) (by omega)
  have w2 : IntKind.i64.wrap (s - 1) = s - 1 := wrap_i64_of (by omega) (by omega)
  by_cases h : s < 256
  · simp [Try.f51, fbody, h51, endR, retAll, trunc, upS, h, w1]
  · simp [Try.f51, fbody, h51, endR, retAll, trunc, upS, h, w2]
theorem up_abs {s : Int} (h0 : 0 ≤ s) (h1 : s < 65536) (σ : List Bx) : AbsCall Try.prog 51 [.lit (.int .i64 s)] σ (.lit (.int .i64 (upS s))) σ :=
  (run_abs wf (SoundC.none _) (up_run h0 h1)).frame (by simp [noRefs, noRef]) rfl σ

def z0 (r : PV) : List PV → List Bx → Option (PV × List Bx)
  | [], σ => some (r, σ)
  | _, _ => none
theorem z0_ok {f : Nat} {x : PV} (h : ∀ σ, AbsCall Try.prog f [] σ x σ) : ∀ args σ r σ', z0 x args σ = some (r, σ') → AbsCall Try.prog f args σ r σ' := by
  intro args σ r σ' he
  unfold z0 at he
  split at he
  · injection he with he; injection he with e1 e2; subst e1; subst e2; exact h _
  · cases he
def s51 : List PV → List Bx → Option (PV × List Bx)
  | [.lit (.int .i64 s)], σ => if 0 ≤ s ∧ s < 65536 then some (.lit (.int .i64 (upS s)), σ) else none
  | _, _ => none
theorem s51_ok : ∀ args σ r σ', s51 args σ = some (r, σ') → AbsCall Try.prog 51 args σ r σ' := by
  intro args σ r σ' he
  unfold s51 at he
  split at he
  · split at he
    · rename_i h; injection he with he; injection he with e1 e2; subst e1; subst e2; exact up_abs h.1 h.2 _
    · cases he
  · cases he
def oL : Orc := (Orc.none.and 50 (z0 rowsPV)).and 51 s51
theorem oL_ok : SoundC Try.prog oL := ((SoundC.none _).and Try.func50 (by kernel_rfl) (z0_ok rows_abs)).and Try.func51 (by kernel_rfl) s51_ok
theorem oL_50 (σ : List Bx) : oL 50 [] σ = some (rowsPV, σ) := by simp [oL, Orc.and, z0]
theorem oL_51 {s : Int} (h0 : 0 ≤ s) (h1 : s < 65536) (σ : List Bx) : oL 51 [.lit (.int .i64 s)] σ = some (.lit (.int .i64 (upS s)), σ) := by simp [oL, Orc.and, s51, h0, h1]

/-- Small whole numbers as floats' bits. -/
def fl (m : Int) : Nat := [0, 4607182418800017408, 4611686018427387904, 4613937818241073152, 4616189618054758400, 4617315517961601024].getD m.toNat 0
theorem conv_run : (List.range 6).all (fun m => match det Try.prog (convert 3 47 (.int .i64 (Int.ofNat m))) with | some v => vBeq v (.float .f64 (fl (Int.ofNat m))) | none => false) = true := by kernel_rfl
theorem conv_fl {m : Int} (h0 : 0 ≤ m) (h1 : m < 6) : det Try.prog (convert 3 47 (.int .i64 m)) = some (.float .f64 (fl m)) := by
  have h := List.all_eq_true.1 conv_run m.toNat (by simp; omega)
  have hc : Int.ofNat m.toNat = m := by simp; omega
  rw [hc] at h
  split at h
  · rename_i v hv; rw [hv, vBeq_eq h]
  · cases h
theorem complex_run (a b : Nat) : det Try.prog (builtin .complex #[47, 47] 36 #[false, false] #[.float .f64 a, .float .f64 b]) = some (.value (.complex .f64 a b)) := by kernel_rfl

/-! ### The loop over a row's scalars -/
noncomputable def C29 : Ctx := ctx Try.prog oL h29 Try.f29
@[simp] theorem C29_P : C29.P = Try.prog := rfl
@[simp] theorem C29_mv (f k : Nat) : C29.mv f k = false := rfl
@[simp] theorem C29_live : C29.live = h29 := rfl
@[simp] theorem C29_call : C29.call = oL := rfl
@[simp] theorem C29_res (t : Nat) : C29.res t = (3 == t || (4 == t || false)) := rfl

noncomputable def body29 : Code := sub [1, 1, 0, 1, 0, 0, 1, 0, 0, 1, 0, 0, 1, 1, 0, 0, 1, 1, 0, 0] (fbody Try.f29)
def I29 (n k g : Int) (q : Nat) (R : List (List PV)) (ri : Int) (ss : List Int) (j : Int) (b0 : Bx) (rest : List Bx) : St :=
  { ts := [(0, .lit (.int .i64 n)), (2, .ptr 0 0), (5, .lit (.int .i64 k)), (6, .lit (.int .i64 g)), (8, .ptr (q + 1) 0), (16, .sl (.excl 80) false R), (17, .lit (.int .i64 14)), (18, .lit (.int .i64 ri)),
      (23, .sl .view false (rowPV .i64 ss)), (24, .lit (.int .i64 ss.length)), (25, .lit (.int .i64 j))], n := 55, σ := b0 :: rest }
/-- A letter of a row. -/
def up (g s : Int) : Int := if g = 1 then upS s else s
def letC (g : Int) (r : VRow) (j : Int) : List PV := [.lit (.int .i64 (up g r.base)), .lit (.complex .f64 (fl r.mark) (fl j))]

theorem rowPV_len (k : IntKind) (zs : List Int) : (rowPV k zs).length = zs.length := by simp [rowPV]
theorem rowPV_get (k : IntKind) (zs : List Int) (c : Nat) (h : c < (rowPV k zs).length) : (rowPV k zs)[c] = [.lit (.int k (zs.getD c 0))] := by
  have hl : c < zs.length := by simpa [rowPV] using h
  simp [rowPV, List.getD_eq_getElem?_getD, List.getElem?_eq_getElem hl]

theorem let_body (n k g : Int) (q : Nat) (R : List (List PV)) (ri : Int) (r : VRow) (j : Nat) (a c : PV) (rest : List Bx) (fuel : Nat)
    (hq : rest[q]? = some (.cells 80 r.cells)) (hj : j < r.all.length) (hj6 : j < 6) (hg : g = 0 ∨ g = 1) (hk : 0 ≤ k ∧ k < 1000) (hm : 0 ≤ r.mark ∧ r.mark < 6) (hb : 0 ≤ r.base ∧ r.base < 65536) (hs : 0 ≤ r.all.getD j 0 ∧ r.all.getD j 0 < 65536) :
    evCode C29 fuel body29 (I29 n k g q R ri r.all j (.cells 38 [a, c]) rest) =
      if k = n then some (.ret, { ts := [(2, .ptr 0 0), (3, .lit (.int .i64 (up g (r.all.getD j 0)))), (4, .lit (.bool true))], n := 55, σ := .cells 38 (letC g r j) :: rest })
      else some (.normal, I29 n (k + 1) g q R ri r.all (j + 1) (.cells 38 [a, c]) rest) := by
  obtain ⟨base, mark, all⟩ := r
  simp only at hj hm hb hs hq
  have w1 : IntKind.i64.wrap (k + 1) = k + 1 := wrap_i64_of (by omega) (by omega)
  have w2 : IntKind.i64.wrap ((j : Int) + 1) = (j : Int) + 1 := wrap_i64_of (by omega) (by omega)
  have cm := conv_fl hm.1 hm.2
  have cj := conv_fl (m := (j : Int)) (by omega) (by omega)
  have ub := fun σ => oL_51 hb.1 hb.2 σ
  have us := fun σ => oL_51 hs.1 hs.2 σ
  generalize hx0 : all.getD j 0 = x at *
  have hx : all[j] = x := by simpa [List.getD_eq_getElem?_getD, List.getElem?_eq_getElem hj] using hx0
  clear hx0
  by_cases hn : k = n
  · subst hn
    rcases hg with rfl | rfl
    · simp [body29, Try.f29, fbody, sub, I29, h29, rowPV_len, rowPV_get, hj, hx, VRow.cells, hq, cm, cj, complex_run, letC, up, w1, w2, St.putC, setBx]
    · simp [body29, Try.f29, fbody, sub, I29, h29, rowPV_len, rowPV_get, hj, hx, VRow.cells, hq, cm, cj, complex_run, letC, up, w1, w2, ub, us, St.putC, setBx]
  · have hn' : (k == n) = false := by simpa using hn
    simp [body29, Try.f29, fbody, sub, I29, h29, rowPV_len, rowPV_get, hj, hx, hn, hn', w1, w2]
theorem let_last (n k g : Int) (q : Nat) (R : List (List PV)) (ri : Int) (ss : List Int) (b0 : Bx) (rest : List Bx) (fuel : Nat) :
    evCode C29 fuel body29 (I29 n k g q R ri ss ss.length b0 rest) = some (.exit 4, { ts := [(0, .lit (.int .i64 n)), (2, .ptr 0 0), (5, .lit (.int .i64 k)), (6, .lit (.int .i64 g)), (8, .ptr (q + 1) 0), (16, .sl (.excl 80) false R), (17, .lit (.int .i64 14)), (18, .lit (.int .i64 ri)),
      (23, .sl .view false (rowPV .i64 ss)), (24, .lit (.int .i64 ss.length)), (25, .lit (.int .i64 ss.length)), (26, .lit (.bool false))], n := 55, σ := b0 :: rest }) := by
  simp [body29, Try.f29, fbody, sub, I29, h29]

/-- A row that is right. -/
def VRow.ok (r : VRow) : Prop := r.all.length ≤ 6 ∧ (0 ≤ r.mark ∧ r.mark < 6) ∧ (0 ≤ r.base ∧ r.base < 65536) ∧ ∀ j, 0 ≤ r.all.getD j 0 ∧ r.all.getD j 0 < 65536

/-- Where the row has the letter that is sought. -/
theorem let_loop (n g : Int) (q : Nat) (R : List (List PV)) (ri : Int) (r : VRow) (a c : PV) (rest : List Bx) (fuel : Nat) (hr : r.ok)
    (hq : rest[q]? = some (.cells 80 r.cells)) (hg : g = 0 ∨ g = 1) : ∀ (d j m : Nat) (k : Int), j + d = r.all.length → d < m → 0 ≤ k → k + d < 1000 →
    evLoop (evCode C29 fuel body29) m (I29 n k g q R ri r.all j (.cells 38 [a, c]) rest) =
      if k ≤ n ∧ n < k + d then some (.ret, { ts := [(2, .ptr 0 0), (3, .lit (.int .i64 (up g (r.all.getD (j + (n - k).toNat) 0)))), (4, .lit (.bool true))], n := 55, σ := .cells 38 (letC g r ((j : Int) + (n - k))) :: rest })
      else some (.exit 4, { ts := [(0, .lit (.int .i64 n)), (2, .ptr 0 0), (5, .lit (.int .i64 (k + d))), (6, .lit (.int .i64 g)), (8, .ptr (q + 1) 0), (16, .sl (.excl 80) false R), (17, .lit (.int .i64 14)), (18, .lit (.int .i64 ri)),
        (23, .sl .view false (rowPV .i64 r.all)), (24, .lit (.int .i64 r.all.length)), (25, .lit (.int .i64 r.all.length)), (26, .lit (.bool false))], n := 55, σ := .cells 38 [a, c] :: rest }) := by
  intro d
  induction d with
  | zero =>
    intro j m k hj hm hk hk'
    obtain ⟨m, rfl⟩ : ∃ m', m = m' + 1 := ⟨m - 1, by omega⟩
    have hjl : j = r.all.length := by omega
    subst hjl
    rw [evLoop_succ, let_last, loopR_exit, if_neg (by omega)]
    simp
  | succ d ih =>
    intro j m k hj hm hk hk'
    obtain ⟨m, rfl⟩ : ∃ m', m = m' + 1 := ⟨m - 1, by omega⟩
    obtain ⟨o1, o2, o3, o4⟩ := hr
    rw [evLoop_succ, let_body n k g q R ri r j a c rest fuel hq (by omega) (by omega) hg ⟨hk, by omega⟩ o2 o3 (o4 j)]
    by_cases hn : k = n
    · subst hn
      rw [if_pos rfl, loopR_ret, if_pos (by omega)]
      simp
    · rw [if_neg hn, loopR_normal]
      have := ih (j + 1) m (k + 1) (by omega) (by omega) (by omega) (by omega)
      simp only [Int.natCast_add, Int.cast_ofNat_Int] at this
      rw [this]
      by_cases hin : k + 1 ≤ n ∧ n < k + 1 + d
      · rw [if_pos hin, if_pos (by omega)]
        rw [show j + 1 + (n - (k + 1)).toNat = j + (n - k).toNat by omega, show (j : Int) + 1 + (n - (k + 1)) = (j : Int) + (n - k) by omega]
      · rw [if_neg hin, if_neg (by omega)]
        rw [show k + 1 + (d : Int) = k + ((d + 1 : Nat) : Int) by omega]
end Go.Proofs.Ytpbbgkmpjcddbaa
