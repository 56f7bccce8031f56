/- The texts of VISCII: a scalar's byte. -/
import Derived.Test.YtpbbgkmpjcddbaaV1
set_option linter.all false
namespace Go.Proofs.Ytpbbgkmpjcddbaa
open Go.AM

/-- From 'c' on, 'k' bytes: the first one whose scalar it is. -/
def encFrom (s : Int) : Nat → Nat → Option Nat
  | 0, _ => none
  | k + 1, c => if decS c = s then some c else encFrom s k (c + 1)
def encPV (r : Option Nat) : PV :=
  match r with
  | some c => .tup [.lit (.int .u8 c), .lit (.bool true)]
  | none => .tup [.lit (.int .u8 0), .lit (.bool false)]
def encS (s : Int) : Option Nat := encFrom s 256 0

noncomputable def C26 : Ctx := ctx Try.prog o24 h26 Try.f26
@[simp] theorem C26_P : C26.P = Try.prog := rfl
@[simp] theorem C26_mv (f k : Nat) : C26.mv f k = false := rfl
@[simp] theorem C26_live : C26.live = h26 := rfl
@[simp] theorem C26_call : C26.call = o24 := rfl
@[simp] theorem C26_res (t : Nat) : C26.res t = (2 == t || (3 == t || false)) := rfl
def S26 (s : Int) (c : Int) (σ : List Bx) : St := { ts := [(0, .lit (.int .i64 s)), (5, .lit (.int .i64 c))], n := 16, σ := σ }

theorem enc_body (s : Int) (c : Nat) (hc : c < 256) (σ : List Bx) (n : Nat) : evCode C26 n (sub [1, 0, 1, 0, 0] (fbody Try.f26)) (S26 s c σ) =
    if decS c = s then some (.ret, { ts := [(2, .lit (.int .u8 c)), (3, .lit (.bool true))], n := 16, σ := σ }) else some (.normal, S26 s (c + 1) σ) := by
  have h1 : (c : Int) < 256 := by omega
  have w1 := wrap_u8_of (n := (c : Int)) (by omega) h1
  have w2 := wrap_i64_of (n := (c : Int) + 1) (by omega) (by omega)
  have h2 : ∀ σ, o24 24 [.lit (.int .u8 c)] σ = some (.lit (.int .i64 (decS c)), σ) := by
    intro σ; simp [o24, Orc.and, s24, h1]
  by_cases hd : decS c = s
  · simp [Try.f26, fbody, sub, S26, h1, w1, w2, h2, h26, Try.underlying3, Try.underlying5, hd]
  · have hd' : (decS c == s) = false := by simpa using hd
    simp [Try.f26, fbody, sub, S26, h1, w1, w2, h2, h26, Try.underlying3, Try.underlying5, hd, hd']

theorem enc_last (s : Int) (σ : List Bx) (n : Nat) : evCode C26 n (sub [1, 0, 1, 0, 0] (fbody Try.f26)) (S26 s 256 σ) =
    some (.exit 0, { ts := [(0, .lit (.int .i64 s)), (5, .lit (.int .i64 256)), (6, .lit (.bool false))], n := 16, σ := σ }) := by
  simp [Try.f26, fbody, sub, S26, h26, Try.underlying3, Try.underlying5]

theorem enc_loop (s : Int) (σ : List Bx) (n : Nat) : ∀ (k c m : Nat), c + k = 256 → k < m → evLoop (evCode C26 n (sub [1, 0, 1, 0, 0] (fbody Try.f26))) m (S26 s c σ) =
    match encFrom s k c with
    | some d => some (.ret, { ts := [(2, .lit (.int .u8 d)), (3, .lit (.bool true))], n := 16, σ := σ })
    | none => some (.exit 0, { ts := [(0, .lit (.int .i64 s)), (5, .lit (.int .i64 256)), (6, .lit (.bool false))], n := 16, σ := σ }) := by
  intro k
  induction k with
  | zero =>
    intro c m hc hm
    obtain ⟨m, rfl⟩ : ∃ m', m = m' + 1 := ⟨m - 1, by omega⟩
    have : c = 256 := by omega
    subst this
    rw [evLoop_succ]
    have := enc_last s σ n
    simp only [Int.cast_ofNat_Int] 
    rw [this]
    rfl
  | succ k ih =>
    intro c m hc hm
    obtain ⟨m, rfl⟩ : ∃ m', m = m' + 1 := ⟨m - 1, by omega⟩
    rw [evLoop_succ, enc_body s c (by omega) σ n]
    simp only [encFrom]
    by_cases hd : decS c = s
    · rw [if_pos hd, if_pos hd]; rfl
    · rw [if_neg hd, if_neg hd, loopR_normal]
      have := ih (c + 1) m (by omega) (by omega)
      simp only [Int.natCast_add, Int.cast_ofNat_Int] at this
      exact this

theorem enc_run (s : Int) (σ : List Bx) : run Try.prog o24 h26 26 [.lit (.int .i64 s)] σ = some (encPV (encS s), trunc σ.length (encPV (encS s)) σ) := by
  rw [run_eq Try.func26 (by kernel_rfl)]
  have hl := enc_loop s σ 100000 256 0 100000 rfl (by omega)
  have hC : ctx Try.prog o24 h26 Try.f26 = C26 := rfl
  rw [hC]
  simp only [S26, Int.cast_ofNat_Int] at hl
  simp only [Try.f26, fbody, sub, Option.getD_some] at hl ⊢
  unfold encS
  cases he : encFrom s 256 0 with
  | none =>
    simp only [he] at hl
    simp [h26, hl, endR, retAll, retVars, retVar, encPV]
  | some d =>
    simp only [he] at hl
    simp [h26, hl, endR, retAll, retVars, retVar, encPV]

theorem encPV_ref (r : Option Nat) (n : Nat) : noRef n (encPV r) = true := by cases r <;> simp [encPV, noRef, noRefs]
theorem encPV_al (r : Option Nat) : (encPV r).noAl = true := by cases r <;> rfl
theorem enc_abs (s : Int) (σ : List Bx) : AbsCall Try.prog 26 [.lit (.int .i64 s)] σ (encPV (encS s)) σ :=
  (run_abs wf o24_ok (by rw [enc_run s []]; simp [trunc])).frame (by simp [noRefs, noRef]) (encPV_al _) σ

def s26 : List PV → List Bx → Option (PV × List Bx)
  | [.lit (.int .i64 s)], σ => some (encPV (encS s), σ)
  | _, _ => none
theorem s26_ok : ∀ args σ r σ', s26 args σ = some (r, σ') → AbsCall Try.prog 26 args σ r σ' := by
  intro args σ r σ' he
  unfold s26 at he
  split at he
  · injection he with he; injection he with e1 e2; subst e1; subst e2; exact enc_abs _ _
  · cases he

end Go.Proofs.Ytpbbgkmpjcddbaa
