/- The document's letters of Vietnamese: the loops over rows, and over small and great. -/
import Derived.Test.YtpbbgkmpjcddbaaV7
set_option linter.all false
namespace Go.Proofs.Ytpbbgkmpjcddbaa
open Go.AM

theorem modify_end {α : Type} (l : List α) (x : α) (f : α → α) : (l ++ [x]).modify l.length f = l ++ [f x] := by
  induction l with
  | nil => rfl
  | cons y l ih => simp [ih]
theorem rowL_len : rowL.length = 14 := by kernel_rfl
def rowOkB (r : VRow) : Bool := decide (r.all.length ≤ 6) && (decide (0 ≤ r.mark) && decide (r.mark < 6)) && (decide (0 ≤ r.base) && decide (r.base < 65536)) && r.all.all (fun s => decide (0 ≤ s) && decide (s < 65536))
theorem rowOkB_ok {r : VRow} (h : rowOkB r = true) : r.ok := by
  simp only [rowOkB, Bool.and_eq_true, decide_eq_true_eq, List.all_eq_true] at h
  obtain ⟨⟨⟨h1, h2⟩, h3⟩, h4⟩ := h
  refine ⟨h1, h2, h3, fun j => ?_⟩
  rw [List.getD_eq_getElem?_getD]
  cases hj : r.all[j]? with
  | none => simp
  | some s => exact h4 s (List.mem_of_getElem? hj)
theorem rowL_ok : ∀ r ∈ rowL, r.ok := by
  have h : rowL.all rowOkB = true := by kernel_rfl
  intro r hr
  exact rowOkB_ok (List.all_eq_true.1 h r hr)

noncomputable def bodyM : Code := sub [1, 1, 0, 1, 0, 0, 1, 0, 0, 1, 0, 0] (fbody Try.f29)
def M29 (n k g ri : Int) (b0 : Bx) (rest : List Bx) : St :=
  { ts := [(0, .lit (.int .i64 n)), (2, .ptr 0 0), (5, .lit (.int .i64 k)), (6, .lit (.int .i64 g)), (16, .sl (.excl 80) false (rowL.map VRow.cells)), (17, .lit (.int .i64 14)), (18, .lit (.int .i64 ri))], n := 55, σ := b0 :: rest }

theorem row_body (n k g : Int) (ri : Nat) (hi : ri < rowL.length) (a c : PV) (rest : List Bx) (fuel : Nat) (hf : 100 < fuel) (hg : g = 0 ∨ g = 1) (hk : 0 ≤ k) (hk' : k < 900) :
    evCode C29 fuel bodyM (M29 n k g ri (.cells 38 [a, c]) rest) =
      if k ≤ n ∧ n < k + rowL[ri].all.length then some (.ret, { ts := [(2, .ptr 0 0), (3, .lit (.int .i64 (up g (rowL[ri].all.getD (n - k).toNat 0)))), (4, .lit (.bool true))], n := 55, σ := .cells 38 (letC g rowL[ri] (n - k)) :: (rest ++ [.cells 80 rowL[ri].cells]) })
      else some (.normal, M29 n (k + rowL[ri].all.length) g (ri + 1) (.cells 38 [a, c]) (rest ++ [.cells 80 rowL[ri].cells])) := by
  have hok := rowL_ok rowL[ri] (List.getElem_mem hi)
  have w2 : IntKind.i64.wrap ((ri : Int) + 1) = (ri : Int) + 1 := by have := rowL_len; exact wrap_i64_of (by omega) (by omega)
  have hl := let_loop n g rest.length (rowL.map VRow.cells) ri rowL[ri] a c (rest ++ [.cells 80 rowL[ri].cells]) fuel hok (by simp) hg rowL[ri].all.length 0 fuel k (by omega) (by have := hok.1; omega) hk (by have := hok.1; omega)
  have hri : (ri : Int) < 14 := by have := rowL_len; omega
  have hlen := rowL_len
  have hcl : rowL[ri].cells.length = 3 := rfl
  generalize hrr : rowL[ri] = r at *
  obtain ⟨base, mark, all⟩ := r
  simp only [I29, body29, Try.f29, fbody, sub, Option.getD_some, Int.cast_ofNat_Int, Nat.zero_add, Int.zero_add] at hl
  simp only [VRow.cells] at hl
  simp only [bodyM, Try.f29, fbody, sub, Option.getD_some]
  by_cases hin : k ≤ n ∧ n < k + all.length
  · rw [if_pos hin] at hl ⊢
    simp [M29, h29, w2, hri, hi, hrr, VRow.cells, modify_end, St.putC, setBx, rowPV_len, elemCells, hl]
  · rw [if_neg hin] at hl ⊢
    simp [M29, h29, w2, hri, hi, hrr, VRow.cells, modify_end, St.putC, setBx, rowPV_len, elemCells, hl]

def findR (g n : Int) : Int → List VRow → Option (Int × List PV)
  | _, [] => none
  | k, r :: rs => if k ≤ n ∧ n < k + r.all.length then some (up g (r.all.getD (n - k).toNat 0), letC g r (n - k)) else findR g n (k + r.all.length) rs
def total : List VRow → Nat
  | [] => 0
  | r :: rs => r.all.length + total rs

theorem row_last (n k g : Int) (b0 : Bx) (rest : List Bx) (fuel : Nat) :
    evCode C29 fuel bodyM (M29 n k g 14 b0 rest) = some (.exit 2, { ts := [(0, .lit (.int .i64 n)), (2, .ptr 0 0), (5, .lit (.int .i64 k)), (6, .lit (.int .i64 g)), (16, .sl (.excl 80) false (rowL.map VRow.cells)), (17, .lit (.int .i64 14)), (18, .lit (.int .i64 14)), (19, .lit (.bool false))], n := 55, σ := b0 :: rest }) := by
  simp [bodyM, Try.f29, fbody, sub, M29, h29]

theorem row_loop (n g : Int) (a c : PV) (fuel : Nat) (hf : 100 < fuel) (hg : g = 0 ∨ g = 1) : ∀ (l : List VRow) (ri m : Nat) (k : Int) (rest : List Bx), rowL.drop ri = l → ri ≤ 14 → l.length < m → 0 ≤ k → k + total l < 900 → ∃ rest',
    evLoop (evCode C29 fuel bodyM) m (M29 n k g ri (.cells 38 [a, c]) rest) =
      match findR g n k l with
      | some (s, lc) => some (.ret, { ts := [(2, .ptr 0 0), (3, .lit (.int .i64 s)), (4, .lit (.bool true))], n := 55, σ := .cells 38 lc :: rest' })
      | none => some (.exit 2, { ts := [(0, .lit (.int .i64 n)), (2, .ptr 0 0), (5, .lit (.int .i64 (k + total l))), (6, .lit (.int .i64 g)), (16, .sl (.excl 80) false (rowL.map VRow.cells)), (17, .lit (.int .i64 14)), (18, .lit (.int .i64 14)), (19, .lit (.bool false))], n := 55, σ := .cells 38 [a, c] :: rest' }) := by
  intro l
  induction l with
  | nil =>
    intro ri m k rest hd hr hm hk hk'
    obtain ⟨m, rfl⟩ : ∃ m', m = m' + 1 := ⟨m - 1, by omega⟩
    have : 14 ≤ ri := by have := List.drop_eq_nil_iff.1 hd; rwa [rowL_len] at this
    have h14 : ri = 14 := by omega
    subst h14
    refine ⟨rest, ?_⟩
    rw [evLoop_succ]
    simp only [Int.cast_ofNat_Int]
    rw [row_last, loopR_exit]
    simp [findR, total]
  | cons r rs ih =>
    intro ri m k rest hd hr hm hk hk'
    obtain ⟨m, rfl⟩ : ∃ m', m = m' + 1 := ⟨m - 1, by omega⟩
    have hi : ri < rowL.length := by
      rcases Nat.lt_or_ge ri rowL.length with h | h
      · exact h
      · rw [List.drop_eq_nil_of_le h] at hd; cases hd
    have hc := List.drop_eq_getElem_cons hi
    rw [hd] at hc
    injection hc with hc1 hc2
    simp only [total] at hk'
    rw [evLoop_succ, row_body n k g ri hi a c rest fuel hf hg hk (by omega), ← hc1]
    by_cases hin : k ≤ n ∧ n < k + r.all.length
    · refine ⟨rest ++ [.cells 80 r.cells], ?_⟩
      rw [if_pos hin, loopR_ret]
      simp only [findR]
      rw [if_pos hin]
    · rw [if_neg hin, loopR_normal]
      obtain ⟨rest', h⟩ := ih (ri + 1) m (k + r.all.length) (rest ++ [.cells 80 r.cells]) hc2.symm (by have := rowL_len; omega) (by simpa using hm) (by omega) (by omega)
      refine ⟨rest', ?_⟩
      simp only [Int.natCast_add, Int.cast_ofNat_Int] at h
      rw [h]
      simp only [findR]
      rw [if_neg hin]
      cases findR g n (k + r.all.length) rs with
      | some p => rfl
      | none => simp [total, Int.add_assoc]

theorem total_rowL : total rowL = 74 := by kernel_rfl

noncomputable def bodyO : Code := sub [1, 1, 0, 1, 0, 0] (fbody Try.f29)
def O29 (n k g : Int) (b0 : Bx) (rest : List Bx) : St := { ts := [(0, .lit (.int .i64 n)), (2, .ptr 0 0), (5, .lit (.int .i64 k)), (6, .lit (.int .i64 g))], n := 55, σ := b0 :: rest }
theorem great_body (n k g : Int) (a c : PV) (rest : List Bx) (fuel : Nat) (hf : 100 < fuel) (hg : g = 0 ∨ g = 1) (hk : 0 ≤ k) (hk' : k < 800) : ∃ rest',
    evCode C29 fuel bodyO (O29 n k g (.cells 38 [a, c]) rest) =
      match findR g n k rowL with
      | some (s, lc) => some (.ret, { ts := [(2, .ptr 0 0), (3, .lit (.int .i64 s)), (4, .lit (.bool true))], n := 55, σ := .cells 38 lc :: rest' })
      | none => some (.normal, O29 n (k + 74) (g + 1) (.cells 38 [a, c]) rest') := by
  obtain ⟨rest', hl⟩ := row_loop n g a c fuel hf hg rowL 0 fuel k rest rfl (by omega) (by rw [rowL_len]; omega) hk (by rw [total_rowL]; omega)
  refine ⟨rest', ?_⟩
  have w : IntKind.i64.wrap (g + 1) = g + 1 := wrap_i64_of (by omega) (by omega)
  have hg2 : g < 2 := by omega
  simp only [M29, bodyM, Try.f29, fbody, sub, Option.getD_some, Int.cast_ofNat_Int] at hl
  simp only [bodyO, Try.f29, fbody, sub, Option.getD_some]
  cases hfr : findR g n k rowL with
  | some p =>
    obtain ⟨s, lc⟩ := p
    simp only [hfr] at hl
    simp [O29, h29, oL_50, rowsPV, rowL_len, w, hg2, hl]
  | none =>
    simp only [hfr, total_rowL] at hl
    simp [O29, h29, oL_50, rowsPV, rowL_len, w, hg2, hl]
theorem great_last (n k : Int) (b0 : Bx) (rest : List Bx) (fuel : Nat) : evCode C29 fuel bodyO (O29 n k 2 b0 rest) =
    some (.exit 0, { ts := [(0, .lit (.int .i64 n)), (2, .ptr 0 0), (5, .lit (.int .i64 k)), (6, .lit (.int .i64 2)), (13, .lit (.bool false))], n := 55, σ := b0 :: rest }) := by
  simp [bodyO, Try.f29, fbody, sub, O29, h29]

/-- The n-th letter, and its scalar. -/
def letS (n : Int) : Option (Int × List PV) :=
  match findR 0 n 0 rowL with
  | some p => some p
  | none => findR 1 n 74 rowL
def zeroL : List PV := [.lit (.int .i64 0), .lit (.complex .f64 0 0)]
def letPV (o : Option (Int × List PV)) : PV :=
  match o with
  | some (s, lc) => .tup [.agg lc, .lit (.int .i64 s), .lit (.bool true)]
  | none => .tup [.agg zeroL, .lit (.int .i64 0), .lit (.bool false)]

theorem great_loop (n : Int) (a c : PV) (fuel : Nat) (hf : 100 < fuel) : ∃ rest',
    evLoop (evCode C29 fuel bodyO) fuel (O29 n 0 0 (.cells 38 [a, c]) []) =
      match letS n with
      | some (s, lc) => some (.ret, { ts := [(2, .ptr 0 0), (3, .lit (.int .i64 s)), (4, .lit (.bool true))], n := 55, σ := .cells 38 lc :: rest' })
      | none => some (.exit 0, { ts := [(0, .lit (.int .i64 n)), (2, .ptr 0 0), (5, .lit (.int .i64 148)), (6, .lit (.int .i64 2)), (13, .lit (.bool false))], n := 55, σ := .cells 38 [a, c] :: rest' }) := by
  obtain ⟨r1, h1⟩ := great_body n 0 0 a c [] fuel hf (.inl rfl) (by omega) (by omega)
  obtain ⟨r2, h2⟩ := great_body n 74 1 a c r1 fuel hf (.inr rfl) (by omega) (by omega)
  have h3 := great_last n 148 (.cells 38 [a, c]) r2 fuel
  obtain ⟨m, hm⟩ : ∃ m, fuel = m + 1 + 1 + 1 := ⟨fuel - 3, by omega⟩
  generalize hF : evCode C29 fuel bodyO = F at *
  rw [hm]
  unfold letS
  simp only [Int.zero_add, Int.reduceAdd] at h1 h2
  cases e1 : findR 0 n 0 rowL with
  | some p =>
    simp only [e1] at h1
    exact ⟨r1, by rw [evLoop_succ, h1, loopR_ret]⟩
  | none =>
    simp only [e1] at h1
    cases e2 : findR 1 n 74 rowL with
    | some p =>
      simp only [e2] at h2
      exact ⟨r2, by rw [evLoop_succ, h1, loopR_normal, evLoop_succ, h2, loopR_ret]⟩
    | none =>
      simp only [e2] at h2
      exact ⟨r2, by rw [evLoop_succ, h1, loopR_normal, evLoop_succ, h2, loopR_normal, evLoop_succ, h3, loopR_exit]⟩

theorem noRefs_letC (k : Nat) (g : Int) (r : VRow) (j : Int) : noRefs k (letC g r j) = true := by simp [letC, noRefs, noRef]
theorem findR_ref {g n : Int} : ∀ {l : List VRow} {k : Int} {s : Int} {lc : List PV}, findR g n k l = some (s, lc) → ∃ x re im, lc = [.lit (.int .i64 x), .lit (.complex .f64 re im)] := by
  intro l
  induction l with
  | nil => intro k s lc h; cases h
  | cons r rs ih =>
    intro k s lc h
    simp only [findR] at h
    split at h
    · injection h with h; injection h with h1 h2; subst h2; exact ⟨_, _, _, rfl⟩
    · exact ih h
theorem letS_ref {n s : Int} {lc : List PV} (h : letS n = some (s, lc)) : ∃ x re im, lc = [.lit (.int .i64 x), .lit (.complex .f64 re im)] := by
  unfold letS at h
  split at h
  · rename_i p hp; injection h with h; subst h; exact findR_ref hp
  · exact findR_ref h

theorem let_run (n : Int) : run Try.prog oL h29 29 [.lit (.int .i64 n)] [] = some (letPV (letS n), []) := by
  rw [run_eq Try.func29 (by kernel_rfl)]
  obtain ⟨rest, hl⟩ := great_loop n (.lit (.int .i64 0)) (.lit (.complex .f64 0 0)) 100000 (by omega)
  have hC : ctx Try.prog oL h29 Try.f29 = C29 := rfl
  rw [hC]
  simp only [O29, bodyO, Try.f29, fbody, sub, Option.getD_some] at hl ⊢
  cases e : letS n with
  | some p =>
    obtain ⟨s, lc⟩ := p
    obtain ⟨x, re, im, rfl⟩ := letS_ref e
    simp only [e] at hl
    simp [h29, hl, endR, retAll, retVars, retVar, St.takeC, letPV, trunc, noRef, noRefs]
  | none =>
    simp only [e] at hl
    simp [h29, hl, endR, retAll, retVars, retVar, St.takeC, letPV, zeroL, trunc, noRef, noRefs, St.putC, setBx]
theorem letPV_al (o : Option (Int × List PV)) : (letPV o).noAl = true := by cases o <;> rfl
theorem let_abs (n : Int) (σ : List Bx) : AbsCall Try.prog 29 [.lit (.int .i64 n)] σ (letPV (letS n)) σ := (run_abs wf oL_ok (let_run n)).frame (by simp [noRefs, noRef]) (letPV_al _) σ
def s29 : List PV → List Bx → Option (PV × List Bx)
  | [.lit (.int .i64 n)], σ => some (letPV (letS n), σ)
  | _, _ => none
theorem s29_ok : ∀ args σ r σ', s29 args σ = some (r, σ') → AbsCall Try.prog 29 args σ r σ' := by
  intro args σ r σ' he
  unfold s29 at he
  split at he
  · injection he with he; injection he with e1 e2; subst e1; subst e2; exact let_abs _ _
  · cases he
end Go.Proofs.Ytpbbgkmpjcddbaa
