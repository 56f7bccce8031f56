/- The model of VietSplit answers true. -/
import Derived.Test.YtpbbgkmpjcddbaaMVietSplit
import Derived.Test.YtpbbgkmpjcddbaaPviet
import Derived.Test.YtpbbgkmpjcddbaaMVietJoin
import Derived.Test.YtpbbgkmpjcddbaaMVietSign
import Derived.Test.YtpbbgkmpjcddbaaMd
set_option linter.all false
namespace Go.AM.M
open Go.AM
def splitR : viet_Split_L0_R → lontarlaw09_Split_L0_R → Prop
  | .x0 m a b, .x0 m' a' b' _ _ _ => m' = m ∧ a' = a ∧ b' = b ∧ GVietLetter.eq ⟨m, (a, b)⟩ ⟨m, (a, b)⟩ = true
  | .x1 _ _, .x1 _ _ => True
  | _, _ => False
theorem split_lock (s : Int) : ∃ r t, loopM (viet_Split_L0 s (vls, vss)) FU 0 = some r ∧ loopM (lontarlaw09_Split_L0 s) FU 0 = some t ∧ splitR r t := by
  refine loop_lock (I := fun v => 0 ≤ v ∧ v ≤ 148) (μ := fun v => (148 - v).toNat) ?_ FU 0 (by omega) (by simp [FU])
  intro v ⟨h0, h1⟩
  by_cases hv : v < 148
  · obtain ⟨l, x, e1, e2, e3, e4⟩ := vLetter h0 hv
    by_cases hx : x = s
    · refine .inr ⟨.x0 l.base l.sign.1 l.sign.2, .x0 l.base l.sign.1 l.sign.2 l.base l.sign.1 l.sign.2, ?_, ?_, rfl, rfl, rfl, e4⟩
      · simp [viet_Split_L0, vss_len, hv, e2, e3, hx]
      · simp [lontarlaw09_Split_L0, hv, e1, hx]
    · refine .inl ⟨v + 1, ?_, ?_, by omega, by omega⟩
      · simp [viet_Split_L0, vss_len, hv, e3, hx, w64_id (n := v + 1) (by omega) (by omega)]
      · simp [lontarlaw09_Split_L0, hv, e1, hx, w64_id (n := v + 1) (by omega) (by omega)]
  · refine .inr ⟨.x1 v (decide (v < 148)), .x1 v (decide (v < 148)), ?_, ?_, trivial⟩
    · simp [viet_Split_L0, vss_len, hv]
    · simp [lontarlaw09_Split_L0, hv]
theorem split_same (s : Int) : ∃ a b, viet_Split s = some a ∧ lontarlaw09_Split s = some b ∧ GVietLetter.eq a.1 b.1 = true ∧ a.2 = b.2 := by
  obtain ⟨r, t, h1, h2, h3⟩ := split_lock s
  unfold viet_Split lontarlaw09_Split
  rw [vAll, Option.bind_some, h1, h2]
  cases r <;> cases t <;> simp only [splitR] at h3
  · obtain ⟨rfl, rfl, rfl, h⟩ := h3
    exact ⟨_, _, rfl, rfl, h, rfl⟩
  · exact ⟨_, _, rfl, rfl, by kernel_rfl, rfl⟩
theorem vietSplit_true (s n : Int) (hs : (Lit.int .i64 s).wf = true) (hn : (Lit.int .u16 n).wf = true) : lontarlaw09_VietSplit s n = some true := by
  unfold lontarlaw09_VietSplit
  rw [awake09, Option.bind_some, if_pos rfl]
  have key : ∃ r, loopM (lontarlaw09_VietSplit_L0 s n) FU 0 = some r ∧ (match r with | .x2 _ _ => True | _ => False) := by
    refine loop_end (I := fun v => 0 ≤ v ∧ v ≤ 3) (μ := fun v => (3 - v).toNat) ?_ FU 0 (by omega) (by simp [FU])
    intro v ⟨h0, h1⟩
    by_cases hv : v < 3
    · obtain ⟨x, hx⟩ : ∃ x, nthI [s, (w64 (n.tmod 544)), (w64 (7824 + (w64 (n.tmod 112))))] v = some x := by
        have : v = 0 ∨ v = 1 ∨ v = 2 := by omega
        rcases this with rfl | rfl | rfl <;> exact ⟨_, rfl⟩
      obtain ⟨a, b, e1, e2, e3, e4⟩ := split_same x
      refine .inl ⟨v + 1, ?_, by omega, by omega⟩
      simp [lontarlaw09_VietSplit_L0, hv, hx, e1, e2, e3, e4, w64_id (n := v + 1) (by omega) (by omega)]
    · refine .inr ⟨.x2 v (decide (v < 3)), ?_, trivial⟩
      simp [lontarlaw09_VietSplit_L0, hv]
  obtain ⟨r, h1, h2⟩ := key
  rw [h1]
  cases r <;> first | rfl | cases h2
end Go.AM.M

/- The model of VietJoin answers true. -/
namespace Go.AM.M
open Go.AM
def joinR : viet_Join_L0_R → lontarlaw09_Join_L0_R → Prop
  | .x0 v _ _ _, .x0 v' _ _ _ => v' = v
  | .x1 _ _, .x1 _ _ => True
  | _, _ => False
theorem join_lock (b : Int) (re im : Nat) : ∃ r t, loopM (viet_Join_L0 ⟨b, (re, im)⟩ (vls, vss)) FU 0 = some r ∧ loopM (lontarlaw09_Join_L0 b re im) FU 0 = some t ∧ joinR r t := by
  refine loop_lock (I := fun v => 0 ≤ v ∧ v ≤ 148) (μ := fun v => (148 - v).toNat) ?_ FU 0 (by omega) (by simp [FU])
  intro v ⟨h0, h1⟩
  by_cases hv : v < 148
  · obtain ⟨l, x, e1, e2, e3, e4⟩ := vLetter h0 hv
    by_cases c1 : l.base = b
    · by_cases c2 : feq l.sign.1 re = true
      · by_cases c3 : feq l.sign.2 im = true
        · refine .inr ⟨.x0 x l.base l.sign.1 l.sign.2, .x0 x l.base l.sign.1 l.sign.2, ?_, ?_, rfl⟩
          · simp [viet_Join_L0, vls_len, hv, e2, e3, GVietLetter.eq, ceq, c1, c2, c3]
          · simp [lontarlaw09_Join_L0, hv, e1, c1, c2, c3]
        · refine .inl ⟨v + 1, ?_, ?_, by omega, by omega⟩
          · simp [viet_Join_L0, vls_len, hv, e2, e3, GVietLetter.eq, ceq, c1, c2, c3, w64_id (n := v + 1) (by omega) (by omega)]
          · simp [lontarlaw09_Join_L0, hv, e1, c1, c2, c3, w64_id (n := v + 1) (by omega) (by omega)]
      · refine .inl ⟨v + 1, ?_, ?_, by omega, by omega⟩
        · simp [viet_Join_L0, vls_len, hv, e2, e3, GVietLetter.eq, ceq, c1, c2, w64_id (n := v + 1) (by omega) (by omega)]
        · simp [lontarlaw09_Join_L0, hv, e1, c1, c2, w64_id (n := v + 1) (by omega) (by omega)]
    · refine .inl ⟨v + 1, ?_, ?_, by omega, by omega⟩
      · simp [viet_Join_L0, vls_len, hv, e2, e3, GVietLetter.eq, ceq, c1, w64_id (n := v + 1) (by omega) (by omega)]
      · simp [lontarlaw09_Join_L0, hv, e1, c1, w64_id (n := v + 1) (by omega) (by omega)]
  · refine .inr ⟨.x1 v (decide (v < 148)), .x1 v (decide (v < 148)), ?_, ?_, trivial⟩
    · simp [viet_Join_L0, vls_len, hv]
    · simp [lontarlaw09_Join_L0, hv]
theorem join_same (b : Int) (re im : Nat) : ∃ a, viet_Join ⟨b, (re, im)⟩ = some a ∧ lontarlaw09_Join b re im = some a := by
  obtain ⟨r, t, h1, h2, h3⟩ := join_lock b re im
  unfold viet_Join lontarlaw09_Join
  rw [vAll, Option.bind_some, h1, h2]
  cases r <;> cases t <;> simp only [joinR] at h3
  · subst h3
    exact ⟨_, rfl, rfl⟩
  · exact ⟨_, rfl, rfl⟩
theorem base_k : ((List.range 256).all fun (n : Nat) => (strI (ByteArray.mk #[97, 101, 105, 111, 117, 121, 100, 65, 69, 73, 79, 85, 89, 68, 120, 122]) ((n : Int).tmod 16)).isSome) = true := by kernel_rfl
theorem vietJoin_true (base mark tone : Int) (re im : Nat) (hb : (Lit.int .u8 base).wf = true) : lontarlaw09_VietJoin base mark tone re im = some true := by
  unfold lontarlaw09_VietJoin
  rw [awake09, Option.bind_some, if_pos rfl]
  obtain ⟨c, hc⟩ := Option.isSome_iff_exists.1 (upto (p := fun n => (strI (ByteArray.mk #[97, 101, 105, 111, 117, 121, 100, 65, 69, 73, 79, 85, 89, 68, 120, 122]) (n.tmod 16)).isSome) base_k (wf_u8 hb).1 (wf_u8 hb).2)
  rw [hc, Option.bind_some]
  have key : ∃ r, loopM (lontarlaw09_VietJoin_L0 mark tone re im c) FU 0 = some r ∧ (match r with | .x2 _ _ => True | _ => False) := by
    refine loop_end (I := fun v => 0 ≤ v ∧ v ≤ 4) (μ := fun v => (4 - v).toNat) ?_ FU 0 (by omega) (by simp [FU])
    intro v ⟨h0, h1⟩
    by_cases hv : v < 4
    · obtain ⟨x, hx⟩ : ∃ x, nthI [((i2f (mark.tmod 6)), (i2f (tone.tmod 7))), (re, (i2f (tone.tmod 7))), ((i2f (mark.tmod 6)), im), (re, im)] v = some x := by
        have : v = 0 ∨ v = 1 ∨ v = 2 ∨ v = 3 := by omega
        rcases this with rfl | rfl | rfl | rfl <;> exact ⟨_, rfl⟩
      obtain ⟨a, e1, e2⟩ := join_same (w64 c) x.1 x.2
      refine .inl ⟨v + 1, ?_, by omega, by omega⟩
      simp [lontarlaw09_VietJoin_L0, hv, hx, e1, e2, w64_id (n := v + 1) (by omega) (by omega)]
    · refine .inr ⟨.x2 v (decide (v < 4)), ?_, trivial⟩
      simp [lontarlaw09_VietJoin_L0, hv]
  obtain ⟨r, h1, h2⟩ := key
  rw [h1]
  cases r <;> first | rfl | cases h2
end Go.AM.M

/- The model of VietSign answers true. -/
namespace Go.AM.M
open Go.AM
theorem ceq00 : (ceq 0 0 0 0 && (false == false)) = true := by kernel_rfl
def sgMarks : (List Int) × (List (Nat × Nat)) := (lontarlaw09_Marks.getD ([], []))
theorem sgMarks_eq : lontarlaw09_Marks = some sgMarks := by kernel_rfl
def sgList : List Int := [774, 770, 795, 768, 769, 777, 771, 803]
theorem sgMarks_fst : sgMarks.1 = sgList := by kernel_rfl
def signOk (x : Int) : Bool := match viet_Sign x, loopM (lontarlaw09_VietSign_L1 sgMarks x) FU (0, 0, false, 0) with
  | some a, some (z, w, i, _, _) => ceq a.1.1 a.1.2 z w && a.2 == i
  | _, _ => false
theorem sign_k : (sgList.all signOk) = true := by kernel_rfl
theorem sign_all (x : Int) : signOk x = true := by
  by_cases hx : x ∈ sgList
  · exact List.all_eq_true.1 sign_k x hx
  · have key : ∃ r, loopM (lontarlaw09_VietSign_L1 sgMarks x) FU (0, 0, false, 0) = some r ∧ (r.1 = 0 ∧ r.2.1 = 0 ∧ r.2.2.1 = false) := by
      refine loop_end (I := fun v => v.1 = 0 ∧ v.2.1 = 0 ∧ v.2.2.1 = false ∧ 0 ≤ v.2.2.2 ∧ v.2.2.2 ≤ 8) (μ := fun v => (8 - v.2.2.2).toNat) ?_ FU (0, 0, false, 0) ⟨rfl, rfl, rfl, by simp, by simp⟩ (by simp [FU])
      rintro ⟨z, w, i, v⟩ ⟨rfl, rfl, rfl, h0, h1⟩
      simp only at h0 h1
      by_cases hv : v < 8
      · have h8 : v.toNat < sgList.length := by show v.toNat < 8; omega
        have hy : nthI sgList v = some sgList[v.toNat] := by unfold nthI; rw [if_pos h0]; exact List.getElem?_eq_getElem h8
        have hne : sgList[v.toNat] ≠ x := fun e => hx (e ▸ List.getElem_mem h8)
        refine .inl ⟨(0, 0, false, v + 1), ?_, ⟨rfl, rfl, rfl, by simp only; omega, by simp only; omega⟩, by simp only; omega⟩
        have hl : (sgList.length : Int) = 8 := rfl
        simp only [lontarlaw09_VietSign_L1, sgMarks_fst, hl, if_pos hv, hy, Option.bind_some, if_neg hne, w64_id (n := v + 1) (by omega) (by omega)]
      · refine .inr ⟨(0, 0, false, v, decide (v < 8)), ?_, rfl, rfl, rfl⟩
        have hl : (sgList.length : Int) = 8 := rfl
        simp only [lontarlaw09_VietSign_L1, sgMarks_fst, hl, if_neg hv]
    obtain ⟨⟨z, w, i, v, b⟩, h1, h2, h3, h4⟩ := key
    simp only at h2 h3 h4
    subst h2; subst h3; subst h4
    have hs : viet_Sign x = some ((0, 0), false) := by
      simp only [sgList, List.mem_cons, not_or, List.not_mem_nil] at hx
      simp [viet_Sign, hx]
    unfold signOk
    rw [hs, h1]
    show (ceq 0 0 0 0 && (false == false)) = true
    exact ceq00
theorem vietSign_true (s n : Int) : lontarlaw09_VietSign s n = some true := by
  unfold lontarlaw09_VietSign
  rw [awake09, Option.bind_some, if_pos rfl, sgMarks_eq, Option.bind_some]
  have key : ∃ r, loopM (lontarlaw09_VietSign_L0 s n sgMarks) FU 0 = some r ∧ (match r with | .x2 _ _ => True | _ => False) := by
    refine loop_end (I := fun v => 0 ≤ v ∧ v ≤ 2) (μ := fun v => (2 - v).toNat) ?_ FU 0 (by omega) (by simp [FU])
    intro v ⟨h0, h1⟩
    by_cases hv : v < 2
    · obtain ⟨x, hx⟩ : ∃ x, nthI [s, (w64 (768 + (w64 (n.tmod 48))))] v = some x := by
        have : v = 0 ∨ v = 1 := by omega
        rcases this with rfl | rfl <;> exact ⟨_, rfl⟩
      have hg := sign_all x
      unfold signOk at hg
      split at hg
      · rename_i a z w i u t e1 e2
        obtain ⟨g1, g2⟩ := Bool.and_eq_true_iff.1 hg
        have g3 := beq_iff_eq.1 g2
        refine .inl ⟨v + 1, ?_, by omega, by omega⟩
        simp [lontarlaw09_VietSign_L0, hv, hx, e1, e2, g1, g3, w64_id (n := v + 1) (by omega) (by omega)]
      · cases hg
    · refine .inr ⟨.x2 v (decide (v < 2)), ?_, trivial⟩
      simp [lontarlaw09_VietSign_L0, hv]
  obtain ⟨r, h1, h2⟩ := key
  rw [h1]
  cases r <;> first | rfl | cases h2
end Go.AM.M

/- The automaton of letters and marks: what the kernel sees of the models. -/
namespace Go.AM.M
open Go.AM
def signT (s : Int) : Option (Nat × Nat) := match viet_Sign s with
  | some (z, true) => some z
  | _ => none
def splitT (s : Int) : Option GVietLetter := match viet_Split s with
  | some (l, true) => some l
  | _ => none
def joinT (l : GVietLetter) : Int := match viet_Join l with
  | some (j, _) => j
  | none => 0
def fitT (l : GVietLetter) (s : Int) : Option GVietLetter := match signT s with
  | some z => match viet_Add l z with
    | some (l', true) => some l'
    | _ => none
  | none => none
/-- A letter of the table. -/
def isL (l : GVietLetter) : Prop := ∃ v : Int, 0 ≤ v ∧ v < 148 ∧ nthI vls v = some l
theorem sign_miss {x : Int} (hx : x ∉ sgList) : viet_Sign x = some ((0, 0), false) := by
  simp only [sgList, List.mem_cons, not_or, List.not_mem_nil] at hx
  simp [viet_Sign, hx]
theorem sign_some (x : Int) : ∃ z b, viet_Sign x = some (z, b) := by
  have h := sign_all x
  unfold signOk at h
  split at h
  · rename_i a _ _ _ _ _ e _
    exact ⟨a.1, a.2, e⟩
  · cases h
def sign10Ok (x : Int) : Bool := match viet_Sign x, lontarlaw10_sign x with
  | some a, some b => a.1.1 == b.1.1 && a.1.2 == b.1.2 && a.2 == b.2
  | _, _ => false
theorem sign10_k : (sgList.all sign10Ok) = true := by kernel_rfl
theorem sign10 (x : Int) : lontarlaw10_sign x = viet_Sign x := by
  by_cases hx : x ∈ sgList
  · have h := List.all_eq_true.1 sign10_k x hx
    unfold sign10Ok at h
    split at h
    · rename_i a b e1 e2
      simp only [Bool.and_eq_true, beq_iff_eq] at h
      rw [e1, e2]
      exact congrArg some (Prod.ext_iff.2 ⟨Prod.ext_iff.2 ⟨h.1.1.symm, h.1.2.symm⟩, h.2.symm⟩)
    · cases h
  · rw [sign_miss hx]
    unfold lontarlaw10_sign
    rw [sgMarks_eq, Option.bind_some]
    have key : ∃ r, loopM (lontarlaw10_sign_L0 x sgMarks) FU 0 = some r ∧ (match r with | .x1 _ _ => True | _ => False) := by
      refine loop_end (I := fun v => 0 ≤ v ∧ v ≤ 8) (μ := fun v => (8 - v).toNat) ?_ FU 0 (by omega) (by simp [FU])
      intro v ⟨h0, h1⟩
      have hl : (sgList.length : Int) = 8 := rfl
      by_cases hv : v < 8
      · have h8 : v.toNat < sgList.length := by show v.toNat < 8; omega
        have hy : nthI sgList v = some sgList[v.toNat] := by unfold nthI; rw [if_pos h0]; exact List.getElem?_eq_getElem h8
        have hne : sgList[v.toNat] ≠ x := fun e => hx (e ▸ List.getElem_mem h8)
        refine .inl ⟨v + 1, ?_, by omega, by omega⟩
        simp only [lontarlaw10_sign_L0, sgMarks_fst, hl, if_pos hv, hy, Option.bind_some, if_neg hne, w64_id (n := v + 1) (by omega) (by omega)]
      · refine .inr ⟨.x1 v (decide (v < 8)), ?_, trivial⟩
        simp only [lontarlaw10_sign_L0, sgMarks_fst, hl, if_neg hv]
    obtain ⟨r, h1, h2⟩ := key
    rw [h1]
    cases r <;> first | rfl | cases h2
def splitR2 (s : Int) : viet_Split_L0_R → lontarlaw09_Split_L0_R → Prop
  | .x0 m a b, .x0 m' a' b' _ _ _ => m' = m ∧ a' = a ∧ b' = b ∧ ∃ v : Int, 0 ≤ v ∧ v < 148 ∧ nthI vls v = some ⟨m, (a, b)⟩ ∧ nthI vss v = some s
  | .x1 _ _, .x1 _ _ => True
  | _, _ => False
theorem split_lock2 (s : Int) : ∃ r t, loopM (viet_Split_L0 s (vls, vss)) FU 0 = some r ∧ loopM (lontarlaw09_Split_L0 s) FU 0 = some t ∧ splitR2 s r t := by
  refine loop_lock (I := fun v => 0 ≤ v ∧ v ≤ 148) (μ := fun v => (148 - v).toNat) ?_ FU 0 (by omega) (by simp [FU])
  intro v ⟨h0, h1⟩
  by_cases hv : v < 148
  · obtain ⟨l, x, e1, e2, e3, e4⟩ := vLetter h0 hv
    by_cases hx : x = s
    · refine .inr ⟨.x0 l.base l.sign.1 l.sign.2, .x0 l.base l.sign.1 l.sign.2 l.base l.sign.1 l.sign.2, ?_, ?_, rfl, rfl, rfl, v, h0, hv, e2, hx ▸ e3⟩
      · simp [viet_Split_L0, vss_len, hv, e2, e3, hx]
      · simp [lontarlaw09_Split_L0, hv, e1, hx]
    · refine .inl ⟨v + 1, ?_, ?_, by omega, by omega⟩
      · simp [viet_Split_L0, vss_len, hv, e3, hx, w64_id (n := v + 1) (by omega) (by omega)]
      · simp [lontarlaw09_Split_L0, hv, e1, hx, w64_id (n := v + 1) (by omega) (by omega)]
  · refine .inr ⟨.x1 v (decide (v < 148)), .x1 v (decide (v < 148)), ?_, ?_, trivial⟩
    · simp [viet_Split_L0, vss_len, hv]
    · simp [lontarlaw09_Split_L0, hv]
/-- What a split is. -/
theorem split_eq (s : Int) : lontarlaw09_Split s = viet_Split s ∧ ((viet_Split s = some (⟨0, (0, 0)⟩, false) ∧ splitT s = none) ∨ ∃ l, viet_Split s = some (l, true) ∧ splitT s = some l ∧ ∃ v : Int, 0 ≤ v ∧ v < 148 ∧ nthI vls v = some l ∧ nthI vss v = some s) := by
  obtain ⟨r, t, h1, h2, h3⟩ := split_lock2 s
  cases r <;> cases t <;> simp only [splitR2] at h3
  · obtain ⟨rfl, rfl, rfl, h⟩ := h3
    rename_i m a b c d e
    have e1 : viet_Split s = some (⟨m, (a, b)⟩, true) := by unfold viet_Split; rw [vAll, Option.bind_some, h1, Option.bind_some]
    have e2 : lontarlaw09_Split s = some (⟨m, (a, b)⟩, true) := by unfold lontarlaw09_Split; rw [h2, Option.bind_some]
    exact ⟨by rw [e1, e2], .inr ⟨_, e1, by unfold splitT; rw [e1], h⟩⟩
  · have e1 : viet_Split s = some (⟨0, (0, 0)⟩, false) := by unfold viet_Split; rw [vAll, Option.bind_some, h1, Option.bind_some]
    have e2 : lontarlaw09_Split s = some (⟨0, (0, 0)⟩, false) := by unfold lontarlaw09_Split; rw [h2, Option.bind_some]
    exact ⟨by rw [e1, e2], .inl ⟨e1, by unfold splitT; rw [e1]⟩⟩
end Go.AM.M

/- The automaton of letters and marks: a letter, and a sign more. -/
namespace Go.AM.M
open Go.AM
def freeB (l : GVietLetter) (z : Nat × Nat) : Bool := (feq l.sign.1 0 || feq z.1 0) && (feq l.sign.2 0 || feq z.2 0)
def joinB (l : GVietLetter) : Bool := match viet_Join l with
  | some (_, b) => b
  | none => false
def inB (l : GVietLetter) : Bool := vls.any (fun t => t.base == l.base && t.sign.1 == l.sign.1 && t.sign.2 == l.sign.2)
def addOk (l : GVietLetter) (s : Int) : Bool := match viet_Sign s with
  | some (z, true) => match fmul l.sign.1 z.1, fmul l.sign.2 z.2, fadd l.sign.1 z.1, fadd l.sign.2 z.2 with
    | some p, some q, some re, some im => (freeB l z == (feq p 0 && feq q 0)) && (!(feq p 0 && feq q 0) || inB ⟨l.base, (re, im)⟩ || !(joinB ⟨l.base, (re, im)⟩))
    | _, _, _, _ => false
  | _ => false
def rowOk (v : Int) : Bool := match nthI vls v with
  | some l => joinB l && sgList.all (addOk l)
  | none => false
theorem rowOk0 : ((List.range 37).all fun v => rowOk v) = true := by kernel_rfl
theorem rowOk1 : ((List.range 37).all fun v => rowOk (37 + v)) = true := by kernel_rfl
theorem rowOk2 : ((List.range 37).all fun v => rowOk (74 + v)) = true := by kernel_rfl
theorem rowOk3 : ((List.range 37).all fun v => rowOk (111 + v)) = true := by kernel_rfl
theorem rowOk_all {v : Int} (h0 : 0 ≤ v) (h1 : v < 148) : rowOk v = true := by
  by_cases c1 : v < 37
  · exact upto (p := rowOk) rowOk0 h0 (by omega)
  · by_cases c2 : v < 74
    · have := upto (p := fun n => rowOk (37 + n)) rowOk1 (n := v - 37) (by omega) (by omega)
      rwa [show 37 + (v - 37) = v by omega] at this
    · by_cases c3 : v < 111
      · have := upto (p := fun n => rowOk (74 + n)) rowOk2 (n := v - 74) (by omega) (by omega)
        rwa [show 74 + (v - 74) = v by omega] at this
      · have := upto (p := fun n => rowOk (111 + n)) rowOk3 (n := v - 111) (by omega) (by omega)
        rwa [show 111 + (v - 111) = v by omega] at this
end Go.AM.M

/- What comes together, as a plain function on lists. -/
namespace Go.AM.M
open Go.AM
theorem inB_isL {l : GVietLetter} (h : inB l = true) : isL l := by
  unfold inB at h
  obtain ⟨t, ht, he⟩ := List.any_eq_true.1 h
  simp only [Bool.and_eq_true, beq_iff_eq] at he
  have : t = l := by
    cases t; cases l; simp only at he; simp only [GVietLetter.mk.injEq, Prod.ext_iff]; exact ⟨he.1.1, he.1.2, he.2⟩
  subst this
  obtain ⟨i, hi, hx⟩ := List.getElem_of_mem ht
  refine ⟨i, by omega, by rw [vls_len] at hi; omega, ?_⟩
  unfold nthI
  rw [if_pos (by omega), Int.toNat_natCast, List.getElem?_eq_getElem hi, hx]
theorem isL_row {l : GVietLetter} (h : isL l) : joinB l = true ∧ sgList.all (addOk l) = true := by
  obtain ⟨v, h0, h1, h2⟩ := h
  have := rowOk_all h0 h1
  unfold rowOk at this
  rw [h2] at this
  exact Bool.and_eq_true_iff.1 this
theorem join_some (l : GVietLetter) : ∃ j b, viet_Join l = some (j, b) ∧ lontarlaw09_Join l.base l.sign.1 l.sign.2 = some (j, b) := by
  obtain ⟨a, h1, h2⟩ := join_same l.base l.sign.1 l.sign.2
  exact ⟨a.1, a.2, h1, h2⟩
theorem join_isL {l : GVietLetter} (h : isL l) : viet_Join l = some (joinT l, true) ∧ lontarlaw09_Join l.base l.sign.1 l.sign.2 = some (joinT l, true) := by
  obtain ⟨j, b, h1, h2⟩ := join_some l
  have h3 := (isL_row h).1
  unfold joinB at h3
  rw [h1] at h3
  have h3 : b = true := h3
  subst h3
  have : joinT l = j := by unfold joinT; rw [h1]
  rw [this]
  exact ⟨h1, h2⟩
/-- A sign behind a letter: what both roads reckon. -/
theorem add_sign {l : GVietLetter} (h : isL l) {s : Int} {z : Nat × Nat} (hs : viet_Sign s = some (z, true)) :
    ∃ p q re im j jb, fmul l.sign.1 z.1 = some p ∧ fmul l.sign.2 z.2 = some q ∧ fadd l.sign.1 z.1 = some re ∧ fadd l.sign.2 z.2 = some im ∧
      viet_Join ⟨l.base, (re, im)⟩ = some (j, jb) ∧ lontarlaw09_Join l.base re im = some (j, jb) ∧
      ((feq p 0 && feq q 0) = true → jb = true → fitT l s = some ⟨l.base, (re, im)⟩ ∧ viet_Add l z = some (⟨l.base, (re, im)⟩, true) ∧ isL ⟨l.base, (re, im)⟩) ∧
      (¬ ((feq p 0 && feq q 0) = true ∧ jb = true) → fitT l s = none ∧ viet_Add l z = some (l, false)) := by
  have hm : s ∈ sgList := by
    by_cases hx : s ∈ sgList
    · exact hx
    · rw [sign_miss hx] at hs; cases hs
  have ha := List.all_eq_true.1 (isL_row h).2 s hm
  unfold addOk at ha
  rw [hs] at ha
  simp only at ha
  split at ha
  · rename_i p q re im e1 e2 e3 e4
    obtain ⟨j, jb, k1, k2⟩ := join_some ⟨l.base, (re, im)⟩
    obtain ⟨g1, g2⟩ := Bool.and_eq_true_iff.1 ha
    have g1 := beq_iff_eq.1 g1
    have hsT : signT s = some z := by unfold signT; rw [hs]
    have hadd : viet_Add l z = if freeB l z = true then (if jb = true then some (⟨l.base, (re, im)⟩, true) else some (l, false)) else some (l, false) := by
      unfold viet_Add freeB
      rw [e3, e4]
      simp only [Option.bind_some, k1]
      by_cases c1 : feq l.sign.1 0 = true <;> by_cases c2 : feq l.sign.2 0 = true <;> by_cases c3 : feq z.1 0 = true <;> by_cases c4 : feq z.2 0 = true <;> simp [c1, c2, c3, c4]
    refine ⟨p, q, re, im, j, jb, e1, e2, e3, e4, k1, k2, fun hp hj => ?_, fun hn => ?_⟩
    · rw [g1, if_pos hp, if_pos hj] at hadd
      refine ⟨by unfold fitT; rw [hsT]; simp only [hadd], hadd, ?_⟩
      rw [hp] at g2
      have hjb : joinB ⟨l.base, (re, im)⟩ = true := by unfold joinB; rw [k1]; exact hj
      rw [hjb] at g2
      simp only [Bool.not_true, Bool.false_or, Bool.or_false] at g2
      exact inB_isL g2
    · have : viet_Add l z = some (l, false) := by
        rw [hadd]
        by_cases c : freeB l z = true
        · rw [if_pos c]
          by_cases cj : jb = true
          · exact absurd ⟨by rw [← g1]; exact c, cj⟩ hn
          · rw [if_neg cj]
        · rw [if_neg c]
      exact ⟨by unfold fitT; rw [hsT]; simp only [this], this⟩
  · cases ha
theorem fit_isL {l l' : GVietLetter} (h : isL l) {s : Int} (hf : fitT l s = some l') : isL l' := by
  obtain ⟨z, b, hz⟩ := sign_some s
  cases b with
  | false => unfold fitT signT at hf; rw [hz] at hf; cases hf
  | true =>
    obtain ⟨p, q, re, im, j, jb, _, _, _, _, _, _, k1, k2⟩ := add_sign h hz
    by_cases c : (feq p 0 && feq q 0) = true ∧ jb = true
    · obtain ⟨m1, _, m3⟩ := k1 c.1 c.2
      rw [m1] at hf
      exact Option.some.inj hf ▸ m3
    · rw [(k2 c).1] at hf; cases hf
theorem split_isL {s : Int} {l : GVietLetter} (h : splitT s = some l) : isL l := by
  rcases (split_eq s).2 with ⟨_, h2⟩ | ⟨m, _, h2, v, h3, h4, h5, _⟩
  · rw [h2] at h; cases h
  · rw [h2] at h
    exact Option.some.inj h ▸ ⟨v, h3, h4, h5⟩

/-- What comes of scalars, one letter waiting or none. -/
def canS (f : Option GVietLetter → List Int) (s : Int) : List Int := match splitT s with
  | some m => f (some m)
  | none => s :: f none
def canT (f : Option GVietLetter → List Int) (l : GVietLetter) (s : Int) : List Int := match fitT l s with
  | some l' => f (some l')
  | none => joinT l :: canS f s
def canL : List Int → Option GVietLetter → List Int
  | [], none => []
  | [], some l => [joinT l]
  | s :: r, none => canS (canL r) s
  | s :: r, some l => canT (canL r) l s
def canG (o : Option GVietLetter) (x : List Int) : List Int := canL x o
theorem canG_nil : canG none [] = [] := rfl
theorem canG_one (l : GVietLetter) : canG (some l) [] = [joinT l] := rfl
theorem canG_none {s : Int} {r : List Int} (h : splitT s = none) : canG none (s :: r) = s :: canG none r := by
  show canS (canL r) s = _
  unfold canS; rw [h]; rfl
theorem canG_split {s : Int} {r : List Int} {m : GVietLetter} (h : splitT s = some m) : canG none (s :: r) = canG (some m) r := by
  show canS (canL r) s = _
  unfold canS; rw [h]; rfl
theorem canG_fit {l l' : GVietLetter} {s : Int} {r : List Int} (h : fitT l s = some l') : canG (some l) (s :: r) = canG (some l') r := by
  show canT (canL r) l s = _
  unfold canT; rw [h]; rfl
theorem canG_miss {l : GVietLetter} {s : Int} {r : List Int} (h : fitT l s = none) : canG (some l) (s :: r) = joinT l :: canG none (s :: r) := by
  show canT (canL r) l s = _
  unfold canT; rw [h]; rfl
end Go.AM.M

/- The model of vcanon.All is the plain function. -/
namespace Go.AM.M
open Go.AM
theorem drop_cons {x : List Int} {v : Int} (h0 : 0 ≤ v) (h1 : v < (x.length : Int)) : ∃ s, nthI x v = some s ∧ x.drop v.toNat = s :: x.drop (v + 1).toNat := by
  have h2 : v.toNat < x.length := by omega
  refine ⟨x[v.toNat], ?_, ?_⟩
  · unfold nthI; rw [if_pos h0]; exact List.getElem?_eq_getElem h2
  · rw [List.drop_eq_getElem_cons h2]
    have : (v + 1).toNat = v.toNat + 1 := by omega
    rw [this]
theorem put_F (b0 : Int) (z0 : Nat × Nat) (s : Int) : vcanon_Canon_Put ⟨b0, z0, false⟩ s = some (match splitT s with
    | some m => ([], ⟨m.base, m.sign, true⟩)
    | none => ([s], ⟨b0, z0, false⟩)) := by
  obtain ⟨z, b, hz⟩ := sign_some s
  rcases (split_eq s).2 with ⟨h1, h2⟩ | ⟨m, h1, h2, _⟩ <;> cases b <;> simp [vcanon_Canon_Put, vcanon_Canon_End, hz, h1, h2, guardO]
theorem put_T {l : GVietLetter} (h : isL l) (s : Int) : vcanon_Canon_Put ⟨l.base, l.sign, true⟩ s = some (match fitT l s with
    | some l' => ([], ⟨l'.base, l'.sign, true⟩)
    | none => match splitT s with
      | some m => ([joinT l], ⟨m.base, m.sign, true⟩)
      | none => ([joinT l, s], ⟨l.base, l.sign, false⟩)) := by
  obtain ⟨z, b, hz⟩ := sign_some s
  have hj := (join_isL h).1
  have hl : (⟨l.base, l.sign⟩ : GVietLetter) = l := rfl
  cases b with
  | false =>
    have hf : fitT l s = none := by unfold fitT signT; rw [hz]
    rcases (split_eq s).2 with ⟨h1, h2⟩ | ⟨m, h1, h2, _⟩ <;> simp [vcanon_Canon_Put, vcanon_Canon_End, hz, hj, hf, h1, h2, guardO]
  | true =>
    obtain ⟨p, q, re, im, j, jb, _, _, _, _, _, _, k1, k2⟩ := add_sign h hz
    by_cases c : (feq p 0 && feq q 0) = true ∧ jb = true
    · obtain ⟨m1, m2, m3⟩ := k1 c.1 c.2
      simp [vcanon_Canon_Put, hz, m2, m1]
    · obtain ⟨m1, m2⟩ := k2 c
      rcases (split_eq s).2 with ⟨h1, h2⟩ | ⟨m, h1, h2, _⟩ <;> simp [vcanon_Canon_Put, vcanon_Canon_End, hz, hj, m1, m2, h1, h2, guardO]
def stOf (b : Int) (re im : Nat) : Bool → Option GVietLetter
  | true => some ⟨b, (re, im)⟩
  | false => none
theorem all_loop (x T : List Int) (hx : x.length ≤ 2 ^ 40) (hT : canG none x = T) : ∃ r, loopM (vcanon_All_L0 x) FU ([], 0, 0, 0, 0, false) = some r ∧
    (r.1 ++ canG (stOf r.2.2.2.1 r.2.2.2.2.1 r.2.2.2.2.2.1 r.2.2.2.2.2.2) [] = T ∧ (r.2.2.2.2.2.2 = true → isL ⟨r.2.2.2.1, (r.2.2.2.2.1, r.2.2.2.2.2.1)⟩) ∧ r.1.length ≤ 2 * x.length) := by
  refine loop_end (I := fun (v : List Int × Int × Int × Nat × Nat × Bool) => 0 ≤ v.2.1 ∧ v.2.1 ≤ (x.length : Int) ∧ v.1.length ≤ 2 * v.2.1.toNat ∧ (v.2.2.2.2.2 = true → isL ⟨v.2.2.1, (v.2.2.2.1, v.2.2.2.2.1)⟩) ∧ v.1 ++ canG (stOf v.2.2.1 v.2.2.2.1 v.2.2.2.2.1 v.2.2.2.2.2) (x.drop v.2.1.toNat) = T)
    (μ := fun (v : List Int × Int × Int × Nat × Nat × Bool) => ((x.length : Int) - v.2.1).toNat) ?_ FU ([], 0, 0, 0, 0, false) ⟨by simp, by simp, by simp, by simp, by simpa [stOf] using hT⟩ (by simp [FU]; omega)
  rintro ⟨out, v, m, re, im, b⟩ ⟨h0, h1, h2, h3, h4⟩
  simp only at h0 h1 h2 h3 h4
  by_cases hv : v < (x.length : Int)
  · obtain ⟨s, hs, hd⟩ := drop_cons h0 hv
    have hw : w64 (v + 1) = v + 1 := w64_id (by omega) (by omega)
    have hg : ∀ n : Nat, n ≤ 2 → (out.length + n) * 8 ≤ 2 ^ 46 := fun n hn => by omega
    rw [hd] at h4
    have fin : ∀ (q : List Int) (c : GVcanonCanon), vcanon_Canon_Put ⟨m, (re, im), b⟩ s = some (q, c) → q.length ≤ 2 → (c.is = true → isL ⟨c.letter_base, c.letter_sign⟩) →
        out ++ canG (stOf m re im b) (s :: x.drop (v + 1).toNat) = (out ++ q) ++ canG (stOf c.letter_base c.letter_sign.1 c.letter_sign.2 c.is) (x.drop (v + 1).toNat) → _ := fun q c e1 e2 e3 e4 =>
      show (∃ a', vcanon_All_L0 x (out, v, m, re, im, b) = some (.inl a') ∧ (0 ≤ a'.2.1 ∧ a'.2.1 ≤ x.length ∧ a'.1.length ≤ 2 * a'.2.1.toNat ∧ (a'.2.2.2.2.2 = true → isL ⟨a'.2.2.1, (a'.2.2.2.1, a'.2.2.2.2.1)⟩) ∧ a'.1 ++ canG (stOf a'.2.2.1 a'.2.2.2.1 a'.2.2.2.2.1 a'.2.2.2.2.2) (x.drop a'.2.1.toNat) = T) ∧ ((x.length : Int) - a'.2.1).toNat < ((x.length : Int) - v).toNat) from
      ⟨(out ++ q, v + 1, c.letter_base, c.letter_sign.1, c.letter_sign.2, c.is), by simp only [vcanon_All_L0, if_pos hv, hs, Option.bind_some, e1, hw, guardO, if_pos (hg q.length e2)],
        ⟨by simp only; omega, by simp only; omega, by simp only [List.length_append]; omega, e3, by rw [← h4]; exact e4.symm⟩, by simp only; omega⟩
    refine .inl ?_
    cases b with
    | false =>
      have hp := put_F m (re, im) s
      cases hsp : splitT s with
      | none =>
        rw [hsp] at hp
        exact fin _ _ hp (by simp) (by simp) (by simp [stOf, canG_none hsp])
      | some l =>
        rw [hsp] at hp
        exact fin _ _ hp (by simp) (fun _ => split_isL hsp) (by simp [stOf, canG_split hsp])
    | true =>
      have hL := h3 rfl
      have hp := put_T hL s
      cases hf : fitT ⟨m, (re, im)⟩ s with
      | some l' =>
        rw [hf] at hp
        exact fin _ _ hp (by simp) (fun _ => fit_isL hL hf) (by simp [stOf, canG_fit hf])
      | none =>
        rw [hf] at hp
        cases hsp : splitT s with
        | none =>
          rw [hsp] at hp
          exact fin _ _ hp (by simp) (by simp) (by simp [stOf, canG_miss hf, canG_none hsp])
        | some l =>
          rw [hsp] at hp
          exact fin _ _ hp (by simp) (fun _ => split_isL hsp) (by simp [stOf, canG_miss hf, canG_split hsp])
  · have hn : v = x.length := by omega
    subst hn
    refine .inr ⟨(out, (x.length : Int), decide ((x.length : Int) < (x.length : Int)), m, re, im, b), by simp only [vcanon_All_L0, if_neg hv], ?_, h3, by simp only; omega⟩
    simpa using h4
theorem all_eq (x : List Int) (hx : x.length ≤ 2 ^ 40) : vcanon_All x = some (canG none x) := by
  obtain ⟨⟨out, v, t, m, re, im, b⟩, h1, h2, h3, h4⟩ := all_loop x _ hx rfl
  simp only at h2 h3 h4
  unfold vcanon_All
  rw [h1]
  simp only [Option.bind_some]
  cases b with
  | false =>
    simp only [stOf, canG_nil, List.append_nil] at h2
    have hl := congrArg List.length h2
    simp [vcanon_Canon_End, guardO, h2]
    omega
  | true =>
    have hj := (join_isL (h3 rfl)).1
    simp only [stOf, canG_one] at h2
    simp [vcanon_Canon_End, hj, guardO, h2]
    omega
end Go.AM.M

/- The model of the law's own road is the plain function too; and what the laws of chapter 10 ask besides. -/
namespace Go.AM.M
open Go.AM
def endOf : lontarlaw10_canon_L1_R → Int × Nat × Nat
  | .x0 k _ _ _ re im => (k, re, im)
  | .x1 k _ _ _ re im => (k, re, im)
  | .x2 k _ _ re im => (k, re, im)
  | .x3 k _ _ re im => (k, re, im)
  | .x4 k _ re im => (k, re, im)
theorem canon_inner (x : List Int) (l : GVietLetter) (k : Int) (U : List Int) (hx : x.length ≤ 2 ^ 40) (h0 : 0 ≤ k) (h1 : k ≤ x.length) (hL : isL l) (hU : canG (some l) (x.drop k.toNat) = U) :
    ∃ r, loopM (lontarlaw10_canon_L1 x (l, true)) FU (k, l.sign.1, l.sign.2) = some r ∧
      (k ≤ (endOf r).1 ∧ (endOf r).1 ≤ x.length ∧ isL ⟨l.base, (endOf r).2⟩ ∧ joinT ⟨l.base, (endOf r).2⟩ :: canG none (x.drop (endOf r).1.toNat) = U) := by
  refine loop_end (I := fun (v : Int × Nat × Nat) => k ≤ v.1 ∧ v.1 ≤ (x.length : Int) ∧ isL ⟨l.base, v.2⟩ ∧ canG (some ⟨l.base, v.2⟩) (x.drop v.1.toNat) = U) (μ := fun (v : Int × Nat × Nat) => ((x.length : Int) - v.1).toNat) ?_ FU (k, l.sign.1, l.sign.2) ⟨by simp, h1, hL, hU⟩ (by simp [FU]; omega)
  rintro ⟨v, re, im⟩ ⟨k0, k1, k2, k3⟩
  simp only at k0 k1 k2 k3
  by_cases hv : v < (x.length : Int)
  · obtain ⟨s, hs, hd⟩ := drop_cons (x := x) (v := v) (by omega) hv
    have hw : w64 (v + 1) = v + 1 := w64_id (by omega) (by omega)
    obtain ⟨z, b, hz⟩ := sign_some s
    have miss : fitT ⟨l.base, (re, im)⟩ s = none → joinT ⟨l.base, (re, im)⟩ :: canG none (x.drop v.toNat) = U := fun hf => by
      rw [← k3, hd, canG_miss hf]
    cases b with
    | false =>
      have hf : fitT ⟨l.base, (re, im)⟩ s = none := by unfold fitT signT; rw [hz]
      refine .inr ⟨.x3 v z.1 z.2 re im, ?_, k0, k1, k2, miss hf⟩
      simp [lontarlaw10_canon_L1, hv, hs, sign10, hz]
    | true =>
      obtain ⟨p, q, re', im', j, jb, e1, e2, e3, e4, e5, e6, f1, f2⟩ := add_sign k2 hz
      simp only at e1 e2 e3 e4 e5 e6
      by_cases c1 : feq p 0 = true
      · by_cases c2 : feq q 0 = true
        · cases jb with
          | true =>
            obtain ⟨m1, m2, m3⟩ := f1 (by simp [c1, c2]) rfl
            refine .inl ⟨(v + 1, re', im'), ?_, ⟨by simp only; omega, by simp only; omega, m3, ?_⟩, by simp only; omega⟩
            · simp [lontarlaw10_canon_L1, hv, hs, sign10, hz, e1, e2, e3, e4, e6, c1, c2, hw]
            · rw [← k3, hd, canG_fit m1]
          | false =>
            obtain ⟨m1, m2⟩ := f2 (by simp)
            refine .inr ⟨.x0 v z.1 z.2 true re im, ?_, k0, k1, k2, miss m1⟩
            simp [lontarlaw10_canon_L1, hv, hs, sign10, hz, e1, e2, e3, e4, e6, c1, c2]
        · obtain ⟨m1, m2⟩ := f2 (by simp [c2])
          refine .inr ⟨.x1 v z.1 z.2 (!(feq q 0)) re im, ?_, k0, k1, k2, miss m1⟩
          simp [lontarlaw10_canon_L1, hv, hs, sign10, hz, e1, e2, c1, c2]
      · obtain ⟨m1, m2⟩ := f2 (by simp [c1])
        refine .inr ⟨.x2 v z.1 z.2 re im, ?_, k0, k1, k2, miss m1⟩
        simp [lontarlaw10_canon_L1, hv, hs, sign10, hz, e1, c1]
  · have hn : v = x.length := by omega
    subst hn
    refine .inr ⟨.x4 (x.length : Int) (decide ((x.length : Int) < x.length)) re im, by simp [lontarlaw10_canon_L1], k0, k1, k2, ?_⟩
    simp only [endOf]
    rw [← k3]
    simp [canG_nil, canG_one]
theorem canon_eq (x : List Int) (hx : x.length ≤ 2 ^ 40) : lontarlaw10_canon x = some (canG none x) := by
  have key : ∃ r, loopM (lontarlaw10_canon_L0 x) FU ([], 0) = some r ∧ r.1 = canG none x := by
    refine loop_end (I := fun (v : List Int × Int) => 0 ≤ v.2 ∧ v.2 ≤ (x.length : Int) ∧ v.1.length ≤ v.2.toNat ∧ v.1 ++ canG none (x.drop v.2.toNat) = canG none x) (μ := fun (v : List Int × Int) => ((x.length : Int) - v.2).toNat) ?_ FU ([], 0) ⟨by simp, by simp, by simp, by simp⟩ (by simp [FU]; omega)
    rintro ⟨out, k⟩ ⟨h0, h1, h2, h3⟩
    simp only at h0 h1 h2 h3
    by_cases hv : k < (x.length : Int)
    · obtain ⟨s, hs, hd⟩ := drop_cons h0 hv
      have hw : w64 (k + 1) = k + 1 := w64_id (by omega) (by omega)
      have hw2 : w64 (k + 1 - 1) = k := by rw [show k + 1 - 1 = k by omega]; exact w64_id (by omega) (by omega)
      have hg : (out.length + 1) * 8 ≤ 2 ^ 46 := by omega
      rw [hd] at h3
      refine .inl ?_
      obtain ⟨he, hsp⟩ := split_eq s
      rcases hsp with ⟨g1, g2⟩ | ⟨l, g1, g2, _⟩
      · refine ⟨(out ++ [s], k + 1), ?_, ⟨by simp only; omega, by simp only; omega, by simp only [List.length_append, List.length_singleton]; omega, ?_⟩, by simp only; omega⟩
        · simp [lontarlaw10_canon_L0, hv, hs, he, g1, hw, hw2, show w64 k = k from w64_id (by omega) (by omega), guardO, hg]
        · rw [canG_none g2] at h3
          simpa using h3
      · rw [canG_split g2] at h3
        obtain ⟨r, i1, i2, i3, i4, i5⟩ := canon_inner x l (k + 1) _ hx (by omega) (by omega) (split_isL g2) rfl
        have hj := (join_isL i4).2
        simp only at hj
        have hfin : (out ++ [joinT ⟨l.base, (endOf r).2⟩]) ++ canG none (x.drop (endOf r).1.toNat) = canG none x := by
          rw [← h3, ← i5]; simp
        refine ⟨(out ++ [joinT ⟨l.base, (endOf r).2⟩], (endOf r).1), ?_, ⟨by simp only; omega, i3, by simp only [List.length_append, List.length_singleton]; omega, hfin⟩, by simp only; omega⟩
        cases r <;> simp only [endOf] at hj ⊢ <;> simp [lontarlaw10_canon_L0, hv, hs, he, g1, hw, i1, hj, guardO, hg]
    · have hn : k = x.length := by omega
      subst hn
      refine .inr ⟨(out, (x.length : Int), decide ((x.length : Int) < (x.length : Int))), by simp [lontarlaw10_canon_L0], ?_⟩
      simpa [canG_nil] using h3
  obtain ⟨⟨out, k, b⟩, h1, h2⟩ := key
  unfold lontarlaw10_canon
  rw [h1]
  exact congrArg some h2
theorem units_same (a : List Int) (ha : a.length ≤ 2 ^ 41) : lontarlaw01_Units a a = some true := by
  have key : ∃ r, loopM (lontarlaw01_Units_L0 a a) FU 0 = some r ∧ (match r with | .x1 _ _ => True | _ => False) := by
    refine loop_end (I := fun (v : Int) => 0 ≤ v ∧ v ≤ (a.length : Int)) (μ := fun (v : Int) => ((a.length : Int) - v).toNat) ?_ FU 0 (by omega) (by simp [FU]; omega)
    intro v ⟨h0, h1⟩
    by_cases hv : v < (a.length : Int)
    · obtain ⟨s, hs, _⟩ := drop_cons h0 hv
      refine .inl ⟨v + 1, ?_, by omega, by omega⟩
      simp [lontarlaw01_Units_L0, hv, hs, w64_id (n := v + 1) (by omega) (by omega)]
    · exact .inr ⟨.x1 v (decide (v < (a.length : Int))), by simp [lontarlaw01_Units_L0, hv], trivial⟩
  obtain ⟨r, h1, h2⟩ := key
  unfold lontarlaw01_Units
  rw [if_pos rfl, h1]
  cases r <;> first | rfl | cases h2
theorem awake10 : lontarlaw10_awake = some true := by kernel_rfl
theorem slice60 {α : Type} (l : List α) : sliceI l (0 : Int) (minI (l.length : Int) 60) = some (l.take 60) := by
  by_cases h : (60 : Int) < l.length
  · have e : minI (l.length : Int) 60 = 60 := by simp [minI, h]
    rw [e]; unfold sliceI; rw [if_pos ⟨by omega, by omega, by omega⟩]; simp
  · have e : minI (l.length : Int) 60 = l.length := by simp [minI, h]
    rw [e]; unfold sliceI; rw [if_pos ⟨by omega, by omega, by omega⟩]
    simp only [Int.toNat_zero, List.drop_zero, Nat.sub_zero, Int.toNat_natCast]
    rw [List.take_of_length_le (Nat.le_refl _), List.take_of_length_le (by omega)]
theorem some_eq (l : List Int) (hl : ∀ z ∈ l, (Lit.int .u8 z).wf = true) : ∃ x, lontarlaw10_Some l = some x ∧ x.length ≤ 60 := by
  have key : ∃ r, loopM (lontarlaw10_Some_L0 sgMarks (l.take 60)) FU ([], 0) = some r ∧ r.1.length ≤ 60 := by
    have h60 : (l.take 60).length ≤ 60 := by simp; omega
    refine loop_end (I := fun (v : List Int × Int) => 0 ≤ v.2 ∧ v.2 ≤ ((l.take 60).length : Int) ∧ v.1.length ≤ v.2.toNat) (μ := fun (v : List Int × Int) => (((l.take 60).length : Int) - v.2).toNat) ?_ FU ([], 0) ⟨by simp, by simp only; omega, by simp⟩ (by simp only [FU]; omega)
    rintro ⟨out, v⟩ ⟨h0, h1, h2⟩
    simp only at h0 h1 h2
    by_cases hv : v < ((l.take 60).length : Int)
    · obtain ⟨s, hs, hd⟩ := drop_cons h0 hv
      have hw : w64 (v + 1) = v + 1 := w64_id (by omega) (by omega)
      have hm : s ∈ l := by
        have : s ∈ (l.take 60).drop v.toNat := by rw [hd]; simp
        exact List.mem_of_mem_take (List.mem_of_mem_drop this)
      have ⟨s0, s1⟩ := wf_u8 (hl s hm)
      have ht : 0 ≤ s.tmod 148 ∧ s.tmod 148 < 148 := ⟨Int.tmod_nonneg _ s0, by rw [Int.tmod_eq_emod_of_nonneg s0]; omega⟩
      have ht8 : 0 ≤ s.tmod 8 ∧ s.tmod 8 < 8 := ⟨Int.tmod_nonneg _ s0, by rw [Int.tmod_eq_emod_of_nonneg s0]; omega⟩
      obtain ⟨a, t, e1, _, _, _⟩ := vLetter ht.1 ht.2
      have hg : (out.length + 1) * 8 ≤ 2 ^ 46 := by omega
      obtain ⟨y, hy⟩ : ∃ y, nthI sgList (s.tmod 8) = some y := by
        unfold nthI; rw [if_pos ht8.1]
        exact ⟨_, List.getElem?_eq_getElem (by show (s.tmod 8).toNat < 8; omega)⟩
      have fin : ∀ y : Int, lontarlaw10_Some_L0 sgMarks (l.take 60) (out, v) = some (.inl (out ++ [y], v + 1)) → _ := fun y e =>
        show (∃ a', lontarlaw10_Some_L0 sgMarks (l.take 60) (out, v) = some (.inl a') ∧ (0 ≤ a'.2 ∧ a'.2 ≤ ((l.take 60).length : Int) ∧ a'.1.length ≤ a'.2.toNat) ∧ (((l.take 60).length : Int) - a'.2).toNat < (((l.take 60).length : Int) - v).toNat) from
        ⟨_, e, ⟨by simp only; omega, by simp only; omega, by simp only [List.length_append, List.length_singleton]; omega⟩, by simp only; omega⟩
      refine .inl ?_
      have hs64 : w64 s = s := w64_id (by omega) (by omega)
      by_cases c1 : s > 190
      · have c2 : ¬ s < 6 := by omega
        exact fin y (by simp only [lontarlaw10_Some_L0, if_pos hv, hs, Option.bind_some, hs64, e1, if_pos c1, sgMarks_fst, hy, if_neg c2, guardO, List.length_singleton, if_pos hg, hw])
      · by_cases c2 : s < 6
        · exact fin (w64 (120 + s)) (by simp only [lontarlaw10_Some_L0, if_pos hv, hs, Option.bind_some, hs64, e1, if_neg c1, if_pos c2, guardO, List.length_singleton, if_pos hg, hw])
        · exact fin t (by simp only [lontarlaw10_Some_L0, if_pos hv, hs, Option.bind_some, hs64, e1, if_neg c1, if_neg c2, guardO, List.length_singleton, if_pos hg, hw])
    · exact .inr ⟨(out, v, decide (v < ((l.take 60).length : Int))), by simp only [lontarlaw10_Some_L0, if_neg hv], by simp only; omega⟩
  obtain ⟨⟨out, v, b⟩, h1, h2⟩ := key
  refine ⟨out, ?_, h2⟩
  unfold lontarlaw10_Some
  rw [sgMarks_eq, Option.bind_some, slice60, Option.bind_some, h1]
  rfl
theorem canG_len : ∀ (x : List Int), (canG none x).length ≤ x.length ∧ ∀ l, (canG (some l) x).length ≤ x.length + 1
  | [] => ⟨by simp [canG_nil], fun l => by simp [canG_one]⟩
  | s :: r => by
    obtain ⟨i1, i2⟩ := canG_len r
    have hn : (canG none (s :: r)).length ≤ (s :: r).length := by
      cases h : splitT s with
      | none => rw [canG_none h]; simp only [List.length_cons]; omega
      | some m => rw [canG_split h]; have := i2 m; simp only [List.length_cons]; omega
    refine ⟨hn, fun l => ?_⟩
    cases h : fitT l s with
    | none => rw [canG_miss h]; simp only [List.length_cons] at *; omega
    | some l' => rw [canG_fit h]; have := i2 l'; simp only [List.length_cons]; omega
end Go.AM.M
