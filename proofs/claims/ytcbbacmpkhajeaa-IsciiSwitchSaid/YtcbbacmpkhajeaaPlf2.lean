/- Plain laws of the models. -/
import Derived.Test.YtcbbacmpkhajeaaPlf1
set_option linter.all false
namespace Go.AM.M
open Go.AM
variable {fu : Nat}

/-- What was read so far, of what was fed. -/
structure DecI (rs : List Rule) (out w : List Int) (a : Int) (fed : List Int) : Prop where
  all : ∀ rest, out ++ cat (toksA rs a (w ++ rest)) = cat (toksA rs 0 (fed ++ rest))
  at' : a + (w.length : Int) = (fed.length : Int)
  nn : 0 ≤ a
  len : out.length + 8 * w.length ≤ 8 * fed.length
theorem DecI.zero (rs : List Rule) : DecI rs [] [] 0 [] := ⟨fun rest => by simp, by simp, by omega, by simp⟩
theorem DecI.put {rs : List Rule} (hS : Sides rs) {out w fed : List Int} {a u : Int} (h : DecI rs out w a fed) {r : List Tok × (List Int × Int)} (hr : r = takeF rs false (w.length + 1) a (w ++ [u])) : DecI rs (out ++ cat r.1) r.2.1 r.2.2 (fed ++ [u]) ∧ r.1.length ≤ w.length + 1 ∧ fewO r.1 := by
  have hP := takeF_put (rs := rs) (w.length + 1) a (w ++ [u]) (by simp)
  have hf : fewO r.1 := by rw [hr]; exact takeF_few hS _ _ _ _
  rw [← hr] at hP
  obtain ⟨p1, p2, p3, p4, p5⟩ := hP
  have hc := cat_len hf
  have h1 := h.at'
  have h2 := h.nn
  have h3 := h.len
  simp only [List.length_append, List.length_singleton] at p3 p4
  refine ⟨⟨fun rest => ?_, ?_, by omega, ?_⟩, by omega, hf⟩
  · have := p1 rest
    have h4 := h.all (u :: rest)
    simp only [List.append_assoc, List.singleton_append] at this h4 ⊢
    rw [← h4, this, cat_append]
  · simp; omega
  · simp only [List.length_append, List.length_singleton]; omega

abbrev TL := List Node × (List Rule × (List Int × (Int × (Int × (Int × (Int × (List Node × (List Rule × (List Node × (List Rule × (List Int × (Int × (Int × (List Int × Int))))))))))))))
theorem both0 (hf : Fu fu) {ys : List Tok} (hfew : fewO ys) {out : List Int} (hlen : out.length + 8 * ys.length ≤ 1000000) {l O w : List Int} {ts : List Tok} {tl k ol a st : Int} {j : Nat} (hj : j < 1000000) {N1 : List Node} {R1 : List Rule} (T : TL) :
    loopM (lontarlaw16_MachineBoth_L0 fu) fu (l, (out, (ts, (tl, (k, (O, (ol, ((j : Int), (ys, ((ys.length : Int), ((0 : Int), (N1, (R1, (w, (a, (st, T)))))))))))))))) =
      some (.inl (l, (out ++ cat ys, (ts, (tl, (k, (O, (ol, (((j + 1 : Nat) : Int), (N1, (R1, (w, (a, (st, T)))))))))))))) := by
  have := loop_st (f := lontarlaw16_MachineBoth_L0 fu) (fun i => (l, (out ++ cat (ys.take i), (ts, (tl, (k, (O, (ol, ((j : Int), (ys, ((ys.length : Int), ((i : Int), (N1, (R1, (w, (a, (st, T))))))))))))))))) (m := ys.length) (fu := fu)
    (r := .inl (l, (out ++ cat ys, (ts, (tl, (k, (O, (ol, (((j + 1 : Nat) : Int), (N1, (R1, (w, (a, (st, T))))))))))))))
    (fun i hi => by
      unfold lontarlaw16_MachineBoth_L0
      have hc : (cat (ys.take i)).length ≤ 8 * i := by
        have := cat_len (ts := ys.take i) (fun x hx => hfew x (List.mem_of_mem_take hx))
        simp at this; omega
      have h8 := hfew _ (List.getElem_mem hi)
      simp only [dlt, decide_eq_true hi, cond_true, nthI_get hi, bind_some', Int.toNat_natCast, List.getElem?_eq_getElem hi, w64_succ hi (show ys.length < 9223372036854775808 by omega)]
      rw [decide_eq_true (by simp only [List.length_append]; omega), cond_true]
      have : cat (ys.take (i + 1)) = cat (ys.take i) ++ ys[i].2.2.1 := by rw [List.take_succ_eq_append_getElem hi, cat_append]; simp [cat]
      rw [this, List.append_assoc])
    (by
      unfold lontarlaw16_MachineBoth_L0
      simp only [dlt, decide_eq_false (Nat.lt_irrefl ys.length), cond_false, List.take_length]
      rw [w64_id (by omega) (by omega)]
      rfl)
    (by unfold Fu at hf; omega)
  simpa [cat] using this
theorem both1 (hf : Fu fu) {rs : List Rule} (hS : Sides rs) {N1 : List Node} (hT : TrieOk N1 rs) {out w fed O : List Int} {a st : Int} (h : DecI rs out w a fed) (hO : O.length ≤ 8) (hfed : fed.length ≤ 10000) {l : List Int} {ts : List Tok} {tl : Int} {k : Nat} (hk : k < 1000000)
    {c0 c7 c9 : List Node} {c1 c8 c10 : List Rule} {c2 c11 x2 : List Int} {c3 c4 c5 c6 x0 x1 x3 : Int} :
    ∃ out' w' a' st', loopM (lontarlaw16_MachineBoth_L1 fu) fu (l, (out, (ts, (tl, ((k : Int), (O, ((O.length : Int), ((0 : Int), (N1, (outsOf rs, (w, (a, (st, (c0, (c1, (c2, (c3, (c4, (c5, (c6, (c7, (c8, (c9, (c10, (c11, (x0, (x1, (x2, x3)))))))))))))))))))))))))))) =
      some (.inl (l, (out', (ts, (tl, (((k + 1 : Nat) : Int), (N1, (outsOf rs, (w', (a', (st', (c0, (c1, (c2, (c3, (c4, (c5, (c6, (c7, (c8, (c9, (c10, c11)))))))))))))))))))))) ∧ DecI rs out' w' a' (fed ++ O) := by
  obtain ⟨v, h1, out', w', a', st', rfl, h2⟩ := loop_n (f := lontarlaw16_MachineBoth_L1 fu) (n := O.length)
    (I := fun j x => ∃ (out w : List Int) (a st : Int), x = (l, (out, (ts, (tl, ((k : Int), (O, ((O.length : Int), ((j : Int), (N1, (outsOf rs, (w, (a, (st, (c0, (c1, (c2, (c3, (c4, (c5, (c6, (c7, (c8, (c9, (c10, (c11, (x0, (x1, (x2, x3)))))))))))))))))))))))))))) ∧ DecI rs out w a (fed ++ O.take j))
    (R := fun v => ∃ out' w' a' st', v = .inl (l, (out', (ts, (tl, (((k + 1 : Nat) : Int), (N1, (outsOf rs, (w', (a', (st', (c0, (c1, (c2, (c3, (c4, (c5, (c6, (c7, (c8, (c9, (c10, c11))))))))))))))))))))) ∧ DecI rs out' w' a' (fed ++ O))
    (by
      rintro j x hj ⟨out, w, a, st, rfl, hD⟩
      left
      unfold lontarlaw16_MachineBoth_L1
      have hl := hD.len
      have ha := hD.at'
      have ha0 := hD.nn
      simp only [List.length_append, List.length_take] at hl ha
      obtain ⟨r, st', p1, p2⟩ := match_put_eq hf hS hT (u := O[j]) (a := a) (st := st) (w := w) (by omega) (by omega) (by omega)
      obtain ⟨q1, q2, q3⟩ := hD.put hS (u := O[j]) p2
      simp only [dlt, decide_eq_true hj, cond_true, nthI_get hj, bind_some', p1]
      rw [both0 hf q3 (by omega) (by omega : j < 1000000)]
      refine ⟨_, rfl, _, _, _, _, rfl, ?_⟩
      rw [List.take_succ_eq_append_getElem hj, ← List.append_assoc]
      exact q1)
    (by
      rintro x ⟨out, w, a, st, rfl, hD⟩
      unfold lontarlaw16_MachineBoth_L1
      simp only [dlt, decide_eq_false (Nat.lt_irrefl O.length), cond_false]
      rw [w64_id (by omega) (by omega)]
      rw [List.take_length] at hD
      exact ⟨_, rfl, _, _, _, _, rfl, hD⟩)
    fu 0 _ (by omega) (by unfold Fu at hf; omega) ⟨out, w, a, st, rfl, by simpa using h⟩
  exact ⟨out', w', a', st', h1, h2⟩
theorem machineBoth_true (rows : List Row) (l : List Int) (hr : ∀ r ∈ rows, okRow r) : lontarlaw16_MachineBoth FU64 (rows, l) = some true := by
  unfold lontarlaw16_MachineBoth
  obtain ⟨rs, e1, hl, hR, hc⟩ := rules15_eq fu64 hr
  obtain ⟨N1, N2, e2, t1, t2⟩ := table_eq fu64 hR hc
  obtain ⟨us, e3, hu⟩ := few_eq fu64 l
  have hS := hR.toSides
  have hW := (turn_right hR.toSides).toSides
  obtain ⟨st', e4⟩ := all_enc_eq fu64 hS hW t1 t2 (us := us) (by omega) (i := (maxIn rs : Int)) (o := (maxIn (turn rs) : Int)) (N2 := N2) (R1 := outsOf rs) (R2 := outsOf (turn rs)) (a0 := 0) (st := 0) (ah := []) (by omega) (by omega) (by simp)
  have hlen := toksA_len (rs := turn rs) us 0
  have hfw := (joinF_few (rs := rs) (toksA (turn rs) 0 us) [] (toksA_few hW us 0) (by simp)).1
  have hjl := joinF_len rs (toksA (turn rs) 0 us) []
  have hbi := both_in hR hc us 0 []
  have hcat : okT (joinF rs [] (toksA (turn rs) 0 us)).1 → cat (joinF rs [] (toksA (turn rs) 0 us)).1 = cat (toksA (turn rs) 0 us) := by
    generalize toksA (turn rs) 0 us = raw
    generalize ([] : List Int) = ah
    induction raw generalizing ah with
    | nil => intro _; rfl
    | cons x raw ih =>
      intro hok
      simp only [joinF] at hok ⊢
      rw [cat_cons, cat_cons, ih _ (fun y hy => hok y (List.mem_cons_of_mem _ hy))]
      have hx : (joinT rs ah x).2.2.2 = 0 := hok _ (by simp)
      congr 1
      unfold joinT at hx ⊢
      split
      · rename_i h1; rw [if_pos h1] at hx; cases hx
      · rfl
  simp only [awake16, bind_some', Bool.not_true, cond_false, e1, e2, bne_self_eq_false, enc_eq, dec_eq, e3, e4]
  generalize hts : (joinF rs [] (toksA (turn rs) 0 us)).1 = ts at hfw hjl hbi hcat ⊢
  have htl : ts.length ≤ 40 := by omega
  obtain ⟨v, h1, h2⟩ := loop_n (f := lontarlaw16_MachineBoth_L3 FU64) (n := ts.length)
    (I := fun k x => ∃ (out w : List Int) (a st : Int), x = (l, (out, (ts, ((ts.length : Int), ((k : Int), (N1, (outsOf rs, (w, (a, (st, (N2, (outsOf (turn rs), (([] : List Int), (0 + (us.length : Int), (st', ((maxIn rs : Int), ((maxIn (turn rs) : Int), (N1, (outsOf rs, (N2, (outsOf (turn rs), (joinF rs [] (toksA (turn rs) 0 us)).2)))))))))))))))))))))
      ∧ DecI rs out w a (cat (ts.take k)) ∧ okT (ts.take k))
    (R := fun v => v = true)
    (by
      rintro k x hk ⟨out, w, a, st, rfl, hD, hok⟩
      unfold lontarlaw16_MachineBoth_L3
      simp only [dlt, decide_eq_true hk, cond_true, nthI_get hk, bind_some', Int.toNat_natCast, List.getElem?_eq_getElem hk]
      by_cases h0 : ts[k].2.2.2 = 0
      · left
        have : (ts[k].2.2.2 != 0) = false := by simpa using h0
        rw [this, cond_false]
        have hcl := cat_len (ts := ts.take k) (fun x hx => hfw x (List.mem_of_mem_take hx))
        simp only [List.length_take] at hcl
        obtain ⟨out', w', a', st2, q1, q2⟩ := both1 (O := ts[k].2.2.1) fu64 hS t1 hD (hfw _ (List.getElem_mem hk)) (by omega) (l := l) (ts := ts) (tl := (ts.length : Int)) (k := k) (by omega) (st := st)
          (c0 := N2) (c1 := outsOf (turn rs)) (c2 := []) (c3 := 0 + (us.length : Int)) (c4 := st') (c5 := (maxIn rs : Int)) (c6 := (maxIn (turn rs) : Int)) (c7 := N1) (c8 := outsOf rs) (c9 := N2) (c10 := outsOf (turn rs)) (c11 := (joinF rs [] (toksA (turn rs) 0 us)).2) (x0 := ts[k].1) (x1 := ts[k].2.1) (x2 := ts[k].2.2.1) (x3 := ts[k].2.2.2)
        refine ⟨_, q1, out', w', a', st2, rfl, ?_, ?_⟩
        · rw [List.take_succ_eq_append_getElem hk, cat_append]
          simpa [cat] using q2
        · rw [List.take_succ_eq_append_getElem hk]
          intro x hx
          rw [List.mem_append] at hx
          rcases hx with hx | hx
          · exact hok x hx
          · simp only [List.mem_singleton] at hx
            subst hx; exact h0
      · right
        have : (ts[k].2.2.2 != 0) = true := by simpa using h0
        rw [this, cond_true]
        exact ⟨_, rfl, rfl⟩)
    (by
      rintro x ⟨out, w, a, st, rfl, hD, hok⟩
      unfold lontarlaw16_MachineBoth_L3
      rw [List.take_length] at hD hok
      have hcl := cat_len hfw
      have hdl := hD.len
      have hda := hD.at'
      have hd0 := hD.nn
      obtain ⟨st2, e5⟩ := match_end_eq fu64 hS t1 (a := a) (st := st) (w := w) (by omega) (by omega) (by omega)
      have hyl := toksA_len (rs := rs) w a
      have hyf := toksA_few hS w a
      simp only [dlt, decide_eq_false (Nat.lt_irrefl ts.length), cond_false, e5, bind_some']
      have hfin := hD.all []
      simp only [List.append_nil] at hfin
      rw [hcat hok, (hbi hok).1 0] at hfin
      generalize toksA rs a w = ys at hyl hyf hfin ⊢
      refine ⟨true, ?_, rfl⟩
      have := loop_st (f := lontarlaw16_MachineBoth_L2 FU64) (fun i => (l, (out ++ cat (ys.take i), (ys, ((ys.length : Int), ((i : Int), (N1, (outsOf rs, (([] : List Int), (a + (w.length : Int), (st2, (N2, (outsOf (turn rs), (([] : List Int), (0 + (us.length : Int), (st', ((maxIn rs : Int), ((maxIn (turn rs) : Int), (N1, (outsOf rs, (N2, (outsOf (turn rs), (joinF rs [] (toksA (turn rs) 0 us)).2)))))))))))))))))))))) (m := ys.length) (fu := FU64) (r := true)
        (fun i hi => by
          unfold lontarlaw16_MachineBoth_L2
          have hci : (cat (ys.take i)).length ≤ 8 * i := by
            have := cat_len (ts := ys.take i) (fun x hx => hyf x (List.mem_of_mem_take hx))
            simp at this; omega
          have h8 := hyf _ (List.getElem_mem hi)
          simp only [dlt, decide_eq_true hi, cond_true, nthI_get hi, bind_some', Int.toNat_natCast, List.getElem?_eq_getElem hi, w64_succ hi (show ys.length < 9223372036854775808 by omega)]
          rw [decide_eq_true (by simp only [List.length_append]; omega), cond_true]
          have : cat (ys.take (i + 1)) = cat (ys.take i) ++ ys[i].2.2.1 := by rw [List.take_succ_eq_append_getElem hi, cat_append]; simp [cat]
          rw [this, List.append_assoc])
        (by
          unfold lontarlaw16_MachineBoth_L2
          simp only [dlt, decide_eq_false (Nat.lt_irrefl ys.length), cond_false, List.take_length, hfin, e3, bind_some', units_eq fu64 (show small us by unfold small; omega), decide_true, Option.map_some])
        (by show ys.length < FU64; unfold FU64; omega)
      simp only [List.take_zero, cat, List.flatMap_nil, List.append_nil] at this
      rw [show ((0 : Int)) = ((0 : Nat) : Int) from rfl] at *
      simp only [this, Option.map_some])
    FU64 0 _ (by omega) (by show ts.length < 0 + FU64; unfold FU64; omega) ⟨[], [], 0, 0, rfl, DecI.zero rs, fun x hx => by simp at hx⟩
  rw [h2] at h1
  exact h1
theorem machineBoth_law (a0 : (Sh.sl rowSh).den) (a1 : (Sh.sl (.int .u8)).den) (w0 : wfD (.sl rowSh) a0) (_ : wfD (.sl (.int .u8)) a1) : lontarlaw16_MachineBoth FU64 (a0, a1) = some true := machineBoth_true a0 a1 (okRow_of w0)
end Go.AM.M

namespace Go.AM.M
open Go.AM

theorem cat_pos {rs : List Rule} : ∀ (us : List Int) (a b : Int), cat (toksA rs a us) = cat (toksA rs b us) := by
  intro us
  induction us using toks_ind (rs := rs) with
  | h0 => intro a b; rfl
  | h1 us hne ih =>
    intro a b
    rw [toksA_cons hne, toksA_cons hne, cat_cons, cat_cons, ih _ (b + (adv rs us : Int))]
    congr 1
    unfold tok
    split <;> rfl
/-- Nothing is read over a place where a unit stands that stands in no rule but ahead. -/
theorem toks_split {rs : List Rule} {z : Int} (hz : ∀ r ∈ rs, ∀ n, 0 < n → n < r.1.length → r.1[n]? ≠ some z) (Z : List Int) : ∀ (us : List Int) (a b : Int), cat (toksA rs a (us ++ z :: Z)) = cat (toksA rs a us) ++ cat (toksA rs b (z :: Z)) := by
  intro us
  induction us using toks_ind (rs := rs) with
  | h0 => intro a b; rw [List.nil_append, toksA_nil]; exact cat_pos _ _ _
  | h1 us hne ih =>
    intro a b
    have hl : 0 < us.length := List.length_pos_iff.2 hne
    have hnn : nn rs (us ++ z :: Z) = nn rs us := by
      unfold nn
      have hle := lngN_le (rs := rs) (us := us) us.length
      have htk : (us ++ z :: Z).take (lngN rs us us.length) = us.take (lngN rs us us.length) := List.take_append_of_le_length hle
      refine lngN_eq (by simp; omega) ?_ fun k hk hk2 => ?_
      · by_cases h0 : lngN rs us us.length = 0
        · exact .inl h0
        · right
          rw [htk]
          exact lngN_has us.length (by omega)
      · rw [Bool.eq_false_iff]
        intro hc
        rcases Nat.lt_or_ge us.length k with h | h
        · obtain ⟨r, hr, e⟩ := anyIn_iff.1 hc
          have hrl : r.1.length = k := by rw [e]; simp at hk2 ⊢; omega
          refine hz r hr us.length hl (by omega) ?_
          rw [e, List.getElem?_take_of_lt h, List.getElem?_append_right (Nat.le_refl _)]
          simp
        · have := lngN_max (rs := rs) (us := us) (n := k) (by omega) (by rw [List.take_append_of_le_length h] at hc; exact hc) us.length h
          omega
    have hadv : adv rs (us ++ z :: Z) = adv rs us := by unfold adv; rw [hnn]
    have hle := adv_le (rs := rs) hne
    have htok : (tok rs a (us ++ z :: Z)).2.2.1 = (tok rs a us).2.2.1 := by
      unfold tok
      rw [hnn, List.take_append_of_le_length (nn_le rs us)]
    rw [toksA_cons (by simp), toksA_cons hne, cat_cons, cat_cons, hadv, htok, List.drop_append_of_le_length hle, List.append_assoc]
    congr 1
    exact ih _ b
/-- A rule that no longer one begins with is read as such. -/
theorem toks_rule {rs : List Rule} (hR : Right rs) {r : Rule} (hr : r ∈ rs) (hm : ∀ q ∈ rs, r.1 <+: q.1 → q.1.length ≤ r.1.length) (Z : List Int) (a : Int) : cat (toksA rs a (r.1 ++ Z)) = r.2 ++ cat (toksA rs 0 Z) := by
  have hI := sideB_len (hR.side r hr).1
  have hne : r.1 ++ Z ≠ [] := by
    intro h
    have := congrArg List.length h
    simp at this
    rw [this.1] at hI; simp at hI
  have hnn : nn rs (r.1 ++ Z) = r.1.length := by
    unfold nn
    refine lngN_eq (by simp) (.inr (anyIn_iff.2 ⟨r, hr, by simp⟩)) fun k hk hk2 => ?_
    rw [Bool.eq_false_iff]
    intro hc
    obtain ⟨q, hq, e⟩ := anyIn_iff.1 hc
    have hql : q.1.length = k := by rw [e]; simp at hk2 ⊢; omega
    have hp : r.1 = q.1.take r.1.length := by
      rw [e, List.take_take, Nat.min_eq_left (by omega)]; simp
    have := hm q hq (by rw [hp]; exact List.take_prefix _ _)
    omega
  have hadv : adv rs (r.1 ++ Z) = r.1.length := by unfold adv; omega
  rw [toksA_cons hne, cat_cons, hadv, List.drop_left, cat_pos Z _ 0]
  congr 1
  unfold tok
  rw [hnn, if_neg (by omega)]
  show outI rs (fnd rs ((r.1 ++ Z).take r.1.length)) = r.2
  rw [List.take_left]
  exact outI_of hR hr
theorem cat_ok {rs : List Rule} : ∀ (raw : List Tok) (ah : List Int), okT (joinF rs ah raw).1 → cat (joinF rs ah raw).1 = cat raw
  | [], _, _ => rfl
  | x :: raw, ah, hok => by
    simp only [joinF] at hok ⊢
    rw [cat_cons, cat_cons, cat_ok raw _ (fun y hy => hok y (List.mem_cons_of_mem _ hy))]
    have hx : (joinT rs ah x).2.2.2 = 0 := hok _ (by simp)
    congr 1
    unfold joinT at hx ⊢
    split
    · rename_i h1; rw [if_pos h1] at hx; cases hx
    · rfl
theorem part_ok {rs : List Rule} (hR : Right rs) (hc : closedP rs) {frm : Int} {us : List Int} (h : okT (part rs frm us)) (b : Int) : cat (toksA rs b (cat (part rs frm us))) = us := by
  have h2 := cat_ok _ _ h
  unfold part
  rw [h2]
  exact (both_in hR hc us frm [] h).1 b

/-! ### What it all means -/
def muF (p : List Int × Int) (us : List Int) : List Int × Int := us.foldl mu1 p
theorem muF_append (p : List Int × Int) (a b : List Int) : muF p (a ++ b) = muF (muF p a) b := by simp [muF]
theorem muU_muF (sc : Int) (us : List Int) : muU sc us = muF ([], sc) us := rfl
theorem muF_pre (p : List Int) (q : List Int) (sc : Int) (us : List Int) : muF (p ++ q, sc) us = (p ++ (muF (q, sc) us).1, (muF (q, sc) us).2) := by
  induction us generalizing q sc with
  | nil => rfl
  | cons u us ih =>
    have h : mu1 (p ++ q, sc) u = (p ++ (mu1 (q, sc) u).1, (mu1 (q, sc) u).2) := by
      unfold mu1
      split
      · simp
      · split <;> simp
    show muF (mu1 (p ++ q, sc) u) us = (p ++ (muF (mu1 (q, sc) u) us).1, (muF (mu1 (q, sc) u) us).2)
    rw [h]
    exact ih _ _
theorem mean_cat : ∀ (sc : Int) (ts : List Tok), (flat (meanT sc ts).1, (meanT sc ts).2) = muU sc (cat ts)
  | sc, [] => rfl
  | sc, t :: ts => by
    have ih := mean_cat (muU sc t.2.2.1).2 ts
    rw [cat_cons, muU_muF, muF_append, ← muU_muF]
    have e : muU sc t.2.2.1 = ((muU sc t.2.2.1).1 ++ [], (muU sc t.2.2.1).2) := by simp
    rw [e, muF_pre, ← muU_muF, ← ih]
    simp [meanT, flat]

structure BK (rs : List Rule) (e : ES) (ss : List Int) : Prop where
  sc : 0 ≤ e.sc ∧ e.sc < 9
  J : okT e.out → ∃ pre, (∀ Y, muF ([], 0) (cat (toksA rs 0 (cat e.out ++ Y))) = muF (pre, e.sc) (cat (toksA rs 0 Y))) ∧ muF (pre, e.sc) e.us = (ss, e.sc)
theorem unit_mu {s sc : Int} (h0 : 97 ≤ s) (h1 : s ≤ 8205) (h2 : okS s = true → scrS s = sc) (p : List Int) : mu1 (p, sc) (unitS s) = (p ++ [s], sc) := by
  cases hok : okS s with
  | true =>
    have hr := okS_r hok
    have h2 := h2 hok
    have hu : unitS s = s % 128 := by unfold unitS; rw [hok]; rfl
    rw [hu]
    unfold mu1
    rw [if_neg (by omega), if_neg (by omega)]
    have : w64 (w64 (2304 + w64 (128 * sc)) + s % 128) = s := by
      rw [← h2]
      unfold scrS
      rw [w64_id (n := 128 * ((s - 2304) / 128)) (by omega) (by omega), w64_id (n := 2304 + 128 * ((s - 2304) / 128)) (by omega) (by omega), w64_id (by omega) (by omega)]
      omega
    show (p ++ [w64 (w64 (2304 + w64 (128 * sc)) + s % 128)], sc) = _
    rw [this]
  | false =>
    have hs : scalB s = true := by unfold scalB; rw [decide_eq_true_eq]; omega
    have hu : unitS s = 8192 + s := by
      unfold unitS
      rw [hok, hs]
      show w64 (8192 + s) = _
      exact w64_id (by omega) (by omega)
    rw [hu]
    unfold mu1
    rw [if_pos (by omega)]
    have : w64 (8192 + s - 8192) = s := by rw [w64_id (by omega) (by omega)]; omega
    rw [this]
structure SwR (rs : List Rule) : Prop where
  in_ : ∀ r ∈ rs, ∀ n, 0 < n → n < r.1.length → r.1[n]? ≠ some 239
  two : ∀ r ∈ rs, r.1.length ≤ 2
  sw : ∀ k, 0 ≤ k → k < 9 → ([239, codeS k], [4096 + k]) ∈ rs
theorem BK.zero (rs : List Rule) : BK rs es0 [] := ⟨⟨Int.le_refl _, by decide⟩, fun _ => ⟨[], fun Y => rfl, rfl⟩⟩
theorem BK.step {rs : List Rule} (hR : Right rs) (hc : closedP rs) (hw : SwR rs) {e : ES} {ss : List Int} (h : BK rs e ss) (k s : Int) (h0 : 97 ≤ s) (h1 : s ≤ 8205) : BK rs (esStep rs k e s) (ss ++ [s]) := by
  unfold esStep
  split
  · rename_i hcnd
    have h9 := scrS_r hcnd.1
    refine ⟨h9, fun hok => ?_⟩
    have hok' : okT (e.out ++ part rs e.frm e.us ++ [swT k (codeS (scrS s))]) := hok
    have o1 : okT e.out := fun x hx => hok' x (by simp [hx])
    have o2 : okT (part rs e.frm e.us) := fun x hx => hok' x (by simp [hx])
    obtain ⟨pre, j1, j2⟩ := h.J o1
    refine ⟨ss, fun Y => ?_, unit_mu h0 h1 (fun _ => rfl) ss⟩
    have hcat : cat (e.out ++ part rs e.frm e.us ++ [swT k (codeS (scrS s))]) = cat e.out ++ (cat (part rs e.frm e.us) ++ [239, codeS (scrS s)]) := by
      rw [cat_append, cat_append, List.append_assoc]; simp [cat, swT]
    show muF ([], 0) (cat (toksA rs 0 (cat (e.out ++ part rs e.frm e.us ++ [swT k (codeS (scrS s))]) ++ Y))) = _
    rw [hcat, List.append_assoc, j1, List.append_assoc]
    show muF (pre, e.sc) (cat (toksA rs 0 (cat (part rs e.frm e.us) ++ 239 :: (codeS (scrS s) :: Y)))) = _
    rw [toks_split hw.in_ (codeS (scrS s) :: Y) _ 0 0, part_ok hR hc o2, muF_append, j2]
    have := toks_rule hR (hw.sw _ h9.1 h9.2) (fun q hq _ => hw.two q hq) Y 0
    rw [show (239 : Int) :: (codeS (scrS s) :: Y) = [239, codeS (scrS s)] ++ Y from rfl, this, muF_append]
    congr 1
    show mu1 (ss, e.sc) (4096 + scrS s) = _
    unfold mu1
    rw [if_neg (by omega), if_pos (by omega)]
    have : w64 (4096 + scrS s - 4096) = scrS s := by rw [w64_id (by omega) (by omega)]; omega
    rw [this]
  · rename_i hcnd
    refine ⟨h.sc, fun hok => ?_⟩
    obtain ⟨pre, j1, j2⟩ := h.J hok
    refine ⟨pre, j1, ?_⟩
    show muF (pre, e.sc) (e.us ++ [unitS s]) = _
    rw [muF_append, j2]
    refine unit_mu h0 h1 (fun ho => ?_) ss
    exact Classical.byContradiction fun hn => hcnd ⟨ho, hn⟩
theorem BK.run {rs : List Rule} (hR : Right rs) (hc : closedP rs) (hw : SwR rs) (ss : List Int) (hu : ∀ s ∈ ss, 97 ≤ s ∧ s ≤ 8205) : BK rs (esRun rs 0 es0 ss) ss := by
  induction ss using snocInd with
  | nil => exact BK.zero rs
  | snoc l a ih =>
    rw [esRun_snoc]
    have := hu a (by simp)
    exact (ih fun s hs => hu s (by simp [hs])).step hR hc hw _ _ this.1 this.2
/-- What is written whole is read as it was, and with the same script. -/
theorem back_ok {rs : List Rule} (hR : Right rs) (hc : closedP rs) (hw : SwR rs) (ss : List Int) (hu : ∀ s ∈ ss, 97 ≤ s ∧ s ≤ 8205) (hok : okT (esOut rs (esRun rs 0 es0 ss))) :
    flat (meanT 0 (toksA rs 0 (cat (esOut rs (esRun rs 0 es0 ss))))).1 = ss ∧ (meanT 0 (toksA rs 0 (cat (esOut rs (esRun rs 0 es0 ss))))).2 = (esRun rs 0 es0 ss).sc := by
  have h := BK.run hR hc hw ss hu
  generalize esRun rs 0 es0 ss = e at h hok
  have hok' : okT (e.out ++ part rs e.frm e.us) := hok
  have o1 : okT e.out := fun x hx => hok' x (by simp [hx])
  have o2 : okT (part rs e.frm e.us) := fun x hx => hok' x (by simp [hx])
  obtain ⟨pre, j1, j2⟩ := h.J o1
  have hm := mean_cat 0 (toksA rs 0 (cat (esOut rs e)))
  have : muU 0 (cat (toksA rs 0 (cat (esOut rs e)))) = (ss, e.sc) := by
    unfold esOut
    rw [cat_append, muU_muF, j1, part_ok hR hc o2, j2]
  rw [this] at hm
  exact ⟨congrArg Prod.fst hm, congrArg Prod.snd hm⟩
def swRB (rs : List Rule) : Bool := (rs.all fun r => decide (r.1.length ≤ 2) && !(r.1.tail.contains 239)) && (List.range 9).all fun k => rs.any fun r => decide (r = ([239, codeS (k : Nat)], [4096 + ((k : Nat) : Int)]))
theorem swR_of {rs : List Rule} (h : swRB rs = true) : SwR rs := by
  simp only [swRB, Bool.and_eq_true, List.all_eq_true, decide_eq_true_eq, Bool.not_eq_true', List.mem_range, List.any_eq_true] at h
  refine ⟨fun r hr n h0 h1 hn => ?_, fun r hr => (h.1 r hr).1, fun k h0 h9 => ?_⟩
  · have h2 := (h.1 r hr).2
    cases hl : r.1 with
    | nil => rw [hl] at h1; simp at h1
    | cons x xs =>
      rw [hl] at hn h2
      cases n with
      | zero => omega
      | succ n =>
        rw [List.getElem?_cons_succ] at hn
        have := List.mem_of_getElem? hn
        simp only [List.tail_cons] at h2
        rw [List.contains_iff_mem.2 this] at h2
        cases h2
  · obtain ⟨r, hr, e⟩ := h.2 k.toNat (by omega)
    have hk : ((k.toNat : Nat) : Int) = k := by omega
    rw [hk] at e
    rw [← e]; exact hr
theorem isR_sw : SwR isR := swR_of (by kernel_rfl)
end Go.AM.M

namespace Go.AM.M
open Go.AM

theorem codes_cmp : ∀ i : Fin 9, ∀ j : Fin 9, (codesL[i.val]?).map (fun c => c == codeS (j.val : Int)) = some (decide (i.val = j.val)) := by decide
theorem codes_eqS {i : Nat} (hi : i < 9) {j : Int} (h0 : 0 ≤ j) (h9 : j < 9) : ∃ c, codesL[i]? = some c ∧ (c == codeS j) = decide ((i : Int) = j) := by
  have := codes_cmp ⟨i, hi⟩ ⟨j.toNat, by omega⟩
  have hj : ((j.toNat : Nat) : Int) = j := by omega
  simp only [hj] at this
  cases h : codesL[i]? with
  | none => rw [h] at this; cases this
  | some c =>
    rw [h] at this
    refine ⟨c, rfl, (Option.some.inj this).trans ?_⟩
    rw [decide_eq_decide]; omega
theorem switch_L0_eq {ts : List Tok} {sc : Int} {k : Nat} {j : Int} (h0 : 0 ≤ j) (h9 : j < 9) (hne : j ≠ sc) (hk : k + 1 < ts.length) (hn : ts.length < 1000000) (c0 : List Node) (c1 : List Rule) (c2 : List Int) (c3 : Int) (c4 : Int) (c5 : Int) (c6 : Int) (c7 : List Node) (c8 : List Rule) (c9 : List Node) (c10 : List Rule) (c11 : List Int) (c12 : Int) (c13 : Int) (c14 : Int) (at1 len1 er : Int) (hl : len1 = 0) :
    loopM (lontarlaw18_IsciiSwitch_L0 FU64) FU64 (ts, (sc, ((k : Int), ((-1 : Int), ((ts.length : Int), ((k : Int), (codesL, ((9 : Int), ((0 : Int), (c0, (c1, (c2, (c3, (c4, (c5, (c6, (c7, (c8, (c9, (c10, (c11, (c12, (c13, (c14, (at1, (len1, ([239, codeS j], er))))))))))))))))))))))))))) = some (.inl (ts, (j, ((ts.length : Int), (((k + 1 : Nat) : Int), (c0, (c1, (c2, (c3, (c4, (c5, (c6, (c7, (c8, (c9, (c10, (c11, (c12, (c13, c14))))))))))))))))))) := by
  have := loop_st (f := lontarlaw18_IsciiSwitch_L0 FU64) (m := 9) (fu := FU64) (fun i => (ts, (sc, ((k : Int), ((if j < (i : Int) then j else -1), ((ts.length : Int), ((k : Int), (codesL, ((9 : Int), ((i : Int), (c0, (c1, (c2, (c3, (c4, (c5, (c6, (c7, (c8, (c9, (c10, (c11, (c12, (c13, (c14, (at1, (len1, ([239, codeS j], er))))))))))))))))))))))))))))
    (r := .inl (ts, (j, ((ts.length : Int), (((k + 1 : Nat) : Int), (c0, (c1, (c2, (c3, (c4, (c5, (c6, (c7, (c8, (c9, (c10, (c11, (c12, (c13, c14)))))))))))))))))))
    (by
      intro i hi
      unfold lontarlaw18_IsciiSwitch_L0
      obtain ⟨c, e1, e2⟩ := codes_eqS hi h0 h9
      have e3 : nthI codesL (i : Int) = some c := by rw [nthI_nat]; exact e1
      have d9 : decide ((i : Int) < (9 : Int)) = true := decide_eq_true (by omega)
      have w1 : w64 ((i : Int) + 1) = ((i + 1 : Nat) : Int) := w64_succ hi (by omega)
      have o1 : nthI [(239 : Int), codeS j] 1 = some (codeS j) := rfl
      simp only [d9, cond_true, e3, bind_some', Int.toNat_natCast, e1, o1, e2, w1]
      by_cases c1 : (i : Int) = j
      · rw [decide_eq_true c1, cond_true]
        have : (if j < ((i + 1 : Nat) : Int) then j else -1) = (i : Int) := by rw [if_pos (by omega)]; exact c1.symm
        rw [this]
      · rw [decide_eq_false c1, cond_false]
        have : (if j < ((i + 1 : Nat) : Int) then j else -1) = (if j < (i : Int) then j else -1) := by
          by_cases c2 : j < (i : Int)
          · rw [if_pos c2, if_pos (by omega)]
          · rw [if_neg c2, if_neg (by omega)]
        rw [this])
    (by
      unfold lontarlaw18_IsciiSwitch_L0
      have e : (if j < ((9 : Nat) : Int) then j else -1) = j := by rw [if_pos (by omega)]
      have d9 : decide (((9 : Nat) : Int) < (9 : Int)) = false := by decide
      have n1 : decide (j < 0) = false := decide_eq_false (by omega)
      have n2 : (j == sc) = false := beq_eq_false_iff_ne.2 hne
      have n3 : ((k : Int) == w64 ((ts.length : Int) - 1)) = false := by rw [w64_id (by omega) (by omega)]; exact beq_eq_false_iff_ne.2 (by omega)
      have n4 : (len1 != 0) = false := bne_eq_false_iff_eq.2 hl
      simp only [e, d9, cond_false, n1, n2, n3, n4, Option.map_some, w64_succ (show k < ts.length by omega) (show ts.length < 9223372036854775808 by omega)])
    (by unfold FU64; omega)
  have z : (if j < ((0 : Nat) : Int) then j else -1) = -1 := by rw [if_neg (by omega)]
  simp only [z] at this
  exact this
theorem switch_L1_eq {ts : List Tok} (hn : ts.length < 1000000) (c0 : List Node) (c1 : List Rule) (c2 : List Int) (c3 : Int) (c4 : Int) (c5 : Int) (c6 : Int) (c7 : List Node) (c8 : List Rule) (c9 : List Node) (c10 : List Rule) (c11 : List Int) (c12 : Int) (c13 : Int) (c14 : Int) : ∀ (m k : Nat) (F : Nat) (sc : Int), ts.length - k = m → m < F → k ≤ ts.length → SwOk sc (ts.drop k) c12 →
    loopM (lontarlaw18_IsciiSwitch_L1 FU64) F (ts, (sc, ((ts.length : Int), ((k : Int), (c0, (c1, (c2, (c3, (c4, (c5, (c6, (c7, (c8, (c9, (c10, (c11, (c12, (c13, c14)))))))))))))))))) = some true := by
  intro m
  induction m with
  | zero =>
    intro k F sc hm hF hk hs
    have hk' : k = ts.length := by omega
    subst hk'
    rw [List.drop_length] at hs
    cases hs
    obtain ⟨F, rfl⟩ : ∃ G, F = G + 1 := ⟨F - 1, by omega⟩
    have : lontarlaw18_IsciiSwitch_L1 FU64 (ts, (c12, ((ts.length : Int), ((ts.length : Int), (c0, (c1, (c2, (c3, (c4, (c5, (c6, (c7, (c8, (c9, (c10, (c11, (c12, (c13, c14)))))))))))))))))) = some (.inr true) := by
      unfold lontarlaw18_IsciiSwitch_L1
      simp only [dlt, decide_eq_false (Nat.lt_irrefl ts.length), cond_false, iscii_Encoder_Script, bind_some', Option.map_some, beq_self_eq_true]
    simp only [loopM, this]
  | succ m ih =>
    intro k F sc hm hF hk hs
    have hlt : k < ts.length := by omega
    obtain ⟨F, rfl⟩ : ∃ G, F = G + 1 := ⟨F - 1, by omega⟩
    have hd : ts.drop k = ts[k] :: ts.drop (k + 1) := List.drop_eq_getElem_cons hlt
    have w1 : w64 ((k : Int) + 1) = ((k + 1 : Nat) : Int) := w64_succ hlt (by omega)
    have go : ∀ sc', SwOk sc' (ts.drop (k + 1)) c12 → lontarlaw18_IsciiSwitch_L1 FU64 (ts, (sc, ((ts.length : Int), ((k : Int), (c0, (c1, (c2, (c3, (c4, (c5, (c6, (c7, (c8, (c9, (c10, (c11, (c12, (c13, c14)))))))))))))))))) = some (.inl (ts, (sc', ((ts.length : Int), (((k + 1 : Nat) : Int), (c0, (c1, (c2, (c3, (c4, (c5, (c6, (c7, (c8, (c9, (c10, (c11, (c12, (c13, c14))))))))))))))))))) → loopM (lontarlaw18_IsciiSwitch_L1 FU64) (F + 1) (ts, (sc, ((ts.length : Int), ((k : Int), (c0, (c1, (c2, (c3, (c4, (c5, (c6, (c7, (c8, (c9, (c10, (c11, (c12, (c13, c14)))))))))))))))))) = some true := by
      intro sc' h1 h2
      simp only [loopM, h2]
      exact ih (k + 1) F sc' (by omega) (by omega) (by omega) h1
    rw [hd] at hs
    generalize hrest : ts.drop (k + 1) = rest at hs
    generalize htk : ts[k] = t at hs
    cases hs with
    | skip h r =>
      refine go sc (by rw [hrest]; exact r) ?_
      unfold lontarlaw18_IsciiSwitch_L1
      simp only [dlt, decide_eq_true hlt, cond_true, nthI_get hlt, htk, bind_some', Int.toNat_natCast, List.getElem?_eq_getElem hlt, w1]
      by_cases c1 : t.2.2.1.length = 2
      · have : ((t.2.2.1.length : Int) != 2) = false := by rw [c1]; rfl
        rw [this, cond_false]
        unfold swO at h
        rw [decide_eq_true c1, Bool.true_and] at h
        cases hl : t.2.2.1 with
        | nil => rw [hl] at c1; simp at c1
        | cons x xs =>
          rw [hl] at h
          have hx : (x != 239) = true := by
            rw [bne_iff_ne]
            rintro rfl
            simp at h
          have o0 : nthI (x :: xs) (0 : Int) = some x := rfl
          simp only [o0, bind_some', hx, cond_true]
      · have : ((t.2.2.1.length : Int) != 2) = true := by rw [bne_iff_ne]; omega
        rw [this, cond_true]
    | sw h0 h9 hj hne r =>
      rename_i j k'
      refine go j (by rw [hrest]; exact r) ?_
      have hk2 : k + 1 < ts.length := by
        rcases Nat.lt_or_ge (k + 1) ts.length with h | h
        · exact h
        · rw [List.drop_eq_nil_of_le h] at hrest; exact absurd hrest.symm hne
      have hL := switch_L0_eq h0 h9 hj hk2 hn c0 c1 c2 c3 c4 c5 c6 c7 c8 c9 c10 c11 c12 c13 c14 k' 0 0 rfl
      unfold lontarlaw18_IsciiSwitch_L1
      simp only [dlt, decide_eq_true hlt, cond_true, nthI_get hlt, htk, bind_some', Int.toNat_natCast, List.getElem?_eq_getElem hlt, swT, List.length_cons, List.length_nil]
      have o0 : nthI [(239 : Int), codeS j] (0 : Int) = some 239 := rfl
      have o2 : (((0 + 1 + 1 : Nat) : Int) != 2) = false := rfl
      have o3 : ((239 : Int) != 239) = false := rfl
      rw [o2, cond_false, o0, bind_some', o3, cond_false, codes14_eq, bind_some']
      exact hL
theorem switch_L2_eq {rs : List Rule} (hS : Sides rs) (hW : Sides (turn rs)) (hn : noSw (turn rs) = true) {N1 N2 : List Node} (t1 : TrieOk N1 rs) (t2 : TrieOk N2 (turn rs)) {ss : List Int} (hu : ss.length ≤ 900) (hp : ∀ s ∈ ss, s < 1000000000) :
    loopM (lontarlaw18_IsciiSwitch_L2 FU64) FU64 (([] : List Tok), (ss, ((ss.length : Int), ((0 : Int), (N2, (outsOf (turn rs), (([] : List Int), ((0 : Int), ((0 : Int), ((maxIn rs : Int), ((maxIn (turn rs) : Int), (N1, (outsOf rs, (N2, (outsOf (turn rs), (([] : List Int), ((0 : Int), ((0 : Int), (0 : Int))))))))))))))))))) = some true := by
  obtain ⟨v, h1, h2⟩ := loop_n (f := lontarlaw18_IsciiSwitch_L2 FU64) (n := ss.length)
    (I := fun k x => ∃ (out raw : List Tok) (w ahead : List Int) (a st : Int), x = (out, (ss, ((ss.length : Int), ((k : Int), (N2, (outsOf (turn rs), (w, (a, (st, ((maxIn rs : Int), ((maxIn (turn rs) : Int), (N1, (outsOf rs, (N2, (outsOf (turn rs), (ahead, ((esRun rs 0 es0 (ss.take k)).sc, ((k : Int), (0 : Int))))))))))))))))))) ∧ ERel rs k (esRun rs 0 es0 (ss.take k)) out ahead w a raw)
    (R := fun v => v = true)
    (by
      rintro k x hk ⟨out, raw, w, ahead, a, st, rfl, hE⟩
      left
      unfold lontarlaw18_IsciiSwitch_L2
      obtain ⟨new, ahead', w', a', st', raw', e1, hE', hn'⟩ := iput_eq hS hW t1 t2 (k := k) (by omega) hE ss[k] st 0 (maxIn rs : Int) (maxIn (turn rs) : Int) (N2 := N2) (R1 := outsOf rs) (R2 := outsOf (turn rs))
      have hol := hE.outLen
      simp only [dlt, decide_eq_true hk, cond_true, nthI_get hk, bind_some', Int.toNat_natCast, List.getElem?_eq_getElem hk, e1, w64_succ hk (show ss.length < 9223372036854775808 by omega)]
      rw [fit48 (by omega) (by omega), cond_true]
      rw [← esRun_take hk] at hE' ⊢
      exact ⟨_, rfl, _, _, _, _, _, _, rfl, hE'⟩)
    (by
      rintro x ⟨out, raw, w, ahead, a, st, rfl, hE⟩
      unfold lontarlaw18_IsciiSwitch_L2
      rw [List.take_length] at hE ⊢
      obtain ⟨new, ahead', a', st', e1, ho, hn'⟩ := iend_eq hS hW t1 t2 (k := ss.length) (by omega) hE st 0 (maxIn rs : Int) (maxIn (turn rs) : Int) (N2 := N2) (R1 := outsOf rs) (R2 := outsOf (turn rs))
      have hol := hE.outLen
      have hsm : (esOut rs (esRun rs 0 es0 ss)).length ≤ 100000 := by rw [← ho, List.length_append]; omega
      have hsw := (EI.run hW hn ss hp).fin hW hn
      simp only [dlt, decide_eq_false (Nat.lt_irrefl ss.length), cond_false, e1, bind_some']
      rw [fit48 (by omega) (by omega), cond_true, ho]
      have hL := switch_L1_eq (ts := esOut rs (esRun rs 0 es0 ss)) (by omega) N2 (outsOf (turn rs)) [] a' st' (maxIn rs : Int) (maxIn (turn rs) : Int) N1 (outsOf rs) N2 (outsOf (turn rs)) ahead' (esRun rs 0 es0 ss).sc (ss.length : Int) 0 (esOut rs (esRun rs 0 es0 ss)).length 0 FU64 0 (by omega) (by unfold FU64; omega) (by omega) (by simpa using hsw)
      refine ⟨_, ?_, rfl⟩
      exact congrArg (Option.map Sum.inr) hL)
    FU64 0 (([] : List Tok), (ss, ((ss.length : Int), ((0 : Int), (N2, (outsOf (turn rs), (([] : List Int), ((0 : Int), ((0 : Int), ((maxIn rs : Int), ((maxIn (turn rs) : Int), (N1, (outsOf rs, (N2, (outsOf (turn rs), (([] : List Int), ((0 : Int), ((0 : Int), (0 : Int))))))))))))))))))) (by omega) (by show ss.length < 0 + FU64; unfold FU64; omega) ⟨[], [], [], [], 0, 0, rfl, ERel.zero rs⟩
  rw [h2] at h1
  exact h1
theorem isciiSwitch_of {rs : List Rule} {l us : List Int} {N1 N2 : List Node} (ha : lontarlaw18_awake FU64 () = some true) (e1 : lontarlaw18_Scalars FU64 l = some us) (ea : iscii_all FU64 () = some ((maxIn rs : Int), ((maxIn (turn rs) : Int), (N1, (outsOf rs, (N2, outsOf (turn rs))))))) (hL : loopM (lontarlaw18_IsciiSwitch_L2 FU64) FU64 (([] : List Tok), (us, ((us.length : Int), ((0 : Int), (N2, (outsOf (turn rs), (([] : List Int), ((0 : Int), ((0 : Int), ((maxIn rs : Int), ((maxIn (turn rs) : Int), (N1, (outsOf rs, (N2, (outsOf (turn rs), (([] : List Int), ((0 : Int), ((0 : Int), (0 : Int))))))))))))))))))) = some true) : lontarlaw18_IsciiSwitch FU64 l = some true := by
  unfold lontarlaw18_IsciiSwitch
  rw [ha, bind_some', Bool.not_true, cond_false]
  refine bind_of (iscii_Encode_of ea) ?_
  refine bind_of e1 ?_
  exact hL
theorem isciiSwitch_true {l : List Int} (hl : isU8 l) : lontarlaw18_IsciiSwitch FU64 l = some true := by
  obtain ⟨us, e1, hu, hp⟩ := scalars_eq hl
  obtain ⟨N1, N2, ea, t1, t2⟩ := iscii_all_eq
  exact isciiSwitch_of awake18 e1 ea (switch_L2_eq isR_sides isW_sides isW_noSw t1 t2 (ss := us) (by omega) (fun s hs => by have := hp s hs; omega))
theorem isciiSwitch_law (a0 : (Sh.sl (.int .u8)).den) (w0 : wfD (.sl (.int .u8)) a0) : lontarlaw18_IsciiSwitch FU64 a0 = some true := isciiSwitch_true (isU8_of w0)

theorem back_L0_eq {ys : List Tok} (hfew : fewO ys) {out : List Int} (hlen : out.length + 8 * ys.length ≤ 1000000) {l O w : List Int} {ts : List Tok} {tl k ol a st sc : Int} {j : Nat} (hj : j < 1000000) {M : List Node} {R : List Rule} (c0 : List Node) (c1 : List Rule) (c2 : List Int) (c3 : Int) (c4 : Int) (c5 : Int) (c6 : Int) (c7 : List Node) (c8 : List Rule) (c9 : List Node) (c10 : List Rule) (c11 : List Int) (c12 : Int) (c13 : Int) (c14 : Int) (x0 x1 : Int) (x2 : List Int) (x3 : Int) :
    loopM (lontarlaw18_IsciiBack_L0 FU64) FU64 (l, (out, (ts, (tl, (k, (O, (ol, ((j : Int), (ys, ((ys.length : Int), ((0 : Int), (c0, (c1, (c2, (c3, (c4, (c5, (c6, (c7, (c8, (c9, (c10, (c11, (c12, (c13, (c14, (M, (R, (w, (a, (st, (sc, (x0, (x1, (x2, x3))))))))))))))))))))))))))))))))))) = some (.inl (l, ((out ++ flat ys), (ts, (tl, (k, (O, (ol, (((j + 1 : Nat) : Int), (c0, (c1, (c2, (c3, (c4, (c5, (c6, (c7, (c8, (c9, (c10, (c11, (c12, (c13, (c14, (M, (R, (w, (a, (st, (sc, (x0, (x1, (x2, x3))))))))))))))))))))))))))))))))) := by
  have := loop_st (f := lontarlaw18_IsciiBack_L0 FU64) (fun i => (l, ((out ++ flat (ys.take i)), (ts, (tl, (k, (O, (ol, ((j : Int), (ys, ((ys.length : Int), ((i : Int), (c0, (c1, (c2, (c3, (c4, (c5, (c6, (c7, (c8, (c9, (c10, (c11, (c12, (c13, (c14, (M, (R, (w, (a, (st, (sc, (x0, (x1, (x2, x3)))))))))))))))))))))))))))))))))))) (m := ys.length) (fu := FU64)
    (r := .inl (l, ((out ++ flat ys), (ts, (tl, (k, (O, (ol, (((j + 1 : Nat) : Int), (c0, (c1, (c2, (c3, (c4, (c5, (c6, (c7, (c8, (c9, (c10, (c11, (c12, (c13, (c14, (M, (R, (w, (a, (st, (sc, (x0, (x1, (x2, x3)))))))))))))))))))))))))))))))))
    (fun i hi => by
      unfold lontarlaw18_IsciiBack_L0
      have hc := flat_len (ts := ys.take i) (fun x hx => hfew x (List.mem_of_mem_take hx))
      have h8 := hfew _ (List.getElem_mem hi)
      simp only [List.length_take] at hc
      simp only [dlt, decide_eq_true hi, cond_true, nthI_get hi, bind_some', Int.toNat_natCast, List.getElem?_eq_getElem hi, w64_succ hi (show ys.length < 9223372036854775808 by omega)]
      rw [fit8 (by simp only [List.length_append]; omega) (by omega), cond_true]
      rw [List.take_succ_eq_append_getElem hi, flat_snoc, List.append_assoc])
    (by
      unfold lontarlaw18_IsciiBack_L0
      simp only [dlt, decide_eq_false (Nat.lt_irrefl ys.length), cond_false, List.take_length]
      rw [w64_id (by omega) (by omega)]
      rfl)
    (by unfold FU64; omega)
  simpa [flat] using this
theorem back_L1_eq {rs : List Rule} (hS : Sides rs) {M1 : List Node} (hT : TrieOk M1 rs) {told raw : List Tok} {w fed O : List Int} {sc a st : Int} (h : DRel rs fed told sc a w raw) (hfd : fed.length + O.length ≤ 1000) {l : List Int} {ts : List Tok} {tl : Int} {k : Nat} (hk : k < 1000000) (c0 : List Node) (c1 : List Rule) (c2 : List Int) (c3 : Int) (c4 : Int) (c5 : Int) (c6 : Int) (c7 : List Node) (c8 : List Rule) (c9 : List Node) (c10 : List Rule) (c11 : List Int) (c12 : Int) (c13 : Int) (c14 : Int) (x0 x1 : Int) (x2 : List Int) (x3 : Int) :
    ∃ told' raw' w' a' st' sc', loopM (lontarlaw18_IsciiBack_L1 FU64) FU64 (l, ((flat told), (ts, (tl, ((k : Int), (O, ((O.length : Int), ((0 : Int), (c0, (c1, (c2, (c3, (c4, (c5, (c6, (c7, (c8, (c9, (c10, (c11, (c12, (c13, (c14, (M1, (outsOf rs, (w, (a, (st, (sc, (x0, (x1, (x2, x3)))))))))))))))))))))))))))))))) = some (.inl (l, ((flat told'), (ts, (tl, (((k + 1 : Nat) : Int), (c0, (c1, (c2, (c3, (c4, (c5, (c6, (c7, (c8, (c9, (c10, (c11, (c12, (c13, (c14, (M1, (outsOf rs, (w', (a', (st', sc')))))))))))))))))))))))))) ∧ DRel rs (fed ++ O) told' sc' a' w' raw' := by
  obtain ⟨v, h1, told', raw', w', a', st', sc', rfl, h2⟩ := loop_n (f := lontarlaw18_IsciiBack_L1 FU64) (n := O.length)
    (I := fun j x => ∃ (told raw : List Tok) (w : List Int) (a st sc : Int), x = (l, ((flat told), (ts, (tl, ((k : Int), (O, ((O.length : Int), ((j : Int), (c0, (c1, (c2, (c3, (c4, (c5, (c6, (c7, (c8, (c9, (c10, (c11, (c12, (c13, (c14, (M1, (outsOf rs, (w, (a, (st, (sc, (x0, (x1, (x2, x3)))))))))))))))))))))))))))))))) ∧ DRel rs (fed ++ O.take j) told sc a w raw)
    (R := fun v => ∃ told' raw' w' a' st' sc', v = .inl (l, ((flat told'), (ts, (tl, (((k + 1 : Nat) : Int), (c0, (c1, (c2, (c3, (c4, (c5, (c6, (c7, (c8, (c9, (c10, (c11, (c12, (c13, (c14, (M1, (outsOf rs, (w', (a', (st', sc'))))))))))))))))))))))))) ∧ DRel rs (fed ++ O) told' sc' a' w' raw')
    (by
      rintro j x hj ⟨told, raw, w, a, st, sc, rfl, hD⟩
      left
      unfold lontarlaw18_IsciiBack_L1
      have hl := hD.len
      have hfl : (fed ++ O.take j).length ≤ 1000 := by simp only [List.length_append, List.length_take]; omega
      obtain ⟨new, sc', w', a', st', raw', p1, p2, p3, p4⟩ := dput_eq hS hT hfl hD O[j] st
      have hfew : fewO told := by rw [hD.o]; exact meanT_few _ _ hD.fw
      have htl : told.length ≤ 1000 := by rw [hD.o, meanT_len]; omega
      have hfl2 := flat_len hfew
      have h8 := hD.o
      simp only [dlt, decide_eq_true hj, cond_true, nthI_get hj, bind_some', p1]
      rw [back_L0_eq p4 (by omega) (show j < 1000000 by omega), ← flat_append]
      refine ⟨_, rfl, _, raw', _, _, _, _, rfl, ?_⟩
      rw [List.take_succ_eq_append_getElem hj, ← List.append_assoc]
      exact p2)
    (by
      rintro x ⟨told, raw, w, a, st, sc, rfl, hD⟩
      unfold lontarlaw18_IsciiBack_L1
      simp only [dlt, decide_eq_false (Nat.lt_irrefl O.length), cond_false]
      rw [w64_id (by omega) (by omega)]
      rw [List.take_length] at hD
      exact ⟨_, rfl, _, raw, _, _, _, _, rfl, hD⟩)
    FU64 0 _ (by omega) (by show O.length < 0 + FU64; unfold FU64; omega) ⟨told, raw, w, a, st, sc, rfl, by simpa using h⟩
  exact ⟨told', raw', w', a', st', sc', h1, h2⟩
theorem back_L2_eq {ys : List Tok} (hfew : fewO ys) {out l us : List Int} (hlen : out.length + 8 * ys.length ≤ 1000000) (hl : lontarlaw18_Scalars FU64 l = some us) {M : List Node} {R : List Rule} {w : List Int} {a st sc : Int} (c0 : List Node) (c1 : List Rule) (c2 : List Int) (c3 : Int) (c4 : Int) (c5 : Int) (c6 : Int) (c7 : List Node) (c8 : List Rule) (c9 : List Node) (c10 : List Rule) (c11 : List Int) (c12 : Int) (c13 : Int) (c14 : Int) (h1 : out ++ flat ys = us) (h2 : sc = c12) :
    loopM (lontarlaw18_IsciiBack_L2 FU64) FU64 (l, (out, (ys, ((ys.length : Int), ((0 : Int), (c0, (c1, (c2, (c3, (c4, (c5, (c6, (c7, (c8, (c9, (c10, (c11, (c12, (c13, (c14, (M, (R, (w, (a, (st, sc))))))))))))))))))))))))) = some true := by
  have := loop_st (f := lontarlaw18_IsciiBack_L2 FU64) (fun i => (l, ((out ++ flat (ys.take i)), (ys, ((ys.length : Int), ((i : Int), (c0, (c1, (c2, (c3, (c4, (c5, (c6, (c7, (c8, (c9, (c10, (c11, (c12, (c13, (c14, (M, (R, (w, (a, (st, sc)))))))))))))))))))))))))) (m := ys.length) (fu := FU64)
    (r := true)
    (fun i hi => by
      unfold lontarlaw18_IsciiBack_L2
      have hc := flat_len (ts := ys.take i) (fun x hx => hfew x (List.mem_of_mem_take hx))
      have h8 := hfew _ (List.getElem_mem hi)
      simp only [List.length_take] at hc
      simp only [dlt, decide_eq_true hi, cond_true, nthI_get hi, bind_some', Int.toNat_natCast, List.getElem?_eq_getElem hi, w64_succ hi (show ys.length < 9223372036854775808 by omega)]
      rw [fit8 (by simp only [List.length_append]; omega) (by omega), cond_true]
      rw [List.take_succ_eq_append_getElem hi, flat_snoc, List.append_assoc])
    (by
      unfold lontarlaw18_IsciiBack_L2
      have hsm : small us := by
        have hc := flat_len hfew
        rw [← h1]; unfold small; simp only [List.length_append]; omega
      simp only [dlt, decide_eq_false (Nat.lt_irrefl ys.length), cond_false, List.take_length, hl, bind_some', h1, units_eq fu64 hsm, decide_true, cond_true, iscii_Decoder_Script, iscii_Encoder_Script, h2, beq_self_eq_true, Option.map_some])
    (by unfold FU64; omega)
  simpa [flat] using this
theorem back_L3_eq {rs : List Rule} (hS : Sides rs) {M1 : List Node} (hT : TrieOk M1 rs) {ts : List Tok} (hfew : fewO ts) (hlen : ts.length ≤ 124) {l us : List Int} (hl : lontarlaw18_Scalars FU64 l = some us) (c0 : List Node) (c1 : List Rule) (c2 : List Int) (c3 : Int) (c4 : Int) (c5 : Int) (c6 : Int) (c7 : List Node) (c8 : List Rule) (c9 : List Node) (c10 : List Rule) (c11 : List Int) (c12 : Int) (c13 : Int) (c14 : Int)
    (hok : okT ts → flat (meanT 0 (toksA rs 0 (cat ts))).1 = us ∧ (meanT 0 (toksA rs 0 (cat ts))).2 = c12) :
    loopM (lontarlaw18_IsciiBack_L3 FU64) FU64 (l, (([] : List Int), (ts, ((ts.length : Int), ((0 : Int), (c0, (c1, (c2, (c3, (c4, (c5, (c6, (c7, (c8, (c9, (c10, (c11, (c12, (c13, (c14, (M1, (outsOf rs, (([] : List Int), ((0 : Int), ((0 : Int), (0 : Int)))))))))))))))))))))))))) = some true := by
  obtain ⟨v, h1, h2⟩ := loop_n (f := lontarlaw18_IsciiBack_L3 FU64) (n := ts.length)
    (I := fun k x => ∃ (told raw : List Tok) (w : List Int) (a st sc : Int), x = (l, ((flat told), (ts, ((ts.length : Int), ((k : Int), (c0, (c1, (c2, (c3, (c4, (c5, (c6, (c7, (c8, (c9, (c10, (c11, (c12, (c13, (c14, (M1, (outsOf rs, (w, (a, (st, sc))))))))))))))))))))))))) ∧ DRel rs (cat (ts.take k)) told sc a w raw ∧ okT (ts.take k))
    (R := fun v => v = true)
    (by
      rintro k x hk ⟨told, raw, w, a, st, sc, rfl, hD, ho⟩
      unfold lontarlaw18_IsciiBack_L3
      simp only [dlt, decide_eq_true hk, cond_true, nthI_get hk, bind_some', Int.toNat_natCast, List.getElem?_eq_getElem hk]
      by_cases h0 : ts[k].2.2.2 = 0
      · left
        have : (ts[k].2.2.2 != 0) = false := bne_eq_false_iff_eq.2 h0
        rw [this, cond_false]
        have hcl := cat_len (ts := ts.take k) (fun x hx => hfew x (List.mem_of_mem_take hx))
        have h8 := hfew _ (List.getElem_mem hk)
        simp only [List.length_take] at hcl
        obtain ⟨told', raw', w', a', st', sc', q1, q2⟩ := back_L1_eq hS hT (O := ts[k].2.2.1) hD (st := st) (by omega) (l := l) (ts := ts) (tl := (ts.length : Int)) (k := k) (by omega) c0 c1 c2 c3 c4 c5 c6 c7 c8 c9 c10 c11 c12 c13 c14 ts[k].1 ts[k].2.1 ts[k].2.2.1 ts[k].2.2.2
        refine ⟨_, q1, _, raw', _, _, _, _, rfl, ?_, ?_⟩
        · rw [List.take_succ_eq_append_getElem hk, cat_append]
          simpa [cat] using q2
        · rw [List.take_succ_eq_append_getElem hk]
          intro x hx
          rw [List.mem_append] at hx
          rcases hx with hx | hx
          · exact ho x hx
          · simp only [List.mem_singleton] at hx
            subst hx; exact h0
      · right
        have : (ts[k].2.2.2 != 0) = true := bne_iff_ne.2 h0
        rw [this, cond_true]
        exact ⟨_, rfl, rfl⟩)
    (by
      rintro x ⟨told, raw, w, a, st, sc, rfl, hD, ho⟩
      unfold lontarlaw18_IsciiBack_L3
      rw [List.take_length] at hD ho
      have hcl := cat_len hfew
      have hdl := hD.len
      obtain ⟨new, sc', a', st', e1, e2, e3, e4, e5⟩ := dend_eq hS hT (by omega) hD st
      have hft : fewO told := by rw [hD.o]; exact meanT_few _ _ hD.fw
      have htl : told.length ≤ 1000 := by rw [hD.o, meanT_len]; omega
      have hfl2 := flat_len hft
      obtain ⟨o1, o2⟩ := hok ho
      simp only [dlt, decide_eq_false (Nat.lt_irrefl ts.length), cond_false, e1, bind_some']
      refine ⟨true, ?_, rfl⟩
      rw [back_L2_eq e5 (by omega) hl c0 c1 c2 c3 c4 c5 c6 c7 c8 c9 c10 c11 c12 c13 c14 (by rw [← flat_append, e2, o1]) (by rw [e3, o2])]
      rfl)
    FU64 0 (l, (([] : List Int), (ts, ((ts.length : Int), ((0 : Int), (c0, (c1, (c2, (c3, (c4, (c5, (c6, (c7, (c8, (c9, (c10, (c11, (c12, (c13, (c14, (M1, (outsOf rs, (([] : List Int), ((0 : Int), ((0 : Int), (0 : Int)))))))))))))))))))))))))) (by omega) (by show ts.length < 0 + FU64; unfold FU64; omega) ⟨[], [], [], 0, 0, 0, rfl, DRel.zero rs, fun x hx => by simp at hx⟩
  rw [h2] at h1
  exact h1
theorem back_L4_eq {rs : List Rule} (hR : Right rs) (hc : closedP rs) (hw : SwR rs) {N1 N2 M1 : List Node} (t1 : TrieOk N1 rs) (t2 : TrieOk N2 (turn rs)) (t3 : TrieOk M1 rs) {l ss : List Int} (hl : lontarlaw18_Scalars FU64 l = some ss) (hu : ss.length ≤ 60) (hp : ∀ s ∈ ss, 97 ≤ s ∧ s ≤ 8205) :
    loopM (lontarlaw18_IsciiBack_L4 FU64) FU64 (l, (([] : List Tok), (ss, ((ss.length : Int), ((0 : Int), (N2, (outsOf (turn rs), (([] : List Int), ((0 : Int), ((0 : Int), ((maxIn rs : Int), ((maxIn (turn rs) : Int), (N1, (outsOf rs, (N2, (outsOf (turn rs), (([] : List Int), ((0 : Int), ((0 : Int), ((0 : Int), (M1, (outsOf rs, (([] : List Int), ((0 : Int), ((0 : Int), (0 : Int)))))))))))))))))))))))))) = some true := by
  have hS := hR.toSides
  have hW := (turn_right hS).toSides
  obtain ⟨v, h1, h2⟩ := loop_n (f := lontarlaw18_IsciiBack_L4 FU64) (n := ss.length)
    (I := fun k x => ∃ (out raw : List Tok) (w ahead : List Int) (a st : Int), x = (l, (out, (ss, ((ss.length : Int), ((k : Int), (N2, (outsOf (turn rs), (w, (a, (st, ((maxIn rs : Int), ((maxIn (turn rs) : Int), (N1, (outsOf rs, (N2, (outsOf (turn rs), (ahead, ((esRun rs 0 es0 (ss.take k)).sc, ((k : Int), ((0 : Int), (M1, (outsOf rs, (([] : List Int), ((0 : Int), ((0 : Int), (0 : Int)))))))))))))))))))))))))) ∧ ERel rs k (esRun rs 0 es0 (ss.take k)) out ahead w a raw)
    (R := fun v => v = true)
    (by
      rintro k x hk ⟨out, raw, w, ahead, a, st, rfl, hE⟩
      left
      unfold lontarlaw18_IsciiBack_L4
      obtain ⟨new, ahead', w', a', st', raw', e1, hE', hn'⟩ := iput_eq hS hW t1 t2 (k := k) (by omega) hE ss[k] st 0 (maxIn rs : Int) (maxIn (turn rs) : Int) (N2 := N2) (R1 := outsOf rs) (R2 := outsOf (turn rs))
      have hol := hE.outLen
      simp only [dlt, decide_eq_true hk, cond_true, nthI_get hk, bind_some', Int.toNat_natCast, List.getElem?_eq_getElem hk, e1, w64_succ hk (show ss.length < 9223372036854775808 by omega)]
      rw [fit48 (by omega) (by omega), cond_true]
      rw [← esRun_take hk] at hE' ⊢
      exact ⟨_, rfl, _, _, _, _, _, _, rfl, hE'⟩)
    (by
      rintro x ⟨out, raw, w, ahead, a, st, rfl, hE⟩
      unfold lontarlaw18_IsciiBack_L4
      rw [List.take_length] at hE ⊢
      obtain ⟨new, ahead', a', st', e1, ho, hn'⟩ := iend_eq hS hW t1 t2 (k := ss.length) (by omega) hE st 0 (maxIn rs : Int) (maxIn (turn rs) : Int) (N2 := N2) (R1 := outsOf rs) (R2 := outsOf (turn rs))
      have hol := hE.outLen
      have hfew := esOut_few hS hW hE
      have hB := esRun_EB (rs := rs) ss
      have hsm : (esOut rs (esRun rs 0 es0 ss)).length ≤ 124 := by
        have := hB.len
        have hpl : (part rs (esRun rs 0 es0 ss).frm (esRun rs 0 es0 ss).us).length ≤ (esRun rs 0 es0 ss).us.length := by unfold part; rw [joinF_len]; exact toksA_len _ _
        unfold esOut
        rw [List.length_append]; omega
      simp only [dlt, decide_eq_false (Nat.lt_irrefl ss.length), cond_false, e1, bind_some']
      rw [fit48 (by omega) (by omega), cond_true, ho]
      have hL := back_L3_eq hS t3 hfew hsm hl N2 (outsOf (turn rs)) [] a' st' (maxIn rs : Int) (maxIn (turn rs) : Int) N1 (outsOf rs) N2 (outsOf (turn rs)) ahead' (esRun rs 0 es0 ss).sc (ss.length : Int) 0 (back_ok hR hc hw ss hp)
      refine ⟨_, ?_, rfl⟩
      exact congrArg (Option.map Sum.inr) hL)
    FU64 0 (l, (([] : List Tok), (ss, ((ss.length : Int), ((0 : Int), (N2, (outsOf (turn rs), (([] : List Int), ((0 : Int), ((0 : Int), ((maxIn rs : Int), ((maxIn (turn rs) : Int), (N1, (outsOf rs, (N2, (outsOf (turn rs), (([] : List Int), ((0 : Int), ((0 : Int), ((0 : Int), (M1, (outsOf rs, (([] : List Int), ((0 : Int), ((0 : Int), (0 : Int)))))))))))))))))))))))))) (by omega) (by show ss.length < 0 + FU64; unfold FU64; omega) ⟨[], [], [], [], 0, 0, rfl, ERel.zero rs⟩
  rw [h2] at h1
  exact h1
theorem isciiBack_of {rs : List Rule} {l us : List Int} {N1 N2 : List Node} (ha : lontarlaw18_awake FU64 () = some true) (e1 : lontarlaw18_Scalars FU64 l = some us) (ea : iscii_all FU64 () = some ((maxIn rs : Int), ((maxIn (turn rs) : Int), (N1, (outsOf rs, (N2, outsOf (turn rs))))))) (hL : loopM (lontarlaw18_IsciiBack_L4 FU64) FU64 (l, (([] : List Tok), (us, ((us.length : Int), ((0 : Int), (N2, (outsOf (turn rs), (([] : List Int), ((0 : Int), ((0 : Int), ((maxIn rs : Int), ((maxIn (turn rs) : Int), (N1, (outsOf rs, (N2, (outsOf (turn rs), (([] : List Int), ((0 : Int), ((0 : Int), ((0 : Int), (N1, (outsOf rs, (([] : List Int), ((0 : Int), ((0 : Int), (0 : Int)))))))))))))))))))))))))) = some true) : lontarlaw18_IsciiBack FU64 l = some true := by
  unfold lontarlaw18_IsciiBack
  rw [ha, bind_some', Bool.not_true, cond_false]
  refine bind_of (iscii_Encode_of ea) ?_
  refine bind_of (iscii_Decode_of ea) ?_
  refine bind_of e1 ?_
  exact hL
theorem isciiBack_true {l : List Int} (hl : isU8 l) : lontarlaw18_IsciiBack FU64 l = some true := by
  obtain ⟨us, e1, hu, hp⟩ := scalars_eq hl
  obtain ⟨N1, N2, ea, t1, t2⟩ := iscii_all_eq
  exact isciiBack_of awake18 e1 ea (back_L4_eq isR_right isR_closed isR_sw t1 t2 t1 e1 hu hp)
theorem isciiBack_law (a0 : (Sh.sl (.int .u8)).den) (w0 : wfD (.sl (.int .u8)) a0) : lontarlaw18_IsciiBack FU64 a0 = some true := isciiBack_true (isU8_of w0)

end Go.AM.M
