/- The abstract machine, 18: regions and code. -/
import Derived.Test.YtpbbgkmpjcddbaaA17
set_option linter.all false
namespace Go.AM

def WF (P : Program) : Prop := (∀ (k : Nat) (fn : Func), P.funcs[k]? = some fn → fn.body.isSome = true → (fn.name == "runtime.NumGoroutine") = false) ∧ P.follows .mixedOrders = true

/-- What is reckoned of a call the machine does, in whatever memory. -/
def AbsCall (P : Program) (f : FuncId) (args : List PV) (σ : List Bx) (r : PV) (σ' : List Bx) : Prop :=
  ∀ (g : Gh) (us : Array Value) (w : World), Inv P g { ts := number 0 args, n := args.length, σ } us w →
    Calls P f us w fun e w' => ∃ rv gc, e = .returned rv ∧ Inv P gc { ts := [(0, r)], n := 1, σ := σ' } #[rv] w' ∧ Ext g gc w w'

def SoundC (P : Program) (call : FuncId → List PV → List Bx → Option (PV × List Bx)) : Prop :=
  ∀ f args σ r σ', call f args σ = some (r, σ') → (∃ fn, P.funcs[f]? = some fn ∧ fn.body.isSome = true) ∧ AbsCall P f args σ r σ'

/-- The same, and, where 'k' holds, the boxes' blocks are as they were. -/
def AbsK (P : Program) (k : Prop) (f : FuncId) (args : List PV) (σ : List Bx) (r : PV) (σ' : List Bx) : Prop :=
  ∀ (g : Gh) (us : Array Value) (w : World), Inv P g { ts := number 0 args, n := args.length, σ } us w →
    Calls P f us w fun e w' => ∃ rv gc, e = .returned rv ∧ Inv P gc { ts := [(0, r)], n := 1, σ := σ' } #[rv] w' ∧ Ext g gc w w' ∧ (k → BoxKeep g w w')
def SoundK (P : Program) (k : Prop) (call : FuncId → List PV → List Bx → Option (PV × List Bx)) : Prop :=
  ∀ f args σ r σ', call f args σ = some (r, σ') → (∃ fn, P.funcs[f]? = some fn ∧ fn.body.isSome = true) ∧ AbsK P k f args σ r σ'
theorem SoundC.k {P : Program} {call : FuncId → List PV → List Bx → Option (PV × List Bx)} (h : SoundC P call) : SoundK P False call := fun f args σ r σ' he => by
  obtain ⟨h1, h2⟩ := h f args σ r σ' he
  exact ⟨h1, fun g us w hi => (h2 g us w hi).mono fun e w' ⟨rv, gc, k1, k2, k3⟩ => ⟨rv, gc, k1, k2, k3, fun hf => hf.elim⟩⟩

theorem srcOk_frozen {g : Gh} {w : World} {vs : Array Value} {N : Nat} : ∀ {xs : List PV} {us : List Value} {r : List (PV ⊕ Operand)} {us' : List Value}, RelL g w xs us → SrcOk g w vs N r us' → SrcOk g w vs N (xs.map .inl ++ r) (us ++ us') := by
  intro xs
  induction xs with
  | nil =>
    intro us r us' h k
    have : us = [] := List.eq_nil_of_length_eq_zero h.1
    subst this
    exact k
  | cons x xs ih =>
    intro us r us' h k
    cases us with
    | nil => have := h.1; simp at this
    | cons u us => exact ⟨h.2 0 (by simp) (by simp), ih ⟨by simpa using h.1, fun i hi hv => h.2 (i + 1) (by simpa using hi) (by simpa using hv)⟩ k⟩

theorem srcOk_ops {g : Gh} {w : World} {vs : Array Value} {N : Nat} : ∀ {os : List Operand} {r : List (PV ⊕ Operand)} {us' : List Value}, os.all (opLt N) = true → SrcOk g w vs N r us' → SrcOk g w vs N (os.map .inr ++ r) (os.map (evalV vs) ++ us') := by
  intro os
  induction os with
  | nil => intro r us' _ k; exact k
  | cons o os ih =>
    intro r us' h k
    simp only [List.all_cons, Bool.and_eq_true] at h
    exact ⟨rfl, h.1, ih h.2 k⟩

theorem evCall_sound {C : Ctx} {o : Oper} {c : Call} {f : Operand} {st st' : St} {g : Gh} {a : Act} {w : World} {kp : Prop} (hW : WF C.P) (hC : SoundK C.P kp C.call) (h : Inv C.P g st a.tmps w) (ho : o.op = .call c) (hf : c.callee = .value f)
    (he : evCall C st f c.args.toList o.dst = some st') {next : Act → World → Prop} {Q : Exit → Act → World → Prop}
    (hnext : ∀ a' w' g', Inv C.P g' st' a'.tmps w' → Ext g g' w w' → a'.defers = a.defers → (∃ v, a' = a.put o.dst v) → (kp → BoxKeep g w w') → next a' w') : o.wp C.P a w next Q := by
  unfold evCall at he
  split at he
  · rename_i k first captured hp
    obtain ⟨p, hs⟩ := peek_slot h hp
    have hs : Rel g w _ _ := hs
    generalize hev : evalV a.tmps f = fv at hs
    cases hs with
    | fn _ _ _ vf vc hlf hlc hrf hrc =>
      split at he
      · rename_i hall
        split at he
        · rename_i st1 hpass
          rw [nrm_eq] at he
          split at he
          · rename_i hal
            split at he
            · rename_i r σ hcall
              split at he
              · rename_i hrno'
                obtain ⟨hrno, hrnd⟩ := hrno'
                -- the state with room behind
                have h0 : Inv C.P g { ts := cutN st.n st.ts, n := st.n, σ := st.σ } a.tmps w := h.shrink (Nat.le_refl _) h.size (fun _ _ => rfl)
                have h1 := h0.grow (fun t ht => by
                  have ht : st.n ≤ t := ht
                  show lkp (cutN st.n st.ts) t = .dead
                  rw [lkp_cutN, if_neg (by omega)]) (first.length + c.args.toList.length + captured.length)
                have hgt : ∀ t, t < st.n → (a.tmps ++ Array.replicate (first.length + c.args.toList.length + captured.length) undef)[t]? = a.tmps[t]? := fun t ht => by
                  rw [Array.getElem?_append_left (by have := h.size; omega)]
                have hsrc0 : SrcOk g w a.tmps st.n (first.map .inl ++ c.args.toList.map .inr ++ captured.map .inl) (vf.toList ++ c.args.toList.map (evalV a.tmps) ++ vc.toList) := by
                  have e1 := srcOk_frozen (vs := a.tmps) (N := st.n) (r := []) (us' := []) (xs := captured) (us := vc.toList) ⟨by simpa using hlc, fun i hi hv => by simpa using hrc i hi (by simpa using hv)⟩ trivial
                  have e2 := srcOk_ops (vs := a.tmps) hall e1
                  have e3 := srcOk_frozen (xs := first) (us := vf.toList) ⟨by simpa using hlf, fun i hi hv => by simpa using hrf i hi (by simpa using hv)⟩ e2
                  simpa [List.append_assoc] using e3
                have hsrc := hsrc0.ext (Ext.refl g w) hgt
                obtain ⟨g1, vs1, i1, i2, i3, i4, i5, i6, i7⟩ := passL_sound h1 hsrc hpass
                have i3' : st1.n = st.n + (first.length + c.args.toList.length + captured.length) := i3
                have hlen : (vf.toList ++ c.args.toList.map (evalV a.tmps) ++ vc.toList).length = first.length + c.args.toList.length + captured.length := by simp [hlf, hlc]; omega
                have hus : (vf ++ c.args.map (evalV a.tmps) ++ vc).toList = vf.toList ++ c.args.toList.map (evalV a.tmps) ++ vc.toList := by simp
                have henter := i1.enter (N := st.n) (k := first.length + c.args.toList.length + captured.length) i3 hal (us := vf ++ c.args.map (evalV a.tmps) ++ vc) (by rw [← Array.length_toList, hus, hlen]) (fun i hi => by
                  have := i7 i (by rw [hlen]; exact hi)
                  rw [Nat.add_zero] at this
                  rw [this, ← Array.getElem?_toList, hus, List.getElem?_eq_getElem])
                obtain ⟨⟨fn, hfn, hbody⟩, habs⟩ := hC _ _ _ _ _ hcall
                have hcalls := habs (g1.callee st.n) _ w (by
                  have e : (getArgs st1.ts st.n (first.length + c.args.toList.length + captured.length)).length = first.length + c.args.toList.length + captured.length := getArgs_length _ _ _
                  rw [e]; exact henter)
                have hrun : (execOp a.eval o).run C.P w = .ok (.enter k (vf ++ c.args.map (evalV a.tmps) ++ vc)) w := by
                  have hb : fn.body.isNone = false := by cases hh : fn.body <;> simp [hh] at hbody ⊢
                  have hnm : ¬ ((fn.name == "runtime.NumGoroutine") = true) := by rw [hW.1 k fn hfn hbody]; simp
                  simp only [eval_eq, execOp, ho, resolve, hf, hev, Deferred.ofValue, invoke, callFunc, hfn, hb, Sem.run_bind, Sem.run_pure, Result.andThen_ok, run_program]
                  rw [if_neg hnm]
                  rfl
                unfold Oper.wp
                rw [hrun, Oper.upon_enter]
                refine hcalls.mono ?_
                rintro e w' ⟨rv, gc, rfl, j1, j2, jk⟩
                have hkeep : kp → BoxKeep g w w' := fun hk id b hb => jk hk id b (prefix_get i2.rho hb)
                obtain ⟨l1, l2⟩ := i1.leave (N := st.n) (by rw [i3']; omega) hrno j1 j2 (us := a.tmps) h.size (fun t ht => by rw [i5 t (by omega), hgt t ht])
                -- the result goes where it belongs
                have hput : ∀ {st4 : St} {g4 : Gh}, Inv C.P g4 st4 (putT (a.tmps.push rv) o.dst rv) w' → Ext g g4 w w' → st4.n = st.n + 1 → st' = st4.shrink st.n → next (a.put o.dst rv) w' := by
                  intro st4 g4 m1 m2 m3 m4
                  refine hnext _ w' g4 ?_ m2 (put_defers _ _ _) ⟨rv, rfl⟩ hkeep
                  rw [m4, put_tmps]
                  refine m1.shrink (by omega) ?_ fun t ht => ?_
                  · have := h.size
                    cases o.dst <;> simp [putT, this]
                  · have hsz := h.size
                    cases hd : o.dst with
                    | none => simp only [putT]; rw [Array.getElem?_push, if_neg (by omega)]
                    | some d =>
                      simp only [putT]
                      by_cases e : d = t
                      · subst e
                        rw [Array.getElem?_setIfInBounds_self_of_lt (by omega), Array.getElem?_setIfInBounds_self_of_lt (by simp; omega)]
                      · rw [Array.getElem?_setIfInBounds_ne (by omega), Array.getElem?_setIfInBounds_ne (by omega), Array.getElem?_push, if_neg (by omega)]
                unfold afterCall at he
                split at he
                · rename_i st4 hst4
                  injection he with he
                  split at hst4
                  · rename_i hown
                    split at hst4
                    · rename_i d hd
                      cases r with
                      | sl fl n xs =>
                        have hreal : realAt (g1.back gc st.n) (a.tmps.push rv) w' (.tmp st.n) = some rv := by
                          show (a.tmps.push rv)[st.n]? = some rv
                          rw [← h.size]; simp
                        obtain ⟨g4, m1, m2⟩ := mvD_inv l1 (q := .tmp st.n) (fl := fl) (n := n) (xs := xs) (by simp [contentAt, St.get, lkp, Nat.beq_refl]) hown hreal hst4
                        exact hput m1 ((i2.trans l2).trans m2) (mvD_n hst4) he.symm
                      | _ => cases hown
                    · rename_i hd
                      injection hst4 with hst4
                      refine hput (st4 := st4) (g4 := g1.back gc st.n) ?_ (i2.trans l2) (by rw [← hst4]) he.symm
                      rw [hd, ← hst4]; exact l1
                  · rename_i hown
                    refine hput (setD_rel l1 hst4 ?_) (i2.trans l2) (setD_n hst4) he.symm
                    obtain ⟨v, hv, hsl⟩ := l1.slot st.n r (by simp [St.get, lkp, Nat.beq_refl])
                    have hvr : v = rv := by
                      have : (a.tmps.push rv)[st.n]? = some rv := by rw [← h.size]; simp
                      rw [this] at hv
                      injection hv with hv
                      exact hv.symm
                    subst hvr
                    refine slot_rel hsl (by simpa using hown) hrno ?_
                    rintro rfl
                    cases hrnd
                · cases he
              · cases he
            · cases he
          · cases he
        · cases he
      · cases he
  · cases he

theorem OpOk.wp {P : Program} {o : Oper} {st' : St} {g : Gh} {a : Act} {w : World} (h : OpOk P o a.tmps w g st') {next : Act → World → Prop} {Q : Exit → Act → World → Prop}
    (hnext : ∀ a' w' g', Inv P g' st' a'.tmps w' → Ext g g' w w' → a'.defers = a.defers → (∃ v, a' = a.put o.dst v) → (keepKind o.op = true → BoxKeep g w w') → next a' w') : o.wp P a w next Q := by
  obtain ⟨r, v, w', g', h1, h2, h3, h4, h5⟩ := h
  unfold Oper.wp
  rw [eval_eq, h1]
  rcases h2 with rfl | ⟨rfl, rfl⟩
  · rw [Oper.upon_value]; exact hnext _ _ g' (by rw [put_tmps]; exact h3) h4 (put_defers _ _ _) ⟨_, rfl⟩ h5
  · rw [Oper.upon_skip]; exact hnext _ _ g' (by rw [put_tmps]; exact h3) h4 (put_defers _ _ _) ⟨_, rfl⟩ h5

theorem evOp'_soundK {C : Ctx} {o : Oper} {st st' : St} {g : Gh} {a : Act} {w : World} {kp : Prop} (hW : WF C.P) (hC : SoundK C.P kp C.call) (h : Inv C.P g st a.tmps w) (he : evOp' C o st = some st') {next : Act → World → Prop} {Q : Exit → Act → World → Prop}
    (hnext : ∀ a' w' g', Inv C.P g' st' a'.tmps w' → Ext g g' w w' → a'.defers = a.defers → (∃ v, a' = a.put o.dst v) → (keepKind o.op = true → kp → BoxKeep g w w') → next a' w') : o.wp C.P a w next Q := by
  have key : ∀ {st' : St}, evOp C o st = some st' → (∀ a' w' g', Inv C.P g' st' a'.tmps w' → Ext g g' w w' → a'.defers = a.defers → (∃ v, a' = a.put o.dst v) → (keepKind o.op = true → kp → BoxKeep g w w') → next a' w') → o.wp C.P a w next Q :=
    fun he hn => (evOp_sound h he).wp fun a' w' g' h1 h2 h3 h4 h5 => hn a' w' g' h1 h2 h3 h4 fun hk _ => h5 hk
  unfold evOp' at he
  split at he
  · rename_i c ho
    split at he
    · rename_i f hf; exact evCall_sound hW hC h ho hf he fun a' w' g' h1 h2 h3 h4 h5 => hnext a' w' g' h1 h2 h3 h4 fun _ => h5
    · exact key he hnext
  · exact key he hnext
theorem evOp'_sound {C : Ctx} {o : Oper} {st st' : St} {g : Gh} {a : Act} {w : World} (hW : WF C.P) (hC : SoundC C.P C.call) (h : Inv C.P g st a.tmps w) (he : evOp' C o st = some st') {next : Act → World → Prop} {Q : Exit → Act → World → Prop}
    (hnext : ∀ a' w' g', Inv C.P g' st' a'.tmps w' → Ext g g' w w' → a'.defers = a.defers → (∃ v, a' = a.put o.dst v) → next a' w') : o.wp C.P a w next Q :=
  evOp'_soundK hW hC.k h he fun a' w' g' h1 h2 h3 h4 _ => hnext a' w' g' h1 h2 h3 h4

theorem wanted_sound {P : Program} {ops : Array Oper} {o : Oper} {st : St} {g : Gh} {vs : Array Value} {w : World} {b : Bool} (h : Inv P g st vs w) (he : wantedA ops o st = some b) : Region.wanted o (yielded ops vs) = b := by
  unfold wantedA at he
  unfold Region.wanted
  split at he
  · rename_i hg; injection he with he; rw [hg]; exact he
  · rename_i j want hg
    rw [hg]
    simp only [yielded]
    split at he
    · rename_i p hp
      simp only [hp, Option.bind_some]
      split at he
      · rename_i t ht
        simp only [ht, Option.bind_some]
        split at he
        · rename_i x hx
          injection he with he
          obtain ⟨v, hv, hs⟩ := h.slot t _ hx
          have := val_slot (u := .bool x) rfl hs
          subst this
          rw [hv]
          subst he
          cases x <;> cases want <;> rfl
        · rename_i x hnb hx
          injection he with he
          obtain ⟨v, hv, hs⟩ := h.slot t _ hx
          have := val_slot (u := x) rfl hs
          subst this
          rw [hv]
          subst he
          cases v <;> first | rfl | (exfalso; exact hnb _ rfl)
        · cases he
      · rename_i ht
        injection he with he
        subst he
        simp [ht]
    · rename_i hp
      injection he with he
      subst he
      simp [hp]

theorem evOps_sound {C : Ctx} {ops : Array Oper} (hW : WF C.P) (hC : SoundC C.P C.call) {Q : Exit → Act → World → Prop} : ∀ {l : List Oper} {st st' : St} {g : Gh} {a : Act} {w : World}, Inv C.P g st a.tmps w → evOps C ops l st = some st' →
    (∀ a' w' g', Inv C.P g' st' a'.tmps w' → Ext g g' w w' → a'.defers = a.defers → Q .normal a' w') → wpList C.P ops Q l a w := by
  intro l
  induction l with
  | nil =>
    intro st st' g a w h he hQ
    injection he with he
    subst he
    exact hQ a w g h (Ext.refl _ _) rfl
  | cons o l ih =>
    intro st st' g a w h he hQ
    simp only [evOps] at he
    unfold wpList
    split at he
    · rename_i hw
      rw [if_pos (wanted_sound h hw)]
      split at he
      · rename_i st1 h1
        rw [nrmS_eq] at he
        refine .inl (evOp'_sound hW hC h h1 fun a' w' g' i1 i2 i3 _ => ?_)
        exact ih i1 he fun a2 w2 g2 j1 j2 j3 => hQ a2 w2 g2 j1 (i2.trans j2) (j3.trans i3)
      · cases he
    · rename_i hw
      rw [if_neg (by rw [wanted_sound h hw]; simp)]
      split at he
      · rename_i st1 h1
        rw [nrmS_eq] at he
        have i1 := setD_rel h h1 (.lit undef)
        refine ih (g := g) ?_ he fun a2 w2 g2 j1 j2 j3 => hQ a2 w2 g2 j1 j2 (j3.trans (put_defers _ _ _))
        rw [put_tmps]; exact i1
      · cases he
    · cases he

/-! ### Loops, one round at a time -/
def LoopWp (P : Program) (c : Code) (Q : Exit → Act → World → Prop) (a : Act) (w : World) : Prop :=
  ∀ (b : Frame) (k : List Item) (cs : List Frame), ∃ e a' w', Q e a' w' ∧ Arrives P (lone (b.at a (.code c :: .inLoop c :: k)) cs w) b k cs e a' w'
theorem LoopWp.loop {P : Program} {c : Code} {Q : Exit → Act → World → Prop} {a : Act} {w : World} (h : LoopWp P c Q a w) : (Code.loop c).wp P Q a w := by
  intro b k cs
  obtain ⟨e, a', w', hq, harr⟩ := h b k cs
  exact ⟨e, a', w', hq, .of_steps (.one step_loop) harr⟩
theorem LoopWp.round {P : Program} {c : Code} {Q : Exit → Act → World → Prop} {a : Act} {w : World} (h : c.wp P (Exit.then (LoopWp P c Q) Q) a w) : LoopWp P c Q a w := by
  intro b k cs
  obtain ⟨e, a₁, w₁, hq, harr⟩ := h b (.inLoop c :: k) cs
  cases e with
  | normal =>
    obtain ⟨e₂, a₂, w₂, hq₂, harr₂⟩ := hq b k cs
    exact ⟨e₂, a₂, w₂, hq₂, .of_steps (Steps.trans harr (.one step_inLoop)) harr₂⟩
  | exit id => exact ⟨_, a₁, w₁, hq, .pass (x := .inLoop c) rfl (fun _ _ => .inl (by simp)) harr⟩
  | goto l => exact ⟨_, a₁, w₁, hq, .pass (x := .inLoop c) rfl (fun _ _ => .inl (by simp)) harr⟩
  | ret => exact ⟨_, a₁, w₁, hq, .pass (x := .inLoop c) rfl (fun _ _ => .inl (by simp)) harr⟩
  | panic ch => exact ⟨_, a₁, w₁, hq, .pass (x := .inLoop c) rfl (fun _ _ => .inl (by simp)) harr⟩
  | outgrown => exact ⟨_, a₁, w₁, hq, .pass (x := .inLoop c) rfl (fun _ _ => .inl (by simp)) harr⟩

theorem lkp_keepL (keep : List Nat) (ts : List (Nat × PV)) : ∀ (l : List Nat) (t : Nat), lkp (keepL keep ts l) t = if t ∈ l then fixA keep (lkp ts t) else .dead := by
  intro l
  induction l with
  | nil => intro t; rfl
  | cons k l ih =>
    intro t
    simp only [keepL, lkp]
    by_cases e : k = t
    · subst e; simp [Nat.beq_refl]
    · simp only [beq_ne e, ih]
      by_cases hm : t ∈ l
      · rw [if_pos hm, if_pos (by simp [hm])]
      · rw [if_neg hm, if_neg (by simp [hm]; exact fun e' => e e'.symm)]

theorem fixA_cases (keep : List Nat) (x : PV) : fixA keep x = .dead ∨ (fixA keep x = x ∧ ∀ s, (x = .alias (.tmp s) ∨ ∃ k off, x = .elem (.tmp s) k off) → s ∈ keep) := by
  cases x with
  | alias q =>
    cases q with
    | tmp s =>
      by_cases h : keep.contains s = true
      · right
        refine ⟨by simp only [fixA, h, if_true], ?_⟩
        rintro s' (e | ⟨_, _, e⟩)
        · injection e with e; injection e with e; subst e; simpa using h
        · cases e
      · left; simp only [fixA, h, if_false, Bool.false_eq_true]
    | cell id off => right; exact ⟨rfl, fun s' e => by rcases e with e | ⟨_, _, e⟩ <;> cases e⟩
  | elem q k off =>
    cases q with
    | tmp s =>
      by_cases h : keep.contains s = true
      · right
        refine ⟨by simp only [fixA, h, if_true], ?_⟩
        rintro s' (e | ⟨_, _, e⟩)
        · cases e
        · injection e with e; injection e with e; subst e; simpa using h
      · left; simp only [fixA, h, if_false, Bool.false_eq_true]
    | cell id off => right; exact ⟨rfl, fun s' e => by rcases e with e | ⟨_, _, e⟩ <;> cases e⟩
  | _ => right; exact ⟨rfl, fun s' e => by rcases e with e | ⟨_, _, e⟩ <;> cases e⟩

theorem Inv.keep {P : Program} {st : St} {g : Gh} {vs : Array Value} {w : World} (h : Inv P g st vs w) (keep : List Nat) : Inv P g { st with ts := keepL keep st.ts keep } vs w := by
  · refine h.fewer rfl h.size (fun _ _ _ => rfl) fun t x hx => ?_
    have ht : t < st.n := (get_lt hx :)
    have hg : ∀ s, s < st.n → St.get { st with ts := keepL keep st.ts keep } s = some (if s ∈ keep then fixA keep (lkp st.ts s) else .dead) := by
      intro s hs
      simp only [St.get]
      rw [if_pos hs, lkp_keepL]
    rw [hg t ht] at hx
    injection hx with hx
    subst hx
    by_cases hm : t ∈ keep
    · rw [if_pos hm]
      have hst : st.get t = some (lkp st.ts t) := by simp only [St.get]; rw [if_pos ht]
      rcases fixA_cases keep (lkp st.ts t) with h1 | ⟨h1, h2⟩
      · exact .inl h1
      · rw [h1]
        refine .inr ⟨hst, fun q hq => ?_⟩
        obtain ⟨fl, n, xs, k1, _⟩ := alias_content h hst hq
        cases q with
        | tmp s =>
          have hs : s ∈ keep := h2 s (by rcases hq with e | ⟨k, off, e⟩; exact .inl e; exact .inr ⟨k, off, e⟩)
          have k1' : st.get s = some (.sl fl n xs) := k1
          refine ⟨?_, fun s' e => by injection e with e; subst e; exact (get_lt k1' : s < st.n)⟩
          show St.get { st with ts := keepL keep st.ts keep } s = st.get s
          have hl : lkp st.ts s = .sl fl n xs := by
            simp only [St.get] at k1'
            rw [if_pos (get_lt k1)] at k1'
            injection k1' with k1'
          rw [hg s (get_lt k1'), if_pos hs, k1', hl]
          rfl
        | cell id off => exact ⟨rfl, fun s' e => by cases e⟩
    · rw [if_neg hm]; exact .inl rfl

end Go.AM
