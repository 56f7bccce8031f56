/- The abstract machine, 28: certificates of code, of loops, of functions. -/
import Derived.Test.YtpbbgkmpjcddbaaA27
set_option linter.all false
namespace Go.AM

/-- Code runs from a state to an end and a state; 'base': so many boxes are the caller's. -/
def RunsB (P : Program) (base : Nat) (c : Code) (st : St) (x : Exit) (st' : St) : Prop :=
  ∀ (g : Gh) (a : Act) (w : World), Inv P g st a.tmps w → c.wp P (fun e a' w' => e = x ∧ ∃ g', Inv P g' st' a'.tmps w' ∧ Ext (g.cut base) (g'.cut base) w w' ∧ a'.defers = a.defers) a w

inductive CI where
  | b (v : Bool)
  | reg (id : Nat) (is : List (Nat × OI))
  | lp (e : Exit) (s : St)
  | dr (d : DC)
  deriving Inhabited

noncomputable section
def regI (id : Nat) (cs : List CI) : List (Nat × OI) × List CI :=
  match cs with
  | .reg k is :: cs1 => (match Nat.beq k id with
    | true => (is, cs1)
    | false => ([], cs))
  | cs => ([], cs)
def codeH (C : Ctx) (base : Nat) : Code → List CI → St → Option (Exit × St × List CI × List Prop)
  | .skip, cs, st => some (.normal, st, cs, [])
  | .region id ops false, cs, st =>
    match opsH C ops 0 ops.toList (regI id cs).1 st with
    | some (st1, ps) => match restrictH base (C.live id) st1 with
      | some (st2, qs) => some (.normal, st2, (regI id cs).2, ps ++ qs)
      | none => none
    | none => none
  | .region id ops true, cs, st =>
    match cs with
    | .dr d :: cs1 => match drawH C ops d st with
      | some (st1, ps) => match restrictH base (C.live id) st1 with
        | some (st2, qs) => some (.normal, st2, cs1, ps ++ qs)
        | none => none
      | none => none
    | _ => none
  | .seq a b, cs, st => match codeH C base a cs st with
    | some (.normal, st1, cs1, ps) => match codeH C base b cs1 st1 with
      | some (e, st2, cs2, qs) => some (e, st2, cs2, ps ++ qs)
      | none => none
    | r => r
  | .cond c a b, cs, st => match cs, st.bool c with
    | .b v :: cs1, some x => (match v with
      | true => (match codeH C base a cs1 st with
        | some (e, st2, cs2, qs) => some (e, st2, cs2, (x = true) :: qs)
        | none => none)
      | false => (match codeH C base b cs1 st with
        | some (e, st2, cs2, qs) => some (e, st2, cs2, (x = false) :: qs)
        | none => none))
    | _, _ => none
  | .block id c, cs, st => match codeH C base c cs st with
    | some (.exit id', st1, cs1, ps) => if id' = id then some (.normal, st1, cs1, ps) else some (.exit id', st1, cs1, ps)
    | r => r
  | .loop c, cs, st => match cs with
    | .lp e s :: cs1 => some (e, s, cs1, [RunsB C.P base (.loop c) st e s])
    | _ => none
  | .exit id, cs, st => some (.exit id, st, cs, [])
  | .label _, cs, st => some (.normal, st, cs, [])
  | .goto l, cs, st => some (.goto l, st, cs, [])
  | .ret, cs, st => some (.ret, st, cs, [])
  | _, _, _ => none

theorem RunsB.post {P : Program} {base : Nat} {g g1 : Gh} {a a1 : Act} {w w1 : World} {x : Exit} {st' : St} (hE : Ext (g.cut base) (g1.cut base) w w1) (hd : a1.defers = a.defers) : ∀ (e : Exit) (a' : Act) (w' : World),
    (e = x ∧ ∃ g', Inv P g' st' a'.tmps w' ∧ Ext (g1.cut base) (g'.cut base) w1 w' ∧ a'.defers = a1.defers) → (e = x ∧ ∃ g', Inv P g' st' a'.tmps w' ∧ Ext (g.cut base) (g'.cut base) w w' ∧ a'.defers = a.defers) := by
  rintro e a' w' ⟨h1, g', h2, h3, h4⟩
  exact ⟨h1, g', h2, hE.trans h3, h4.trans hd⟩

theorem codeH_sound {C : Ctx} (hW : WF C.P) {base : Nat} : ∀ (c : Code) {cs cs' : List CI} {st st' : St} {x : Exit} {ps : List Prop}, codeH C base c cs st = some (x, st', cs', ps) → allP ps → RunsB C.P base c st x st' := by
  intro c
  induction c with
  | skip =>
    intro cs cs' st st' x ps he _ g a w h
    injection he with he; injection he with e1 he; injection he with e2 _; subst e1; subst e2
    exact wp_skip ⟨rfl, g, h, Ext.refl _ _, rfl⟩
  | region id ops draw =>
    intro cs cs' st st' x ps he hp g a w h
    cases draw with
    | false =>
      simp only [codeH] at he
      split at he
      · rename_i st1 ps1 h1
        split at he
        · rename_i st2 qs h2
          injection he with he; injection he with e1 he; injection he with e2 he; injection he with _ e3; subst e1; subst e2; subst e3
          obtain ⟨p1, p2⟩ := allP_append.1 hp
          refine wp_region_list (opsH_sound hW h h1 p1 fun a' w' g' i1 i2 i3 => ?_)
          obtain ⟨g2, j1, j2⟩ := restrictH_sound i1 h2 p2
          exact ⟨rfl, g2, j1, (i2.cut base).trans j2, i3⟩
        · cases he
      · cases he
    | true =>
      simp only [codeH] at he
      split at he
      · split at he
        · rename_i st1 ps1 h1
          split at he
          · rename_i st2 qs h2
            injection he with he; injection he with e1 he; injection he with e2 he; injection he with _ e3; subst e1; subst e2; subst e3
            obtain ⟨p1, p2⟩ := allP_append.1 hp
            refine drawH_sound hW h h1 p1 fun a' w' g' i1 i2 i3 => ?_
            obtain ⟨g2, j1, j2⟩ := restrictH_sound i1 h2 p2
            exact ⟨rfl, g2, j1, (i2.cut base).trans j2, i3⟩
          · cases he
        · cases he
      · cases he
  | seq c1 c2 ih1 ih2 =>
    intro cs cs' st st' x ps he hp g a w h
    simp only [codeH] at he
    refine wp_seq ?_
    split at he
    · rename_i st1 cs1 ps1 h1
      split at he
      · rename_i e st2 cs2 qs h2
        injection he with he; injection he with e1 he; injection he with e2 he; injection he with _ e3; subst e1; subst e2; subst e3
        obtain ⟨p1, p2⟩ := allP_append.1 hp
        refine wp_mono (ih1 h1 p1 _ _ _ h) fun e' a' w' hq => ?_
        obtain ⟨rfl, g', i1, i2, i3⟩ := hq
        exact wp_mono (ih2 h2 p2 _ _ _ i1) (RunsB.post i2 i3)
      · cases he
    · rename_i hne
      refine wp_mono (ih1 he hp _ _ _ h) fun e a' w' hq => ?_
      obtain ⟨rfl, hq⟩ := hq
      cases e with
      | normal => exact absurd he (hne _ _ _)
      | _ => exact ⟨rfl, hq⟩
  | cond cnd c1 c2 ih1 ih2 =>
    intro cs cs' st st' x ps he hp g a w h
    simp only [codeH] at he
    split at he
    · rename_i v cs1 b hb
      split at he
      · split at he
        · rename_i e st2 cs2 qs h2
          injection he with he; injection he with e1 he; injection he with e2 he; injection he with _ e3; subst e1; subst e2; subst e3
          obtain ⟨rfl, p2⟩ := hp
          exact wp_cond (t := true) (by rw [eval_eq]; exact bool_val h hb) (ih1 h2 p2 _ _ _ h)
        · cases he
      · split at he
        · rename_i e st2 cs2 qs h2
          injection he with he; injection he with e1 he; injection he with e2 he; injection he with _ e3; subst e1; subst e2; subst e3
          obtain ⟨rfl, p2⟩ := hp
          exact wp_cond (t := false) (by rw [eval_eq]; exact bool_val h hb) (ih2 h2 p2 _ _ _ h)
        · cases he
    · cases he
  | block id c ih =>
    intro cs cs' st st' x ps he hp g a w h
    simp only [codeH] at he
    refine wp_block ?_
    split at he
    · rename_i id' st1 cs1 ps1 h1
      split at he
      · rename_i hid
        injection he with he; injection he with e1 he; injection he with e2 he; injection he with _ e3; subst e1; subst e2; subst e3
        refine wp_mono (ih h1 hp _ _ _ h) fun e a' w' hq => ?_
        obtain ⟨rfl, hq⟩ := hq
        simp only [Exit.inBlock]
        rw [if_pos hid]; exact ⟨trivial, hq⟩
      · rename_i hid
        injection he with he; injection he with e1 he; injection he with e2 he; injection he with _ e3; subst e1; subst e2; subst e3
        refine wp_mono (ih h1 hp _ _ _ h) fun e a' w' hq => ?_
        obtain ⟨rfl, hq⟩ := hq
        simp only [Exit.inBlock]
        rw [if_neg hid]; exact ⟨trivial, hq⟩
    · rename_i hne
      refine wp_mono (ih he hp _ _ _ h) fun e a' w' hq => ?_
      obtain ⟨rfl, hq⟩ := hq
      cases e with
      | exit id' => exact absurd he (hne _ _ _ _)
      | _ => exact ⟨rfl, hq⟩
  | loop c ih =>
    intro cs cs' st st' x ps he hp g a w h
    simp only [codeH] at he
    split at he
    · injection he with he; injection he with e1 he; injection he with e2 he; injection he with _ e3; subst e1; subst e2; subst e3
      exact hp.1 _ _ _ h
    · cases he
  | exit id =>
    intro cs cs' st st' x ps he _ g a w h
    injection he with he; injection he with e1 he; injection he with e2 _; subst e1; subst e2
    exact wp_exit ⟨rfl, g, h, Ext.refl _ _, rfl⟩
  | label l =>
    intro cs cs' st st' x ps he _ g a w h
    injection he with he; injection he with e1 he; injection he with e2 _; subst e1; subst e2
    exact wp_label ⟨rfl, g, h, Ext.refl _ _, rfl⟩
  | goto l =>
    intro cs cs' st st' x ps he _ g a w h
    injection he with he; injection he with e1 he; injection he with e2 _; subst e1; subst e2
    exact wp_goto ⟨rfl, g, h, Ext.refl _ _, rfl⟩
  | ret =>
    intro cs cs' st st' x ps he _ g a w h
    injection he with he; injection he with e1 he; injection he with e2 _; subst e1; subst e2
    exact wp_ret ⟨rfl, g, h, Ext.refl _ _, rfl⟩
  | rangeFunc => intro cs cs' st st' x ps he; simp [codeH] at he
  | scope => intro cs cs' st st' x ps he; simp [codeH] at he
  | refuse => intro cs cs' st st' x ps he; simp [codeH] at he

/-! ### Loops -/
def loopM {α ρ : Type} (step : α → Option (α ⊕ ρ)) : Nat → α → Option ρ
  | 0, _ => none
  | n + 1, a => match step a with
    | some (.inl a') => loopM step n a'
    | some (.inr r) => some r
    | none => none

def sideX {α ρ : Type} (E : ρ → Exit × St) : α ⊕ ρ → Exit
  | .inl _ => .normal
  | .inr r => (E r).1
def sideS {α ρ : Type} (S : α → St) (E : ρ → Exit × St) : α ⊕ ρ → St
  | .inl a => S a
  | .inr r => (E r).2
theorem loop_runs {α ρ : Type} {P : Program} {base : Nat} {body : Code} {S : α → St} {E : ρ → Exit × St} {step : α → Option (α ⊕ ρ)} (hE : ∀ r, (E r).1 ≠ .normal)
    (h1 : ∀ a x, step a = some x → RunsB P base body (S a) (sideX E x) (sideS S E x)) :
    ∀ (n : Nat) (a : α) (r : ρ), loopM step n a = some r → RunsB P base (.loop body) (S a) (E r).1 (E r).2 := by
  intro n a r h g ac w hi
  refine LoopWp.loop ?_
  have key : ∀ (n : Nat) {a : α} {g : Gh} {ac : Act} {w : World}, Inv P g (S a) ac.tmps w → loopM step n a = some r →
      LoopWp P body (fun e a' w' => e = (E r).1 ∧ ∃ g', Inv P g' (E r).2 a'.tmps w' ∧ Ext (g.cut base) (g'.cut base) w w' ∧ a'.defers = ac.defers) ac w := by
    intro n
    induction n with
    | zero => intro a g ac w _ h; cases h
    | succ n ih =>
      intro a g ac w hi h
      simp only [loopM] at h
      refine LoopWp.round ?_
      split at h
      · rename_i a' hs
        refine wp_mono (h1 a _ hs _ _ _ hi) fun e a2 w2 hq => ?_
        obtain ⟨rfl, g', i1, i2, i3⟩ := hq
        intro b k cs
        obtain ⟨e, a3, w3, q, r'⟩ := ih i1 h b k cs
        exact ⟨e, a3, w3, RunsB.post i2 i3 _ _ _ q, r'⟩
      · rename_i r' hs
        injection h with h
        subst h
        refine wp_mono (h1 a _ hs _ _ _ hi) fun e a2 w2 hq => ?_
        obtain ⟨he, hq⟩ := hq
        have he : e = (E r').1 := he
        cases hr : (E r').1 with
        | normal => exact absurd hr (hE r')
        | _ => rw [hr] at he; subst he; exact ⟨rfl, hq⟩
      · cases h
  exact key n hi h

/-! ### Functions -/
def finH (n : Nat) (r : PV) (σ : List Bx) : Option (PV × List Bx × List Prop) :=
  if Nat.beq σ.length n then some (r, σ, []) else match refN n r, refBs n (σ.take n) with
    | some p, some q => some (r, σ.take n, p ++ q)
    | _, _ => none

/-- A function's body, by a certificate; 'keepNew': what it made anew in the store stays. -/
def fnH (C : Ctx) (fn : Func) (keepNew : Bool) (cs : List CI) (args : List PV) (σ : List Bx) : Option (PV × List Bx × List Prop) :=
  match fn.body with
  | some c => match codeH { C with res := resOf fn } σ.length c cs { ts := number 0 args, n := args.length + (fn.ntmps - args.length), σ } with
    | some (e, st, _, ps) => (match (match e with | .ret => true | .normal => true | _ => false) with
      | true => (match retAll C.P fn.results.toList st with
        | some (r, st1) => (match (if keepNew then some (r, st1.σ, []) else finH σ.length r st1.σ) with
          | some (r, σ', qs) => some (r, σ', ps ++ qs)
          | none => none)
        | none => none)
      | false => none)
    | none => none
  | none => none

theorem fnH_sound {C : Ctx} (hW : WF C.P) {f : FuncId} {fn : Func} (hfn : C.P.funcs[f]? = some fn) {kn : Bool} {cs : List CI} {args : List PV} {σ σ' : List Bx} {r : PV} {ps : List Prop}
    (he : fnH C fn kn cs args σ = some (r, σ', ps)) (hp : allP ps) : (∃ fn, C.P.funcs[f]? = some fn ∧ fn.body.isSome = true) ∧ AbsCall C.P f args σ r σ' := by
  unfold fnH at he
  split at he
  · rename_i c hbody
    refine ⟨⟨fn, hfn, by rw [hbody]; rfl⟩, fun g us w h => ?_⟩
    split at he
    · rename_i e st cs' ps1 hcode
      split at he
      · rename_i hex
        split at he
        · rename_i r1 st1 hra
          split at he
          · rename_i r2 σ2 qs hfin
            injection he with he; injection he with e1 he; injection he with e2 e3; subst e1; subst e2; subst e3
            obtain ⟨p1, p2⟩ := allP_append.1 hp
            have hsz : us.size = args.length := h.size
            have h1 := h.grow (fun t ht => by
              have ht : args.length ≤ t := ht
              show lkp (number 0 args) t = .dead
              rw [lkp_number, if_neg (by omega)]) (fn.ntmps - args.length)
            have hwp := codeH_sound (C := { C with res := resOf fn }) hW c hcode p1 _ { tmps := us ++ Array.replicate (fn.ntmps - args.length) undef, defers := [] } w h1
            refine calls_of_wp hfn hbody ?_
            rw [hsz]
            refine wp_mono hwp fun e' a' w' hq => ?_
            obtain ⟨rfl, g', i1, i2, i3⟩ := hq
            obtain ⟨g2, v, j1, j2, j3⟩ := retAll_sound i1 hra
            have hgr : g.rho.length = σ.length := h.rlen
            have hE : Ext g (g2.cut σ.length) w w' := by
              have := i2.trans (j3.cut σ.length)
              rwa [cut_all g (by omega)] at this
            have hfinal : ∃ gc, Inv C.P gc { ts := [(0, r2)], n := 1, σ := σ2 } #[v] w' ∧ Ext g gc w w' := by
              split at hfin
              · injection hfin with hfin; injection hfin with e1 hfin; injection hfin with e2 _; subst e1; subst e2
                exact ⟨g2, j2, hE.of_cut⟩
              · unfold finH at hfin
                split at hfin
                · injection hfin with hfin; injection hfin with e1 hfin; injection hfin with e2 _; subst e1; subst e2
                  exact ⟨g2, j2, hE.of_cut⟩
                · split at hfin
                  · rename_i p q hp1 hq1
                    injection hfin with hfin; injection hfin with e1 hfin; injection hfin with e2 e3; subst e1; subst e2; subst e3
                    obtain ⟨k1, k2⟩ := allP_append.1 p2
                    have hlen : σ.length ≤ st1.σ.length := by
                      have h1 : g2.rho.length = st1.σ.length := j2.rlen
                      have h2 := hE.rho.length_le
                      have h3 : (g2.cut σ.length).rho.length ≤ g2.rho.length := by simp only [Gh.cut, List.length_take]; omega
                      omega
                    have hc : St.cutOk σ.length { ts := [(0, r1)], n := 1, σ := st1.σ } = true := by
                      simp only [St.cutOk, Bool.and_eq_true, List.all_cons, List.all_nil, and_true]
                      refine ⟨?_, refBs_ok hq1 k2⟩
                      have := refN_ok r1 hp1 k1
                      cases r1 with
                      | alias q => cases q <;> first | rfl | simp [refN] at hp1
                      | elem q k off => cases q <;> first | rfl | simp [refN] at hp1
                      | _ => exact this
                    exact ⟨g2.cut σ.length, j2.cutTo hc hlen, hE⟩
                  · cases hfin
            obtain ⟨gc, m1, m2⟩ := hfinal
            have hend : a'.defers = [] := i3
            cases e' with
            | ret => exact ⟨hend, v, j1, v, gc, rfl, m1, m2⟩
            | normal => exact ⟨hend, v, j1, v, gc, rfl, m1, m2⟩
            | _ => cases hex
          · cases he
        · cases he
      · cases he
    · cases he
  · cases he
end
end Go.AM
