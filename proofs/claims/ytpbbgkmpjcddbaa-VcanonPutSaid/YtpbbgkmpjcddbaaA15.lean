/- The abstract machine, 15: conversions, builtins, all operations but calls. -/
import Derived.Test.YtpbbgkmpjcddbaaA14
set_option linter.all false
namespace Go.AM

theorem bytesOf_nums : ∀ {xs : List (List PV)} {bs : List UInt8}, bytesOf xs = some bs → ∃ ns : List Int, bs = ns.map (fun n => UInt8.ofNat n.toNat) ∧ xs = ns.map fun n => [PV.lit (.int .u8 n)] := by
  intro xs
  induction xs with
  | nil => intro bs h; injection h with h; subst h; exact ⟨[], rfl, rfl⟩
  | cons x xs ih =>
    intro bs h
    unfold bytesOf at h
    split at h
    · rename_i e; cases e
    · rename_i n rest e
      injection e with e1 e2
      subst e1; subst e2
      simp only [Option.map_eq_some_iff] at h
      obtain ⟨bs', h1, rfl⟩ := h
      obtain ⟨ns, rfl, rfl⟩ := ih h1
      exact ⟨n :: ns, rfl, rfl⟩
    · cases h

theorem convert_ok {P : Program} {o : Oper} {st st' : St} {g : Gh} {vs : Array Value} {w : World} (h : Inv P g st vs w) {src dst : TypeId} {x : Operand} (ho : o.op = .convert src dst x) (he : evConvert P st src dst x o.dst = some st') : OpOk P o vs w g st' := by
  unfold evConvert at he
  split at he
  · rename_i k n hp
    obtain ⟨p, hs⟩ := peek_slot h hp
    have hv := val_slot (u := .int k n) rfl hs
    split at he
    · rename_i ds k' h1 h2
      refine .rel (v := .int k' (k'.wrap n)) h (Ext.refl _ _) ?_ he (.lit _)
      simp [execOp, ho, hv, convert, run_und h1, run_und h2, Conv.intToInt]
    · split at he
      · rename_i r hr
        exact .rel (v := r) h (Ext.refl _ _) (by simp [execOp, ho, hv, det_run hr]) he (rel_constPV _ _ _)
      · cases he
  · rename_i fl nl xs hp
    split at he
    · rename_i e h1 h2
      split at he
      · rename_i h3
        split at he
        · rename_i bs hb
          obtain ⟨ns, rfl, rfl⟩ := bytesOf_nums hb
          obtain ⟨p, hs⟩ := peek_slot h hp
          refine .rel (v := .string ⟨(ns.map fun n => UInt8.ofNat n.toNat).toArray⟩) h (Ext.refl _ _) ?_ he (.lit _)
          rcases slot_sl hs with ⟨hnil, hv⟩ | ⟨_, b, q, cap, s, hv, hcap, hel⟩
          · have : ns = [] := by simpa using hnil
            subst this
            have := run_convert_bytes_nil (P := P) w src e h1 h3 0 0 dst h2
            simp only [execOp, ho, hv, Sem.run_bind, this, Result.andThen_ok, Sem.run_pure]
            rfl
          · have := run_convert_bytes_arg (P := P) w src e h1 h3 b q ns.length cap ns rfl (fun i hi => by
              have hlen : s = 1 := by rw [← hel.1 i (by simpa using hi)]; simp
              subst hlen
              obtain ⟨v, k1, k2⟩ := hel.2 i 0 (by simpa using hi) (by simp)
              simp only [List.getElem_map, List.getElem_cons_zero] at k2
              cases k2
              rw [show q + i = q + i * 1 + 0 by omega, k1]
              simp [List.getElem?_eq_getElem hi]) dst h2
            simp only [List.length_map] at hv
            simp only [execOp, ho, hv, Sem.run_bind, this, Result.andThen_ok, Sem.run_pure]
            rfl
        · cases he
      · cases he
    · cases he
  · rename_i u _ _ hp
    split at he
    · rename_i a ha
      split at he
      · rename_i r hr
        obtain ⟨p, hs⟩ := peek_slot h hp
        have hv := val_slot ha hs
        exact .rel (v := r) h (Ext.refl _ _) (by simp [execOp, ho, hv, det_run hr]) he (rel_constPV _ _ _)
      · cases he
    · cases he
  · cases he

theorem vals_sound {P : Program} {st : St} {g : Gh} {vs : Array Value} {w : World} (h : Inv P g st vs w) : ∀ {os : List Operand} {us : List Value}, vals st os = some us → us = os.map (evalV vs) := by
  intro os
  induction os with
  | nil => intro us he; injection he with he; exact he.symm
  | cons o os ih =>
    intro us he
    simp only [vals] at he
    split at he
    · rename_i x hx
      split at he
      · rename_i v us' hv hus
        injection he with he
        subst he
        obtain ⟨p, hs⟩ := peek_slot h hx
        rw [List.map_cons, ← ih hus, val_slot hv hs]
      · cases he
    · cases he

theorem run_builtin_det {P : Program} {o : Oper} {c : Call} {b : Builtin} {vs : Array Value} {w : World} {us : List Value} {r : Value} (ho : o.op = .call c) (hb : c.callee = .builtin b) (hus : us = c.args.toList.map (evalV vs))
    (hr : det P (builtin b c.argTypes o.type (c.args.toList.map isConst).toArray us.toArray) = some (.value r)) : (execOp (evalV vs) o).run P w = .ok (.value r) w := by
  have h1 : c.args.map (evalV vs) = us.toArray := by rw [hus, ← List.map_toArray, Array.toArray_toList]
  simp only [execOp, ho, resolve, hb, Sem.run_bind, Sem.run_pure, Result.andThen_ok, invoke, h1]
  refine (congrArg (fun z => (builtin b c.argTypes o.type z us.toArray).run P w) ?_).trans (det_run hr w)
  rw [← List.map_toArray, Array.toArray_toList]
  first
    | rfl
    | (congr 1; funext x; cases x <;> rfl)

theorem builtin_ok {P : Program} {o : Oper} {c : Call} {b : Builtin} {st st' : St} {g : Gh} {vs : Array Value} {w : World} (h : Inv P g st vs w) (ho : o.op = .call c) (hb : c.callee = .builtin b)
    (he : evBuiltin P st b c.argTypes o.type c.args.toList o.dst = some st') : OpOk P o vs w g st' := by
  unfold evBuiltin at he
  split at he
  · rename_i s x ha
    exact append_ok h ho hb ha he
  · rename_i x ha
    have hargs : c.args = #[x] := by rw [← Array.toArray_toList (xs := c.args), ha]
    split at he
    · rename_i fl n xs hp
      split at he
      · rename_i t ht
        split at he
        · rename_i e hu
          obtain ⟨p, hs⟩ := peek_slot h hp
          refine .rel (v := .int .i64 xs.length) h (Ext.refl _ _) ?_ he (.lit _)
          have hsl : ∃ a cap, evalV vs x = .slice a xs.length cap := by
            rcases slot_sl hs with ⟨e1, hv⟩ | ⟨_, b, q, cap, s, hv, _⟩
            · subst e1; exact ⟨none, 0, hv⟩
            · exact ⟨_, cap, hv⟩
          obtain ⟨a, cap, hv⟩ := hsl
          simp [execOp, ho, resolve, hb, hargs, invoke, builtin, Builtin.len_, ht, hv, run_und hu, goInt]
        · cases he
      · cases he
    · rename_i y _ hp
      split at he
      · rename_i v hv
        split at he
        · rename_i r hr
          obtain ⟨p, hs⟩ := peek_slot h hp
          have e := val_slot hv hs
          exact .rel (v := r) h (Ext.refl _ _) (run_builtin_det ho hb (us := [v]) (by rw [ha]; simp [e]) (by rw [ha]; exact hr)) he (rel_constPV _ _ _)
        · cases he
      · cases he
    · cases he
  · cases he
  · cases he
  · split at he
    · rename_i us hus
      split at he
      · rename_i r hr
        exact .rel (v := r) h (Ext.refl _ _) (run_builtin_det ho hb (vals_sound h hus) hr) he (rel_constPV _ _ _)
      · cases he
    · cases he

/-- All operations but calls. -/
theorem evOp_sound {C : Ctx} {o : Oper} {st st' : St} {g : Gh} {vs : Array Value} {w : World} (h : Inv C.P g st vs w) (he : evOp C o st = some st') : OpOk C.P o vs w g st' := by
  unfold evOp at he
  split at he
  · rename_i x ho; exact move_ok h ho he
  · rename_i x ho; exact assign_ok h ho he
  · rename_i c a b ho; exact pick_ok h ho he
  · rename_i t ho; exact alloc_ok h ho he
  · rename_i t x ho; exact box_ok h ho he
  · rename_i t ps ho; exact build_ok h ho he
  · rename_i t n ps ho; exact buildSlice_ok h ho he
  · rename_i t a ho; exact load_ok h ho he (fun t _ id off e => by cases e)
  · rename_i t a x ho
    split at he
    · rename_i st1 hs; exact store_ok h ho hs he
    · cases he
  · rename_i x ho; exact nilCheck_ok h ho he
  · rename_i op t x y ty ho; exact bin_ok h ho he
  · rename_i op t x ho; exact un_ok h ho he
  · rename_i s t x ho; exact convert_ok h ho he
  · rename_i t x lo hi mx ho; exact slice_ok h ho he
  · rename_i t x f ho; exact fieldAddr_ok h ho he
  · rename_i t x f ho; exact field_ok h ho he
  · rename_i t x i ho; exact indexAddr_ok h ho he
  · rename_i t x i ho; exact index_ok h ho he
  · rename_i x i ho; exact extract_ok h ho he
  · rename_i c ho
    split at he
    · rename_i b hb; exact builtin_ok h ho hb he
    · cases he
  · cases he

end Go.AM
