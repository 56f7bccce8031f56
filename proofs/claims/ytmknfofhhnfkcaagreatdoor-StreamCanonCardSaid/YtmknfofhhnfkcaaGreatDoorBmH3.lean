/- An abstract machine, and that what it reckons is what the program does. -/
import Derived.Test.YtmknfofhhnfkcaaGreatDoorBmH2
import Derived.KernelRfl
import Derived.Scope
import Derived.Below
import Derived.WideShapes
import Derived.ChangeArms
import Derived.ChangeOld
set_option linter.all false
namespace Go.AM
def NCA (st:St):Prop:=∀t id off,(lkp st.ts t).root≠some (.cell id off)
theorem lkp_mem (l:List (Nat×PV)) (t:Nat):lkp l t=.dead∨(t,lkp l t)∈l:=by
 induction l with
 | nil=>exact .inl rfl
 | cons p r ih=>
  obtain ⟨k,x⟩:=p
  simp only [lkp]
  cases e:Nat.beq k t with
  | true=>right;rw [Nat.eq_of_beq_eq_true e];exact List.mem_cons_self
  | false=>
   rcases ih with h | h
   ·exact .inl h
   ·exact .inr (List.mem_cons_of_mem _ h)
theorem noCA_ok {st:St} (h:noCA st.ts=true):NCA st:=fun t id off hr=>by
 rcases lkp_mem st.ts t with h1 | h1
 ·rw [h1] at hr;cases hr
 ·have:=List.all_eq_true.1 h _ h1
  simp only [hr] at this
  cases this
theorem setP_σ {st:St} {d:Nat} {x:PV}:(st.setP (.tmp d) x).σ=st.σ:=cellAt_setP_tmp
theorem setD_σ {st s:St} {d:Option Tmp} {x:PV} (h:st.setD d x=some s):s.σ=st.σ:=by
 cases d with
 | none=>injection h with h;subst h;rfl
 | some d=>
  simp only [St.setD] at h
  split at h
  ·injection h with h;subst h;exact setP_σ
  ·cases h
theorem setAddr_σ {st s:St} {d:Option Tmp} {x:PV} (h:st.setAddr d x=some s):s.σ=st.σ:=by
 unfold St.setAddr at h
 split at h
 ·split at h
  ·cases h
  ·exact setD_σ h
 ·exact setD_σ h
 ·exact setD_σ h
 ·cases h
theorem NCA.upd {st:St} (h:NCA st) {t:Nat} {x:PV} (hx:∀id off,x.root≠some (.cell id off)):NCA (st.putP (.tmp t) x):=fun u id off=>by
 show (lkp (Go.AM.upd st.ts t x) u).root≠_
 by_cases e:t=u
 ·subst e;rw [lkp_upd_self];exact hx id off
 ·rw [lkp_upd_ne _ _ e];exact h u id off
theorem useP_σ {st s:St} {t:Nat} {x:PV} (hn:NCA st) (h:st.useP (.tmp t)=some (x,s)):s.σ=st.σ∧NCA s:=by
 unfold St.useP at h
 split at h
 ·split at h
  ·injection h with h;injection h with _ h;subst h
   exact ⟨rfl,hn.upd fun _ _ e=>by cases e⟩
  ·injection h with h;injection h with _ h;subst h;exact ⟨rfl,hn⟩
 ·injection h with h;injection h with _ h;subst h;exact ⟨rfl,hn⟩
 ·cases h
 ·cases h
 ·cases h
 ·injection h with h;injection h with _ h;subst h;exact ⟨rfl,hn⟩
 ·cases h
theorem get_root {st:St} {t:Nat} {q:Plc} (h:st.get t=some (.alias q)):(lkp st.ts t).root=some q:=by
 simp only [St.get] at h
 split at h
 ·rw [Option.some.inj h];rfl
 ·cases h
theorem use_σ {st s:St} {o:Operand} {x:PV} (hn:NCA st) (h:st.use o=some (x,s)):s.σ=st.σ∧NCA s:=by
 cases o with
 | tmp t=>
  simp only [St.use] at h
  split at h
  ·rename_i q hq
   cases q with
   | tmp u=>exact useP_σ hn h
   | cell id off=>exact absurd (get_root hq) (hn t id off)
  ·exact useP_σ hn h
 | const v=>injection h with h;injection h with _ h;subst h;exact ⟨rfl,hn⟩
 | func f=>injection h with h;injection h with _ h;subst h;exact ⟨rfl,hn⟩
 | global _=>cases h
theorem parts_σ:∀{ps:List (Nat×Operand)} {st s:St} {ys:List (Nat×List PV)},NCA st→st.parts ps=some (ys,s)→s.σ=st.σ:=by
 intro ps
 induction ps with
 | nil=>intro st s ys _ h;injection h with h;injection h with _ h;subst h;rfl
 | cons p ps ih=>
  obtain ⟨i,o⟩:=p
  intro st s ys hn h
  simp only [St.parts] at h
  split at h
  ·rename_i x st1 hx
   obtain ⟨e1,n1⟩:=use_σ hn hx
   split at h
   ·rename_i zs st2 hz
    injection h with h;injection h with _ h;subst h
    rw [ih n1 hz,e1]
   ·cases h
  ·cases h
theorem useL_σ:∀{os:List Operand} {st s:St} {xs:List PV},NCA st→st.useL os=some (xs,s)→s.σ=st.σ∧NCA s:=by
 intro os
 induction os with
 | nil=>intro st s xs hn h;injection h with h;injection h with _ h;subst h;exact ⟨rfl,hn⟩
 | cons o os ih=>
  intro st s xs hn h
  simp only [St.useL] at h
  split at h
  ·rename_i x st1 hx
   obtain ⟨e1,n1⟩:=use_σ hn hx
   split at h
   ·rename_i zs st2 hz
    injection h with h;injection h with _ h;subst h
    obtain ⟨e2,n2⟩:=ih n1 hz
    exact ⟨e2.trans e1,n2⟩
   ·cases h
  ·cases h
theorem plc_tmp {st:St} {o:Operand} {q:Plc} (hn:NCA st) (h:st.plc o=some q):∃t,q=.tmp t:=by
 cases o with
 | tmp t=>
  simp only [St.plc] at h
  split at h
  ·rename_i q' hq
   injection h with h;subst h
   cases q' with
   | tmp u=>exact ⟨u,rfl⟩
   | cell id off=>exact absurd (get_root hq) (hn t id off)
  ·split at h
   ·injection h with h;exact ⟨t,h.symm⟩
   ·cases h
  ·cases h
 | _=>cases h
theorem mvD_σ {st s:St} {t:Nat} {d:Option Tmp} (h:st.mvD (.tmp t) d=some s):s.σ=st.σ:=by
 unfold St.mvD at h
 split at h
 ·split at h
  ·injection h with h;subst h;rw [setP_σ,setP_σ]
  ·cases h
 ·cases h
theorem NCA.setP {st:St} (h:NCA st) {t:Nat} {x:PV} (hx:∀id off,x.root≠some (.cell id off)):NCA (st.setP (.tmp t) x):=by
 unfold St.setP
 split
 ·refine NCA.upd (fun u id off=>?_) hx
  show (lkp (killL _ st.ts) u).root≠_
  rw [lkp_kill]
  have key:∀(p:Plc) (y:PV),y.root≠some (.cell id off)→(killA p y).root≠some (.cell id off):=by
   intro p y hy
   cases y <;> simp only [killA] <;> first | exact hy | (split <;> first | exact hy | (intro e;cases e))
  exact key _ _ (h u id off)
 ·exact h.upd hx
structure RCA (N:Nat) (st0 st:St):Prop where
 σ:st.σ=st0.σ
 ts:∀t id off,t<N→(lkp st.ts t).root=some (.cell id off)→lkp st.ts t=lkp st0.ts t
theorem RCA.upd {N:Nat} {st0 st:St} (h:RCA N st0 st) {t:Nat} {x:PV} (hx:t<N→∀id off,x.root≠some (.cell id off)):RCA N st0 (st.putP (.tmp t) x):=⟨h.σ,fun u id off hu=>by
 show (lkp (Go.AM.upd st.ts t x) u).root=_→lkp (Go.AM.upd st.ts t x) u=_
 by_cases e:t=u
 ·subst e;rw [lkp_upd_self];exact fun hr=>absurd hr (hx hu id off)
 ·rw [lkp_upd_ne _ _ e];exact h.ts u id off hu⟩
theorem RCA.setP {N:Nat} {st0 st:St} (h:RCA N st0 st) {t:Nat} {x:PV} (hx:t<N→∀id off,x.root≠some (.cell id off)):RCA N st0 (st.setP (.tmp t) x):=by
 unfold St.setP
 split
 ·refine RCA.upd (st:=st.kill (.tmp t)) ⟨h.σ,fun u id off hu=>?_⟩ hx
  show (lkp (killL _ st.ts) u).root=_→lkp (killL _ st.ts) u=_
  rw [lkp_kill]
  have key:∀(p:Plc) (y:PV),(killA p y).root=some (.cell id off)→killA p y=y:=by
   intro p y hy
   cases y <;> simp only [killA] at hy ⊢ <;> (split at hy <;> first | (cases hy;done) | (rename_i e;simp [e]))
  intro hr
  have e:=key _ _ hr
  rw [e] at hr ⊢
  exact h.ts u id off hu hr
 ·exact h.upd hx
theorem RCA.useP {N:Nat} {st0 st s:St} {t:Nat} {x:PV} (hn:RCA N st0 st) (h:st.useP (.tmp t)=some (x,s)):RCA N st0 s:=by
 unfold St.useP at h
 split at h
 ·split at h
  ·injection h with h;injection h with _ h;subst h
   exact hn.upd fun _ _ _ e=>by cases e
  ·injection h with h;injection h with _ h;subst h;exact hn
 ·injection h with h;injection h with _ h;subst h;exact hn
 ·cases h
 ·cases h
 ·cases h
 ·injection h with h;injection h with _ h;subst h;exact hn
 ·cases h
theorem putP_same {st:St} {id off:Nat} {x:PV} (h:contentAt st (.cell id off)=some x):(st.putP (.cell id off) x).σ=st.σ:=by
 show st.σ.modify id (setBx off x)=st.σ
 simp only [contentAt] at h
 apply List.ext_getElem?
 intro i
 rw [List.getElem?_modify]
 by_cases e:id=i
 ·subst e
  simp only [if_true]
  split at h
  ·rename_i ty cs hb
   rw [hb]
   show some (Bx.cells ty (cs.set off x))=_
   congr 2
   apply List.ext_getElem?
   intro k
   rw [List.getElem?_set]
   by_cases e:off=k
   ·subst e
    have h1:=(List.getElem?_eq_some_iff.1 h)
    obtain ⟨h1,h2⟩:=h1
    simp [h1,h2]
   ·rw [if_neg e]
  ·cases h
 ·simp only [if_neg e];cases st.σ[i]? <;> rfl
theorem get_alias {st:St} {t:Nat} {q:Plc} (h:st.get t=some (.alias q)):lkp st.ts t=.alias q:=by
 simp only [St.get] at h
 split at h
 ·exact Option.some.inj h
 ·cases h
theorem RCA.use {N:Nat} {st0 st s:St} {o:Operand} {y:PV} (hn:RCA N st0 st) (ho:opLt N o=true) (hk:keepA st0 false o=true) (hu:st.use o=some (y,s)):RCA N st0 s:=by
 cases o with
 | tmp t=>
  simp only [St.use] at hu
  split at hu
  ·rename_i q hq
   cases q with
   | tmp u=>exact hn.useP hu
   | cell id off=>
    have hl:=get_alias hq
    have h0:=hn.ts t id off (by simpa [opLt] using ho) (by rw [hl];rfl)
    simp only [keepA,←h0,hl,Bool.not_false,Bool.true_and] at hk
    have hc:contentAt st (.cell id off)=contentAt st0 (.cell id off):=by simp only [contentAt,hn.σ]
    split at hk
    ·rename_i e xs h1
     have h2:=hc.trans h1
     unfold St.useP at hu
     rw [h2] at hu
     simp only [Flag.isOwn,if_true,Flag.e] at hu
     injection hu with hu;injection hu with _ hu;subst hu
     exact ⟨(putP_same h2).trans hn.σ,hn.ts⟩
    ·cases hk
  ·exact hn.useP hu
 | const v=>injection hu with hu;injection hu with _ hu;subst hu;exact hn
 | func f=>injection hu with hu;injection hu with _ hu;subst hu;exact hn
 | global _=>cases hu
theorem keepA_false {st:St} {m:Bool} {o:Operand} (h:keepA st m o=true):keepA st false o=true:=by
 unfold keepA at h ⊢
 split at h
 ·split at h
  ·simp only [Bool.and_eq_true] at h
   simp only [Bool.not_false,Bool.true_and]
   exact h.2
  ·rfl
 ·rfl
theorem passL_keep {mv:Nat→Bool} {N:Nat} {st0:St}:∀{l:List (PV⊕Operand)} {j:Nat} {st s:St},(∀x,.inl x∈l→∀id off,x.root≠some (.cell id off))→(∀o,.inr o∈l→opLt N o=true)→keepAs st0 mv j l=true→RCA N st0 st→st.passL mv N j l=some s→s.σ=st0.σ:=by
 intro l
 induction l with
 | nil=>intro j st s _ _ _ hn h;injection h with h;subst h;exact hn.σ
 | cons a l ih=>
  intro j st s hl hol hk hn h
  simp only [keepAs,Bool.and_eq_true] at hk
  obtain ⟨hk1,hk2⟩:=hk
  cases a with
  | inl x=>
   simp only [St.passL] at h
   split at h
   ·rename_i st1 h1
    have hx:=hl x List.mem_cons_self
    refine ih (fun y hy=>hl y (List.mem_cons_of_mem _ hy)) (fun y hy=>hol y (List.mem_cons_of_mem _ hy)) hk2 ?_ h
    simp only [St.setD] at h1
    split at h1
    ·injection h1 with h1;subst h1;exact hn.setP fun _=>hx
    ·cases h1
   ·cases h
  | inr o=>
   simp only [St.passL] at h
   simp only at hk1
   have ho:=hol o List.mem_cons_self
   split at h
   ·rename_i q hq
    split at hq
    case isFalse=>cases hq
    rename_i hm
    cases q with
    | cell id off=>
     exfalso
     cases o with
     | tmp t=>
      simp only [St.plc] at hq
      split at hq
      ·rename_i q' hq'
       injection hq with hq;subst hq
       have hl:=get_alias hq'
       have h0:=hn.ts t id off (by simpa [opLt] using ho) (by rw [hl];rfl)
       simp [keepA,←h0,hl,hm] at hk1
      ·split at hq
       ·injection hq with hq;cases hq
       ·cases hq
      ·cases hq
     | _=>cases hq
    | tmp u=>
     split at h
     ·rename_i st1 h1
      refine ih (fun y hy=>hl y (List.mem_cons_of_mem _ hy)) (fun y hy=>hol y (List.mem_cons_of_mem _ hy)) hk2 ?_ h
      unfold St.mvD at h1
      split at h1
      ·rename_i x hd hc
       split at h1
       ·injection h1 with h1;subst h1
        exact (hn.setP (fun _ _ _ e=>by cases e)).setP (fun hlt=>by injection hd with hd;subst hd;exact absurd hlt (Nat.not_lt.2 (Nat.le_add_right N j)))
       ·cases h1
      ·cases h1
     ·cases h
   ·split at h
    case h_2=>cases h
    rename_i y st1 hu
    have n1:=hn.use (hol o List.mem_cons_self) (keepA_false hk1) hu
    split at h
    ·rename_i st2 h2
     refine ih (fun y hy=>hl y (List.mem_cons_of_mem _ hy)) (fun y hy=>hol y (List.mem_cons_of_mem _ hy)) hk2 ?_ h
     simp only [St.setD] at h2
     split at h2
     ·injection h2 with h2;subst h2
      exact n1.setP (fun hlt=>by omega)
     ·cases h2
    ·cases h
theorem afterCall_σ {st s:St} {N:Nat} {d:Option Tmp} {r:PV} {σ:List Bx} (h:afterCall st N d r σ=some s):s.σ=σ:=by
 unfold afterCall at h
 split at h
 ·rename_i st1 h1
  injection h with h;subst h
  show st1.σ=σ
  split at h1
  ·split at h1
   ·exact mvD_σ h1
   ·injection h1 with h1;subst h1;rfl
  ·exact setD_σ h1
 ·cases h
theorem evCallW_σ {C:Ctx} {st s:St} {k:FuncId} {first captured:List PV} {args:List Operand} {d:Option Tmp} (hcall:∀f xs σ r σ',C.call f xs σ=some (r,σ')→σ'=σ)
  (hF:∀x∈first,∀id off,x.root≠some (.cell id off)) (hCp:∀x∈captured,∀id off,x.root≠some (.cell id off))
  (hn:keepAs { ts:=cutN st.n st.ts,n:=st.n+(first.length+args.length+captured.length),σ:=st.σ } (C.mv k) 0 (first.map .inl++args.map .inr++captured.map .inl)=true) (h:evCallW C st k first captured args d=some s):s.σ=st.σ:=by
 unfold evCallW evCallG at h
 split at h
 ·rename_i hall
  split at h
  ·rename_i st1 hp
   rw [nrm_eq] at h
   split at h
   ·split at h
    ·rename_i r σ hc
     split at h
     ·rw [afterCall_σ h,hcall _ _ _ _ _ hc]
      refine passL_keep (st0:={ ts:=cutN st.n st.ts,n:=st.n+(first.length+args.length+captured.length),σ:=st.σ }) (fun x hx=>?_) (fun o ho=>?_) hn ⟨rfl,fun _ _ _ _ _=>rfl⟩ hp
      rotate_left
      ·simp only [List.mem_append,List.mem_map] at ho
       rcases ho with (⟨y,hy,e⟩ | ⟨y,hy,e⟩) | ⟨y,hy,e⟩
       ·cases e
       ·injection e with e;subst e;exact List.all_eq_true.1 hall _ hy
       ·cases e
      simp only [List.mem_append,List.mem_map] at hx
      rcases hx with (⟨y,hy,e⟩ | ⟨y,_,e⟩) | ⟨y,hy,e⟩
      ·injection e with e;subst e;exact hF y hy
      ·cases e
      ·injection e with e;subst e;exact hCp y hy
     ·cases h
    ·cases h
   ·cases h
  ·cases h
 ·cases h
theorem takeC_st {st:St} {id:Nat} {ty:TypeId} {cs0:List PV} (hσ:st.σ[id]? = some (.cells ty cs0)) (hn:(cs0.all fun x=>!x.isOwn)=true):∀{n off:Nat} {cs:List PV} {st1:St},st.takeC id off n=some (cs,st1)→st1=st:=by
 intro n
 induction n with
 | zero=>intro off cs st1 h;simp only [St.takeC] at h;injection h with h;injection h with _ h;exact h.symm
 | succ n ih=>
  intro off cs st1 h
  simp only [St.takeC] at h
  split at h
  ·rename_i x st2 hu
   have e:st2=st:=by
    unfold St.useP at hu
    split at hu
    ·rename_i fl xs hc
     simp only [contentAt,hσ] at hc
     have:=List.all_eq_true.1 hn _ (List.mem_of_getElem? hc)
     simp only [PV.isOwn,Bool.not_eq_true'] at this
     rw [this] at hu
     simp only [Bool.false_eq_true,if_false] at hu
     injection hu with hu;injection hu with _ hu;exact hu.symm
    ·injection hu with hu;injection hu with _ hu;exact hu.symm
    ·cases hu
    ·cases hu
    ·cases hu
    ·injection hu with hu;injection hu with _ hu;exact hu.symm
    ·cases hu
   subst e
   split at h
   ·rename_i xs st3 ht
    injection h with h;injection h with _ h
    rw [←h];exact ih ht
   ·cases h
  ·cases h
theorem evOp_σ {C:Ctx} {o:Oper} {st s:St} (hk:sigKeep C.P o st=true) (h:evOp C o st=some s):s.σ=st.σ:=by
 unfold evOp at h
 unfold sigKeep at hk
 split at h
 ·rename_i x ho
  unfold evMove at h
  split at h
  ·split at h
   ·split at h
    ·split at h
     ·cases h
     ·exact setD_σ h
    ·exact setD_σ h
   ·split at h
    ·split at h
     ·cases h
     ·exact setD_σ h
    ·injection h with h;subst h;rfl
   ·split at h
    ·split at h
     ·cases h
     ·exact setD_σ h
    ·injection h with h;subst h;rfl
   ·cases h
   ·exact setD_σ h
   ·cases h
  ·exact setD_σ h
  ·exact setD_σ h
  ·cases h
 ·rename_i x ho
  rw [ho] at hk
  have hn:=noCA_ok hk
  unfold evAssign at h
  split at h
  ·rename_i q hq
   obtain ⟨t,rfl⟩:=plc_tmp hn hq
   split at h
   ·split at h
    ·exact mvD_σ h
    ·split at h
     ·rename_i y st1 hu
      exact (setD_σ h).trans (useP_σ hn hu).1
     ·cases h
   ·cases h
  ·split at h
   ·rename_i y st1 hu
    exact (setD_σ h).trans (use_σ hn hu).1
   ·cases h
 ·unfold evPick at h
  split at h
  ·split at h
   ·exact setD_σ h
   ·cases h
  ·split at h
   ·exact setD_σ h
   ·cases h
  ·cases h
 ·rename_i t ho;rw [ho] at hk;cases hk
 ·rename_i t x ho;rw [ho] at hk;cases hk
 ·rename_i t ps ho
  rw [ho] at hk
  have hn:=noCA_ok hk
  unfold evBuild at h
  split at h
  ·rename_i zs ys st1 hz hp
   have e:=parts_σ hn hp
   split at h
   ·split at h
    ·split at h
     ·exact (setD_σ h).trans e
     ·cases h
    ·cases h
   ·split at h
    ·split at h
     ·exact (setD_σ h).trans e
     ·cases h
    ·cases h
   ·cases h
  ·cases h
 ·rename_i t n ps ho
  rw [ho] at hk
  have hn:=noCA_ok hk
  unfold evBuildSlice at h
  split at h
  ·split at h
   ·rename_i n' zs ys st1 _ _ hp
    have e:=parts_σ hn hp
    split at h
    ·split at h
     ·split at h
      ·exact (setD_σ h).trans e
      ·cases h
     ·cases h
    ·cases h
   ·cases h
  ·cases h
 ·rename_i t a ho
  rw [ho] at hk
  unfold evLoad at h
  split at h
  ·rename_i id off hp
   split at h
   ·rename_i ha hs
    simp only [ha,hp] at hk
    split at h
    ·rename_i cs st1 htk
     rw [setD_σ h]
     split at hk
     ·rename_i ty cs0 hσ
      rw [takeC_st hσ hk htk]
     ·cases hk
    ·cases h
   ·split at h
    ·split at h <;> exact setD_σ h
    ·cases h
    ·cases h
    ·cases h
    ·exact setD_σ h
    ·cases h
   ·cases h
  ·split at h
   ·split at h
    ·exact setD_σ h
    ·cases h
   ·cases h
  ·split at h
   ·exact setD_σ h
   ·cases h
  ·cases h
 ·rename_i t a x ho;rw [ho] at hk;cases hk
 ·unfold evNilCheck at h
  split at h
  ·exact setD_σ h
  ·exact setD_σ h
  ·exact setD_σ h
  ·exact setD_σ h
  ·cases h
 ·rename_i t x ho
  rw [ho] at hk
  have hn:=noCA_ok hk
  unfold evIface at h
  split at h
  ·cases h
  ·split at h
   ·rename_i y st1 hu
    exact (setD_σ h).trans (use_σ hn hu).1
   ·cases h
  ·cases h
 ·rename_i f a b ho
  rw [ho] at hk
  have hn:=noCA_ok hk
  unfold evFunc at h
  split at h
  ·rename_i xs st1 h1
   obtain ⟨e1,n1⟩:=useL_σ hn h1
   split at h
   ·rename_i ys st2 h2
    obtain ⟨e2,n2⟩:=useL_σ n1 h2
    exact (setD_σ h).trans (e2.trans e1)
   ·cases h
  ·cases h
 ·rename_i op t x y ty ho
  have h0:∀{s},evBin0 C.P st op t x y o.dst=some s→s.σ=st.σ:=fun {s} h=>by
   unfold evBin0 at h
   split at h
   ·split at h
    ·exact setD_σ h
    ·cases h
   ·split at h
    ·split at h
     ·exact setD_σ h
     ·cases h
    ·cases h
   ·cases h
  unfold evBin at h
  split at h
  ·unfold evEq at h
   split at h
   ·split at h
    ·exact setD_σ h
    ·cases h
   ·cases h
  unfold evBin1 at h
  split at h
  ·split at h
   ·rename_i s' hs
    injection h with h;subst h
    unfold evNil at hs
    split at hs
    ·split at hs
     ·exact setD_σ hs
     ·cases hs
    ·cases hs
   ·exact h0 h
  ·exact h0 h
 ·unfold evUn at h
  split at h
  ·exact setD_σ h
  ·split at h
   ·split at h
    ·exact setD_σ h
    ·cases h
   ·cases h
  ·cases h
 ·unfold evConvert at h
  split at h
  ·split at h
   ·exact setD_σ h
   ·split at h
    ·exact setD_σ h
    ·cases h
  ·split at h
   ·split at h
    ·split at h
     ·exact setD_σ h
     ·cases h
    ·cases h
   ·cases h
  ·split at h
   ·split at h
    ·exact setD_σ h
    ·cases h
   ·cases h
  ·cases h
 ·rename_i t x lo hi mx ho
  rw [ho] at hk
  have hn:=noCA_ok hk
  unfold evSlice at h
  split at h
  ·split at h
   ·rename_i sz l hh n xs st1 _ _ _ hu
    split at h
    ·split at h
     ·exact (setD_σ h).trans (use_σ hn hu).1
     ·cases h
    ·cases h
   ·cases h
  ·cases h
 ·unfold evFieldAddr at h
  split at h
  ·split at h
   ·split at h
    ·split at h
     ·exact setAddr_σ h
     ·cases h
    ·cases h
   ·cases h
  ·cases h
 ·unfold evField at h
  split at h
  ·split at h
   ·split at h
    ·exact setD_σ h
    ·cases h
   ·cases h
  ·cases h
 ·unfold evIndexAddr at h
  split at h
  ·split at h
   ·split at h
    ·split at h
     ·exact setAddr_σ h
     ·cases h
    ·cases h
   ·cases h
  ·split at h
   ·split at h
    ·split at h
     ·split at h
      ·exact setAddr_σ h
      ·exact setAddr_σ h
     ·cases h
    ·cases h
   ·cases h
  ·cases h
 ·unfold evIndex at h
  split at h
  ·split at h
   ·split at h
    ·split at h
     ·exact setD_σ h
     ·cases h
    ·cases h
   ·cases h
  ·split at h
   ·split at h
    ·exact setD_σ h
    ·cases h
   ·cases h
  ·cases h
 ·unfold evExtract at h
  split at h
  ·split at h
   ·exact setD_σ h
   ·cases h
  ·cases h
 ·rename_i c ho
  rw [ho] at hk
  split at h
  ·rename_i b hb
   unfold evBuiltin at h
   split at h
   ·simp only [hb] at hk
    have hn:=noCA_ok hk
    unfold evAppend at h
    split at h
    ·split at h
     ·split at h
      ·cases h
      ·split at h
       ·split at h
        ·split at h
         ·split at h
          ·split at h
           ·split at h
            ·exact setD_σ h
            ·cases h
           ·cases h
          ·split at h
           ·split at h
            ·rename_i p t zs hp _ _
             obtain ⟨u,rfl⟩:=plc_tmp hn hp
             split at h
             ·split at h
              ·injection h with h;subst h
               rw [setP_σ,setP_σ]
              ·cases h
             ·cases h
            ·cases h
           ·cases h
         ·cases h
        ·cases h
       ·cases h
     ·cases h
    ·cases h
   ·split at h
    ·split at h
     ·split at h
      ·exact setD_σ h
      ·cases h
     ·cases h
    ·split at h
     ·split at h
      ·exact setD_σ h
      ·cases h
     ·cases h
    ·cases h
   ·cases h
   ·cases h
   ·split at h
    ·split at h
     ·exact setD_σ h
     ·cases h
    ·cases h
  ·cases h
 ·rename_i ho;rw [ho] at hk;cases hk
 ·rename_i ho;rw [ho] at hk;cases hk
 ·rename_i ho;rw [ho] at hk;cases hk
 ·rename_i ho;rw [ho] at hk;cases hk
 ·cases h
def past (k:Nat):Option Own→Bool
 | some (.box id)=>decide (k≤id)
 | some (.plc (.cell id _))=>decide (k≤id)
 | some (.obj id _)=>decide (k≤id)
 | _=>false
def hidK (k:Nat) (o:Option Own):Option Own:=if past k o=true then some .frame else o
def unK (k:Nat) (o oc:Option Own):Option Own:=if past k o=true then o else oc
def Gh.hidF (g:Gh) (k:Nat):Gh:={ rho:=g.rho.take k,FP:=g.FP,ow:=fun b=>hidK k (g.ow b),fam:=(g.cut k).fam }
def Gh.unF (g gc:Gh) (k:Nat):Gh:={ rho:=g.rho,FP:=gc.FP,ow:=fun b=>unK k (g.ow b) (gc.ow b),fam:=fun id i=>if id<k then gc.fam id i else g.fam id i }
theorem hidK_not {k:Nat} {o:Option Own} (h:past k o=false):hidK k o=o:=by simp [hidK,h]
theorem hidK_past {k:Nat} {o:Option Own} (h:past k o=true):hidK k o=some .frame:=by simp [hidK,h]
theorem Slot.ow {P:Program} {st st':St} {g g':Gh} {vs:Array Value} {w:World} {p:Plc} {x:PV} {v:Value} (h:Slot P st g vs w p x v) (hσ:st'.σ=st.σ) (hts:∀t,st'.get t=st.get t) (hr:g'.rho=g.rho) (hf:g'.FP=g.FP)
  (ho:∀b,g.ow b=some (.plc p)→g'.ow b=some (.plc p)) (hm:g'.fam=g.fam:=by rfl):Slot P st' g' vs w p x v:=by
 have hca:∀q,contentAt st' q=contentAt st q:=fun q=>by
  cases q with
  | tmp t=>exact hts t
  | cell id off=>simp only [contentAt,hσ]
 have hre:∀q,realAt g' vs w q=realAt g vs w q:=fun q=>by
  cases q with
  | tmp t=>rfl
  | cell id off=>simp only [realAt,hr]
 cases x with
 | sl fl n xs=>
  cases fl with
  | view=>exact Rel.gh h hr hf hm
  | own e=>exact OwnOk.gh h hr hf ho hm
  | excl e=>exact OwnOk.gh h hr hf ho hm
 | alias q=>
  obtain ⟨⟨fl,n,xs,h1,h2⟩,h3⟩:=h
  exact ⟨⟨fl,n,xs,by rw [hca];exact h1,h2⟩,by rw [hre];exact h3⟩
 | elem q k off=>
  obtain ⟨fl,xs,b,cap,h1,h2,h3,h4⟩:=h
  exact ⟨fl,xs,b,cap,by rw [hca];exact h1,h2,by rw [hre];exact h3,h4⟩
 | dead=>trivial
 | _=>exact Rel.gh h hr hf hm
theorem Inv.hidF {P:Program} {ts:List (Nat×PV)} {n:Nat} {σ τ:List Bx} {g:Gh} {vs:Array Value} {w:World} (h:Inv P g { ts,n,σ:=σ++τ } vs w) (hc:St.cutOk σ.length { ts,n,σ } = true) :
  Inv P (g.hidF σ.length) { ts,n,σ } vs w:=by
 have hc':St.cutOk σ.length { ts,n,σ:=σ++τ } = true:=by
  simp only [St.cutOk,List.take_left',List.take_length] at hc ⊢
  exact hc
 have h1:=h.cutTo hc' (by simp)
 have e:({ ({ ts,n,σ:=σ++τ }:St) with σ:=(σ++τ).take σ.length }:St) = { ts,n,σ }:=by simp
 have h2:Inv P (g.cut σ.length) { ts,n,σ } vs w:=by
  have:=h1
  simp only [List.take_left'] at this
  exact this
 have hlt:∀id b,(g.cut σ.length).rho[id]? = some b→id<σ.length:=fun id b hb=>by
  have:=(List.getElem?_eq_some_iff.1 hb).1
  rwa [h2.rlen] at this
 refine ⟨h2.size,fun t x hx=>?_,h2.rlen,fun id ty cs b k1 k2=>?_,h2.bmap,fun id alts l k1=>?_,fun id b hk hb=>?_,h2.fdom,fun b o hb=>?_,h2.flt,fun b i id hb=>?_⟩
 ·obtain ⟨v,hv,hs⟩:=h2.slot t x hx
  refine ⟨v,hv,hs.ow rfl (fun _=>rfl) rfl rfl fun b hb=>?_⟩
  have hb:g.ow b=_:=hb
  show hidK _ (g.ow b)=_
  rw [hb];rfl
 ·obtain ⟨c,fz,j1,j2,j3,j4⟩:=h2.box id ty cs b k1 k2
  refine ⟨c,fz,j1,j2,j3,fun off x hx=>?_⟩
  obtain ⟨l1,v,l2,l3⟩:=j4 off x hx
  refine ⟨l1,v,l2,l3.ow rfl (fun _=>rfl) rfl rfl fun b' hb=>?_⟩
  have hb:g.ow b'=_:=hb
  show hidK _ (g.ow b')=_
  rw [hb]
  exact hidK_not (by simp only [past,decide_eq_false_iff_not];have:=hlt id b k2;omega)
 ·have hid:id<σ.length:=(List.getElem?_eq_some_iff.1 k1).1
  refine (h2.bfam id alts l k1).mono rfl (fun _ _ h=>h) (fun _ _ _=>rfl) (fun i b hb=>⟨rfl,?_,fun _ h=>h⟩) (Nat.le_refl _)
  have hb:g.ow b=_:=hb
  show hidK _ (g.ow b)=_
  rw [hb]
  exact hidK_not (by simp only [past,decide_eq_false_iff_not];omega)
 ·have:=h2.rown id b hk hb
  have this:g.ow b=_:=this
  show hidK _ (g.ow b)=_
  rw [this]
  exact hidK_not (by simp only [past,decide_eq_false_iff_not];have:=hlt id b hb;omega)
 ·have hb:hidK _ (g.ow b)=some o:=hb
  cases e:g.ow b with
  | none=>rw [e] at hb;simp [hidK,past] at hb
  | some o'=>exact h.olt b o' e
 ·have hb:hidK _ (g.ow b)=some (.box id):=hb
  unfold hidK at hb
  split at hb
  ·cases hb
  ·exact h2.fbox b i id hb
theorem Inv.unF {P:Program} {ts ts':List (Nat×PV)} {n n':Nat} {σ τ:List Bx} {g gc:Gh} {vs vs':Array Value} {w w':World} (h:Inv P g { ts,n,σ:=σ++τ } vs w)
  (hc:Inv P gc { ts:=ts',n:=n',σ } vs' w') (hE:Ext (g.hidF σ.length) gc w w') (hK:BoxKeep (g.hidF σ.length) w w') :
  Inv P (g.unF gc σ.length) { ts:=ts',n:=n',σ:=σ++τ } vs' w'∧Ext g (g.unF gc σ.length) w w'∧BoxKeep g w w':=by
 have hgl:g.rho.length=(σ++τ).length:=h.rlen
 have hcr:gc.rho=g.rho.take σ.length:=by
  have h1:g.rho.take σ.length <+: gc.rho:=hE.rho
  refine (h1.eq_of_length ?_).symm
  rw [hc.rlen,List.length_take,hgl];simp
 have hcl:∀id b,id<σ.length→g.rho[id]? = some b→gc.rho[id]? = some b:=fun id b h1 h2=>by
  rw [hcr,List.getElem?_take_of_lt h1];exact h2
 have hpre:gc.rho <+: g.rho:=by rw [hcr];exact List.take_prefix _ _
 have hfr:∀{b},past σ.length (g.ow b)=true→(g.hidF σ.length).ow b=some .frame:=fun {b} hb=>hidK_past hb
 have hgf:∀{b},past σ.length (g.ow b)=true→gc.ow b=some .frame:=fun {b} hb=>hE.frame b (hfr hb)
 have hnp:∀{b o},gc.ow b=some o→o≠.frame→past σ.length (g.ow b)=false:=fun {b o} hb ho=>by
  cases e:past σ.length (g.ow b) with
  | false=>rfl
  | true=>
   have:=hgf e
   rw [hb] at this
   exact absurd (Option.some.inj this) ho
 have hun:∀{b o},gc.ow b=some o→o≠.frame→(g.unF gc σ.length).ow b=some o:=fun {b o} hb ho=>by
  show unK _ (g.ow b) (gc.ow b)=_
  simp [unK,hnp hb ho,hb]
 have hpo:∀{b},past σ.length (g.ow b)=true→∃o,g.ow b=some o:=fun {b} hb=>by
  cases e:g.ow b with
  | none=>rw [e] at hb;simp [past] at hb
  | some o=>exact ⟨o,rfl⟩
 have hExt:Ext g (g.unF gc σ.length) w w':=
  {rho:=List.prefix_rfl,fp:=hE.fp,fpc:=hE.fpc
   fam:=fun id i v hv=>by
    show (if id<σ.length then gc.fam id i else g.fam id i)=some v
    split
    ·rename_i hid
     refine hE.fam id i v ?_
     show (if id<σ.length then g.fam id i else none)=some v
     rw [if_pos hid];exact hv
    ·exact hv
   obx:=fun b id hl hb=>by
    show unK _ (g.ow b) (gc.ow b)=_
    cases e:past σ.length (g.ow b) with
    | true=>simp only [unK,e,if_true];exact hb
    | false=>
     simp only [unK,e,Bool.false_eq_true,if_false]
     refine hE.obx b id ?_ (by show hidK _ (g.ow b)=_;rw [hidK_not e];exact hb)
     have hid:id<σ.length:=by rw [hb] at e;simp only [past,decide_eq_false_iff_not] at e;omega
     show id<(g.rho.take σ.length).length
     rw [List.length_take,hgl,List.length_append];omega
   keep:=fun b hb ho=>hE.keep b hb (by
    rcases ho with ho | ho
    ·left;show hidK _ (g.ow b)=_;rw [ho];rfl
    ·right;show hidK _ (g.ow b)=_;rw [ho];rfl)
   size:=hE.size
   frame:=fun b hb=>by
    have:=hE.frame b (by show hidK _ (g.ow b)=_;rw [hb];rfl)
    show unK _ (g.ow b) (gc.ow b)=_
    rw [hb,this];rfl
   noframe:=fun b hb=>by
    show unK _ (g.ow b) (gc.ow b)≠_
    cases e:past σ.length (g.ow b) with
    | true=>simp only [unK,e,if_true];exact hb
    | false=>
     simp only [unK,e,Bool.false_eq_true,if_false]
     exact hE.noframe b (by show hidK _ (g.ow b)≠_;rw [hidK_not e];exact hb)
   none_:=fun b hb hn=>by
    have:=hE.none_ b hb (by show hidK _ (g.ow b)=_;rw [hn];rfl)
    show unK _ (g.ow b) (gc.ow b)=_
    rw [hn,this];rfl
   fnew:=fun b i hb hf=>hE.fnew b i (by show hidK _ (g.ow b)=_;rw [hb];rfl) hf
   os:=hE.os,tape:=hE.tape,output:=hE.output }
 have hkeep:∀{b},past σ.length (g.ow b)=true→w'.heap[b]? = w.heap[b]?:=fun {b} hb=>by
  obtain ⟨o,ho⟩:=hpo hb
  exact hE.keep b (h.olt b o ho) (.inr (hfr hb))
 have hR:∀{y u},Rel gc w' y u→Rel (g.unF gc σ.length) w' y u:=fun hh=>Rel.mono (g:=gc) (g':=g.unF gc σ.length) (w:=w') (w':=w') hpre (fun id i v hv=>by
  show (if id<σ.length then gc.fam id i else g.fam id i)=some v
  rw [if_pos (show id<σ.length from hc.fdom id i v hv)];exact hv) (fun _ _ hh=>hh) (fun _ _ _=>rfl) hh
 have hO:∀{p ex e nn xs v},OwnOk P gc w' p ex e nn xs v→OwnOk P (g.unF gc σ.length) w' p ex e nn xs v:=by
  rintro p ex e nn xs v (hk | ⟨hn,b,cap,hval,hb⟩)
  ·exact .inl hk
  ·exact .inr ⟨hn,b,cap,hval,hb.hcap,hb.blk,hun hb.ow (by simp),⟨hb.el.1,fun i j hi hj=>let ⟨u,k1,k2⟩:=hb.el.2 i j hi hj;⟨u,k1,hR k2⟩⟩,hb.ex_,hb.fr⟩
 have hca:∀{q y},contentAt { ts:=ts',n:=n',σ } q=some y→contentAt { ts:=ts',n:=n',σ:=σ++τ } q=some y:=by
  intro q y hq
  cases q with
  | tmp t=>exact hq
  | cell id off=>
   simp only [contentAt] at hq ⊢
   split at hq
   ·rename_i ty cs e
    rw [List.getElem?_append_left (List.getElem?_eq_some_iff.1 e).1,e];exact hq
   ·cases hq
 have hre:∀{q u},realAt gc vs' w' q=some u→realAt (g.unF gc σ.length) vs' w' q=some u:=by
  intro q u hq
  cases q with
  | tmp t=>exact hq
  | cell id off=>
   simp only [realAt] at hq ⊢
   split at hq
   ·rename_i b e
    rw [show (g.unF gc σ.length).rho[id]? = some b from prefix_get hpre e];exact hq
   ·cases hq
 have hS:∀{p x v},Slot P { ts:=ts',n:=n',σ } gc vs' w' p x v→Slot P { ts:=ts',n:=n',σ:=σ++τ } (g.unF gc σ.length) vs' w' p x v:=by
  intro p x v hs
  cases x with
  | sl fl nn xs=>
   cases fl with
   | view=>exact hR hs
   | own e=>exact hO hs
   | excl e=>exact hO hs
  | alias q=>
   obtain ⟨⟨fl,nn,xs,h1,h2⟩,h3⟩:=hs
   exact ⟨⟨fl,nn,xs,hca h1,h2⟩,hre h3⟩
  | elem q k off=>
   obtain ⟨fl,xs,b,cap,h1,h2,h3,h4⟩:=hs
   exact ⟨fl,xs,b,cap,hca h1,h2,hre h3,h4⟩
  | dead=>trivial
  | _=>exact hR hs
 refine ⟨?_,hExt,fun id b hb hob=>?_⟩
 ·refine ⟨hc.size,fun t x hx=>?_,h.rlen,fun id ty cs b h1 h2=>?_,fun id es b h1 h2=>?_,fun id alts l h1=>?_,fun id b hk hb=>?_,fun id i v hv=>?_,fun b o hb=>?_,hc.flt,fun b i id hb hf=>?_⟩
  ·obtain ⟨v,hv,hs⟩:=hc.slot t x hx
   exact ⟨v,hv,hS hs⟩
  ·rcases Nat.lt_or_ge id σ.length with hid | hid
   ·obtain ⟨c,fz,j1,j2,j3,j4⟩:=hc.box id ty cs b (by rw [←List.getElem?_append_left hid (l₂:=τ)];exact h1) (hcl id b hid h2)
    refine ⟨c,fz,j1,j2,j3,fun off x hx=>?_⟩
    obtain ⟨l1,v,l2,l3⟩:=j4 off x hx
    exact ⟨l1,v,l2,hS l3⟩
   ·obtain ⟨c,fz,k1,k2,k3,k4⟩:=h.box id ty cs b h1 h2
    have hb:=h.rown id b (famAt_cells h1) h2
    have hp:past σ.length (g.ow b)=true:=by rw [hb];simpa [past] using hid
    refine ⟨c,fz,(hkeep hp).trans k1,k2,k3,fun off x hx=>?_⟩
    obtain ⟨j1,v,j2,j3⟩:=k4 off x hx
    refine ⟨j1,v,j2,?_⟩
    have hO2:∀{ex e nn xs},OwnOk P g w (.cell id off) ex e nn xs v→OwnOk P (g.unF gc σ.length) w' (.cell id off) ex e nn xs v:=by
     rintro ex e nn xs (hk | ⟨hn,b2,cap,hval,hb2⟩)
     ·exact .inl hk
     ·have hp2:past σ.length (g.ow b2)=true:=by rw [hb2.ow];simpa [past] using hid
      have hh:=hkeep hp2
      have hf2:=hfr hp2
      obtain ⟨c2,fz2,l1,l2,l3⟩:=hb2.blk
      refine .inr ⟨hn,b2,cap,hval,hb2.hcap,⟨c2,fz2,hh.trans l1,l2,l3⟩,?_,hb2.el.mono hExt (cell_of_heap hh),fun he i hf=>hb2.ex_ he i (hE.fnew b2 i hf2 hf),fun i hi hf=>hb2.fr i hi (hE.fnew b2 i hf2 hf)⟩
      show unK _ (g.ow b2) (gc.ow b2)=_
      simp only [unK,hp2,if_true];exact hb2.ow
    cases x with
    | sl fl n xs=>
     cases fl with
     | view=>exact Rel.ext hExt j3
     | own e=>exact hO2 j3
     | excl e=>exact hO2 j3
    | alias _=>simp [PV.noAl] at j1
    | elem _ _ _=>simp [PV.noAl] at j1
    | dead=>trivial
    | _=>exact Rel.ext hExt j3
  ·rcases Nat.lt_or_ge id σ.length with hid | hid
   ·exact hc.bmap id es b (by rw [←List.getElem?_append_left hid (l₂:=τ)];exact h1) (hcl id b hid h2)
   ·obtain ⟨en,ck,k1,k2⟩:=h.bmap id es b h1 h2
    exact ⟨en,ck,(hkeep (by rw [h.rown id b (famAt_mp h1) h2];simpa [past] using hid)).trans k1,k2⟩
  ·rcases Nat.lt_or_ge id σ.length with hid | hid
   ·refine (hc.bfam id alts l (by rw [←List.getElem?_append_left hid (l₂:=τ)];exact h1)).mono ?_ (fun _ _ h=>h) (fun _ _ _=>rfl) (fun i b hb=>⟨rfl,hun hb (by simp),fun _ h=>h⟩) (Nat.le_refl _)
    funext i
    show (if id<σ.length then gc.fam id i else g.fam id i)=_
    rw [if_pos hid]
   ·have hp:∀i b,g.ow b=some (.obj id i)→past σ.length (g.ow b)=true:=fun i b hb=>by rw [hb];simpa [past] using hid
    refine (h.bfam id alts l h1).mono ?_ hE.fp hE.fpc (fun i b hb=>⟨hkeep (hp i b hb),?_,fun j=>hE.fnew b j (hfr (hp i b hb))⟩) hE.size
    ·funext i
     show (if id<σ.length then gc.fam id i else g.fam id i)=_
     rw [if_neg (by omega)]
    ·show unK _ (g.ow b) (gc.ow b)=_
     simp only [unK,hp i b hb,if_true];exact hb
  ·have hb:g.rho[id]? = some b:=hb
   rcases Nat.lt_or_ge id σ.length with hid | hid
   ·exact hun (hc.rown id b (by
     have hk:famAt (σ++τ) id=false:=hk
     unfold famAt at hk ⊢
     rwa [List.getElem?_append_left hid] at hk) (hcl id b hid hb)) (by simp)
   ·have:=h.rown id b hk hb
    show unK _ (g.ow b) (gc.ow b)=_
    rw [this]
    simp [unK,past,hid]
  ·have hv:(if id<σ.length then gc.fam id i else g.fam id i)=some v:=hv
   show id<(σ++τ).length
   split at hv
   ·rw [List.length_append];omega
   ·exact h.fdom id i v hv
  ·have hb:unK _ (g.ow b) (gc.ow b)=some o:=hb
   unfold unK at hb
   split at hb
   ·exact Nat.lt_of_lt_of_le (h.olt b _ hb) hE.size
   ·exact hc.olt b o hb
  ·have hb:unK _ (g.ow b) (gc.ow b)=some (.box id):=hb
   unfold unK at hb
   split at hb
   ·rename_i hp
    exact h.fbox b i _ hb (hE.fnew b i (hfr hp) hf)
   ·exact hc.fbox b i id hb hf
 ·rcases Nat.lt_or_ge id σ.length with hid | hid
  ·exact hK id b (by show (g.rho.take _)[id]? = _;rw [List.getElem?_take_of_lt hid];exact hb) (by
    show hidK _ (g.ow b)=_
    rw [hob]
    exact hidK_not (by simp only [past,decide_eq_false_iff_not];omega))
  ·exact hkeep (by rw [hob];simpa [past] using hid)
theorem StepRuns.more {P:Program} {ops:Array Oper} {j n:Nat} {o:Oper} {loc loc':List (Nat×PV)} {σ:List Bx} (h:StepRuns P ops j o false { ts:=loc,n,σ } { ts:=loc',n,σ })
  (hc:St.cutOk σ.length { ts:=loc,n,σ } = true) (τ:List Bx):StepRuns P ops j o false { ts:=loc,n,σ:=σ++τ } { ts:=loc',n,σ:=σ++τ }:=by
 intro g a w K Q hi hK
 refine h (g.hidF σ.length) a w K Q (hi.hidF hc) fun a' w' gc i1 i2 i3 i4 i5=>?_
 obtain ⟨k1,k2,k3⟩:=hi.unF i1 i2 (i5 rfl)
 exact hK a' w' _ k1 k2 i3 i4 fun _=>k3
theorem AbsCall.frameK {P:Program} {f:FuncId} {args:List PV} {r:PV} (h:AbsCall P f args [] r []) (ha:noRefs 0 args=true) (hr:r.noAl=true) (k:Prop) (σ:List Bx):AbsK P k f args σ r σ:=by
 intro g us w hi
 refine (h g.hide us w (hi.hide ha)).mono ?_
 rintro e w' ⟨rv,gc,rfl,h1,h2⟩
 obtain ⟨k1,k2⟩:=hi.unhide h1 hr h2
 refine ⟨rv,_,rfl,k1,k2,fun _ id b hb ho=>?_⟩
 exact h2.keep b (hi.olt b _ ho) (.inr (by show hidO (g.ow b)=_;rw [ho];rfl))
theorem Inv.args {P:Program} {args args':List PV} {σ:List Bx} {g:Gh} {us:Array Value} {w:World} (h:Inv P g { ts:=number 0 args,n:=args.length,σ } us w) (hl:args'.length=args.length)
  (hs:∀i (h1:i<args.length) (h2:i<args'.length) v,Slot P { ts:=number 0 args,n:=args.length,σ } g us w (.tmp i) args[i] v→Slot P { ts:=number 0 args',n:=args'.length,σ } g us w (.tmp i) args'[i] v):Inv P g { ts:=number 0 args',n:=args'.length,σ } us w where
 size:=by rw [h.size];exact hl.symm
 slot t x hx:=by
  have ht:t<args'.length:=get_lt hx
  have ht0:t<args.length:=by omega
  have hxa:x=args'[t]:=by
   simp only [St.get] at hx
   rw [if_pos ht,lkp_number,if_pos (by omega),Nat.sub_zero,List.getD_eq_getElem?_getD,List.getElem?_eq_getElem ht] at hx
   exact (Option.some.inj hx).symm
  subst hxa
  have hg:({ ts:=number 0 args,n:=args.length,σ }:St).get t=some args[t]:=by
   simp only [St.get]
   rw [if_pos ht0,lkp_number,if_pos (by omega),Nat.sub_zero,List.getD_eq_getElem?_getD,List.getElem?_eq_getElem ht0];rfl
  obtain ⟨v,hv,h1⟩:=h.slot t _ hg
  exact ⟨v,hv,hs t ht0 ht v h1⟩
 rlen:=h.rlen
 box id ty cs b h1 h2:=by
  obtain ⟨c,fz,k1,k2,k3,k4⟩:=h.box id ty cs b h1 h2
  refine ⟨c,fz,k1,k2,k3,fun off x hx=>?_⟩
  obtain ⟨j1,v,j2,j3⟩:=k4 off x hx
  exact ⟨j1,v,j2,j3.gh j1 rfl rfl (fun _ h=>h)⟩
 bmap:=h.bmap
 bfam:=h.bfam
 fdom:=h.fdom
 rown:=h.rown
 olt:=h.olt
 flt:=h.flt
 fbox:=h.fbox
mutual
theorem nilW_rel {g:Gh} {w:World}:∀(t:PT) {x:PV} {v:Value},Rel g w x v→Rel g w (nilW t x) v
 | .sl fl n s,x,v,h=>by
  simp only [nilW]
  split
  ·cases h with
   | slnil=>exact .slz _
  ·exact h
 | .agg ts,x,v,h=>by
  simp only [nilW]
  split
  ·rename_i xs
   cases h with
   | agg _ vs hl hr=>
    have:=nilWs_rel ts (us:=vs.toList) ⟨by simpa using hl,fun i hi hv=>by simpa using hr i hi (by simpa using hv)⟩
    have h2:=this.agg
    simpa using h2
  ·exact h
 | .tup ts,x,v,h=>by
  simp only [nilW]
  split
  ·rename_i xs
   cases h with
   | tup _ vs hl hr=>
    have:=nilWs_rel ts (us:=vs.toList) ⟨by simpa using hl,fun i hi hv=>by simpa using hr i hi (by simpa using hv)⟩
    refine .tup _ vs (by have:=this.1;simpa using this) fun i hi hv=>?_
    have:=this.2 i hi (by simpa using hv)
    simpa using this
  ·exact h
 | .lf _,x,v,h=>by simp only [nilW];exact h
 | .ptr _ _,x,v,h=>by simp only [nilW];exact h
 | .nilp,x,v,h=>by simp only [nilW];exact h
 | .nili,x,v,h=>by simp only [nilW];exact h
 | .dead,x,v,h=>by simp only [nilW];exact h
 | .undef,x,v,h=>by simp only [nilW];exact h
 | .alias _,x,v,h=>by simp only [nilW];exact h
 | .elemv _ _,x,v,h=>by simp only [nilW];exact h
 | .ifc _ _,x,v,h=>by simp only [nilW];exact h
 | .fn _ _ _,x,v,h=>by simp only [nilW];exact h
 | .oref _,x,v,h=>by simp only [nilW];exact h
 | .fam _,x,v,h=>by simp only [nilW];exact h
 | .mapr _,x,v,h=>by simp only [nilW];exact h
 | .mp _ _,x,v,h=>by simp only [nilW];exact h
theorem nilWs_rel {g:Gh} {w:World}:∀(ts:List PT) {xs:List PV} {us:List Value},RelL g w xs us→RelL g w (nilWs ts xs) us
 | [],xs,us,h=>by simp only [nilWs];exact h
 | t :: ts,xs,us,h=>by
  simp only [nilWs]
  split
  ·rename_i x xs
   obtain ⟨hl,hr⟩:=h
   cases us with
   | nil=>simp at hl
   | cons u us=>
    have h1:=nilW_rel t (hr 0 (by simp) (by simp))
    have h2:=nilWs_rel ts (xs:=xs) (us:=us) ⟨by simpa using hl,fun i hi hv=>by
     have:=hr (i+1) (by simpa using hi) (by simpa using hv)
     simpa only [List.getElem_cons_succ] using this⟩
    refine ⟨by simpa using h2.1,fun i hi hv=>?_⟩
    cases i with
    | zero=>exact h1
    | succ i=>simpa using h2.2 i (by simpa using hi) (by simpa using hv)
  ·exact h
end
theorem nilW_own {t:PT} {x:PV} (h:x.isOwn=true):nilW t x=x:=by
 cases x with
 | sl fl n xs=>
  cases t with
  | sl fl' n' s=>
   simp only [nilW]
   split
   ·rename_i e;injection e with e _;subst e;cases h
   ·rfl
  | _=>rfl
 | _=>cases h
theorem nilW_dead (t:PT):nilW t .dead=.dead:=by
 cases t with
 | sl fl n s=>cases fl <;> cases n <;> rfl
 | _=>rfl
theorem rel_slot {P:Program} {st:St} {g:Gh} {us:Array Value} {w:World} {p:Plc} {x:PV} {v:Value} (h:Rel g w x v):Slot P st g us w p x v:=slot_of_rel h h.plain
theorem nilW_slot {P:Program} {st st':St} {g:Gh} {us us':Array Value} {w:World} {p:Plc} {t:PT} {x:PV} {v:Value} (hx:x.noAl=true) (h:Slot P st g us w p x v):Slot P st' g us' w p (nilW t x) v:=by
 by_cases ho:x.isOwn=true
 ·rw [nilW_own ho];exact h.gh hx rfl rfl (fun _ h=>h)
 ·by_cases hd:x=.dead
  ·subst hd;rw [nilW_dead];trivial
  ·exact rel_slot (nilW_rel t (slot_rel h (by simpa using ho) hx hd))
theorem nilR_slot {P:Program} {st st':St} {g:Gh} {us us':Array Value} {w:World} {p:Plc} {t:PT} {x:PV} {v:Value} (hx:x.noAl=true) (h:Slot P st g us w p x v):Slot P st' g us' w p (nilR t x) v:=by
 unfold nilR
 split
 ·rename_i fl s fl' xs
  have hv:v=.slice none 0 0:=by
   rcases slot_sl h with ⟨_,e⟩ | ⟨e,_⟩
   ·exact e
   ·cases e
  subst hv
  cases fl with
  | view=>exact Rel.slz _
  | own e=>exact .inl ⟨rfl,rfl⟩
  | excl e=>exact .inl ⟨rfl,rfl⟩
 ·exact nilW_slot hx h
theorem nilWs_length:∀(ts:List PT) (xs:List PV),(nilWs ts xs).length=xs.length
 | [],xs=>by simp [nilWs]
 | t :: ts,[]=>by simp [nilWs]
 | t :: ts,x :: xs=>by simp [nilWs,nilWs_length ts xs]
theorem nilWs_get:∀(ts:List PT) (xs:List PV) (i:Nat) (h:i<xs.length) (h':i<(nilWs ts xs).length),(∃t,(nilWs ts xs)[i]=nilW t xs[i])∨(nilWs ts xs)[i]=xs[i]
 | [],xs,i,h,h'=>.inr (by simp [nilWs])
 | t :: ts,[],i,h,h'=>by simp at h
 | t :: ts,x :: xs,0,h,h'=>.inl ⟨t,by simp [nilWs]⟩
 | t :: ts,x :: xs,i+1,h,h'=>by
  rcases nilWs_get ts xs i (by simpa using h) (by simpa [nilWs] using h') with ⟨u,e⟩ | e
  ·exact .inl ⟨u,by simpa [nilWs] using e⟩
  ·exact .inr (by simpa [nilWs] using e)
theorem AbsK.nilWs {P:Program} {k:Prop} {f:FuncId} {ts:List PT} {xs:List PV} {σ σ':List Bx} {r:PV} (h:AbsK P k f (nilWs ts xs) σ r σ') (hx:xs.all PV.noAl=true):AbsK P k f xs σ r σ':=by
 intro g us w hi
 refine h g us w ?_
 have hl:=nilWs_length ts xs
 refine hi.args (args':=Go.AM.nilWs ts xs) hl fun i h1 h2 v hs=>?_
 have hn:xs[i].noAl=true:=List.all_eq_true.1 hx _ (List.getElem_mem h1)
 rcases nilWs_get ts xs i h1 h2 with ⟨t,e⟩ | e
 ·rw [e];exact nilW_slot hn hs
 ·rw [e];exact hs.gh hn rfl rfl (fun _ h=>h)
theorem nilAs_length:∀(ts:List PT) (xs:List PV),(nilAs ts xs).length=xs.length
 | [],xs=>by simp [nilAs]
 | t :: ts,[]=>by simp [nilAs]
 | t :: ts,x :: xs=>by simp [nilAs,nilAs_length ts xs]
theorem nilAs_get:∀(ts:List PT) (xs:List PV) (i:Nat) (h:i<xs.length) (h':i<(nilAs ts xs).length),(∃t,(nilAs ts xs)[i]=nilR t xs[i])∨(nilAs ts xs)[i]=xs[i]
 | [],xs,i,h,h'=>.inr (by simp [nilAs])
 | t :: ts,[],i,h,h'=>by simp at h
 | t :: ts,x :: xs,0,h,h'=>.inl ⟨t,by simp [nilAs]⟩
 | t :: ts,x :: xs,i+1,h,h'=>by
  rcases nilAs_get ts xs i (by simpa using h) (by simpa [nilAs] using h') with ⟨u,e⟩ | e
  ·exact .inl ⟨u,by simpa [nilAs] using e⟩
  ·exact .inr (by simpa [nilAs] using e)
theorem AbsK.nilAs {P:Program} {k:Prop} {f:FuncId} {ts:List PT} {xs:List PV} {σ σ':List Bx} {r:PV} (h:AbsK P k f (nilAs ts xs) σ r σ') (hx:xs.all PV.noAl=true):AbsK P k f xs σ r σ':=by
 intro g us w hi
 refine h g us w ?_
 have hl:=nilAs_length ts xs
 refine hi.args (args':=Go.AM.nilAs ts xs) hl fun i h1 h2 v hs=>?_
 have hn:xs[i].noAl=true:=List.all_eq_true.1 hx _ (List.getElem_mem h1)
 rcases nilAs_get ts xs i h1 h2 with ⟨t,e⟩ | e
 ·rw [e];exact nilR_slot hn hs
 ·rw [e];exact hs.gh hn rfl rfl (fun _ h=>h)
def Known (P:Program) (f:FuncId) (kf:KF):Prop:=
 (∃fn,P.funcs[f]? = some fn∧fn.body.isSome=true)∧
 ∀a res,kf.model a=some res→∃args d σ0 o ds r ds2 σ',plugs kf.inp.vs (unpack kf.inp.ls a)=some (args,d)∧plugB kf.inp.bx d=some (σ0,[])∧
  sel kf.outs res=some (o,ds)∧plug o.r ds=some (r,ds2)∧plugB o.bx ds2=some (σ',[])∧AbsCall P f args σ0 r σ'
def KnownO (P:Program) (ko:KO):Prop:=∀x a u x',ko.model x a=some (u,x')→∃r σ xs y σ',openA ko.alts x=some (r,σ)∧plugs ko.args (unpack (PT.lss ko.args) a)=some (xs,[])∧
 plug ko.res (unpack ko.res.ls u)=some (y,[])∧openA ko.alts x'=some (r,σ')∧σ'.length=σ.length∧r.plain=true∧r.isOwn=false∧AbsI P False ko.name (r :: xs) σ y σ'
def TC.Ok (C:TC):Prop:=WF C.C.P∧(∀f kf,kf∈C.kn f→Known C.C.P f kf)∧∀ko,ko∈C.ko→KnownO C.C.P ko
theorem setDK_some {R:Type} {st:St} {d:Option Tmp} {x:PV} {k:St→Option R} {r:R} (h:setDK st d x k=some r):∃s,st.setD d x=some s∧k s=some r:=by
 unfold setDK at h
 split at h
 ·exact ⟨_,‹_›,h⟩
 ·cases h
theorem setAK_some {R:Type} {st:St} {d:Option Tmp} {x:PV} {k:St→Option R} {r:R} (h:setAK st d x k=some r):∃s,st.setAddr d x=some s∧k s=some r:=by
 unfold setAK at h
 split at h
 ·exact ⟨_,‹_›,h⟩
 ·cases h
theorem orK_some {R:Type} {o:Option St} {k:St→Option R} {r:R} (h:orK o k=some r):∃s,o=some s∧k s=some r:=by
 unfold orK at h
 split at h
 ·exact ⟨_,rfl,h⟩
 ·cases h
theorem grd_some {R:Type} {b:Bool} {k:Option R} {r:R} (h:grd b k=some r):b=true∧k=some r:=by
 cases b with
 | true=>exact ⟨rfl,h⟩
 | false=>cases h
structure St.Eqv (st st0:St):Prop where
 n:st0.n=st.n
 σ:st0.σ=st.σ
 ts:∀t,lkp st0.ts t=lkp st.ts t
theorem St.Eqv.refl (st:St):st.Eqv st:=⟨rfl,rfl,fun _=>rfl⟩
theorem Inv.eqv {P:Program} {st st0:St} {g:Gh} {vs:Array Value} {w:World} (h:Inv P g st vs w) (e:st.Eqv st0):Inv P g st0 vs w:=by
 obtain ⟨ts,n,σ⟩:=st
 obtain ⟨ts0,n0,σ0⟩:=st0
 obtain ⟨h1,h2,h3⟩:=e
 simp only at h1 h2 h3
 subst h1;subst h2
 exact h.congr h3
theorem litB_eqv {st:St} {t:Nat} {b:Bool} (h:lkp st.ts t=.lit (.bool b)):st.Eqv (litB st t b):=
 ⟨rfl,rfl,fun u=>by
  by_cases e:t=u
  ·subst e;simp only [litB,lkp_upd_self,h]
  ·simp only [litB,lkp_upd_ne _ _ e]⟩
theorem litO_eqv {st:St} {o:Operand} {b:Bool} (h:st.bool o=some b):st.Eqv (litO st o b):=by
 cases o with
 | tmp t=>
  simp only [litO]
  split
  ·rename_i b' hb
   refine litB_eqv ?_
   rw [hb]
   simp only [St.bool,St.peek,St.get] at h
   by_cases ht:t<st.n
   ·rw [if_pos ht,hb] at h
    simp only at h
    injection h with h;rw [h]
   ·rw [if_neg ht] at h;cases h
  ·exact .refl _
 | _=>exact .refl _
theorem listOf_get {s:Sh}:∀{cs:List PV} {l:List s.den} {j:Nat} {y:s.den},listOf s cs=some l→l[j]? = some y→∃x,cs[j]? = some x∧s.of [x]=some y
 | [],l,j,y,h,hy=>by injection h with h;subst h;simp at hy
 | x :: r,l,j,y,h,hy=>by
  simp only [listOf] at h
  split at h
  ·rename_i z hz
   split at h
   ·rename_i l' hl
    injection h with h;subst h
    cases j with
    | zero=>
     simp only [List.getElem?_cons_zero] at hy
     injection hy with hy
     subst hy
     exact ⟨x,rfl,hz⟩
    | succ j=>exact listOf_get (cs:=r) hl (by simpa using hy)
   ·cases h
  ·cases h
theorem indexAddrK_ok {R:Type} {P:Program} {st:St} {t:TypeId} {x i:Operand} {d:Option Tmp} {k:St→Option R} {r:R} (h:indexAddrK P st t x i d k=some r):∃s,evIndexAddr P st t x i d=some s∧k s=some r:=by
 unfold indexAddrK at h
 split at h
 ·rename_i e hu
  split at h
  ·rename_i ix n xs hi hn hs
   split at h
   ·rename_i hsz
    split at h
    ·rename_i q hq
     obtain ⟨y,hy,h⟩:=Option.bind_eq_some_iff.1 h
     obtain ⟨s,h1,h2⟩:=setAK_some h
     refine ⟨s,?_,h2⟩
     simp only [evIndexAddr,hu,hi,hn,hs,if_pos hsz,hy,hq];exact h1
    ·rename_i hq
     obtain ⟨y,hy,h⟩:=Option.bind_eq_some_iff.1 h
     obtain ⟨s,h1,h2⟩:=setAK_some h
     refine ⟨s,?_,h2⟩
     simp only [evIndexAddr,hu,hi,hn,hs,if_pos hsz,hy,hq];exact h1
   ·cases h
  ·cases h
 ·rename_i len e hu
  split at h
  ·rename_i ix n y hi hn hp
   split at h
   ·rename_i z hz
    obtain ⟨hb,h⟩:=grd_some h
    obtain ⟨s,h1,h2⟩:=setAK_some h
    refine ⟨s,?_,h2⟩
    simp only [evIndexAddr,hu,hi,hn,hp,if_pos (of_decide_eq_true hb),hz];exact h1
   ·cases h
  ·cases h
 ·cases h
theorem loadK_ok {R:Type} {C:Ctx} {st:St} {t:TypeId} {a:Operand} {d:Option Tmp} {k:St→Option R} {r:R} (h:loadK C st t a d k=some r):∃s,evLoad C.P st t a d=some s∧k s=some r:=by
 unfold loadK at h
 split at h
 ·rename_i q j off hp
  split at h
  ·rename_i fl xs hc
   split at h
   ·rename_i ho
    obtain ⟨y,hy,h⟩:=Option.bind_eq_some_iff.1 h
    split at h
    ·rename_i x hx
     obtain ⟨s,h1,h2⟩:=setDK_some h
     refine ⟨s,?_,h2⟩
     simp only [evLoad,hp,elemCells,hc,if_pos ho,hy,hx];exact h1
    ·cases h
   ·cases h
  ·cases h
 ·rename_i id off hp
  split at h
  ·rename_i ty cs hσ ha
   split at h
   ·rename_i harr
    split at h
    ·rename_i l hl
     obtain ⟨y,hy,h⟩:=Option.bind_eq_some_iff.1 h
     split at h
     ·rename_i x hx
      obtain ⟨s,h1,h2⟩:=setDK_some h
      refine ⟨s,?_,h2⟩
      simp only [Bool.and_eq_true] at harr
      obtain ⟨x0,e1,e2⟩:=listOf_get hl hy
      have e3:=of_scalar harr.2 e2
      rw [hx] at e3
      injection e3 with e3 _
      subst e3
      have hcn:contentAt st (.cell id off)=some x:=by simp only [contentAt,hσ];exact e1
      have hsz:∃n,szOf C.P t=some n:=by
       unfold aggT at ha
       cases hu:C.P.underlying t with
       | none=>rw [hu] at ha;cases ha
       | some dd=>
        cases hi:C.P.info? t with
        | none=>simp [Program.underlying,hi] at hu
        | some i=>exact ⟨i.size,by simp [szOf,hi]⟩
      obtain ⟨n,hn⟩:=hsz
      obtain ⟨u,rfl⟩:=scalar_lit harr.2 hx
      simp only [evLoad,hp,ha,hn,hcn]
      exact h1
     ·cases h
    ·cases h
   ·exact orK_some h
  ·exact orK_some h
 ·exact orK_some h
theorem storeK_ok {R:Type} {C:Ctx} {st:St} {t:TypeId} {a x:Operand} {d:Option Tmp} {k:St→Option R} {r:R} (h:storeK C st t a x d k=some r):∃s1 s,evStore C.P st t a x=some s1∧s1.setD d (.lit undef)=some s∧k s=some r:=by
 unfold storeK at h
 split at h
 ·rename_i p j off n hp hn
  split at h
  ·rename_i y st1 hu
   split at h
   ·rename_i hl
    split at h
    ·rename_i e xs hc
     split at h
     ·rename_i hcond
      obtain ⟨z,hz,h⟩:=Option.bind_eq_some_iff.1 h
      split at h
      ·rename_i z' hz'
       obtain ⟨s,h1,h2⟩:=setDK_some h
       refine ⟨_,s,?_,h1,h2⟩
       simp only [evStore,hp,hn,hu,if_pos hl,St.putE,hc,hz,if_pos hcond,hz']
      ·cases h
     ·cases h
    ·cases h
   ·cases h
  ·cases h
 ·split at h
  ·rename_i s1 hs1
   obtain ⟨s,h1,h2⟩:=setDK_some h
   exact ⟨s1,s,hs1,h1,h2⟩
  ·cases h
theorem sliceK_ok {R:Type} {P:Program} {st:St} {t:TypeId} {x:Operand} {lo hi mx:Option Operand} {d:Option Tmp} {k:St→Option R} {r:R} (h:sliceK P st t x lo hi mx d k=some r):∃s,evSlice P st t x lo hi mx d=some s∧k s=some r:=by
 unfold sliceK at h
 split at h
 ·rename_i e hu
  split at h
  ·rename_i sz l hh n xs st1 hsz hlo hhi huse
   split at h
   ·rename_i hc
    obtain ⟨m,hm,h⟩:=Option.bind_eq_some_iff.1 h
    obtain ⟨s,h1,h2⟩:=setDK_some h
    refine ⟨s,?_,h2⟩
    cases lo <;> cases hi <;> simp only at hlo hhi <;> simp only [evSlice,hu,hsz,hlo,hhi,huse,if_pos hc,hm] <;> exact h1
   ·cases h
  ·cases h
 ·cases h
theorem appendK_ok {R:Type} {C:Ctx} {st:St} {tys:Array TypeId} {s x:Operand} {d:Option Tmp} {k:St→Option R} {r:R} (h:appendK C st tys s x d k=some r):∃s',evAppend C st tys s x d=some s'∧k s'=some r:=by
 unfold appendK at h
 split at h
 ·rename_i ts tx h0 h1
  split at h
  ·rename_i e ux hu hux
   split at h
   ·cases h
   ·rename_i hni
    split at h
    ·rename_i i fl nl xs hi hp
     split at h
     ·rename_i ys hys
      split at h
      ·rename_i hc
       split at h
       ·split at h
        ·rename_i t hd
         obtain ⟨hb,h⟩:=grd_some h
         obtain ⟨s',h2,h3⟩:=setDK_some h
         refine ⟨s',?_,h3⟩
         simp only [evAppend,h0,h1,hu,hux,if_neg hni,hi,hp,hys,if_pos hc,if_pos (of_decide_eq_true hb)]
         exact h2
        ·cases h
       ·split at h
        ·rename_i ho
         split at h
         ·rename_i p t zs hpl hz
          split at h
          ·rename_i ht
           obtain ⟨hb,h⟩:=grd_some h
           refine ⟨_,?_,h⟩
           simp only [evAppend,h0,h1,hu,hux,if_neg hni,hi,hp,hys,if_pos hc,if_pos ho,hpl,hz,if_pos ht,if_pos (of_decide_eq_true hb)]
          ·cases h
         ·cases h
        ·cases h
      ·cases h
     ·cases h
    ·cases h
  ·cases h
 ·cases h
theorem det_bind {α β:Type} (P:Program) (s:Sem α) (f:α→Sem β):det P (s >>= f)=(match det P s with | some a=>det P (f a) | none=>none):=by
 induction s with
 | pure a=>rfl
 | program k ih=>exact ih P
 | _=>rfl
theorem det_und {P:Program} {t:TypeId} {d:TypeDesc} (h:P.underlying t=some d):det P (underlying t)=some d:=by
 have e1:det P program=some P:=rfl
 have e2:∀x:TypeDesc,det P (pure x)=some x:=fun _=>rfl
 simp only [underlying,det_bind,e1,h,e2]
theorem det_arith {P:Program} {a b c:Nat} (h:fadd a b=some c):det P (Op.floatArith .add .f64 a b)=some (.float .f64 c):=by
 simp only [Op.floatArith]
 rw [det_bind]
 have h:FloatKind.f64.format.add a b=some c:=h
 simp only [h]
 rfl
theorem det_carith {P:Program} {a b c:Nat} (h:det P (Op.floatArith .add .f64 a b)=some (.float .f64 c)):det P (Op.Complex.arith .add .f64 a b)=some c:=by
 unfold Op.Complex.arith
 rw [det_bind,h]
 rfl
theorem det_cadd {P:Program} {t:TypeId} {x y:Operand} {a b c d r i:Nat} (h1:fadd a c=some r) (h2:fadd b d=some i):det P (do eqGuard .add t x y (.complex .f64 a b) (.complex .f64 c d);binOp .add t (.complex .f64 a b) (.complex .f64 c d))=some (.complex .f64 r i):=by
 show det P ((Op.Complex.arith .add .f64 a c) >>= fun r=>(Op.Complex.arith .add .f64 b d) >>= fun i=>pure (Value.complex .f64 r i))=_
 rw [det_bind,det_carith (det_arith h1)]
 simp only
 rw [det_bind,det_carith (det_arith h2)]
 rfl
theorem evBin_none {P:Program} {st:St} {op:BinOp} {t:TypeId} {x y:Operand} {d:Option Tmp} (h:eqOp op=none):evBin P st op t x y d=evBin0 P st op t x y d:=by
 have:evNil P st op t x y d=none:=by simp only [evNil,h]
 have hc:eqCand st op x y=false:=by simp only [eqCand,h]
 unfold evBin
 rw [hc]
 show evBin1 P st op t x y d=_
 unfold evBin1
 rw [this]
 split <;> rfl
theorem binK_ok {R:Type} {P:Program} {st:St} {op:BinOp} {t:TypeId} {x y:Operand} {d:Option Tmp} {k:St→Option R} {r:R} (h:binK P st op t x y d k=some r):∃s,evBin P st op t x y d=some s∧k s=some r:=by
 unfold binK at h
 split at h
 ·rename_i kx a ky b hx hy
  split at h
  ·obtain ⟨hb,h⟩:=grd_some h
   obtain ⟨s,h1,h2⟩:=setDK_some h
   exact ⟨s,by rw [evBin_none rfl];simp only [evBin0,hx,hy,intBin,if_neg (show ¬b<0 by simpa using hb)];exact h1,h2⟩
  ·obtain ⟨hb,h⟩:=grd_some h
   obtain ⟨s,h1,h2⟩:=setDK_some h
   exact ⟨s,by rw [evBin_none rfl];simp only [evBin0,hx,hy,intBin,if_neg (show ¬b<0 by simpa using hb)];exact h1,h2⟩
  ·split at h
   ·cases h
   ·rename_i hk
    obtain ⟨hb,h⟩:=grd_some h
    obtain ⟨s,h1,h2⟩:=setDK_some h
    exact ⟨s,by rw [evBin_none rfl];simp only [evBin0,hx,hy,intBin,if_neg hk,if_neg (show ¬b=0 by simpa using hb)];exact h1,h2⟩
  ·split at h
   ·cases h
   ·rename_i hk
    obtain ⟨hb,h⟩:=grd_some h
    obtain ⟨s,h1,h2⟩:=setDK_some h
    exact ⟨s,by rw [evBin_none rfl];simp only [evBin0,hx,hy,intBin,if_neg hk,if_neg (show ¬b=0 by simpa using hb)];exact h1,h2⟩
  ·exact orK_some h
 ·rename_i a b c e hx hy
  split at h
  ·obtain ⟨rr,hr,h⟩:=Option.bind_eq_some_iff.1 h
   obtain ⟨ii,hi,h⟩:=Option.bind_eq_some_iff.1 h
   obtain ⟨s,h1,h2⟩:=setDK_some h
   have e1:(PV.lit (.complex .f64 a b)).val=some (.complex .f64 a b):=rfl
   have e2:(PV.lit (.complex .f64 c e)).val=some (.complex .f64 c e):=rfl
   exact ⟨s,by rw [evBin_none rfl];simp only [evBin0,hx,hy,e1,e2,det_cadd hr hi,constPV];exact h1,h2⟩
  ·exact orK_some h
 ·rename_i fl xs fl' ys hx hy
  split at h
  ·rename_i b e hn ho hu
   obtain ⟨hb,h⟩:=grd_some h
   obtain ⟨s,h1,h2⟩:=setDK_some h
   refine ⟨s,?_,h2⟩
   have:evNil P st op t x y d=some s:=by simp only [evNil,ho,hx,hy,nilNe,hu,hb];exact h1
   have hc:eqCand st op x y=false:=by simp only [eqCand,ho,hx,hy]
   unfold evBin
   rw [hc]
   show evBin1 P st op t x y d=_
   unfold evBin1
   rw [hn,this]
  ·cases h
 ·rename_i fl xs fl' ys hx hy
  obtain ⟨q1,h⟩:=grd_some h
  obtain ⟨q2,h⟩:=grd_some h
  obtain ⟨sx,lx⟩:=xs
  obtain ⟨sy,ly⟩:=ys
  have e1:ly=[]:=List.length_eq_zero_iff.1 (Nat.eq_of_beq_eq_true q1)
  have e2:lx=[]:=List.length_eq_zero_iff.1 (Nat.eq_of_beq_eq_true q2)
  subst e1 e2
  split at h
  ·rename_i rr hr
   obtain ⟨s,h1,h2⟩:=setDK_some h
   refine ⟨s,?_,h2⟩
   have hc:eqCand st op x y=false:=by
    unfold eqCand
    split
    ·rfl
    ·simp only [hx,hy]
   have hn:evNil P st op t x y d=none:=by
    unfold evNil
    rw [hx,hy]
    split
    ·rename_i b u v _ hu hv
     injection hu with hu
     injection hv with hv
     subst hu hv
     have:nilNe P t (.sl fl true ⟨sx,[]⟩) (.sl fl' true ⟨sy,[]⟩)=false:=by
      unfold nilNe
      split <;> rfl
     rw [this]
    ·rfl
   have h0:evBin0 P st op t x y d=some s:=by
    unfold evBin0
    rw [hx,hy]
    simp only [PV.val,PV.lit?,hr]
    exact h1
   unfold evBin
   rw [hc]
   show evBin1 P st op t x y d=_
   unfold evBin1
   split
   ·rw [hn];exact h0
   ·exact h0
  ·cases h
 ·exact orK_some h
theorem strI_ok {s:ByteArray} {i c:Int} (h:strI s i=some c):0≤i∧∃b,s[i.toNat]? = some b∧c=b.toNat:=by
 unfold strI at h
 split at h
 ·rename_i h0
  obtain ⟨b,h1,h2⟩:=Option.map_eq_some_iff.1 h
  exact ⟨h0,b,h1,h2.symm⟩
 ·cases h
theorem nthI_some {α:Type} {l:List α} {i:Int} {y:α} (h:nthI l i=some y):0≤i∧l[i.toNat]? = some y:=by
 unfold nthI at h
 split at h
 ·exact ⟨‹_›,h⟩
 ·cases h
theorem listOf_length {s:Sh}:∀{cs:List PV} {l:List s.den},listOf s cs=some l→l.length=cs.length
 | [],l,h=>by injection h with h;subst h;rfl
 | x :: r,l,h=>by
  simp only [listOf] at h
  split at h
  ·split at h
   ·rename_i l' hl
    injection h with h;subst h
    simp [listOf_length hl]
   ·cases h
  ·cases h
theorem indexK_ok {R:Type} {C:Ctx} {st:St} {t:TypeId} {x i:Operand} {d:Option Tmp} {k:St→Option R} {r:R} (h:indexK C st t x i d k=some r):∃s,evIndex C.P st t x i d=some s∧k s=some r:=by
 unfold indexK at h
 split at h
 ·rename_i s hx
  split at h
  ·rename_i ix hi hu
   obtain ⟨c,hc,h⟩:=Option.bind_eq_some_iff.1 h
   obtain ⟨s',h1,h2⟩:=setDK_some h
   obtain ⟨h0,b,hb,rfl⟩:=strI_ok hc
   exact ⟨s',by simp only [evIndex,hu,hx,hi,if_pos h0,hb];exact h1,h2⟩
  ·cases h
 ·rename_i cs hx
  split at h
  ·rename_i ix len e hi hu
   split at h
   ·rename_i l hl hn ha
    split at h
    ·rename_i hsc
     simp only [Bool.and_eq_true] at hsc
     obtain ⟨y,hy,h⟩:=Option.bind_eq_some_iff.1 h
     split at h
     ·rename_i z hz
      obtain ⟨s',h1,h2⟩:=setDK_some h
      obtain ⟨h0,hy⟩:=nthI_some hy
      obtain ⟨x0,e1,e2⟩:=listOf_get hl hy
      have e3:=of_scalar hsc.1 e2
      rw [hz] at e3
      injection e3 with e3 _
      subst e3
      have hlt:=(List.getElem?_eq_some_iff.1 hy).1
      rw [listOf_length hl,Nat.eq_of_beq_eq_true hsc.2] at hlt
      refine ⟨s',?_,h2⟩
      simp only [evIndex,hu,hx,hi,hn,if_pos (show 0≤ix∧ix<(len:Int) by omega),partOf,ha,Nat.mul_one,e1]
      exact h1
     ·cases h
    ·cases h
   ·cases h
  ·cases h
 ·cases h
theorem pickK_ok {R:Type} {st:St} {c a b:Operand} {d:Option Tmp} {k:St→Option R} {r:R} (h:pickK st c a b d k=some r):∃st0 s,st.Eqv st0∧evPick st0 c a b d=some s∧k s=some r:=by
 unfold pickK at h
 split at h
 ·rename_i w hw
  have key:∀{st0:St} {o:Operand},st.Eqv st0→st0.peek o=st.peek o:=fun {st0 o} e=>by
   obtain ⟨ts,n,σ⟩:=st
   obtain ⟨ts0,n0,σ0⟩:=st0
   obtain ⟨h1,h2,h3⟩:=e
   simp only at h1 h2 h3
   subst h1;subst h2
   have hg:∀t,St.get { ts:=ts0,n:=n0,σ:=σ0 } t=St.get { ts,n:=n0,σ:=σ0 } t:=fun t=>by simp only [St.get,h3]
   cases o with
   | tmp t=>
    simp only [St.peek,hg]
    split
    ·rename_i q hq
     cases q with
     | tmp u=>exact hg u
     | cell id off=>rfl
    ·rfl
   | _=>rfl
  cases w with
  | true=>
   have h:(match st.peek a with
    | some (.lit v)=>setDK (litO st c true) d (.lit v) k
    | _=>none)=some r:=h
   have e:=litO_eqv hw
   split at h
   ·rename_i v hv
    obtain ⟨s,h1,h2⟩:=setDK_some h
    refine ⟨_,s,e,?_,h2⟩
    have hb:(litO st c true).bool c=some true:=by simp only [St.bool,key e];exact hw
    simp only [evPick,hb,key e,hv];exact h1
   ·cases h
  | false=>
   have h:(match st.peek b with
    | some (.lit v)=>setDK (litO st c false) d (.lit v) k
    | _=>none)=some r:=h
   have e:=litO_eqv hw
   split at h
   ·rename_i v hv
    obtain ⟨s,h1,h2⟩:=setDK_some h
    refine ⟨_,s,e,?_,h2⟩
    have hb:(litO st c false).bool c=some false:=by simp only [St.bool,key e];exact hw
    simp only [evPick,hb,key e,hv];exact h1
   ·cases h
 ·cases h
theorem det_f2i {P:Program} {s d:TypeId} {k:IntKind} {x:Nat} {n:Int} (h1:P.underlying s=some (.float .f64)) (h2:P.underlying d=some (.int k)) (h:f2i k x=some n):det P (convert s d (.float .f64 x))=some (.int k n):=by
 simp only [convert,det_bind,det_und h1,det_und h2]
 unfold f2i at h
 simp only [Conv.floatToInt]
 split at h
 ·rename_i m hm
  rw [hm]
  split at h
  ·rename_i hb
   injection h with h;subst h
   simp only [if_pos hb]
   rfl
  ·cases h
 ·cases h
theorem convertK_ok {R:Type} {P:Program} {st:St} {s t:TypeId} {x:Operand} {d:Option Tmp} {k:St→Option R} {r:R} (h:convertK P st s t x d k=some r):∃z,evConvert P st s t x d=some z∧k z=some r:=by
 unfold convertK at h
 split at h
 ·rename_i b hx
  split at h
  ·rename_i q hs ht
   obtain ⟨n,hn,h⟩:=Option.bind_eq_some_iff.1 h
   obtain ⟨z,h1,h2⟩:=setDK_some h
   refine ⟨z,?_,h2⟩
   have hv:(PV.lit (.float .f64 b)).val=some (.float .f64 b):=rfl
   simp only [evConvert,hx,hv,det_f2i hs ht hn,constPV]
   exact h1
  ·exact orK_some h
 ·exact orK_some h
mutual
theorem plug_ren (f:Nat→Nat):∀(t:PT) (ds:List Dyn),plug (t.ren f) ds=(plug t ds).map fun p=>(p.1.ren f,p.2)
 | .lf s,ds=>by
  simp only [PT.ren,plug,plugS]
  split
  ·split
   ·rename_i x hx
    split
    ·rename_i y hy
     have:=Sh.cells_ren f s x
     rw [hy] at this
     simp only [rens,List.cons.injEq,and_true] at this
     simp [this]
    ·rfl
   ·rfl
  ·rfl
 | .sl fl n s,ds=>by
  simp only [PT.ren,plug]
  split
  ·split <;> rfl
  ·rfl
 | .ptr id off,ds=>rfl
 | .nilp,ds=>rfl
 | .nili,ds=>rfl
 | .dead,ds=>rfl
 | .undef,ds=>rfl
 | .alias p,ds=>rfl
 | .oref id,ds=>by
  simp only [PT.ren,plug]
  split
  ·split <;> rfl
  ·rfl
 | .fam a,ds=>rfl
 | .mapr id,ds=>rfl
 | .mp k v,ds=>rfl
 | .agg l,ds=>by
  simp only [PT.ren,plug,plugs_ren f l ds]
  cases plugs l ds <;> rfl
 | .tup l,ds=>by
  simp only [PT.ren,plug,plugs_ren f l ds]
  cases plugs l ds <;> rfl
 | .elemv l o,ds=>by
  simp only [PT.ren,plug,plugs_ren f l ds]
  cases plugs l ds <;> rfl
 | .ifc t x,ds=>by
  simp only [PT.ren,plug,plug_ren f x ds]
  cases plug x ds <;> rfl
 | .fn k a b,ds=>by
  simp only [PT.ren,plug,plugs_ren f a ds]
  cases plugs a ds with
  | none=>rfl
  | some p=>
   obtain ⟨x,r⟩:=p
   simp only [Option.map_some,plugs_ren f b r]
   cases plugs b r <;> rfl
theorem plugs_ren (f:Nat→Nat):∀(ts:List PT) (ds:List Dyn),plugs (PT.rens f ts) ds=(plugs ts ds).map fun p=>(rens f p.1,p.2)
 | [],ds=>rfl
 | t :: ts,ds=>by
  simp only [PT.rens,plugs,plug_ren f t ds]
  cases plug t ds with
  | none=>rfl
  | some p=>
   obtain ⟨x,r⟩:=p
   simp only [Option.map_some,plugs_ren f ts r]
   cases plugs ts r <;> rfl
end
theorem famPT_rens (f:Nat→Nat) (l:List PT):famPT (PT.rens f l)=famPT l:=by
 cases l with
 | nil=>rfl
 | cons x r=>cases x <;> cases r <;> rfl
theorem mapPT_rens (f:Nat→Nat) (l:List PT):mapPT (PT.rens f l)=mapPT l:=by
 cases l with
 | nil=>rfl
 | cons x r=>cases x <;> cases r <;> rfl
theorem plugB_ren (f:Nat→Nat):∀(l:List (TypeId×List PT)) (ds:List Dyn),plugB (renPB f l) ds=(plugB l ds).map fun p=>(p.1.map (renB f),p.2)
 | [],ds=>rfl
 | (t,l) :: r,ds=>by
  simp only [renPB,plugB,famPT_rens,mapPT_rens]
  cases famPT l with
  | some a=>
   cases ds with
   | nil=>rfl
   | cons d ds'=>
    simp only []
    cases castD d (shA a).sl with
    | none=>rfl
    | some x=>
     simp only [plugB_ren f r ds']
     cases plugB r ds' <;> rfl
  | none=>
   simp only []
   cases mapPT l with
   | some a=>
    obtain ⟨k,v⟩:=a
    cases ds with
    | nil=>rfl
    | cons d ds'=>
     simp only []
     cases castD d (k.cons v).sl with
     | none=>rfl
     | some x=>
      simp only [plugB_ren f r ds']
      cases plugB r ds' <;> rfl
   | none=>
    simp only [plugs_ren f l ds]
    cases plugs l ds with
    | none=>rfl
    | some p=>
     obtain ⟨x,q⟩:=p
     simp only [Option.map_some,plugB_ren f r q]
     cases plugB r q <;> rfl
theorem noAl_ren {f:Nat→Nat} {x:PV}:(x.ren f).noAl=x.noAl:=by cases x <;> rfl
theorem pickBx_map {σ:List Bx}:∀{m:List Nat} {l:List Bx},pickBx σ m=some l→l.map some=m.map (fun id=>σ[id]?)
 | [],l,h=>by injection h with h;subst h;rfl
 | id :: r,l,h=>by
  simp only [pickBx] at h
  split at h
  ·rename_i b hb
   split at h
   ·rename_i l' hl
    injection h with h;subst h
    simp only [List.map_cons,hb,pickBx_map hl]
   ·cases h
  ·cases h
theorem tryK_ok {R:Type} {C:TC} (hC:C.Ok) {bxs:Bool} {f:FuncId} {st1:St} {N:Nat} {d:Option Tmp} {xs:List PV} {k:St→Option R} {r:R} (hx:xs.all PV.noAl=true):∀{l:List KF},(∀kf∈l,kf∈C.kn f)→tryK C bxs st1 N d xs k l=some r→
  ∃y σ' s,y.noAl=true∧y.isDead=false∧(∃fn,C.C.P.funcs[f]? = some fn∧fn.body.isSome=true)∧AbsK C.C.P (bxs=false) f xs st1.σ y σ'∧afterCall st1 N d y σ'=some s∧k s=some r∧(bxs=false→σ'=st1.σ):=by
 intro l
 induction l with
 | nil=>intro _ h;cases h
 | cons kf l ih=>
  intro hl h
  have ih:=ih fun kf hkf=>hl kf (List.mem_cons_of_mem _ hkf)
  obtain ⟨hfn,hK⟩:=hC.2.1 f kf (hl kf List.mem_cons_self)
  simp only [tryK] at h
  split at h
  ·rename_i vs ds hs _
   split at h
   ·rename_i hb
    simp only [Bool.and_eq_true] at hb
    split at h
    ·rename_i a ha
     obtain ⟨res,hres,h⟩:=Option.bind_eq_some_iff.1 h
     obtain ⟨o,ds',h1,h2⟩:=elimA_sel h
     obtain ⟨args,dd,σ0,o',ds2,r',ds3,σ',k1,k2,k3,k4,k5,k6⟩:=hK a res hres
     rw [h1] at k3
     injection k3 with k3;injection k3 with e1 e2;subst e1;subst e2
     rw [k4] at h2
     simp only at h2
     split at h2
     ·rename_i hc
      obtain ⟨s,h3,h4⟩:=orK_some h2
      have hvs:=PT.beqs_eq _ _ hb.1
      subst hvs
      rw [unpack_pack ha] at k1
      have hp:=shapes_plug _ hs []
      rw [List.append_nil,k1] at hp
      injection hp with hp;injection hp with e1 e2
      subst e1;subst e2
      have hbx:kf.inp.bx=[]:=by simpa using hb.2.1
      rw [hbx] at k2
      injection k2 with k2;injection k2 with e1 _
      subst e1
      have hob:o.bx=[]:=by simpa using hc.2.2
      rw [hob] at k5
      injection k5 with k5;injection k5 with e1 _
      subst e1
      exact ⟨r',st1.σ,s,hc.1,hc.2.1,hfn,(k6.frameK hb.2.2 hc.1 _ st1.σ).nilAs hx,h3,h4,fun _=>rfl⟩
     ·cases h2
    ·cases h
   ·exact ih h
  ·rename_i vs ds hs _
   rw [nrm_eq] at h
   generalize gather st1.σ kf.inp.bx (pairss kf.inp.vs (nilAs kf.inp.vs xs)) 0=m at h
   split at h
   ·rename_i σp hσp
    split at h
    ·rename_i bs es hbs
     split at h
     ·rename_i hb
      simp only [Bool.and_eq_true] at hb
      obtain ⟨b1,b2,b3,b4,b5⟩:=hb
      split at h
      ·rename_i a args0 ra σ0 rb ha hargs0 hσ0
       split at h
       ·rename_i hnr
        simp only [Bool.and_eq_true] at hnr
        obtain ⟨res,hres,h⟩:=Option.bind_eq_some_iff.1 h
        obtain ⟨o,ds',h1,h2⟩:=elimA_sel h
        obtain ⟨args,dd,σ1,o',ds2,r',ds3,σ',k1,k2,k3,k4,k5,k6⟩:=hK a res hres
        rw [h1] at k3
        injection k3 with k3;injection k3 with e1 e2;subst e1;subst e2
        have hvs:=PT.beqs_eq _ _ b2
        have hbs':=beqB_eq _ _ b3
        subst hvs;subst hbs'
        rw [unpack_pack ha] at k1
        have p1:=shapes_plug _ hs es
        rw [plugs_ren,k1] at p1
        injection p1 with p1;injection p1 with q1 q2
        rw [k1] at hargs0
        injection hargs0 with hargs0;injection hargs0 with q3 q4
        subst q3
        have q2:dd=es:=q2
        subst q2
        have p2:=shapeB_plug hbs []
        rw [List.append_nil,plugB_ren,k2] at p2
        injection p2 with p2;injection p2 with q5 q6
        rw [k2] at hσ0
        injection hσ0 with hσ0;injection hσ0 with q7 _
        subst q7
        have hlen0:σ1.length=m.length:=by
         have e1:σp.length=m.length:=by have:=congrArg List.length (pickBx_map hσp);simpa using this
         have e2:=congrArg List.length q5
         simp only [List.length_map] at e2
         omega
        have hemb:=emb_of (σ:=st1.σ) b4 hlen0 (by
         have e1:=pickBx_map hσp
         rw [←e1,←q5]
         simp)
        rw [plug_ren,k4] at h2
        simp only [Option.map_some] at h2
        rw [plugB_ren,k5] at h2
        simp only [Option.map_some] at h2
        split at h2
        ·rename_i hc
         obtain ⟨c1,c2,c3⟩:=hc
         rw [nrmB_eq] at h2
         obtain ⟨s,h3,h4⟩:=orK_some h2
         have hno:r'.noAl=true:=by rw [←noAl_ren (f:=newF m st1.σ.length)];exact c1
         have c3:m.length≤σ'.length:=by simpa using c3
         have hmlt:∀j,j<m.length→fmOf m j<st1.σ.length:=fun j hj=>by
          have:=List.all_eq_true.1 b5 m[j] (List.getElem_mem hj)
          have e:fmOf m j=m[j]:=by simp [fmOf,List.getD_eq_getElem?_getD,List.getElem?_eq_getElem hj]
          rw [e];simpa [Nat.blt_eq] using this
         let inv':Nat→Option Nat:=fun id=>if id<st1.σ.length then inOf m id else if id<st1.σ.length+(σ'.length - m.length) then some (m.length+(id - st1.σ.length)) else none
         have hemb':Emb (newF m st1.σ.length) inv' σ'.length σ' (setBxs st1.σ m (σ'.map (renB (newF m st1.σ.length)))++(σ'.map (renB (newF m st1.σ.length))).drop m.length):=by
          have hsl:∀τ,(setBxs st1.σ m τ).length=st1.σ.length:=fun τ=>by simp [setBxs]
          refine ⟨fun j hj=>?_,fun id j hi=>?_,rfl,fun j bx hbx=>?_⟩
          ·by_cases hjm:j<m.length
           ·have e:newF m st1.σ.length j=fmOf m j:=by simp [newF,hjm]
            rw [e]
            show (if fmOf m j<st1.σ.length then _ else _)=_
            rw [if_pos (hmlt j hjm)]
            exact hemb.fi j hjm
           ·have e:newF m st1.σ.length j=st1.σ.length+(j - m.length):=by simp [newF,hjm]
            rw [e]
            show (if st1.σ.length+(j - m.length)<st1.σ.length then _ else if _ then _ else _)=_
            rw [if_neg (by omega),if_pos (by omega)]
            congr 1;omega
          ·have hi:(if id<st1.σ.length then inOf m id else if id<st1.σ.length+(σ'.length - m.length) then some (m.length+(id - st1.σ.length)) else none)=some j:=hi
           split at hi
           ·obtain ⟨e1,e2⟩:=hemb.iv id j hi
            exact ⟨by omega,by simp only [newF,if_pos e1];exact e2⟩
           ·split at hi
            ·injection hi with hi
             subst hi
             refine ⟨by omega,?_⟩
             simp only [newF]
             rw [if_neg (by omega)];omega
            ·cases hi
          ·have hjl:j<σ'.length:=(List.getElem?_eq_some_iff.1 hbx).1
           by_cases hjm:j<m.length
           ·have e:newF m st1.σ.length j=fmOf m j:=by simp [newF,hjm]
            rw [e,List.getElem?_append_left (by rw [hsl];exact hmlt j hjm)]
            simp only [setBxs,List.getElem?_map,List.getElem?_range (hmlt j hjm),Option.map_some,hemb.fi j hjm,List.getD_eq_getElem?_getD,hbx,Option.getD_some]
           ·have e:newF m st1.σ.length j=st1.σ.length+(j - m.length):=by simp [newF,hjm]
            rw [e,List.getElem?_append_right (by rw [hsl];omega),hsl,List.getElem?_drop,show m.length+(st1.σ.length+(j - m.length) - st1.σ.length)=j by omega,List.getElem?_map,hbx]
            rfl
         have habs:=k6.embed hemb hemb' (fun j hj=>by simp [newF,hj]) (fun j hj=>by simp only [newF];rw [if_neg (by omega)]) (fun id hid=>if_pos hid) (by simp [setBxs]) c3 (fun id hid hi=>by
          rw [List.getElem?_append_left (by simp [setBxs];exact hid)]
          simp only [setBxs,List.getElem?_map,List.getElem?_range hid,Option.map_some,hi,List.getD_eq_getElem?_getD,List.getElem?_eq_getElem hid,Option.getD_some]) hnr.1 (fun bx hb=>List.all_eq_true.1 hnr.2 bx hb) hno
         rw [q1] at habs
         have hk:AbsK C.C.P (bxs=false) f (nilAs kf.inp.vs xs) st1.σ (r'.ren (newF m st1.σ.length)) (setBxs st1.σ m (σ'.map (renB (newF m st1.σ.length)))++(σ'.map (renB (newF m st1.σ.length))).drop m.length):=fun g us w hi=>by
          refine (habs g us w hi).mono ?_
          rintro e w' ⟨rv,gc,l1,l2,l3⟩
          exact ⟨rv,gc,l1,l2,l3,fun hf=>by rw [b1] at hf;cases hf⟩
         exact ⟨_,_,s,c1,c2,hfn,hk.nilAs hx,h3,h4,fun e=>by rw [b1] at e;cases e⟩
        ·cases h2
       ·cases h
      ·cases h
     ·exact ih h
    ·exact ih h
   ·exact ih h
  ·exact ih h
theorem noRootL_ok {l:List PV} (h:noRootL l=true):∀x∈l,∀id off,x.root≠some (.cell id off):=fun x hx id off hr=>by
 have:=List.all_eq_true.1 h x hx
 simp only [hr] at this
 cases this
theorem callWK_ok {R:Type} {C:TC} (hC:C.Ok) {bxs:Bool} {st:St} {id:FuncId} {first captured:List PV} {args:List Operand} {d:Option Tmp} {k:St→Option R} {r:R} (h:callWK C bxs st id first captured args d k=some r) :
  ∃call mv s,SoundK C.C.P (bxs=false) call∧evCallW { C.C with call,mv } st id first captured args d=some s∧k s=some r∧(bxs=false→s.σ=st.σ):=by
 unfold callWK at h
 split at h
 ·rename_i hall'
  simp only [Bool.and_eq_true] at hall'
  obtain ⟨hall,⟨hr1,hr2⟩,hkp⟩:=hall'
  split at h
  ·rename_i st1 hpass
   rw [nrmVs_eq] at h
   split at h
   ·rename_i hal
    obtain ⟨y,σ',s,h1,h2,h3,h4,h5,h6,h7⟩:=tryK_ok hC (f:=id) hal (fun kf hkf=>hkf) h
    classical
    let call:FuncId→List PV→List Bx→Option (PV×List Bx):=fun f a s=>if f=id∧a=getArgs st1.ts st.n (first.length+args.length+captured.length)∧s=st1.σ then some (y,σ') else none
    have hcall:call id (getArgs st1.ts st.n (first.length+args.length+captured.length)) st1.σ=some (y,σ'):=if_pos ⟨rfl,rfl,rfl⟩
    have hsome:∀{f a s0 r0 σ1},call f a s0=some (r0,σ1)→f=id∧a=getArgs st1.ts st.n (first.length+args.length+captured.length)∧s0=st1.σ∧r0=y∧σ1=σ':=fun {f a s0 r0 σ1} he=>by
     have he:(if f=id∧a=getArgs st1.ts st.n (first.length+args.length+captured.length)∧s0=st1.σ then some (y,σ') else none)=some (r0,σ1):=he
     by_cases hc:f=id∧a=getArgs st1.ts st.n (first.length+args.length+captured.length)∧s0=st1.σ
     ·rw [if_pos hc] at he
      injection he with he;injection he with e1 e2
      exact ⟨hc.1,hc.2.1,hc.2.2,e1.symm,e2.symm⟩
     ·rw [if_neg hc] at he;cases he
    have hev:evCallW { C.C with call:=call,mv:=fun _=>mvOf (C.kn id) } st id first captured args d=some s:=by
     simp only [evCallW,evCallG,if_pos hall,hpass,nrm_eq,if_pos hal,hcall,if_pos (show y.noAl=true∧y.isDead=false from ⟨h1,h2⟩),h5]
    refine ⟨call,fun _=>mvOf (C.kn id),s,fun f a s0 r0 σ1 he=>?_,hev,h6,fun hb=>?_⟩
    ·obtain ⟨rfl,rfl,rfl,rfl,rfl⟩:=hsome he
     exact ⟨h3,h4⟩
    ·exact evCallW_σ (C:={ C.C with call:=call,mv:=fun _=>mvOf (C.kn id) }) (fun f xs σ r σ2 he=>by
      obtain ⟨_,_,e1,_,e2⟩:=hsome he
      rw [e2,h7 hb,e1]) (noRootL_ok hr1) (noRootL_ok hr2) (by subst hb;simpa using hkp) hev
   ·cases h
  ·cases h
 ·cases h
theorem callK_ok {R:Type} {C:TC} (hC:C.Ok) {bxs:Bool} {st:St} {f:Operand} {args:List Operand} {d:Option Tmp} {k:St→Option R} {r:R} (h:callK C bxs st f args d k=some r) :
  ∃call mv s,SoundK C.C.P (bxs=false) call∧evCall { C.C with call,mv } st f args d=some s∧k s=some r∧(bxs=false→s.σ=st.σ):=by
 unfold callK at h
 split at h
 ·rename_i id first captured hp
  obtain ⟨call,mv,s,h1,h2,h3⟩:=callWK_ok hC h
  exact ⟨call,mv,s,h1,by simp only [evCall,hp];exact h2,h3⟩
 ·cases h
theorem findKO_some:∀{l:List KO} {alts:List PT} {name:String} {ko:KO},findKO l alts name=some ko→ko∈l∧ko.alts=alts∧ko.name=name
 | [],_,_,_,h=>by cases h
 | q :: r,alts,name,ko,h=>by
  unfold findKO at h
  split at h
  ·rename_i hc
   simp only [Bool.and_eq_true,beq_iff_eq] at hc
   injection h with h;subst h
   exact ⟨List.mem_cons_self,PT.beqs_eq _ _ hc.1,hc.2⟩
  ·obtain ⟨h1,h2⟩:=findKO_some h
   exact ⟨List.mem_cons_of_mem _ h1,h2⟩
theorem objK_ok {R:Type} {P:Program} {kp:Prop} {st1:St} {N:Nat} {d:Option Tmp} {id i:Nat} {ys:List PV} {ko:KO} {l:List (shA ko.alts).den} {k:St→Option R} {r:R} (hko:KnownO P ko) (hσ:st1.σ[id]? = some (.fam ko.alts l)) (h:objK st1 N d id i ys ko l k=some r) :
  ∃y σ' s,y.noAl=true∧y.isDead=false∧AbsI P kp ko.name (.oref id i :: ys) st1.σ y σ'∧afterCall st1 N d y σ'=some s∧k s=some r:=by
 unfold objK at h
 split at h
 ·rename_i vs ds hs
  split at h
  ·rename_i hc
   simp only [Bool.and_eq_true] at hc
   obtain ⟨c1,c2⟩:=hc
   have hvs:=PT.beqs_eq _ _ c1
   subst hvs
   split at h
   ·rename_i a ha
    obtain ⟨x,hx,h⟩:=Option.bind_eq_some_iff.1 h
    obtain ⟨res,hres,h⟩:=Option.bind_eq_some_iff.1 h
    obtain ⟨u,x'⟩:=res
    obtain ⟨r0,σ0,xs,y0,σ0',k1,k2,k3,k4,k5,k6,k7,k8⟩:=hko x a u x' hres
    have hpl:=shapes_plug _ hs []
    rw [List.append_nil,←unpack_pack ha,k2] at hpl
    injection hpl with hpl
    injection hpl with e1 _
    subst e1
    split at h
    ·rename_i y hy
     have hy:plug ko.res (unpack ko.res.ls u)=some (y,[]):=hy
     rw [k3] at hy
     injection hy with hy
     injection hy with e2 _
     subst e2
     split at h
     ·rename_i hn
      simp only [Bool.and_eq_true,Bool.not_eq_true'] at hn
      rw [nrmB_eq] at h
      obtain ⟨s,h1,h2⟩:=orK_some h
      obtain ⟨hil,hix⟩:=List.getElem?_eq_some_iff.1 hx
      subst hix
      refine ⟨y0,_,s,hn.1.1,hn.1.2,k8.obj hσ hil k1 k4 k5 ⟨k6,k7⟩ (fun z hz=>?_) ⟨hn.2,hn.1.1⟩,h1,h2⟩
      have:=List.all_eq_true.1 c2 z hz
      simp only [Bool.and_eq_true,Bool.not_eq_true'] at this
      exact ⟨this.1,this.2.1,this.2.2⟩
     ·cases h
    ·cases h
   ·cases h
  ·cases h
 ·cases h
theorem invokeO_ok {R:Type} {C:TC} (hC:C.Ok) {kp:Prop} {st:St} {id i:Nat} {name:String} {args:List Operand} {d:Option Tmp} {k:St→Option R} {r:R} (h:invokeO C st id i name args d k=some r) :
  ∃inv s,SoundI C.C.P kp inv∧evCallG st (fun _=>false) (inv name) [.oref id i] [] args d=some s∧k s=some r:=by
 unfold invokeO at h
 split at h
 ·rename_i hall
  split at h
  ·rename_i st1 hpass
   rw [nrmVs_eq] at h
   split at h
   ·rename_i hal
    split at h
    ·rename_i x0 ys hxs
     split at h
     ·rename_i id' i'
      split at h
      ·rename_i alts l hσ
       split at h
       ·rename_i ko hfk
        obtain ⟨hm,rfl,rfl⟩:=findKO_some hfk
        split at h
        ·rename_i l' hl
         have hl:=castD_some hl
         injection hl with _ hl
         subst hl
         obtain ⟨y,σ',s,h1,h2,h3,h4,h5⟩:=objK_ok (kp:=kp) (hC.2.2 ko hm) hσ h
         classical
         let inv:String→List PV→List Bx→Option (PV×List Bx):=fun nm a s=>if nm=ko.name∧a=.oref id' i' :: ys∧s=st1.σ then some (y,σ') else none
         have hinv:inv ko.name (.oref id' i' :: ys) st1.σ=some (y,σ'):=if_pos ⟨rfl,rfl,rfl⟩
         refine ⟨inv,s,fun nm a s0 r0 σ1 he=>?_,?_,h5⟩
         ·by_cases hc:nm=ko.name∧a=.oref id' i' :: ys∧s0=st1.σ
          ·have he2:some (y,σ')=some (r0,σ1):=(if_pos hc).symm.trans he
           injection he2 with he2;injection he2 with e1 e2
           obtain ⟨rfl,rfl,rfl⟩:=hc
           subst e1;subst e2
           exact h3
          ·have he2:none=some (r0,σ1):=(if_neg hc).symm.trans he
           cases he2
         ·have hxs':getArgs st1.ts st.n ([PV.oref id i].length+args.length+([]:List PV).length)=.oref id' i' :: ys:=hxs
          have hp':({ ts:=cutN st.n st.ts,n:=st.n+([PV.oref id i].length+args.length+([]:List PV).length),σ:=st.σ }:St).passL (fun _=>false) st.n 0 ([PV.oref id i].map .inl++args.map .inr++([]:List PV).map .inl)=some st1:=by
           have:=hpass
           simpa using this
          have hal':(getArgs st1.ts st.n ([PV.oref id i].length+args.length+([]:List PV).length)).all PV.noAl=true:=hal
          rw [hxs'] at hal'
          simp only [evCallG,if_pos hall,hp',nrm_eq,hxs',if_pos hal',hinv,if_pos (show y.noAl=true∧y.isDead=false from ⟨h1,h2⟩),h4]
        ·cases h
       ·cases h
      ·cases h
     ·cases h
    ·cases h
   ·cases h
  ·cases h
 ·cases h
theorem soundI_none {P:Program} {kp:Prop}:SoundI P kp fun _ _ _=>none:=fun _ _ _ _ _ h=>by cases h
theorem invokeK_ok {R:Type} {C:TC} (hC:C.Ok) {bxs:Bool} {st:St} {f:Operand} {name:String} {args:List Operand} {d:Option Tmp} {k:St→Option R} {r:R} (h:invokeK C bxs st f name args d k=some r) :
  ∃call mv inv s,SoundK C.C.P (bxs=false) call∧SoundI C.C.P (bxs=false) inv∧evInvoke { C.C with call,mv,inv } st f name args d=some s∧k s=some r∧(bxs=false→s.σ=st.σ):=by
 unfold invokeK at h
 split at h
 ·rename_i T v hp
  split at h
  ·rename_i id x hr
   split at h
   ·rename_i hx
    obtain ⟨call,mv,s,h1,h2,h3⟩:=callWK_ok hC h
    exact ⟨call,mv,fun _ _ _=>none,s,h1,soundI_none,by simp only [evInvoke,hp,hr,if_pos hx];exact h2,h3⟩
   ·cases h
  ·cases h
 ·rename_i id i hp
  cases bxs with
  | true=>
   obtain ⟨inv,s,h1,h2,h3⟩:=invokeO_ok hC (kp:=(true=false)) (by simpa using h)
   exact ⟨fun _ _ _=>none,fun _ _=>false,inv,s,(fun f args σ r σ' hc=>by cases hc),h1,by simp only [evInvoke,hp];exact h2,h3,fun hb=>by cases hb⟩
  | false=>simp at h
 ·cases h
theorem evOp_call {C:Ctx} {call:FuncId→List PV→List Bx→Option (PV×List Bx)} {mv:FuncId→Nat→Bool} {inv:String→List PV→List Bx→Option (PV×List Bx)} (o:Oper) (st:St):evOp { C with call,mv,inv } o st=evOp C o st:=by
 have h1:∀st t n ps d,evBuildSlice { C with call,mv,inv } st t n ps d=evBuildSlice C st t n ps d:=fun st t n ps d=>by
  cases C;kernel_rfl
 have h2:∀st tys s x d,evAppend { C with call,mv,inv } st tys s x d=evAppend C st tys s x d:=fun st tys s x d=>by
  cases C;kernel_rfl
 have h3:∀st b tys ty args d,evBuiltin { C with call,mv,inv } st b tys ty args d=evBuiltin C st b tys ty args d:=fun st b tys ty args d=>by
  unfold evBuiltin
  simp only [h2]
 unfold evOp
 simp only [h1,h3]
 split <;> rfl
theorem opK_ok {R:Type} {C:TC} (hC:C.Ok) {bxs:Bool} {o:Oper} {st:St} {k:St→Option R} {r:R} (h:opK C bxs o st k=some r) :
  ∃st0 call mv inv s,st.Eqv st0∧SoundK C.C.P (bxs=false) call∧SoundI C.C.P (bxs=false) inv∧evOp' { C.C with call,mv,inv } o st0=some s∧k s=some r∧(bxs=false→sigKeep C.C.P o st=true→s.σ=st.σ):=by
 have mk:∀{s:St},(∀c,o.op=.call c→∃b,c.callee=.builtin b)→evOp C.C o st=some s→k s=some r→
   ∃st0 call mv inv s,st.Eqv st0∧SoundK C.C.P (bxs=false) call∧SoundI C.C.P (bxs=false) inv∧evOp' { C.C with call,mv,inv } o st0=some s∧k s=some r∧(bxs=false→sigKeep C.C.P o st=true→s.σ=st.σ):=fun {s} hn he0 hk=>
  ⟨st,fun _ _ _=>none,C.C.mv,fun _ _ _=>none,s,.refl _,(fun f args σ r σ' hc=>by cases hc),soundI_none,by
   have he:=(evOp_call (call:=fun _ _ _=>none) (mv:=C.C.mv) (inv:=fun _ _ _=>none) o st).trans he0
   unfold evOp'
   split
   ·rename_i c ho
    obtain ⟨b,hb⟩:=hn c ho
    rw [hb]
    exact he
   ·exact he,hk,fun _ hs=>evOp_σ hs he0⟩
 unfold opK at h
 split at h
 ·rename_i t x i ho
  obtain ⟨s,h1,h2⟩:=indexAddrK_ok h
  exact mk (fun c e=>by rw [ho] at e;cases e) (by unfold evOp;rw [ho];exact h1) h2
 ·rename_i t a ho
  obtain ⟨s,h1,h2⟩:=loadK_ok h
  exact mk (fun c e=>by rw [ho] at e;cases e) (by unfold evOp;rw [ho];exact h1) h2
 ·rename_i t a x ho
  obtain ⟨s1,s,h1,h2,h3⟩:=storeK_ok h
  exact mk (fun c e=>by rw [ho] at e;cases e) (by unfold evOp;rw [ho];simp only [h1];exact h2) h3
 ·rename_i t x lo hi mx ho
  obtain ⟨s,h1,h2⟩:=sliceK_ok h
  exact mk (fun c e=>by rw [ho] at e;cases e) (by unfold evOp;rw [ho];exact h1) h2
 ·rename_i op t x y ty ho
  obtain ⟨s,h1,h2⟩:=binK_ok h
  exact mk (fun c e=>by rw [ho] at e;cases e) (by unfold evOp;rw [ho];exact h1) h2
 ·rename_i t x i ho
  obtain ⟨s,h1,h2⟩:=indexK_ok h
  exact mk (fun c e=>by rw [ho] at e;cases e) (by unfold evOp;rw [ho];exact h1) h2
 ·rename_i c a b ho
  obtain ⟨st0,s,e,h1,h2⟩:=pickK_ok h
  refine ⟨st0,fun _ _ _=>none,C.C.mv,fun _ _ _=>none,s,e,(fun f args σ r σ' hc=>by cases hc),soundI_none,?_,h2,fun _ hs=>?_⟩
  rotate_left
  ·rw [←e.σ];exact evOp_σ (C:=C.C) (o:=o) (by unfold sigKeep;rw [ho]) (by unfold evOp;rw [ho];exact h1)
  unfold evOp'
  rw [ho]
  simp only
  unfold evOp;rw [ho];exact h1
 ·rename_i s0 t x ho
  obtain ⟨s,h1,h2⟩:=convertK_ok h
  exact mk (fun c e=>by rw [ho] at e;cases e) (by unfold evOp;rw [ho];exact h1) h2
 ·rename_i c ho
  split at h
  ·rename_i f hf
   obtain ⟨call,mv,s,h1,h2,h3,h4⟩:=callK_ok hC h
   refine ⟨st,call,mv,fun _ _ _=>none,s,.refl _,h1,soundI_none,?_,h3,fun hb _=>h4 hb⟩
   unfold evOp'
   rw [ho]
   simp only [hf]
   exact h2
  ·rename_i f name hf
   obtain ⟨call,mv,inv,s,h1,h5,h2,h3,h4⟩:=invokeK_ok hC h
   refine ⟨st,call,mv,inv,s,.refl _,h1,h5,?_,h3,fun hb _=>h4 hb⟩
   unfold evOp'
   rw [ho]
   simp only [hf]
   exact h2
  ·rename_i hb
   split at h
   ·rename_i s x ha
    obtain ⟨s',h1,h2⟩:=appendK_ok h
    exact mk (fun c' e=>by rw [ho] at e;injection e with e;subst e;exact ⟨_,hb⟩) (by unfold evOp;rw [ho];simp only [hb,evBuiltin,ha];exact h1) h2
   ·cases h
  ·rename_i h1 h1' h2
   obtain ⟨s,h3,h4⟩:=orK_some h
   exact mk (fun c' e=>by
    rw [ho] at e;injection e with e;subst e
    cases hc:c.callee with
    | value f=>exact absurd hc (h1 f)
    | invoke f n=>exact absurd hc (h1' f n)
    | builtin b=>exact ⟨b,rfl⟩) h3 h4
 ·rename_i h1 h2 h3 h4 h5 h6 h7 h8
  obtain ⟨s,h9,h10⟩:=orK_some h
  exact mk (fun c e=>absurd e (h8 c)) h9 h10
def RelS (g:Gh) (vs:Array Value) (w:World) (x:PV) (v:Value):Prop:=
 match x with
 | .alias q=>∃s,q=.tmp s∧vs[s]? = some v
 | x=>Rel g w x v
def RelSL (g:Gh) (vs:Array Value) (w:World) (cs:List PV) (us:List Value):Prop:=us.length=cs.length∧∀i (hi:i<cs.length) (hv:i<us.length),RelS g vs w cs[i] us[i]
def RelSP (g:Gh) (vs:Array Value) (w:World):List (Nat×List PV)→List (Nat×Value)→Prop
 | [],[]=>True
 | (i,cs) :: ys,(j,v) :: us=>i=j∧RelSL g vs w cs v.cells.toList∧RelSP g vs w ys us
 | _,_=>False
theorem Rel.toS {g:Gh} {vs:Array Value} {w:World} {x:PV} {v:Value} (h:Rel g w x v):RelS g vs w x v:=by
 cases x with
 | alias q=>cases h
 | _=>exact h
theorem RelL.toS {g:Gh} {vs:Array Value} {w:World} {cs:List PV} {us:List Value} (h:RelL g w cs us):RelSL g vs w cs us:=⟨h.1,fun i hi hv=>(h.2 i hi hv).toS⟩
theorem RelS.ext {g g':Gh} {vs:Array Value} {w w':World} {x:PV} {v:Value} (h:RelS g vs w x v) (hE:Ext g g' w w'):RelS g' vs w' x v:=by
 cases x with
 | alias q=>exact h
 | _=>exact Rel.ext hE h
theorem RelSL.set {g:Gh} {vs:Array Value} {w:World} {cs:List PV} {c:Array Value} (h:RelSL g vs w cs c.toList) {i:Nat} {x:PV} {v:Value} (hr:RelS g vs w x v):RelSL g vs w (cs.set i x) (c.setIfInBounds i v).toList:=by
 refine ⟨by simpa using h.1,fun j hj hv=>?_⟩
 simp only [Array.toList_setIfInBounds] at hv ⊢
 by_cases e:i=j
 ·subst e
  simp only [List.getElem_set_self]
  exact hr
 ·simp only [List.getElem_set_ne e]
  exact h.2 j (by simpa using hj) (by simpa using hv)
theorem setRange_relS {g:Gh} {vs:Array Value} {w:World} {xs:List PV}:∀{us:List Value} {cs:List PV} {c:Array Value} {off:Nat},RelSL g vs w cs c.toList→RelSL g vs w xs us→RelSL g vs w (setRange cs off xs) (overw c off us).toList:=by
 induction xs with
 | nil=>
  intro us cs c off h hx
  have:us=[]:=List.eq_nil_of_length_eq_zero hx.1
  subst this
  exact h
 | cons x xs ih=>
  intro us cs c off h hx
  cases us with
  | nil=>have:=hx.1;simp at this
  | cons u us=>
   exact ih (h.set (hx.2 0 (by simp) (by simp))) ⟨by simpa using hx.1,fun j hj hv=>hx.2 (j+1) (by simpa using hj) (by simpa using hv)⟩
theorem fill_relS {g:Gh} {vs:Array Value} {w:World} {place:Nat→Option (Nat×Nat)}:∀{ys:List (Nat×List PV)} {us:List (Nat×Value)} {cs cs':List PV} {c:Array Value},RelSL g vs w cs c.toList→RelSP g vs w ys us→fillP place cs ys=some cs'→
  ∃c',Instr.fill place c us=some c'∧RelSL g vs w cs' c'.toList:=by
 intro ys
 induction ys with
 | nil=>
  intro us cs cs' c h hp he
  cases us with
  | nil=>injection he with he;subst he;exact ⟨c,rfl,h⟩
  | cons u us=>exact hp.elim
 | cons y ys ih=>
  intro us cs cs' c h hp he
  cases us with
  | nil=>obtain ⟨i,xs⟩:=y;exact hp.elim
  | cons u us=>
   obtain ⟨i,xs⟩:=y
   obtain ⟨j,v⟩:=u
   obtain ⟨rfl,h1,h2⟩:=hp
   simp only [fillP] at he
   split at he
   ·rename_i off size hpl
    split at he
    ·rename_i hh
     rw [nrm_eq] at he
     have hsz:v.cells.size=size:=by have:=h1.1;simp at this;omega
     have hcs:c.size=cs.length:=by simpa using h.1
     obtain ⟨c',k1,k2⟩:=ih (setRange_relS (off:=off) h h1) h2 he
     refine ⟨c',?_,k2⟩
     simp only [Instr.fill,hpl]
     rw [if_neg (by simp [hsz];omega)]
     have hf:=foldl_overw v.cells.toList c off 0
     have e:v.cells.zipIdx.foldl (fun cs p=>cs.setIfInBounds (off+p.2) p.1) c=overw c off v.cells.toList:=by
      rw [←Array.foldl_toList]
      simpa using hf
     rw [←k1,←e]
    ·cases he
   ·cases he
theorem partsB_sound {P:Program} {vs:Array Value} {w:World}:∀{ps:List (Nat×Operand)} {st st1:St} {ys:List (Nat×List PV)} {g:Gh},Inv P g st vs w→st.partsB ps=some (ys,st1)→
  ∃g',Inv P g' st1 vs w∧Ext g g' w w∧RelSP g' vs w ys (ps.map fun p=>(p.1,evalV vs p.2))∧st1.n=st.n:=by
 intro ps
 induction ps with
 | nil=>
  intro st st1 ys g h he
  injection he with he
  injection he with h1 h2
  subst h1;subst h2
  exact ⟨g,h,Ext.refl _ _,trivial,rfl⟩
 | cons p ps ih=>
  intro st st1 ys g h he
  obtain ⟨i,x⟩:=p
  simp only [St.partsB] at he
  split at he
  ·rename_i s hs
   split at he
   ·rename_i ys' st3 hp
    injection he with he
    injection he with h1 h2
    subst h1;subst h2
    obtain ⟨g2,j1,j2,j3,j4⟩:=ih h hp
    refine ⟨g2,j1,j2,⟨rfl,?_,j3⟩,j4⟩
    unfold ownTmp at hs
    split at hs
    ·rename_i s' hq
     injection hs with hs;subst hs
     obtain ⟨fl,n,xs,k1,k2,k3,k4⟩:=plc_slot h hq
     obtain ⟨v0,hv0,hok⟩:=own_at h k1 k2
     have hv1:=hv0
     rw [k3] at hv1
     injection hv1 with hv1
     obtain ⟨aa,ll,cc,hsl⟩:=own_slice hok
     have hcells:(evalV vs x).cells.toList=[v0]:=by rw [hv1,hsl];rfl
     rw [hcells]
     refine ⟨rfl,fun i hi hv=>?_⟩
     have:i=0:=by simpa using hi
     subst this
     exact ⟨s',rfl,hv0⟩
    ·cases hs
   ·cases he
  ·split at he
   ·rename_i y st2 hu
    split at he
    ·rename_i ys' st3 hp
     injection he with he
     injection he with h1 h2
     subst h1;subst h2
     obtain ⟨g1,i1,i2,i3,i4,i5⟩:=use_sound h hu
     obtain ⟨g2,j1,j2,j3,j4⟩:=ih i1 hp
     exact ⟨g2,j1,i2.trans j2,⟨rfl,(RelL.cells (i3.ext j2)).toS,j3⟩,j4.trans i5⟩
    ·cases he
   ·cases he
theorem cellsB_sound {P:Program} {st st1:St} {g:Gh} {vs:Array Value} {w:World} (h:Inv P g st vs w) {t:TypeId} {ps:Array (Nat×Operand)} {cs:List PV} (he:evBuildB P st t ps=some (cs,st1)) :
  ∃g' c',Inv P g' st1 vs w∧Ext g g' w w∧st1.n=st.n∧RelSL g' vs w cs c'.toList∧∀o:Oper,o.op=.build t ps→(execOp (evalV vs) o).run P w=.ok (.value (.agg c')) w:=by
 unfold evBuildB at he
 split at he
 ·rename_i zs ys st2 hz hp
  obtain ⟨g',i1,i2,i3,i4⟩:=partsB_sound h hp
  unfold zeroPV at hz
  split at hz
  ·rename_i it hit
   split at hz
   ·rename_i z hzz
    injection hz with hz
    have key:∀cs,P.built t (ps.toList.map fun p=>(p.1,evalV vs p.2))=some cs→∀o:Oper,o.op=.build t ps→(execOp (evalV vs) o).run P w=.ok (.value (.agg cs)) w:=by
     intro cs hb o ho
     have:=run_build (P:=P) w t (ps.map fun p=>(p.1,evalV vs p.2)) cs (by simpa using hb)
     simp only [execOp,ho,Sem.run_bind,this,Result.andThen_ok,Sem.run_pure]
    have hzr:RelSL g' vs w zs z.cells.toList:=by rw [←hz];exact (RelL.zero g' w z).toS
    split at he
    ·rename_i fs hu
     split at he
     ·rename_i pl hpl
      split at he
      ·rename_i cs' hcs
       injection he with he;injection he with e1 e2
       subst e1;subst e2
       obtain ⟨c',k1,k2⟩:=fill_relS hzr i3 hcs
       refine ⟨g',c',i1,i2,i4,k2,key c' ?_⟩
       simp only [Program.built,hit,hu,hzz,places_mapM hpl]
       rw [←k1]
       congr 1
       funext i
       simp
      ·cases he
     ·cases he
    ·cases he
   ·cases hz
  ·cases hz
 ·cases he
theorem Inv.deadSet {P:Program} {st:St} {g:Gh} {vs:Array Value} {w:World} (h:Inv P g st vs w) {a:Nat} (ha:st.get a=some .dead) (v:Value):Inv P g st (vs.setIfInBounds a v) w:=by
 have hre:∀{q:Plc} {x:PV} {u:Value},contentAt st q=some x→x≠.dead→realAt g vs w q=some u→realAt g (vs.setIfInBounds a v) w q=some u:=by
  intro q x u hc hx hq
  cases q with
  | tmp s=>
   have:a≠s:=by
    rintro rfl
    simp only [contentAt] at hc
    rw [ha] at hc
    exact hx (Option.some.inj hc).symm
   simp only [realAt] at hq ⊢
   rw [Array.getElem?_setIfInBounds_ne this];exact hq
  | cell id off=>exact hq
 refine ⟨by simp [h.size],fun t x hx=>?_,h.rlen,fun id ty cs b h1 h2=>?_,h.bmap,h.bfam,h.rown,h.fdom,h.olt,h.flt,h.fbox⟩
 ·obtain ⟨u,hu,hs⟩:=h.slot t x hx
  by_cases e:a=t
  ·subst e
   rw [ha] at hx
   injection hx with hx;subst hx
   have:a<vs.size:=(Array.getElem?_eq_some_iff.1 hu).1
   exact ⟨v,by rw [Array.getElem?_setIfInBounds_self_of_lt this],trivial⟩
  ·refine ⟨u,by rw [Array.getElem?_setIfInBounds_ne e];exact hu,?_⟩
   cases x with
   | alias q=>
    obtain ⟨⟨fl,n,xs,k1,k2⟩,k3⟩:=hs
    exact ⟨⟨fl,n,xs,k1,k2⟩,hre k1 (by simp) k3⟩
   | elem q k off=>
    obtain ⟨fl,xs,b,cap,k1,k2,k3,k4⟩:=hs
    exact ⟨fl,xs,b,cap,k1,k2,hre k1 (by simp) k3,k4⟩
   | sl fl n xs=>cases fl <;> exact hs
   | _=>exact hs
 ·obtain ⟨c,fz,j1,j2,j3,j4⟩:=h.box id ty cs b h1 h2
  refine ⟨c,fz,j1,j2,j3,fun off x hx=>?_⟩
  obtain ⟨l1,u,l2,l3⟩:=j4 off x hx
  exact ⟨l1,u,l2,l3.gh l1 rfl rfl fun _ hb=>hb⟩
theorem movesB_sound {P:Program} {id b0:Nat} {ty:TypeId} {c:Array Value} {fz:Nat×Nat} {vs:Array Value} {w:World} (hb0:w.heap[b0]? = some (.cells c ty fz)):∀{l:List PV} {off:Nat} {st st':St} {g:Gh},Inv P g st vs w→
  (∃cs,st.σ[id]? = some (.cells ty cs)∧off+l.length≤cs.length)→g.rho[id]? = some b0→(∀i x,l[i]? = some x→∃u,c[off+i]? = some u∧(∀s,x=.alias (.tmp s)→vs[s]? = some u))→St.movesB id off l st=some st'→
  ∃g',Inv P g' st' vs w∧Ext g g' w w∧st'.n=st.n:=by
 intro l
 induction l with
 | nil=>
  intro off st st' g h _ _ _ he
  injection he with he;subst he
  exact ⟨g,h,Ext.refl _ _,rfl⟩
 | cons x l ih=>
  intro off st st' g h hσ hrho hc he
  obtain ⟨cs,hσ,hlen⟩:=hσ
  simp only [List.length_cons] at hlen
  have hc':∀i x,l[i]? = some x→∃u,c[off+1+i]? = some u∧(∀s,x=.alias (.tmp s)→vs[s]? = some u):=fun i x hx=>by
   have:=hc (i+1) x (by simpa using hx)
   rwa [show off+(i+1)=off+1+i by omega] at this
  unfold St.movesB at he
  split at he
  ·rename_i s
   split at he
   ·rename_i fl n xs hct
    split at he
    ·rename_i ho
     obtain ⟨u,hu,hus⟩:=hc 0 _ rfl
     have hus:=hus s rfl
     obtain ⟨g1,j1,j2⟩:=h.moveCell hσ (off:=off) (by omega) hrho (p:=.tmp s) (by intro e;cases e) hct ho (v:=u) hus
     rw [setCell_self hb0 (by simpa using hu)] at j1 j2
     have hσ1:∃cs1,((st.setP (.tmp s) .dead).setP (.cell id off) (.sl fl n xs)).σ[id]? = some (Bx.cells ty cs1)∧off+1+l.length≤cs1.length:=by
      rw [σ_setP_cell,List.getElem?_modify,cellAt_setP_tmp,hσ]
      exact ⟨cs.set off (.sl fl n xs),by simp [setBx],by simp only [List.length_set];omega⟩
     obtain ⟨g2,k1,k2,k3⟩:=ih j1 hσ1 (prefix_get j2.rho hrho) hc' he
     exact ⟨g2,k1,j2.trans k2,k3.trans (by rw [tsLen_setP,tsLen_setP])⟩
    ·cases he
   ·cases he
  ·cases he
  ·exact ih h ⟨cs,hσ,by omega⟩ hrho hc' he
theorem get_dead_setP {st:St} {p:Plc} {x:PV} {s:Nat} (hd:st.get s=some .dead) (hx:p=.tmp s→x=.dead:=by first | (intro e;rfl) | (intro e;cases e)):(st.setP p x).get s=some .dead:=by
 have hlt:s<st.n:=get_lt hd
 have hl:lkp st.ts s=.dead:=by
  simp only [St.get,if_pos hlt] at hd
  exact Option.some.inj hd
 have hk:lkp (killL p st.ts) s=.dead:=by rw [lkp_kill,hl];rfl
 have hget:∀st':St,st'.n=st.n→lkp st'.ts s=.dead→st'.get s=some .dead:=fun st' h1 h2=>by
  simp only [St.get,h1,if_pos hlt,h2]
 refine hget _ tsLen_setP ?_
 cases p with
 | tmp t=>
  unfold St.setP
  by_cases e:t=s
  ·subst e
   have:=hx rfl
   subst this
   split <;> exact lkp_upd_self _ _ _
  ·split
   ·exact (lkp_upd_ne _ _ e).trans hk
   ·exact (lkp_upd_ne _ _ e).trans hl
 | cell id off=>
  unfold St.setP
  split
  ·exact hk
  ·exact hl
theorem movesB_dead {id s:Nat}:∀{l:List PV} {i off:Nat} {st st':St},l[i]? = some (.alias (.tmp s))→st.get s=some .dead→St.movesB id off l st=some st'→False:=by
 intro l
 induction l with
 | nil=>intro i off st st' h;simp at h
 | cons x l ih=>
  intro i off st st' h hd he
  unfold St.movesB at he
  split at he
  ·rename_i s'
   split at he
   ·rename_i fl n xs hct
    split at he
    ·rename_i ho
     cases i with
     | zero=>
      have:s'=s:=by simpa using h
      subst this
      simp only [contentAt] at hct
      rw [hd] at hct;cases hct
     | succ i=>
      refine ih (by simpa using h) ?_ he
      exact get_dead_setP (get_dead_setP hd)
    ·cases he
   ·cases he
  ·cases he
  ·rename_i hx1 hx2
   cases i with
   | zero=>
    have:x=.alias (.tmp s):=by simpa using h
    exact absurd this (hx1 s)
   | succ i=>exact ih (by simpa using h) hd he
theorem bb_ok {C:TC} {o:Oper} {rest:List Oper} {st st1:St} (h:bbOf C o rest st=some st1):o.guard=none∧∃o2 rest2,rest=o2 :: rest2∧o2.guard=none∧
  ∀{g:Gh} {a:Act} {w:World} {Q:Exit→Act→World→Prop} {K:Act→World→Prop},Inv C.C.P g st a.tmps w→
   (∀a' w' g',Inv C.C.P g' st1 a'.tmps w'→Ext g g' w w'→a'.defers=a.defers→K a' w')→o.wp C.C.P a w (fun a1 w1=>o2.wp C.C.P a1 w1 K Q) Q:=by
 unfold bbOf at h
 split at h
 ·rename_i t ps o2 rest2 hop
  split at h
  ·rename_i t2 s b ho2 hod hg hg2
   split at h
   ·rename_i hcond
    simp only [Bool.and_eq_true] at hcond
    have hab:s=b:=Nat.eq_of_beq_eq_true hcond.1
    subst hab
    refine ⟨hg,o2,rest2,rfl,hg2,fun {g a w Q K} hi hK=>?_⟩
    unfold evBB at h
    split at h
    ·rename_i cs st2 hb
     obtain ⟨g1,c',i1,i2,i3,i4,i5⟩:=cellsB_sound hi hb
     split at h
     ·rename_i hdead
      split at h
      ·rename_i st3 hm
       unfold Oper.wp
       rw [eval_eq,i5 o hop]
       rw [Oper.upon_value]
       have j0:=i1.deadSet hdead (.agg c')
       have ht:(a.put o.dst (.agg c')).tmps=a.tmps.setIfInBounds s (.agg c'):=by rw [put_tmps,hod];rfl
       have hsz:s<a.tmps.size:=by
        have:s<st2.n:=get_lt hdead
        rw [i1.size];exact this
       have hrun:(execOp (evalV (a.put o.dst (.agg c')).tmps) o2).run C.C.P w=.ok (.value (.pointer (some ⟨w.heap.size,0,none⟩))) (w.alloc (.cells c' t2)):=by
        have hx:evalV (a.put o.dst (.agg c')).tmps (.tmp s)=.agg c':=by
         rw [ht];simp [evalV,Array.getD_eq_getD_getElem?,Array.getElem?_setIfInBounds_self_of_lt hsz]
        simp [execOp,ho2,Instr.box,newVar,newRow,hx,Value.cells]
       show o2.wp C.C.P (a.put o.dst (.agg c')) w K Q
       unfold Oper.wp
       rw [eval_eq,hrun,Oper.upon_value]
       obtain ⟨j1,j2⟩:=j0.newBox (ty:=t2) (c:=c') (cs:=cs.map unA) (by have:=i4.1;simpa using this) (fun i x hx=>by
        simp only [List.getElem?_map,Option.map_eq_some_iff] at hx
        obtain ⟨y,hy,rfl⟩:=hx
        obtain ⟨h1,h2⟩:=List.getElem?_eq_some_iff.1 hy
        have hl:i<c'.toList.length:=by rw [i4.1];exact h1
        have hr:=i4.2 i h1 hl
        rw [h2] at hr
        refine ⟨c'.toList[i],by simp at hl;simp [hl],?_⟩
        cases y with
        | alias q=>exact .inl rfl
        | _=>exact .inr ⟨Rel.plain hr,hr⟩)
       have hrho:(g1.rho++[w.heap.size])[st2.σ.length]? = some w.heap.size:=by simp [←i1.rlen]
       obtain ⟨g2,k1,k2,k3⟩:=movesB_sound (id:=st2.σ.length) (heap_alloc_new w _) (l:=cs) (off:=0) j1 ⟨cs.map unA,by simp,by simp⟩ hrho (fun i x hx=>by
        obtain ⟨h1,h2⟩:=List.getElem?_eq_some_iff.1 hx
        have hl:i<c'.toList.length:=by rw [i4.1];exact h1
        have hr:=i4.2 i h1 hl
        rw [h2] at hr
        refine ⟨c'.toList[i],by simp at hl;simp [hl],fun s' e=>?_⟩
        subst e
        obtain ⟨s2,e1,e2⟩:=hr
        injection e1 with e1;subst e1
        by_cases hne:s=s'
        ·subst hne
         exfalso
         exact movesB_dead hx (st:={ st2 with σ:=st2.σ++[.cells t2 (cs.map unA)] }) (by exact hdead) hm
        ·rw [Array.getElem?_setIfInBounds_ne hne];exact e2) hm
       refine hK _ _ g2 ?_ (i2.trans (j2.trans k2)) (by rw [put_defers,put_defers])
       rw [put_tmps,ht]
       exact setD_rel k1 h (.ptr _ _ _ (prefix_get k2.rho hrho))
      ·cases h
     ·cases h
    ·cases h
   ·cases h
  ·cases h
 ·cases h
theorem frzVs_length (id:Nat) (cs:List PV):∀l:List PV,(frzVs id cs l).length=l.length
 | []=>rfl
 | x :: r=>by simp only [frzVs,List.length_cons,frzVs_length id cs r]
theorem frzVs_get (id:Nat) (cs:List PV):∀(l:List PV) (i:Nat) (h:i<l.length) (h':i<(frzVs id cs l).length),(frzVs id cs l)[i]=frzV id cs l[i]
 | x :: r,0,h,h'=>rfl
 | x :: r,i+1,h,h'=>by simpa [frzVs] using frzVs_get id cs r i (by simpa using h) (by simpa [frzVs] using h')
theorem frzVs_get? (id:Nat) (cs:List PV) (l:List PV) (i:Nat):(frzVs id cs l)[i]? = (l[i]?).map (frzV id cs):=by
 by_cases h:i<l.length
 ·rw [List.getElem?_eq_getElem h,List.getElem?_eq_getElem (by rw [frzVs_length];exact h),frzVs_get id cs l i h];rfl
 ·rw [List.getElem?_eq_none (l:=l) (by omega),List.getElem?_eq_none (l:=frzVs id cs l) (by rw [frzVs_length];omega)];rfl
theorem noMaps_get:∀{l:List PV},noMaps l=true→∀i (h:i<l.length),noMap l[i]=true
 | x :: r,h,0,_=>by simp only [noMaps,Bool.and_eq_true] at h;exact h.1
 | x :: r,h,i+1,hi=>by simp only [noMaps,Bool.and_eq_true] at h;exact noMaps_get h.2 i (by simpa using hi)
theorem lkp_frzT (id:Nat) (cs:List PV) (l:List (Nat×PV)) (t:Nat):lkp (frzT id cs l) t=frzV id cs (lkp l t):=by
 induction l with
 | nil=>rfl
 | cons p r ih=>
  obtain ⟨k,x⟩:=p
  simp only [frzT,lkp]
  cases Nat.beq k t with
  | true=>rfl
  | false=>exact ih
theorem frzB_get? (id:Nat) (cs:List PV):∀(l:List Bx) (i:Nat),(frzB id cs l)[i]? = (l[i]?).map fun b=>match b with
  | .cells ty l=>.cells ty (frzVs id cs l)
  | .mp es=>.mp es
  | .fam a l=>.fam a l
 | [],i=>by simp [frzB]
 | .cells ty l :: r,0=>rfl
 | .mp es :: r,0=>rfl
 | .fam a l :: r,0=>rfl
 | .cells ty l :: r,i+1=>by simpa [frzB] using frzB_get? id cs r i
 | .mp es :: r,i+1=>by simpa [frzB] using frzB_get? id cs r i
 | .fam a l :: r,i+1=>by simpa [frzB] using frzB_get? id cs r i
theorem frzB_length (id:Nat) (cs:List PV):∀(l:List Bx),(frzB id cs l).length=l.length
 | []=>rfl
 | .cells ty l :: r=>by simp only [frzB,List.length_cons,frzB_length id cs r]
 | .mp es :: r=>by simp only [frzB,List.length_cons,frzB_length id cs r]
 | .fam a l :: r=>by simp only [frzB,List.length_cons,frzB_length id cs r]
def Gh.frz (g:Gh) (id blk n:Nat):Gh:={ rho:=g.rho.take id,FP:=fun b i=>g.FP b i∨(b=blk∧i<n),ow:=fun b=>if b=blk then none else g.ow b,fam:=(g.cut id).fam }
theorem Rel.cutF {g:Gh} {w:World} {id blk n:Nat} {x:PV} {v:Value} (h:Rel (g.cut id) w x v):Rel (g.frz id blk n) w x v:=
 Rel.mono (g:=g.cut id) (g':=g.frz id blk n) (w:=w) (w':=w) (show g.rho.take id <+: g.rho.take id from List.prefix_rfl) (fun _ _ _ h=>h) (fun _ _ h=>Or.inl h) (fun _ _ _=>rfl) h
theorem Rel.frz {g:Gh} {w:World} {id blk:Nat} {cs:List PV} {vals:Nat→Value} (hr:∀i b,g.rho[i]? = some b→i≤id) (hb:g.rho[id]? = some blk)
  (hc:∀j,j<cs.length→w.cell? ⟨blk,j,none⟩=some (vals j)) (hv:∀j (hj:j<cs.length),Rel (g.frz id blk cs.length) w cs[j] (vals j)) {x:PV} {v:Value} (h:Rel g w x v) :
  noMap x=true→Rel (g.frz id blk cs.length) w (frzV id cs x) v:=by
 have hmono:∀{x:PV} {v:Value},Rel (g.cut id) w x v→Rel (g.frz id blk cs.length) w x v:=fun h=>h.cutF
 induction h with
 | lit v=>intro _;exact .lit v
 | ptr i off b h=>
  intro _
  simp only [frzV]
  split
  ·rename_i e
   have e:=Nat.eq_of_beq_eq_true e
   subst e
   rw [hb] at h
   injection h with h
   subst h
   have:=Rel.elemv (g:=g.frz i blk cs.length) (w:=w) cs off blk 0 vals (fun j hj=>⟨.inr ⟨rfl,by omega⟩,by rw [Nat.zero_add];exact hc j hj⟩) hv
   rwa [Nat.zero_add] at this
  ·rename_i e
   have hne:i≠id:=fun e'=>e (by rw [e'];exact Nat.beq_refl id)
   have hle:=hr i b h
   refine .ptr i off b ?_
   show (g.rho.take id)[i]? = some b
   rw [List.getElem?_take_of_lt (by omega)];exact h
 | nilp=>intro _;exact .nilp
 | slnil fl s=>intro _;exact .slnil fl s
 | slz s=>intro _;exact .slz s
 | sle s a cap=>intro _;exact .sle s a cap
 | slv x xs hx b o cap s vs hcap hlen hfp hrel ih=>
  intro _
  have h0:Rel g w (.sl .view false x) (.slice (some ⟨b,o,none⟩) xs.length cap):=.slv x xs hx b o cap s vs hcap hlen hfp hrel
  exact hmono (h0.cut (n:=id) rfl)
 | agg l vs hlen hrel ih=>
  intro hn
  simp only [noMap] at hn
  simp only [frzV]
  refine .agg _ vs (by rw [frzVs_length];exact hlen) fun i hi hv'=>?_
  rw [frzVs_get id cs l i (by rw [frzVs_length] at hi;exact hi)]
  exact ih i _ hv' (noMaps_get hn i _)
 | tup l vs hlen hrel ih=>
  intro hn
  simp only [noMap] at hn
  simp only [frzV]
  refine .tup _ vs (by rw [frzVs_length];exact hlen) fun i hi hv'=>?_
  rw [frzVs_get id cs l i (by rw [frzVs_length] at hi;exact hi)]
  exact ih i _ hv' (noMaps_get hn i _)
 | ifc t x v h ih=>
  intro hn
  simp only [noMap] at hn
  exact .ifc t _ v (ih hn)
 | fn f a b vf vc h1 h2 _ _ i1 i2=>
  intro hn
  simp only [noMap,Bool.and_eq_true] at hn
  simp only [frzV]
  refine .fn f _ _ vf vc (by rw [frzVs_length];exact h1) (by rw [frzVs_length];exact h2) (fun i hi hv'=>?_) (fun i hi hv'=>?_)
  ·rw [frzVs_get id cs a i (by rw [frzVs_length] at hi;exact hi)]
   exact i1 i _ hv' (noMaps_get hn.1 i _)
  ·rw [frzVs_get id cs b i (by rw [frzVs_length] at hi;exact hi)]
   exact i2 i _ hv' (noMaps_get hn.2 i _)
 | map i b h=>intro hn;cases hn
 | oref i j v hv h=>intro hn;cases hn
 | elemv l off b o vs hfp hrel ih=>
  intro hn
  simp only [noMap] at hn
  simp only [frzV]
  refine .elemv _ off b o vs (fun j hj=>?_) fun j hj=>?_
  ·rw [frzVs_length] at hj
   exact ⟨.inl (hfp j hj).1,(hfp j hj).2⟩
  ·rw [frzVs_get id cs l j (by rw [frzVs_length] at hj;exact hj)]
   exact ih j _ (noMaps_get hn j _)
theorem OwnOk.frz {P:Program} {g:Gh} {w:World} {id blk n:Nat} {p:Plc} {ex:Bool} {e:TypeId} {nl:Bool} {xs:Xs} {v:Value} (hb:g.ow blk=some (.box id)) (h:OwnOk P g w p ex e nl xs.els v):OwnOk P (g.frz id blk n) w p ex e nl xs.els v:=by
 rcases h with h | ⟨hn,b,cap,hv,hbk⟩
 ·exact .inl h
 ·have hne:b≠blk:=by rintro rfl;have:=hbk.ow;rw [hb] at this;cases this
  refine .inr ⟨hn,b,cap,hv,hbk.hcap,hbk.blk,?_,⟨hbk.el.1,fun i j hi hj=>?_⟩,fun he i hf=>?_,fun i hi hf=>?_⟩
  ·show (if b=blk then none else g.ow b)=_
   rw [if_neg hne];exact hbk.ow
  ·obtain ⟨u,h1,h2⟩:=hbk.el.2 i j hi hj
   exact ⟨u,h1,(h2.cut (n:=id) (Xs.els_get hi hj)).cutF⟩
  ·rcases hf with hf | ⟨hf,_⟩
   ·exact hbk.ex_ he i hf
   ·exact hne hf
  ·rcases hf with hf | ⟨hf,_⟩
   ·exact hbk.fr i hi hf
   ·exact hne hf
theorem rel_slotF {P:Program} {st:St} {g:Gh} {us:Array Value} {w:World} {p:Plc} {x:PV} {v:Value} (h:Rel g w x v):Slot P st g us w p x v:=slot_of_rel h h.plain
theorem noAl_rootF {x:PV} (h:x.noAl=true):x.root=none:=noAl_root h
theorem useP_famAt {st st1:St} {q:Plc} {x:PV} (h:st.useP q=some (x,st1)) (k:Nat):famAt st1.σ k=famAt st.σ k:=by
 unfold St.useP at h
 split at h
 ·split at h
  ·injection h with h;injection h with _ h;subst h;exact famAt_putP _ _ _ _
  ·injection h with h;injection h with _ h;subst h;rfl
 ·injection h with h;injection h with _ h;subst h;rfl
 ·cases h
 ·cases h
 ·cases h
 ·injection h with h;injection h with _ h;subst h;rfl
 ·cases h
theorem takeC_famAt {id k:Nat}:∀{n off:Nat} {st st1:St} {cs:List PV},st.takeC id off n=some (cs,st1)→famAt st1.σ k=famAt st.σ k:=by
 intro n
 induction n with
 | zero=>intro off st st1 cs h;injection h with h;injection h with _ h;subst h;rfl
 | succ n ih=>
  intro off st st1 cs h
  simp only [St.takeC] at h
  split at h
  ·rename_i x st2 hu
   split at h
   ·rename_i xs st3 ht
    injection h with h;injection h with _ h;subst h
    rw [ih ht,useP_famAt hu]
   ·cases h
  ·cases h
theorem Inv.freezeBox {P:Program} {st st':St} {g:Gh} {vs:Array Value} {w:World} {base:Nat} (h:Inv P g st vs w) (hbase:base<st.σ.length) (he:st.freezeBox=some st'):∃g',Inv P g' st' vs w∧Ext (g.cut base) (g'.cut base) w w:=by
 unfold St.freezeBox at he
 split at he
 ·cases he
 ·rename_i id hlen
  split at he
  ·rename_i ty cs0 hσ
   split at he
   ·rename_i cs st1 ht
    split at he
    ·rename_i hc
     simp only [Bool.and_eq_true] at hc
     obtain ⟨c1,c2,c3⟩:=hc
     injection he with he
     subst he
     obtain ⟨g1,us,i1,i2,i3,i4,i5,i6,i7⟩:=takeC_sound h ht
     have hl1:st1.σ.length=id+1:=by
      have e1:=i1.rlen
      have e2:=h.rlen
      rw [i4] at e1
      omega
     have hlt:id<g.rho.length:=by rw [h.rlen];omega
     have hblk:g.rho[id]? = some g.rho[id]:=List.getElem?_eq_getElem hlt
     generalize g.rho[id]=blk at hblk
     have hblk1:g1.rho[id]? = some blk:=by rw [i4];exact hblk
     have hfa:famAt st1.σ id=false:=by rw [takeC_famAt ht];exact famAt_cells hσ
     have how:=i1.rown id blk hfa hblk1
     have hcl:us.length=cs.length:=i3.1
     have hcell:∀j,j<cs.length→w.cell? ⟨blk,j,none⟩=some (us.getD j undef):=fun j hj=>by
      have hj':j<us.length:=by omega
      have:=i7 j hj'
      simp only [realAt,hblk,Nat.zero_add] at this
      rw [this,List.getD_eq_getElem?_getD,List.getElem?_eq_getElem hj'];rfl
     have hval:∀j (hj:j<cs.length),Rel (g1.frz id blk cs.length) w cs[j] (us.getD j undef):=fun j hj=>by
      have hj':j<us.length:=by omega
      have:=i3.2 j hj hj'
      have e:us.getD j undef=us[j]:=by rw [List.getD_eq_getElem?_getD,List.getElem?_eq_getElem hj'];rfl
      rw [e]
      exact (this.cut (n:=id) (noRefs_get c1 j hj)).cutF
     have hle:∀i b,g1.rho[i]? = some b→i≤id:=fun i b hi=>by
      have:=(List.getElem?_eq_some_iff.1 hi).1
      have e1:=i1.rlen
      omega
     have hR:∀{x:PV} {v:Value},Rel g1 w x v→noMap x=true→Rel (g1.frz id blk cs.length) w (frzV id cs x) v:=fun hx hn=>hx.frz hle hblk1 hcell hval hn
     have hreal:∀q,(∀off,q≠.cell id off)→(∃y,contentAt st1 q=some y)→realAt (g1.frz id blk cs.length) vs w q=realAt g1 vs w q:=by
      intro q hq hy
      cases q with
      | tmp t=>rfl
      | cell i off=>
       have hne:i≠id:=by rintro rfl;exact hq off rfl
       obtain ⟨y,hy⟩:=hy
       simp only [contentAt] at hy
       have hi:i<id:=by
        cases hs:st1.σ[i]? with
        | none=>rw [hs] at hy;cases hy
        | some b=>
         have:=(List.getElem?_eq_some_iff.1 hs).1
         omega
       show (match (g1.rho.take id)[i]? with | some b=>w.cell? ⟨b,off,none⟩ | none=>none)=(match g1.rho[i]? with | some b=>w.cell? ⟨b,off,none⟩ | none=>none)
       rw [List.getElem?_take_of_lt hi]
     have hcon:∀q fl n xs,(∀off,q≠.cell id off)→contentAt st1 q=some (.sl fl n xs)→contentAt { ts:=frzT id cs st1.ts,n:=st1.n,σ:=frzB id cs (st1.σ.take id) } q=some (.sl fl n xs):=by
      intro q fl n xs hq hx
      cases q with
      | tmp t=>
       simp only [contentAt,St.get] at hx ⊢
       split at hx
       ·rename_i ht
        rw [if_pos ht,lkp_frzT,Option.some.inj hx];rfl
       ·cases hx
      | cell i off=>
       simp only [contentAt] at hx ⊢
       cases hs:st1.σ[i]? with
       | none=>rw [hs] at hx;cases hx
       | some b=>
        have hi:i<id:=by
         have:=(List.getElem?_eq_some_iff.1 hs).1
         have hne:i≠id:=by rintro rfl;exact hq off rfl
         omega
        rw [frzB_get?,List.getElem?_take_of_lt hi,hs]
        rw [hs] at hx
        cases b with
        | mp es=>cases hx
        | fam a l=>cases hx
        | cells ty' l=>
         simp only [Option.map_some] at hx ⊢
         rw [frzVs_get?,hx];rfl
     have hS:∀{p:Plc} {x:PV} {v:Value},(∀off,x.root≠some (.cell id off))→noMap x=true→Slot P st1 g1 vs w p x v→Slot P { ts:=frzT id cs st1.ts,n:=st1.n,σ:=frzB id cs (st1.σ.take id) } (g1.frz id blk cs.length) vs w p (frzV id cs x) v:=by
      intro p x v hroot hn hs
      cases x with
      | sl fl n xs=>
       cases fl with
       | view=>exact hR (x:=.sl .view n xs) hs hn
       | own e=>exact OwnOk.frz how hs
       | excl e=>exact OwnOk.frz how hs
      | alias q=>
       obtain ⟨⟨fl,n,xs,k1,k2⟩,k3⟩:=hs
       have hq:∀off,q≠.cell id off:=fun off e=>hroot off (by rw [e];rfl)
       exact ⟨⟨fl,n,xs,hcon q fl n xs hq k1,k2⟩,(hreal q hq ⟨_,k1⟩).trans k3⟩
      | elem q k off=>
       obtain ⟨fl,xs,b,cap,k1,k2,k3,k4,k5⟩:=hs
       have hq:∀off,q≠.cell id off:=fun off e=>hroot off (by rw [e];rfl)
       exact ⟨fl,xs,b,cap,hcon q fl false xs hq k1,k2,(hreal q hq ⟨_,k1⟩).trans k3,k4,k5⟩
      | dead=>trivial
      | lit u=>exact hR (x:=.lit u) hs hn
      | ptr i off=>exact rel_slotF (hR (x:=.ptr i off) hs hn)
      | nilp=>exact hR (x:=.nilp) hs hn
      | agg l=>exact hR (x:=.agg l) hs hn
      | tup l=>exact hR (x:=.tup l) hs hn
      | ifc t y=>exact hR (x:=.ifc t y) hs hn
      | fn f a b=>exact hR (x:=.fn f a b) hs hn
      | map i=>exact hR (x:=.map i) hs hn
      | elemv l off=>exact hR (x:=.elemv l off) hs hn
      | oref i j=>cases hn
     refine ⟨g1.frz id blk cs.length,?_,?_⟩
     ·refine { size:=i1.size,slot:=fun t x hx=>?_,rlen:=?_,box:=fun i ty' l b h1 h2=>?_,bmap:=fun i es b h1 h2=>?_,bfam:=fun i al l h1=>?_,rown:=fun i b hk hb=>?_,fdom:=fun i j v hv=>?_,olt:=fun b o hb=>?_,flt:=fun b i hb=>?_,fbox:=fun b i j hb hf=>?_ }
      ·have ht:t<st1.n:=(get_lt hx :)
       simp only [St.get] at hx
       rw [if_pos ht,lkp_frzT] at hx
       have hx:=Option.some.inj hx
       obtain ⟨v,hv,hs⟩:=i1.slot t (lkp st1.ts t) (by simp only [St.get];rw [if_pos ht])
       refine ⟨v,hv,?_⟩
       rw [←hx]
       rcases lkp_mem st1.ts t with hm | hm
       ·rw [hm];trivial
       ·have:=List.all_eq_true.1 c2 _ hm
        simp only [Bool.and_eq_true] at this
        refine hS (fun off hr=>?_) this.1 hs
        have h2:=this.2
        rw [hr] at h2
        simp [Nat.beq_refl] at h2
      ·show (g1.rho.take id).length=(frzB id cs (st1.σ.take id)).length
       rw [frzB_length,List.length_take,List.length_take,i1.rlen]
      ·have h1:(frzB id cs (st1.σ.take id))[i]? = some (.cells ty' l):=h1
       have h2:(g1.rho.take id)[i]? = some b:=h2
       rw [frzB_get?] at h1
       have hi:i<id:=by
        have:=(List.getElem?_eq_some_iff.1 h2).1
        simp only [List.length_take] at this
        omega
       rw [List.getElem?_take_of_lt hi] at h1 h2
       cases hs:st1.σ[i]? with
       | none=>rw [hs] at h1;cases h1
       | some bx=>
        rw [hs] at h1
        cases bx with
        | mp es=>cases h1
        | fam a l=>cases h1
        | cells ty2 l2=>
         simp only [Option.map_some,Option.some.injEq,Bx.cells.injEq] at h1
         obtain ⟨rfl,rfl⟩:=h1
         obtain ⟨c,fz,k1,k2,k3,k4⟩:=i1.box i ty2 l2 b hs h2
         refine ⟨c,fz,k1,k2,by rw [k3,frzVs_length],fun off x hx=>?_⟩
         rw [frzVs_get?] at hx
         cases hx0:l2[off]? with
         | none=>rw [hx0] at hx;cases hx
         | some x0=>
          rw [hx0] at hx
          have hx:frzV id cs x0=x:=Option.some.inj hx
          subst hx
          obtain ⟨m1,v,m2,m3⟩:=k4 off x0 hx0
          refine ⟨?_,v,m2,hS (fun off' hr=>?_) ?_ m3⟩
          ·cases x0 <;> first | rfl | (simp only [frzV];split <;> rfl) | (simp [PV.noAl] at m1)
          ·rw [noAl_rootF m1] at hr;cases hr
          ·have:=List.all_eq_true.1 c3 _ (List.mem_of_getElem? hs)
           simp only at this
           obtain ⟨ho,e⟩:=List.getElem?_eq_some_iff.1 hx0
           rw [←e]
           exact noMaps_get this off ho
      ·have h1:(frzB id cs (st1.σ.take id))[i]? = some (.mp es):=h1
       have h2:(g1.rho.take id)[i]? = some b:=h2
       rw [frzB_get?] at h1
       have hi:i<id:=by
        have:=(List.getElem?_eq_some_iff.1 h2).1
        simp only [List.length_take] at this
        omega
       rw [List.getElem?_take_of_lt hi] at h1 h2
       cases hs:st1.σ[i]? with
       | none=>rw [hs] at h1;cases h1
       | some bx=>
        rw [hs] at h1
        cases bx with
        | cells ty2 l2=>cases h1
        | fam a l=>cases h1
        | mp es2=>
         simp only [Option.map_some,Option.some.injEq,Bx.mp.injEq] at h1
         subst h1
         exact i1.bmap i es2 b hs h2
      ·have h1:(frzB id cs (st1.σ.take id))[i]? = some (.fam al l):=h1
       rw [frzB_get?] at h1
       cases hs0:(st1.σ.take id)[i]? with
       | none=>rw [hs0] at h1;cases h1
       | some bx=>
        rw [hs0] at h1
        have hi:i<id:=by
         have:=(List.getElem?_eq_some_iff.1 hs0).1
         simp only [List.length_take] at this
         omega
        have hs:=hs0
        rw [List.getElem?_take_of_lt hi] at hs
        cases bx with
        | cells ty2 l2=>cases h1
        | mp es2=>cases h1
        | fam a2 l2=>
         have h1:some (Bx.fam a2 l2)=some (Bx.fam al l):=h1
         injection h1 with h1
         injection h1 with e1 e2
         subst e1
         have e2:=eq_of_heq e2
         subst e2
         refine (i1.bfam i _ _ hs).mono ?_ (fun _ _ h=>.inl h) (fun _ _ _=>rfl) (fun j b hb=>⟨rfl,?_,fun k hk=>?_⟩) (Nat.le_refl _)
         ·funext j
          show (if i<id then g1.fam i j else none)=_
          rw [if_pos hi]
         ·show (if b=blk then none else g1.ow b)=_
          rw [if_neg (by rintro rfl;rw [how] at hb;cases hb)];exact hb
         ·rcases hk with hk | ⟨rfl,_⟩
          ·exact hk
          ·rw [how] at hb;cases hb
      ·have hb:(g1.rho.take id)[i]? = some b:=hb
       have hi:i<id:=by
        have:=(List.getElem?_eq_some_iff.1 hb).1
        simp only [List.length_take] at this
        omega
       rw [List.getElem?_take_of_lt hi] at hb
       have ho:=i1.rown i b (by
        have hk:famAt (frzB id cs (st1.σ.take id)) i=false:=hk
        unfold famAt at hk ⊢
        rw [frzB_get?,List.getElem?_take_of_lt hi] at hk
        cases hs:st1.σ[i]? with
        | none=>rfl
        | some bx=>rw [hs] at hk;cases bx <;> first | rfl | exact hk) hb
       show (if b=blk then none else g1.ow b)=_
       rw [if_neg (by
        rintro rfl
        rw [how] at ho
        injection ho with ho
        injection ho with ho
        omega)]
       exact ho
      ·have hv:(if i<id then g1.fam i j else none)=some v:=hv
       show i<(frzB id cs (st1.σ.take id)).length
       split at hv
       ·rw [frzB_length,List.length_take];omega
       ·cases hv
      ·have hb:(if b=blk then none else g1.ow b)=some o:=hb
       split at hb
       ·cases hb
       ·exact i1.olt b o hb
      ·rcases hb with hb | ⟨rfl,_⟩
       ·exact i1.flt b i hb
       ·exact i1.olt _ _ how
      ·have hb:(if b=blk then none else g1.ow b)=some (.box j):=hb
       split at hb
       ·cases hb
       ·rename_i hne
        rcases hf with hf | ⟨hf,_⟩
        ·exact i1.fbox b i j hb hf
        ·exact hne hf
     ·have hE:Ext (g1.cut base) ((g1.frz id blk cs.length).cut base) w w:=
       {rho:=by
         show g1.rho.take base <+: (g1.rho.take id).take base
         rw [List.take_take,Nat.min_eq_left (by omega)]
         exact List.prefix_rfl
        fam:=fun i j v hv=>by
         have hv:(if i<base then g1.fam i j else none)=some v:=hv
         show (if i<base then (if i<id then g1.fam i j else none) else none)=some v
         split at hv
         ·rename_i hib;rw [if_pos hib,if_pos (by omega)];exact hv
         ·cases hv
        obx:=fun b i hi hb=>by
         have hi:i<(g1.rho.take base).length:=hi
         have hb:g1.ow b=some (.box i):=hb
         rw [List.length_take] at hi
         show (if b=blk then none else g1.ow b)=_
         rw [if_neg (by rintro rfl;rw [how] at hb;injection hb with hb;injection hb with hb;omega)];exact hb
        fp:=fun _ _ h=>.inl h,fpc:=fun _ _ _=>rfl,keep:=fun _ _ _=>rfl,size:=Nat.le_refl _
        frame:=fun b hb=>by
         have hb:g1.ow b=some .frame:=hb
         show (if b=blk then none else g1.ow b)=_
         rw [if_neg (by rintro rfl;rw [how] at hb;cases hb)];exact hb
        noframe:=fun b hb hf=>by
         have hf:(if b=blk then none else g1.ow b)=some .frame:=hf
         split at hf
         ·cases hf
         ·exact hb hf
        none_:=fun b _ hb=>by
         show (if b=blk then none else g1.ow b)=none
         split
         ·rfl
         ·exact hb
        fnew:=fun b i hb hf=>by
         rcases hf with hf | ⟨rfl,_⟩
         ·exact hf
         ·have hb:g1.ow b=some .frame:=hb
          rw [how] at hb;cases hb
        os:=rfl,tape:=rfl,output:=rfl }
      exact (i2.cut base).trans hE
    ·cases he
   ·cases he
  ·cases he
theorem Inv.same {P:Program} {st:St} {g:Gh} {vs:Array Value} {w:World} (h:Inv P g st vs w) {p:Plc} {y x:PV} {v:Value} (hc:contentAt st p=some y) (hv:realAt g vs w p=some v) (hp:x.plain=true∨∃fl s,x=.sl fl false ⟨s,[]⟩∧v=.slice none 0 0)
  (hx:x.plain=true→Rel g w x v):Inv P g (st.setP p x) vs w:=by
 have hnew:∀st' vs' w',(x.plain=true→Rel g w' x v)→Slot P st' g vs' w' p x v:=fun st' vs' w' hw=>by
  rcases hp with hp | ⟨fl,s,rfl,rfl⟩
  ·exact slot_of_rel (hw hp) hp
  ·cases fl with
   | view=>exact Rel.slz s
   | own e=>exact .inl ⟨rfl,rfl⟩
   | excl e=>exact .inl ⟨rfl,rfl⟩
 have hno:x.noAl=true:=by
  rcases hp with hp | ⟨fl,s,rfl,_⟩
  ·cases x <;> first | rfl | simp [PV.plain] at hp
  ·rfl
 cases p with
 | tmp t=>
  have ht:t<st.n:=get_lt hc
  have hv':vs[t]? = some v:=hv
  have k:=h.setPlain (x:=x) ht (hnew _ _ _ hx)
  rwa [setIf_self vs t _ hv'] at k
 | cell id off=>
  have hc':=hc
  simp only [contentAt] at hc'
  split at hc'
  ·rename_i ty cs hσ
   have hid:id<g.rho.length:=by rw [h.rlen];exact (List.getElem?_eq_some_iff.1 hσ).1
   have hr:g.rho[id]? = some g.rho[id]:=List.getElem?_eq_getElem hid
   obtain ⟨c,fz,hb,_,hsz,_⟩:=h.box id ty cs _ hσ hr
   have hcell:c[off]? = some v:=by
    simp only [realAt,hr,World.cell?,hb] at hv
    simpa using hv
   have hw:w.setCell ⟨g.rho[id],off,none⟩ v=w:=setCell_self hb hcell
   rcases hp with hp | ⟨fl,s,rfl,rfl⟩
   ·obtain ⟨k1,_⟩:=h.storeRel (off:=off) hσ hr hp (hx hp)
    rwa [hw] at k1
   ·obtain ⟨k1,_⟩:=h.storeSlot (off:=off) hσ hr (x:=.sl fl false ⟨s,[]⟩) (v:=.slice none 0 0) rfl (fun st' w'=>by
     cases fl with
     | view=>exact Rel.slz s
     | own e=>exact .inl ⟨rfl,rfl⟩
     | excl e=>exact .inl ⟨rfl,rfl⟩)
    rwa [hw] at k1
  ·cases hc'
theorem Inv.norm1 {P:Program} {st:St} {g:Gh} {vs:Array Value} {w:World} (h:Inv P g st vs w) (p:Plc) (m:Nat) (e:TypeId) (s:Sh):∃g',Inv P g' (st.norm1 p m e s) vs w∧Ext g g' w w:=by
 unfold St.norm1
 split
 ·rename_i fl n xs hc
  split
  ·obtain ⟨v,hv,hs⟩:=contentAt_real h hc
   have hvn:v=.slice none 0 0:=by
    rcases slot_sl hs with ⟨_,h1⟩ | ⟨h1,_⟩
    ·exact h1
    ·cases h1
   refine ⟨g,h.same hc hv (.inr ⟨_,s,rfl,hvn⟩) fun hp=>?_,Ext.refl _ _⟩
   subst hvn
   split at hp
   ·exact .slz s
   ·simp [PV.plain,Flag.isOwn] at hp
   ·simp [PV.plain,Flag.isOwn] at hp
  ·split
   ·split
    ·rename_i ho
     split
     ·rename_i x st1 hu
      obtain ⟨g',v,k1,k2,k3,k4,k5,_⟩:=useP_sound h hu
      have hc1:∃y,contentAt st1 p=some y:=by
       unfold St.useP at hu
       rw [hc] at hu
       simp only at hu
       rw [if_pos ho] at hu
       injection hu with hu;injection hu with _ hu;subst hu
       exact ⟨_,contentAt_put_self hc⟩
      obtain ⟨y,hc1⟩:=hc1
      have hv':realAt g' vs w p=some v:=by
       rw [←k3]
       cases p with
       | tmp t=>rfl
       | cell id off=>simp only [realAt,k5]
      exact ⟨g',k1.same hc1 hv' (.inl k4.plain) fun _=>k4,k2⟩
     ·exact ⟨g,h,Ext.refl _ _⟩
    ·exact ⟨g,h,Ext.refl _ _⟩
   ·split
    ·rename_i e'
     refine ⟨g,h.putOwn hc rfl rfl rfl rfl (Chg.refl _ g w) rfl rfl (fun v hv=>?_) h.rown h.olt h.flt h.fbox,Ext.refl _ _⟩
     obtain ⟨v',hv',hok⟩:=own_at h hc rfl
     rw [hv] at hv'
     injection hv' with hv'
     subst hv'
     rcases hok with hk | ⟨k1,b,cap,k2,k3⟩
     ·exact .inl hk
     ·exact .inr ⟨k1,b,cap,k2,k3.hcap,k3.blk,k3.ow,k3.el,fun h=>by (cases h),k3.fr⟩
    ·exact ⟨g,h,Ext.refl _ _⟩
   ·exact ⟨g,h,Ext.refl _ _⟩
 ·exact ⟨g,h,Ext.refl _ _⟩
theorem Inv.normL {P:Program} {vs:Array Value} {w:World}:∀(l:List (Plc×Nat×TypeId×Sh)) {st:St} {g:Gh},Inv P g st vs w→∃g',Inv P g' (St.normL l st) vs w∧Ext g g' w w
 | [],st,g,h=>⟨g,h,Ext.refl _ _⟩
 | (p,m,e,s) :: r,st,g,h=>by
  obtain ⟨g1,h1,h2⟩:=h.norm1 p m e s
  obtain ⟨g2,h3,h4⟩:=Inv.normL r h1
  exact ⟨g2,h3,h2.trans h4⟩
def RunsB (P:Program) (base:Nat) (c:Code) (st:St) (x:Exit) (st':St):Prop:=
 ∀(g:Gh) (a:Act) (w:World),Inv P g st a.tmps w→c.wp P (fun e a' w'=>e=x∧∃g',Inv P g' st' a'.tmps w'∧Ext (g.cut base) (g'.cut base) w w'∧a'.defers=a.defers) a w
theorem RunsB.post {P:Program} {base:Nat} {g g1:Gh} {a a1:Act} {w w1:World} {x:Exit} {st':St} (hE:Ext (g.cut base) (g1.cut base) w w1) (hd:a1.defers=a.defers):∀(e:Exit) (a':Act) (w':World),
  (e=x∧∃g',Inv P g' st' a'.tmps w'∧Ext (g1.cut base) (g'.cut base) w1 w'∧a'.defers=a1.defers)→(e=x∧∃g',Inv P g' st' a'.tmps w'∧Ext (g.cut base) (g'.cut base) w w'∧a'.defers=a.defers):=by
 rintro e a' w' ⟨h1,g',h2,h3,h4⟩
 exact ⟨h1,g',h2,hE.trans h3,h4.trans hd⟩
theorem wantK_ok {R:Type} {ops:Array Oper} {o:Oper} {st:St} {k:Bool→St→Option R} {r:R} (h:wantK ops o st k=some r):∃b st0,st.Eqv st0∧wantedA ops o st=some b∧k b st0=some r:=by
 unfold wantK at h
 split at h
 ·rename_i hg
  exact ⟨true,st,.refl _,by simp only [wantedA,hg],h⟩
 ·rename_i j want hg
  split at h
  ·rename_i p hp
   split at h
   ·rename_i t ht
    split at h
    ·rename_i b hb
     have hl:lkp st.ts t=.lit (.bool b):=by
      simp only [St.get] at hb
      split at hb
      ·exact Option.some.inj hb
      ·cases hb
     cases b with
     | true=>exact ⟨_,_,litB_eqv hl,by simp only [wantedA,hg,hp,ht,hb],h⟩
     | false=>exact ⟨_,_,litB_eqv hl,by simp only [wantedA,hg,hp,ht,hb],h⟩
    ·rename_i v hnb hb
     refine ⟨false,st,.refl _,?_,h⟩
     simp only [wantedA,hg,hp,ht,hb]
    ·cases h
   ·rename_i ht
    exact ⟨false,st,.refl _,by simp only [wantedA,hg,hp,ht],h⟩
  ·rename_i hp
   exact ⟨false,st,.refl _,by simp only [wantedA,hg,hp],h⟩
theorem opK_wp {R:Type} {C:TC} (hC:C.Ok) {bxs:Bool} {o:Oper} {st:St} {k:St→Option R} {r:R} (h:opK C bxs o st k=some r):∃s,k s=some r∧(bxs=false→sigKeep C.C.P o st=true→s.σ=st.σ)∧
  ∀{g:Gh} {a:Act} {w:World} {next:Act→World→Prop} {Q:Exit→Act→World→Prop},Inv C.C.P g st a.tmps w→
   (∀a' w' g',Inv C.C.P g' s a'.tmps w'→Ext g g' w w'→a'.defers=a.defers→(∃v,a'=a.put o.dst v)→(keepKind o.op=true→bxs=false→BoxKeep g w w')→next a' w')→o.wp C.C.P a w next Q:=by
 obtain ⟨st0,call,mv,inv,s,h1,h2,h6,h3,h4,h5⟩:=opK_ok hC h
 exact ⟨s,h4,h5,fun hi hn=>evOp'_soundK (C:={ C.C with call,mv,inv }) hC.1 h2 h6 (hi.eqv h1) h3 hn⟩
theorem Inv.leaveB {P:Program} {st:St} {g:Gh} {vs:Array Value} {w:World} (h:Inv P g st vs w) (a:Nat):∃g',Inv P g' (st.leave a) vs w∧Ext g g' w w:=by
 unfold St.leave
 split
 ·rename_i u ha
  split
  ·rename_i fl xs hc
   split
   ·rename_i hcond
    simp only [Bool.and_eq_true,Bool.not_eq_true'] at hcond
    obtain ⟨ho,hne⟩:=hcond
    have hne:u≠a:=fun e=>by rw [e,Nat.beq_refl] at hne;cases hne
    obtain ⟨v,hv,hs⟩:=h.slot a _ ha
    obtain ⟨_,hs2⟩:=hs
    obtain ⟨g1,v',i1,i2,i3,i4,i5⟩:=h.share hc ho
    have hr0:realAt g vs w (.tmp u)=some v':=i3
    have hvv:v'=v:=by
     have:some v'=some v:=hr0.symm.trans hs2
     exact Option.some.inj this
    subst hvv
    have hlt:a<st.n:=get_lt ha
    obtain ⟨g2,j1,j2⟩:=i1.moveTmp (d:=a) hlt (p:=.tmp u) (by intro e;injection e with e;exact hne e) (contentAt_put_self hc) rfl i3
    have hself:vs.setIfInBounds a v'=vs:=by
     apply Array.ext_getElem?
     intro i
     rw [Array.getElem?_setIfInBounds]
     split
     ·rename_i e
      subst e
      split
      ·exact hv.symm
      ·rename_i hh;rw [Array.getElem?_eq_none (by omega)]
     ·rfl
    rw [hself] at j1
    have hu:u<(((st.putP (.tmp u) (.sl (.own fl.e) false xs)).setP (.tmp u) .dead).setP (.tmp a) (.sl (.own fl.e) false xs)).n:=by
     rw [tsLen_setP,tsLen_setP]
     exact (show u<st.n from get_lt (show st.get u=some _ from hc))
    have hc2:∃y,contentAt (((st.putP (.tmp u) (.sl (.own fl.e) false xs)).setP (.tmp u) .dead).setP (.tmp a) (.sl (.own fl.e) false xs)) (.tmp u)=some y:=by
     simp only [contentAt,St.get,if_pos hu]
     exact ⟨_,rfl⟩
    obtain ⟨y,hc2⟩:=hc2
    exact ⟨g2,j1.same hc2 hr0 (.inl rfl) (fun _=>i4.ext j2),i2.trans j2⟩
   ·exact ⟨g,h,Ext.refl _ _⟩
  ·exact ⟨g,h,Ext.refl _ _⟩
 ·exact ⟨g,h,Ext.refl _ _⟩
theorem opLK_wp {R:Type} {C:TC} (hC:C.Ok) {o:Oper} {st:St} {k:St→Option R} {r:R} (h:opLK C o st k=some r):∃s,k s=some r∧
  ∀{g:Gh} {a:Act} {w:World} {next:Act→World→Prop} {Q:Exit→Act→World→Prop},Inv C.C.P g st a.tmps w→
   (∀a' w' g',Inv C.C.P g' s a'.tmps w'→Ext g g' w w'→a'.defers=a.defers→next a' w')→o.wp C.C.P a w next Q:=by
 unfold opLK at h
 split at h
 ·rename_i x _
  rw [nrmS_eq] at h
  obtain ⟨s,h1,_,h2⟩:=opK_wp hC h
  refine ⟨s,h1,fun {g a w next Q} hi hn=>?_⟩
  obtain ⟨g1,i1,i2⟩:=hi.leaveB x
  exact h2 i1 fun a' w' g' j1 j2 j3 _ _=>hn a' w' g' j1 (i2.trans j2) j3
 ·obtain ⟨s,h1,_,h2⟩:=opK_wp hC h
  exact ⟨s,h1,fun {g a w next Q} hi hn=>h2 hi fun a' w' g' j1 j2 j3 _ _=>hn a' w' g' j1 j2 j3⟩
theorem opsK_ok {R:Type} {C:TC} (hC:C.Ok) {ops:Array Oper}:∀{m:Nat} {l:List Oper},l.length≤m→∀{st:St} {k:St→Option R} {r:R},opsK C ops l st k=some r→∃s,k s=some r∧
  ∀{g:Gh} {a:Act} {w:World} {Q:Exit→Act→World→Prop},Inv C.C.P g st a.tmps w→
   (∀a' w' g',Inv C.C.P g' s a'.tmps w'→Ext g g' w w'→a'.defers=a.defers→Q .normal a' w')→wpList C.C.P ops Q l a w:=by
 intro m
 induction m with
 | zero=>
  intro l hl st k r h
  cases l with
  | nil=>exact ⟨st,h,fun hi hQ=>hQ _ _ _ hi (Ext.refl _ _) rfl⟩
  | cons o l=>simp at hl
 | succ m ih=>
  intro l hl st k r h
  cases l with
  | nil=>exact ⟨st,h,fun hi hQ=>hQ _ _ _ hi (Ext.refl _ _) rfl⟩
  | cons o l=>
   simp only [List.length_cons] at hl
   unfold opsK at h
   split at h
   ·rename_i st1 hbb
    obtain ⟨hg,o2,rest2,rfl,hg2,h1⟩:=bb_ok hbb
    simp only [nrmS_eq] at h
    simp only [List.length_cons] at hl
    obtain ⟨s,h6,h7⟩:=ih (l:=rest2) (by omega) h
    refine ⟨s,h6,fun {g a w Q} hi hQ=>?_⟩
    unfold wpList
    rw [if_pos (by unfold Region.wanted;rw [hg])]
    refine .inl (Oper.wp_mono (fun a1 w1 hk=>?_) (h1 hi (K:=wpList C.C.P ops Q rest2) fun a' w' g' i1 i2 i3=>h7 i1 fun a2 w2 g2 j1 j2 j3=>hQ a2 w2 g2 j1 (i2.trans j2) (j3.trans i3)))
    unfold wpList
    rw [if_pos (by unfold Region.wanted;rw [hg2])]
    exact .inl hk
   ·obtain ⟨b,st0,h1,h2,h3⟩:=wantK_ok h
    cases b with
    | true=>
     obtain ⟨s1,h4,h5⟩:=opLK_wp hC h3
     rw [nrmS_eq] at h4
     obtain ⟨s,h6,h7⟩:=ih (l:=l) (by omega) h4
     refine ⟨s,h6,fun {g a w Q} hi hQ=>?_⟩
     unfold wpList
     rw [if_pos (wanted_sound hi h2)]
     refine .inl (h5 (hi.eqv h1) fun a' w' g' i1 i2 i3=>?_)
     exact h7 i1 fun a2 w2 g2 j1 j2 j3=>hQ a2 w2 g2 j1 (i2.trans j2) (j3.trans i3)
    | false=>
     obtain ⟨s1,h4,h5⟩:=setDK_some h3
     rw [nrmS_eq] at h5
     obtain ⟨s,h6,h7⟩:=ih (l:=l) (by omega) h5
     refine ⟨s,h6,fun {g a w Q} hi hQ=>?_⟩
     unfold wpList
     rw [if_neg (by rw [wanted_sound hi h2];simp)]
     have i1:=setD_rel (hi.eqv h1) h4 (.lit undef)
     refine h7 (g:=g) ?_ fun a2 w2 g2 j1 j2 j3=>hQ a2 w2 g2 j1 j2 (j3.trans (put_defers _ _ _))
     rw [put_tmps];exact i1
theorem restrictK_ok {R:Type} {P:Program} {can:TypeId→List (Nat×Nat×TypeId×Sh)} {vw:List Nat} {tt:Nat→Option (TypeId×Sh)} {base:Nat} {hh:Option Hint} {st:St} {k:St→Option R} {r:R} (h:restrictK can vw tt base hh st k=some r):∃s,k s=some r∧
  ∀{g:Gh} {vs:Array Value} {w:World},Inv P g st vs w→∃g',Inv P g' s vs w∧Ext (g.cut base) (g'.cut base) w w:=by
 unfold restrictK at h
 split at h
 ·exact ⟨st,h,fun {g vs w} hi=>⟨g,hi,Ext.refl _ _⟩⟩
 ·rename_i hn
  rw [nrmS_eq,nrmS_eq] at h
  have key:∀{g:Gh} {vs:Array Value} {w:World},Inv P g st vs w→∃g',Inv P g' (St.normL (tmpNorms vw tt (st.keepTo hn).ts++boxNorms can 0 (st.keepTo hn).σ) (st.keepTo hn)) vs w∧Ext (g.cut base) (g'.cut base) w w:=fun {g vs w} hi=>by
   obtain ⟨g1,h1,h2⟩:=hi.keepTo hn
   obtain ⟨g2,h3,h4⟩:=Inv.normL (tmpNorms vw tt (st.keepTo hn).ts++boxNorms can 0 (st.keepTo hn).σ) h1
   exact ⟨g2,h3,(h2.trans h4).cut base⟩
  generalize St.normL (tmpNorms vw tt (st.keepTo hn).ts++boxNorms can 0 (st.keepTo hn).σ) (st.keepTo hn)=st1 at h key
  split at h
  ·split at h
   ·rename_i hb
    split at h
    ·rename_i st2 hf
     rw [nrmS_eq] at h
     refine ⟨_,h,fun {g vs w} hi=>?_⟩
     obtain ⟨g1,h1,h2⟩:=key hi
     obtain ⟨g2,h3,h4⟩:=h1.freezeBox hb hf
     exact ⟨g2,h3,h2.trans h4⟩
    ·cases h
   ·cases h
  ·split at h
   ·exact ⟨_,h,fun {g vs w} hi=>key hi⟩
   ·rename_i n _
    split at h
    ·rename_i hc
     refine ⟨_,h,fun {g vs w} hi=>?_⟩
     obtain ⟨g1,h1,h2⟩:=key hi
     refine ⟨g1.cut n,h1.cutTo hc.2.2 hc.2.1,?_⟩
     rw [cut_cut g1 hc.1]
     exact h2
    ·cases h
theorem Inv.reTs {P:Program} {st:St} {g:Gh} {vs:Array Value} {w:World} (h:Inv P g st vs w) {ts':List (Nat×PV)}
  (hts:∀t,t<st.n→lkp ts' t=.dead∨
   (lkp ts' t=lkp st.ts t∧∀s,(lkp st.ts t).root=some (.tmp s)→lkp ts' s=lkp st.ts s)∨
   ∃v,vs[t]? = some v∧Rel g w (lkp ts' t) v∧(lkp ts' t).plain=true):Inv P g { ts:=ts',n:=st.n,σ:=st.σ } vs w:=by
 have:=h.part (fun _=>true) (ts':=ts') fun t ht=>by
  rcases hts t ht with h1 | ⟨h1,h2⟩ | h1
  ·exact .inl h1
  ·exact .inr (.inl ⟨h1,fun _=>rfl,h2⟩)
  ·exact .inr (.inr h1)
 have hg:g.part (fun _=>true)=g:=by
  obtain ⟨rho,FP,ow⟩:=g
  simp only [Gh.part]
  congr 1
  funext b
  cases ow b with
  | none=>rfl
  | some o=>
   have:hd (fun _=>true) o=false:=by
    cases o with
    | plc p=>cases p <;> rfl
    | _=>rfl
   exact pO_see this
 rwa [hg] at this
theorem mem_insN {t u:Nat}:∀{l:List Nat},u∈insN t l↔u=t∨u∈l
 | []=>by simp [insN]
 | x :: r=>by
  unfold insN
  split
  ·simp
  ·simp only [List.mem_cons,mem_insN (l:=r)]
   constructor
   ·rintro (h | h | h)
    ·exact .inr (.inl h)
    ·exact .inl h
    ·exact .inr (.inr h)
   ·rintro (h | h | h)
    ·exact .inr (.inl h)
    ·exact .inl h
    ·exact .inr (.inr h)
theorem mem_isort {u:Nat}:∀{l:List Nat},u∈isort l↔u∈l
 | []=>by simp [isort]
 | t :: r=>by rw [isort,mem_insN,mem_isort (l:=r)];simp
theorem lkp_none {l:List (Nat×PV)} {t:Nat} (h:t∉l.map (·.1)):lkp l t=.dead:=by
 rcases lkp_mem l t with h1 | h1
 ·exact h1
 ·exact absurd (List.mem_map.2 ⟨_,h1,rfl⟩) h
theorem Inv.sortS {P:Program} {st:St} {g:Gh} {vs:Array Value} {w:World} (h:Inv P g st vs w):Inv P g (sortS st) vs w:=by
 refine h.congr fun t=>?_
 rw [lkp_pickL0]
 split
 ·rfl
 ·rename_i hn
  rw [mem_isort] at hn
  exact (lkp_none hn).symm
theorem prepK_ok {P:Program} {st:St} {g:Gh} {vs:Array Value} {w:World} (hh:LH) (h:Inv P g st vs w):∃g',Inv P g' (prepK hh st) vs w∧Ext g g' w w:=by
 unfold prepK
 split
 ·obtain ⟨g',h1,h2⟩:=Inv.normL (nzL hh.nz++exclL hh.excl st.ts) h
  exact ⟨g',h1.sortS,h2⟩
 ·rename_i l _
  obtain ⟨g',h1,h2⟩:=Inv.normL (nzL hh.nz++exclL hh.excl (keepL l st.ts l)) (h.keep l)
  exact ⟨g',h1.sortS,h2⟩
theorem normL_n:∀(l:List (Plc×Nat×TypeId×Sh)) (st:St),(St.normL l st).n=st.n
 | [],st=>rfl
 | (p,m,e,s) :: r,st=>by
  simp only [St.normL]
  rw [normL_n r]
  unfold St.norm1
  split
  ·split
   ·exact tsLen_setP
   ·split
    ·split
     ·split
      ·rename_i x st1 hu
       rw [tsLen_setP]
       unfold St.useP at hu
       split at hu
       ·split at hu
        ·injection hu with hu;injection hu with _ hu;subst hu;exact putP_share_n
        ·injection hu with hu;injection hu with _ hu;subst hu;rfl
       ·injection hu with hu;injection hu with _ hu;subst hu;rfl
       ·cases hu
       ·cases hu
       ·cases hu
       ·injection hu with hu;injection hu with _ hu;subst hu;rfl
       ·cases hu
      ·rfl
     ·rfl
    ·split
     ·exact putP_share_n
     ·rfl
    ·rfl
  ·rfl
theorem prepK_n (hh:LH) (st:St):(prepK hh st).n=st.n:=by
 unfold prepK
 split <;> exact normL_n _ _
theorem Inv.pickT {P:Program} {st:St} {g:Gh} {vs:Array Value} {w:World} (h:Inv P g st vs w) {T:List Nat} (hr:(T.all fun t=>rootIn T (lkp st.ts t))=true):Inv P g { ts:=pickL st.ts T,n:=st.n,σ:=st.σ } vs w:=by
 refine h.reTs fun t _=>?_
 rw [lkp_pickL0]
 by_cases ht:t∈T
 ·right;left
  rw [if_pos ht]
  refine ⟨rfl,fun s hs=>?_⟩
  have:=List.all_eq_true.1 hr t ht
  unfold rootIn at this
  rw [hs] at this
  rw [lkp_pickL0,if_pos (by simpa using this)]
 ·left;rw [if_neg ht]
theorem backK_ok {R:Type} {P:Program} {T:ST} {base n:Nat} {st:St} {k:St→Option R} {r:R} (h:backK T base n st k=some r):∃s,k s=some r∧s.n=n∧
  ∀{g:Gh} {vs:Array Value} {w:World},Inv P g st vs w→∃g',Inv P g' s vs w∧Ext (g.cut base) (g'.cut base) w w:=by
 unfold backK at h
 rw [nrmS_eq] at h
 split at h
 ·rename_i hc
  simp only [Bool.and_eq_true] at hc
  have hn:=Nat.eq_of_beq_eq_true hc.1
  have key:∀{g:Gh} {vs:Array Value} {w:World},Inv P g st vs w→∃g',Inv P g' (sortS (St.normL (likeL T.ts) { ts:=pickL st.ts (T.ts.map (·.1)),n:=st.n,σ:=st.σ })) vs w∧Ext (g.cut base) (g'.cut base) w w:=fun {g vs w} hi=>by
   obtain ⟨g2,h3,h4⟩:=Inv.normL (likeL T.ts) (hi.pickT hc.2)
   exact ⟨g2,h3.sortS,h4.cut base⟩
  have hn':(sortS (St.normL (likeL T.ts) { ts:=pickL st.ts (T.ts.map (·.1)),n:=st.n,σ:=st.σ })).n=n:=(normL_n _ _).trans hn
  generalize sortS (St.normL (likeL T.ts) { ts:=pickL st.ts (T.ts.map (·.1)),n:=st.n,σ:=st.σ })=st1 at h key hn'
  split at h
  ·rename_i hlt
   split at h
   ·rename_i hcc
    refine ⟨_,h,hn',fun {g vs w} hi=>?_⟩
    obtain ⟨g1,h1,h2⟩:=key hi
    refine ⟨g1.cut T.bx.length,h1.cutTo hcc.2 (by simp only [Nat.blt_eq] at hlt;omega),?_⟩
    rw [cut_cut g1 hcc.1]
    exact h2
   ·cases h
  ·exact ⟨_,h,hn',fun {g vs w} hi=>key hi⟩
 ·cases h
theorem lkp_delAll_ne {T:List Nat}:∀{l:List (Nat×PV)} {t:Nat},t∉T→lkp (delAll T l) t=lkp l t:=by
 induction T with
 | nil=>intro l t _;rfl
 | cons u r ih=>
  intro l t h
  simp only [List.mem_cons,not_or] at h
  simp only [delAll]
  rw [ih h.2,lkp_del_ne l (Ne.symm h.1)]
structure StepF (P:Program) (ops:Array Oper) (n:Nat) (fz:List Nat) (chg:Nat→Bool) (σs:Nat→List Bx) (j:Nat) (o:Oper) (s:DS) (ts ts':List (Nat×PV)):Prop where
 po:∀t,t∉turns fz s o→lkp ts' t=lkp ts t
 run:∀m,loF ops chg j≤m→m≤hiF ops chg j→loF ops chg j≤hiF ops chg j→(alIn ops fz chg (loF ops chg j) (hiF ops chg j)=true→∃τ,σs m=σs (loF ops chg j)++τ)→∃loc σ',StepRuns P ops j o s.chg { ts:=pickL ts s.T,n,σ:=σs m } { ts:=loc,n,σ:=σ' }∧σ'=σs (if s.chg then m+1 else m)∧
  ∀t,t∈turns fz s o→lkp ts' t=lkp loc t
 app:s.chg=true→isAl o=true→isFz fz o=false→∃τ,σs (loF ops chg j+1)=σs (loF ops chg j)++τ
theorem freezeD_sound {P:Program} {fz:Bool} {d:Option Tmp} {st st2:St} {g:Gh} {vs:Array Value} {w:World} (hi:Inv P g st vs w) (h:freezeD fz d st=some st2):∃g',Inv P g' st2 vs w∧Ext g g' w w∧st2.n=st.n:=by
 unfold freezeD at h
 split at h
 ·rename_i d
  split at h
  ·rename_i x st3 hu
   obtain ⟨g2,j1,j2,j3,_,j5⟩:=use_sound hi hu
   have hd':d<st3.n:=by
    simp only [St.setD] at h
    split at h
    ·assumption
    ·cases h
   have k:=setD_rel j1 h j3
   have hv:putT vs (some d) (evalV vs (.tmp d))=vs:=by
    simp only [putT,evalV]
    have hlt:d<vs.size:=by rw [j1.size];exact hd'
    exact setIf_self vs d _ (by rw [Array.getElem?_eq_getElem hlt];simp [Array.getD_eq_getD_getElem?,Array.getElem?_eq_getElem hlt])
   rw [hv] at k
   exact ⟨g2,k,j2,by rw [setD_n h,j5]⟩
  ·cases h
 ·injection h with h;subst h
  exact ⟨g,hi,Ext.refl _ _,rfl⟩
theorem freezeD_σ {fz:Bool} {d:Option Tmp} {st st2:St} (hn:fz=true→NCA st) (h:freezeD fz d st=some st2):st2.σ=st.σ:=by
 unfold freezeD at h
 split at h
 ·split at h
  ·rename_i x st3 hu
   exact (setD_σ h).trans (use_σ (hn rfl) hu).1
  ·cases h
 ·injection h with h;subst h;rfl
theorem setP_any {st:St} {d:Nat} {x:PV} (σ:List Bx):({ st with σ }:St).setP (.tmp d) x = { st.setP (.tmp d) x with σ }:=by
 unfold St.setP ownAt
 have:contentAt ({ st with σ }:St) (.tmp d)=contentAt st (.tmp d):=rfl
 rw [this]
 cases contentAt st (.tmp d) with
 | none=>rfl
 | some y=>cases hy:y.isOwn <;> simp only [hy] <;> rfl
theorem setD_any {st:St} {d:Option Tmp} {x:PV} (σ:List Bx):({ st with σ }:St).setD d x=(st.setD d x).map fun s=>{ s with σ }:=by
 cases d with
 | none=>rfl
 | some d=>
  simp only [St.setD]
  split
  ·simp only [Option.map_some,setP_any]
  ·rfl
theorem simple_any {C:Ctx} {o:Oper} {st s:St} (hs:simple o=true) (h:evOp C o st=some s) (σ:List Bx):evOp C o { st with σ } = some { s with σ }:=by
 unfold simple at hs
 split at hs
 ·rename_i x ho
  unfold evOp at h ⊢
  rw [ho] at h ⊢
  simp only at h ⊢
  unfold evMove at h ⊢
  have hg:∀t,({ st with σ }:St).get t=st.get t:=fun t=>rfl
  cases x with
  | const v=>simp only at h ⊢;rw [setD_any,h];rfl
  | func f=>simp only at h ⊢;rw [setD_any,h];rfl
  | global g=>cases h
  | tmp u=>
   simp only [hg] at h ⊢
   cases hgu:st.get u with
   | none=>rw [hgu] at h;cases h
   | some y=>
    rw [hgu] at h
    cases y with
    | sl fl n xs=>
     simp only at h ⊢
     split at h
     ·rename_i ho'
      rw [if_pos ho']
      split at h
      ·cases h
      ·rename_i hd
       rw [if_neg hd,setD_any,h];rfl
     ·rename_i ho'
      rw [if_neg ho',setD_any,h];rfl
    | alias q=>
     simp only at h ⊢
     cases hd:o.dst with
     | none=>rw [hd] at h;simp only at h ⊢;injection h with h;rw [h]
     | some t=>
      rw [hd] at h
      simp only at h ⊢
      split at h
      ·cases h
      ·rename_i hq
       rw [if_neg hq,setD_any,h];rfl
    | elem q k off=>
     simp only at h ⊢
     cases hd:o.dst with
     | none=>rw [hd] at h;simp only at h ⊢;injection h with h;rw [h]
     | some t=>
      rw [hd] at h
      simp only at h ⊢
      split at h
      ·cases h
      ·rename_i hq
       rw [if_neg hq,setD_any,h];rfl
    | dead=>cases h
    | _=>simp only at h ⊢;rw [setD_any,h];rfl
 ·cases hs
theorem stepDK_ok {R:Type} {C:TC} (hC:C.Ok) {ops:Array Oper} {n j:Nat} {o:Oper} {s:DS} {fz b one al last:Bool} {loc:List (Nat×PV)} {σ:List Bx} {k:List (Nat×PV)→List Bx→Option R} {r:R} (ho:ops[j]? = some o)
  (hw:∀σ2,wantedA ops o { ts:=loc,n,σ:=σ2 } = some b) (h:stepDK C o s fz b one al last { ts:=loc,n,σ } k=some r) :
  ∃loc' σ',k loc' σ'=some r∧StepRuns C.C.P ops j o s.chg { ts:=loc,n,σ } { ts:=loc',n,σ:=σ' }∧(s.chg=false→σ'=σ)∧(s.chg=true→one=true∧last=true)∧
   (one=false→s.chg=false→∀σ2,(al=true→∃τ,σ2=σ++τ)→StepRuns C.C.P ops j o false { ts:=loc,n,σ:=σ2 } { ts:=loc',n,σ:=σ2 })∧
   (isAl o=true→fz=false→∃τ,σ'=σ++τ):=by
 have hskip:∀{c:Bool} {st1:St} {σ2:List Bx},b=false→({ ts:=loc,n,σ:=σ2 }:St).setD o.dst (.lit undef)=some st1→StepRuns C.C.P ops j o c { ts:=loc,n,σ:=σ2 } { ts:=st1.ts,n,σ:=st1.σ }:=by
  intro c st1 σ2 hb h1 g a w K Q hi hK
  have hw:=hw σ2
  rw [hb] at hw
  unfold wpOp
  rw [ho]
  simp only
  rw [if_neg (by rw [wanted_sound hi hw];simp)]
  have i1:=setD_rel hi h1 (.lit undef)
  have hn:st1.n=n:=setD_n h1
  refine hK _ w g ?_ (Ext.refl _ _) (put_defers _ _ _) ⟨undef,rfl⟩ fun _=>.refl _ _
  rw [put_tmps,←hn];exact i1
 have hrun:∀{c:Bool} {st1 st2:St} {σ2 σ3:List Bx},b=true→
   (∀{g:Gh} {a:Act} {w:World} {next:Act→World→Prop} {Q:Exit→Act→World→Prop},Inv C.C.P g { ts:=loc,n,σ:=σ2 } a.tmps w→
    (∀a' w' g',Inv C.C.P g' st1 a'.tmps w'→Ext g g' w w'→a'.defers=a.defers→(∃v,a'=a.put o.dst v)→(c=false→BoxKeep g w w')→next a' w')→o.wp C.C.P a w next Q)→
   freezeD fz o.dst st1=some st2→st2.σ=σ3→StepRuns C.C.P ops j o c { ts:=loc,n,σ:=σ2 } { ts:=st2.ts,n,σ:=σ3 }:=by
  intro c st1 st2 σ2 σ3 hb hop hfr hσ g a w K Q hi hK
  subst hσ
  have hw:=hw σ2
  rw [hb] at hw
  unfold wpOp
  rw [ho]
  simp only
  rw [if_pos (wanted_sound hi hw)]
  refine .inl (hop hi fun a' w' g' i1 i2 i3 i4 i5=>?_)
  have hsz:st1.n=n:=by
   obtain ⟨v,rfl⟩:=i4
   have e1:=i1.size
   have e2:a.tmps.size=n:=hi.size
   rw [put_tmps] at e1
   rw [←e1]
   cases o.dst <;> simp [putT,e2]
  obtain ⟨g2,j1,j2,j3⟩:=freezeD_sound i1 hfr
  refine hK a' w' g2 ?_ (i2.trans j2) i3 i4 i5
  rw [←hsz,←j3];exact j1
 unfold stepDK at h
 cases b with
 | false=>
  simp only at h
  split at h
  ·cases h
  ·rename_i hcl
   obtain ⟨st1,h1,h2⟩:=setDK_some h
   have e:=setD_σ h1
   refine ⟨_,_,h2,hskip rfl h1,fun _=>e,fun hc=>?_,fun _ _ σ2 _=>?_,fun _ _=>⟨[],by rw [List.append_nil];exact e⟩⟩
   ·rw [hc] at hcl
    simpa using hcl
   ·have h3:=setD_any (st:={ ts:=loc,n,σ }) (d:=o.dst) (x:=.lit undef) σ2
    rw [h1] at h3
    exact hskip rfl h3
 | true=>
  simp only at h
  cases hc:s.chg with
  | true=>
   rw [hc] at h
   simp only at h
   split at h
   ·rename_i hol
    have hnone:one=false→s.chg=false→∀σ2,(al=true→∃τ,σ2=σ++τ)→StepRuns C.C.P ops j o false { ts:=loc,n,σ:=σ2 } { ts:=loc,n,σ:=σ2 }:=fun _ e=>by rw [hc] at e;cases e
    cases hal:isAl o with
    | true=>
     have hop:opK C true o { ts:=loc,n,σ } = orK (evOp C.C o { ts:=loc,n,σ }) (R:=R):=by
      unfold isAl at hal
      split at hal
      ·rename_i t e;unfold opK;rw [e]
      ·cases hal
     rw [hop] at h
     obtain ⟨st1,h1,h2⟩:=orK_some h
     split at h2
     ·rename_i st2 hf
      rw [nrmB_eq] at h2
      refine ⟨_,_,h2,hrun rfl (fun hi hn=>(evOp_sound hi h1).wp fun a' w' g' i1 i2 i3 i4 _=>hn a' w' g' i1 i2 i3 i4 fun e=>by cases e) hf rfl,fun e=>(by cases e),fun _=>by simpa using hol,fun _ e=>(by cases e),fun _ hf0=>?_⟩
      subst hf0
      have e2:st1=st2:=by
       unfold freezeD at hf
       exact Option.some.inj hf
      rw [←e2]
      unfold isAl at hal
      split at hal
      ·rename_i t e
       unfold evOp at h1
       rw [e] at h1
       simp only [evAlloc] at h1
       split at h1
       ·rename_i cs _
        exact ⟨[.cells t cs],setD_σ h1⟩
       ·cases h1
      ·cases hal
     ·cases h2
    | false=>
     obtain ⟨st1,h1,_,h2⟩:=opK_wp hC h
     split at h1
     ·rename_i st2 hf
      rw [nrmB_eq] at h1
      exact ⟨_,_,h1,hrun rfl (fun hi hn=>h2 hi fun a' w' g' i1 i2 i3 i4 _=>hn a' w' g' i1 i2 i3 i4 fun e=>by cases e) hf rfl,fun e=>(by cases e),fun _=>by simpa using hol,fun _ e=>(by cases e),fun e=>(by cases e)⟩
     ·cases h1
   ·cases h
  | false=>
   rw [hc] at h
   simp only at h
   cases hoa:(one || (al && !(simple o && !fz))) with
   | true=>
    rw [hoa] at h
    simp only at h
    split at h
    ·rename_i hks
     simp only [Bool.and_eq_true] at hks
     obtain ⟨st1,h1,hσ,h2⟩:=opK_wp hC h
     have hσ:=hσ rfl hks.1.2
     split at h1
     ·cases h1
     ·rename_i hfn
      split at h1
      ·rename_i st2 hf
       have hσ2:st2.σ=σ:=(freezeD_σ (fun e=>by
        rw [e] at hfn
        exact noCA_ok (by simpa using hfn)) hf).trans hσ
       have hmain:StepRuns C.C.P ops j o false { ts:=loc,n,σ } { ts:=st2.ts,n,σ }:=hrun rfl (fun hi hn=>h2 hi fun a' w' g' i1 i2 i3 i4 i5=>hn a' w' g' i1 i2 i3 i4 fun _=>i5 hks.1.1 rfl) hf hσ2
       refine ⟨_,_,h1,hmain,fun _=>rfl,fun e=>(by cases e),fun ho _ σ2 h3=>?_,fun e=>?_⟩
       ·subst ho
        simp only [Bool.false_or,Bool.and_eq_true] at hoa
        obtain ⟨τ,rfl⟩:=h3 hoa.1
        exact hmain.more (by simpa using hks.2) τ
       ·exact fun _=>⟨[],(List.append_nil _).symm⟩
      ·cases h1
    ·cases h
   | false=>
    rw [hoa] at h
    simp only at h
    split at h
    ·rename_i hsn
     simp only [Bool.and_eq_true] at hsn
     obtain ⟨st1,h1,h2⟩:=orK_some h
     have hfz:fz=false:=by simpa using hsn.2
     subst hfz
     have hkk:keepKind o.op=true∧sigKeep C.C.P o { ts:=loc,n,σ } = true:=by
      have:=hsn.1
      unfold simple at this
      split at this
      ·rename_i x hx
       exact ⟨by rw [hx];rfl,by unfold sigKeep;rw [hx]⟩
      ·cases this
     have hev:∀{σ2:List Bx} {s1:St},evOp C.C o { ts:=loc,n,σ:=σ2 } = some s1→∀{g:Gh} {a:Act} {w:World} {next:Act→World→Prop} {Q:Exit→Act→World→Prop},Inv C.C.P g { ts:=loc,n,σ:=σ2 } a.tmps w→
       (∀a' w' g',Inv C.C.P g' s1 a'.tmps w'→Ext g g' w w'→a'.defers=a.defers→(∃v,a'=a.put o.dst v)→(false=false→BoxKeep g w w')→next a' w')→o.wp C.C.P a w next Q:=by
      intro σ2 s1 he g a w next Q hi hn
      exact (evOp_sound hi he).wp fun a' w' g' i1 i2 i3 i4 i5=>hn a' w' g' i1 i2 i3 i4 fun _=>i5 hkk.1
     have hfr:∀s1:St,freezeD false o.dst s1=some s1:=fun s1=>by unfold freezeD;cases o.dst <;> rfl
     refine ⟨_,_,h2,?_,fun _=>rfl,fun e=>(by cases e),fun _ _ σ2 _=>?_,fun _ _=>⟨[],(List.append_nil _).symm⟩⟩
     ·have h3:=simple_any hsn.1 h1 σ
      exact hrun (st2:={ st1 with σ:=σ }) rfl (hev h3) (hfr _) rfl
     ·have h3:=simple_any hsn.1 h1 σ2
      exact hrun (st2:={ st1 with σ:=σ2 }) rfl (hev h3) (hfr _) rfl
    ·cases h
theorem StepRuns.eqv {P:Program} {ops:Array Oper} {j:Nat} {o:Oper} {chg:Bool} {st st0 st':St} (h:StepRuns P ops j o chg st0 st') (e:st.Eqv st0):StepRuns P ops j o chg st st':=
 fun g a w K Q hi hK=>h g a w K Q (hi.eqv e) hK
theorem wantedA_local {ops:Array Oper} {o:Oper} {T:List Nat} {n:Nat} {ts ts0:List (Nat×PV)} {σ σ2:List Bx} (hg:guardIn ops o T=true) (he:∀t,lkp ts0 t=lkp ts t):wantedA ops o { ts:=pickL ts0 T,n,σ:=σ2 } = wantedA ops o { ts,n,σ }:=by
 unfold guardIn at hg
 unfold wantedA
 split
 ·rename_i h;simp only [h]
 ·rename_i j want h
  simp only [h] at hg ⊢
  cases hp:ops[j]? with
  | none=>rfl
  | some p=>
   rw [hp] at hg
   simp only at hg ⊢
   cases hd:p.dst with
   | none=>rfl
   | some t=>
    rw [hd] at hg
    simp only at hg ⊢
    have:St.get { ts:=pickL ts0 T,n,σ:=σ2 } t=St.get { ts,n,σ } t:=by
     simp only [St.get]
     split
     ·rw [lkp_pickL0,if_pos (by simpa using hg),he]
     ·rfl
    rw [this]
theorem pickL_eqv {ts ts0:List (Nat×PV)} {T:List Nat} {n:Nat} {σ:List Bx} (he:∀t,lkp ts0 t=lkp ts t):St.Eqv { ts:=pickL ts T,n,σ } { ts:=pickL ts0 T,n,σ }:=
 ⟨rfl,rfl,fun t=>by rw [lkp_pickL0,lkp_pickL0,he]⟩
theorem drawGoK_ok {R:Type} {C:TC} (hC:C.Ok) {ops:Array Oper} {n:Nat} {fz:List Nat} {chg:Nat→Bool}:∀{os:List Oper} {ss:List DS} {j:Nat} {ts:List (Nat×PV)} {tss:List (List (Nat×PV))} {σs:List (List Bx)}
  {k:List (List (Nat×PV))→List (List Bx)→Option R} {r:R},(∀k,os[k]? = ops[j+k]?)→drawGoK C (closure ops) ops n fz chg j os ss ts tss σs k=some r→
  ∃tl σsF,k (tss++tl) σsF=some r∧σs <+: σsF∧ss.length=os.length∧tl.length=os.length+1∧tl[0]? = some ts∧
   ∀k o,os[k]? = some o→∃s,ss[k]? = some s∧StepF C.C.P ops n fz chg (fun m=>σsF.getD m []) (j+k) o s (tl.getD k []) (tl.getD (k+1) []):=by
 intro os
 induction os with
 | nil=>
  intro ss j ts tss σs k r _ h
  cases ss with
  | nil=>exact ⟨[ts],σs,h,List.prefix_rfl,rfl,rfl,rfl,fun k o hk=>by simp at hk⟩
  | cons s ss=>cases h
 | cons o os ih=>
  intro ss j ts tss σs k r hops h
  cases ss with
  | nil=>cases h
  | cons s ss=>
   simp only [drawGoK,nrmN_eq,loC_eq,hiC_eq] at h
   split at h
   ·rename_i σ hσ
    split at h
    ·rename_i hgi
     obtain ⟨b,st0,he,hw,h1⟩:=wantK_ok h
     have he3:∀t,lkp st0.ts t=lkp ts t:=he.ts
     have ho:ops[j]? = some o:=by have:=hops 0;simpa using this.symm
     obtain ⟨loc',σ',h2,r1,r2,r3,r4,r5⟩:=stepDK_ok hC ho (fun σ2=>by rw [wantedA_local hgi he3 (σ:=σ)];exact hw) h1
     rw [nrmT_eq] at h2
     obtain ⟨tl,σsF,q1,q2,q3,q4,q5,q6⟩:=ih (fun k=>by have:=hops (k+1);rw [show j+1+k=j+(k+1) by omega];simpa using this) h2
     have hpre:σs <+: σsF:=by
      split at q2
      ·exact (List.prefix_append _ _).trans q2
      ·exact q2
     refine ⟨ts :: tl,σsF,by simpa using q1,hpre,by simp [q3],by simp [q4],rfl,fun k o' hk=>?_⟩
     cases k with
     | zero=>
      have:o=o':=by simpa using hk
      subst this
      refine ⟨s,rfl,?_⟩
      have hnew:(ts :: tl).getD (0+1) []=pickL loc' (turns fz s o)++delAll (turns fz s o) st0.ts:=by
       simp only [Nat.zero_add,List.getD_cons_succ]
       rw [List.getD_eq_getElem?_getD,q5];rfl
      have hold:(ts :: tl).getD 0 []=ts:=rfl
      rw [hnew,hold,Nat.add_zero]
      have hnext:s.chg=true→σ'=σsF.getD (loF ops chg j+1) []:=fun hc=>by
       rw [hc,if_pos rfl] at q2
       have hlast:=Nat.eq_of_beq_eq_true (r3 hc).2
       have:(σs++[σ'])[loF ops chg j+1]? = some σ':=by
        rw [hlast,List.getElem?_append_right (Nat.le_refl _)];simp
       rw [List.getD_eq_getElem?_getD,prefix_get q2 this];rfl
      have hlo0:σsF.getD (loF ops chg j) []=σ:=by
       rw [List.getD_eq_getElem?_getD,prefix_get hpre hσ];rfl
      refine ⟨fun t ht=>?_,fun m hm hm' _ hτ=>?_,fun hc ha hf=>?_⟩
      ·rw [lkp_pickL,if_neg ht,lkp_delAll_ne ht,he3]
      ·have hlo:σsF.getD (loF ops chg j) []=σ:=by
        rw [List.getD_eq_getElem?_getD,prefix_get hpre hσ];rfl
       rcases Nat.lt_or_ge (loF ops chg j) m with hlt | hge
       ·have hone:Nat.beq (hiF ops chg j) (loF ops chg j)=false:=beq_ne (by omega)
        have hnc:s.chg=false:=by
         cases hc:s.chg with
         | false=>rfl
         | true=>
          have:=(r3 hc).1
          rw [hone] at this;cases this
        refine ⟨loc',σsF.getD m [],?_,by simp [hnc],fun t ht=>?_⟩
        ·rw [hnc];exact (r4 hone hnc _ (fun e=>by rw [←hlo];exact hτ e)).eqv (pickL_eqv he3)
        ·rw [lkp_pickL,if_pos ht]
       ·have:m=loF ops chg j:=by omega
        subst this
        refine ⟨loc',σ',?_,?_,fun t ht=>?_⟩
        ·show StepRuns _ _ _ _ _ { ts:=pickL ts s.T,n,σ:=σsF.getD (loF ops chg j) [] } _
         rw [hlo];exact r1.eqv (pickL_eqv he3)
        ·cases hc:s.chg with
         | false=>rw [if_neg (by simp)];show σ'=σsF.getD _ [];rw [hlo];exact r2 hc
         | true=>
          rw [if_pos rfl]
          exact hnext hc
        ·rw [lkp_pickL,if_pos ht]
      ·obtain ⟨τ,hτ⟩:=r5 ha hf
       exact ⟨τ,by
        show σsF.getD (loF ops chg j+1) []=σsF.getD (loF ops chg j) []++τ
        rw [hlo0,←hnext hc];exact hτ⟩
     | succ k=>
      obtain ⟨s',e1,e2⟩:=q6 k o' (by simpa using hk)
      refine ⟨s',by simpa using e1,?_⟩
      rw [show j+(k+1)=j+1+k by omega]
      simpa using e2
    ·cases h
   ·cases h
theorem allJ_ok {m:Nat} {p:Nat→Bool} (h:allJ m p=true) {j:Nat} (hj:j<m):p j=true:=List.all_eq_true.1 h j (List.mem_range.2 hj)
theorem cntTo_hit {p:Nat→Bool}:∀{k m:Nat},m<cntTo p k→∃i,i<k∧p i=true∧cntTo p i=m:=by
 intro k
 induction k with
 | zero=>intro m h;simp [cntTo] at h
 | succ k ih=>
  intro m h
  simp only [cntTo] at h
  rcases Nat.lt_or_ge m (cntTo p k) with h1 | h1
  ·obtain ⟨i,a,b,c⟩:=ih h1
   exact ⟨i,by omega,b,c⟩
  ·cases hp:p k with
   | false=>rw [hp] at h;simp at h;omega
   | true=>rw [hp] at h;simp at h;exact ⟨k,by omega,hp,by omega⟩
theorem cntTo_below {p q:Nat→Bool} {i:Nat}:∀{k:Nat},i≤k→(∀j,(q j && true)=(p j && decide (j<i)))→cntTo q k=cntTo p i:=by
 intro k
 induction k with
 | zero=>intro h _;have:i=0:=by omega
         subst this;rfl
 | succ k ih=>
  intro h hq
  rcases Nat.lt_or_ge k i with h1 | h1
  ·have:i=k+1:=by omega
   subst this
   have:∀m,m≤k+1→cntTo q m=cntTo p m:=by
    intro m
    induction m with
    | zero=>intro _;rfl
    | succ m im=>
     intro hm
     simp only [cntTo,im (by omega)]
     have:=hq m
     simp only [Bool.and_true] at this
     rw [this,decide_eq_true (by omega:m<k+1),Bool.and_true]
   exact this _ (Nat.le_refl _)
  ·simp only [cntTo]
   rw [ih h1 hq]
   have:=hq k
   simp only [Bool.and_true] at this
   rw [this,decide_eq_false (by omega)]
   simp
theorem draw_ok {P:Program} {ops:Array Oper} {n:Nat} {fz:List Nat} {σs:Nat→List Bx} {ss:List DS} {tss:List (List (Nat×PV))}
  (hst:∀j o,ops[j]? = some o→∃s,ss[j]? = some s∧StepF P ops n fz (fun j=>(ss.map (·.chg)).getD j false) σs j o s (tss.getD j []) (tss.getD (j+1) []))
  (hok:okDraw ops { tss,Ts:=ss.map (·.T),chgs:=ss.map (·.chg),fz } = true) :
  Draw.Ok { ts:=fun j=>tss.getD j [],T:=fun j=>(ss.map (·.T)).getD j [],σs,chg:=fun j=>(ss.map (·.chg)).getD j false,fz:=fun t=>fz.contains t } P ops n:=by
 have hT:∀{j s},ss[j]? = some s→(ss.map (·.T)).getD j []=s.T:=fun {j s} e=>by
  rw [List.getD_eq_getElem?_getD,List.getElem?_map,e];rfl
 have hC:∀{j s},ss[j]? = some s→(ss.map (·.chg)).getD j false=s.chg:=fun {j s} e=>by
  rw [List.getD_eq_getElem?_getD,List.getElem?_map,e];rfl
 simp only [okDraw,Bool.and_eq_true] at hok
 obtain ⟨o1,o2,o3,o4,o5,o6,o7,o8⟩:=hok
 have hdst:∀{j o},ops[j]? = some o→dstOf ops j=o.dst:=fun {j o} ho=>by simp [dstOf,ho]
 have hturn:∀{j o s t},ops[j]? = some o→ss[j]? = some s→(Draw.W { ts:=fun j=>tss.getD j [],T:=fun j=>(ss.map (·.T)).getD j [],σs,chg:=fun j=>(ss.map (·.chg)).getD j false,fz:=fun t=>fz.contains t } ops j t=true↔t∈turns fz s o):=fun {j o s t} ho hs=>by
  simp only [Draw.W,hT hs,hdst ho,turns,List.mem_filter,Bool.and_eq_true,List.contains_iff_mem]
 have hSC:∀i j,i<j→j<ops.size→(ss.map (·.chg)).getD i false=true→(ss.map (·.chg)).getD j false=true→bnd ops j i=true:=fun i j hij hj h1 h2=>by
  have:=allJ_ok (allJ_ok o6 hj) hij
  simp only [Bool.or_eq_true,Bool.not_eq_true',Bool.and_eq_false_iff] at this
  rcases this with (this | this) | this
  ·have h3:(ss.map (·.chg)).getD i false=false:=this
   rw [h1] at h3;cases h3
  ·have h3:(ss.map (·.chg)).getD j false=false:=this
   rw [h2] at h3;cases h3
  ·exact this
 have hgrow:∀{lo hi m:Nat},alIn ops fz (fun j=>(ss.map (·.chg)).getD j false) lo hi=true→lo≤m→m≤hi→(hi≤cntTo (fun j=>(ss.map (·.chg)).getD j false) ops.size)→∃τ,σs m=σs lo++τ:=by
  intro lo hi m hal hlo hm hhi
  induction m with
  | zero=>
   have:lo=0:=by omega
   subst this;exact ⟨[],(List.append_nil _).symm⟩
  | succ m ih=>
   rcases Nat.lt_or_ge m lo with h1 | h1
   ·have:lo=m+1:=by omega
    subst this;exact ⟨[],(List.append_nil _).symm⟩
   ·obtain ⟨τ,hτ⟩:=ih h1 (by omega)
    obtain ⟨i,hi1,hi2,hi3⟩:=cntTo_hit (show m<cntTo (fun j=>(ss.map (·.chg)).getD j false) ops.size by omega)
    have ho:=Array.getElem?_eq_getElem hi1
    obtain ⟨s,e1,e2⟩:=hst i _ ho
    have hlf:loF ops (fun j=>(ss.map (·.chg)).getD j false) i=m:=by
     rw [←hi3]
     exact cntTo_below (Nat.le_of_lt hi1) fun i'=>by
      cases hc:(ss.map (·.chg)).getD i' false with
      | false=>simp only [hc,Bool.false_and]
      | true=>
       by_cases hlt:i'<i
       ·have:=hSC i' i hlt hi1 hc hi2
        simp only [hc,hlt,this,decide_true,Bool.and_true]
       ·simp only [hc,hlt,decide_false,Bool.false_and,Bool.and_false]
    have hai:=allJ_ok hal hi1
    simp only [hi2,hi3,ho,Bool.true_and,Nat.ble_eq_true_of_le h1] at hai
    have hb:Nat.blt m hi=true:=by simpa [Nat.blt_eq] using (show m<hi by omega)
    rw [hb] at hai
    simp only [Bool.not_true,Bool.false_or,Bool.and_eq_true,Bool.not_eq_true'] at hai
    obtain ⟨τ',hτ'⟩:=e2.app ((hC e1).symm.trans hi2) hai.1 hai.2
    rw [hlf] at hτ'
    exact ⟨τ++τ',by rw [hτ',hτ,List.append_assoc]⟩
 exact
 {E:=fun j o ho e he hb=>by
   have:=allJ_ok o1 (j:=j) (Array.getElem?_eq_some_iff.1 ho).1
   rw [ho] at this
   simp only at this
   have:=List.all_eq_true.1 this e (by simpa using he)
   rw [hb] at this
   simpa [Nat.blt_eq] using this
  OC:=fun i j t hij hj h1 h2 h3=>by
   have:=allJ_ok (allJ_ok o2 hj) hij
   have:=List.all_eq_true.1 this t h1
   simp only [Bool.or_eq_true,Bool.not_eq_true',Bool.and_eq_false_iff] at this
   rcases this with (this | this) | this
   ·have h2':(ss.map (·.T)).getD j [] |>.contains t:=by simpa using h2
    exact absurd h2' (by simpa [DV.T] using this)
   ·rcases h3 with h3 | h3
    ·have:=this;simp only [Bool.or_eq_false_iff] at this
     exact absurd h3 (by simpa [DV.W,Draw.W,DV.T] using this.1)
    ·have:=this;simp only [Bool.or_eq_false_iff] at this
     exact absurd h3 (by simpa [DV.W,Draw.W,DV.T] using this.2)
   ·exact this
  PO:=fun j t hj hw=>by
   have ho:=Array.getElem?_eq_getElem hj
   obtain ⟨s,e1,e2⟩:=hst j _ ho
   exact e2.po t fun hm=>by
    rw [(hturn ho e1).2 hm] at hw;cases hw
  RC:=fun j t s hj ht hr=>by
   have:=List.all_eq_true.1 (allJ_ok o3 hj) t ht
   simp only [Bool.and_eq_true] at this
   rcases hr with hr | hr
   ·have h1:=this.1
    unfold rootIn at h1
    rw [show (lkp (DV.ts { tss,Ts:=ss.map (·.T),chgs:=ss.map (·.chg),fz } j) t).root=some (.tmp s) from hr] at h1
    simpa [DV.T] using h1
   ·have h1:=this.2
    unfold rootIn at h1
    rw [show (lkp (DV.ts { tss,Ts:=ss.map (·.T),chgs:=ss.map (·.chg),fz } (j+1)) t).root=some (.tmp s) from hr] at h1
    simpa [DV.T] using h1
  FC:=fun i t s hi hr=>by
   rcases lkp_mem (tss.getD i []) t with h1 | h1
   ·have hr:(lkp (tss.getD i []) t).root=some (.tmp s):=hr
    rw [h1] at hr;cases hr
   ·have:=List.all_eq_true.1 (allJ_ok o4 (j:=i) (by omega)) _ h1
    have hr:(lkp (tss.getD i []) t).root=some (.tmp s):=hr
    simp only [hr,Bool.and_eq_true,Bool.not_eq_true'] at this
    exact this.1
  AC:=fun i j t s hij hj hr hs=>by
   have hr:(lkp (tss.getD i []) t).root=some (.tmp s):=hr
   rcases lkp_mem (tss.getD i []) t with h1 | h1
   ·rw [h1] at hr;cases hr
   ·have:=List.all_eq_true.1 (allJ_ok o4 (j:=i) (by omega)) _ h1
    simp only [hr,Bool.and_eq_true] at this
    have:=allJ_ok this.2 hj
    simp only [Bool.or_eq_true,Bool.not_eq_true',Bool.and_eq_false_iff] at this
    rcases this with (this | this) | this
    ·exact absurd (Nat.ble_eq_true_of_le hij) (by rw [this];simp)
    ·have hs':((ss.map (·.T)).getD j []).contains s=true:=by simpa using hs
     exact absurd hs' (by simpa [DV.T] using this)
    ·simpa [DV.T] using this
  CC:=fun i j t id off hij hj hc hr=>by
   have hr:(lkp (tss.getD i []) t).root=some (.cell id off):=hr
   rcases lkp_mem (tss.getD i []) t with h1 | h1
   ·rw [h1] at hr;cases hr
   ·have:=List.all_eq_true.1 (allJ_ok o4 (j:=i) (by omega)) _ h1
    simp only [hr] at this
    have:=allJ_ok this hj
    simp only [Bool.or_eq_true,Bool.not_eq_true',Bool.and_eq_false_iff] at this
    rcases this with (this | this) | this
    ·exact absurd (Nat.ble_eq_true_of_le hij) (by rw [this];simp)
    ·have hc':(ss.map (·.chg)).getD j false=true:=hc
     have h2:(ss.map (·.chg)).getD j false=false:=this
     rw [hc'] at h2;cases h2
    ·simpa [DV.T] using this
  CD:=fun j k t id off hjk hk hc ht hr=>by
   have:=allJ_ok o5 (j:=j) (by omega)
   simp only [Bool.or_eq_true,Bool.not_eq_true'] at this
   rcases this with this | this
   ·have hc':(ss.map (·.chg)).getD j false=true:=hc
    have h2:(ss.map (·.chg)).getD j false=false:=this
    rw [hc'] at h2;cases h2
   ·have:=allJ_ok this hk
    simp only [Bool.or_eq_true,Bool.not_eq_true'] at this
    rcases this with this | this
    ·exact absurd hjk (by
      intro hlt
      have h3:Nat.blt j k=true:=by simpa [Nat.blt_eq] using hlt
      rw [this] at h3;cases h3)
    ·have:=List.all_eq_true.1 this t ht
     rw [show (lkp (DV.ts { tss,Ts:=ss.map (·.T),chgs:=ss.map (·.chg),fz } (k+1)) t).root=some (.cell id off) from hr] at this
     exact this
  SC:=fun i j hij hj h1 h2=>by
   have:=allJ_ok (allJ_ok o6 hj) hij
   simp only [Bool.or_eq_true,Bool.not_eq_true',Bool.and_eq_false_iff] at this
   rcases this with (this | this) | this
   ·have h1':(ss.map (·.chg)).getD i false=true:=h1
    have h3:(ss.map (·.chg)).getD i false=false:=this
    rw [h1'] at h3;cases h3
   ·have h1':(ss.map (·.chg)).getD j false=true:=h2
    have h3:(ss.map (·.chg)).getD j false=false:=this
    rw [h1'] at h3;cases h3
   ·exact this
  DT:=fun j d hd=>by
   have hj:j<ops.size:=by
    unfold dstOf at hd
    split at hd
    ·rename_i o ho;exact (Array.getElem?_eq_some_iff.1 ho).1
    ·cases hd
   have:=allJ_ok o7 hj
   rw [hd] at this
   simpa [DV.T] using this
  H:=fun j o ho m hm hm'=>by
   obtain ⟨s,e1,e2⟩:=hst j o ho
   have hj:j<ops.size:=(Array.getElem?_eq_some_iff.1 ho).1
   obtain ⟨loc,σ',r1,r2,r3⟩:=e2.run m hm hm' (Nat.le_trans hm hm') (fun hal=>hgrow hal hm hm' (cntTo_mono fun i _ h=>by simp only [Bool.and_eq_true] at h;exact h.1))
   intro g a w K Q hi hK
   have hTs:=hT e1
   have hCs:=hC e1
   simp only [hTs,hCs] at hi hK ⊢
   refine r1 _ _ _ _ _ hi fun a' w' g' i1 i2 i3 i4 i5=>hK a' w' g' ?_ i2 i3 i4 i5
   subst r2
   refine i1.reTs fun t ht=>?_
   rw [lkp_pickL0]
   by_cases htT:t∈s.T
   ·rw [if_pos htT]
    by_cases htt:t∈turns fz s o
    ·right;left
     refine ⟨r3 t htt,fun s' hs'=>?_⟩
     rw [←r3 t htt] at hs'
     have hin:s'∈s.T:=by
      have:=List.all_eq_true.1 (allJ_ok o3 hj) t (show t∈(ss.map (·.T)).getD j [] by rw [hTs];exact htT)
      simp only [Bool.and_eq_true] at this
      have h1:=this.2
      unfold rootIn at h1
      rw [show (lkp (DV.ts { tss,Ts:=ss.map (·.T),chgs:=ss.map (·.chg),fz } (j+1)) t).root=some (.tmp s') from hs'] at h1
      have h1':((ss.map (·.T)).getD j []).contains s'=true:=h1
      rw [hTs] at h1'
      simpa using h1'
     have hnf:fz.contains s'=false:=by
      rcases lkp_mem (tss.getD (j+1) []) t with h1 | h1
      ·rw [h1] at hs';cases hs'
      ·have:=List.all_eq_true.1 (allJ_ok o4 (j:=j+1) (by omega)) _ h1
       simp only [hs',Bool.and_eq_true,Bool.not_eq_true'] at this
       exact this.1
     have htt':s'∈turns fz s o:=by
      simp only [turns,List.mem_filter,hnf,Bool.not_false,Bool.true_or,and_true]
      exact hin
     rw [lkp_pickL0,if_pos hin]
     exact r3 s' htt'
    ·
     have hfz:fz.contains t=true:=by
      cases hf:fz.contains t with
      | true=>rfl
      | false=>exact absurd (by simp only [turns,List.mem_filter,hf,Bool.not_false,Bool.true_or,and_true];exact htT) htt
     have hnd:o.dst≠some t:=fun e=>htt (by simp only [turns,List.mem_filter,e];exact ⟨htT,by simp⟩)
     rw [e2.po t htt]
     have:=List.all_eq_true.1 (allJ_ok o8 hj) t (show t∈(ss.map (·.T)).getD j [] by rw [hTs];exact htT)
     rw [hfz] at this
     simp only [Bool.not_true,Bool.false_or,plainF,Bool.or_eq_true,Bool.and_eq_true,Bool.not_eq_true'] at this
     rcases this with hdead | ⟨hpl,hno⟩
     ·left
      have:lkp (tss.getD j []) t=.dead:=by
       have hd':(lkp (tss.getD j []) t).isDead=true:=hdead
       cases hx:lkp (tss.getD j []) t <;> rw [hx] at hd' <;> first | rfl | cases hd'
      exact this
     ·right;right
      have hpl':(lkp (tss.getD j []) t).plain=true:=hpl
      have hno':(lkp (tss.getD j []) t).isOwn=false:=hno
      obtain ⟨v,hv,hs⟩:=hi.slot t (lkp (tss.getD j []) t) (by
       simp only [St.get]
       rw [if_pos ht,lkp_pickL0,if_pos htT])
      refine ⟨v,?_,?_,hpl'⟩
      ·obtain ⟨u,rfl⟩:=i4
       rw [put_tmps]
       cases hd':o.dst with
       | none=>exact hv
       | some d=>
        simp only [putT]
        rw [Array.getElem?_setIfInBounds_ne (by rintro rfl;exact hnd hd')]
        exact hv
      ·refine Rel.ext i2 (slot_rel hs hno' ?_ ?_)
       ·cases hx:lkp (tss.getD j []) t <;> rw [hx] at hpl' <;> first | rfl | simp [PV.plain] at hpl'
       ·intro hx;rw [hx] at hpl';simp [PV.plain] at hpl'
   ·left;rw [if_neg htT] }
theorem root_cases {x:PV} {q:Plc} (h:x.root=some q):x=.alias q∨∃k off,x=.elem q k off:=by
 cases x with
 | alias p=>injection h with h;left;rw [h]
 | elem p k off=>injection h with h;right;exact ⟨k,off,by rw [h]⟩
 | _=>cases h
theorem useAll_sound {P:Program} {vs:Array Value} {w:World}:∀{l:List Nat} {st st1:St} {fl:List (Nat×PV)} {g:Gh},Inv P g st vs w→useAll l st=some (fl,st1)→
  ∃g',Inv P g' st1 vs w∧Ext g g' w w∧st1.n=st.n∧∀t,t<st.n→lkp fl t=.dead∨∃v,vs[t]? = some v∧Rel g' w (lkp fl t) v∧(lkp fl t).plain=true:=by
 intro l
 induction l with
 | nil=>
  intro st st1 fl g h he
  injection he with he;injection he with e1 e2;subst e1;subst e2
  exact ⟨g,h,Ext.refl _ _,rfl,fun t _=>.inl rfl⟩
 | cons t r ih=>
  intro st st1 fl g h he
  simp only [useAll] at he
  split at he
  ·rename_i x st2 hu
   split at he
   ·rename_i l' st3 hr
    injection he with he;injection he with e1 e2;subst e1;subst e2
    obtain ⟨g1,i1,i2,i3,_,i5⟩:=use_sound h hu
    obtain ⟨g2,j1,j2,j3,j4⟩:=ih i1 hr
    refine ⟨g2,j1,i2.trans j2,j3.trans i5,fun u hu'=>?_⟩
    simp only [lkp]
    cases e:Nat.beq t u with
    | true=>
     right
     have e:=Nat.eq_of_beq_eq_true e
     subst e
     have hlt:t<vs.size:=by rw [h.size];exact hu'
     refine ⟨evalV vs (.tmp t),?_,i3.ext j2,i3.plain⟩
     simp only [evalV,Array.getD_eq_getD_getElem?,Array.getElem?_eq_getElem hlt,Option.getD_some]
    | false=>exact j4 u (by rw [i5];exact hu')
   ·cases he
  ·cases he
theorem lkp_outL (WL:List Nat) (l:List (Nat×PV)) (t:Nat):lkp (outL WL l) t=outV WL (lkp l t):=by
 induction l with
 | nil=>rfl
 | cons p r ih=>
  obtain ⟨k,x⟩:=p
  simp only [outL,lkp]
  cases Nat.beq k t with
  | true=>rfl
  | false=>exact ih
theorem drawK_ok {R:Type} {C:TC} (hC:C.Ok) {id:Nat} {ops:Array Oper} {d:DH} {st:St} {k:St→Option R} {r:R} (h:drawK C (closure ops) ops d st k=some r):∃s,k s=some r∧
  ∀{g:Gh} {a:Act} {w:World} {Q:Exit→Act→World→Prop},Inv C.C.P g st a.tmps w→(∀a' w' g',Inv C.C.P g' s a'.tmps w'→Ext g g' w w'→a'.defers=a.defers→Q .normal a' w')→(Code.region id ops true).wp C.C.P Q a w:=by
 unfold drawK at h
 split at h
 ·rename_i fl st1 hu
  rw [nrmS_eq] at h
  split at h
  ·rename_i hst
   obtain ⟨tss,σsF,h1,q2,q3,q4,q5,q6⟩:=drawGoK_ok hC (fun k=>by simp) h
   rw [List.nil_append,okDrawC_eq] at h1
   split at h1
   ·rename_i hok
    split at h1
    ·rename_i hend
     refine ⟨_,h1,fun {g a w Q} h hQ=>?_⟩
     refine wp_region_any hC.1.2 ?_
     obtain ⟨h0,hE0⟩:=h.world (w':={ w with drawn:=w.drawn+1 }) rfl rfl rfl rfl
     obtain ⟨g1,i1,i2,i3,i4⟩:=useAll_sound h0 hu
     have hD:=draw_ok (P:=C.C.P) (n:=st.n) (fz:=d.fz) (σs:=fun m=>σsF.getD m []) (ss:=d.steps) (tss:=tss) (fun j o ho=>by
      obtain ⟨s,e1,e2⟩:=q6 j o (by simpa using ho)
      rw [Nat.zero_add] at e2
      exact ⟨s,e1,e2⟩) hok
     generalize hWL:d.lin++turnsAll d.fz ops.toList d.steps=WL at *
     have hin:∀t,t∈d.lin→t∈WL:=fun t ht=>by rw [←hWL];exact List.mem_append_left _ ht
     let K:Nat→Bool:=fun t=>WL.contains t
     have hstart:=List.all_eq_true.1 hst
     have hts0:tss.getD 0 []=fl++pickL st1.ts d.lin:=by rw [List.getD_eq_getElem?_getD,q5];rfl
     have hflk:∀t,t∉d.frz→lkp fl t=.dead:=by
      have key:∀{l:List Nat} {st st1:St} {fl:List (Nat×PV)},useAll l st=some (fl,st1)→∀t,t∉l→lkp fl t=.dead:=by
       intro l
       induction l with
       | nil=>intro st st1 fl he t _;injection he with he;injection he with e1 _;subst e1;rfl
       | cons u r ih=>
        intro st st1 fl he t ht
        simp only [useAll] at he
        split at he
        ·split at he
         ·rename_i hr
          injection he with he;injection he with e1 _;subst e1
          simp only [List.mem_cons,not_or] at ht
          simp only [lkp,beq_ne (Ne.symm ht.1)]
          exact ih hr t ht.2
         ·cases he
        ·cases he
      exact fun t ht=>key hu t ht
     have hfln:∀t,t∈d.frz→∃x,(t,x)∈fl:=by
      have key:∀{l:List Nat} {st st1:St} {fl:List (Nat×PV)},useAll l st=some (fl,st1)→∀t,t∈l→∃x,(t,x)∈fl:=by
       intro l
       induction l with
       | nil=>intro st st1 fl _ t ht;cases ht
       | cons u r ih=>
        intro st st1 fl he t ht
        simp only [useAll] at he
        split at he
        ·split at he
         ·rename_i hr
          injection he with he;injection he with e1 _;subst e1
          rcases List.mem_cons.1 ht with rfl | ht
          ·exact ⟨_,List.mem_cons_self⟩
          ·obtain ⟨y,hy⟩:=ih hr t ht
           exact ⟨y,List.mem_cons_of_mem _ hy⟩
         ·cases he
        ·cases he
      exact fun t ht=>key hu t ht
     have happ:∀(l m:List (Nat×PV)) (t:Nat),(∀x,(t,x)∉l)→lkp (l++m) t=lkp m t:=by
      intro l
      induction l with
      | nil=>intro m t _;rfl
      | cons p r ih=>
       obtain ⟨k,x⟩:=p
       intro m t ht
       have hk:k≠t:=by rintro rfl;exact ht x List.mem_cons_self
       simp only [List.cons_append,lkp,beq_ne hk]
       exact ih m t fun y hy=>ht y (List.mem_cons_of_mem _ hy)
     have happ2:∀(l m:List (Nat×PV)) (t:Nat),(∃x,(t,x)∈l)→lkp (l++m) t=lkp l t:=by
      intro l
      induction l with
      | nil=>intro m t ⟨x,hx⟩;cases hx
      | cons p r ih=>
       obtain ⟨k,x⟩:=p
       intro m t ⟨y,hy⟩
       simp only [List.cons_append,lkp]
       cases e:Nat.beq k t with
       | true=>rfl
       | false=>
        rcases List.mem_cons.1 hy with hy | hy
        ·injection hy with hy _;rw [hy,Nat.beq_refl] at e;cases e
        ·exact ih m t ⟨y,hy⟩
     have hnfl:∀t,t∉d.frz→∀x,(t,x)∉fl:=by
      have key:∀{l:List Nat} {st st1:St} {fl:List (Nat×PV)},useAll l st=some (fl,st1)→∀t,t∉l→∀x,(t,x)∉fl:=by
       intro l
       induction l with
       | nil=>intro st st1 fl he t _ x hx;injection he with he;injection he with e1 _;subst e1;cases hx
       | cons u r ih=>
        intro st st1 fl he t ht x hx
        simp only [useAll] at he
        split at he
        ·split at he
         ·rename_i hr
          injection he with he;injection he with e1 _;subst e1
          simp only [List.mem_cons,not_or] at ht
          rcases List.mem_cons.1 hx with hx | hx
          ·injection hx with hx _;exact ht.1 hx
          ·exact ih hr t ht.2 x hx
         ·cases he
        ·cases he
      exact fun t ht=>key hu t ht
     have hpart:Inv C.C.P (g1.part K) { ts:=fl++pickL st1.ts d.lin,n:=st1.n,σ:=st1.σ } a.tmps { w with drawn:=w.drawn+1 }:=by
      refine i1.part K fun t ht=>?_
      by_cases hf:t∈d.frz
      ·rw [happ2 _ _ _ (hfln t hf)]
       rcases i4 t (by rw [←i3];exact ht) with h1 | h1
       ·exact .inl h1
       ·exact .inr (.inr h1)
      ·rw [happ _ _ _ (hnfl t hf),lkp_pickL0]
       by_cases hl:t∈d.lin
       ·rw [if_pos hl]
        right;left
        refine ⟨rfl,fun _=>by simpa [K] using hin t hl,fun s hs=>?_⟩
        have:=hstart t hl
        simp only [Bool.and_eq_true,Bool.not_eq_true',hs] at this
        obtain ⟨_,hs1,hs2⟩:=this
        have hs1':s∈d.lin:=by simpa using hs1
        have hs2':s∉d.frz:=fun hm=>by
         have:d.frz.contains s=true:=by simpa using hm
         rw [hs2] at this;cases this
        rw [happ _ _ _ (hnfl s hs2'),lkp_pickL0,if_pos hs1']
       ·left;rw [if_neg hl]
     have hn:st1.n=st.n:=i3
     simp only [okEnd,Bool.and_eq_true] at hend
     refine Draw.run hD (g0:=g1.part K) (a0:=a) (w0:={ w with drawn:=w.drawn+1 }) (fun a' w' hat=>?_) ops.size (Array.replicate ops.size false) a _ (by simp) ?_ ?_
     ·obtain ⟨gc,k1,k2⟩:=hat.inv
      have k1':Inv C.C.P gc { ts:=tss.getD ops.size [],n:=st1.n,σ:=(fun m=>σsF.getD m []) (cntTo (fun i=>(d.steps.map (·.chg)).getD i false && true) ops.size) } a'.tmps w':=by
       rw [hn]
       exact k1.congr fun t=>(tsV_all hD (fun _ _=>rfl) t).symm
      have hrest:∀t,t∉WL→a'.tmps[t]? = a.tmps[t]?:=fun t ht=>hat.rest t fun j hj=>by
       have hjl:j<ops.size:=by
        unfold dstOf at hj
        split at hj
        ·rename_i o ho;exact (Array.getElem?_eq_some_iff.1 ho).1
        ·cases hj
       have:=allJ_ok hend.2 hjl
       rw [hj] at this
       exact ht (by simpa using this)
      have hnotK:∀{t},t∉WL→WL.contains t=false:=fun {t} ht=>by
       cases hk:WL.contains t with
       | false=>rfl
       | true=>exact absurd (by simpa using hk) ht
      obtain ⟨m1,m2⟩:=i1.join (K:=K) (tj:=pickL (tss.getD ops.size []) WL++outL WL st1.ts) k1' k2 (fun t ht=>by
       rw [lkp_pickL]
       by_cases hm:t∈WL
       ·rw [if_pos hm]
        right;left
        refine ⟨rfl,fun s hs=>?_⟩
        have:=List.all_eq_true.1 hend.1 t hm
        unfold rootIn at this
        rw [hs] at this
        have hsm:s∈WL:=by simpa using this
        rw [lkp_pickL,if_pos hsm]
       ·rw [if_neg hm,lkp_outL]
        cases hr:(lkp st1.ts t).root with
        | none=>
         right;right
         refine ⟨by simp only [outV,hr],hrest t hm,fun _=>hnotK hm,fun q hq=>by cases hq⟩
        | some q=>
         cases q with
         | cell id off=>left;simp only [outV,hr]
         | tmp s=>
          by_cases hs:s∈WL
          ·left
           have:WL.contains s=true:=by simpa using hs
           simp only [outV,hr,this,if_true]
          ·right;right
           refine ⟨by simp only [outV,hr,hnotK hs,Bool.false_eq_true,if_false],hrest t hm,fun _=>hnotK hm,fun q hq=>?_⟩
           injection hq with hq
           subst hq
           refine ⟨?_,hrest s hs⟩
           rw [lkp_pickL,if_neg hs,lkp_outL]
           have hgt:st1.get t=some (lkp st1.ts t):=by simp only [St.get];rw [if_pos ht]
           obtain ⟨fl',n',xs',hcn,_⟩:=alias_content i1 (q:=.tmp s) hgt (root_cases hr)
           have hcn:st1.get s=some (.sl fl' n' xs'):=hcn
           have hsl:lkp st1.ts s=.sl fl' n' xs':=by
            simp only [St.get] at hcn
            split at hcn
            ·injection hcn
            ·cases hcn
           rw [hsl];rfl)
      rw [hn] at m1
      exact hQ a' w' _ m1 ((hE0.trans i2).trans m2) hat.defers
     ·have:openTo (Array.replicate ops.size false) ops.size≤ops.size:=by
       have key:∀(p:Nat→Bool) (k:Nat),cntTo p k≤k:=by
        intro p k
        induction k with
        | zero=>exact Nat.le_refl _
        | succ k ih=>simp only [cntTo];have:=Bool.toNat_le (p k);omega
       exact key _ _
      exact this
     ·have hmask:maskOf (Array.replicate ops.size false)=fun _=>false:=by
       funext i
       simp only [maskOf,Array.getD_eq_getD_getElem?,Array.getElem?_replicate]
       split <;> rfl
      rw [hmask]
      refine ⟨(fun j i hj=>by cases hj),⟨g1.part K,?_,Ext.refl _ _⟩,rfl,fun _ _=>rfl⟩
      have hc0:cntTo (fun i=>(fun j=>(d.steps.map (·.chg)).getD j false) i && (fun _=>false) i) ops.size=0:=by
       have key:∀k,cntTo (fun i=>(d.steps.map (·.chg)).getD i false && false) k=0:=by
        intro k
        induction k with
        | zero=>rfl
        | succ k ih=>simp only [cntTo,Bool.and_false] at ih ⊢;simp [ih]
       exact key _
      have hV:∀t,lkp (Draw.tsV { ts:=fun j=>tss.getD j [],T:=fun j=>(d.steps.map (·.T)).getD j [],σs:=(fun m=>σsF.getD m []),chg:=fun j=>(d.steps.map (·.chg)).getD j false,fz:=fun t=>d.fz.contains t } ops (fun _=>false) ops.size) t=lkp (fl++pickL st1.ts d.lin) t:=by
       intro t
       rw [←hts0]
       have key:∀k,Draw.tsV { ts:=fun j=>tss.getD j [],T:=fun j=>(d.steps.map (·.T)).getD j [],σs:=(fun m=>σsF.getD m []),chg:=fun j=>(d.steps.map (·.chg)).getD j false,fz:=fun t=>d.fz.contains t } ops (fun _=>false) k=tss.getD 0 []:=by
        intro k
        induction k with
        | zero=>rfl
        | succ k ih=>simp only [Draw.tsV,Bool.false_eq_true,if_false];exact ih
       rw [key]
      have:=hpart.congr hV
      rw [hn] at this
      show Inv C.C.P (g1.part K) { ts:=_,n:=st.n,σ:=(fun m=>σsF.getD m []) (cntTo _ ops.size) } a.tmps _
      rw [hc0]
      have h00:σsF.getD 0 []=st1.σ:=by rw [List.getD_eq_getElem?_getD,prefix_get q2 (show [st1.σ][0]? = some st1.σ from rfl)];rfl
      show Inv _ _ { ts:=_,n:=_,σ:=σsF.getD 0 [] } _ _
      rw [h00]
      exact this
    ·cases h1
   ·cases h1
  ·cases h
 ·cases h
def RunsL (P:Program) (base:Nat) (c:Code) (st:St) (x:Exit) (st':St):Prop:=
 ∀(g:Gh) (a:Act) (w:World),Inv P g st a.tmps w→LoopWp P c (fun e a' w'=>e=x∧∃g',Inv P g' st' a'.tmps w'∧Ext (g.cut base) (g'.cut base) w w'∧a'.defers=a.defers) a w
theorem RunsL.loop {P:Program} {base:Nat} {c:Code} {st st':St} {x:Exit} (h:RunsL P base c st x st'):RunsB P base (.loop c) st x st':=fun g a w hi=>(h g a w hi).loop
theorem RunsL.done {P:Program} {base:Nat} {c:Code} {st st':St} {x:Exit} (h:RunsB P base c st x st') (hx:x≠.normal):RunsL P base c st x st':=fun g a w hi=>by
 refine LoopWp.round (wp_mono (h g a w hi) fun e a2 w2 hq=>?_)
 obtain ⟨rfl,hq⟩:=hq
 cases e with
 | normal=>exact absurd rfl hx
 | _=>exact ⟨rfl,hq⟩
theorem RunsL.more {P:Program} {base:Nat} {c:Code} {st st1 st2 st':St} {x:Exit} (h:RunsB P base c st .normal st1) (hs:∀{g vs w},Inv P g st1 vs w→∃g',Inv P g' st2 vs w∧Ext (g.cut base) (g'.cut base) w w) (hl:RunsL P base c st2 x st'):RunsL P base c st x st':=fun g a w hi=>by
 refine LoopWp.round (wp_mono (h g a w hi) fun e a2 w2 hq=>?_)
 obtain ⟨rfl,g',i1,i2,i3⟩:=hq
 intro b k cs
 obtain ⟨g2,j1,j2⟩:=hs i1
 obtain ⟨e,a3,w3,q,r'⟩:=hl g2 a2 w2 j1 b k cs
 exact ⟨e,a3,w3,RunsB.post (i2.trans j2) i3 _ _ _ q,r'⟩
theorem loopM_succ {α ρ:Type} (step:α→Option (α⊕ρ)) (n:Nat) (a:α):loopM step (n+1) a=match step a with
  | some (.inl a')=>loopM step n a'
  | some (.inr r)=>some r
  | none=>none:=rfl
theorem codeK_ok {C:TC} (hC:C.Ok) {base:Nat}:∀(c:Code) {R:Type} {st:St} {k:Exit→St→Option R} {r:R},codeK C base c st k=some r→∃e st',RunsB C.C.P base c st e st'∧k e st'=some r:=by
 intro c
 induction c with
 | skip=>intro R st k r h;exact ⟨_,st,fun g a w hi=>wp_skip ⟨rfl,g,hi,Ext.refl _ _,rfl⟩,h⟩
 | region id ops draw=>
  intro R st k r h
  cases draw with
  | true=>
   simp only [codeK,cloF_eq,nrmD_eq,nrmS_eq] at h
   obtain ⟨s1,h1,h2⟩:=drawK_ok (id:=id) hC h
   obtain ⟨s2,h3,h4⟩:=restrictK_ok (P:=C.C.P) h1
   refine ⟨_,s2,fun g a w hi=>?_,h3⟩
   obtain ⟨g0,k1,k2⟩:=Inv.normL (C.nv id) hi
   refine h2 k1 fun a' w' g' i1 i2 i3=>?_
   obtain ⟨g2,j1,j2⟩:=h4 i1
   exact ⟨rfl,g2,j1,((k2.trans i2).cut base).trans j2,i3⟩
  | false=>
   obtain ⟨s1,h1,h2⟩:=opsK_ok hC (Nat.le_refl _) h
   obtain ⟨s2,h3,h4⟩:=restrictK_ok (P:=C.C.P) h1
   refine ⟨_,s2,fun g a w hi=>?_,h3⟩
   refine wp_region_list (h2 hi fun a' w' g' i1 i2 i3=>?_)
   obtain ⟨g2,j1,j2⟩:=h4 i1
   exact ⟨rfl,g2,j1,(i2.cut base).trans j2,i3⟩
 | seq c1 c2 ih1 ih2=>
  intro R st k r h
  obtain ⟨e,s1,h1,h2⟩:=ih1 h
  by_cases he:e=.normal
  ·subst he
   obtain ⟨e2,s2,h3,h4⟩:=ih2 h2
   refine ⟨e2,s2,fun g a w hi=>wp_seq ?_,h4⟩
   refine wp_mono (h1 g a w hi) fun e' a' w' hq=>?_
   obtain ⟨rfl,g',i1,i2,i3⟩:=hq
   exact wp_mono (h3 _ _ _ i1) (RunsB.post i2 i3)
  ·refine ⟨e,s1,fun g a w hi=>wp_seq ?_,?_⟩
   ·refine wp_mono (h1 g a w hi) fun e' a' w' hq=>?_
    obtain ⟨rfl,hq⟩:=hq
    cases e' with
    | normal=>exact absurd rfl he
    | _=>exact ⟨rfl,hq⟩
   ·cases e with
    | normal=>exact absurd rfl he
    | _=>exact h2
 | cond cnd c1 c2 ih1 ih2=>
  intro R st k r h
  simp only [codeK] at h
  split at h
  ·rename_i b hb
   cases b with
   | true=>
    obtain ⟨e,s,h1,h2⟩:=ih1 h
    exact ⟨e,s,fun g a w hi=>wp_cond (t:=true) (by rw [eval_eq];exact bool_val hi hb) (h1 _ _ _ (hi.eqv (litO_eqv hb))),h2⟩
   | false=>
    obtain ⟨e,s,h1,h2⟩:=ih2 h
    exact ⟨e,s,fun g a w hi=>wp_cond (t:=false) (by rw [eval_eq];exact bool_val hi hb) (h1 _ _ _ (hi.eqv (litO_eqv hb))),h2⟩
  ·cases h
 | block id c ih=>
  intro R st k r h
  obtain ⟨e,s,h1,h2⟩:=ih h
  cases e with
  | exit id'=>
   simp only at h2
   split at h2
   ·rename_i hid
    refine ⟨.normal,s,fun g a w hi=>wp_block (wp_mono (h1 _ _ _ hi) fun e a' w' hq=>?_),h2⟩
    obtain ⟨rfl,hq⟩:=hq
    simp only [Exit.inBlock]
    rw [if_pos hid];exact ⟨trivial,hq⟩
   ·rename_i hid
    refine ⟨.exit id',s,fun g a w hi=>wp_block (wp_mono (h1 _ _ _ hi) fun e a' w' hq=>?_),h2⟩
    obtain ⟨rfl,hq⟩:=hq
    simp only [Exit.inBlock]
    rw [if_neg hid];exact ⟨trivial,hq⟩
  | _=>
   refine ⟨_,s,fun g a w hi=>wp_block (wp_mono (h1 _ _ _ hi) fun e a' w' hq=>?_),h2⟩
   obtain ⟨rfl,hq⟩:=hq
   exact ⟨rfl,hq⟩
 | loop c ih=>
  intro R st k r h
  simp only [codeK] at h
  split at h
  ·rename_i hh _
   split at h
   ·rename_i T ds hsh
    split at h
    ·rename_i x0 hx0
     have key:∀(n:Nat) (x:(tup T.ls).den) (st1:St),T.plug st.n (unpack T.ls x)=some st1→
       loopM (fun x=>match T.plug st.n (unpack T.ls x) with
        | some st1=>codeK C base c st1 fun e st2=>match e with
         | .normal=>backK T base st.n st2 fun st3=>(match st3.shape with
          | some (T',ds')=>if T'.beq T then (match pack T.ls ds' with
           | some x'=>some (.inl x')
           | none=>none) else none
          | none=>none)
         | e=>(k e st2).map Sum.inr
        | none=>none) n x=some r→∃e st',RunsL C.C.P base c st1 e st'∧k e st'=some r:=by
      intro n
      induction n with
      | zero=>intro x st1 _ h;cases h
      | succ n ihn=>
       intro x st1 hp h
       rw [loopM_succ] at h
       simp only [hp] at h
       split at h
       ·rename_i x' hs
        obtain ⟨e,s2,h1,h2⟩:=ih hs
        cases e with
        | normal=>
         simp only at h2
         obtain ⟨s3,h3,hn,hI⟩:=backK_ok (P:=C.C.P) h2
         split at h3
         ·rename_i T' ds' hsh'
          split at h3
          ·rename_i hc
           split at h3
           ·rename_i x2 hx2
            injection h3 with h3
            injection h3 with h3
            subst h3
            have hT:=ST.beq_eq hc
            subst hT
            have hpl:=St.shape_plug hsh'
            rw [hn] at hpl
            obtain ⟨e,s',h4,h5⟩:=ihn x2 _ (by rw [unpack_pack hx2];exact hpl) h
            exact ⟨e,s',RunsL.more h1 (fun {g vs w} hi=>hI hi) h4,h5⟩
           ·cases h3
          ·cases h3
         ·cases h3
        | _=>
         simp only at h2
         obtain ⟨q,_,hq⟩:=Option.map_eq_some_iff.1 h2
         cases hq
       ·rename_i r' hs
        injection h with h
        subst h
        obtain ⟨e,s2,h1,h2⟩:=ih hs
        cases e with
        | normal=>
         simp only at h2
         obtain ⟨s3,h3,_,_⟩:=backK_ok (P:=C.C.P) h2
         split at h3
         ·split at h3
          ·split at h3
           ·injection h3 with h3;cases h3
           ·cases h3
          ·cases h3
         ·cases h3
        | _=>
         simp only at h2
         obtain ⟨q,hq1,hq⟩:=Option.map_eq_some_iff.1 h2
         injection hq with hq
         subst hq
         exact ⟨_,s2,RunsL.done h1 (by simp),hq1⟩
       ·cases h
     have hp0:=St.shape_plug hsh
     have hn0:=prepK_n hh st
     obtain ⟨e,s',h1,h2⟩:=key _ x0 _ (by rw [unpack_pack hx0,←hn0];exact hp0) h
     refine ⟨e,s',fun g a w hi=>?_,h2⟩
     obtain ⟨g1,i1,i2⟩:=prepK_ok hh hi
     exact wp_mono (h1.loop g1 a w i1) (RunsB.post (i2.cut base) rfl)
    ·cases h
   ·cases h
  ·cases h
 | exit id=>intro R st k r h;exact ⟨_,st,fun g a w hi=>wp_exit ⟨rfl,g,hi,Ext.refl _ _,rfl⟩,h⟩
 | label l=>intro R st k r h;exact ⟨_,st,fun g a w hi=>wp_label ⟨rfl,g,hi,Ext.refl _ _,rfl⟩,h⟩
 | ret=>intro R st k r h;exact ⟨_,st,fun g a w hi=>wp_ret ⟨rfl,g,hi,Ext.refl _ _,rfl⟩,h⟩
 | goto l=>intro R st k r h;exact ⟨_,st,fun g a w hi=>wp_goto ⟨rfl,g,hi,Ext.refl _ _,rfl⟩,h⟩
 | rangeFunc=>intro R st k r h;cases h
 | scope=>intro R st k r h;cases h
 | refuse=>intro R st k r h;cases h
theorem RunsB.seqN {P:Program} {base:Nat} {c1 c2:Code} {st s1 s2:St} {e:Exit} (h1:RunsB P base c1 st .normal s1) (h2:RunsB P base c2 s1 e s2):RunsB P base (.seq c1 c2) st e s2:=fun g a w hi=>by
 refine wp_seq (wp_mono (h1 g a w hi) fun e' a' w' hq=>?_)
 obtain ⟨rfl,g',i1,i2,i3⟩:=hq
 exact wp_mono (h2 _ _ _ i1) (RunsB.post i2 i3)
theorem RunsB.seqE {P:Program} {base:Nat} {c1 c2:Code} {st s1:St} {e:Exit} (h1:RunsB P base c1 st e s1) (he:e≠.normal):RunsB P base (.seq c1 c2) st e s1:=fun g a w hi=>by
 refine wp_seq (wp_mono (h1 g a w hi) fun e' a' w' hq=>?_)
 obtain ⟨rfl,hq⟩:=hq
 cases e' with
 | normal=>exact absurd rfl he
 | _=>exact ⟨rfl,hq⟩
theorem codeL_ok {C:TC} (hC:C.Ok) {base:Nat}:∀(c:Code) {l:Nat} {R:Type} {st:St} {k:Exit→St→Option R} {r:R},codeL C base c l st k=some r→∃rest e st',findLabel c l=some rest∧RunsB C.C.P base rest st e st'∧k e st'=some r:=by
 intro c
 induction c with
 | seq a b iha ihb=>
  intro l R st k r h
  simp only [codeL] at h
  split at h
  ·rename_i ra hra
   obtain ⟨rest,e,s1,h0,h1,h2⟩:=iha h
   have hf:findLabel (.seq a b) l=some (.seq rest b):=by simp only [findLabel,h0]
   by_cases he:e=.normal
   ·subst he
    obtain ⟨e2,s2,h3,h4⟩:=codeK_ok hC b h2
    exact ⟨_,e2,s2,hf,h1.seqN h3,h4⟩
   ·refine ⟨_,e,s1,hf,h1.seqE he,?_⟩
    cases e with
    | normal=>exact absurd rfl he
    | _=>exact h2
  ·rename_i hra
   obtain ⟨rest,e,s1,h0,h1,h2⟩:=ihb h
   exact ⟨rest,e,s1,by simp only [findLabel,hra];exact h0,h1,h2⟩
 | label l'=>
  intro l R st k r h
  simp only [codeL] at h
  split at h
  ·rename_i hb
   have:=Nat.eq_of_beq_eq_true hb
   subst this
   exact ⟨.skip,.normal,st,by simp [findLabel],fun g a w hi=>wp_skip ⟨rfl,g,hi,Ext.refl _ _,rfl⟩,h⟩
  ·cases h
 | _=>intro l R st k r h;cases h
def JWp (P:Program) (c:Code) (l:Nat) (Q:Exit→Act→World→Prop) (a:Act) (w:World):Prop:=
 ∀(b:Frame) (k:List Item) (cs:List Frame),∃rest e a' w',findLabel c l=some rest∧Q e a' w'∧Arrives P (lone (b.at a (.code rest :: .inScope c :: k)) cs w) b k cs e a' w'
def jumpQ (P:Program) (c:Code) (Q:Exit→Act→World→Prop):Exit→Act→World→Prop
 | .goto l,a,w=>JWp P c l Q a w
 | e,a,w=>Q e a w
theorem scope_arrives {P:Program} {c c0:Code} {Q:Exit→Act→World→Prop} {a:Act} {w:World} (h:c0.wp P (jumpQ P c Q) a w) (b:Frame) (k:List Item) (cs:List Frame) :
  ∃e a' w',Q e a' w'∧Arrives P (lone (b.at a (.code c0 :: .inScope c :: k)) cs w) b k cs e a' w':=by
 obtain ⟨e,a₁,w₁,hq,harr⟩:=h b (.inScope c :: k) cs
 cases e with
 | normal=>exact ⟨.normal,a₁,w₁,hq,Steps.trans harr (.one step_inScope)⟩
 | exit id=>exact ⟨.exit id,a₁,w₁,hq,fun k' hk=>harr k' (by simp [exitTo,hk])⟩
 | goto l=>
  obtain ⟨rest,e₂,a₂,w₂,hf,hq₂,harr₂⟩:=hq b k cs
  exact ⟨e₂,a₂,w₂,hq₂,.of_steps (harr _ (by simp [gotoIn,hf])) harr₂⟩
 | ret=>exact ⟨_,a₁,w₁,hq,harr⟩
 | panic ch=>exact ⟨_,a₁,w₁,hq,harr⟩
 | outgrown=>exact ⟨_,a₁,w₁,hq,harr⟩
theorem scope_wp {P:Program} {c:Code} {Q:Exit→Act→World→Prop} {a:Act} {w:World} (h:c.wp P (jumpQ P c Q) a w):(Code.scope c).wp P Q a w:=fun b k cs=>by
 obtain ⟨e,a',w',hq,harr⟩:=scope_arrives h b k cs
 exact ⟨e,a',w',hq,.of_steps (.one step_scope) harr⟩
def RunsJ (P:Program) (base:Nat) (c:Code) (l:Nat) (st:St) (x:Exit) (st':St):Prop:=
 ∀(g:Gh) (a:Act) (w:World),Inv P g st a.tmps w→JWp P c l (fun e a' w'=>e=x∧∃g',Inv P g' st' a'.tmps w'∧Ext (g.cut base) (g'.cut base) w w'∧a'.defers=a.defers) a w
theorem jump_post {P:Program} {base:Nat} {c c0:Code} {st s1 st':St} {l:Nat} {x:Exit} (h1:RunsB P base c0 st (.goto l) s1) (h2:RunsJ P base c l s1 x st') {g:Gh} {a:Act} {w:World} (hi:Inv P g st a.tmps w) :
  c0.wp P (jumpQ P c (fun e a' w'=>e=x∧∃g',Inv P g' st' a'.tmps w'∧Ext (g.cut base) (g'.cut base) w w'∧a'.defers=a.defers)) a w:=
 wp_mono (h1 g a w hi) fun e a1 w1 hq=>by
  obtain ⟨rfl,g',i1,i2,i3⟩:=hq
  intro b k cs
  obtain ⟨rest,e2,a2,w2,hf,hq2,harr⟩:=h2 g' a1 w1 i1 b k cs
  exact ⟨rest,e2,a2,w2,hf,RunsB.post i2 i3 _ _ _ hq2,harr⟩
theorem noJump {P:Program} {base:Nat} {c c0:Code} {st st':St} {x:Exit} (h1:RunsB P base c0 st x st') (hx:∀l,x≠.goto l) {g:Gh} {a:Act} {w:World} (hi:Inv P g st a.tmps w) :
  c0.wp P (jumpQ P c (fun e a' w'=>e=x∧∃g',Inv P g' st' a'.tmps w'∧Ext (g.cut base) (g'.cut base) w w'∧a'.defers=a.defers)) a w:=
 wp_mono (h1 g a w hi) fun e a1 w1 hq=>by
  obtain ⟨rfl,hq⟩:=hq
  cases e with
  | goto l=>exact absurd rfl (hx l)
  | _=>exact ⟨rfl,hq⟩
theorem jumpK_ok {C:TC} (hC:C.Ok) {base:Nat} {c:Code}:∀(n:Nat) {l:Nat} {R:Type} {st:St} {k:Exit→St→Option R} {r:R},jumpK C base c n l st k=some r→∃e st',RunsJ C.C.P base c l st e st'∧k e st'=some r:=by
 intro n
 induction n with
 | zero=>intro l R st k r h;cases h
 | succ n ih=>
  intro l R st k r h
  simp only [jumpK] at h
  obtain ⟨rest,e,s1,hf,h1,h2⟩:=codeL_ok hC c h
  by_cases he:∃l',e=.goto l'
  ·obtain ⟨l',rfl⟩:=he
   obtain ⟨e2,s2,h3,h4⟩:=ih h2
   refine ⟨e2,s2,fun g a w hi b k cs=>?_,h4⟩
   obtain ⟨e3,a',w',hq,harr⟩:=scope_arrives (jump_post h1 h3 hi) b k cs
   exact ⟨rest,e3,a',w',hf,hq,harr⟩
  ·refine ⟨e,s1,fun g a w hi b k cs=>?_,?_⟩
   ·obtain ⟨e3,a',w',hq,harr⟩:=scope_arrives (c:=c) (noJump h1 (fun l' hl=>he ⟨l',hl⟩) hi) b k cs
    exact ⟨rest,e3,a',w',hf,hq,harr⟩
   ·cases e with
    | goto l'=>exact absurd ⟨l',rfl⟩ he
    | _=>exact h2
theorem codeT_ok {C:TC} (hC:C.Ok) {base:Nat}:∀(c:Code) {R:Type} {st:St} {k:Exit→St→Option R} {r:R},codeT C base c st k=some r→∃e st',RunsB C.C.P base c st e st'∧k e st'=some r:=by
 intro c
 induction c with
 | seq c1 c2 ih1 ih2=>
  intro R st k r h
  simp only [codeT] at h
  obtain ⟨e,s1,h1,h2⟩:=ih1 h
  by_cases he:e=.normal
  ·subst he
   obtain ⟨e2,s2,h3,h4⟩:=ih2 h2
   exact ⟨e2,s2,h1.seqN h3,h4⟩
  ·refine ⟨e,s1,h1.seqE he,?_⟩
   cases e with
   | normal=>exact absurd rfl he
   | _=>exact h2
 | scope c ih=>
  intro R st k r h
  simp only [codeT] at h
  obtain ⟨e,s1,h1,h2⟩:=codeK_ok hC c h
  by_cases he:∃l',e=.goto l'
  ·obtain ⟨l',rfl⟩:=he
   obtain ⟨e2,s2,h3,h4⟩:=jumpK_ok hC 5 h2
   exact ⟨e2,s2,fun g a w hi=>scope_wp (jump_post h1 h3 hi),h4⟩
  ·refine ⟨e,s1,fun g a w hi=>scope_wp (noJump h1 (fun l' hl=>he ⟨l',hl⟩) hi),?_⟩
   cases e with
   | goto l'=>exact absurd ⟨l',rfl⟩ he
   | _=>exact h2
 | _=>intro R st k r h;exact codeK_ok hC _ h
theorem Inv.res {P:Program} {gc:Gh} {σ:List Bx} {r r':PV} {rv:Value} {w:World} (h:Inv P gc { ts:=[(0,r)],n:=1,σ } #[rv] w)
  (hs:∀v,Slot P { ts:=[(0,r)],n:=1,σ } gc #[rv] w (.tmp 0) r v→Slot P { ts:=[(0,r')],n:=1,σ } gc #[rv] w (.tmp 0) r' v):Inv P gc { ts:=[(0,r')],n:=1,σ } #[rv] w where
 size:=h.size
 slot t x hx:=by
  have ht:t<1:=get_lt hx
  have h0:t=0:=by omega
  subst h0
  have hxr:x=r':=by simpa [St.get,lkp] using hx.symm
  subst hxr
  obtain ⟨v,hv,h1⟩:=h.slot 0 r (by simp [St.get,lkp])
  exact ⟨v,hv,hs v h1⟩
 rlen:=h.rlen
 box id ty cs b h1 h2:=by
  obtain ⟨c,fz,k1,k2,k3,k4⟩:=h.box id ty cs b h1 h2
  refine ⟨c,fz,k1,k2,k3,fun off x hx=>?_⟩
  obtain ⟨j1,v,j2,j3⟩:=k4 off x hx
  exact ⟨j1,v,j2,j3.gh j1 rfl rfl (fun _ h=>h)⟩
 bmap:=h.bmap
 bfam:=h.bfam
 fdom:=h.fdom
 rown:=h.rown
 olt:=h.olt
 flt:=h.flt
 fbox:=h.fbox
def hidAll:Option Own→Option Own
 | some .frame=>some .frame
 | some _=>some (.obj 0 0)
 | none=>none
def ownAll:Option Own→Option Own
 | some .frame=>none
 | o=>o
theorem Inv.close {P:Program} {g g2:Gh} {w w':World} {T:TypeId} {y:PV} {xs:List PV} {σ:List Bx} {alts:List PT} {x:(shA alts).den} {v:Value} (hg:g.rho=[]) (hgf:∀id i v,g.fam id i≠some v)
  (h:Inv P g2 { ts:=[(0,.tup (.ifc T y :: xs))],n:=1,σ } #[v] w') (hE:Ext g g2 w w') (hop:openA alts x=some (.ifc T y,σ)) (hn:noRefs 0 xs=true) :
  ∃gc,Inv P gc { ts:=[(0,.tup (.oref 0 0 :: xs))],n:=1,σ:=[.fam alts [x]] } #[v] w'∧Ext g gc w w':=by
 obtain ⟨u,hu,hs⟩:=h.slot 0 _ (by simp [St.get,lkp,Nat.beq_refl];rfl)
 have:u=v:=by simpa using hu.symm
 subst this
 have hs:Rel g2 w' (.tup (.ifc T y :: xs)) u:=hs
 cases hs with
 | tup _ vs hl hr=>
  have hl0:0<vs.size:=by rw [hl];simp
  have h0:=hr 0 (by simp) hl0
  have h0:Rel g2 w' (.ifc T y) vs[0]:=h0
  have hif:∃t q,vs[0]=.iface t q:=by
   generalize vs[0]=z at h0
   cases h0 with
   | ifc _ _ q _=>exact ⟨_,_,rfl⟩
  let gc:Gh:={ rho:=[0],FP:=g2.FP,ow:=fun b=>hidAll (g2.ow b),fam:=fun id i=>if id=0∧i=0 then some vs[0] else none }
  let go:Gh:={ rho:=g2.rho,FP:=g2.FP,ow:=fun b=>ownAll (g2.ow b),fam:=g2.fam }
  have hown:∀{b o},g2.ow b=some o→o≠.frame→go.ow b=some o:=fun {b o} hb ho=>by
   show ownAll (g2.ow b)=_
   rw [hb]
   cases o <;> first | rfl | exact absurd rfl ho
  have hfam0:∀i v,gc.fam 0 i=some v→i=0:=fun i v hv=>by
   have hv:(if 0=0∧i=0 then some vs[0] else none)=some v:=hv
   split at hv
   ·rename_i hc;exact hc.2
   ·cases hv
  refine ⟨gc,?_,?_⟩
  ·exact
   {size:=rfl
    slot:=fun t z hz=>by
     have ht:t<1:=get_lt hz
     have ht0:t=0:=by omega
     subst ht0
     have hzr:z=.tup (.oref 0 0 :: xs):=by simpa [St.get,lkp,Nat.beq_refl] using hz.symm
     subst hzr
     refine ⟨.tuple vs,rfl,?_⟩
     show Rel gc w' (.tup (.oref 0 0 :: xs)) (.tuple vs)
     refine .tup _ vs (by simpa using hl) fun i hi hv=>?_
     cases i with
     | zero=>exact .oref 0 0 _ hif (show (if (0:Nat)=0∧(0:Nat)=0 then some vs[0] else none)=some vs[0] from if_pos ⟨rfl,rfl⟩)
     | succ i=>
      have hi':i<xs.length:=by simpa using hi
      have:=hr (i+1) (by simpa using hi) hv
      exact rel_noRef0 (g:=g2) (g':=gc) (x:=xs[i]) this (noRefs_get hn i hi') rfl
    rlen:=rfl
    box:=fun id ty cs b h1 h2=>by
     cases id with
     | zero=>cases h1
     | succ id=>simp at h1
    bmap:=fun id es b h1 h2=>by
     cases id with
     | zero=>cases h1
     | succ id=>simp at h1
    bfam:=fun id al l h1=>by
     cases id with
     | succ id=>simp at h1
     | zero=>
      have h1:some (Bx.fam alts [x])=some (Bx.fam al l):=h1
      injection h1 with h1
      injection h1 with e1 e2
      subst e1
      have e2:=eq_of_heq e2
      subst e2
      refine ⟨fun i v hv=>by rw [hfam0 i v hv];simp,fun i z hz=>?_⟩
      cases i with
      | succ i=>simp at hz
      | zero=>
       have hz:some x=some z:=hz
       injection hz with hz
       subst hz
       refine ⟨_,σ,hop,vs[0],go,(show (if (0:Nat)=0∧(0:Nat)=0 then some vs[0] else none)=some vs[0] from if_pos ⟨rfl,rfl⟩),?_,fun _ _ h=>h,fun b=>?_,fun b hb=>?_,fun _ _ _ _ h=>h⟩
       ·exact
        {size:=rfl
         slot:=fun t z hz=>by
          have ht:t<1:=get_lt hz
          have ht0:t=0:=by omega
          subst ht0
          have hzr:z=.ifc T y:=by simpa [St.get,lkp,Nat.beq_refl] using hz.symm
          subst hzr
          exact ⟨vs[0],rfl,h0.gh rfl rfl⟩
         rlen:=h.rlen
         box:=fun id2 ty cs b k1 k2=>by
          obtain ⟨c,fz,n1,n2,n3,n4⟩:=h.box id2 ty cs b k1 k2
          refine ⟨c,fz,n1,n2,n3,fun off z hz=>?_⟩
          obtain ⟨m1,v,m2,m3⟩:=n4 off z hz
          exact ⟨m1,v,m2,m3.gh m1 rfl rfl fun b hb=>hown hb (by simp)⟩
         bmap:=h.bmap
         nofam:=openA_nofam hop
         rown:=fun id2 b k1 k2=>hown (h.rown id2 b k1 k2) (by simp)
         fdom:=h.fdom
         olt:=fun b o hb=>by
          have hb:ownAll (g2.ow b)=some o:=hb
          cases e:g2.ow b with
          | none=>rw [e] at hb;cases hb
          | some o'=>exact h.olt b o' e
         flt:=h.flt
         fbox:=fun b j id2 hb=>by
          have hb:ownAll (g2.ow b)=some (.box id2):=hb
          refine h.fbox b j id2 ?_
          cases e:g2.ow b with
          | none=>rw [e] at hb;cases hb
          | some o'=>
           rw [e] at hb
           cases o' with
           | frame=>cases hb
           | _=>exact hb }
       ·show ownAll (g2.ow b)=none∨hidAll (g2.ow b)=_
        cases e:g2.ow b with
        | none=>exact .inl rfl
        | some o'=>cases o' <;> first | exact .inl rfl | exact .inr rfl
       ·have hb:ownAll (g2.ow b)=some .frame:=hb
        cases e:g2.ow b with
        | none=>rw [e] at hb;cases hb
        | some o'=>rw [e] at hb;cases o' <;> cases hb
    rown:=fun id b hk hb=>by
     cases id with
     | zero=>cases hk
     | succ id=>simp [gc] at hb
    fdom:=fun id i v hv=>by
     have hv:(if id=0∧i=0 then some vs[0] else none)=some v:=hv
     split at hv
     ·rename_i hc;rw [hc.1];simp
     ·cases hv
    olt:=fun b o hb=>by
     have hb:hidAll (g2.ow b)=some o:=hb
     cases e:g2.ow b with
     | none=>rw [e] at hb;cases hb
     | some o'=>exact h.olt b o' e
    flt:=h.flt
    fbox:=fun b i id hb=>by
     have hb:hidAll (g2.ow b)=some (.box id):=hb
     cases e:g2.ow b with
     | none=>rw [e] at hb;cases hb
     | some o'=>rw [e] at hb;cases o' <;> cases hb }
  ·exact
   {rho:=by rw [hg];exact List.nil_prefix
    fam:=fun id i v hv=>absurd hv (hgf id i v)
    obx:=fun b id hl _=>by rw [hg] at hl;simp at hl
    fp:=hE.fp,fpc:=hE.fpc,keep:=hE.keep,size:=hE.size
    frame:=fun b hb=>by show hidAll (g2.ow b)=_;rw [hE.frame b hb];rfl
    noframe:=fun b hb hf=>by
     have hf:hidAll (g2.ow b)=some .frame:=hf
     refine hE.noframe b hb ?_
     cases e:g2.ow b with
     | none=>rw [e] at hf;cases hf
     | some o'=>rw [e] at hf;cases o' <;> first | rfl | cases hf
    none_:=fun b hb hn=>by show hidAll (g2.ow b)=_;rw [hE.none_ b hb hn];rfl
    fnew:=hE.fnew,os:=hE.os,tape:=hE.tape,output:=hE.output }
theorem fnK_ok {C:TC} (hC:C.Ok) {f:FuncId} {fn:Func} (hfn:C.C.P.funcs[f]? = some fn) {inp:IS} {outs:List OS} {a:(tup inp.ls).den} {res:denA outs} (h:fnK C fn inp outs a=some res) :
  ∃args d σ0 o ds r ds2 σ',plugs inp.vs (unpack inp.ls a)=some (args,d)∧plugB inp.bx d=some (σ0,[])∧
   sel outs res=some (o,ds)∧plug o.r ds=some (r,ds2)∧plugB o.bx ds2=some (σ',[])∧AbsCall C.C.P f args σ0 r σ':=by
 unfold fnK at h
 split at h
 ·rename_i c hbody
  split at h
  ·rename_i args d hargs
   split at h
   ·rename_i σ hσ
    have hC':TC.Ok { C with C:={ C.C with res:=resOf fn } }:=hC
    obtain ⟨e,st,hrun,hfin⟩:=codeT_ok hC' c h
    unfold finK at hfin
    split at hfin
    ·rename_i hex
     split at hfin
     ·rename_i r st1 hra
      split at hfin
      ·rename_i hnoal
       obtain ⟨o,ds,h1,h2⟩:=inj_sel hfin
       have hW:∀(g:Gh) (us:Array Value) (w:World),Inv C.C.P g { ts:=number 0 args,n:=args.length,σ } us w→∀(r':PV) (σ':List Bx),
         (∀g2 v w',Inv C.C.P g2 { ts:=[(0,r)],n:=1,σ:=st1.σ } #[v] w'→Ext g (g2.cut σ.length) w w'→∃gc,Inv C.C.P gc { ts:=[(0,r')],n:=1,σ:=σ' } #[v] w'∧Ext g gc w w')→
         Calls C.C.P f us w fun e w'=>∃rv gc,e=.returned rv∧Inv C.C.P gc { ts:=[(0,r')],n:=1,σ:=σ' } #[rv] w'∧Ext g gc w w':=by
        intro g us w hi r' σ' hfinal
        have hsz:us.size=args.length:=hi.size
        have g1:=hi.grow (fun t ht=>by
         have ht:args.length≤t:=ht
         show lkp (number 0 args) t=.dead
         rw [lkp_number,if_neg (by omega)]) (fn.ntmps - args.length)
        have hwp:=hrun _ { tmps:=us++Array.replicate (fn.ntmps - args.length) undef,defers:=[] } w g1
        refine calls_of_wp hfn hbody ?_
        rw [hsz]
        refine wp_mono hwp fun e' a' w' hq=>?_
        obtain ⟨rfl,g',i1,i2,i3⟩:=hq
        obtain ⟨g2,v,j1,j2,j3⟩:=retAll_sound i1 hra
        have hgr:g.rho.length=σ.length:=hi.rlen
        have hE:Ext g (g2.cut σ.length) w w':=by
         have:=i2.trans (j3.cut σ.length)
         rwa [cut_all g (n:=σ.length) (by omega) hi.fdom] at this
        obtain ⟨gc,m1,m2⟩:=hfinal g2 v w' j2 hE
        have hend:a'.defers=[]:=i3
        cases e' with
        | ret=>exact ⟨hend,v,j1,v,gc,rfl,m1,m2⟩
        | normal=>exact ⟨hend,v,j1,v,gc,rfl,m1,m2⟩
        | _=>cases hex
       split at h2
       ·rename_i alts hal
        unfold objEnd at h2
        split at h2
        ·rename_i x xs
         split at h2
         ·rename_i hnr
          split at h2
          ·rename_i y hcl
           split at h2
           ·rename_i p d1 hsh
            injection h2 with h2;injection h2 with e1 e2;subst e1;subst e2
            have hx:∃T z,x=.ifc T z∧σ=[]:=by
             have hif:isIfc0 σ.length (.tup (x :: xs))=true:=by
              cases hh:isIfc0 σ.length (.tup (x :: xs)) with
              | true=>rfl
              | false=>rw [hh] at hal;cases hal
             unfold isIfc0 at hif
             split at hif
             ·rename_i hl
              cases x <;> first | exact ⟨_,_,rfl,List.eq_nil_of_length_eq_zero hl⟩ | cases hif
             ·cases hif
            obtain ⟨T,z,rfl,rfl⟩:=hx
            have k1:=shapes_plug _ hsh [⟨.sl (shA alts),([y]:List (shA alts).den)⟩]
            refine ⟨args,d,[],_,_,.tup (.oref 0 0 :: xs),[⟨.sl (shA alts),([y]:List (shA alts).den)⟩],[.fam alts [y]],hargs,hσ,h1,?_,?_,fun g us w hi=>?_⟩
            ·simp only [plug,plugs]
             rw [show castD ⟨.oix,(0:Nat)⟩ .oix=some (0:Nat) from castD_self _ _]
             simp only [k1]
            ·simp only [plugB,famPT]
             rw [show castD ⟨.sl (shA alts),([y]:List (shA alts).den)⟩ (.sl (shA alts))=some ([y]:List (shA alts).den) from castD_self _ _]
            ·refine hW g us w hi _ _ fun g2 v w' j2 hE=>?_
             have hg0:g.rho=[]:=List.eq_nil_of_length_eq_zero hi.rlen
             exact j2.close hg0 (fun id i v hv=>by have:=hi.fdom id i v hv;simp at this) hE.of_cut (closeA_open hcl) hnr
           ·cases h2
          ·cases h2
         ·cases h2
        ·cases h2
       ·unfold plainEnd at h2
        split at h2
        ·rename_i p d1 hs1
         split at h2
         ·rename_i q es hs2
          injection h2 with h2;injection h2 with e1 e2;subst e1;subst e2
          have k1:=shape_plug _ hs1 es
          have k2:=shapeB_plug hs2 []
          rw [List.append_nil] at k2
          refine ⟨args,d,σ,_,_,_,_,_,hargs,hσ,h1,k1,k2,fun g us w hi=>hW g us w hi _ _ fun g2 v w' j2 hE=>?_⟩
          have hfinal:∃gc,Inv C.C.P gc { ts:=[(0,r)],n:=1,σ:=if Nat.beq st1.σ.length σ.length then st1.σ else if St.cutOk σ.length { ts:=[(0,r)],n:=1,σ:=st1.σ } then st1.σ.take σ.length else st1.σ } #[v] w'∧Ext g gc w w':=by
           split
           ·exact ⟨g2,j2,hE.of_cut⟩
           ·split
            ·rename_i hc
             have hlen:σ.length≤st1.σ.length:=by
              have h1:g2.rho.length=st1.σ.length:=j2.rlen
              have h2:=hE.rho.length_le
              have h3:(g2.cut σ.length).rho.length≤g2.rho.length:=by simp only [Gh.cut,List.length_take];omega
              have h4:g.rho.length=σ.length:=hi.rlen
              omega
             exact ⟨g2.cut σ.length,j2.cutTo hc hlen,hE⟩
            ·exact ⟨g2,j2,hE.of_cut⟩
          obtain ⟨gc,m1,m2⟩:=hfinal
          exact ⟨gc,m1.res (r':=nilR p r) fun v hs=>nilR_slot hnoal hs,m2⟩
         ·cases h2
        ·cases h2
      ·cases hfin
     ·cases hfin
    ·cases hfin
   ·cases h
  ·cases h
 ·cases h
theorem Known.of {C:TC} (hC:C.Ok) {f:FuncId} {fn:Func} (hfn:C.C.P.funcs[f]? = some fn) (hb:fn.body.isSome=true) {kf:KF} (h:∀a,fnK C fn kf.inp kf.outs a=kf.model a):Known C.C.P f kf:=
 ⟨⟨fn,hfn,hb⟩,fun a res hr=>fnK_ok hC hfn (by rw [h a];exact hr)⟩
end Go.AM
namespace Go.AM
open Go.RowKit
def g0 (w:World):Gh:={ rho:=[],FP:=fun b _=>b<w.heap.size,ow:=fun b=>if b<w.heap.size then some .frame else none }
theorem inv0 {P:Program} {args:List PV} {us:Array Value} {w:World} (hsz:us.size=args.length) (h:∀(i:Nat) (hi:i<args.length) (hv:i<us.size),Rel (g0 w) w args[i] us[i]) :
  Inv P (g0 w) { ts:=number 0 args,n:=args.length,σ:=[] } us w where
 size:=hsz
 slot t x hx:=by
  have ht:t<args.length:=get_lt hx
  have hxa:x=args[t]:=by
   simp only [St.get] at hx
   rw [if_pos ht,lkp_number,if_pos (by omega),Nat.sub_zero,List.getD_eq_getElem?_getD,List.getElem?_eq_getElem ht] at hx
   exact (Option.some.inj hx).symm
  subst hxa
  have hr:=h t ht (by omega)
  exact ⟨us[t]'(by omega),Array.getElem?_eq_getElem (by omega),slot_of_rel hr hr.plain⟩
 rlen:=rfl
 box id ty cs b h1 h2:=by cases h2
 bmap id es b h1 h2:=by cases h2
 bfam id alts l h1:=by cases h1
 fdom id i v hv:=by cases hv
 rown id b _ hb:=by cases hb
 olt b o hb:=by
  have hb:(if b<w.heap.size then some Own.frame else none)=some o:=hb
  split at hb
  ·assumption
  ·cases hb
 flt b i hb:=hb
 fbox b i id hb:=by
  have hb:(if b<w.heap.size then some Own.frame else none)=some (.box id):=hb
  split at hb <;> cases hb
theorem AbsCall.walk {P:Program} {f:FuncId} {args:List PV} {v:Value} {us:Array Value} {w:World} (hc:AbsCall P f args [] (.lit v) []) (hsz:us.size=args.length)
  (h:∀(i:Nat) (hi:i<args.length) (hv:i<us.size),Rel (g0 w) w args[i] us[i]):Calls P f us w fun e w'=>e=.returned v∧Below w.heap.size w w':=by
 refine (hc _ _ _ (inv0 hsz h)).mono ?_
 rintro e w' ⟨rv,gc,rfl,h1,h2⟩
 obtain ⟨u,hu,hs⟩:=h1.slot 0 (.lit v) (by simp [St.get,lkp])
 have hs:Rel gc w' (.lit v) u:=hs
 have:u=rv:=by simpa using hu.symm
 subst this
 cases hs
 refine ⟨rfl,h2.os,h2.tape,h2.output,h2.size,fun k hk=>h2.keep k hk (.inr ?_)⟩
 show (if k<w.heap.size then some Own.frame else none)=_
 rw [if_pos hk]
def RelsL (g:Gh) (w:World):List PV→List Value→Prop
 | [],[]=>True
 | x :: xs,v :: vs=>Rel g w x v∧RelsL g w xs vs
 | _,_=>False
theorem RelsL.get {g:Gh} {w:World}:∀{xs:List PV} {vs:List Value},RelsL g w xs vs→vs.length=xs.length∧∀(i:Nat) (hi:i<xs.length) (hv:i<vs.length),Rel g w xs[i] vs[i]:=by
 intro xs
 induction xs with
 | nil=>
  intro vs h
  cases vs with
  | nil=>exact ⟨rfl,fun i hi=>by simp at hi⟩
  | cons v vs=>exact h.elim
 | cons x xs ih=>
  intro vs h
  cases vs with
  | nil=>exact h.elim
  | cons v vs=>
   obtain ⟨h1,h2⟩:=h
   obtain ⟨k1,k2⟩:=ih h2
   refine ⟨by simp [k1],fun i hi hv=>?_⟩
   cases i with
   | zero=>exact h1
   | succ i=>exact k2 i (by simpa using hi) (by simpa using hv)
theorem AbsCall.walkL {P:Program} {f:FuncId} {args:List PV} {v:Value} {us:List Value} {w:World} (hc:AbsCall P f args [] (.lit v) [])
  (h:RelsL (g0 w) w args us):Calls P f us.toArray w fun e w'=>e=.returned v∧Below w.heap.size w w':=
 hc.walk (by simpa using h.get.1) fun i hi hv=>by simpa using h.get.2 i hi (by simpa using hv)
theorem Known.law {P:Program} {f:FuncId} {kf:KF} (hk:Known P f kf) {a:(tup kf.inp.ls).den} {b:denA kf.outs} (hm:kf.model a=some b) {args:List PV} (h1:plugs kf.inp.vs (unpack kf.inp.ls a)=some (args,[])) (h2:kf.inp.bx=[])
  {o:OS} {ds:List Dyn} {v:Value} (h3:sel kf.outs b=some (o,ds)) (h4:plug o.r ds=some (.lit v,[])) (h5:o.bx=[]):AbsCall P f args [] (.lit v) []:=by
 obtain ⟨args',d,σ0,o',ds',r,ds2,σ',e1,e2,e3,e4,e5,e6⟩:=hk.2 a b hm
 rw [h1] at e1
 injection e1 with e1;injection e1 with e1 e1';subst e1;subst e1'
 rw [h2] at e2
 injection e2 with e2;injection e2 with e2 _;subst e2
 rw [h3] at e3
 injection e3 with e3;injection e3 with e3 e3';subst e3;subst e3'
 rw [h4] at e4
 injection e4 with e4;injection e4 with e4 e4';subst e4;subst e4'
 rw [h5] at e5
 injection e5 with e5;injection e5 with e5 _;subst e5
 exact e6
def wfD:(s:Sh)→s.den→Prop
 | .int k,n=>(Lit.int k n).wf=true
 | .flt k,x=>(Lit.float k x).wf=true
 | .str,s=>ByteArray.size s≤maxLen
 | .sl e,l=>List.length l≤maxLen∧∀y∈(show List e.den from l),wfD e y
 | .cons a b,p=>wfD a p.1∧wfD b p.2
 | _,_=>True
theorem tup_append:∀(l1 l2:List Sh) (d1:(tup l1).den) (d2:(tup l2).den),wfD (tup l1) d1→wfD (tup l2) d2→∃d:(tup (l1++l2)).den,(tup (l1++l2)).cells d=(tup l1).cells d1++(tup l2).cells d2∧wfD (tup (l1++l2)) d
 | [],l2,d1,d2,h1,h2=>⟨d2,rfl,h2⟩
 | [s],[],d1,d2,h1,h2=>⟨d1,by simp [tup,Sh.cells],h1⟩
 | [s],t :: r,d1,d2,h1,h2=>⟨(d1,d2),rfl,h1,h2⟩
 | s :: t :: r,l2,d1,d2,h1,h2=>by
  obtain ⟨d,e1,e2⟩:=tup_append (t :: r) l2 d1.2 d2 h1.2 h2
  refine ⟨(d1.1,d),?_,h1.1,e2⟩
  show s.cells d1.1++(tup (t :: r++l2)).cells d=(s.cells d1.1++(tup (t :: r)).cells d1.2)++(tup l2).cells d2
  rw [e1,List.append_assoc]
def foldSh (off:Nat) (g:TypeId→Option (List Sh)):List Field→Option (List Sh)
 | []=>some []
 | f :: fs=>match g f.type with
  | some l=>if f.offset=off then (match foldSh (off+l.length) g fs with
   | some r=>some (l++r)
   | none=>none) else none
  | none=>none
def cellSh (P:Program):Nat→TypeId→Option (List Sh)
 | 0,_=>none
 | d+1,t=>match P.underlying t with
  | some .bool=>some [.bool]
  | some (.int k)=>some [.int k]
  | some (.float k)=>some [.flt k]
  | some .string=>some [.str]
  | some (.slice e)=>match cellSh P d e with
   | some (s :: l)=>if P.cellsOf e=(s :: l).length then some [.sl (tup (s :: l))] else none
   | _=>none
  | some (.struct fs)=>match foldSh 0 (fun e=>match cellSh P d e with
    | some l=>if P.cellsOf e=l.length then some l else none
    | none=>none) fs.toList with
   | some l=>if P.cellsOf t=l.length then some l else none
   | none=>none
  | _=>none
theorem tup_size:∀l:List Sh,(∀s∈l,s.size=1)→(tup l).size=l.length
 | [],_=>rfl
 | [s],h=>h s (by simp)
 | s :: t :: r,h=>by
  show s.size+(tup (t :: r)).size=_
  rw [tup_size (t :: r) (fun x hx=>h x (List.mem_cons_of_mem _ hx)),h s (by simp)]
  simp;omega
theorem foldSh_one {g:TypeId→Option (List Sh)} (hg:∀t l,g t=some l→∀s∈l,s.size=1):∀{fs:List Field} {off:Nat} {l:List Sh},foldSh off g fs=some l→∀s∈l,s.size=1
 | [],off,l,h=>by injection h with h;subst h;intro s hs;cases hs
 | f :: fs,off,l,h=>by
  unfold foldSh at h
  split at h
  ·rename_i l1 h1
   split at h
   ·split at h
    ·rename_i r h2
     injection h with h;subst h
     intro s hs
     rw [List.mem_append] at hs
     rcases hs with hs | hs
     ·exact hg _ _ h1 s hs
     ·exact foldSh_one hg h2 s hs
    ·cases h
   ·cases h
  ·cases h
theorem cellSh_one {P:Program}:∀{d:Nat} {t:TypeId} {l:List Sh},cellSh P d t=some l→∀s∈l,s.size=1:=by
 intro d
 induction d with
 | zero=>intro t l h;cases h
 | succ d ih=>
  intro t l h
  unfold cellSh at h
  split at h
  ·injection h with h;subst h;intro s hs;simp at hs;subst hs;rfl
  ·injection h with h;subst h;intro s hs;simp at hs;subst hs;rfl
  ·injection h with h;subst h;intro s hs;simp at hs;subst hs;rfl
  ·injection h with h;subst h;intro s hs;simp at hs;subst hs;rfl
  ·split at h
   ·split at h
    ·injection h with h;subst h;intro s hs;simp at hs;subst hs;rfl
    ·cases h
   ·cases h
  ·split at h
   ·rename_i l' hl
    split at h
    ·injection h with h;subst h
     refine foldSh_one (fun t l hg=>?_) hl
     split at hg
     ·rename_i l2 h2
      split at hg
      ·injection hg with hg;subst hg;exact ih h2
      ·cases hg
     ·cases hg
    ·cases h
   ·cases h
  ·cases h
theorem cells?_get {w:World} {base:Nat} {a:Addr} {n:Nat} {cs:List Value} (h:w.cells? base a n=some cs):cs.length=n∧∀i,i<n→w.cell? (a.add i)=cs[i]?:=by
 unfold World.cells? at h
 split at h
 ·exact ⟨by simpa using mapM_some_length h,fun i hi=>mapM_some_get h i i (by simp [hi])⟩
 ·cases h
theorem cell_lt {w:World} {a:Addr} {v:Value} (h:w.cell? a=some v):a.block<w.heap.size∧a.spot=none:=by
 unfold World.cell? at h
 split at h
 ·rename_i c _ _ hb
  have:=(Array.getElem?_eq_some_iff.1 hb).1
  split at h
  ·cases h
  ·rename_i hs
   exact ⟨this,by simpa using hs⟩
 ·cases h
theorem add_none {b o i:Nat}:(⟨b,o,none⟩:Addr).add i=⟨b,o+i,none⟩:=by
 unfold Addr.add
 split
 ·rename_i h;subst h;rfl
 ·rfl
theorem listRel {g:Gh} {w:World} {x:PV} {v:Value} (h:Rel g w x v):RelL g w [x] [v]:=⟨rfl,fun i hi hv=>by
 have:i=0:=by simp at hi;omega
 subst this;exact h⟩
theorem RelL.app {g:Gh} {w:World} {xs ys:List PV} {us vs:List Value} (h1:RelL g w xs us) (h2:RelL g w ys vs):RelL g w (xs++ys) (us++vs):=by
 refine ⟨by simp [h1.1,h2.1],fun i hi hv=>?_⟩
 rcases Nat.lt_or_ge i xs.length with h | h
 ·rw [List.getElem_append_left h,List.getElem_append_left (by rw [h1.1];exact h)]
  exact h1.2 i h _
 ·rw [List.getElem_append_right h,List.getElem_append_right (by rw [h1.1];exact h)]
  have e:i - us.length=i - xs.length:=by rw [h1.1]
  simp only [e]
  exact h2.2 (i - xs.length) (by simp at hi;omega) _
theorem trod_float {H:Type} {enc:TypeId×Value→H} {P:Program} {w:World} {base:Nat} {spare:Nat→Bool} {held:Bool} {fuel:Nat} {t:TypeId} {cs:List Value} {x:DataW H×List MemPlace} {k:FloatKind} (ht:P.underlying t=some (.float k)) (h:DataW.trod enc P w base spare held fuel t cs=some x):∃b,cs=[.float k b]∧(Lit.float k b).wf=true:=by
 cases fuel with
 | zero=>simp [DataW.trod] at h
 | succ n=>
  unfold DataW.trod at h
  rw [ht] at h
  split at h <;> simp_all
theorem trod_rel {H:Type} {enc:TypeId×Value→H} {P:Program} {w:World} {base:Nat} {spare:Nat→Bool} {held:Bool}:∀(d:Nat) {t:TypeId} {l:List Sh} {fuel:Nat} {cs:List Value} {x:DataW H×List MemPlace},cellSh P d t=some l→
  DataW.trod enc P w base spare held fuel t cs=some x→∃y:(tup l).den,RelL (g0 w) w ((tup l).cells y) cs∧wfD (tup l) y:=by
 intro d
 induction d with
 | zero=>intro t l fuel cs x h;cases h
 | succ d ih=>
  intro t l fuel cs x h hx
  unfold cellSh at h
  split at h
  ·rename_i ht
   injection h with h;subst h
   obtain ⟨b,rfl,_⟩:=DataW.trod_bool ht hx
   exact ⟨b,listRel (.lit _),trivial⟩
  ·rename_i k ht
   injection h with h;subst h
   obtain ⟨n,rfl,_,hw⟩:=DataW.trod_int ht hx
   exact ⟨n,listRel (.lit _),hw⟩
  ·rename_i k ht
   injection h with h;subst h
   obtain ⟨b,rfl,hw⟩:=trod_float ht hx
   exact ⟨b,listRel (.lit _),hw⟩
  ·rename_i ht
   injection h with h;subst h
   obtain ⟨s,rfl,_,hs⟩:=DataW.trod_string ht hx
   exact ⟨s,listRel (.lit _),hs⟩
  ·rename_i e ht
   split at h
   ·rename_i s0 l0 he
    split at h
    ·rename_i hcell
     injection h with h;subst h
     rcases DataW.trod_slice ht hx with ⟨rfl,_⟩ | ⟨a,len,cap,elems,rest,n,_,rfl,_,hb,hl,hm,hlen,hel,_,_⟩
     ·exact ⟨([]:List (tup (s0 :: l0)).den),listRel (.slz _),Nat.zero_le _,fun y hy=>by cases hy⟩
     ·rcases Nat.eq_zero_or_pos len with rfl | hpos
      ·exact ⟨([]:List (tup (s0 :: l0)).den),listRel (.sle _ a cap),Nat.zero_le _,fun y hy=>by cases hy⟩
      ·have hone:=cellSh_one he
       have hsz:(tup (s0 :: l0)).size=(s0 :: l0).length:=tup_size _ hone
       have each:∀i,i<len→∃(c:List Value) (y:(tup (s0 :: l0)).den),w.cells? base (a.add (i*P.cellsOf e)) (P.cellsOf e)=some c∧RelL (g0 w) w ((tup (s0 :: l0)).cells y) c∧wfD (tup (s0 :: l0)) y:=fun i hi=>by
        have h1:=hel i hi
        have h2:elems[i]? = some (elems[i]'(by omega)):=List.getElem?_eq_getElem (by omega)
        rw [h2] at h1
        cases hc:w.cells? base (a.add (i*P.cellsOf e)) (P.cellsOf e) with
        | none=>rw [hc] at h1;cases h1
        | some c=>
         rw [hc] at h1
         obtain ⟨y,k1,k2⟩:=ih he h1
         exact ⟨c,y,rfl,k1,k2⟩
       have hspot:a.spot=none∧a.block<w.heap.size:=by
        obtain ⟨c,y,h1,h2,_⟩:=each 0 hpos
        obtain ⟨e1,e2⟩:=cells?_get h1
        have h3:=e2 0 (by rw [hcell];simp)
        have h4:c[0]? = some (c[0]'(by rw [e1,hcell];simp)):=List.getElem?_eq_getElem _
        rw [h4] at h3
        have:=cell_lt h3
        simpa [Addr.add] using this.symm
       obtain ⟨b,o,sp⟩:=a
       obtain ⟨rfl,hblk⟩:=hspot
       let ys:List (tup (s0 :: l0)).den:=(List.range len).attach.map fun i=>Classical.choose (Classical.choose_spec (each i.1 (List.mem_range.1 i.2)))
       have hyl:ys.length=len:=by simp [ys]
       have hyg:∀i (hi:i<len),∃c,w.cells? base ((⟨b,o,none⟩:Addr).add (i*P.cellsOf e)) (P.cellsOf e)=some c∧RelL (g0 w) w ((tup (s0 :: l0)).cells (ys[i]'(by omega))) c∧wfD (tup (s0 :: l0)) (ys[i]'(by omega)):=fun i hi=>by
        have hy:ys[i]'(by omega)=Classical.choose (Classical.choose_spec (each i hi)):=by simp [ys]
        rw [hy]
        exact ⟨_,Classical.choose_spec (Classical.choose_spec (each i hi))⟩
       have hels:(⟨tup (s0 :: l0),ys⟩:Xs).els.length=len:=by simp [Xs.els,hyl]
       refine ⟨ys,listRel ?_,by show ys.length≤maxLen;omega,fun y hy=>?_⟩
       ·have hcellv:∀i j,i<len→j<(s0 :: l0).length→∃v,w.cell? ⟨b,o+i*(s0 :: l0).length+j,none⟩=some v:=fun i j hi hj=>by
         obtain ⟨c,h1,h2,_⟩:=hyg i hi
         obtain ⟨e1,e2⟩:=cells?_get h1
         have h3:=e2 j (by rw [hcell];exact hj)
         rw [add_none,add_none,hcell] at h3
         rw [h3]
         exact ⟨_,List.getElem?_eq_getElem (by rw [e1,hcell];exact hj)⟩
        have:=Rel.slv (g:=g0 w) (w:=w) ⟨tup (s0 :: l0),ys⟩ _ rfl b o cap (s0 :: l0).length (fun i j=>(w.cell? ⟨b,o+i*(s0 :: l0).length+j,none⟩).getD undef) (by rw [hels];exact hl)
         (fun i hi=>by simp only [Xs.els,List.getElem_map,Sh.cells_length,hsz])
         (fun i j hi hj=>by
          rw [hels] at hi
          obtain ⟨v,hv⟩:=hcellv i j hi hj
          exact ⟨hblk,by rw [hv];rfl⟩)
         (fun i j hi hj=>by
          rw [hels] at hi
          have hj':j<(s0 :: l0).length:=by simpa only [Xs.els,List.getElem_map,Sh.cells_length,hsz] using hj
          obtain ⟨c,h1,h2,_⟩:=hyg i hi
          obtain ⟨e1,e2⟩:=cells?_get h1
          have h3:=e2 j (by rw [hcell];exact hj')
          rw [add_none,add_none,hcell] at h3
          have hjc:j<c.length:=by rw [e1,hcell];exact hj'
          have h4:c[j]? = some c[j]:=List.getElem?_eq_getElem hjc
          rw [h3,h4]
          have h5:=h2.2 j (by rw [Sh.cells_length,hsz];exact hj') hjc
          simp only [Xs.els,List.getElem_map,Option.getD_some]
          exact h5)
        rw [hels] at this
        exact this
       ·obtain ⟨i,hi,rfl⟩:=List.getElem_of_mem hy
        obtain ⟨c,_,_,h3⟩:=hyg i (by rw [←hyl];exact hi)
        exact h3
    ·cases h
   ·cases h
  ·rename_i fs ht
   split at h
   ·rename_i l' hfold
    split at h
    ·rename_i hcell
     injection h with h;subst h
     obtain ⟨xs,n,_,_,hcl,hxl,hxf⟩:=DataW.trod_struct ht hx
     have key:∀(k off:Nat) (l':List Sh),k≤fs.size→foldSh off (fun e=>match cellSh P d e with
       | some l=>if P.cellsOf e=l.length then some l else none
       | none=>none) (fs.toList.drop k)=some l'→cs.length=off+l'.length→∃y:(tup l').den,RelL (g0 w) w ((tup l').cells y) (cs.drop off)∧wfD (tup l') y:=by
      intro k off l' hk
      generalize hm:fs.toList.drop k=rest
      induction rest generalizing k off l' with
      | nil=>
       intro h1 h2
       injection h1 with h1;subst h1
       refine ⟨(),⟨?_,fun i hi=>by simp [tup,Sh.cells] at hi⟩,trivial⟩
       simp [tup,Sh.cells];simp at h2;omega
      | cons f rest ihr=>
       intro h1 h2
       have hklt:k<fs.toList.length:=by
        rcases Nat.lt_or_ge k fs.toList.length with h | h
        ·exact h
        ·rw [List.drop_eq_nil_of_le h] at hm;cases hm
       rw [List.drop_eq_getElem_cons hklt] at hm
       injection hm with hm1 hm2
       unfold foldSh at h1
       split at h1
       ·rename_i l1 hl1
        split at hl1
        ·rename_i l2 hl2
         split at hl1
         ·rename_i hc2
          injection hl1 with hl1;subst hl1
          split at h1
          ·rename_i hoff
           split at h1
           ·rename_i r hr
            injection h1 with h1;subst h1
            simp only [List.length_append] at h2
            obtain ⟨y2,k1,k2⟩:=ihr (k+1) (off+l2.length) r (by simp at hklt;omega) hm2 hr (by omega)
            have hf:=hxf k f (by rw [←Array.getElem?_toList,List.getElem?_eq_getElem hklt,hm1])
            have hxk:xs[k]? = some (xs[k]'(by rw [hxl];simpa using hklt)):=List.getElem?_eq_getElem _
            rw [hxk] at hf
            obtain ⟨y1,j1,j2⟩:=ih hl2 hf
            obtain ⟨y,m1,m2⟩:=tup_append l2 r y1 y2 j2 k2
            refine ⟨y,?_,m2⟩
            rw [m1]
            have hsplit:cs.drop off=(cs.drop f.offset).take (P.cellsOf f.type)++cs.drop (off+l2.length):=by
             rw [hoff,hc2,←List.drop_drop,List.take_append_drop]
            rw [hsplit]
            exact j1.app k1
           ·cases h1
          ·cases h1
         ·cases hl1
        ·cases hl1
       ·cases h1
     obtain ⟨y,k1,k2⟩:=key 0 0 l' (Nat.zero_le _) (by simpa using hfold) (by rw [hcl,hcell];omega)
     exact ⟨y,by simpa using k1,k2⟩
    ·cases h
   ·cases h
  ·cases h
theorem okWide_one {P:Program} {w:World} {r:Reach} {base:Nat} {t:TypeId} {v:Value} {s:Sh} {d:Nat} (hc:cellSh P d t=some [s]) (hns:∀fs,P.underlying t≠some (.struct fs)) (h:Value.okWide P w r base t v):v.cells.toList=[v]:=by
 cases v with
 | agg cs=>
  exfalso
  cases d with
  | zero=>cases hc
  | succ d=>
   unfold cellSh at hc
   unfold Value.okWide at h
   split at hc
   ·rename_i ht;simp only [ht,Cell.okWide,Cell.ok] at h
   ·rename_i k ht;simp only [ht,Cell.okWide,Cell.ok] at h
   ·rename_i k ht;simp only [ht,Cell.okWide,Cell.ok] at h
   ·rename_i ht;simp only [ht,Cell.okWide,Cell.ok] at h
   ·rename_i e ht;simp only [ht,Cell.okWide,Cell.ok] at h
   ·rename_i fs ht;exact hns fs ht
   ·cases hc
 | _=>rfl
theorem param_rel {H:Type} {enc:TypeId×Value→H} {P:Program} {w:World} {base base':Nat} {spare:Nat→Bool} {held:Bool} {d:Nat} {t:TypeId} {s:Sh} {v:Value} {dt:DataW H} {ps:List MemPlace} (hc:cellSh P d t=some [s]) (hns:∀fs,P.underlying t≠some (.struct fs))
  (hok:Value.okWide P w .any base' t v) (h:DataW.Trod enc P w base spare held t v dt ps):∃(y:s.den) (pv:PV),s.cells y=[pv]∧Rel (g0 w) w pv v∧wfD s y:=by
 obtain ⟨fuel,hf⟩:=h
 rw [okWide_one hc hns hok] at hf
 obtain ⟨y,h1,h2⟩:=trod_rel d hc hf
 have h1:RelL (g0 w) w (s.cells y) [v]:=h1
 have hl:=h1.1
 match hy:s.cells y,hl with
 | [pv],_=>
  have:=h1.2 0 (by rw [hy];simp) (by simp)
  simp only [hy,List.getElem_cons_zero] at this
  exact ⟨y,pv,hy,this,h2⟩
end Go.AM
namespace Go.AM
theorem afterCall0 {σ0:List Bx} {y:PV} {σ':List Bx} {s:St} (h:afterCall { ts:=[],n:=1,σ:=σ0 } 1 (some 0) y σ'=some s) (hn:y.noAl=true):lkp s.ts 0=y:=by
 have hfix:∀N,fixN N y=y:=fun N=>by cases y <;> first | rfl | simp [PV.noAl] at hn
 unfold afterCall at h
 split at h
 ·rename_i st1 h1
  injection h with h;subst h
  show lkp (cutN 1 st1.ts) 0=y
  have key:lkp st1.ts 0=y:=by
   split at h1
   ·rename_i hown
    simp only [St.mvD] at h1
    have hc:contentAt { ts:=(1,y) :: cutC 1 [],n:=1+1,σ:=σ' } (.tmp 1)=some y:=by simp [contentAt,St.get,lkp,Nat.beq_refl]
    rw [hc] at h1
    simp only at h1
    split at h1
    ·rename_i hlt
     injection h1 with h1;subst h1
     have:(({ ts:=(1,y) :: cutC 1 [],n:=1+1,σ:=σ' }:St).setP (.tmp 1) .dead).n=2:=by rw [tsLen_setP]
     have hg:=get_setP_tmp (st:=({ ts:=(1,y) :: cutC 1 [],n:=1+1,σ:=σ' }:St).setP (.tmp 1) .dead) (d:=0) (x:=y) (by rw [this];omega)
     simp only [St.get] at hg
     split at hg
     ·exact Option.some.inj hg
     ·cases hg
    ·cases h1
   ·simp only [St.setD] at h1
    split at h1
    ·injection h1 with h1;subst h1
     have hg:=get_setP_tmp (st:=({ ts:=(1,y) :: cutC 1 [],n:=1+1,σ:=σ' }:St)) (d:=0) (x:=y) (by show 0<1+1;omega)
     simp only [St.get] at hg
     split at hg
     ·exact Option.some.inj hg
     ·cases hg
    ·cases h1
  rw [lkp_cutN,if_pos (by omega),key,hfix]
 ·cases h
theorem Inv.arg0 {P:Program} {g:Gh} {r rx:PV} {xs:List PV} {σ:List Bx} {v0 u':Value} {rest:Array Value} {w:World} (h:Inv P g { ts:=number 0 (r :: xs),n:=(r :: xs).length,σ } (#[v0]++rest) w) (hx:Rel g w rx u') (hal:xs.all PV.noAl=true) :
  Inv P g { ts:=number 0 (rx :: xs),n:=(rx :: xs).length,σ } (#[u']++rest) w where
 size:=by have:=h.size;simpa using this
 slot t x hx0:=by
  obtain ⟨ht,rfl⟩:=number_get _ t x σ hx0
  cases t with
  | zero=>exact ⟨u',by rw [Array.getElem?_append_left (by simp)];rfl,slot_of_rel hx hx.plain⟩
  | succ t=>
   have ht':t<xs.length:=by simpa using ht
   obtain ⟨v,hv,hs⟩:=h.slot (t+1) xs[t] (by
    have:=get_number (xs:=r :: xs) σ (t:=t+1) (by simpa using ht')
    simpa using this)
   refine ⟨v,?_,?_⟩
   ·rw [Array.getElem?_append_right (by simp)] at hv ⊢
    simpa using hv
   ·show Slot P _ g _ w (.tmp (t+1)) xs[t] v
    exact hs.gh (List.all_eq_true.1 hal _ (List.getElem_mem ht')) rfl rfl (fun _ h=>h)
 rlen:=h.rlen
 box id ty cs b h1 h2:=by
  obtain ⟨c,fz,k1,k2,k3,k4⟩:=h.box id ty cs b h1 h2
  refine ⟨c,fz,k1,k2,k3,fun off x hx=>?_⟩
  obtain ⟨j1,v,j2,j3⟩:=k4 off x hx
  exact ⟨j1,v,j2,j3.gh j1 rfl rfl (fun _ h=>h)⟩
 bmap:=h.bmap
 bfam:=h.bfam
 fdom:=h.fdom
 rown:=h.rown
 olt:=h.olt
 flt:=h.flt
 fbox:=h.fbox
theorem KnownO.of {C:TC} (hC:C.Ok) {ko:KO} (h:∀x a,koRun C ko.alts ko.name ko.args ko.res x a=ko.model x a):KnownO C.C.P ko:=by
 intro x a u x' hm
 rw [←h x a] at hm
 unfold koRun at hm
 obtain ⟨alt,ds,hk,hop⟩:=elimO_open hm
 split at hk
 ·rename_i r σ hoa
  split at hk
  ·rename_i xs hpl
   split at hk
   ·rename_i T v
    split at hk
    ·rename_i f rx hrec
     split at hk
     ·rename_i hal
      obtain ⟨y,σ',s,h1,h2,h3,h4,h5,h6,_⟩:=tryK_ok hC (f:=f) hal (fun kf hkf=>hkf) hk
      have hy:=afterCall0 h5 h1
      have hσ:=afterCall_σ h5
      rw [hy,hσ] at h6
      unfold koEnd at h6
      split at h6
      ·rename_i p d hsh
       split at h6
       ·rename_i hc
        simp only [Bool.and_eq_true] at hc
        obtain ⟨c1,c2⟩:=hc
        have c1:=PT.beq_eq _ _ c1
        subst c1
        obtain ⟨u1,x1,e1,e2,e3⟩:=both_some h6
        injection e3 with e4 e5
        subst e4;subst e5
        have k1:=shape_plug _ hsh []
        rw [List.append_nil,←unpack_pack e1] at k1
        refine ⟨.ifc T v,σ,xs,_,σ',hop.trans hoa,hpl,k1,closeA_open e2,Nat.eq_of_beq_eq_true c2,rfl,rfl,?_⟩
        intro g us w hI T' u0 rest hus
        subst hus
        obtain ⟨v0,hv0,hs0⟩:=hI.slot 0 (.ifc T v) (get_number (xs:=.ifc T v :: xs) σ (by simp))
        have hv0:v0=.iface T' u0:=by
         rw [Array.getElem?_append_left (by simp)] at hv0
         simpa using hv0.symm
        subst hv0
        have hs0:Rel g w (.ifc T v) (.iface T' u0):=hs0
        cases hs0 with
        | ifc _ _ _ hv=>
         obtain ⟨u',hx,hmeth⟩:=recvOf_sound hI hrec hv
         refine ⟨f,u',hmeth,h3,(h4 g _ w (hI.arg0 hx (by simp only [List.all_cons,Bool.and_eq_true] at hal;exact hal.2))).mono ?_⟩
         rintro e w' ⟨rv,gc,rfl,i1,i2,_⟩
         exact ⟨rv,gc,rfl,i1.res (r':=nilR ko.res y) fun v hs=>nilR_slot h1 hs,i2,fun hf=>hf.elim⟩
       ·cases h6
      ·cases h6
     ·cases hk
    ·cases hk
   ·cases hk
  ·cases hk
 ·cases hk
def kp (l:List Nat):Hint:={ keep:=l }
def kpf (l:List Nat):Hint:={ keep:=l,fb:=true }
def lkO {α:Type}:List (Nat×α)→Nat→Option α
 | [],_=>none
 | p :: r,n=>match Nat.beq p.1 n with
  | true=>some p.2
  | false=>lkO r n
def lkL {α:Type}:List (Nat×List α)→Nat→List α
 | [],_=>[]
 | p :: r,n=>match Nat.beq p.1 n with
  | true=>p.2
  | false=>lkL r n
noncomputable def lkK:List (FuncId×KF)→FuncId→List KF
 | [],_=>[]
 | p :: r,n=>match Nat.beq p.1 n with
  | true=>p.2 :: lkK r n
  | false=>lkK r n
structure WX where
 h:List (Nat×Hint)
 tt:List (Nat×TypeId×Sh):=[]
 lp:List (Nat×List Nat):=[]
 nz:List (Nat×List (Nat×TypeId×Sh)):=[]
 lv:List Nat:=[]
 vw:List Nat:=[]
 nv:List (Nat×List (Plc×Nat×TypeId×Sh)):=[]
 dr:Nat→Option DH:=fun _=>none
noncomputable def TC.of (P:Program) (sh:TypeId→Sh) (can:TypeId→List (Nat×Nat×TypeId×Sh)) (fu:Nat) (x:WX) (kn:List (FuncId×KF)) (ko:List KO):TC:=
 {C:={ P,mv:=fun _ _=>false,res:=fun _=>false,live:=lkO x.h,call:=fun _ _ _=>none,sh },kn:=lkK kn,fu,lp:=fun n=>{ excl:=lkL x.lp n,nz:=lkL x.nz n },dr:=x.dr,can,tt:=lkO x.tt,lv:=x.lv,vw:=x.vw,ko,nv:=lkL x.nv }
def AllK (P:Program) (l:List (FuncId×KF)):Prop:=∀p∈l,Known P p.1 p.2
def AllO (P:Program) (l:List KO):Prop:=∀k∈l,KnownO P k
theorem k0 {P:Program}:AllK P []:=fun _ h=>by cases h
theorem k1 {P:Program} {f:FuncId} {kf:KF} {l:List (FuncId×KF)} (h:Known P f kf) (r:AllK P l):AllK P ((f,kf) :: l):=fun p hp=>by
 rcases List.mem_cons.1 hp with rfl | hp
 ·exact h
 ·exact r p hp
theorem o0 {P:Program}:AllO P []:=fun _ h=>by cases h
theorem o1 {P:Program} {k:KO} {l:List KO} (h:KnownO P k) (r:AllO P l):AllO P (k :: l):=fun p hp=>by
 rcases List.mem_cons.1 hp with rfl | hp
 ·exact h
 ·exact r p hp
theorem lkK_mem {f:FuncId} {kf:KF}:∀{l:List (FuncId×KF)},kf∈lkK l f→(f,kf)∈l
 | [],h=>by cases h
 | p :: r,h=>by
  unfold lkK at h
  split at h
  ·rename_i hb
   have:=Nat.eq_of_beq_eq_true hb
   subst this
   rcases List.mem_cons.1 h with rfl | h
   ·exact List.mem_cons_self
   ·exact List.mem_cons_of_mem _ (lkK_mem h)
  ·exact List.mem_cons_of_mem _ (lkK_mem h)
theorem mkOk {P:Program} (w:WF P) (sh:TypeId→Sh) (can:TypeId→List (Nat×Nat×TypeId×Sh)) (fu:Nat) (x:WX) {kn:List (FuncId×KF)} {ko:List KO} (hk:AllK P kn) (ho:AllO P ko):(TC.of P sh can fu x kn ko).Ok:=
 ⟨w,fun f kf h=>hk (f,kf) (lkK_mem h),fun k h=>ho k h⟩
theorem mkK {P:Program} (w:WF P) (sh:TypeId→Sh) (can:TypeId→List (Nat×Nat×TypeId×Sh)) (fu:Nat) (x:WX) (kn:List (FuncId×KF)) (ko:List KO) (hk:AllK P kn) (ho:AllO P ko) {f:FuncId} {fn:Func} (hfn:P.funcs[f]? = some fn) (hb:fn.body.isSome=true) {kf:KF}
  (h:∀a,fnK (TC.of P sh can fu x kn ko) fn kf.inp kf.outs a=kf.model a):Known P f kf:=Known.of (mkOk w sh can fu x hk ho) hfn hb h
theorem mkO {P:Program} (w:WF P) (sh:TypeId→Sh) (can:TypeId→List (Nat×Nat×TypeId×Sh)) (fu:Nat) (kn:List (FuncId×KF)) (hk:AllK P kn) {ko:KO}
  (h:∀x a,koRun (TC.of P sh can fu { h:=[] } kn []) ko.alts ko.name ko.args ko.res x a=ko.model x a):KnownO P ko:=KnownO.of (mkOk w sh can fu { h:=[] } hk o0) h
end Go.AM
namespace Go.AM
open Go.RowKit
def lowB (b:UInt8):UInt8:=if 65≤b∧b≤90 then b+32 else b
def lowS (s:ByteArray):ByteArray:=⟨(s.data.toList.map lowB).toArray⟩
def ascS (s:ByteArray):Bool:=decide (s.size≤140737488355328) && s.data.toList.all fun b=>decide (b.toNat<128)
theorem ext_below {P:Program} {st:St} {g:Gh} {us:Array Value} {w w':World} (h:Inv P g st us w) (hb:Below w.heap.size w w'):Ext g g w w' where
 rho:=List.prefix_rfl
 fam _ _ _ h:=h
 obx _ _ _ h:=h
 fp _ _ h:=h
 fpc b i hi:=by
  have:=hb.block b (h.flt b i hi)
  simp only [World.cell?,this]
 keep b hlt _:=hb.block b hlt
 size:=hb.size
 frame _ h:=h
 noframe _ h:=h
 none_ _ _ h:=h
 fnew _ _ _ h:=h
 os:=hb.os
 tape:=hb.tape
 output:=hb.output
theorem Known.strings {P:Program} {f:FuncId} {m:ByteArray→Option ByteArray} (hfn:∃fn,P.funcs[f]? = some fn∧fn.body.isSome=true)
  (h:∀s t,m s=some t→∀w,Calls P f #[.string s] w fun e w'=>e=.returned (.string t)∧Below w.heap.size w w') :
  Known P f { inp:=⟨[.lf .str],[]⟩,outs:=[⟨.lf .str,[]⟩],pure:=true,model:=m }:=by
 refine ⟨hfn,fun a res hr=>?_⟩
 have hr:m a=some res:=hr
 refine ⟨[.lit (.string a)],[],[],⟨.lf .str,[]⟩,[⟨.str,res⟩],.lit (.string res),[],[],rfl,rfl,rfl,rfl,rfl,?_⟩
 ·intro g us w hI
  have hsz:us.size=1:=hI.size
  obtain ⟨v,hv,hs⟩:=hI.slot 0 (.lit (.string a)) rfl
  have hs:Rel g w (.lit (.string a)) v:=hs
  have hv':v=.string a:=by cases hs;rfl
  subst hv'
  have hus:us = #[.string a]:=by
   apply Array.ext
   ·simpa using hsz
   ·intro i h1 h2
    have:i=0:=by simp at h2;omega
    subst this
    rw [Array.getElem?_eq_getElem h1] at hv
    simpa using hv
  rw [hus]
  refine (h a res hr w).mono ?_
  rintro e w' ⟨rfl,hb⟩
  have hE:=ext_below hI hb
  have hrl:g.rho=[]:=by have:=hI.rlen;simpa using this
  refine ⟨_,g,rfl,?_,hE⟩
  exact
  {size:=rfl
   slot:=fun t x hx=>by
    have ht:t<1:=get_lt hx
    have:t=0:=by omega
    subst this
    have hx:some (PV.lit (.string res))=some x:=hx
    injection hx with hx;subst hx
    exact ⟨.string res,rfl,Rel.lit _⟩
   rlen:=by rw [hrl];rfl
   box:=fun id ty cs b h1 _=>by simp at h1
   bmap:=fun id es b h1 _=>by simp at h1
   bfam:=fun id alts l h1=>by simp at h1
   rown:=fun id b _ hb'=>by rw [hrl] at hb';simp at hb'
   fdom:=fun id i v hv=>hI.fdom id i v hv
   olt:=fun b o ho=>Nat.lt_of_lt_of_le (hI.olt b o ho) hb.size
   flt:=fun b i hi=>Nat.lt_of_lt_of_le (hI.flt b i hi) hb.size
   fbox:=hI.fbox }
end Go.AM
namespace Go.AM
def w64 (n:Int):Int:=IntKind.i64.wrap n
def w8 (n:Int):Int:=IntKind.u8.wrap n
abbrev TK:=Int×(Int×((List Int)×Int))
abbrev ND:=Int×(Int×(Int×Int))
abbrev RL:=(List Int)×(List Int)
def bs (l:List UInt8):ByteArray:=⟨l.toArray⟩
abbrev zi:PT:=.lf (.int .i64)
abbrev zb:PT:=.lf (.int .u8)
abbrev zo:PT:=.lf .bool
abbrev zs:PT:=.lf .str
abbrev zI:Sh:=.int .i64
abbrev zB:Sh:=.int .u8
abbrev zT:Sh:=.cons (.int .i64) (.cons (.int .i64) (.cons (.sl (.int .i64)) (.int .i64)))
abbrev zR:Sh:=.cons (.sl (.int .i64)) (.sl (.int .i64))
abbrev zN:Sh:=.cons (.int .i64) (.cons (.int .i64) (.cons (.int .i64) (.int .i64)))
abbrev zv (s:Sh):PT:=.sl .view false s
abbrev zx (e:TypeId) (s:Sh):PT:=.sl (.excl e) false s
abbrev zw (e:TypeId) (s:Sh):PT:=.sl (.own e) false s
abbrev zE:PT:=.elemv [zv zN,zv zR] 0
abbrev zA:PT:=.elemv [zi,zi,zE,zE] 0
end Go.AM
