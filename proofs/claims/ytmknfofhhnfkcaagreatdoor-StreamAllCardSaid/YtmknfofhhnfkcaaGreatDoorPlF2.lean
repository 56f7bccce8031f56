/- Plain laws of the models. -/
import Derived.Test.YtmknfofhhnfkcaaGreatDoorPlF1
set_option linter.all false
namespace Go.AM.M
open Go.AM
abbrev LDS:=List DSt
abbrev LES:=List ESt
abbrev WS:=List Int×(Int×Int×Int)
abbrev SSt:=ByteArray×(ByteArray×Int×Nat×Nat×List Int×Int×Int×Int×Bool×Bool×LDS×LES)
def mkS (a b:ByteArray) (pol:Int) (x:WS) (en cl:Bool) (D:LDS) (E:LES):SSt:=(a,b,pol,(0:Nat),(0:Nat),x.1,x.2.1,x.2.2.1,x.2.2.2,en,cl,D,E)
def wrT (pol:Int) (x:WS) (t:Tok):WS:=
 if x.2.2.2≠0 then x else if t.2.2.2=0 then (x.1++t.2.2.1.map w8,x.2) else if pol=0 then (x.1,2,t.1,t.2.2.2) else if pol=1 then (x.1++[63],x.2) else x
def wrTs (pol:Int) (x:WS) (ts:List Tok):WS:=ts.foldl (wrT pol) x
theorem wrT_fault {pol:Int} {x:WS} {t:Tok} (h:x.2.2.2≠0):wrT pol x t=x:=by unfold wrT;rw [if_pos h]
theorem wrTs_fault {pol:Int} {x:WS} (h:x.2.2.2≠0):∀ts,wrTs pol x ts=x
 | []=>rfl
 | t :: ts=>by
  show wrTs pol (wrT pol x t) ts=x
  rw [wrT_fault h,wrTs_fault h ts]
theorem wrT_len {pol:Int} {x:WS} {t:Tok} (h:t.2.2.1.length≤8):x.1.length≤(wrT pol x t).1.length∧(wrT pol x t).1.length≤x.1.length+8∧x.1 <+: (wrT pol x t).1:=by
 unfold wrT
 repeat' split
 all_goals first | exact ⟨Nat.le_refl _,Nat.le_add_right _ _,List.prefix_rfl⟩ | exact ⟨by simp,by simp <;> omega,List.prefix_append _ _⟩
theorem wrTs_len {pol:Int}:∀{ts:List Tok} {x:WS},fewO ts→x.1.length≤(wrTs pol x ts).1.length∧(wrTs pol x ts).1.length≤x.1.length+8*ts.length∧x.1 <+: (wrTs pol x ts).1
 | [],x,_=>⟨Nat.le_refl _,by simp [wrTs],List.prefix_rfl⟩
 | t :: ts,x,h=>by
  obtain ⟨h1,h2,h3⟩:=wrT_len (pol:=pol) (x:=x) (h t (by simp))
  obtain ⟨h4,h5,h6⟩:=wrTs_len (pol:=pol) (x:=wrT pol x t) (fun y hy=>h y (List.mem_cons_of_mem _ hy))
  show x.1.length≤(wrTs pol (wrT pol x t) ts).1.length∧_
  simp only [List.length_cons]
  exact ⟨by omega,by show (wrTs pol (wrT pol x t) ts).1.length≤_;omega,h3.trans h6⟩
theorem wrong_eq {fu:Nat} {sd at' ln er:Int} {o:List Int} {a b:ByteArray} {pol:Int} {x:WS} {en cl:Bool} {D:LDS} {E:LES} :
  stream_Stream_wrong fu (sd,at',ln,o,er,mkS a b pol x en cl D E)=some (decide (pol=0),mkS a b pol (if pol=0 then (x.1,sd,at',er) else x) en cl D E):=by
 unfold stream_Stream_wrong mkS
 dsimp only
 by_cases h:pol=0
 ·rw [beq_t h,cond_true,if_pos h,decide_eq_true h]
 ·rw [beq_f h,cond_false,if_neg h,decide_eq_false h]
theorem wr_L0 {ts:List Tok} {n k:Int} {out:List Int} (ho:out.length≤8) {a b:ByteArray} {pol:Int} {x:WS} (hx:x.1.length≤900000000) {en cl:Bool} {D:LDS} {E:LES} (q1 q2:Int) (q3:List Int) (q4:Int) :
  loopM (stream_Stream_written_L0 FU64) FU64 (ts,ts,n,k,out,(out.length:Int),(0:Int),a,b,pol,(0:Nat),(0:Nat),x.1,x.2.1,x.2.2.1,x.2.2.2,en,cl,D,E,q1,q2,q3,q4) =
   some (.inl (ts,ts,n,w64 (k+1),mkS a b pol (x.1++out.map w8,x.2) en cl D E)):=by
 have:=loop_st (f:=stream_Stream_written_L0 FU64) (fun j=>(ts,ts,n,k,out,(out.length:Int),(j:Int),a,b,pol,(0:Nat),(0:Nat),(x.1++(out.take j).map w8,(x.2.1,x.2.2.1,x.2.2.2,en,cl,D,E,q1,q2,q3,q4)))) (m:=out.length) (fu:=FU64) (r:=.inl (ts,ts,n,w64 (k+1),mkS a b pol (x.1++out.map w8,x.2) en cl D E)) (fun j hj=>by
   unfold stream_Stream_written_L0
   dsimp only
   rw [decide_eq_true (by omega),cond_true,nthI_get hj,bind_some',fit1 (n:=(x.1++(out.take j).map w8).length) (by simp;omega) (by simp),cond_true,w64_succ hj (by omega),List.take_succ_eq_append_getElem hj,List.map_append,List.append_assoc]
   rfl) (by
   unfold stream_Stream_written_L0
   dsimp only
   rw [decide_eq_false (by omega),cond_false,List.take_length]
   rfl) (by unfold FU64;omega)
 simp only [List.take_zero,List.map_nil,List.append_nil] at this
 exact this
theorem wr_L1 {ts:List Tok} (hn:ts.length≤1000000) (hf:fewO ts) {a b:ByteArray} {pol:Int} {en cl:Bool} {D:LDS} {E:LES}:∀(m k g:Nat) (x:WS),k+m=ts.length→m<g→x.1.length+8*m≤900000000→
  loopM (stream_Stream_written_L1 FU64) g (ts,ts,(ts.length:Int),(k:Int),mkS a b pol x en cl D E)=some (mkS a b pol (wrTs pol x (ts.drop k)) en cl D E):=by
 intro m
 induction m with
 | zero=>
  intro k g x hk hg _
  obtain ⟨g,rfl⟩:∃q,g=q+1:=⟨g - 1,by omega⟩
  rw [List.drop_eq_nil_of_le (by omega),loopM_succ]
  unfold stream_Stream_written_L1 mkS
  dsimp only
  rw [decide_eq_false (by omega),cond_false]
  rfl
 | succ m ih=>
  intro k g x hk hg hx
  obtain ⟨g,rfl⟩:∃q,g=q+1:=⟨g - 1,by omega⟩
  have hkl:k<ts.length:=by omega
  have h8:=hf ts[k] (List.getElem_mem hkl)
  have hlen:=wrT_len (pol:=pol) (x:=x) h8
  rw [List.drop_eq_getElem_cons hkl]
  show _=some (mkS a b pol (wrTs pol (wrT pol x ts[k]) (ts.drop (k+1))) en cl D E)
  by_cases he:x.2.2.2=0
  ·rw [←ih (k+1) g (wrT pol x ts[k]) (by omega) (by omega) (by omega),loopM_succ]
   have e:stream_Stream_written_L1 FU64 (ts,ts,(ts.length:Int),(k:Int),mkS a b pol x en cl D E)=some (.inl (ts,ts,(ts.length:Int),((k+1:Nat):Int),mkS a b pol (wrT pol x ts[k]) en cl D E)):=by
    unfold stream_Stream_written_L1
    rw [show mkS a b pol x en cl D E=(a,b,pol,(0:Nat),(0:Nat),x.1,x.2.1,x.2.2.1,x.2.2.2,en,cl,D,E) from rfl]
    dsimp only
    rw [decide_eq_true (by omega),cond_true,nthI_get hkl,bind_some',bne_eq_false_iff_eq.2 he,cond_false]
    by_cases h0:ts[k].2.2.2=0
    ·rw [beq_t h0,cond_true,wr_L0 h8 (by omega),w64_succ hkl (by omega)]
     unfold wrT
     rw [if_neg (by simp [he]),if_pos h0]
    ·rw [beq_f h0,cond_false,show (ts[k].1,ts[k].2.1,ts[k].2.2.1,ts[k].2.2.2,a,b,pol,(0:Nat),(0:Nat),x.1,x.2.1,x.2.2.1,x.2.2.2,en,cl,D,E)=(ts[k].1,ts[k].2.1,ts[k].2.2.1,ts[k].2.2.2,mkS a b pol x en cl D E) from rfl,wrong_eq,bind_some',w64_succ hkl (by omega)]
     have hw:wrT pol x ts[k]=if pol=0 then (x.1,2,ts[k].1,ts[k].2.2.2) else if pol=1 then (x.1++[63],x.2) else x:=by
      unfold wrT
      rw [if_neg (by simp [he]),if_neg h0]
     rw [hw]
     by_cases hp:pol=0
     ·simp only [if_pos hp,decide_eq_true hp]
      try rfl
     ·simp only [if_neg hp,decide_eq_false hp]
      by_cases h1:pol=1
      ·simp only [if_pos h1]
       show (bif true then (bif pol == 1 then (bif decide ((x.1.length + [(63:Int)].length)*1≤2 ^ 46) then _ else _) else _) else _)=_
       rw [cond_true,beq_t h1,cond_true,fit1 (by omega) (by simp),cond_true]
       try rfl
      ·simp only [if_neg h1]
       show (bif true then (bif pol == 1 then _ else _) else _)=_
       rw [cond_true,beq_f h1,cond_false]
       try rfl
   rw [e]
  ·rw [wrT_fault he,wrTs_fault he,loopM_succ]
   unfold stream_Stream_written_L1 mkS
   dsimp only
   rw [decide_eq_true (by omega),cond_true,nthI_get hkl,bind_some',bne_iff_ne.2 he,cond_true]
theorem written_eq {ts:List Tok} (hn:ts.length≤1000000) (hf:fewO ts) {a b:ByteArray} {pol:Int} {x:WS} (hx:x.1.length+8*ts.length≤900000000) {en cl:Bool} {D:LDS} {E:LES} :
  stream_Stream_written FU64 (ts,mkS a b pol x en cl D E)=some (mkS a b pol (wrTs pol x ts) en cl D E):=by
 have:=wr_L1 hn hf (a:=a) (b:=b) (pol:=pol) (en:=en) (cl:=cl) (D:=D) (E:=E) ts.length 0 FU64 x (Nat.zero_add _) (by unfold FU64;omega) hx
 rw [List.drop_zero] at this
 exact this
def putX (pol:Int) (y:WS×PE) (u:Int):WS×PE:=if y.1.2.2.2=0 then (wrTs pol y.1 (y.2.put u).1,(y.2.put u).2) else y
def putsX (pol:Int) (y:WS×PE) (us:List Int):WS×PE:=us.foldl (putX pol) y
def lastX (pol:Int) (y:WS×PE) (f:Int×(Int×Int)):WS×PE:=
 (if (wrTs pol (y.1.1,0,0,0) y.2.fin.1).2.2.2≠0 then wrTs pol (y.1.1,0,0,0) y.2.fin.1 else ((wrTs pol (y.1.1,0,0,0) y.2.fin.1).1,f),y.2.fin.2)
def tkO (pol:Int) (t:Tok):List Int:=if t.2.2.2≠0 then (if pol=1 then [65533] else []) else t.2.2.1
def tkW (pol:Int) (t:Tok) (z:WS×PE):Prop:=t.2.2.2≠0∧z.1.2.2.2=0∧pol=0
instance (pol:Int) (t:Tok) (z:WS×PE):Decidable (tkW pol t z):=by unfold tkW;exact inferInstance
def tkY (pol:Int) (t:Tok) (z:WS×PE):WS×PE:=if tkW pol t z then lastX pol z (1,t.1,t.2.2.2) else z
def takeT (pol:Int) (y:WS×PE) (t:Tok):WS×PE:=tkY pol t (putsX pol y (tkO pol t))
def takeTs (pol:Int) (y:WS×PE) (ts:List Tok):WS×PE:=ts.foldl (takeT pol) y
theorem putsX_fault {pol:Int} {y:WS×PE} (h:y.1.2.2.2≠0):∀us,putsX pol y us=y
 | []=>rfl
 | u :: us=>by
  show putsX pol (putX pol y u) us=y
  have:putX pol y u=y:=if_neg h
  rw [this,putsX_fault h us]
theorem takeT_fault {pol:Int} {y:WS×PE} (h:y.1.2.2.2≠0) (t:Tok):takeT pol y t=y:=by
 unfold takeT tkY
 rw [putsX_fault h,if_neg (fun hw=>h hw.2.1)]
theorem takeTs_fault {pol:Int} {y:WS×PE} (h:y.1.2.2.2≠0):∀ts,takeTs pol y ts=y
 | []=>rfl
 | t :: ts=>by
  show takeTs pol (takeT pol y t) ts=y
  rw [takeT_fault h,takeTs_fault h ts]
theorem takeTs_append (pol:Int) (y:WS×PE) (a b:List Tok):takeTs pol y (a++b)=takeTs pol (takeTs pol y a) b:=by simp [takeTs]
structure RX (k:Nat) (y:WS×PE) (xe:ESt):Prop where
 ok:y.2.Ok k
 rep:y.2.Rep k xe
theorem lastX_er {pol:Int} {y:WS×PE} {f:Int×(Int×Int)} (h:f.2.2≠0):(lastX pol y f).1.2.2.2≠0:=by
 unfold lastX
 dsimp only
 split
 ·assumption
 ·exact h
theorem put_step {a b:ByteArray} {pol:Int} {en cl:Bool} {D:LDS} {k:Nat} {y:WS×PE} {xe:ESt} (hr:RX k y xe) (hk:k≤1000000000) (hb:y.1.1.length+40≤900000000) (u:Int) :
  ∃xe' k',(y.1.2.2.2=0→ko_encPut FU64 xe u=some ((y.2.put u).1,xe')∧stream_Stream_written FU64 ((y.2.put u).1,mkS a b pol y.1 en cl D [xe'])=some (mkS a b pol (putX pol y u).1 en cl D [xe']))∧RX k' (putX pol y u) xe'∧(k'≤k+1∧(putX pol y u).1.1.length≤y.1.1.length+40∧y.1.1 <+: (putX pol y u).1.1)∧(y.1.2.2.2≠0→xe'=xe):=by
 by_cases h0:y.1.2.2.2=0
 ·obtain ⟨xe',e1,e2⟩:=encPut_eq hr.ok hr.rep hk u
  obtain ⟨p1,p2,p3⟩:=PE.put_ok hr.ok u
  have h3:=PE.held3 hr.ok
  have hp:putX pol y u=(wrTs pol y.1 (y.2.put u).1,(y.2.put u).2):=if_pos h0
  have hl:=wrTs_len (pol:=pol) (x:=y.1) p2
  rw [hp]
  refine ⟨xe',k+1,fun _=>⟨e1,written_eq (by omega) p2 (by omega)⟩,⟨p1,e2⟩,⟨Nat.le_refl _,?_,hl.2.2⟩,fun h=>absurd h0 h⟩
  show (wrTs pol y.1 (y.2.put u).1).1.length≤_
  omega
 ·have hp:putX pol y u=y:=if_neg h0
  rw [hp]
  exact ⟨xe,k,fun h=>absurd h h0,hr,⟨by omega,by omega,List.prefix_rfl⟩,fun _=>rfl⟩
theorem slast_eq {a b:ByteArray} {pol:Int} {en cl:Bool} {D:LDS} {k:Nat} {y:WS×PE} {xe:ESt} (hr:RX k y xe) (hk:k≤1000000000) (hb:y.1.1.length+40≤900000000) {f:Int×(Int×Int)} :
  ∃xe',RX k (lastX pol y f) xe'∧∃w:WS,stream_Stream_last FU64 (mkS a b pol (y.1.1,f) en cl D [xe])=some ((lastX pol y f).1.2.1,(lastX pol y f).1.2.2.1,(lastX pol y f).1.2.2.2,mkS a b pol w en cl D [xe'])∧w.1=(lastX pol y f).1.1:=by
 obtain ⟨xe',e1,e2⟩:=encEnd_eq hr.ok hr.rep hk
 obtain ⟨p1,p2,p3,p4⟩:=PE.fin_ok hr.ok
 have h3:=PE.held3 hr.ok
 have hw:=written_eq (ts:=y.2.fin.1) (by omega) p3 (a:=a) (b:=b) (pol:=pol) (x:=(y.1.1,(0:Int),(0:Int),(0:Int))) (by show y.1.1.length+_≤_;omega) (en:=en) (cl:=cl) (D:=D) (E:=[xe'])
 refine ⟨xe',⟨p1,e2⟩,wrTs pol (y.1.1,0,0,0) y.2.fin.1,?_,?_⟩
 ·unfold stream_Stream_last mkS
  unfold mkS at hw
  dsimp only at hw ⊢
  rw [List.getElem?_cons_zero,bind_some',e1,bind_some',show List.set [xe] 0 xe'=[xe'] from rfl,hw,bind_some']
  unfold lastX
  by_cases h:(wrTs pol (y.1.1,0,0,0) y.2.fin.1).2.2.2=0
  ·rw [bne_eq_false_iff_eq.2 h,cond_false,if_neg (by simp [h])]
  ·rw [bne_iff_ne.2 h,cond_true,if_pos h]
 ·unfold lastX
  dsimp only
  split <;> rfl
def tkR (ts:List Tok) (n kk:Int) (a b:ByteArray) (pol:Int) (en cl:Bool) (D:LDS) (t:Tok) (z:WS×PE) (xe:ESt):stream_Stream_taken_S2⊕SSt:=
 if tkW pol t z then .inr (mkS a b pol (lastX pol z (1,t.1,t.2.2.2)).1 en cl D [xe]) else .inl (ts,ts,n,w64 (kk+1),mkS a b pol z.1 en cl D [xe])
def tailO (ts:List Tok) (n kk:Int) (a b:ByteArray) (pol:Int) (x:WS) (en cl:Bool) (D:LDS) (E:LES) (t:Tok):Option (stream_Stream_taken_S2⊕SSt):=
 bif (t.2.2.2 != (0:Int)) then
  bif (x.2.2.2 == (0:Int)) then
   ((stream_Stream_wrong FU64 ((1:Int),t.1,t.2.1,t.2.2.1,t.2.2.2,a,b,pol,(0:Nat),(0:Nat),x.1,x.2.1,x.2.2.1,x.2.2.2,en,cl,D,E))).bind fun y4=>
   bif y4.1 then
    ((stream_Stream_last FU64 (y4.2.1,y4.2.2.1,y4.2.2.2.1,y4.2.2.2.2.1,y4.2.2.2.2.2.1,y4.2.2.2.2.2.2.1,y4.2.2.2.2.2.2.2.1,y4.2.2.2.2.2.2.2.2.1,y4.2.2.2.2.2.2.2.2.2.1,y4.2.2.2.2.2.2.2.2.2.2.1,y4.2.2.2.2.2.2.2.2.2.2.2.1,y4.2.2.2.2.2.2.2.2.2.2.2.2.1,y4.2.2.2.2.2.2.2.2.2.2.2.2.2))).bind fun y5=>
    some (Sum.inr (y5.2.2.2.1,y5.2.2.2.2.1,y5.2.2.2.2.2.1,y5.2.2.2.2.2.2.1,y5.2.2.2.2.2.2.2.1,y5.2.2.2.2.2.2.2.2.1,y5.1,y5.2.1,y5.2.2.1,y5.2.2.2.2.2.2.2.2.2.2.2.2.1,y5.2.2.2.2.2.2.2.2.2.2.2.2.2.1,y5.2.2.2.2.2.2.2.2.2.2.2.2.2.2.1,y5.2.2.2.2.2.2.2.2.2.2.2.2.2.2.2))
   else
    some (Sum.inl (ts,ts,n,(w64 (kk+(1:Int))),y4.2.1,y4.2.2.1,y4.2.2.2.1,y4.2.2.2.2.1,y4.2.2.2.2.2.1,y4.2.2.2.2.2.2.1,y4.2.2.2.2.2.2.2.1,y4.2.2.2.2.2.2.2.2.1,y4.2.2.2.2.2.2.2.2.2.1,y4.2.2.2.2.2.2.2.2.2.2.1,y4.2.2.2.2.2.2.2.2.2.2.2.1,y4.2.2.2.2.2.2.2.2.2.2.2.2.1,y4.2.2.2.2.2.2.2.2.2.2.2.2.2))
  else
   some (Sum.inl (ts,ts,n,(w64 (kk+(1:Int))),mkS a b pol x en cl D E))
 else
  some (Sum.inl (ts,ts,n,(w64 (kk+(1:Int))),mkS a b pol x en cl D E))
theorem tk_tail {ts:List Tok} {n kk:Int} {a b:ByteArray} {pol:Int} {en cl:Bool} {D:LDS} (t:Tok) {k:Nat} {y:WS×PE} {xe:ESt} (hr:RX k y xe) (hk:k≤1000000000) (hb:y.1.1.length+40≤900000000) :
  ∃xe',tailO ts n kk a b pol y.1 en cl D [xe] t=some (tkR ts n kk a b pol en cl D t y xe')∧RX k (tkY pol t y) xe':=by
 by_cases hw:tkW pol t y
 ·obtain ⟨h1,h2,h3⟩:=hw
  obtain ⟨xe',e1,w,e2,e3⟩:=slast_eq (a:=a) (b:=b) (pol:=pol) (en:=en) (cl:=cl) (D:=D) hr hk hb (f:=(1,t.1,t.2.2.2))
  refine ⟨xe',?_,?_⟩
  ·have hwr:=wrong_eq (fu:=FU64) (sd:=1) (at':=t.1) (ln:=t.2.1) (er:=t.2.2.2) (o:=t.2.2.1) (a:=a) (b:=b) (pol:=pol) (x:=y.1) (en:=en) (cl:=cl) (D:=D) (E:=[xe])
   rw [if_pos h3,decide_eq_true h3] at hwr
   unfold tailO
   rw [bne_iff_ne.2 h1,cond_true,beq_t h2,cond_true]
   have hwr':stream_Stream_wrong FU64 ((1:Int),t.1,t.2.1,t.2.2.1,t.2.2.2,a,b,pol,(0:Nat),(0:Nat),y.1.1,y.1.2.1,y.1.2.2.1,y.1.2.2.2,en,cl,D,[xe])=_:=hwr
   rw [hwr',bind_some']
   have e2':stream_Stream_last FU64 (a,b,pol,(0:Nat),(0:Nat),y.1.1,(1:Int),t.1,t.2.2.2,en,cl,D,[xe])=_:=e2
   show (bif true then ((stream_Stream_last FU64 (a,b,pol,(0:Nat),(0:Nat),y.1.1,(1:Int),t.1,t.2.2.2,en,cl,D,[xe])).bind _) else _)=_
   rw [cond_true,e2',bind_some']
   unfold tkR
   rw [if_pos ⟨h1,h2,h3⟩]
   unfold mkS
   dsimp only
   rw [e3]
  ·unfold tkY
   rw [if_pos ⟨h1,h2,h3⟩];exact e1
 ·refine ⟨xe,?_,by unfold tkY;rw [if_neg hw];exact hr⟩
  unfold tkR
  rw [if_neg hw]
  unfold tailO
  by_cases h1:t.2.2.2=0
  ·rw [bne_eq_false_iff_eq.2 h1,cond_false]
  ·rw [bne_iff_ne.2 h1,cond_true]
   by_cases h2:y.1.2.2.2=0
   ·have h3:¬pol=0:=fun h3=>hw ⟨h1,h2,h3⟩
    have hwr:=wrong_eq (fu:=FU64) (sd:=1) (at':=t.1) (ln:=t.2.1) (er:=t.2.2.2) (o:=t.2.2.1) (a:=a) (b:=b) (pol:=pol) (x:=y.1) (en:=en) (cl:=cl) (D:=D) (E:=[xe])
    rw [if_neg h3,decide_eq_false h3] at hwr
    have hwr':stream_Stream_wrong FU64 ((1:Int),t.1,t.2.1,t.2.2.1,t.2.2.2,a,b,pol,(0:Nat),(0:Nat),y.1.1,y.1.2.1,y.1.2.2.1,y.1.2.2.2,en,cl,D,[xe])=_:=hwr
    rw [beq_t h2,cond_true,hwr',bind_some']
    rfl
   ·rw [beq_f h2,cond_false]
theorem tk_L0 {ts:List Tok} {n kk:Int} {out:List Int} (ho:out.length≤8) {a b:ByteArray} {pol:Int} {en cl:Bool} {D:LDS} (t:Tok):∀(m j g k:Nat) (y:WS×PE) (xe:ESt),j+m=out.length→m<g→RX k y xe→k+m≤1000000000→y.1.1.length+40*m+40≤900000000→
  ∃xe' k',loopM (stream_Stream_taken_L0 FU64) g (ts,out,ts,n,kk,(out.length:Int),(j:Int),a,b,pol,(0:Nat),(0:Nat),y.1.1,y.1.2.1,y.1.2.2.1,y.1.2.2.2,en,cl,D,[xe],t.1,t.2.1,t.2.2.1,t.2.2.2)=some (tkR ts n kk a b pol en cl D t (putsX pol y (out.drop j)) xe')∧RX k' (tkY pol t (putsX pol y (out.drop j))) xe'∧k'≤k+m:=by
 intro m
 induction m with
 | zero=>
  intro j g k y xe hj hg hr hk hb
  obtain ⟨g,rfl⟩:∃q,g=q+1:=⟨g - 1,by omega⟩
  rw [List.drop_eq_nil_of_le (by omega),loopM_succ]
  obtain ⟨xe',e1,e2⟩:=tk_tail (ts:=ts) (n:=n) (kk:=kk) (a:=a) (b:=b) (pol:=pol) (en:=en) (cl:=cl) (D:=D) t hr (by omega) (by omega)
  refine ⟨xe',k,?_,e2,by omega⟩
  have e0:stream_Stream_taken_L0 FU64 (ts,out,ts,n,kk,(out.length:Int),(j:Int),a,b,pol,(0:Nat),(0:Nat),y.1.1,y.1.2.1,y.1.2.2.1,y.1.2.2.2,en,cl,D,[xe],t.1,t.2.1,t.2.2.1,t.2.2.2)=Option.map Sum.inr (tailO ts n kk a b pol y.1 en cl D [xe] t):=by
   unfold stream_Stream_taken_L0
   dsimp only
   rw [decide_eq_false (by omega),cond_false]
   rfl
  rw [e0,e1]
  rfl
 | succ m ih=>
  intro j g k y xe hj hg hr hk hb
  obtain ⟨g,rfl⟩:∃q,g=q+1:=⟨g - 1,by omega⟩
  have hjl:j<out.length:=by omega
  obtain ⟨xe1,k1,e1,e2,e3,e4⟩:=put_step (a:=a) (b:=b) (pol:=pol) (en:=en) (cl:=cl) (D:=D) hr (by omega) (by omega) out[j]
  obtain ⟨xe',k',i1,i2,i3⟩:=ih (j+1) g k1 (putX pol y out[j]) xe1 (by omega) (by omega) e2 (by omega) (by omega)
  refine ⟨xe',k',?_,?_,by omega⟩
  ·rw [List.drop_eq_getElem_cons hjl]
   show _=some (tkR ts n kk a b pol en cl D t (putsX pol (putX pol y out[j]) (out.drop (j+1))) xe')
   rw [←i1,loopM_succ]
   have step:stream_Stream_taken_L0 FU64 (ts,out,ts,n,kk,(out.length:Int),(j:Int),a,b,pol,(0:Nat),(0:Nat),y.1.1,y.1.2.1,y.1.2.2.1,y.1.2.2.2,en,cl,D,[xe],t.1,t.2.1,t.2.2.1,t.2.2.2)=some (.inl (ts,out,ts,n,kk,(out.length:Int),((j+1:Nat):Int),a,b,pol,(0:Nat),(0:Nat),(putX pol y out[j]).1.1,(putX pol y out[j]).1.2.1,(putX pol y out[j]).1.2.2.1,(putX pol y out[j]).1.2.2.2,en,cl,D,[xe1],t.1,t.2.1,t.2.2.1,t.2.2.2)):=by
    unfold stream_Stream_taken_L0
    dsimp only
    rw [decide_eq_true (by omega),cond_true,nthI_get hjl,bind_some',Int.toNat_natCast,List.getElem?_eq_getElem hjl,bind_some',w64_succ hjl (by omega)]
    by_cases h0:y.1.2.2.2=0
    ·obtain ⟨z1,z2⟩:=e1 h0
     rw [beq_t h0,cond_true,List.getElem?_cons_zero,bind_some',z1,bind_some']
     have z2:=z2
     unfold mkS at z2
     rw [show List.set [xe] 0 xe1=[xe1] from rfl,z2,bind_some']
    ·rw [beq_f h0,cond_false]
     have:putX pol y out[j]=y:=if_neg h0
     rw [this]
     have hx:xe1=xe:=e4 h0
     rw [hx]
   rw [step]
  ·rw [List.drop_eq_getElem_cons hjl]
   exact i2
theorem tk_L1 {ts:List Tok} {n kk:Int} {out o2:List Int} (ho:out.length≤8) {a b:ByteArray} {pol:Int} {en cl:Bool} {D:LDS} (t:Tok):∀(m j g k:Nat) (y:WS×PE) (xe:ESt),j+m=out.length→m<g→RX k y xe→k+m≤1000000000→y.1.1.length+40*m+40≤900000000→
  ∃xe' k',loopM (stream_Stream_taken_L1 FU64) g (ts,o2,ts,n,kk,out,(out.length:Int),(j:Int),a,b,pol,(0:Nat),(0:Nat),y.1.1,y.1.2.1,y.1.2.2.1,y.1.2.2.2,en,cl,D,[xe],t.1,t.2.1,t.2.2.1,t.2.2.2)=some (tkR ts n kk a b pol en cl D t (putsX pol y (out.drop j)) xe')∧RX k' (tkY pol t (putsX pol y (out.drop j))) xe'∧k'≤k+m:=by
 intro m
 induction m with
 | zero=>
  intro j g k y xe hj hg hr hk hb
  obtain ⟨g,rfl⟩:∃q,g=q+1:=⟨g - 1,by omega⟩
  rw [List.drop_eq_nil_of_le (by omega),loopM_succ]
  obtain ⟨xe',e1,e2⟩:=tk_tail (ts:=ts) (n:=n) (kk:=kk) (a:=a) (b:=b) (pol:=pol) (en:=en) (cl:=cl) (D:=D) t hr (by omega) (by omega)
  refine ⟨xe',k,?_,e2,by omega⟩
  have e0:stream_Stream_taken_L1 FU64 (ts,o2,ts,n,kk,out,(out.length:Int),(j:Int),a,b,pol,(0:Nat),(0:Nat),y.1.1,y.1.2.1,y.1.2.2.1,y.1.2.2.2,en,cl,D,[xe],t.1,t.2.1,t.2.2.1,t.2.2.2)=Option.map Sum.inr (tailO ts n kk a b pol y.1 en cl D [xe] t):=by
   unfold stream_Stream_taken_L1
   dsimp only
   rw [decide_eq_false (by omega),cond_false]
   rfl
  rw [e0,e1]
  rfl
 | succ m ih=>
  intro j g k y xe hj hg hr hk hb
  obtain ⟨g,rfl⟩:∃q,g=q+1:=⟨g - 1,by omega⟩
  have hjl:j<out.length:=by omega
  obtain ⟨xe1,k1,e1,e2,e3,e4⟩:=put_step (a:=a) (b:=b) (pol:=pol) (en:=en) (cl:=cl) (D:=D) hr (by omega) (by omega) out[j]
  obtain ⟨xe',k',i1,i2,i3⟩:=ih (j+1) g k1 (putX pol y out[j]) xe1 (by omega) (by omega) e2 (by omega) (by omega)
  refine ⟨xe',k',?_,?_,by omega⟩
  ·rw [List.drop_eq_getElem_cons hjl]
   show _=some (tkR ts n kk a b pol en cl D t (putsX pol (putX pol y out[j]) (out.drop (j+1))) xe')
   rw [←i1,loopM_succ]
   have step:stream_Stream_taken_L1 FU64 (ts,o2,ts,n,kk,out,(out.length:Int),(j:Int),a,b,pol,(0:Nat),(0:Nat),y.1.1,y.1.2.1,y.1.2.2.1,y.1.2.2.2,en,cl,D,[xe],t.1,t.2.1,t.2.2.1,t.2.2.2)=some (.inl (ts,o2,ts,n,kk,out,(out.length:Int),((j+1:Nat):Int),a,b,pol,(0:Nat),(0:Nat),(putX pol y out[j]).1.1,(putX pol y out[j]).1.2.1,(putX pol y out[j]).1.2.2.1,(putX pol y out[j]).1.2.2.2,en,cl,D,[xe1],t.1,t.2.1,t.2.2.1,t.2.2.2)):=by
    unfold stream_Stream_taken_L1
    dsimp only
    rw [decide_eq_true (by omega),cond_true,nthI_get hjl,bind_some',w64_succ hjl (by omega)]
    by_cases h0:y.1.2.2.2=0
    ·obtain ⟨z1,z2⟩:=e1 h0
     rw [beq_t h0,cond_true,List.getElem?_cons_zero,bind_some',z1,bind_some']
     have z2:=z2
     unfold mkS at z2
     rw [show List.set [xe] 0 xe1=[xe1] from rfl,z2,bind_some']
    ·rw [beq_f h0,cond_false]
     have:putX pol y out[j]=y:=if_neg h0
     rw [this]
     have hx:xe1=xe:=e4 h0
     rw [hx]
   rw [step]
  ·rw [List.drop_eq_getElem_cons hjl]
   exact i2
theorem putX_ok {pol:Int} {k:Nat} {y:WS×PE} (h:y.2.Ok k) (u:Int):∃k',(putX pol y u).2.Ok k'∧k'≤k+1∧(putX pol y u).1.1.length≤y.1.1.length+40∧y.1.1 <+: (putX pol y u).1.1:=by
 by_cases h0:y.1.2.2.2=0
 ·obtain ⟨p1,p2,p3⟩:=PE.put_ok h u
  have h3:=PE.held3 h
  have hp:putX pol y u=(wrTs pol y.1 (y.2.put u).1,(y.2.put u).2):=if_pos h0
  have hl:=wrTs_len (pol:=pol) (x:=y.1) p2
  rw [hp]
  exact ⟨k+1,p1,Nat.le_refl _,by show (wrTs pol y.1 (y.2.put u).1).1.length≤_;omega,hl.2.2⟩
 ·have hp:putX pol y u=y:=if_neg h0
  rw [hp]
  exact ⟨k,h,by omega,by omega,List.prefix_rfl⟩
theorem putsX_ok {pol:Int}:∀(us:List Int) {k:Nat} {y:WS×PE},y.2.Ok k→∃k',(putsX pol y us).2.Ok k'∧k'≤k+us.length∧(putsX pol y us).1.1.length≤y.1.1.length+40*us.length∧y.1.1 <+: (putsX pol y us).1.1
 | [],k,y,h=>⟨k,h,by omega,by simp [putsX],List.prefix_rfl⟩
 | u :: us,k,y,h=>by
  obtain ⟨k1,h1,h2,h3,h4⟩:=putX_ok (pol:=pol) h u
  obtain ⟨k2,g1,g2,g3,g4⟩:=putsX_ok us h1
  exact ⟨k2,g1,by simp only [List.length_cons];omega,by show (putsX pol (putX pol y u) us).1.1.length≤_;simp only [List.length_cons];omega,h4.trans g4⟩
theorem lastX_ok {pol:Int} {k:Nat} {y:WS×PE} (h:y.2.Ok k) (f:Int×(Int×Int)):(lastX pol y f).2.Ok k∧(lastX pol y f).1.1.length≤y.1.1.length+24∧y.1.1 <+: (lastX pol y f).1.1:=by
 obtain ⟨p1,p2,p3,p4⟩:=PE.fin_ok h
 have h3:=PE.held3 h
 have hl:=wrTs_len (pol:=pol) (x:=(y.1.1,(0:Int),(0:Int),(0:Int))) p3
 have hl:y.1.1.length≤_∧_≤y.1.1.length+_∧y.1.1 <+: _:=hl
 unfold lastX
 dsimp only
 refine ⟨p1,?_,?_⟩
 ·split <;> (try dsimp only) <;> omega
 ·split <;> exact hl.2.2
theorem tkO_len {pol:Int} {t:Tok} (h:t.2.2.1.length≤8):(tkO pol t).length≤8:=by
 unfold tkO
 repeat' split
 all_goals first | simp | exact h
theorem takeT_ok {pol:Int} {k:Nat} {y:WS×PE} (h:y.2.Ok k) {t:Tok} (ht:t.2.2.1.length≤8):∃k',(takeT pol y t).2.Ok k'∧k'≤k+8∧(takeT pol y t).1.1.length≤y.1.1.length+344∧y.1.1 <+: (takeT pol y t).1.1:=by
 obtain ⟨k1,h1,h2,h3,h4⟩:=putsX_ok (pol:=pol) (tkO pol t) h
 have h8:=tkO_len (pol:=pol) ht
 unfold takeT tkY
 split
 ·obtain ⟨g1,g2,g3⟩:=lastX_ok (pol:=pol) h1 (1,t.1,t.2.2.2)
  exact ⟨k1,g1,by omega,by omega,h4.trans g3⟩
 ·exact ⟨k1,h1,by omega,by omega,h4⟩
theorem takeTs_ok {pol:Int}:∀(ts:List Tok) {k:Nat} {y:WS×PE},y.2.Ok k→fewO ts→∃k',(takeTs pol y ts).2.Ok k'∧k'≤k+8*ts.length∧(takeTs pol y ts).1.1.length≤y.1.1.length+344*ts.length∧y.1.1 <+: (takeTs pol y ts).1.1
 | [],k,y,h,_=>⟨k,h,by omega,by simp [takeTs],List.prefix_rfl⟩
 | t :: ts,k,y,h,hf=>by
  obtain ⟨k1,h1,h2,h3,h4⟩:=takeT_ok (pol:=pol) h (hf t (by simp))
  obtain ⟨k2,g1,g2,g3,g4⟩:=takeTs_ok ts h1 (fun x hx=>hf x (List.mem_cons_of_mem _ hx))
  exact ⟨k2,g1,by simp only [List.length_cons];omega,by show (takeTs pol (takeT pol y t) ts).1.1.length≤_;simp only [List.length_cons];omega,h4.trans g4⟩
theorem tk_L2 {ts:List Tok} (hf:fewO ts) {a b:ByteArray} {pol:Int} {en cl:Bool} {D:LDS} (hn:ts.length≤1000000):∀(m j g k:Nat) (y:WS×PE) (xe:ESt),j+m=ts.length→m<g→RX k y xe→k+8*m≤900000000→y.1.1.length+344*m+400≤900000000→
  ∃xe' k',loopM (stream_Stream_taken_L2 FU64) g (ts,ts,(ts.length:Int),(j:Int),mkS a b pol y.1 en cl D [xe])=some (mkS a b pol (takeTs pol y (ts.drop j)).1 en cl D [xe'])∧RX k' (takeTs pol y (ts.drop j)) xe'∧k'≤k+8*m:=by
 intro m
 induction m with
 | zero=>
  intro j g k y xe hj hg hr hk hb
  obtain ⟨g,rfl⟩:∃q,g=q+1:=⟨g - 1,by omega⟩
  rw [List.drop_eq_nil_of_le (by omega),loopM_succ]
  refine ⟨xe,k,?_,hr,by omega⟩
  unfold stream_Stream_taken_L2 mkS
  dsimp only
  rw [decide_eq_false (by omega),cond_false]
  rfl
 | succ m ih=>
  intro j g k y xe hj hg hr hk hb
  obtain ⟨g,rfl⟩:∃q,g=q+1:=⟨g - 1,by omega⟩
  have hjl:j<ts.length:=by omega
  have h8:=hf ts[j] (List.getElem_mem hjl)
  rw [List.drop_eq_getElem_cons hjl]
  have key:∃xe1 k1,stream_Stream_taken_L2 FU64 (ts,ts,(ts.length:Int),(j:Int),mkS a b pol y.1 en cl D [xe])=some (tkR ts (ts.length:Int) (j:Int) a b pol en cl D ts[j] (putsX pol y (tkO pol ts[j])) xe1)∧RX k1 (takeT pol y ts[j]) xe1∧k1≤k+8:=by
   unfold stream_Stream_taken_L2
   rw [show mkS a b pol y.1 en cl D [xe]=(a,b,pol,(0:Nat),(0:Nat),y.1.1,y.1.2.1,y.1.2.2.1,y.1.2.2.2,en,cl,D,[xe]) from rfl]
   dsimp only
   rw [decide_eq_true (by omega),cond_true,nthI_get hjl,bind_some']
   by_cases h0:ts[j].2.2.2=0
   ·rw [bne_eq_false_iff_eq.2 h0,cond_false]
    have ho:tkO pol ts[j]=ts[j].2.2.1:=by unfold tkO;rw [if_neg (by simp [h0])]
    obtain ⟨xe1,k1,e1,e2,e3⟩:=tk_L1 (ts:=ts) (n:=(ts.length:Int)) (kk:=(j:Int)) (out:=ts[j].2.2.1) (o2:=ts[j].2.2.1) h8 (a:=a) (b:=b) (pol:=pol) (en:=en) (cl:=cl) (D:=D) ts[j] ts[j].2.2.1.length 0 FU64 k y xe (Nat.zero_add _) (by unfold FU64;omega) hr (by omega) (by omega)
    rw [List.drop_zero] at e1 e2
    rw [ho]
    refine ⟨xe1,k1,e1,?_,by omega⟩
    unfold takeT
    rw [ho];exact e2
   ·rw [bne_iff_ne.2 h0,cond_true]
    by_cases h1:pol=1
    ·have ho:tkO pol ts[j]=[65533]:=by unfold tkO;rw [if_pos h0,if_pos h1]
     rw [beq_t h1,cond_true]
     obtain ⟨xe1,k1,e1,e2,e3⟩:=tk_L0 (ts:=ts) (n:=(ts.length:Int)) (kk:=(j:Int)) (out:=[65533]) (by simp) (a:=a) (b:=b) (pol:=pol) (en:=en) (cl:=cl) (D:=D) ts[j] 1 0 FU64 k y xe rfl (by unfold FU64;omega) hr (by omega) (by omega)
     rw [List.drop_zero] at e1 e2
     rw [ho]
     refine ⟨xe1,k1,e1,?_,by omega⟩
     unfold takeT
     rw [ho];exact e2
    ·have ho:tkO pol ts[j]=[]:=by unfold tkO;rw [if_pos h0,if_neg h1]
     rw [beq_f h1,cond_false]
     obtain ⟨xe1,k1,e1,e2,e3⟩:=tk_L1 (ts:=ts) (n:=(ts.length:Int)) (kk:=(j:Int)) (out:=[]) (o2:=[]) (by simp) (a:=a) (b:=b) (pol:=pol) (en:=en) (cl:=cl) (D:=D) ts[j] 0 0 FU64 k y xe rfl (by unfold FU64;omega) hr (by omega) (by omega)
     rw [List.drop_zero] at e1 e2
     rw [ho]
     refine ⟨xe1,k1,e1,?_,by omega⟩
     unfold takeT
     rw [ho];exact e2
  obtain ⟨xe1,k1,e1,e2,e3⟩:=key
  obtain ⟨_,_,_,hlen,_⟩:=takeT_ok (pol:=pol) hr.ok h8
  rw [loopM_succ,e1]
  rw [show takeTs pol y (ts[j] :: ts.drop (j+1))=takeTs pol (takeT pol y ts[j]) (ts.drop (j+1)) from rfl]
  unfold tkR
  by_cases hw:tkW pol ts[j] (putsX pol y (tkO pol ts[j]))
  ·have ht:takeT pol y ts[j]=lastX pol (putsX pol y (tkO pol ts[j])) (1,ts[j].1,ts[j].2.2.2):=by unfold takeT tkY;rw [if_pos hw]
   have hfl:takeTs pol (takeT pol y ts[j]) (ts.drop (j+1))=takeT pol y ts[j]:=takeTs_fault (by rw [ht];exact lastX_er hw.1) _
   rw [if_pos hw,hfl]
   refine ⟨xe1,k1,?_,e2,by omega⟩
   rw [ht]
  ·have ht:takeT pol y ts[j]=putsX pol y (tkO pol ts[j]):=by unfold takeT tkY;rw [if_neg hw]
   rw [if_neg hw]
   obtain ⟨xe',k',i1,i2,i3⟩:=ih (j+1) g k1 (takeT pol y ts[j]) xe1 (by omega) (by omega) e2 (by omega) (by omega)
   refine ⟨xe',k',?_,i2,by omega⟩
   rw [←i1,w64_succ hjl (by omega),ht]
theorem taken_eq {ts:List Tok} (hf:fewO ts) {a b:ByteArray} {pol:Int} {en cl:Bool} {D:LDS} (hn:ts.length≤1000000) {k:Nat} {y:WS×PE} {xe:ESt} (hr:RX k y xe) (hk:k+8*ts.length≤900000000) (hb:y.1.1.length+344*ts.length+400≤900000000) :
  ∃xe' k',stream_Stream_taken FU64 (ts,mkS a b pol y.1 en cl D [xe])=some (mkS a b pol (takeTs pol y ts).1 en cl D [xe'])∧RX k' (takeTs pol y ts) xe'∧k'≤k+8*ts.length:=by
 have:=tk_L2 hf (a:=a) (b:=b) (pol:=pol) (en:=en) (cl:=cl) (D:=D) hn ts.length 0 FU64 k y xe (Nat.zero_add _) (by unfold FU64;omega) hr hk hb
 rw [List.drop_zero] at this
 exact this
def x0:WS:=([],0,0,0)
theorem open_eq {a b:ByteArray} {n m:Nat} (hn:n<8) (hm:m<8) (h1:codec_Name FU64 a=some (nameN n,0)) (h2:codec_Name FU64 b=some (nameN m,0)) {p:Int} (hp:0≤p∧p<3) :
  ∃xd xe,stream_Open FU64 (a,b,p)=some (.inr ((0:Int),mkS (nameN n) (nameN m) p x0 false false [xd] [xe]))∧(PD.init n).Rep xd∧(PE.init m).Rep 0 xe:=by
 obtain ⟨xd,e1,r1⟩:=dec_any hn (name_is hn)
 obtain ⟨xe,e2,r2⟩:=enc_any hm (name_is hm)
 refine ⟨xd,xe,?_,r1,r2⟩
 unfold stream_Open stream_Stream_Reset_new
 dsimp only
 rw [h1,bind_some']
 dsimp only
 rw [show ((0:Int) != 0)=false from rfl,cond_false,h2,bind_some']
 dsimp only
 rw [show ((0:Int) != 0)=false from rfl,cond_false,decide_eq_false (by omega),cond_false,decide_eq_false (by omega),cond_false,e1,bind_some']
 dsimp only
 rw [e2,bind_some']
 rfl
def finX (pol:Int) (y:WS×PE):WS:=if y.1.2.2.2=0 then wrTs pol y.1 y.2.fin.1 else y.1
def allX (pol:Int) (n m:Nat) (us:List Int):WS:=finX pol (takeTs pol (x0,PE.init m) ((PD.init n).all us))
theorem all_L1 {us:List Int} (h8:isU8 us) (hn:us.length≤100000) {a b:ByteArray} {pol:Int} (q1 q2 q3:Int):∀(r j g kd ke:Nat) (d:PD) (y:WS×PE) (xd:DSt) (xe:ESt),j+r=us.length→r<g→d.Ok kd→d.Rep xd→RX ke y xe→kd+r≤1000000→ke+32*r+100≤900000000→y.1.1.length+1400*r+5000≤900000000→y.1.2.2.2=0→
  loopM (stream_All_L1 FU64) g (us,us,(us.length:Int),(j:Int),q1,q2,q3,mkS a b pol y.1 false false [xd] [xe])=some ((finX pol (takeTs pol y (d.all (us.drop j)))).1,(finX pol (takeTs pol y (d.all (us.drop j)))).2.1,(finX pol (takeTs pol y (d.all (us.drop j)))).2.2.1,(finX pol (takeTs pol y (d.all (us.drop j)))).2.2.2,(0:Int)):=by
 intro r
 induction r with
 | zero=>
  intro j g kd ke d y xd xe hj hg hd hrd hr hk1 hk2 hb he
  obtain ⟨g,rfl⟩:∃q,g=q+1:=⟨g - 1,by omega⟩
  rw [List.drop_eq_nil_of_le (by omega),loopM_succ]
  have ha:d.all []=d.fin.1:=by simp [PD.all,PD.run]
  rw [ha]
  obtain ⟨xd',e1,e2⟩:=decEnd_eq hd hrd (by omega)
  obtain ⟨f1,f2⟩:=PD.fin_few hd
  have h3:=PD.held3 hd
  obtain ⟨xe',k',e3,e4,e5⟩:=taken_eq f1 (a:=a) (b:=b) (pol:=pol) (en:=false) (cl:=false) (D:=[xd']) (by omega) hr (by omega) (by omega)
  obtain ⟨_,_,_,t3,_⟩:=takeTs_ok (pol:=pol) d.fin.1 hr.ok f1
  unfold stream_All_L1
  rw [show mkS a b pol y.1 false false [xd] [xe]=(a,b,pol,(0:Nat),(0:Nat),y.1.1,y.1.2.1,y.1.2.2.1,y.1.2.2.2,false,false,[xd],[xe]) from rfl]
  dsimp only
  rw [decide_eq_false (by omega),cond_false,List.getElem?_cons_zero,bind_some',e1,bind_some']
  have e3':stream_Stream_taken FU64 (d.fin.1,a,b,pol,(0:Nat),(0:Nat),y.1.1,y.1.2.1,y.1.2.2.1,y.1.2.2.2,false,false,List.set [xd] 0 xd',[xe])=_:=e3
  rw [e3',bind_some']
  generalize takeTs pol y d.fin.1=z at e4 t3 ⊢
  unfold mkS finX
  dsimp only
  by_cases hz:z.1.2.2.2=0
  ·obtain ⟨xe2,g1,g2⟩:=encEnd_eq e4.ok e4.rep (by omega)
   obtain ⟨p1,p2,p3,p4⟩:=PE.fin_ok e4.ok
   have hh:=PE.held3 e4.ok
   have hw:=written_eq (ts:=z.2.fin.1) (by omega) p3 (a:=a) (b:=b) (pol:=pol) (x:=z.1) (by omega) (en:=false) (cl:=false) (D:=[xd']) (E:=[xe2])
   unfold mkS at hw
   rw [beq_t hz,cond_true,List.getElem?_cons_zero,bind_some',g1,bind_some',show List.set [xe'] 0 xe2=[xe2] from rfl,hw,bind_some',if_pos hz]
   rfl
  ·rw [beq_f hz,cond_false,if_neg hz]
   rfl
 | succ r ih=>
  intro j g kd ke d y xd xe hj hg hd hrd hr hk1 hk2 hb he
  obtain ⟨g,rfl⟩:∃q,g=q+1:=⟨g - 1,by omega⟩
  have hjl:j<us.length:=by omega
  have hx:=h8 us[j] (List.getElem_mem hjl)
  rw [List.drop_eq_getElem_cons hjl,loopM_succ]
  have ha:d.all (us[j] :: us.drop (j+1))=(d.put us[j]).1++(d.put us[j]).2.all (us.drop (j+1)):=by simp [PD.all,PD.run]
  rw [ha,takeTs_append]
  obtain ⟨xd',e1,e2⟩:=decPut_eq hd hrd (by omega) us[j]
  obtain ⟨f1,f2⟩:=PD.put_few hd us[j]
  have h3:=PD.held3 hd
  obtain ⟨xe',k',e3,e4,e5⟩:=taken_eq f1 (a:=a) (b:=b) (pol:=pol) (en:=false) (cl:=false) (D:=[xd']) (by omega) hr (by omega) (by omega)
  obtain ⟨_,_,_,t3,_⟩:=takeTs_ok (pol:=pol) (d.put us[j]).1 hr.ok f1
  have hl4:(d.put us[j]).1.length≤4:=by omega
  have e0:stream_All_L1 FU64 (us,us,(us.length:Int),(j:Int),q1,q2,q3,mkS a b pol y.1 false false [xd] [xe]) =
    bif (takeTs pol y (d.put us[j]).1).1.2.2.2 != 0 then some (.inr ((takeTs pol y (d.put us[j]).1).1.1,(takeTs pol y (d.put us[j]).1).1.2.1,(takeTs pol y (d.put us[j]).1).1.2.2.1,(takeTs pol y (d.put us[j]).1).1.2.2.2,(0:Int)))
    else some (.inl (us,us,(us.length:Int),((j+1:Nat):Int),q1,q2,q3,mkS a b pol (takeTs pol y (d.put us[j]).1).1 false false [xd'] [xe'])):=by
   unfold stream_All_L1
   rw [show mkS a b pol y.1 false false [xd] [xe]=(a,b,pol,(0:Nat),(0:Nat),y.1.1,y.1.2.1,y.1.2.2.1,y.1.2.2.2,false,false,[xd],[xe]) from rfl]
   dsimp only
   rw [decide_eq_true (by omega),cond_true,nthI_get hjl,bind_some',List.getElem?_cons_zero,bind_some',w64_id (n:=us[j]) (by omega) (by omega),e1,bind_some']
   have e3':stream_Stream_taken FU64 ((d.put us[j]).1,a,b,pol,(0:Nat),(0:Nat),y.1.1,y.1.2.1,y.1.2.2.1,y.1.2.2.2,false,false,List.set [xd] 0 xd',[xe])=_:=e3
   rw [e3',bind_some',w64_succ hjl (by omega)]
   rfl
  rw [e0]
  by_cases hz:(takeTs pol y (d.put us[j]).1).1.2.2.2=0
  ·rw [bne_eq_false_iff_eq.2 hz,cond_false]
   exact ih (j+1) g (kd+1) k' (d.put us[j]).2 (takeTs pol y (d.put us[j]).1) xd' xe' (by omega) (by omega) (PD.put_ok hd us[j]) e2 e4 (by omega) (by omega) (by omega) hz
  ·rw [bne_iff_ne.2 hz,cond_true,takeTs_fault hz]
   unfold finX
   rw [if_neg hz]
theorem sall_eq {a b:ByteArray} {n m:Nat} (hn:n<8) (hm:m<8) (h1:codec_Name FU64 a=some (nameN n,0)) (h2:codec_Name FU64 b=some (nameN m,0)) {p:Int} (hp:0≤p∧p<3) {us:List Int} (h8:isU8 us) (hu:us.length≤100000) :
  stream_All FU64 (a,b,p,us)=some ((allX p n m us).1,(allX p n m us).2.1,(allX p n m us).2.2.1,(allX p n m us).2.2.2,(0:Int)):=by
 obtain ⟨xd,xe,e,r1,r2⟩:=open_eq hn hm h1 h2 hp
 unfold stream_All
 dsimp only
 rw [e,bind_some']
 dsimp only
 rw [show ((0:Int) != 0)=false from rfl,cond_false]
 have:=all_L1 h8 hu (a:=nameN n) (b:=nameN m) (pol:=p) 0 0 0 us.length 0 FU64 0 0 (PD.init n) (x0,PE.init m) xd xe (Nat.zero_add _) (by unfold FU64;omega) (PD.init_ok n).1 r1 ⟨(PE.init_ok m).1,r2⟩ (by omega) (by omega) (by show 0+1400*us.length+5000≤900000000;omega) rfl
 rw [List.drop_zero] at this
 exact this
def payE (r:Nat) (x:WS):Int:=if 0<(x.1.drop r).length then 4 else x.2.2.2
def payC (r:Nat) (x:WS) (en cl:Bool):Bool:=if 0<(x.1.drop r).length then cl else if x.2.2.2≠0∨en=true then true else cl
theorem pay_eq {a b:ByteArray} {pol:Int} {x:WS} {en cl:Bool} {D:LDS} {E:LES} {r:Nat} (hx:x.1.length≤1000000000) :
  stream_Stream_pay FU64 ((r:Int),mkS a b pol x en cl D E)=some (x.1.take r,payE r x,mkS a b pol (x.1.drop r,x.2) en (payC r x en cl) D E):=by
 unfold stream_Stream_pay mkS
 dsimp only
 obtain ⟨m,e1,e2,e3⟩:∃m:Nat,(if (x.1.length:Int)<(r:Int) then (x.1.length:Int) else (r:Int))=(m:Int)∧m≤x.1.length∧(m=r∨(m=x.1.length∧x.1.length<r)):=by
  by_cases h:(x.1.length:Int)<(r:Int)
  ·exact ⟨x.1.length,by rw [if_pos h],Nat.le_refl _,.inr ⟨rfl,by omega⟩⟩
  ·exact ⟨r,by rw [if_neg h],by omega,.inl rfl⟩
 have t1:x.1.take m=x.1.take r∧x.1.drop m=x.1.drop r:=by
  rcases e3 with rfl | ⟨rfl,h⟩
  ·exact ⟨rfl,rfl⟩
  ·exact ⟨by rw [List.take_length,List.take_of_length_le (by omega)],by rw [List.drop_length,List.drop_eq_nil_of_le (by omega)]⟩
 have f1:decide ((x.1.take r).length*1≤2 ^ 46)=true:=by rw [decide_eq_true_eq,List.length_take];omega
 have f2:decide ((x.1.drop r).length*1≤2 ^ 46)=true:=by rw [decide_eq_true_eq,List.length_drop];omega
 rw [e1,sliceI_to e2,bind_some',sliceI_from e2,t1.1,t1.2,f1,cond_true,bind_some',f2,cond_true]
 unfold payE payC
 by_cases h:0<(x.1.drop r).length
 ·rw [decide_eq_true (show (((x.1.drop r).length:Nat):Int)>0 by omega),cond_true,if_pos h,if_pos h]
 ·rw [decide_eq_false (show ¬(((x.1.drop r).length:Nat):Int)>0 by omega),cond_false,if_neg h,if_neg h]
  by_cases h2:x.2.2.2=0
  ·rw [bne_eq_false_iff_eq.2 h2,cond_false]
   cases en with
   | true=>rw [cond_true,if_pos (.inr rfl),h2]
   | false=>rw [cond_false,if_neg (by simp [h2]),h2]
  ·rw [bne_iff_ne.2 h2,cond_true,if_pos (.inl h2)]
def feedG (pol:Int) (r:Nat):List Int→PD→WS×PE→Nat×(PD×WS×PE)
 | [],d,y=>(0,d,y)
 | c :: b,d,y=>if y.1.1.length<r∧y.1.2.2.2=0 then ((feedG pol r b (d.put c).2 (takeTs pol y (d.put c).1)).1+1,(feedG pol r b (d.put c).2 (takeTs pol y (d.put c).1)).2) else (0,d,y)
theorem feed_L0 {us:List Int} (h8:isU8 us) (hn:us.length≤100000) {a b:ByteArray} {pol:Int} {r:Nat}:∀(m j g kd ke:Nat) (d:PD) (y:WS×PE) (xd:DSt) (xe:ESt),j+m=us.length→m<g→d.Ok kd→d.Rep xd→RX ke y xe→kd+m≤100000000→ke+32*m+100≤900000000→y.1.1.length+1400*m+5000≤900000000→
  ∃xd' xe' kd' ke',loopM (stream_Stream_Feed_L0 FU64) g (us,(r:Int),(j:Int),mkS a b pol y.1 false false [xd] [xe]) =
   some ((feedG pol r (us.drop j) d y).2.2.1.1.take r,((j+(feedG pol r (us.drop j) d y).1:Nat):Int),payE r (feedG pol r (us.drop j) d y).2.2.1,mkS a b pol ((feedG pol r (us.drop j) d y).2.2.1.1.drop r,(feedG pol r (us.drop j) d y).2.2.1.2) false (payC r (feedG pol r (us.drop j) d y).2.2.1 false false) [xd'] [xe'])
   ∧(feedG pol r (us.drop j) d y).2.1.Ok kd'∧(feedG pol r (us.drop j) d y).2.1.Rep xd'∧RX ke' (feedG pol r (us.drop j) d y).2.2 xe'∧kd'≤kd+m∧ke'≤ke+32*m∧(feedG pol r (us.drop j) d y).2.2.1.1.length≤y.1.1.length+1400*m∧(feedG pol r (us.drop j) d y).1≤m:=by
 intro m
 induction m with
 | zero=>
  intro j g kd ke d y xd xe hj hg hd hrd hr hk1 hk2 hb
  obtain ⟨g,rfl⟩:∃q,g=q+1:=⟨g - 1,by omega⟩
  rw [List.drop_eq_nil_of_le (by omega),loopM_succ]
  refine ⟨xd,xe,kd,ke,?_,hd,hrd,hr,by omega,by omega,by simp [feedG],by simp [feedG]⟩
  have hp:=pay_eq (a:=a) (b:=b) (pol:=pol) (x:=y.1) (en:=false) (cl:=false) (D:=[xd]) (E:=[xe]) (r:=r) (by omega)
  unfold stream_Stream_Feed_L0
  rw [show mkS a b pol y.1 false false [xd] [xe]=(a,b,pol,(0:Nat),(0:Nat),y.1.1,y.1.2.1,y.1.2.2.1,y.1.2.2.2,false,false,[xd],[xe]) from rfl]
  rw [show mkS a b pol y.1 false false [xd] [xe]=(a,b,pol,(0:Nat),(0:Nat),y.1.1,y.1.2.1,y.1.2.2.1,y.1.2.2.2,false,false,[xd],[xe]) from rfl] at hp
  dsimp only
  rw [decide_eq_false (by omega),cond_false,hp,bind_some']
  try rfl
 | succ m ih=>
  intro j g kd ke d y xd xe hj hg hd hrd hr hk1 hk2 hb
  obtain ⟨g,rfl⟩:∃q,g=q+1:=⟨g - 1,by omega⟩
  have hjl:j<us.length:=by omega
  have hx:=h8 us[j] (List.getElem_mem hjl)
  rw [List.drop_eq_getElem_cons hjl,loopM_succ]
  by_cases hc:y.1.1.length<r∧y.1.2.2.2=0
  ·have hg':feedG pol r (us[j] :: us.drop (j+1)) d y=((feedG pol r (us.drop (j+1)) (d.put us[j]).2 (takeTs pol y (d.put us[j]).1)).1+1,(feedG pol r (us.drop (j+1)) (d.put us[j]).2 (takeTs pol y (d.put us[j]).1)).2):=if_pos hc
   rw [hg']
   obtain ⟨xd',e1,e2⟩:=decPut_eq hd hrd (by omega) us[j]
   obtain ⟨f1,f2⟩:=PD.put_few hd us[j]
   have h3:=PD.held3 hd
   obtain ⟨xe',k',e3,e4,e5⟩:=taken_eq f1 (a:=a) (b:=b) (pol:=pol) (en:=false) (cl:=false) (D:=[xd']) (by omega) hr (by omega) (by omega)
   obtain ⟨_,_,_,t3,_⟩:=takeTs_ok (pol:=pol) (d.put us[j]).1 hr.ok f1
   have hl4:(d.put us[j]).1.length≤4:=by omega
   have e0:stream_Stream_Feed_L0 FU64 (us,(r:Int),(j:Int),mkS a b pol y.1 false false [xd] [xe])=some (.inl (us,(r:Int),((j+1:Nat):Int),mkS a b pol (takeTs pol y (d.put us[j]).1).1 false false [xd'] [xe'])):=by
    unfold stream_Stream_Feed_L0
    rw [show mkS a b pol y.1 false false [xd] [xe]=(a,b,pol,(0:Nat),(0:Nat),y.1.1,y.1.2.1,y.1.2.2.1,y.1.2.2.2,false,false,[xd],[xe]) from rfl]
    dsimp only
    rw [decide_eq_true (by omega),cond_true,decide_eq_true (show (y.1.1.length:Int)<(r:Int) by omega),cond_true,beq_t hc.2,cond_true,nthI_get hjl,bind_some',List.getElem?_cons_zero,bind_some',w64_id (n:=us[j]) (by omega) (by omega),e1,bind_some']
    have e3':stream_Stream_taken FU64 ((d.put us[j]).1,a,b,pol,(0:Nat),(0:Nat),y.1.1,y.1.2.1,y.1.2.2.1,y.1.2.2.2,false,false,List.set [xd] 0 xd',[xe])=_:=e3
    rw [e3',bind_some',w64_succ hjl (by omega)]
    try rfl
   rw [e0]
   obtain ⟨xd2,xe2,kd2,ke2,i1,i2,i3,i4,i5,i6,i7,i8⟩:=ih (j+1) g (kd+1) k' (d.put us[j]).2 (takeTs pol y (d.put us[j]).1) xd' xe' (by omega) (by omega) (PD.put_ok hd us[j]) e2 e4 (by omega) (by omega) (by omega)
   refine ⟨xd2,xe2,kd2,ke2,?_,i2,i3,i4,by omega,by omega,by dsimp only;omega,by dsimp only;omega⟩
   dsimp only
   rw [i1]
   congr 4
   omega
  ·have hg':feedG pol r (us[j] :: us.drop (j+1)) d y=(0,d,y):=if_neg hc
   rw [hg']
   refine ⟨xd,xe,kd,ke,?_,hd,hrd,hr,by omega,by omega,by simp,by simp⟩
   have hp:=pay_eq (a:=a) (b:=b) (pol:=pol) (x:=y.1) (en:=false) (cl:=false) (D:=[xd]) (E:=[xe]) (r:=r) (by omega)
   have e0:stream_Stream_Feed_L0 FU64 (us,(r:Int),(j:Int),mkS a b pol y.1 false false [xd] [xe])=some (.inr (y.1.1.take r,(j:Int),payE r y.1,mkS a b pol (y.1.1.drop r,y.1.2) false (payC r y.1 false false) [xd] [xe])):=by
    unfold stream_Stream_Feed_L0
    rw [show mkS a b pol y.1 false false [xd] [xe]=(a,b,pol,(0:Nat),(0:Nat),y.1.1,y.1.2.1,y.1.2.2.1,y.1.2.2.2,false,false,[xd],[xe]) from rfl]
    rw [show mkS a b pol y.1 false false [xd] [xe]=(a,b,pol,(0:Nat),(0:Nat),y.1.1,y.1.2.1,y.1.2.2.1,y.1.2.2.2,false,false,[xd],[xe]) from rfl] at hp
    dsimp only
    rw [decide_eq_true (by omega),cond_true]
    by_cases h1:y.1.1.length<r
    ·rw [decide_eq_true (show (y.1.1.length:Int)<(r:Int) by omega),cond_true,beq_f (fun h=>hc ⟨h1,h⟩),cond_false,hp,bind_some']
     rfl
    ·rw [decide_eq_false (show ¬(y.1.1.length:Int)<(r:Int) by omega),cond_false,hp,bind_some']
     rfl
   rw [e0]
   rfl
theorem feed_eq {us:List Int} (h8:isU8 us) (hn:us.length≤100000) {a b:ByteArray} {pol:Int} {r:Nat} (hr16:16≤r) {kd ke:Nat} {d:PD} {y:WS×PE} {xd:DSt} {xe:ESt} (hd:d.Ok kd) (hrd:d.Rep xd) (hr:RX ke y xe) (hk1:kd+us.length≤100000000) (hk2:ke+32*us.length+100≤900000000) (hb:y.1.1.length+1400*us.length+5000≤900000000) :
  ∃xd' xe' kd' ke',stream_Stream_Feed FU64 (us,(r:Int),mkS a b pol y.1 false false [xd] [xe]) =
   some ((feedG pol r us d y).2.2.1.1.take r,(((feedG pol r us d y).1:Nat):Int),payE r (feedG pol r us d y).2.2.1,mkS a b pol ((feedG pol r us d y).2.2.1.1.drop r,(feedG pol r us d y).2.2.1.2) false (payC r (feedG pol r us d y).2.2.1 false false) [xd'] [xe'])
   ∧(feedG pol r us d y).2.1.Ok kd'∧(feedG pol r us d y).2.1.Rep xd'∧RX ke' (feedG pol r us d y).2.2 xe'∧kd'≤kd+us.length∧ke'≤ke+32*us.length∧(feedG pol r us d y).2.2.1.1.length≤y.1.1.length+1400*us.length∧(feedG pol r us d y).1≤us.length:=by
 obtain ⟨xd',xe',kd',ke',i1,i2⟩:=feed_L0 h8 hn (a:=a) (b:=b) (pol:=pol) (r:=r) us.length 0 FU64 kd ke d y xd xe (Nat.zero_add _) (by unfold FU64;omega) hd hrd hr hk1 hk2 hb
 rw [List.drop_zero,Nat.zero_add] at i1
 rw [List.drop_zero] at i2
 refine ⟨xd',xe',kd',ke',?_,i2⟩
 rw [←i1]
 unfold stream_Stream_Feed
 rw [show mkS a b pol y.1 false false [xd] [xe]=(a,b,pol,(0:Nat),(0:Nat),y.1.1,y.1.2.1,y.1.2.2.1,y.1.2.2.2,false,false,[xd],[xe]) from rfl]
 dsimp only
 rw [cond_false,cond_false,decide_eq_false (by omega),cond_false]
 rfl
theorem feed_shut {us:List Int} {a b:ByteArray} {pol room:Int} {x:WS} {en cl:Bool} {D:LDS} {E:LES} (h:en=true∨cl=true) :
  stream_Stream_Feed FU64 (us,room,mkS a b pol x en cl D E)=some ([],0,5,mkS a b pol x en cl D E):=by
 unfold stream_Stream_Feed mkS
 dsimp only
 cases cl with
 | true=>rw [cond_true]
 | false=>
  have:en=true:=by simpa using h
  subst this
  rw [cond_false,cond_true]
def flushX (pol:Int) (d:PD) (y:WS×PE):WS:=if y.1.2.2.2=0 then finX pol (takeTs pol y d.fin.1) else y.1
theorem flush_eq {a b:ByteArray} {pol:Int} {r:Nat} (hr16:16≤r) {kd ke:Nat} {d:PD} {y:WS×PE} {xd:DSt} {xe:ESt} (hd:d.Ok kd) (hrd:d.Rep xd) (hr:RX ke y xe) (hk1:kd≤100000000) (hk2:ke+100≤900000000) (hb:y.1.1.length+5000≤900000000) :
  ∃xd' xe',stream_Stream_Flush FU64 ((r:Int),mkS a b pol y.1 false false [xd] [xe])=some ((flushX pol d y).1.take r,payE r (flushX pol d y),mkS a b pol ((flushX pol d y).1.drop r,(flushX pol d y).2) true (payC r (flushX pol d y) true false) [xd'] [xe'])∧(flushX pol d y).1.length≤y.1.1.length+2000:=by
 unfold stream_Stream_Flush flushX
 rw [show mkS a b pol y.1 false false [xd] [xe]=(a,b,pol,(0:Nat),(0:Nat),y.1.1,y.1.2.1,y.1.2.2.1,y.1.2.2.2,false,false,[xd],[xe]) from rfl]
 dsimp only
 rw [cond_false,decide_eq_false (by omega),cond_false,Bool.not_false,cond_true]
 by_cases h0:y.1.2.2.2=0
 ·rw [if_pos h0,beq_t h0,cond_true,List.getElem?_cons_zero,bind_some']
  obtain ⟨xd',e1,e2⟩:=decEnd_eq hd hrd (by omega)
  obtain ⟨f1,f2⟩:=PD.fin_few hd
  have h3:=PD.held3 hd
  obtain ⟨xe',k',e3,e4,e5⟩:=taken_eq f1 (a:=a) (b:=b) (pol:=pol) (en:=false) (cl:=false) (D:=[xd']) (by omega) hr (by omega) (by omega)
  obtain ⟨_,_,_,t3,_⟩:=takeTs_ok (pol:=pol) d.fin.1 hr.ok f1
  rw [e1,bind_some']
  have e3':stream_Stream_taken FU64 (d.fin.1,a,b,pol,(0:Nat),(0:Nat),y.1.1,y.1.2.1,y.1.2.2.1,y.1.2.2.2,false,false,List.set [xd] 0 xd',[xe])=_:=e3
  rw [e3',bind_some']
  generalize takeTs pol y d.fin.1=z at e4 t3 ⊢
  rw [show mkS a b pol z.1 false false [xd'] [xe']=(a,b,pol,(0:Nat),(0:Nat),z.1.1,z.1.2.1,z.1.2.2.1,z.1.2.2.2,false,false,[xd'],[xe']) from rfl]
  dsimp only
  unfold finX
  by_cases hz:z.1.2.2.2=0
  ·obtain ⟨xe2,g1,g2⟩:=encEnd_eq e4.ok e4.rep (by omega)
   obtain ⟨p1,p2,p3,p4⟩:=PE.fin_ok e4.ok
   have hh:=PE.held3 e4.ok
   have hw:=written_eq (ts:=z.2.fin.1) (by omega) p3 (a:=a) (b:=b) (pol:=pol) (x:=z.1) (by omega) (en:=false) (cl:=false) (D:=[xd']) (E:=[xe2])
   have hl:=wrTs_len (pol:=pol) (x:=z.1) p3
   rw [beq_t hz,cond_true,List.getElem?_cons_zero,bind_some',g1,bind_some',if_pos hz]
   have hw':stream_Stream_written FU64 (z.2.fin.1,a,b,pol,(0:Nat),(0:Nat),z.1.1,z.1.2.1,z.1.2.2.1,z.1.2.2.2,false,false,[xd'],List.set [xe'] 0 xe2)=_:=hw
   rw [hw',bind_some']
   have hp:=pay_eq (a:=a) (b:=b) (pol:=pol) (x:=wrTs pol z.1 z.2.fin.1) (en:=true) (cl:=false) (D:=[xd']) (E:=[xe2]) (r:=r) (by omega)
   unfold mkS at hp ⊢
   dsimp only at hp ⊢
   rw [hp,bind_some']
   exact ⟨xd',xe2,rfl,by omega⟩
  ·have hp:=pay_eq (a:=a) (b:=b) (pol:=pol) (x:=z.1) (en:=true) (cl:=false) (D:=[xd']) (E:=[xe']) (r:=r) (by omega)
   unfold mkS at hp ⊢
   dsimp only at hp ⊢
   rw [beq_f hz,cond_false,if_neg hz,hp,bind_some']
   exact ⟨xd',xe',rfl,by omega⟩
 ·have hp:=pay_eq (a:=a) (b:=b) (pol:=pol) (x:=y.1) (en:=true) (cl:=false) (D:=[xd]) (E:=[xe]) (r:=r) (by omega)
  unfold mkS at hp ⊢
  dsimp only at hp ⊢
  rw [if_neg h0,beq_f h0,cond_false,hp,bind_some']
  exact ⟨xd,xe,rfl,by omega⟩
theorem name_diff:((List.range 8).all fun i=>(List.range 8).all fun j=>eqS (nameN i) (nameN j) == decide (i=j))=true:=by kernel_rfl
theorem eqS_name {i j:Nat} (hi:i<8) (hj:j<8):eqS (nameN i) (nameN j)=decide (i=j):=by
 have h:=name_diff
 rw [List.all_eq_true] at h
 have h:=h i (List.mem_range.2 hi)
 rw [List.all_eq_true] at h
 exact beq_iff_eq.1 (h j (List.mem_range.2 hj))
theorem names20_eq {v:Int} (hv:0≤v∧v<256):∃n m:Nat,∃p:Int,n<8∧m<8∧(0≤p∧p<3)∧lontarlaw20_names FU64 v=some (nameN n,nameN m,p):=by
 refine ⟨v.toNat % 8,v.toNat / 8 % 8,((v.toNat / 64 % 3:Nat):Int),Nat.mod_lt _ (by omega),Nat.mod_lt _ (by omega),⟨by omega,by omega⟩,?_⟩
 unfold lontarlaw20_names
 dsimp only
 have e1:Int.tmod (w64 v) 8=((v.toNat % 8:Nat):Int):=by rw [w64_id (by omega) (by omega),tmod8 hv.1]
 have d1:Int.tdiv (w64 v) 8=((v.toNat / 8:Nat):Int):=by
  rw [w64_id (by omega) (by omega),Int.tdiv_eq_ediv_of_nonneg hv.1]
  omega
 have e2:Int.tmod (w64 (Int.tdiv (w64 v) 8)) 8=((v.toNat / 8 % 8:Nat):Int):=by
  rw [d1,w64_id (by omega) (by omega),tmod8 (by omega),Int.toNat_natCast]
 have e3:w64 (Int.tmod (w8 (Int.tdiv v 64)) 3)=((v.toNat / 64 % 3:Nat):Int):=by
  have:Int.tdiv v 64=((v.toNat / 64:Nat):Int):=by
   rw [Int.tdiv_eq_ediv_of_nonneg hv.1]
   omega
  rw [this,w8_id (by omega) (by omega),Int.tmod_eq_emod_of_nonneg (by omega),w64_id (by omega) (by omega)]
  omega
 rw [names_eq,bind_some']
 simp only [List.length_cons,List.length_nil]
 rw [show ((((0+1+1+1+1+1+1+1+1:Nat):Int)) == 0)=false from rfl,cond_false,show (!(decide ((((0+1+1+1+1+1+1+1+1:Nat):Int))=0)))=true from rfl,cond_true,show (((0+1+1+1+1+1+1+1+1:Nat):Int))=8 from rfl,e1,nth_name (Nat.mod_lt _ (by omega)),bind_some',cond_true,e2,nth_name (Nat.mod_lt _ (by omega)),bind_some',e3]
theorem text_L0 {us b:List Int} (hu:us.length≤100) {t:Int} {q1:LES} {q2 q3:Int} {q4:List Int} {q5:Int}:∀(m k g:Nat) (acc:List Int),k+m=us.length→m<g→isU8 acc→acc.length≤2*k→
  ∃out,loopM (lontarlaw20_Text_L0 FU64) g (b,t,acc,us,(us.length:Int),(k:Int),q1,q2,q3,q4,q5)=some (.inr out)∧isU8 out∧out.length≤200:=by
 intro m
 induction m with
 | zero=>
  intro k g acc hk hg h8 hl
  obtain ⟨g,rfl⟩:∃q,g=q+1:=⟨g - 1,by omega⟩
  refine ⟨acc,?_,h8,by omega⟩
  rw [loopM_succ]
  unfold lontarlaw20_Text_L0
  dsimp only
  rw [decide_eq_false (by omega),cond_false]
 | succ m ih=>
  intro k g acc hk hg h8 hl
  obtain ⟨g,rfl⟩:∃q,g=q+1:=⟨g - 1,by omega⟩
  have hkl:k<us.length:=by omega
  have ha:∀c:Int,isU8 (acc++[w8 c]):=fun c x hx=>by
   rw [List.mem_append,List.mem_singleton] at hx
   rcases hx with hx | rfl
   ·exact h8 x hx
   ·exact w8_r c
  have hb:∀c d:Int,isU8 (acc++[w8 c]++[w8 d]):=fun c d x hx=>by
   rw [List.mem_append,List.mem_singleton] at hx
   rcases hx with hx | rfl
   ·exact ha c x hx
   ·exact w8_r d
  have f1:∀c:Int,decide ((acc.length + [w8 c].length)*1≤2 ^ 46)=true:=fun c=>by rw [decide_eq_true_eq];simp;omega
  have f2:∀c d:Int,decide (((acc++[w8 c]).length + [w8 d].length)*1≤2 ^ 46)=true:=fun c d=>by rw [decide_eq_true_eq];simp;omega
  have step:∃acc',lontarlaw20_Text_L0 FU64 (b,t,acc,us,(us.length:Int),(k:Int),q1,q2,q3,q4,q5)=some (.inl (b,t,acc',us,(us.length:Int),((k+1:Nat):Int),q1,q2,q3,q4,q5))∧isU8 acc'∧acc'.length≤2*(k+1):=by
   have s1:∃acc',some (Sum.inl (b,t,(acc++[w8 us[k]]),us,(us.length:Int),((k+1:Nat):Int),q1,q2,q3,q4,q5))=(some (Sum.inl (b,t,acc',us,(us.length:Int),((k+1:Nat):Int),q1,q2,q3,q4,q5))  : Option (lontarlaw20_Text_S0⊕(List Int⊕List Int)))∧isU8 acc'∧acc'.length≤2*(k+1):=⟨_,rfl,ha _,by simp;omega⟩
   unfold lontarlaw20_Text_L0
   dsimp only
   rw [decide_eq_true (by omega),cond_true,nthI_get hkl,bind_some',f1,cond_true,w64_succ hkl (by omega)]
   by_cases h1:Int.tmod t 3=1
   ·rw [beq_t h1,cond_true]
    by_cases h2:(k:Int)<(b.length:Int)
    ·have h2':k<b.length:=by omega
     rw [decide_eq_true h2,cond_true,nthI_get h2',bind_some']
     by_cases h3:b[k]<20
     ·rw [decide_eq_true h3,cond_true,bind_some',f2,cond_true]
      exact ⟨_,rfl,hb _ _,by simp;omega⟩
     ·rw [decide_eq_false h3,cond_false]
      exact s1
    ·rw [decide_eq_false h2,cond_false]
     exact s1
   ·rw [beq_f h1,cond_false]
    exact s1
  obtain ⟨acc',e,h8',hl'⟩:=step
  rw [loopM_succ,e]
  exact ih (k+1) g acc' (by omega) (by omega) h8' hl'
theorem upto100 {l:List Int}:∃m:Nat,(if (100:Int)<(l.length:Int) then (100:Int) else (l.length:Int))=(m:Int)∧m≤100∧m≤l.length:=by
 by_cases h:(100:Int)<(l.length:Int)
 ·exact ⟨100,by rw [if_pos h];rfl,Nat.le_refl _,by omega⟩
 ·exact ⟨l.length,by rw [if_neg h],by omega,Nat.le_refl _⟩
theorem text20_eq {n:Nat} (hn:n<8) {l b:List Int} (hl:isU8 l) (hb:isU8 b) {t:Int}:∃s,lontarlaw20_Text FU64 (nameN n,l,b,t)=some s∧isU8 (unS s)∧(unS s).length≤200:=by
 obtain ⟨x,e1,r1⟩:=enc_any hn (name_is hn)
 obtain ⟨us,e2,hus,_⟩:=scal19_eq hn hl
 obtain ⟨x',e3,_⟩:=allE_eq (us:=us) (PE.init_ok n).1 r1 (by omega)
 obtain ⟨f1,f2⟩:=PE.all_few (us:=us) (PE.init_ok n).1
 rw [(PE.init_ok n).2] at f2
 obtain ⟨m,m1,m2,m3⟩:=upto100 (l:=flat ((PE.init n).all us))
 obtain ⟨bs60,b1,b2,b3⟩:=take60 (l:=b)
 have hend:∃s,lontarlaw20_Text_L1 FU64 (nameN n,l,b,t,(n:Int),[utfN,ascN,visN,tcvN,vniN,tisN,tscN,iscN],(8:Int),((8:Nat):Int))=some (.inr s)∧isU8 (unS s)∧(unS s).length≤200:=by
  unfold lontarlaw20_Text_L1
  dsimp only
  rw [decide_eq_false (by omega),cond_false]
  by_cases h0:Int.tmod t 3=0
  ·rw [beq_t h0,cond_true,b1,bind_some']
   refine ⟨_,rfl,?_,?_⟩
   ·rw [b3];exact isU8_take hb 60
   ·show bs60.length≤200
    omega
  ·rw [beq_f h0,cond_false,e1,bind_some']
   dsimp only
   rw [e2,bind_some',e3,bind_some']
   dsimp only
   rw [units_all fu64 (by omega) f1,bind_some']
   dsimp only
   rw [m1,sliceI_to m3,bind_some']
   obtain ⟨out,g1,g2,g3⟩:=text_L0 (us:=(flat ((PE.init n).all us)).take m) (b:=b) (by simp;omega) (t:=t) (q1:=[x']) (q2:=(badT ((PE.init n).all us)).1) (q3:=(badT ((PE.init n).all us)).2.1) (q4:=(badT ((PE.init n).all us)).2.2.1) (q5:=(badT ((PE.init n).all us)).2.2.2) _ 0 FU64 [] (Nat.zero_add _) (by simp;unfold FU64;omega) (fun x hx=>by cases hx) (by simp)
   refine ⟨.inr out,?_,g2,g3⟩
   refine Eq.trans (congrArg (Option.map Sum.inr) g1) rfl
 obtain ⟨s,s1,s2,s3⟩:=hend
 refine ⟨s,?_,s2,s3⟩
 unfold lontarlaw20_Text
 dsimp only
 rw [names_eq,bind_some']
 have:=loop_st (f:=lontarlaw20_Text_L1 FU64) (fun k=>(nameN n,l,b,t,(if n<k then (n:Int) else 0),[utfN,ascN,visN,tcvN,vniN,tisN,tscN,iscN],(8:Int),(k:Int)))  (m:=8) (fu:=FU64) (r:=s) (fun k hk=>by
   unfold lontarlaw20_Text_L1
   dsimp only
   rw [decide_eq_true (by omega),cond_true,nth_name hk,bind_some',get_name hk,bind_some',eqS_name hk hn,w64_id (n:=(k:Int)+1) (by omega) (by omega)]
   by_cases hkn:k=n
   ·subst hkn
    rw [decide_eq_true rfl,cond_true,if_pos (Nat.lt_succ_self _)]
    rfl
   ·rw [decide_eq_false hkn,cond_false]
    by_cases h2:n<k
    ·rw [if_pos h2,if_pos (by omega)];rfl
    ·rw [if_neg h2,if_neg (by omega)];rfl) (by rw [if_pos hn];exact s1) (by unfold FU64;omega)
 rw [if_neg (by omega)] at this
 exact this
theorem awake_all:allX 0 1 0 [65,128]=([65],1,1,3):=by kernel_rfl
def gAw:Nat×(PD×WS×PE):=feedG 1 16 [161,219] (PD.init 5) (x0,PE.init 0)
theorem gAw1:gAw.1=2:=by kernel_rfl
theorem gAw2:gAw.2.2.1=([224,184,129,239,191,189],0,0,0):=by kernel_rfl
theorem gAw3:flushX 1 gAw.2.1 (([],0,0,0),gAw.2.2.2)=([],0,0,0):=by kernel_rfl
theorem bind_to {α β:Type} {o:Option α} {a:α} {f:α→Option β} {r:Option β} (h:o=some a) (h2:f a=r):o.bind f=r:=by rw [h];exact h2
theorem gAw0:feedG 1 16 [161,219] (PD.init 5) (x0,PE.init 0)=gAw:=rfl
theorem RX.of2 {k:Nat} {y:WS×PE} {xe:ESt} (h:RX k y xe) (x:WS):RX k (x,y.2) xe:=⟨h.ok,h.rep⟩
attribute [local irreducible] gAw
theorem awake20:lontarlaw20_awake FU64 ()=some true:=by
 have n1:codec_Name FU64 ascN=some (nameN 1,0):=name_is (n:=1) (by omega)
 have n2:codec_Name FU64 utfN=some (nameN 0,0):=name_is (n:=0) (by omega)
 have n3:codec_Name FU64 (bs [116,105,115,54,50,48])=some (nameN 5,0):=by kernel_rfl
 have n4:codec_Name FU64 (bs [117,116,102,56])=some (nameN 0,0):=by kernel_rfl
 have e1:=sall_eq (n:=1) (m:=0) (by omega) (by omega) n1 n2 (p:=0) (by omega) (us:=[65,128]) (by intro x hx;simp only [List.mem_cons,List.not_mem_nil,or_false] at hx;omega) (by simp)
 rw [awake_all] at e1
 obtain ⟨xd,xe,e2,r1,r2⟩:=open_eq (n:=5) (m:=0) (by omega) (by omega) n3 n4 (p:=1) (by omega)
 obtain ⟨xd',xe',kd',ke',e3,o1,o2,o3,o4,o5,o6,_⟩:=feed_eq (us:=[161,219]) (by intro x hx;simp only [List.mem_cons,List.not_mem_nil,or_false] at hx;omega) (by simp) (a:=nameN 5) (b:=nameN 0) (pol:=1) (r:=16) (by omega) (kd:=0) (ke:=0) (d:=PD.init 5) (y:=(x0,PE.init 0)) (PD.init_ok 5).1 r1 ⟨(PE.init_ok 0).1,r2⟩ (by simp) (by simp) (by simp [x0])
 rw [gAw0] at e3 o1 o2 o3
 rw [gAw1,gAw2] at e3
 have o3':RX ke' (([],0,0,0),gAw.2.2.2) xe':=o3.of2 _
 obtain ⟨xd2,xe2,e4,_⟩:=flush_eq (a:=nameN 5) (b:=nameN 0) (pol:=1) (r:=16) (by omega) o1 o2 o3' (by simp at o4;omega) (by simp at o5;omega) (by simp)
 rw [gAw3] at e4
 have e5:=feed_shut (us:=[]) (a:=nameN 5) (b:=nameN 0) (pol:=1) (room:=16) (x:=([],0,0,0)) (en:=true) (cl:=true) (D:=[xd2]) (E:=[xe2]) (.inl rfl)
 unfold lontarlaw20_awake
 try dsimp only
 rw [show stream_All FU64 (bs [97,115,99,105,105],bs [117,116,102,45,56],0,[65,128])=_ from e1,bind_some',e2,bind_some']
 dsimp only
 rw [show ((0:Int) != 0)=false from rfl,cond_false]
 refine bind_to e3 ?_
 refine bind_to e4 ?_
 refine bind_to e5 ?_
 kernel_rfl
theorem eqS_mk2 (l m:List Int) (h:l=m):eqS (ByteArray.mk (List.toArray (List.map (fun n=>(UInt8.ofNat (Int.toNat n))) l))) (ByteArray.mk (List.toArray (List.map (fun n=>(UInt8.ofNat (Int.toNat n))) m)))=true:=by
 subst h
 rw [eqS_dec,decide_eq_true rfl]
def mkM (pol:Int) (x:WS) (E:LES):Nat×(Int×List Int×Int×Int×Int×LES):=((0:Nat),pol,x.1,x.2.1,x.2.2.1,x.2.2.2,E)
theorem mt_L0 {ts:List Tok} {n k:Int} {out:List Int} (ho:out.length≤8) {pol:Int} {x:WS} (hx:x.1.length≤900000000) {E:LES} (q1 q2:Int) (q3:List Int) (q4:Int) :
  loopM (lontarlaw20_Model_tokens_L0 FU64) FU64 (ts,ts,n,k,out,(out.length:Int),(0:Int),(0:Nat),pol,x.1,x.2.1,x.2.2.1,x.2.2.2,E,q1,q2,q3,q4) =
   some (.inl (ts,ts,n,w64 (k+1),mkM pol (x.1++out.map w8,x.2) E)):=by
 have:=loop_st (f:=lontarlaw20_Model_tokens_L0 FU64) (fun j=>(ts,ts,n,k,out,(out.length:Int),(j:Int),(0:Nat),pol,(x.1++(out.take j).map w8,(x.2.1,x.2.2.1,x.2.2.2,E,q1,q2,q3,q4)))) (m:=out.length) (fu:=FU64) (r:=.inl (ts,ts,n,w64 (k+1),mkM pol (x.1++out.map w8,x.2) E)) (fun j hj=>by
   unfold lontarlaw20_Model_tokens_L0
   dsimp only
   rw [decide_eq_true (by omega),cond_true,nthI_get hj,bind_some',fit1 (n:=(x.1++(out.take j).map w8).length) (by simp;omega) (by simp),cond_true,w64_succ hj (by omega),List.take_succ_eq_append_getElem hj,List.map_append,List.append_assoc]
   rfl) (by
   unfold lontarlaw20_Model_tokens_L0
   dsimp only
   rw [decide_eq_false (by omega),cond_false,List.take_length]
   rfl) (by unfold FU64;omega)
 simp only [List.take_zero,List.map_nil,List.append_nil] at this
 exact this
theorem mt_L1 {ts:List Tok} (hn:ts.length≤1000000) (hf:fewO ts) {pol:Int} {E:LES}:∀(m k g:Nat) (x:WS),k+m=ts.length→m<g→x.1.length+8*m≤900000000→
  loopM (lontarlaw20_Model_tokens_L1 FU64) g (ts,ts,(ts.length:Int),(k:Int),mkM pol x E)=some (mkM pol (wrTs pol x (ts.drop k)) E):=by
 intro m
 induction m with
 | zero=>
  intro k g x hk hg _
  obtain ⟨g,rfl⟩:∃q,g=q+1:=⟨g - 1,by omega⟩
  rw [List.drop_eq_nil_of_le (by omega),loopM_succ]
  unfold lontarlaw20_Model_tokens_L1 mkM
  dsimp only
  rw [decide_eq_false (by omega),cond_false]
  rfl
 | succ m ih=>
  intro k g x hk hg hx
  obtain ⟨g,rfl⟩:∃q,g=q+1:=⟨g - 1,by omega⟩
  have hkl:k<ts.length:=by omega
  have h8:=hf ts[k] (List.getElem_mem hkl)
  have hlen:=wrT_len (pol:=pol) (x:=x) h8
  rw [List.drop_eq_getElem_cons hkl]
  show _=some (mkM pol (wrTs pol (wrT pol x ts[k]) (ts.drop (k+1))) E)
  by_cases he:x.2.2.2=0
  ·rw [←ih (k+1) g (wrT pol x ts[k]) (by omega) (by omega) (by omega),loopM_succ]
   have e:lontarlaw20_Model_tokens_L1 FU64 (ts,ts,(ts.length:Int),(k:Int),mkM pol x E)=some (.inl (ts,ts,(ts.length:Int),((k+1:Nat):Int),mkM pol (wrT pol x ts[k]) E)):=by
    unfold lontarlaw20_Model_tokens_L1
    rw [show mkM pol x E=((0:Nat),pol,x.1,x.2.1,x.2.2.1,x.2.2.2,E) from rfl]
    dsimp only
    rw [decide_eq_true (by omega),cond_true,nthI_get hkl,bind_some',bne_eq_false_iff_eq.2 he,cond_false]
    by_cases h0:ts[k].2.2.2=0
    ·rw [beq_t h0,cond_true,mt_L0 h8 (by omega),w64_succ hkl (by omega)]
     unfold wrT
     rw [if_neg (by simp [he]),if_pos h0]
    ·rw [beq_f h0,cond_false,w64_succ hkl (by omega)]
     have hw:wrT pol x ts[k]=if pol=0 then (x.1,2,ts[k].1,ts[k].2.2.2) else if pol=1 then (x.1++[63],x.2) else x:=by
      unfold wrT
      rw [if_neg (by simp [he]),if_neg h0]
     rw [hw]
     by_cases hp:pol=0
     ·rw [if_pos hp,beq_t hp,cond_true]
      rfl
     ·rw [if_neg hp,beq_f hp,cond_false]
      by_cases h1:pol=1
      ·rw [if_pos h1,beq_t h1,cond_true,fit1 (by omega) (by simp),cond_true]
       rfl
      ·rw [if_neg h1,beq_f h1,cond_false]
       rfl
   rw [e]
  ·rw [wrT_fault he,wrTs_fault he,loopM_succ]
   unfold lontarlaw20_Model_tokens_L1 mkM
   dsimp only
   rw [decide_eq_true (by omega),cond_true,nthI_get hkl,bind_some',bne_iff_ne.2 he,cond_true]
theorem mtok_eq {ts:List Tok} (hn:ts.length≤1000000) (hf:fewO ts) {pol:Int} {x:WS} (hx:x.1.length+8*ts.length≤900000000) {E:LES} :
  lontarlaw20_Model_tokens FU64 (ts,(0:Nat),pol,x.1,x.2.1,x.2.2.1,x.2.2.2,E)=some (mkM pol (wrTs pol x ts) E):=by
 have:=mt_L1 hn hf (pol:=pol) (E:=E) ts.length 0 FU64 x (Nat.zero_add _) (by unfold FU64;omega) hx
 rw [List.drop_zero] at this
 exact this
def blk (x:WS):Prop:=x.2.2.2=0→x.2=(0,0,0)
theorem wrT_blk {pol:Int} {x:WS} (h:blk x) (t:Tok):blk (wrT pol x t):=by
 unfold wrT
 split
 ·exact h
 ·rename_i hx
  split
  ·exact h
  ·rename_i ht
   split
   ·exact fun h2=>absurd h2 ht
   ·split
    ·exact h
    ·exact h
theorem wrTs_blk {pol:Int}:∀(ts:List Tok) {x:WS},blk x→blk (wrTs pol x ts)
 | [],_,h=>h
 | t :: ts,_,h=>wrTs_blk ts (wrT_blk h t)
theorem putX_blk {pol:Int} {y:WS×PE} (h:blk y.1) (u:Int):blk (putX pol y u).1:=by
 unfold putX
 split
 ·exact wrTs_blk _ h
 ·exact h
theorem putsX_blk {pol:Int}:∀(us:List Int) {y:WS×PE},blk y.1→blk (putsX pol y us).1
 | [],_,h=>h
 | u :: us,_,h=>putsX_blk us (putX_blk h u)
theorem mput {pol:Int} {k:Nat} {y:WS×PE} {xe:ESt} (hr:RX k y xe) (hk:k≤1000000000) (hb:y.1.1.length+40≤900000000) (u:Int) :
  ∃xe' k',(y.1.2.2.2=0→ko_encPut FU64 xe u=some ((y.2.put u).1,xe')∧lontarlaw20_Model_tokens FU64 ((y.2.put u).1,(0:Nat),pol,y.1.1,y.1.2.1,y.1.2.2.1,y.1.2.2.2,[xe'])=some (mkM pol (putX pol y u).1 [xe']))∧RX k' (putX pol y u) xe'∧(k'≤k+1∧(putX pol y u).1.1.length≤y.1.1.length+40∧y.1.1 <+: (putX pol y u).1.1)∧(y.1.2.2.2≠0→xe'=xe):=by
 by_cases h0:y.1.2.2.2=0
 ·obtain ⟨xe',e1,e2⟩:=encPut_eq hr.ok hr.rep hk u
  obtain ⟨p1,p2,p3⟩:=PE.put_ok hr.ok u
  have h3:=PE.held3 hr.ok
  have hp:putX pol y u=(wrTs pol y.1 (y.2.put u).1,(y.2.put u).2):=if_pos h0
  have hl:=wrTs_len (pol:=pol) (x:=y.1) p2
  rw [hp]
  refine ⟨xe',k+1,fun _=>⟨e1,mtok_eq (by omega) p2 (by omega)⟩,⟨p1,e2⟩,⟨Nat.le_refl _,?_,hl.2.2⟩,fun h=>absurd h0 h⟩
  show (wrTs pol y.1 (y.2.put u).1).1.length≤_
  omega
 ·have hp:putX pol y u=y:=if_neg h0
  rw [hp]
  exact ⟨xe,k,fun h=>absurd h h0,hr,⟨by omega,by omega,List.prefix_rfl⟩,fun _=>rfl⟩
def mst (pol:Int) (ts:List Tok) (n kk q1 q2 q3:Int) (E:LES) (x:WS):lontarlaw20_All_S6:=(pol,(0:Nat),ts,n,kk,q1,q2,q3,E,(0:Nat),pol,x.1,x.2.1,x.2.2.1,x.2.2.2)
def mR (pol:Int) (ts:List Tok) (n kk q1 q2 q3:Int) (t:Tok) (z:WS×PE) (xe:ESt):lontarlaw20_All_S6⊕WS:=
 if (tkY pol t z).1.2.2.2=0 then .inl (mst pol ts n (w64 (kk+1)) q1 q2 q3 [xe] (tkY pol t z).1) else .inr (tkY pol t z).1
def mEnd (pol:Int) (ts:List Tok) (n kk q1 q2 q3:Int) (E:LES) (x:WS):Option (lontarlaw20_All_S6⊕WS):=
 bif (x.2.2.2 != (0:Int)) then some (Sum.inr (x.1,x.2.1,x.2.2.1,x.2.2.2))
 else some (Sum.inl (pol,(0:Nat),ts,n,(w64 (kk+(1:Int))),q1,q2,q3,E,(0:Nat),pol,x.1,x.2.1,x.2.2.1,x.2.2.2))
def mTail (pol:Int) (ts:List Tok) (n kk q1 q2 q3:Int) (E:LES) (x:WS) (t:Tok):Option (lontarlaw20_All_S6⊕WS):=
 bif (t.2.2.2 != (0:Int)) then
  bif (pol == (0:Int)) then
   bif (x.2.2.2 == (0:Int)) then
    ((GetElem?.getElem? E (0:Nat))).bind fun y5=>
    ((ko_encEnd FU64 y5 ())).bind fun y6=>
    ((lontarlaw20_Model_tokens FU64 (y6.1,(0:Nat),pol,x.1,x.2.1,x.2.2.1,x.2.2.2,(List.set E (0:Nat) y6.2)))).bind fun y7=>
    bif (y7.2.2.2.2.2.1 == (0:Int)) then
     bif (t.2.2.2 != (0:Int)) then
      some (Sum.inr (y7.2.2.1,(1:Int),t.1,t.2.2.2))
     else
      some (Sum.inl (pol,(0:Nat),ts,n,(w64 (kk+(1:Int))),q1,q2,q3,y7.2.2.2.2.2.2,y7.1,y7.2.1,y7.2.2.1,(1:Int),t.1,t.2.2.2))
    else
     bif (y7.2.2.2.2.2.1 != (0:Int)) then
      some (Sum.inr (y7.2.2.1,y7.2.2.2.1,y7.2.2.2.2.1,y7.2.2.2.2.2.1))
     else
      some (Sum.inl (pol,(0:Nat),ts,n,(w64 (kk+(1:Int))),q1,q2,q3,y7.2.2.2.2.2.2,y7.1,y7.2.1,y7.2.2.1,y7.2.2.2.1,y7.2.2.2.2.1,y7.2.2.2.2.2.1))
   else mEnd pol ts n kk q1 q2 q3 E x
  else mEnd pol ts n kk q1 q2 q3 E x
 else mEnd pol ts n kk q1 q2 q3 E x
theorem mEnd_eq {pol:Int} {ts:List Tok} {n kk q1 q2 q3:Int} {t:Tok} {z:WS×PE} {xe:ESt} (h:tkY pol t z=z):mEnd pol ts n kk q1 q2 q3 [xe] z.1=some (mR pol ts n kk q1 q2 q3 t z xe):=by
 unfold mEnd mR
 rw [h]
 by_cases h0:z.1.2.2.2=0
 ·rw [bne_eq_false_iff_eq.2 h0,cond_false,if_pos h0]
  rfl
 ·rw [bne_iff_ne.2 h0,cond_true,if_neg h0]
theorem mtail_eq {pol:Int} {ts:List Tok} {n kk q1 q2 q3:Int} (t:Tok) {k:Nat} {y:WS×PE} {xe:ESt} (hr:RX k y xe) (hz:blk y.1) (hk:k≤1000000000) (hb:y.1.1.length+40≤900000000) :
  ∃xe',mTail pol ts n kk q1 q2 q3 [xe] y.1 t=some (mR pol ts n kk q1 q2 q3 t y xe')∧RX k (tkY pol t y) xe':=by
 by_cases hw:tkW pol t y
 ·obtain ⟨h1,h2,h3⟩:=hw
  obtain ⟨xe',e1,e2⟩:=encEnd_eq hr.ok hr.rep hk
  obtain ⟨p1,p2,p3,p4⟩:=PE.fin_ok hr.ok
  have h4:=PE.held3 hr.ok
  have hm:=mtok_eq (ts:=y.2.fin.1) (by omega) p3 (pol:=pol) (x:=y.1) (by omega) (E:=[xe'])
  have hY:tkY pol t y=lastX pol y (1,t.1,t.2.2.2):=if_pos ⟨h1,h2,h3⟩
  have hbl:y.1=(y.1.1,(0:Int),(0:Int),(0:Int)):=Prod.ext rfl (hz h2)
  refine ⟨xe',?_,by rw [hY];exact ⟨p1,e2⟩⟩
  unfold mTail
  rw [bne_iff_ne.2 h1,cond_true,beq_t h3,cond_true,beq_t h2,cond_true]
  refine bind_to (List.getElem?_cons_zero) ?_
  refine bind_to e1 ?_
  refine bind_to hm ?_
  unfold mR
  rw [hY,if_neg (lastX_er h1)]
  unfold lastX
  rw [←hbl]
  generalize wrTs pol y.1 y.2.fin.1=w
  show (bif w.2.2.2 == 0 then (bif true then some (Sum.inr (w.1,(1:Int),t.1,t.2.2.2)) else _) else (bif w.2.2.2 != 0 then some (Sum.inr (w.1,w.2.1,w.2.2.1,w.2.2.2)) else _))=_
  by_cases h:w.2.2.2=0
  ·rw [beq_t h,cond_true,cond_true,if_neg (by simp [h])]
  ·rw [beq_f h,cond_false,bne_iff_ne.2 h,cond_true,if_pos h]
 ·have hY:tkY pol t y=y:=if_neg hw
  refine ⟨xe,?_,by rw [hY];exact hr⟩
  rw [←mEnd_eq hY]
  unfold mTail
  by_cases h1:t.2.2.2=0
  ·rw [bne_eq_false_iff_eq.2 h1,cond_false]
  ·rw [bne_iff_ne.2 h1,cond_true]
   by_cases h3:pol=0
   ·rw [beq_t h3,cond_true]
    by_cases h2:y.1.2.2.2=0
    ·exact absurd ⟨h1,h2,h3⟩ hw
    ·rw [beq_f h2,cond_false]
   ·rw [beq_f h3,cond_false]
theorem m_L5 {pol:Int} {ts:List Tok} {n kk q1 q2 q3:Int} {out:List Int} (ho:out.length≤8) (t:Tok):∀(m j g k:Nat) (y:WS×PE) (xe:ESt),j+m=out.length→m<g→RX k y xe→blk y.1→k+m≤1000000000→y.1.1.length+40*m+40≤900000000→
  ∃xe' k',loopM (lontarlaw20_All_L5 FU64) g (pol,(0:Nat),out,ts,n,kk,(out.length:Int),(j:Int),q1,q2,q3,[xe],(0:Nat),pol,y.1.1,y.1.2.1,y.1.2.2.1,y.1.2.2.2,t.1,t.2.1,t.2.2.1,t.2.2.2)=some (mR pol ts n kk q1 q2 q3 t (putsX pol y (out.drop j)) xe')∧RX k' (tkY pol t (putsX pol y (out.drop j))) xe'∧k'≤k+m:=by
 intro m
 induction m with
 | zero=>
  intro j g k y xe hj hg hr hz hk hb
  obtain ⟨g,rfl⟩:∃q,g=q+1:=⟨g - 1,by omega⟩
  rw [List.drop_eq_nil_of_le (by omega),loopM_succ]
  obtain ⟨xe',e1,e2⟩:=mtail_eq (ts:=ts) (n:=n) (kk:=kk) (q1:=q1) (q2:=q2) (q3:=q3) (pol:=pol) t hr hz (by omega) (by omega)
  refine ⟨xe',k,?_,e2,by omega⟩
  have e0:lontarlaw20_All_L5 FU64 (pol,(0:Nat),out,ts,n,kk,(out.length:Int),(j:Int),q1,q2,q3,[xe],(0:Nat),pol,y.1.1,y.1.2.1,y.1.2.2.1,y.1.2.2.2,t.1,t.2.1,t.2.2.1,t.2.2.2)=Option.map Sum.inr (mTail pol ts n kk q1 q2 q3 [xe] y.1 t):=by
   unfold lontarlaw20_All_L5
   dsimp only
   rw [decide_eq_false (by omega),cond_false]
   rfl
  rw [e0,e1]
  rfl
 | succ m ih=>
  intro j g k y xe hj hg hr hz hk hb
  obtain ⟨g,rfl⟩:∃q,g=q+1:=⟨g - 1,by omega⟩
  have hjl:j<out.length:=by omega
  obtain ⟨xe1,k1,e1,e2,e3,e4⟩:=mput (pol:=pol) hr (by omega) (by omega) out[j]
  obtain ⟨xe',k',i1,i2,i3⟩:=ih (j+1) g k1 (putX pol y out[j]) xe1 (by omega) (by omega) e2 (putX_blk hz _) (by omega) (by omega)
  refine ⟨xe',k',?_,?_,by omega⟩
  ·rw [List.drop_eq_getElem_cons hjl]
   show _=some (mR pol ts n kk q1 q2 q3 t (putsX pol (putX pol y out[j]) (out.drop (j+1))) xe')
   rw [←i1,loopM_succ]
   have step:lontarlaw20_All_L5 FU64 (pol,(0:Nat),out,ts,n,kk,(out.length:Int),(j:Int),q1,q2,q3,[xe],(0:Nat),pol,y.1.1,y.1.2.1,y.1.2.2.1,y.1.2.2.2,t.1,t.2.1,t.2.2.1,t.2.2.2)=some (.inl (pol,(0:Nat),out,ts,n,kk,(out.length:Int),((j+1:Nat):Int),q1,q2,q3,[xe1],(0:Nat),pol,(putX pol y out[j]).1.1,(putX pol y out[j]).1.2.1,(putX pol y out[j]).1.2.2.1,(putX pol y out[j]).1.2.2.2,t.1,t.2.1,t.2.2.1,t.2.2.2)):=by
    unfold lontarlaw20_All_L5
    dsimp only
    rw [decide_eq_true (by omega),cond_true,nthI_get hjl,bind_some',Int.toNat_natCast,List.getElem?_eq_getElem hjl,bind_some',w64_succ hjl (by omega)]
    by_cases h0:y.1.2.2.2=0
    ·obtain ⟨z1,z2⟩:=e1 h0
     rw [beq_t h0,cond_true,List.getElem?_cons_zero,bind_some',z1,bind_some',show List.set [xe] 0 xe1=[xe1] from rfl]
     have h0':=z2
     rw [h0',bind_some']
     rfl
    ·rw [beq_f h0,cond_false]
     have:putX pol y out[j]=y:=if_neg h0
     rw [this]
     have hx:xe1=xe:=e4 h0
     rw [hx]
   rw [step]
  ·rw [List.drop_eq_getElem_cons hjl]
   exact i2
theorem m_L6 {pol:Int} {ts:List Tok} {n kk q1 q2 q3:Int} {out o2:List Int} (ho:out.length≤8) (t:Tok):∀(m j g k:Nat) (y:WS×PE) (xe:ESt),j+m=out.length→m<g→RX k y xe→blk y.1→k+m≤1000000000→y.1.1.length+40*m+40≤900000000→
  ∃xe' k',loopM (lontarlaw20_All_L6 FU64) g (pol,(0:Nat),o2,ts,n,kk,out,(out.length:Int),(j:Int),q1,q2,q3,[xe],(0:Nat),pol,y.1.1,y.1.2.1,y.1.2.2.1,y.1.2.2.2,t.1,t.2.1,t.2.2.1,t.2.2.2)=some (mR pol ts n kk q1 q2 q3 t (putsX pol y (out.drop j)) xe')∧RX k' (tkY pol t (putsX pol y (out.drop j))) xe'∧k'≤k+m:=by
 intro m
 induction m with
 | zero=>
  intro j g k y xe hj hg hr hz hk hb
  obtain ⟨g,rfl⟩:∃q,g=q+1:=⟨g - 1,by omega⟩
  rw [List.drop_eq_nil_of_le (by omega),loopM_succ]
  obtain ⟨xe',e1,e2⟩:=mtail_eq (ts:=ts) (n:=n) (kk:=kk) (q1:=q1) (q2:=q2) (q3:=q3) (pol:=pol) t hr hz (by omega) (by omega)
  refine ⟨xe',k,?_,e2,by omega⟩
  have e0:lontarlaw20_All_L6 FU64 (pol,(0:Nat),o2,ts,n,kk,out,(out.length:Int),(j:Int),q1,q2,q3,[xe],(0:Nat),pol,y.1.1,y.1.2.1,y.1.2.2.1,y.1.2.2.2,t.1,t.2.1,t.2.2.1,t.2.2.2)=Option.map Sum.inr (mTail pol ts n kk q1 q2 q3 [xe] y.1 t):=by
   unfold lontarlaw20_All_L6
   dsimp only
   rw [decide_eq_false (by omega),cond_false]
   rfl
  rw [e0,e1]
  rfl
 | succ m ih=>
  intro j g k y xe hj hg hr hz hk hb
  obtain ⟨g,rfl⟩:∃q,g=q+1:=⟨g - 1,by omega⟩
  have hjl:j<out.length:=by omega
  obtain ⟨xe1,k1,e1,e2,e3,e4⟩:=mput (pol:=pol) hr (by omega) (by omega) out[j]
  obtain ⟨xe',k',i1,i2,i3⟩:=ih (j+1) g k1 (putX pol y out[j]) xe1 (by omega) (by omega) e2 (putX_blk hz _) (by omega) (by omega)
  refine ⟨xe',k',?_,?_,by omega⟩
  ·rw [List.drop_eq_getElem_cons hjl]
   show _=some (mR pol ts n kk q1 q2 q3 t (putsX pol (putX pol y out[j]) (out.drop (j+1))) xe')
   rw [←i1,loopM_succ]
   have step:lontarlaw20_All_L6 FU64 (pol,(0:Nat),o2,ts,n,kk,out,(out.length:Int),(j:Int),q1,q2,q3,[xe],(0:Nat),pol,y.1.1,y.1.2.1,y.1.2.2.1,y.1.2.2.2,t.1,t.2.1,t.2.2.1,t.2.2.2)=some (.inl (pol,(0:Nat),o2,ts,n,kk,out,(out.length:Int),((j+1:Nat):Int),q1,q2,q3,[xe1],(0:Nat),pol,(putX pol y out[j]).1.1,(putX pol y out[j]).1.2.1,(putX pol y out[j]).1.2.2.1,(putX pol y out[j]).1.2.2.2,t.1,t.2.1,t.2.2.1,t.2.2.2)):=by
    unfold lontarlaw20_All_L6
    dsimp only
    rw [decide_eq_true (by omega),cond_true,nthI_get hjl,bind_some',w64_succ hjl (by omega)]
    by_cases h0:y.1.2.2.2=0
    ·obtain ⟨z1,z2⟩:=e1 h0
     rw [beq_t h0,cond_true,List.getElem?_cons_zero,bind_some',z1,bind_some',show List.set [xe] 0 xe1=[xe1] from rfl]
     have h0':=z2
     rw [h0',bind_some']
     rfl
    ·rw [beq_f h0,cond_false]
     have:putX pol y out[j]=y:=if_neg h0
     rw [this]
     have hx:xe1=xe:=e4 h0
     rw [hx]
   rw [step]
  ·rw [List.drop_eq_getElem_cons hjl]
   exact i2
theorem m_L7 {ts:List Tok} (hn:ts.length≤100000) (hf:fewO ts) {pol q1 q2 q3:Int}:∀(m j g k:Nat) (y:WS×PE) (xe:ESt),j+m=ts.length→m<g→RX k y xe→blk y.1→y.1.2.2.2=0→k+8*m+10≤900000000→y.1.1.length+400*m+400≤900000000→
  loopM (lontarlaw20_All_L7 FU64) g (mst pol ts (ts.length:Int) (j:Int) q1 q2 q3 [xe] y.1)=some (finX pol (takeTs pol y (ts.drop j))):=by
 intro m
 induction m with
 | zero=>
  intro j g k y xe hj hg hr hz h0 hk hb
  obtain ⟨g,rfl⟩:∃q,g=q+1:=⟨g - 1,by omega⟩
  rw [List.drop_eq_nil_of_le (by omega),loopM_succ]
  obtain ⟨xe',e1,e2⟩:=encEnd_eq hr.ok hr.rep (by omega)
  obtain ⟨p1,p2,p3,p4⟩:=PE.fin_ok hr.ok
  have h4:=PE.held3 hr.ok
  have hm:=mtok_eq (ts:=y.2.fin.1) (by omega) p3 (pol:=pol) (x:=y.1) (by omega) (E:=[xe'])
  have e0:lontarlaw20_All_L7 FU64 (mst pol ts (ts.length:Int) (j:Int) q1 q2 q3 [xe] y.1)=some (.inr (wrTs pol y.1 y.2.fin.1)):=by
   unfold lontarlaw20_All_L7 mst
   dsimp only
   rw [decide_eq_false (by omega),cond_false,List.getElem?_cons_zero,bind_some',e1,bind_some',show List.set [xe] 0 xe'=[xe'] from rfl,hm,bind_some']
   rfl
  rw [e0]
  show some (wrTs pol y.1 y.2.fin.1)=some (finX pol y)
  unfold finX
  rw [if_pos h0]
 | succ m ih=>
  intro j g k y xe hj hg hr hz h0 hk hb
  obtain ⟨g,rfl⟩:∃q,g=q+1:=⟨g - 1,by omega⟩
  have hjl:j<ts.length:=by omega
  have h8:=hf ts[j] (List.getElem_mem hjl)
  obtain ⟨_,_,_,t3,_⟩:=takeT_ok (pol:=pol) hr.ok h8
  have step:∃xe' k',lontarlaw20_All_L7 FU64 (mst pol ts (ts.length:Int) (j:Int) q1 q2 q3 [xe] y.1)=some (mR pol ts (ts.length:Int) (j:Int) q1 q2 q3 ts[j] (putsX pol y (tkO pol ts[j])) xe')∧RX k' (takeT pol y ts[j]) xe'∧k'≤k+8:=by
   unfold lontarlaw20_All_L7 mst
   dsimp only
   rw [decide_eq_true (by omega),cond_true,nthI_get hjl,bind_some',Int.toNat_natCast,List.getElem?_eq_getElem hjl,bind_some']
   by_cases he:ts[j].2.2.2=0
   ·have hO:tkO pol ts[j]=ts[j].2.2.1:=by unfold tkO;rw [if_neg (by simp [he])]
    obtain ⟨xe',k',i1,i2,i3⟩:=m_L6 (pol:=pol) (ts:=ts) (n:=(ts.length:Int)) (kk:=(j:Int)) (q1:=q1) (q2:=q2) (q3:=q3) (out:=ts[j].2.2.1) (o2:=ts[j].2.2.1) h8 ts[j] ts[j].2.2.1.length 0 FU64 k y xe (Nat.zero_add _) (by unfold FU64;omega) hr hz (by omega) (by omega)
    rw [List.drop_zero] at i1 i2
    rw [bne_eq_false_iff_eq.2 he,cond_false,hO]
    exact ⟨xe',k',i1,by unfold takeT;rw [hO];exact i2,by omega⟩
   ·rw [bne_iff_ne.2 he,cond_true]
    by_cases hp:pol=1
    ·have hO:tkO pol ts[j]=[65533]:=by unfold tkO;rw [if_pos he,if_pos hp]
     obtain ⟨xe',k',i1,i2,i3⟩:=m_L5 (pol:=pol) (ts:=ts) (n:=(ts.length:Int)) (kk:=(j:Int)) (q1:=q1) (q2:=q2) (q3:=q3) (out:=[65533]) (by simp) ts[j] 1 0 FU64 k y xe rfl (by unfold FU64;omega) hr hz (by omega) (by omega)
     rw [List.drop_zero] at i1 i2
     rw [beq_t hp,cond_true,hO]
     exact ⟨xe',k',i1,by unfold takeT;rw [hO];exact i2,by omega⟩
    ·have hO:tkO pol ts[j]=[]:=by unfold tkO;rw [if_pos he,if_neg hp]
     obtain ⟨xe',k',i1,i2,i3⟩:=m_L6 (pol:=pol) (ts:=ts) (n:=(ts.length:Int)) (kk:=(j:Int)) (q1:=q1) (q2:=q2) (q3:=q3) (out:=[]) (o2:=[]) (by simp) ts[j] 0 0 FU64 k y xe rfl (by unfold FU64;omega) hr hz (by omega) (by omega)
     rw [List.drop_zero] at i1 i2
     rw [beq_f hp,cond_false,hO]
     exact ⟨xe',k',i1,by unfold takeT;rw [hO];exact i2,by omega⟩
  obtain ⟨xe',k',e1,e2,e3⟩:=step
  rw [List.drop_eq_getElem_cons hjl,loopM_succ,e1]
  show _=some (finX pol (takeTs pol (takeT pol y ts[j]) (ts.drop (j+1))))
  have hb':tkY pol ts[j] (putsX pol y (tkO pol ts[j]))=takeT pol y ts[j]:=rfl
  unfold mR
  rw [hb']
  by_cases hz0:(takeT pol y ts[j]).1.2.2.2=0
  ·have hbl:blk (takeT pol y ts[j]).1:=by
    rw [←hb'] at hz0 ⊢
    unfold tkY at hz0 ⊢
    split
    ·rename_i hw
     rw [if_pos hw] at hz0
     exact absurd hz0 (lastX_er hw.1)
    ·exact putsX_blk _ hz
   rw [if_pos hz0,w64_succ hjl (by omega)]
   exact ih (j+1) g k' (takeT pol y ts[j]) xe' (by omega) (by omega) e2 hbl hz0 (by omega) (by omega)
  ·rw [if_neg hz0,takeTs_fault hz0]
   unfold finX
   rw [if_neg hz0]
theorem m_L8 {ts:List Tok} (hn:ts.length≤100000) (hf:fewO ts) {pol q1 q2 q3:Int}:∀(m j g k:Nat) (y:WS×PE) (xe:ESt),j+m=ts.length→m<g→RX k y xe→blk y.1→y.1.2.2.2=0→k+8*m+10≤900000000→y.1.1.length+400*m+400≤900000000→
  loopM (lontarlaw20_All_L8 FU64) g (mst pol ts (ts.length:Int) (j:Int) q1 q2 q3 [xe] y.1)=some (finX pol (takeTs pol y (ts.drop j))):=by
 intro m
 induction m with
 | zero=>
  intro j g k y xe hj hg hr hz h0 hk hb
  obtain ⟨g,rfl⟩:∃q,g=q+1:=⟨g - 1,by omega⟩
  rw [List.drop_eq_nil_of_le (by omega),loopM_succ]
  obtain ⟨xe',e1,e2⟩:=encEnd_eq hr.ok hr.rep (by omega)
  obtain ⟨p1,p2,p3,p4⟩:=PE.fin_ok hr.ok
  have h4:=PE.held3 hr.ok
  have hm:=mtok_eq (ts:=y.2.fin.1) (by omega) p3 (pol:=pol) (x:=y.1) (by omega) (E:=[xe'])
  have e0:lontarlaw20_All_L8 FU64 (mst pol ts (ts.length:Int) (j:Int) q1 q2 q3 [xe] y.1)=some (.inr (wrTs pol y.1 y.2.fin.1)):=by
   unfold lontarlaw20_All_L8 mst
   dsimp only
   rw [decide_eq_false (by omega),cond_false,List.getElem?_cons_zero,bind_some',e1,bind_some',show List.set [xe] 0 xe'=[xe'] from rfl,hm,bind_some']
   rfl
  rw [e0]
  show some (wrTs pol y.1 y.2.fin.1)=some (finX pol y)
  unfold finX
  rw [if_pos h0]
 | succ m ih=>
  intro j g k y xe hj hg hr hz h0 hk hb
  obtain ⟨g,rfl⟩:∃q,g=q+1:=⟨g - 1,by omega⟩
  have hjl:j<ts.length:=by omega
  have h8:=hf ts[j] (List.getElem_mem hjl)
  obtain ⟨_,_,_,t3,_⟩:=takeT_ok (pol:=pol) hr.ok h8
  have step:∃xe' k',lontarlaw20_All_L8 FU64 (mst pol ts (ts.length:Int) (j:Int) q1 q2 q3 [xe] y.1)=some (mR pol ts (ts.length:Int) (j:Int) q1 q2 q3 ts[j] (putsX pol y (tkO pol ts[j])) xe')∧RX k' (takeT pol y ts[j]) xe'∧k'≤k+8:=by
   unfold lontarlaw20_All_L8 mst
   dsimp only
   rw [decide_eq_true (by omega),cond_true,nthI_get hjl,bind_some']
   by_cases he:ts[j].2.2.2=0
   ·have hO:tkO pol ts[j]=ts[j].2.2.1:=by unfold tkO;rw [if_neg (by simp [he])]
    obtain ⟨xe',k',i1,i2,i3⟩:=m_L6 (pol:=pol) (ts:=ts) (n:=(ts.length:Int)) (kk:=(j:Int)) (q1:=q1) (q2:=q2) (q3:=q3) (out:=ts[j].2.2.1) (o2:=ts[j].2.2.1) h8 ts[j] ts[j].2.2.1.length 0 FU64 k y xe (Nat.zero_add _) (by unfold FU64;omega) hr hz (by omega) (by omega)
    rw [List.drop_zero] at i1 i2
    rw [bne_eq_false_iff_eq.2 he,cond_false,hO]
    exact ⟨xe',k',i1,by unfold takeT;rw [hO];exact i2,by omega⟩
   ·rw [bne_iff_ne.2 he,cond_true]
    by_cases hp:pol=1
    ·have hO:tkO pol ts[j]=[65533]:=by unfold tkO;rw [if_pos he,if_pos hp]
     obtain ⟨xe',k',i1,i2,i3⟩:=m_L5 (pol:=pol) (ts:=ts) (n:=(ts.length:Int)) (kk:=(j:Int)) (q1:=q1) (q2:=q2) (q3:=q3) (out:=[65533]) (by simp) ts[j] 1 0 FU64 k y xe rfl (by unfold FU64;omega) hr hz (by omega) (by omega)
     rw [List.drop_zero] at i1 i2
     rw [beq_t hp,cond_true,hO]
     exact ⟨xe',k',i1,by unfold takeT;rw [hO];exact i2,by omega⟩
    ·have hO:tkO pol ts[j]=[]:=by unfold tkO;rw [if_pos he,if_neg hp]
     obtain ⟨xe',k',i1,i2,i3⟩:=m_L6 (pol:=pol) (ts:=ts) (n:=(ts.length:Int)) (kk:=(j:Int)) (q1:=q1) (q2:=q2) (q3:=q3) (out:=[]) (o2:=[]) (by simp) ts[j] 0 0 FU64 k y xe rfl (by unfold FU64;omega) hr hz (by omega) (by omega)
     rw [List.drop_zero] at i1 i2
     rw [beq_f hp,cond_false,hO]
     exact ⟨xe',k',i1,by unfold takeT;rw [hO];exact i2,by omega⟩
  obtain ⟨xe',k',e1,e2,e3⟩:=step
  rw [List.drop_eq_getElem_cons hjl,loopM_succ,e1]
  show _=some (finX pol (takeTs pol (takeT pol y ts[j]) (ts.drop (j+1))))
  have hb':tkY pol ts[j] (putsX pol y (tkO pol ts[j]))=takeT pol y ts[j]:=rfl
  unfold mR
  rw [hb']
  by_cases hz0:(takeT pol y ts[j]).1.2.2.2=0
  ·have hbl:blk (takeT pol y ts[j]).1:=by
    rw [←hb'] at hz0 ⊢
    unfold tkY at hz0 ⊢
    split
    ·rename_i hw
     rw [if_pos hw] at hz0
     exact absurd hz0 (lastX_er hw.1)
    ·exact putsX_blk _ hz
   rw [if_pos hz0,w64_succ hjl (by omega)]
   exact ih (j+1) g k' (takeT pol y ts[j]) xe' (by omega) (by omega) e2 hbl hz0 (by omega) (by omega)
  ·rw [if_neg hz0,takeTs_fault hz0]
   unfold finX
   rw [if_neg hz0]
theorem m_L9 {n m:Nat} (hn:n<8) {us:List Int} (h8:isU8 us) (hu:us.length≤1000) {pol q1 q2 q3:Int} {us2:List Int} {xe:ESt} (r2:(PE.init m).Rep 0 xe) :
  loopM (lontarlaw20_All_L9 FU64) FU64 (pol,us2,(n:Int),(0:Nat),([]:List Int),us,(us.length:Int),(0:Int),q1,q2,q3,[xe],(0:Nat),pol,([]:List Int),(0:Int),(0:Int),(0:Int))=some (allX pol n m us):=by
 obtain ⟨s,e1,e2⟩:=decode19_eq hn hu
 obtain ⟨f1,f2⟩:=PD.all_few (us:=us) (PD.init_ok n).1
 rw [(PD.init_ok n).2] at f2
 have hend:lontarlaw20_All_L9 FU64 (pol,us2,(n:Int),(0:Nat),us,us,(us.length:Int),(us.length:Int),q1,q2,q3,[xe],(0:Nat),pol,([]:List Int),(0:Int),(0:Int),(0:Int))=some (.inr (allX pol n m us)):=by
  unfold lontarlaw20_All_L9
  dsimp only
  rw [decide_eq_false (by omega),cond_false,e1,bind_some']
  cases s with
  | inl y=>
   have e2:y=(PD.init n).all us:=e2
   subst e2
   have:=m_L7 (ts:=(PD.init n).all us) (by omega) f1 (pol:=pol) (q1:=q1) (q2:=q2) (q3:=q3) ((PD.init n).all us).length 0 FU64 0 (x0,PE.init m) xe (Nat.zero_add _) (by unfold FU64;omega) ⟨(PE.init_ok m).1,r2⟩ (fun _=>rfl) rfl (by omega) (by show 0+400*((PD.init n).all us).length+400≤900000000;omega)
   rw [List.drop_zero] at this
   exact congrArg (Option.map Sum.inr) this
  | inr y=>
   have e2:y=(PD.init n).all us:=e2
   subst e2
   have:=m_L8 (ts:=(PD.init n).all us) (by omega) f1 (pol:=pol) (q1:=q1) (q2:=q2) (q3:=q3) ((PD.init n).all us).length 0 FU64 0 (x0,PE.init m) xe (Nat.zero_add _) (by unfold FU64;omega) ⟨(PE.init_ok m).1,r2⟩ (fun _=>rfl) rfl (by omega) (by show 0+400*((PD.init n).all us).length+400≤900000000;omega)
   rw [List.drop_zero] at this
   exact congrArg (Option.map Sum.inr) this
 have:=loop_st (f:=lontarlaw20_All_L9 FU64) (fun k=>(pol,us2,(n:Int),(0:Nat),us.take k,us,(us.length:Int),(k:Int),q1,q2,q3,[xe],(0:Nat),pol,([]:List Int),(0:Int),(0:Int),(0:Int))) (m:=us.length) (fu:=FU64) (r:=allX pol n m us) (fun k hk=>by
   unfold lontarlaw20_All_L9
   dsimp only
   have hx:=h8 us[k] (List.getElem_mem hk)
   rw [decide_eq_true (by omega),cond_true,nthI_get hk,bind_some',fit8 (show (us.take k).length≤1000000 by simp;omega) (show [w64 us[k]].length≤1000000 by simp),cond_true,w64_id (n:=us[k]) (by omega) (by omega),w64_succ hk (by omega),List.take_succ_eq_append_getElem hk]) (by rw [List.take_length];exact hend) (by unfold FU64;omega)
 exact this
theorem mall_eq {n m:Nat} (hn:n<8) (hm:m<8) {pol:Int} {us:List Int} (h8:isU8 us) (hu:us.length≤1000):lontarlaw20_All FU64 (nameN n,nameN m,pol,us)=some (allX pol n m us):=by
 obtain ⟨xe,e1,r2⟩:=enc_any hm (name_is hm)
 unfold lontarlaw20_All
 dsimp only
 rw [names_eq,bind_some']
 have:=loop_st (f:=lontarlaw20_All_L10 FU64) (fun k=>(nameN n,nameN m,pol,us,(if n<k then (n:Int) else 0),[utfN,ascN,visN,tcvN,vniN,tisN,tscN,iscN],(8:Int),(k:Int),(0:Int),(0:Int),(0:Int))) (m:=8) (fu:=FU64) (r:=allX pol n m us) (fun k hk=>by
   unfold lontarlaw20_All_L10
   dsimp only
   rw [decide_eq_true (by omega),cond_true,nth_name hk,bind_some',get_name hk,bind_some',eqS_name hk hn,w64_id (n:=(k:Int)+1) (by omega) (by omega)]
   by_cases hkn:k=n
   ·subst hkn
    rw [decide_eq_true rfl,cond_true,if_pos (Nat.lt_succ_self _)]
    rfl
   ·rw [decide_eq_false hkn,cond_false]
    by_cases h2:n<k
    ·rw [if_pos h2,if_pos (by omega)];rfl
    ·rw [if_neg h2,if_neg (by omega)];rfl) (by
   unfold lontarlaw20_All_L10
   dsimp only
   rw [decide_eq_false (by omega),cond_false,e1,bind_some',if_pos hn]
   exact congrArg (Option.map Sum.inr) (m_L9 hn h8 hu r2)) (by unfold FU64;omega)
 rw [if_neg (by omega)] at this
 exact this
theorem all_true {v t:Int} {l b:List Int} (hv:0≤v∧v<256) (hl:isU8 l) (hb:isU8 b):lontarlaw20_StreamAll FU64 (v,l,b,t)=some true:=by
 obtain ⟨n,m,p,hn,hm,hp,e1⟩:=names20_eq hv
 obtain ⟨s,e2,h8,hy⟩:=text20_eq hn hl hb (t:=t)
 unfold lontarlaw20_StreamAll
 dsimp only
 rw [awake20,bind_some',Bool.not_true,cond_false,e1,bind_some']
 dsimp only
 rw [e2,bind_some']
 have key:∀y:List Int,isU8 y→y.length≤200→(((stream_All FU64 (nameN n,nameN m,p,y))).bind fun y4=>
    ((lontarlaw20_All FU64 (nameN n,nameN m,p,y))).bind fun y5=>
    bif (y4.2.2.2.2 == (0:Int)) then
     bif (eqS (ByteArray.mk (List.toArray (List.map (fun n=>(UInt8.ofNat (Int.toNat n))) y4.1))) (ByteArray.mk (List.toArray (List.map (fun n=>(UInt8.ofNat (Int.toNat n))) y5.1)))) then
      some ((eqI y4.2.1 y5.2.1) && ((eqI y4.2.2.1 y5.2.2.1) && ((eqI y4.2.2.2.1 y5.2.2.2) && true)))
     else
      some false
    else
     some false)=some true:=fun y h8 hy=>by
  refine bind_to (sall_eq hn hm (name_is hn) (name_is hm) hp h8 (by omega)) ?_
  refine bind_to (mall_eq hn hm h8 (by omega)) ?_
  dsimp only
  rw [show ((0:Int) == 0)=true from rfl,cond_true,eqS_mk2 _ _ rfl,cond_true]
  have:∀a:Int,eqI a a=true:=fun a=>decide_eq_true rfl
  rw [this,this,this]
  rfl
 cases s with
 | inl y=>exact key y h8 hy
 | inr y=>exact key y h8 hy
theorem all_law (a0:(Sh.int .u8).den) (a1:(Sh.sl (.int .u8)).den) (a2:(Sh.sl (.int .u8)).den) (a3:(Sh.int .u8).den) (w0:wfD (.int .u8) a0) (w1:wfD (.sl (.int .u8)) a1) (w2:wfD (.sl (.int .u8)) a2) (_:wfD (.int .u8) a3):lontarlaw20_StreamAll FU64 (a0,a1,a2,a3)=some true:=all_true (u8_of w0) (isU8_of w1) (isU8_of w2)
end Go.AM.M
