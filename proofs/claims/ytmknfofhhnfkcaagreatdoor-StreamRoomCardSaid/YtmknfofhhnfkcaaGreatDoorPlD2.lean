/- Plain laws of the models. -/
import Derived.Test.YtmknfofhhnfkcaaGreatDoorPlD1
set_option linter.all false
namespace Go.AM.M
open Go.AM
def payE (r:Nat) (x:WS):Int:=if 0<(x.1.drop r).length then 4 else x.2.2.2
def payC (r:Nat) (x:WS) (en cl:Bool):Bool:=if 0<(x.1.drop r).length then cl else if x.2.2.2≠0∨en=true then true else cl
theorem pay_eq {a b:ByteArray} {pol:Int} {x:WS} {en cl:Bool} {D:LDS} {E:LES} {r:Nat} (hx:x.1.length≤1000000000) :
  stream_Stream_pay FU64 ((r:Int),mkS a b pol x en cl D E)=some (x.1.take r,(payE r x,mkS a b pol (x.1.drop r,x.2) en (payC r x en cl) D E)):=by
 unfold stream_Stream_pay mkS
 dsimp only
 obtain ⟨m,e1,e2,e3⟩:∃m:Nat,(if (x.1.length:Int)<(r:Int) then (x.1.length:Int) else (r:Int))=(m:Int)∧m≤x.1.length∧(m=r∨(m=x.1.length∧x.1.length<r)):=by
  by_cases h:(x.1.length:Int)<(r:Int)
  ·exact ⟨x.1.length,by rw [if_pos h],Nat.le_refl _,.inr ⟨rfl,by omega⟩⟩
  ·exact ⟨r,by rw [if_neg h],by omega,.inl rfl⟩
 have t1:x.1.take m=x.1.take r∧x.1.drop m=x.1.drop r:=by
  rcases e3 with rfl | ⟨rfl,h⟩
  ·exact ⟨rfl,rfl⟩
  ·exact ⟨by rw [List.take_length,List.take_of_length_le (by omega)],by rw [List.drop_length,List.drop_eq_nil_of_le (by omega)]⟩
 have f1:decide ((x.1.take r).length*1≤2 ^ 46)=true:=by rw [decide_eq_true_eq,List.length_take];omega
 have f2:decide ((x.1.drop r).length*1≤2 ^ 46)=true:=by rw [decide_eq_true_eq,List.length_drop];omega
 rw [e1,sliceI_to e2,bind_some',sliceI_from e2,t1.1,t1.2,f1,cond_true,bind_some',f2,cond_true]
 unfold payE payC
 by_cases h:0<(x.1.drop r).length
 ·rw [decide_eq_true (show (((x.1.drop r).length:Nat):Int)>0 by omega),cond_true,if_pos h,if_pos h]
 ·rw [decide_eq_false (show ¬(((x.1.drop r).length:Nat):Int)>0 by omega),cond_false,if_neg h,if_neg h]
  by_cases h2:x.2.2.2=0
  ·rw [bne_eq_false_iff_eq.2 h2,cond_false]
   cases en with
   | true=>rw [cond_true,if_pos (.inr rfl),h2]
   | false=>rw [cond_false,if_neg (by simp [h2]),h2]
  ·rw [bne_iff_ne.2 h2,cond_true,if_pos (.inl h2)]
def feedG (pol:Int) (r:Nat):List Int→PD→WS×PE→Nat×(PD×(WS×PE))
 | [],d,y=>(0,(d,y))
 | c :: b,d,y=>if y.1.1.length<r∧y.1.2.2.2=0 then ((feedG pol r b (d.put c).2 (takeTs pol y (d.put c).1)).1+1,(feedG pol r b (d.put c).2 (takeTs pol y (d.put c).1)).2) else (0,(d,y))
theorem feed_L0 {us:List Int} (h8:isU8 us) (hn:us.length≤100000) {a b:ByteArray} {pol:Int} {r:Nat}:∀(m j g kd ke:Nat) (d:PD) (y:WS×PE) (xd:DSt) (xe:ESt),j+m=us.length→m<g→d.Ok kd→d.Rep xd→RX ke y xe→kd+m≤100000000→ke+32*m+100≤900000000→y.1.1.length+1400*m+5000≤900000000→
  ∃xd' xe' kd' ke',loopM (stream_Stream_Feed_L0 FU64) g (us,((r:Int),((j:Int),mkS a b pol y.1 false false [xd] [xe]))) =
   some ((feedG pol r (us.drop j) d y).2.2.1.1.take r,(((j+(feedG pol r (us.drop j) d y).1:Nat):Int),(payE r (feedG pol r (us.drop j) d y).2.2.1,mkS a b pol ((feedG pol r (us.drop j) d y).2.2.1.1.drop r,(feedG pol r (us.drop j) d y).2.2.1.2) false (payC r (feedG pol r (us.drop j) d y).2.2.1 false false) [xd'] [xe'])))
   ∧(feedG pol r (us.drop j) d y).2.1.Ok kd'∧(feedG pol r (us.drop j) d y).2.1.Rep xd'∧RX ke' (feedG pol r (us.drop j) d y).2.2 xe'∧kd'≤kd+m∧ke'≤ke+32*m∧(feedG pol r (us.drop j) d y).2.2.1.1.length≤y.1.1.length+1400*m∧(feedG pol r (us.drop j) d y).1≤m:=by
 intro m
 induction m with
 | zero=>
  intro j g kd ke d y xd xe hj hg hd hrd hr hk1 hk2 hb
  obtain ⟨g,rfl⟩:∃q,g=q+1:=⟨g - 1,by omega⟩
  rw [List.drop_eq_nil_of_le (by omega),loopM_succ]
  refine ⟨xd,xe,kd,ke,?_,hd,hrd,hr,by omega,by omega,by simp [feedG],by simp [feedG]⟩
  have hp:=pay_eq (a:=a) (b:=b) (pol:=pol) (x:=y.1) (en:=false) (cl:=false) (D:=[xd]) (E:=[xe]) (r:=r) (by omega)
  unfold stream_Stream_Feed_L0
  rw [show mkS a b pol y.1 false false [xd] [xe]=(a,(b,(pol,((0:Nat),((0:Nat),(y.1.1,(y.1.2.1,(y.1.2.2.1,(y.1.2.2.2,(false,(false,([xd],[xe])))))))))))) from rfl]
  rw [show mkS a b pol y.1 false false [xd] [xe]=(a,(b,(pol,((0:Nat),((0:Nat),(y.1.1,(y.1.2.1,(y.1.2.2.1,(y.1.2.2.2,(false,(false,([xd],[xe])))))))))))) from rfl] at hp
  dsimp only
  rw [decide_eq_false (by omega),cond_false,hp,bind_some']
  try rfl
 | succ m ih=>
  intro j g kd ke d y xd xe hj hg hd hrd hr hk1 hk2 hb
  obtain ⟨g,rfl⟩:∃q,g=q+1:=⟨g - 1,by omega⟩
  have hjl:j<us.length:=by omega
  have hx:=h8 us[j] (List.getElem_mem hjl)
  rw [List.drop_eq_getElem_cons hjl,loopM_succ]
  by_cases hc:y.1.1.length<r∧y.1.2.2.2=0
  ·have hg':feedG pol r (us[j] :: us.drop (j+1)) d y=((feedG pol r (us.drop (j+1)) (d.put us[j]).2 (takeTs pol y (d.put us[j]).1)).1+1,(feedG pol r (us.drop (j+1)) (d.put us[j]).2 (takeTs pol y (d.put us[j]).1)).2):=if_pos hc
   rw [hg']
   obtain ⟨xd',e1,e2⟩:=decPut_eq hd hrd (by omega) us[j]
   obtain ⟨f1,f2⟩:=PD.put_few hd us[j]
   have h3:=PD.held3 hd
   obtain ⟨xe',k',e3,e4,e5⟩:=taken_eq f1 (a:=a) (b:=b) (pol:=pol) (en:=false) (cl:=false) (D:=[xd']) (by omega) hr (by omega) (by omega)
   obtain ⟨_,_,_,t3,_⟩:=takeTs_ok (pol:=pol) (d.put us[j]).1 hr.ok f1
   have hl4:(d.put us[j]).1.length≤4:=by omega
   have e0:stream_Stream_Feed_L0 FU64 (us,((r:Int),((j:Int),mkS a b pol y.1 false false [xd] [xe])))=some (.inl (us,((r:Int),(((j+1:Nat):Int),mkS a b pol (takeTs pol y (d.put us[j]).1).1 false false [xd'] [xe'])))):=by
    unfold stream_Stream_Feed_L0
    rw [show mkS a b pol y.1 false false [xd] [xe]=(a,(b,(pol,((0:Nat),((0:Nat),(y.1.1,(y.1.2.1,(y.1.2.2.1,(y.1.2.2.2,(false,(false,([xd],[xe])))))))))))) from rfl]
    dsimp only
    rw [decide_eq_true (by omega),cond_true,decide_eq_true (show (y.1.1.length:Int)<(r:Int) by omega),cond_true,beq_t hc.2,cond_true,nthI_get hjl,bind_some',List.getElem?_cons_zero,bind_some',w64_id (n:=us[j]) (by omega) (by omega),e1,bind_some']
    have e3':stream_Stream_taken FU64 ((d.put us[j]).1,(a,(b,(pol,((0:Nat),((0:Nat),(y.1.1,(y.1.2.1,(y.1.2.2.1,(y.1.2.2.2,(false,(false,(List.set [xd] 0 xd',[xe])))))))))))))=_:=e3
    rw [e3',bind_some',w64_succ hjl (by omega)]
    try rfl
   rw [e0]
   obtain ⟨xd2,xe2,kd2,ke2,i1,i2,i3,i4,i5,i6,i7,i8⟩:=ih (j+1) g (kd+1) k' (d.put us[j]).2 (takeTs pol y (d.put us[j]).1) xd' xe' (by omega) (by omega) (PD.put_ok hd us[j]) e2 e4 (by omega) (by omega) (by omega)
   refine ⟨xd2,xe2,kd2,ke2,?_,i2,i3,i4,by omega,by omega,by dsimp only;omega,by dsimp only;omega⟩
   dsimp only
   rw [i1]
   congr 4
   omega
  ·have hg':feedG pol r (us[j] :: us.drop (j+1)) d y=(0,(d,y)):=if_neg hc
   rw [hg']
   refine ⟨xd,xe,kd,ke,?_,hd,hrd,hr,by omega,by omega,by simp,by simp⟩
   have hp:=pay_eq (a:=a) (b:=b) (pol:=pol) (x:=y.1) (en:=false) (cl:=false) (D:=[xd]) (E:=[xe]) (r:=r) (by omega)
   have e0:stream_Stream_Feed_L0 FU64 (us,((r:Int),((j:Int),mkS a b pol y.1 false false [xd] [xe])))=some (.inr (y.1.1.take r,((j:Int),(payE r y.1,mkS a b pol (y.1.1.drop r,y.1.2) false (payC r y.1 false false) [xd] [xe])))):=by
    unfold stream_Stream_Feed_L0
    rw [show mkS a b pol y.1 false false [xd] [xe]=(a,(b,(pol,((0:Nat),((0:Nat),(y.1.1,(y.1.2.1,(y.1.2.2.1,(y.1.2.2.2,(false,(false,([xd],[xe])))))))))))) from rfl]
    rw [show mkS a b pol y.1 false false [xd] [xe]=(a,(b,(pol,((0:Nat),((0:Nat),(y.1.1,(y.1.2.1,(y.1.2.2.1,(y.1.2.2.2,(false,(false,([xd],[xe])))))))))))) from rfl] at hp
    dsimp only
    rw [decide_eq_true (by omega),cond_true]
    by_cases h1:y.1.1.length<r
    ·rw [decide_eq_true (show (y.1.1.length:Int)<(r:Int) by omega),cond_true,beq_f (fun h=>hc ⟨h1,h⟩),cond_false,hp,bind_some']
     rfl
    ·rw [decide_eq_false (show ¬(y.1.1.length:Int)<(r:Int) by omega),cond_false,hp,bind_some']
     rfl
   rw [e0]
   rfl
theorem feed_eq {us:List Int} (h8:isU8 us) (hn:us.length≤100000) {a b:ByteArray} {pol:Int} {r:Nat} (hr16:16≤r) {kd ke:Nat} {d:PD} {y:WS×PE} {xd:DSt} {xe:ESt} (hd:d.Ok kd) (hrd:d.Rep xd) (hr:RX ke y xe) (hk1:kd+us.length≤100000000) (hk2:ke+32*us.length+100≤900000000) (hb:y.1.1.length+1400*us.length+5000≤900000000) :
  ∃xd' xe' kd' ke',stream_Stream_Feed FU64 (us,((r:Int),mkS a b pol y.1 false false [xd] [xe])) =
   some ((feedG pol r us d y).2.2.1.1.take r,((((feedG pol r us d y).1:Nat):Int),(payE r (feedG pol r us d y).2.2.1,mkS a b pol ((feedG pol r us d y).2.2.1.1.drop r,(feedG pol r us d y).2.2.1.2) false (payC r (feedG pol r us d y).2.2.1 false false) [xd'] [xe'])))
   ∧(feedG pol r us d y).2.1.Ok kd'∧(feedG pol r us d y).2.1.Rep xd'∧RX ke' (feedG pol r us d y).2.2 xe'∧kd'≤kd+us.length∧ke'≤ke+32*us.length∧(feedG pol r us d y).2.2.1.1.length≤y.1.1.length+1400*us.length∧(feedG pol r us d y).1≤us.length:=by
 obtain ⟨xd',xe',kd',ke',i1,i2⟩:=feed_L0 h8 hn (a:=a) (b:=b) (pol:=pol) (r:=r) us.length 0 FU64 kd ke d y xd xe (Nat.zero_add _) (by unfold FU64;omega) hd hrd hr hk1 hk2 hb
 rw [List.drop_zero,Nat.zero_add] at i1
 rw [List.drop_zero] at i2
 refine ⟨xd',xe',kd',ke',?_,i2⟩
 rw [←i1]
 unfold stream_Stream_Feed
 rw [show mkS a b pol y.1 false false [xd] [xe]=(a,(b,(pol,((0:Nat),((0:Nat),(y.1.1,(y.1.2.1,(y.1.2.2.1,(y.1.2.2.2,(false,(false,([xd],[xe])))))))))))) from rfl]
 dsimp only
 rw [cond_false,cond_false,decide_eq_false (by omega),cond_false]
 rfl
theorem feed_shut {us:List Int} {a b:ByteArray} {pol room:Int} {x:WS} {en cl:Bool} {D:LDS} {E:LES} (h:en=true∨cl=true) :
  stream_Stream_Feed FU64 (us,(room,mkS a b pol x en cl D E))=some ([],(0,(5,mkS a b pol x en cl D E))):=by
 unfold stream_Stream_Feed mkS
 dsimp only
 cases cl with
 | true=>rw [cond_true]
 | false=>
  have:en=true:=by simpa using h
  subst this
  rw [cond_false,cond_true]
theorem feed_small {us:List Int} {a b:ByteArray} {pol room:Int} {x:WS} {D:LDS} {E:LES} (h:room<16) :
  stream_Stream_Feed FU64 (us,(room,mkS a b pol x false false D E))=some ([],(0,(9,mkS a b pol x false false D E))):=by
 unfold stream_Stream_Feed mkS
 dsimp only
 rw [cond_false,cond_false,decide_eq_true h,cond_true]
theorem flush_shut {a b:ByteArray} {pol room:Int} {x:WS} {en:Bool} {D:LDS} {E:LES} :
  stream_Stream_Flush FU64 (room,mkS a b pol x en true D E)=some ([],(5,mkS a b pol x en true D E)):=by
 unfold stream_Stream_Flush mkS
 dsimp only
 rw [cond_true]
theorem flush_small {a b:ByteArray} {pol room:Int} {x:WS} {en:Bool} {D:LDS} {E:LES} (h:room<16) :
  stream_Stream_Flush FU64 (room,mkS a b pol x en false D E)=some ([],(9,mkS a b pol x en false D E)):=by
 unfold stream_Stream_Flush mkS
 dsimp only
 rw [cond_false,decide_eq_true h,cond_true]
def flushX (pol:Int) (d:PD) (y:WS×PE):WS:=if y.1.2.2.2=0 then finX pol (takeTs pol y d.fin.1) else y.1
theorem flush_eq {a b:ByteArray} {pol:Int} {r:Nat} (hr16:16≤r) {kd ke:Nat} {d:PD} {y:WS×PE} {xd:DSt} {xe:ESt} (hd:d.Ok kd) (hrd:d.Rep xd) (hr:RX ke y xe) (hk1:kd≤100000000) (hk2:ke+100≤900000000) (hb:y.1.1.length+5000≤900000000) :
  ∃xd' xe',stream_Stream_Flush FU64 ((r:Int),mkS a b pol y.1 false false [xd] [xe])=some ((flushX pol d y).1.take r,(payE r (flushX pol d y),mkS a b pol ((flushX pol d y).1.drop r,(flushX pol d y).2) true (payC r (flushX pol d y) true false) [xd'] [xe']))∧(flushX pol d y).1.length≤y.1.1.length+2000:=by
 unfold stream_Stream_Flush flushX
 rw [show mkS a b pol y.1 false false [xd] [xe]=(a,(b,(pol,((0:Nat),((0:Nat),(y.1.1,(y.1.2.1,(y.1.2.2.1,(y.1.2.2.2,(false,(false,([xd],[xe])))))))))))) from rfl]
 dsimp only
 rw [cond_false,decide_eq_false (by omega),cond_false,Bool.not_false,cond_true]
 by_cases h0:y.1.2.2.2=0
 ·rw [if_pos h0,beq_t h0,cond_true,List.getElem?_cons_zero,bind_some']
  obtain ⟨xd',e1,e2⟩:=decEnd_eq hd hrd (by omega)
  obtain ⟨f1,f2⟩:=PD.fin_few hd
  have h3:=PD.held3 hd
  obtain ⟨xe',k',e3,e4,e5⟩:=taken_eq f1 (a:=a) (b:=b) (pol:=pol) (en:=false) (cl:=false) (D:=[xd']) (by omega) hr (by omega) (by omega)
  obtain ⟨_,_,_,t3,_⟩:=takeTs_ok (pol:=pol) d.fin.1 hr.ok f1
  rw [e1,bind_some']
  have e3':stream_Stream_taken FU64 (d.fin.1,(a,(b,(pol,((0:Nat),((0:Nat),(y.1.1,(y.1.2.1,(y.1.2.2.1,(y.1.2.2.2,(false,(false,(List.set [xd] 0 xd',[xe])))))))))))))=_:=e3
  rw [e3',bind_some']
  generalize takeTs pol y d.fin.1=z at e4 t3 ⊢
  rw [show mkS a b pol z.1 false false [xd'] [xe']=(a,(b,(pol,((0:Nat),((0:Nat),(z.1.1,(z.1.2.1,(z.1.2.2.1,(z.1.2.2.2,(false,(false,([xd'],[xe'])))))))))))) from rfl]
  dsimp only
  unfold finX
  by_cases hz:z.1.2.2.2=0
  ·obtain ⟨xe2,g1,g2⟩:=encEnd_eq e4.ok e4.rep (by omega)
   obtain ⟨p1,p2,p3,p4⟩:=PE.fin_ok e4.ok
   have hh:=PE.held3 e4.ok
   have hw:=written_eq (ts:=z.2.fin.1) (by omega) p3 (a:=a) (b:=b) (pol:=pol) (x:=z.1) (by omega) (en:=false) (cl:=false) (D:=[xd']) (E:=[xe2])
   have hl:=wrTs_len (pol:=pol) (x:=z.1) p3
   rw [beq_t hz,cond_true,List.getElem?_cons_zero,bind_some',g1,bind_some',if_pos hz]
   have hw':stream_Stream_written FU64 (z.2.fin.1,(a,(b,(pol,((0:Nat),((0:Nat),(z.1.1,(z.1.2.1,(z.1.2.2.1,(z.1.2.2.2,(false,(false,([xd'],List.set [xe'] 0 xe2)))))))))))))=_:=hw
   rw [hw',bind_some']
   have hp:=pay_eq (a:=a) (b:=b) (pol:=pol) (x:=wrTs pol z.1 z.2.fin.1) (en:=true) (cl:=false) (D:=[xd']) (E:=[xe2]) (r:=r) (by omega)
   unfold mkS at hp ⊢
   dsimp only at hp ⊢
   rw [hp,bind_some']
   exact ⟨xd',xe2,rfl,by omega⟩
  ·have hp:=pay_eq (a:=a) (b:=b) (pol:=pol) (x:=z.1) (en:=true) (cl:=false) (D:=[xd']) (E:=[xe']) (r:=r) (by omega)
   unfold mkS at hp ⊢
   dsimp only at hp ⊢
   rw [beq_f hz,cond_false,if_neg hz,hp,bind_some']
   exact ⟨xd',xe',rfl,by omega⟩
 ·have hp:=pay_eq (a:=a) (b:=b) (pol:=pol) (x:=y.1) (en:=true) (cl:=false) (D:=[xd]) (E:=[xe]) (r:=r) (by omega)
  unfold mkS at hp ⊢
  dsimp only at hp ⊢
  rw [if_neg h0,beq_f h0,cond_false,hp,bind_some']
  exact ⟨xd,xe,rfl,by omega⟩
theorem name_diff:((List.range 8).all fun i=>(List.range 8).all fun j=>eqS (nameN i) (nameN j) == decide (i=j))=true:=by kernel_rfl
theorem eqS_name {i j:Nat} (hi:i<8) (hj:j<8):eqS (nameN i) (nameN j)=decide (i=j):=by
 have h:=name_diff
 rw [List.all_eq_true] at h
 have h:=h i (List.mem_range.2 hi)
 rw [List.all_eq_true] at h
 exact beq_iff_eq.1 (h j (List.mem_range.2 hj))
theorem names20_eq {v:Int} (hv:0≤v∧v<256):∃n m:Nat,∃p:Int,n<8∧m<8∧(0≤p∧p<3)∧lontarlaw20_names FU64 v=some (nameN n,(nameN m,p)):=by
 refine ⟨v.toNat % 8,v.toNat / 8 % 8,((v.toNat / 64 % 3:Nat):Int),Nat.mod_lt _ (by omega),Nat.mod_lt _ (by omega),⟨by omega,by omega⟩,?_⟩
 unfold lontarlaw20_names
 dsimp only
 have e1:Int.tmod (w64 v) 8=((v.toNat % 8:Nat):Int):=by rw [w64_id (by omega) (by omega),tmod8 hv.1]
 have d1:Int.tdiv (w64 v) 8=((v.toNat / 8:Nat):Int):=by
  rw [w64_id (by omega) (by omega),Int.tdiv_eq_ediv_of_nonneg hv.1]
  omega
 have e2:Int.tmod (w64 (Int.tdiv (w64 v) 8)) 8=((v.toNat / 8 % 8:Nat):Int):=by
  rw [d1,w64_id (by omega) (by omega),tmod8 (by omega),Int.toNat_natCast]
 have e3:w64 (Int.tmod (w8 (Int.tdiv v 64)) 3)=((v.toNat / 64 % 3:Nat):Int):=by
  have:Int.tdiv v 64=((v.toNat / 64:Nat):Int):=by
   rw [Int.tdiv_eq_ediv_of_nonneg hv.1]
   omega
  rw [this,w8_id (by omega) (by omega),Int.tmod_eq_emod_of_nonneg (by omega),w64_id (by omega) (by omega)]
  omega
 rw [names_eq,bind_some']
 simp only [List.length_cons,List.length_nil]
 rw [show ((((0+1+1+1+1+1+1+1+1:Nat):Int)) == 0)=false from rfl,cond_false,show (!(decide ((((0+1+1+1+1+1+1+1+1:Nat):Int))=0)))=true from rfl,cond_true,show (((0+1+1+1+1+1+1+1+1:Nat):Int))=8 from rfl,e1,nth_name (Nat.mod_lt _ (by omega)),bind_some',cond_true,e2,nth_name (Nat.mod_lt _ (by omega)),bind_some',e3]
theorem text_L0 {us b:List Int} (hu:us.length≤100) {t:Int} {q1:LES} {q2 q3:Int} {q4:List Int} {q5:Int}:∀(m k g:Nat) (acc:List Int),k+m=us.length→m<g→isU8 acc→acc.length≤2*k→
  ∃out,loopM (lontarlaw20_Text_L0 FU64) g (b,(t,(acc,(us,((us.length:Int),((k:Int),(q1,(q2,(q3,(q4,q5))))))))))=some (.inr out)∧isU8 out∧out.length≤200:=by
 intro m
 induction m with
 | zero=>
  intro k g acc hk hg h8 hl
  obtain ⟨g,rfl⟩:∃q,g=q+1:=⟨g - 1,by omega⟩
  refine ⟨acc,?_,h8,by omega⟩
  rw [loopM_succ]
  unfold lontarlaw20_Text_L0
  dsimp only
  rw [decide_eq_false (by omega),cond_false]
 | succ m ih=>
  intro k g acc hk hg h8 hl
  obtain ⟨g,rfl⟩:∃q,g=q+1:=⟨g - 1,by omega⟩
  have hkl:k<us.length:=by omega
  have ha:∀c:Int,isU8 (acc++[w8 c]):=fun c x hx=>by
   rw [List.mem_append,List.mem_singleton] at hx
   rcases hx with hx | rfl
   ·exact h8 x hx
   ·exact w8_r c
  have hb:∀c d:Int,isU8 (acc++[w8 c]++[w8 d]):=fun c d x hx=>by
   rw [List.mem_append,List.mem_singleton] at hx
   rcases hx with hx | rfl
   ·exact ha c x hx
   ·exact w8_r d
  have f1:∀c:Int,decide ((acc.length + [w8 c].length)*1≤2 ^ 46)=true:=fun c=>by rw [decide_eq_true_eq];simp;omega
  have f2:∀c d:Int,decide (((acc++[w8 c]).length + [w8 d].length)*1≤2 ^ 46)=true:=fun c d=>by rw [decide_eq_true_eq];simp;omega
  have step:∃acc',lontarlaw20_Text_L0 FU64 (b,(t,(acc,(us,((us.length:Int),((k:Int),(q1,(q2,(q3,(q4,q5))))))))))=some (.inl (b,(t,(acc',(us,((us.length:Int),(((k+1:Nat):Int),(q1,(q2,(q3,(q4,q5)))))))))))∧isU8 acc'∧acc'.length≤2*(k+1):=by
   have s1:∃acc',some (Sum.inl (b,(t,((acc++[w8 us[k]]),(us,((us.length:Int),(((k+1:Nat):Int),(q1,(q2,(q3,(q4,q5)))))))))))=(some (Sum.inl (b,(t,(acc',(us,((us.length:Int),(((k+1:Nat):Int),(q1,(q2,(q3,(q4,q5)))))))))))  : Option (lontarlaw20_Text_S0⊕(List Int⊕List Int)))∧isU8 acc'∧acc'.length≤2*(k+1):=⟨_,rfl,ha _,by simp;omega⟩
   unfold lontarlaw20_Text_L0
   dsimp only
   rw [decide_eq_true (by omega),cond_true,nthI_get hkl,bind_some',f1,cond_true,w64_succ hkl (by omega)]
   by_cases h1:Int.tmod t 3=1
   ·rw [beq_t h1,cond_true]
    by_cases h2:(k:Int)<(b.length:Int)
    ·have h2':k<b.length:=by omega
     rw [decide_eq_true h2,cond_true,nthI_get h2',bind_some']
     by_cases h3:b[k]<20
     ·rw [decide_eq_true h3,cond_true,bind_some',f2,cond_true]
      exact ⟨_,rfl,hb _ _,by simp;omega⟩
     ·rw [decide_eq_false h3,cond_false]
      exact s1
    ·rw [decide_eq_false h2,cond_false]
     exact s1
   ·rw [beq_f h1,cond_false]
    exact s1
  obtain ⟨acc',e,h8',hl'⟩:=step
  rw [loopM_succ,e]
  exact ih (k+1) g acc' (by omega) (by omega) h8' hl'
theorem upto100 {l:List Int}:∃m:Nat,(if (100:Int)<(l.length:Int) then (100:Int) else (l.length:Int))=(m:Int)∧m≤100∧m≤l.length:=by
 by_cases h:(100:Int)<(l.length:Int)
 ·exact ⟨100,by rw [if_pos h];rfl,Nat.le_refl _,by omega⟩
 ·exact ⟨l.length,by rw [if_neg h],by omega,Nat.le_refl _⟩
theorem text20_eq {n:Nat} (hn:n<8) {l b:List Int} (hl:isU8 l) (hb:isU8 b) {t:Int}:∃s,lontarlaw20_Text FU64 (nameN n,(l,(b,t)))=some s∧isU8 (unS s)∧(unS s).length≤200:=by
 obtain ⟨x,e1,r1⟩:=enc_any hn (name_is hn)
 obtain ⟨us,e2,hus,_⟩:=scal19_eq hn hl
 obtain ⟨x',e3,_⟩:=allE_eq (us:=us) (PE.init_ok n).1 r1 (by omega)
 obtain ⟨f1,f2⟩:=PE.all_few (us:=us) (PE.init_ok n).1
 rw [(PE.init_ok n).2] at f2
 obtain ⟨m,m1,m2,m3⟩:=upto100 (l:=flat ((PE.init n).all us))
 obtain ⟨bs60,b1,b2,b3⟩:=take60 (l:=b)
 have hend:∃s,lontarlaw20_Text_L1 FU64 (nameN n,(l,(b,(t,((n:Int),([utfN,ascN,visN,tcvN,vniN,tisN,tscN,iscN],((8:Int),((8:Nat):Int))))))))=some (.inr s)∧isU8 (unS s)∧(unS s).length≤200:=by
  unfold lontarlaw20_Text_L1
  dsimp only
  rw [decide_eq_false (by omega),cond_false]
  by_cases h0:Int.tmod t 3=0
  ·rw [beq_t h0,cond_true,b1,bind_some']
   refine ⟨_,rfl,?_,?_⟩
   ·rw [b3];exact isU8_take hb 60
   ·show bs60.length≤200
    omega
  ·rw [beq_f h0,cond_false,e1,bind_some']
   dsimp only
   rw [e2,bind_some',e3,bind_some']
   dsimp only
   rw [units_all fu64 (by omega) f1,bind_some']
   dsimp only
   rw [m1,sliceI_to m3,bind_some']
   obtain ⟨out,g1,g2,g3⟩:=text_L0 (us:=(flat ((PE.init n).all us)).take m) (b:=b) (by simp;omega) (t:=t) (q1:=[x']) (q2:=(badT ((PE.init n).all us)).1) (q3:=(badT ((PE.init n).all us)).2.1) (q4:=(badT ((PE.init n).all us)).2.2.1) (q5:=(badT ((PE.init n).all us)).2.2.2) _ 0 FU64 [] (Nat.zero_add _) (by simp;unfold FU64;omega) (fun x hx=>by cases hx) (by simp)
   refine ⟨.inr out,?_,g2,g3⟩
   refine Eq.trans (congrArg (Option.map Sum.inr) g1) rfl
 obtain ⟨s,s1,s2,s3⟩:=hend
 refine ⟨s,?_,s2,s3⟩
 unfold lontarlaw20_Text
 dsimp only
 rw [names_eq,bind_some']
 have:=loop_st (f:=lontarlaw20_Text_L1 FU64) (fun k=>(nameN n,(l,(b,(t,((if n<k then (n:Int) else 0),([utfN,ascN,visN,tcvN,vniN,tisN,tscN,iscN],((8:Int),(k:Int)))))))))  (m:=8) (fu:=FU64) (r:=s) (fun k hk=>by
   unfold lontarlaw20_Text_L1
   dsimp only
   rw [decide_eq_true (by omega),cond_true,nth_name hk,bind_some',get_name hk,bind_some',eqS_name hk hn,w64_id (n:=(k:Int)+1) (by omega) (by omega)]
   by_cases hkn:k=n
   ·subst hkn
    rw [decide_eq_true rfl,cond_true,if_pos (Nat.lt_succ_self _)]
    rfl
   ·rw [decide_eq_false hkn,cond_false]
    by_cases h2:n<k
    ·rw [if_pos h2,if_pos (by omega)];rfl
    ·rw [if_neg h2,if_neg (by omega)];rfl) (by rw [if_pos hn];exact s1) (by unfold FU64;omega)
 rw [if_neg (by omega)] at this
 exact this
theorem awake_all:allX 0 1 0 [65,128]=([65],(1,(1,3))):=by kernel_rfl
def gAw:Nat×(PD×(WS×PE)):=feedG 1 16 [161,219] (PD.init 5) (x0,PE.init 0)
theorem gAw1:gAw.1=2:=by kernel_rfl
theorem gAw2:gAw.2.2.1=([224,184,129,239,191,189],(0,(0,0))):=by kernel_rfl
theorem gAw3:flushX 1 gAw.2.1 (([],(0,(0,0))),gAw.2.2.2)=([],(0,(0,0))):=by kernel_rfl
theorem bind_to {α β:Type} {o:Option α} {a:α} {f:α→Option β} {r:Option β} (h:o=some a) (h2:f a=r):o.bind f=r:=by rw [h];exact h2
theorem gAw0:feedG 1 16 [161,219] (PD.init 5) (x0,PE.init 0)=gAw:=rfl
theorem RX.of2 {k:Nat} {y:WS×PE} {xe:ESt} (h:RX k y xe) (x:WS):RX k (x,y.2) xe:=⟨h.ok,h.rep⟩
attribute [local irreducible] gAw
theorem awake20:lontarlaw20_awake FU64 ()=some true:=by
 have n1:codec_Name FU64 ascN=some (nameN 1,0):=name_is (n:=1) (by omega)
 have n2:codec_Name FU64 utfN=some (nameN 0,0):=name_is (n:=0) (by omega)
 have n3:codec_Name FU64 (bs [116,105,115,54,50,48])=some (nameN 5,0):=by kernel_rfl
 have n4:codec_Name FU64 (bs [117,116,102,56])=some (nameN 0,0):=by kernel_rfl
 have e1:=sall_eq (n:=1) (m:=0) (by omega) (by omega) n1 n2 (p:=0) (by omega) (us:=[65,128]) (by intro x hx;simp only [List.mem_cons,List.not_mem_nil,or_false] at hx;omega) (by simp)
 rw [awake_all] at e1
 obtain ⟨xd,xe,e2,r1,r2⟩:=open_eq (n:=5) (m:=0) (by omega) (by omega) n3 n4 (p:=1) (by omega)
 obtain ⟨xd',xe',kd',ke',e3,o1,o2,o3,o4,o5,o6,_⟩:=feed_eq (us:=[161,219]) (by intro x hx;simp only [List.mem_cons,List.not_mem_nil,or_false] at hx;omega) (by simp) (a:=nameN 5) (b:=nameN 0) (pol:=1) (r:=16) (by omega) (kd:=0) (ke:=0) (d:=PD.init 5) (y:=(x0,PE.init 0)) (PD.init_ok 5).1 r1 ⟨(PE.init_ok 0).1,r2⟩ (by simp) (by simp) (by simp [x0])
 rw [gAw0] at e3 o1 o2 o3
 rw [gAw1,gAw2] at e3
 have o3':RX ke' (([],(0,(0,0))),gAw.2.2.2) xe':=o3.of2 _
 obtain ⟨xd2,xe2,e4,_⟩:=flush_eq (a:=nameN 5) (b:=nameN 0) (pol:=1) (r:=16) (by omega) o1 o2 o3' (by simp at o4;omega) (by simp at o5;omega) (by simp)
 rw [gAw3] at e4
 have e5:=feed_shut (us:=[]) (a:=nameN 5) (b:=nameN 0) (pol:=1) (room:=16) (x:=([],(0,(0,0)))) (en:=true) (cl:=true) (D:=[xd2]) (E:=[xe2]) (.inl rfl)
 unfold lontarlaw20_awake
 try dsimp only
 rw [show stream_All FU64 (bs [97,115,99,105,105],(bs [117,116,102,45,56],(0,[65,128])))=_ from e1,bind_some',e2,bind_some']
 dsimp only
 rw [show ((0:Int) != 0)=false from rfl,cond_false]
 refine bind_to e3 ?_
 refine bind_to e4 ?_
 refine bind_to e5 ?_
 kernel_rfl
theorem i8_of {a:Int} (h:wfD (.int .i8) a) : -128≤a∧a<128:=by
 have h1:(Lit.int .i8 a).wf=true:=h
 unfold Lit.wf at h1
 simp only [Bool.and_eq_true,decide_eq_true_eq] at h1
 have h2:(-128:Int)≤a∧a≤127:=h1
 omega
def roomQ (y:List Int) (room:Int) (q:List Int×(Int×(Int×SSt))):Option Bool:=
 (stream_Stream_Flush FU64 (w64 room,q.2.2.2)).bind fun z=>
  bif decide (room<16) then
   bif ((q.1.length:Int) == 0) then bif (q.2.1 == 0) then bif (q.2.2.1 == 9) then bif ((z.1.length:Int) == 0) then bif (z.2.1 == 9) then
    (stream_Stream_Owed FU64 z.2.2).bind fun o=>some (o.1 == 0)
   else some false else some false else some false else some false else some false
  else
   bif decide ((q.1.length:Int)≤w64 room) then bif decide ((z.1.length:Int)≤w64 room) then some (decide (q.2.1≤(y.length:Int))) else some false else some false
theorem roomQ_true {n m:Nat} (hn:n<8) (hm:m<8) {p:Int} {y:List Int} (h8:isU8 y) (hy:y.length≤200) {room:Int} (hr : -128≤room∧room<128) {xd:DSt} {xe:ESt} (r1:(PD.init n).Rep xd) (r2:(PE.init m).Rep 0 xe) :
  (stream_Stream_Feed FU64 (y,(w64 room,mkS (nameN n) (nameN m) p x0 false false [xd] [xe]))).bind (roomQ y room)=some true:=by
 have hw:w64 room=room:=w64_id (by omega) (by omega)
 by_cases h:room<16
 ·refine bind_to (by rw [hw];exact feed_small h) ?_
  unfold roomQ
  refine bind_to (by rw [hw];exact flush_small h) ?_
  rw [decide_eq_true h,cond_true]
  rfl
 ·obtain ⟨r,rfl⟩:∃r:Nat,room=(r:Int):=⟨room.toNat,by omega⟩
  obtain ⟨xd',xe',kd',ke',e3,o1,o2,o3,o4,o5,o6,o7⟩:=feed_eq h8 (by omega) (a:=nameN n) (b:=nameN m) (pol:=p) (r:=r) (by omega) (kd:=0) (ke:=0) (d:=PD.init n) (y:=(x0,PE.init m)) (PD.init_ok n).1 r1 ⟨(PE.init_ok m).1,r2⟩ (by omega) (by omega) (by show 0+1400*y.length+5000≤900000000;omega)
  generalize feedG p r y (PD.init n) (x0,PE.init m)=G at e3 o1 o2 o3 o6 o7
  have o6:G.2.2.1.1.length≤0+1400*y.length:=o6
  refine bind_to (by rw [hw];exact e3) ?_
  have hfl:∃z:List Int×(Int×SSt),stream_Stream_Flush FU64 ((r:Int),mkS (nameN n) (nameN m) p (G.2.2.1.1.drop r,G.2.2.1.2) false (payC r G.2.2.1 false false) [xd'] [xe'])=some z∧z.1.length≤r:=by
   cases hc:payC r G.2.2.1 false false with
   | true=>exact ⟨_,flush_shut,Nat.zero_le _⟩
   | false=>
    obtain ⟨xd2,xe2,e4,_⟩:=flush_eq (a:=nameN n) (b:=nameN m) (pol:=p) (r:=r) (by omega) o1 o2 (o3.of2 (G.2.2.1.1.drop r,G.2.2.1.2)) (by omega) (by omega) (by show (G.2.2.1.1.drop r).length+5000≤900000000;rw [List.length_drop];omega)
    exact ⟨_,e4,by show (List.take _ _).length≤r;rw [List.length_take];omega⟩
  obtain ⟨z,z1,z2⟩:=hfl
  unfold roomQ
  refine bind_to (by rw [hw];exact z1) ?_
  have hq:(List.take r G.2.2.1.1).length≤r:=by rw [List.length_take];omega
  dsimp only
  rw [decide_eq_false h,cond_false,hw,decide_eq_true (by omega),cond_true,decide_eq_true (by omega),cond_true,decide_eq_true (by omega)]
theorem room_true {v room:Int} {l:List Int} (hv:0≤v∧v<256) (hl:isU8 l) (hr : -128≤room∧room<128):lontarlaw20_StreamRoom FU64 (v,(l,room))=some true:=by
 obtain ⟨n,m,p,hn,hm,hp,e1⟩:=names20_eq hv
 obtain ⟨s,e2,h8,hy⟩:=text20_eq hn hl (b:=[]) (fun x hx=>by cases hx) (t:=1)
 obtain ⟨xd,xe,e3,r1,r2⟩:=open_eq hn hm (name_is hn) (name_is hm) hp
 have key:=roomQ_true hn hm (p:=p) h8 hy hr r1 r2
 unfold lontarlaw20_StreamRoom
 dsimp only
 rw [awake20,bind_some',Bool.not_true,cond_false,e1,bind_some']
 dsimp only
 rw [e2,bind_some']
 cases s with
 | inl y=>dsimp only;rw [e3,bind_some'];exact key
 | inr y=>dsimp only;rw [e3,bind_some'];exact key
theorem room_law (a0:(Sh.int .u8).den) (a1:(Sh.sl (.int .u8)).den) (a2:(Sh.int .i8).den) (w0:wfD (.int .u8) a0) (w1:wfD (.sl (.int .u8)) a1) (w2:wfD (.int .i8) a2):lontarlaw20_StreamRoom FU64 (a0,(a1,a2))=some true:=room_true (u8_of w0) (isU8_of w1) (i8_of w2)
end Go.AM.M
