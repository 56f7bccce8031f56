/- Plain laws of the models. -/
import Derived.Test.YtmknfofhhnfkcaaGreatDoorPlH1
set_option linter.all false
namespace Go.AM.M
open Go.AM
def payE (r:Nat) (x:WS):Int:=if 0<(x.1.drop r).length then 4 else x.2.2.2
def payC (r:Nat) (x:WS) (en cl:Bool):Bool:=if 0<(x.1.drop r).length then cl else if x.2.2.2≠0∨en=true then true else cl
theorem pay_eq {a b:ByteArray} {pol:Int} {x:WS} {en cl:Bool} {D:LDS} {E:LES} {r:Nat} (hx:x.1.length≤1000000000) :
  stream_Stream_pay FU64 ((r:Int),mkS a b pol x en cl D E)=some (x.1.take r,payE r x,mkS a b pol (x.1.drop r,x.2) en (payC r x en cl) D E):=by
 unfold stream_Stream_pay mkS
 dsimp only
 obtain ⟨m,e1,e2,e3⟩:∃m:Nat,(if (x.1.length:Int)<(r:Int) then (x.1.length:Int) else (r:Int))=(m:Int)∧m≤x.1.length∧(m=r∨(m=x.1.length∧x.1.length<r)):=by
  by_cases h:(x.1.length:Int)<(r:Int)
  ·exact ⟨x.1.length,by rw [if_pos h],Nat.le_refl _,.inr ⟨rfl,by omega⟩⟩
  ·exact ⟨r,by rw [if_neg h],by omega,.inl rfl⟩
 have t1:x.1.take m=x.1.take r∧x.1.drop m=x.1.drop r:=by
  rcases e3 with rfl | ⟨rfl,h⟩
  ·exact ⟨rfl,rfl⟩
  ·exact ⟨by rw [List.take_length,List.take_of_length_le (by omega)],by rw [List.drop_length,List.drop_eq_nil_of_le (by omega)]⟩
 have f1:decide ((x.1.take r).length*1≤2 ^ 46)=true:=by rw [decide_eq_true_eq,List.length_take];omega
 have f2:decide ((x.1.drop r).length*1≤2 ^ 46)=true:=by rw [decide_eq_true_eq,List.length_drop];omega
 rw [e1,sliceI_to e2,bind_some',sliceI_from e2,t1.1,t1.2,f1,cond_true,bind_some',f2,cond_true]
 unfold payE payC
 by_cases h:0<(x.1.drop r).length
 ·rw [decide_eq_true (show (((x.1.drop r).length:Nat):Int)>0 by omega),cond_true,if_pos h,if_pos h]
 ·rw [decide_eq_false (show ¬(((x.1.drop r).length:Nat):Int)>0 by omega),cond_false,if_neg h,if_neg h]
  by_cases h2:x.2.2.2=0
  ·rw [bne_eq_false_iff_eq.2 h2,cond_false]
   cases en with
   | true=>rw [cond_true,if_pos (.inr rfl),h2]
   | false=>rw [cond_false,if_neg (by simp [h2]),h2]
  ·rw [bne_iff_ne.2 h2,cond_true,if_pos (.inl h2)]
def feedG (pol:Int) (r:Nat):List Int→PD→WS×PE→Nat×(PD×WS×PE)
 | [],d,y=>(0,d,y)
 | c :: b,d,y=>if y.1.1.length<r∧y.1.2.2.2=0 then ((feedG pol r b (d.put c).2 (takeTs pol y (d.put c).1)).1+1,(feedG pol r b (d.put c).2 (takeTs pol y (d.put c).1)).2) else (0,d,y)
theorem feed_L0 {us:List Int} (h8:isU8 us) (hn:us.length≤100000) {a b:ByteArray} {pol:Int} {r:Nat}:∀(m j g kd ke:Nat) (d:PD) (y:WS×PE) (xd:DSt) (xe:ESt),j+m=us.length→m<g→d.Ok kd→d.Rep xd→RX ke y xe→kd+m≤100000000→ke+32*m+100≤900000000→y.1.1.length+1400*m+5000≤900000000→
  ∃xd' xe' kd' ke',loopM (stream_Stream_Feed_L0 FU64) g (us,(r:Int),(j:Int),mkS a b pol y.1 false false [xd] [xe]) =
   some ((feedG pol r (us.drop j) d y).2.2.1.1.take r,((j+(feedG pol r (us.drop j) d y).1:Nat):Int),payE r (feedG pol r (us.drop j) d y).2.2.1,mkS a b pol ((feedG pol r (us.drop j) d y).2.2.1.1.drop r,(feedG pol r (us.drop j) d y).2.2.1.2) false (payC r (feedG pol r (us.drop j) d y).2.2.1 false false) [xd'] [xe'])
   ∧(feedG pol r (us.drop j) d y).2.1.Ok kd'∧(feedG pol r (us.drop j) d y).2.1.Rep xd'∧RX ke' (feedG pol r (us.drop j) d y).2.2 xe'∧kd'≤kd+m∧ke'≤ke+32*m∧(feedG pol r (us.drop j) d y).2.2.1.1.length≤y.1.1.length+1400*m∧(feedG pol r (us.drop j) d y).1≤m:=by
 intro m
 induction m with
 | zero=>
  intro j g kd ke d y xd xe hj hg hd hrd hr hk1 hk2 hb
  obtain ⟨g,rfl⟩:∃q,g=q+1:=⟨g - 1,by omega⟩
  rw [List.drop_eq_nil_of_le (by omega),loopM_succ]
  refine ⟨xd,xe,kd,ke,?_,hd,hrd,hr,by omega,by omega,by simp [feedG],by simp [feedG]⟩
  have hp:=pay_eq (a:=a) (b:=b) (pol:=pol) (x:=y.1) (en:=false) (cl:=false) (D:=[xd]) (E:=[xe]) (r:=r) (by omega)
  unfold stream_Stream_Feed_L0
  rw [show mkS a b pol y.1 false false [xd] [xe]=(a,b,pol,(0:Nat),(0:Nat),y.1.1,y.1.2.1,y.1.2.2.1,y.1.2.2.2,false,false,[xd],[xe]) from rfl]
  rw [show mkS a b pol y.1 false false [xd] [xe]=(a,b,pol,(0:Nat),(0:Nat),y.1.1,y.1.2.1,y.1.2.2.1,y.1.2.2.2,false,false,[xd],[xe]) from rfl] at hp
  dsimp only
  rw [decide_eq_false (by omega),cond_false,hp,bind_some']
  try rfl
 | succ m ih=>
  intro j g kd ke d y xd xe hj hg hd hrd hr hk1 hk2 hb
  obtain ⟨g,rfl⟩:∃q,g=q+1:=⟨g - 1,by omega⟩
  have hjl:j<us.length:=by omega
  have hx:=h8 us[j] (List.getElem_mem hjl)
  rw [List.drop_eq_getElem_cons hjl,loopM_succ]
  by_cases hc:y.1.1.length<r∧y.1.2.2.2=0
  ·have hg':feedG pol r (us[j] :: us.drop (j+1)) d y=((feedG pol r (us.drop (j+1)) (d.put us[j]).2 (takeTs pol y (d.put us[j]).1)).1+1,(feedG pol r (us.drop (j+1)) (d.put us[j]).2 (takeTs pol y (d.put us[j]).1)).2):=if_pos hc
   rw [hg']
   obtain ⟨xd',e1,e2⟩:=decPut_eq hd hrd (by omega) us[j]
   obtain ⟨f1,f2⟩:=PD.put_few hd us[j]
   have h3:=PD.held3 hd
   obtain ⟨xe',k',e3,e4,e5⟩:=taken_eq f1 (a:=a) (b:=b) (pol:=pol) (en:=false) (cl:=false) (D:=[xd']) (by omega) hr (by omega) (by omega)
   obtain ⟨_,_,_,t3,_⟩:=takeTs_ok (pol:=pol) (d.put us[j]).1 hr.ok f1
   have hl4:(d.put us[j]).1.length≤4:=by omega
   have e0:stream_Stream_Feed_L0 FU64 (us,(r:Int),(j:Int),mkS a b pol y.1 false false [xd] [xe])=some (.inl (us,(r:Int),((j+1:Nat):Int),mkS a b pol (takeTs pol y (d.put us[j]).1).1 false false [xd'] [xe'])):=by
    unfold stream_Stream_Feed_L0
    rw [show mkS a b pol y.1 false false [xd] [xe]=(a,b,pol,(0:Nat),(0:Nat),y.1.1,y.1.2.1,y.1.2.2.1,y.1.2.2.2,false,false,[xd],[xe]) from rfl]
    dsimp only
    rw [decide_eq_true (by omega),cond_true,decide_eq_true (show (y.1.1.length:Int)<(r:Int) by omega),cond_true,beq_t hc.2,cond_true,nthI_get hjl,bind_some',List.getElem?_cons_zero,bind_some',w64_id (n:=us[j]) (by omega) (by omega),e1,bind_some']
    have e3':stream_Stream_taken FU64 ((d.put us[j]).1,a,b,pol,(0:Nat),(0:Nat),y.1.1,y.1.2.1,y.1.2.2.1,y.1.2.2.2,false,false,List.set [xd] 0 xd',[xe])=_:=e3
    rw [e3',bind_some',w64_succ hjl (by omega)]
    try rfl
   rw [e0]
   obtain ⟨xd2,xe2,kd2,ke2,i1,i2,i3,i4,i5,i6,i7,i8⟩:=ih (j+1) g (kd+1) k' (d.put us[j]).2 (takeTs pol y (d.put us[j]).1) xd' xe' (by omega) (by omega) (PD.put_ok hd us[j]) e2 e4 (by omega) (by omega) (by omega)
   refine ⟨xd2,xe2,kd2,ke2,?_,i2,i3,i4,by omega,by omega,by dsimp only;omega,by dsimp only;omega⟩
   dsimp only
   rw [i1]
   congr 4
   omega
  ·have hg':feedG pol r (us[j] :: us.drop (j+1)) d y=(0,d,y):=if_neg hc
   rw [hg']
   refine ⟨xd,xe,kd,ke,?_,hd,hrd,hr,by omega,by omega,by simp,by simp⟩
   have hp:=pay_eq (a:=a) (b:=b) (pol:=pol) (x:=y.1) (en:=false) (cl:=false) (D:=[xd]) (E:=[xe]) (r:=r) (by omega)
   have e0:stream_Stream_Feed_L0 FU64 (us,(r:Int),(j:Int),mkS a b pol y.1 false false [xd] [xe])=some (.inr (y.1.1.take r,(j:Int),payE r y.1,mkS a b pol (y.1.1.drop r,y.1.2) false (payC r y.1 false false) [xd] [xe])):=by
    unfold stream_Stream_Feed_L0
    rw [show mkS a b pol y.1 false false [xd] [xe]=(a,b,pol,(0:Nat),(0:Nat),y.1.1,y.1.2.1,y.1.2.2.1,y.1.2.2.2,false,false,[xd],[xe]) from rfl]
    rw [show mkS a b pol y.1 false false [xd] [xe]=(a,b,pol,(0:Nat),(0:Nat),y.1.1,y.1.2.1,y.1.2.2.1,y.1.2.2.2,false,false,[xd],[xe]) from rfl] at hp
    dsimp only
    rw [decide_eq_true (by omega),cond_true]
    by_cases h1:y.1.1.length<r
    ·rw [decide_eq_true (show (y.1.1.length:Int)<(r:Int) by omega),cond_true,beq_f (fun h=>hc ⟨h1,h⟩),cond_false,hp,bind_some']
     rfl
    ·rw [decide_eq_false (show ¬(y.1.1.length:Int)<(r:Int) by omega),cond_false,hp,bind_some']
     rfl
   rw [e0]
   rfl
theorem feed_eq {us:List Int} (h8:isU8 us) (hn:us.length≤100000) {a b:ByteArray} {pol:Int} {r:Nat} (hr16:16≤r) {kd ke:Nat} {d:PD} {y:WS×PE} {xd:DSt} {xe:ESt} (hd:d.Ok kd) (hrd:d.Rep xd) (hr:RX ke y xe) (hk1:kd+us.length≤100000000) (hk2:ke+32*us.length+100≤900000000) (hb:y.1.1.length+1400*us.length+5000≤900000000) :
  ∃xd' xe' kd' ke',stream_Stream_Feed FU64 (us,(r:Int),mkS a b pol y.1 false false [xd] [xe]) =
   some ((feedG pol r us d y).2.2.1.1.take r,(((feedG pol r us d y).1:Nat):Int),payE r (feedG pol r us d y).2.2.1,mkS a b pol ((feedG pol r us d y).2.2.1.1.drop r,(feedG pol r us d y).2.2.1.2) false (payC r (feedG pol r us d y).2.2.1 false false) [xd'] [xe'])
   ∧(feedG pol r us d y).2.1.Ok kd'∧(feedG pol r us d y).2.1.Rep xd'∧RX ke' (feedG pol r us d y).2.2 xe'∧kd'≤kd+us.length∧ke'≤ke+32*us.length∧(feedG pol r us d y).2.2.1.1.length≤y.1.1.length+1400*us.length∧(feedG pol r us d y).1≤us.length:=by
 obtain ⟨xd',xe',kd',ke',i1,i2⟩:=feed_L0 h8 hn (a:=a) (b:=b) (pol:=pol) (r:=r) us.length 0 FU64 kd ke d y xd xe (Nat.zero_add _) (by unfold FU64;omega) hd hrd hr hk1 hk2 hb
 rw [List.drop_zero,Nat.zero_add] at i1
 rw [List.drop_zero] at i2
 refine ⟨xd',xe',kd',ke',?_,i2⟩
 rw [←i1]
 unfold stream_Stream_Feed
 rw [show mkS a b pol y.1 false false [xd] [xe]=(a,b,pol,(0:Nat),(0:Nat),y.1.1,y.1.2.1,y.1.2.2.1,y.1.2.2.2,false,false,[xd],[xe]) from rfl]
 dsimp only
 rw [cond_false,cond_false,decide_eq_false (by omega),cond_false]
 rfl
theorem feed_shut {us:List Int} {a b:ByteArray} {pol room:Int} {x:WS} {en cl:Bool} {D:LDS} {E:LES} (h:en=true∨cl=true) :
  stream_Stream_Feed FU64 (us,room,mkS a b pol x en cl D E)=some ([],0,5,mkS a b pol x en cl D E):=by
 unfold stream_Stream_Feed mkS
 dsimp only
 cases cl with
 | true=>rw [cond_true]
 | false=>
  have:en=true:=by simpa using h
  subst this
  rw [cond_false,cond_true]
def flushX (pol:Int) (d:PD) (y:WS×PE):WS:=if y.1.2.2.2=0 then finX pol (takeTs pol y d.fin.1) else y.1
theorem flush_eq {a b:ByteArray} {pol:Int} {r:Nat} (hr16:16≤r) {kd ke:Nat} {d:PD} {y:WS×PE} {xd:DSt} {xe:ESt} (hd:d.Ok kd) (hrd:d.Rep xd) (hr:RX ke y xe) (hk1:kd≤100000000) (hk2:ke+100≤900000000) (hb:y.1.1.length+5000≤900000000) :
  ∃xd' xe',stream_Stream_Flush FU64 ((r:Int),mkS a b pol y.1 false false [xd] [xe])=some ((flushX pol d y).1.take r,payE r (flushX pol d y),mkS a b pol ((flushX pol d y).1.drop r,(flushX pol d y).2) true (payC r (flushX pol d y) true false) [xd'] [xe'])∧(flushX pol d y).1.length≤y.1.1.length+2000:=by
 unfold stream_Stream_Flush flushX
 rw [show mkS a b pol y.1 false false [xd] [xe]=(a,b,pol,(0:Nat),(0:Nat),y.1.1,y.1.2.1,y.1.2.2.1,y.1.2.2.2,false,false,[xd],[xe]) from rfl]
 dsimp only
 rw [cond_false,decide_eq_false (by omega),cond_false,Bool.not_false,cond_true]
 by_cases h0:y.1.2.2.2=0
 ·rw [if_pos h0,beq_t h0,cond_true,List.getElem?_cons_zero,bind_some']
  obtain ⟨xd',e1,e2⟩:=decEnd_eq hd hrd (by omega)
  obtain ⟨f1,f2⟩:=PD.fin_few hd
  have h3:=PD.held3 hd
  obtain ⟨xe',k',e3,e4,e5⟩:=taken_eq f1 (a:=a) (b:=b) (pol:=pol) (en:=false) (cl:=false) (D:=[xd']) (by omega) hr (by omega) (by omega)
  obtain ⟨_,_,_,t3,_⟩:=takeTs_ok (pol:=pol) d.fin.1 hr.ok f1
  rw [e1,bind_some']
  have e3':stream_Stream_taken FU64 (d.fin.1,a,b,pol,(0:Nat),(0:Nat),y.1.1,y.1.2.1,y.1.2.2.1,y.1.2.2.2,false,false,List.set [xd] 0 xd',[xe])=_:=e3
  rw [e3',bind_some']
  generalize takeTs pol y d.fin.1=z at e4 t3 ⊢
  rw [show mkS a b pol z.1 false false [xd'] [xe']=(a,b,pol,(0:Nat),(0:Nat),z.1.1,z.1.2.1,z.1.2.2.1,z.1.2.2.2,false,false,[xd'],[xe']) from rfl]
  dsimp only
  unfold finX
  by_cases hz:z.1.2.2.2=0
  ·obtain ⟨xe2,g1,g2⟩:=encEnd_eq e4.ok e4.rep (by omega)
   obtain ⟨p1,p2,p3,p4⟩:=PE.fin_ok e4.ok
   have hh:=PE.held3 e4.ok
   have hw:=written_eq (ts:=z.2.fin.1) (by omega) p3 (a:=a) (b:=b) (pol:=pol) (x:=z.1) (by omega) (en:=false) (cl:=false) (D:=[xd']) (E:=[xe2])
   have hl:=wrTs_len (pol:=pol) (x:=z.1) p3
   rw [beq_t hz,cond_true,List.getElem?_cons_zero,bind_some',g1,bind_some',if_pos hz]
   have hw':stream_Stream_written FU64 (z.2.fin.1,a,b,pol,(0:Nat),(0:Nat),z.1.1,z.1.2.1,z.1.2.2.1,z.1.2.2.2,false,false,[xd'],List.set [xe'] 0 xe2)=_:=hw
   rw [hw',bind_some']
   have hp:=pay_eq (a:=a) (b:=b) (pol:=pol) (x:=wrTs pol z.1 z.2.fin.1) (en:=true) (cl:=false) (D:=[xd']) (E:=[xe2]) (r:=r) (by omega)
   unfold mkS at hp ⊢
   dsimp only at hp ⊢
   rw [hp,bind_some']
   exact ⟨xd',xe2,rfl,by omega⟩
  ·have hp:=pay_eq (a:=a) (b:=b) (pol:=pol) (x:=z.1) (en:=true) (cl:=false) (D:=[xd']) (E:=[xe']) (r:=r) (by omega)
   unfold mkS at hp ⊢
   dsimp only at hp ⊢
   rw [beq_f hz,cond_false,if_neg hz,hp,bind_some']
   exact ⟨xd',xe',rfl,by omega⟩
 ·have hp:=pay_eq (a:=a) (b:=b) (pol:=pol) (x:=y.1) (en:=true) (cl:=false) (D:=[xd]) (E:=[xe]) (r:=r) (by omega)
  unfold mkS at hp ⊢
  dsimp only at hp ⊢
  rw [if_neg h0,beq_f h0,cond_false,hp,bind_some']
  exact ⟨xd,xe,rfl,by omega⟩
theorem awake_all:allX 0 1 0 [65,128]=([65],1,1,3):=by kernel_rfl
def gAw:Nat×(PD×WS×PE):=feedG 1 16 [161,219] (PD.init 5) (x0,PE.init 0)
theorem gAw1:gAw.1=2:=by kernel_rfl
theorem gAw2:gAw.2.2.1=([224,184,129,239,191,189],0,0,0):=by kernel_rfl
theorem gAw3:flushX 1 gAw.2.1 (([],0,0,0),gAw.2.2.2)=([],0,0,0):=by kernel_rfl
theorem bind_to {α β:Type} {o:Option α} {a:α} {f:α→Option β} {r:Option β} (h:o=some a) (h2:f a=r):o.bind f=r:=by rw [h];exact h2
theorem gAw0:feedG 1 16 [161,219] (PD.init 5) (x0,PE.init 0)=gAw:=rfl
theorem RX.of2 {k:Nat} {y:WS×PE} {xe:ESt} (h:RX k y xe) (x:WS):RX k (x,y.2) xe:=⟨h.ok,h.rep⟩
attribute [local irreducible] gAw
theorem awake20:lontarlaw20_awake FU64 ()=some true:=by
 have n1:codec_Name FU64 ascN=some (nameN 1,0):=name_is (n:=1) (by omega)
 have n2:codec_Name FU64 utfN=some (nameN 0,0):=name_is (n:=0) (by omega)
 have n3:codec_Name FU64 (bs [116,105,115,54,50,48])=some (nameN 5,0):=by kernel_rfl
 have n4:codec_Name FU64 (bs [117,116,102,56])=some (nameN 0,0):=by kernel_rfl
 have e1:=sall_eq (n:=1) (m:=0) (by omega) (by omega) n1 n2 (p:=0) (by omega) (us:=[65,128]) (by intro x hx;simp only [List.mem_cons,List.not_mem_nil,or_false] at hx;omega) (by simp)
 rw [awake_all] at e1
 obtain ⟨xd,xe,e2,r1,r2⟩:=open_eq (n:=5) (m:=0) (by omega) (by omega) n3 n4 (p:=1) (by omega)
 obtain ⟨xd',xe',kd',ke',e3,o1,o2,o3,o4,o5,o6,_⟩:=feed_eq (us:=[161,219]) (by intro x hx;simp only [List.mem_cons,List.not_mem_nil,or_false] at hx;omega) (by simp) (a:=nameN 5) (b:=nameN 0) (pol:=1) (r:=16) (by omega) (kd:=0) (ke:=0) (d:=PD.init 5) (y:=(x0,PE.init 0)) (PD.init_ok 5).1 r1 ⟨(PE.init_ok 0).1,r2⟩ (by simp) (by simp) (by simp [x0])
 rw [gAw0] at e3 o1 o2 o3
 rw [gAw1,gAw2] at e3
 have o3':RX ke' (([],0,0,0),gAw.2.2.2) xe':=o3.of2 _
 obtain ⟨xd2,xe2,e4,_⟩:=flush_eq (a:=nameN 5) (b:=nameN 0) (pol:=1) (r:=16) (by omega) o1 o2 o3' (by simp at o4;omega) (by simp at o5;omega) (by simp)
 rw [gAw3] at e4
 have e5:=feed_shut (us:=[]) (a:=nameN 5) (b:=nameN 0) (pol:=1) (room:=16) (x:=([],0,0,0)) (en:=true) (cl:=true) (D:=[xd2]) (E:=[xe2]) (.inl rfl)
 unfold lontarlaw20_awake
 try dsimp only
 rw [show stream_All FU64 (bs [97,115,99,105,105],bs [117,116,102,45,56],0,[65,128])=_ from e1,bind_some',e2,bind_some']
 dsimp only
 rw [show ((0:Int) != 0)=false from rfl,cond_false]
 refine bind_to e3 ?_
 refine bind_to e4 ?_
 refine bind_to e5 ?_
 kernel_rfl
theorem isU8_app {l m:List Int} (h:isU8 l) (h2:isU8 m):isU8 (l++m):=fun x hx=>(List.mem_append.1 hx).elim (h x) (h2 x)
theorem isU8_w8 (l:List Int):isU8 (l.map w8):=fun x hx=>by
 obtain ⟨y,_,rfl⟩:=List.mem_map.1 hx
 exact w8_r y
theorem wrT_u8 {pol:Int} {x:WS} (h:isU8 x.1) (t:Tok):isU8 (wrT pol x t).1:=by
 unfold wrT
 split
 ·exact h
 ·split
  ·exact isU8_app h (isU8_w8 _)
  ·split
   ·exact h
   ·split
    ·exact isU8_app h (fun x hx=>by rw [List.mem_singleton] at hx;subst hx;omega)
    ·exact h
theorem wrTs_u8 {pol:Int}:∀(ts:List Tok) {x:WS},isU8 x.1→isU8 (wrTs pol x ts).1
 | [],_,h=>h
 | t :: ts,_,h=>wrTs_u8 ts (wrT_u8 h t)
theorem putX_u8 {pol:Int} {y:WS×PE} (h:isU8 y.1.1) (u:Int):isU8 (putX pol y u).1.1:=by
 unfold putX
 split
 ·exact wrTs_u8 _ h
 ·exact h
theorem putsX_u8 {pol:Int}:∀(us:List Int) {y:WS×PE},isU8 y.1.1→isU8 (putsX pol y us).1.1
 | [],_,h=>h
 | u :: us,_,h=>putsX_u8 us (putX_u8 h u)
theorem lastX_u8 {pol:Int} {y:WS×PE} (h:isU8 y.1.1) (f:Int×(Int×Int)):isU8 (lastX pol y f).1.1:=by
 have hw:isU8 (wrTs pol (y.1.1,(0:Int),(0:Int),(0:Int)) y.2.fin.1).1:=wrTs_u8 _ h
 unfold lastX
 dsimp only
 split <;> exact hw
theorem takeT_u8 {pol:Int} {y:WS×PE} (h:isU8 y.1.1) (t:Tok):isU8 (takeT pol y t).1.1:=by
 unfold takeT tkY
 split
 ·exact lastX_u8 (putsX_u8 _ h) _
 ·exact putsX_u8 _ h
theorem takeTs_u8 {pol:Int}:∀(ts:List Tok) {y:WS×PE},isU8 y.1.1→isU8 (takeTs pol y ts).1.1
 | [],_,h=>h
 | t :: ts,_,h=>takeTs_u8 ts (takeT_u8 h t)
theorem finX_u8 {pol:Int} {y:WS×PE} (h:isU8 y.1.1):isU8 (finX pol y).1:=by
 unfold finX
 split
 ·exact wrTs_u8 _ h
 ·exact h
theorem allX_u8 {pol:Int} {n m:Nat} {us:List Int}:isU8 (allX pol n m us).1:=finX_u8 (takeTs_u8 _ (fun x hx=>by cases hx))
theorem wr_ok {pol:Int}:∀(ts:List Tok) {x:WS},x.2.2.2=0→okT ts→wrTs pol x ts=(x.1++(flat ts).map w8,x.2)
 | [],x,_,_=>by simp [wrTs,flat]
 | t :: ts,x,h,ho=>by
  rw [okT_cons] at ho
  have e:wrT pol x t=(x.1++t.2.2.1.map w8,x.2):=by
   unfold wrT
   rw [if_neg (by simp [h]),if_pos ho.1]
  show wrTs pol (wrT pol x t) ts=_
  rw [e,wr_ok ts (x:=(x.1++t.2.2.1.map w8,x.2)) h ho.2]
  have:flat (t :: ts)=t.2.2.1++flat ts:=by simp [flat]
  rw [this,List.map_append,List.append_assoc]
theorem wr_strict:∀(ts:List Tok) {x:WS},(wrTs 0 x ts).2.2.2=0→x.2.2.2=0∧okT ts
 | [],x,h=>⟨h,fun t ht=>by cases ht⟩
 | t :: ts,x,h=>by
  obtain ⟨h1,h2⟩:=wr_strict ts (x:=wrT 0 x t) h
  by_cases h0:x.2.2.2=0
  ·refine ⟨h0,okT_cons.2 ⟨Classical.byContradiction fun ht=>?_,h2⟩⟩
   unfold wrT at h1
   rw [if_neg (by simp [h0]),if_neg ht,if_pos rfl] at h1
   exact ht h1
  ·rw [wrT_fault h0] at h1
   exact absurd h1 h0
theorem puts_ok {pol:Int}:∀(us:List Int) {x:WS} {p:PE},(putsX pol (x,p) us).1.2.2.2=0→putsX pol (x,p) us=(wrTs pol x (p.run us).1,(p.run us).2)
 | [],x,p,_=>rfl
 | u :: us,x,p,h=>by
  have h0:x.2.2.2=0:=Classical.byContradiction fun h0=>by
   rw [putsX_fault h0] at h
   exact h0 h
  have e:putX pol (x,p) u=(wrTs pol x (p.put u).1,(p.put u).2):=if_pos h0
  have e2:putsX pol (x,p) (u :: us)=putsX pol (wrTs pol x (p.put u).1,(p.put u).2) us:=by
   show putsX pol (putX pol (x,p) u) us=_
   rw [e]
  rw [e2] at h ⊢
  rw [puts_ok us h]
  show _=(wrTs pol x ((p.put u).1++(PE.run (p.put u).2 us).1),(PE.run (p.put u).2 us).2)
  rw [wrTs_append]
theorem puts_fine {pol:Int}:∀(us:List Int) {x:WS} {p:PE},x.2.2.2=0→okT (p.run us).1→(putsX pol (x,p) us).1.2.2.2=0
 | [],x,p,h,_=>h
 | u :: us,x,p,h,ho=>by
  have ho:okT ((p.put u).1++(PE.run (p.put u).2 us).1):=ho
  rw [okT_append] at ho
  have e:putX pol (x,p) u=(wrTs pol x (p.put u).1,(p.put u).2):=if_pos h
  have e2:putsX pol (x,p) (u :: us)=putsX pol (wrTs pol x (p.put u).1,(p.put u).2) us:=by
   show putsX pol (putX pol (x,p) u) us=_
   rw [e]
  rw [e2]
  refine puts_fine us ?_ ho.2
  rw [wr_ok _ h ho.1]
  exact h
theorem takeT_ok0 {pol:Int} {y:WS×PE} {t:Tok} (h:t.2.2.2=0):takeT pol y t=putsX pol y t.2.2.1:=by
 unfold takeT tkY
 rw [if_neg (fun hw=>hw.1 h)]
 unfold tkO
 rw [if_neg (by simp [h])]
theorem take_ok {pol:Int}:∀(ts:List Tok) {y:WS×PE},okT ts→takeTs pol y ts=putsX pol y (flat ts)
 | [],y,_=>rfl
 | t :: ts,y,h=>by
  rw [okT_cons] at h
  show takeTs pol (takeT pol y t) ts=_
  rw [takeT_ok0 h.1,take_ok ts h.2]
  have:flat (t :: ts)=t.2.2.1++flat ts:=by simp [flat]
  rw [this]
  simp [putsX]
theorem allX_fine {pol:Int} {n m:Nat} {us:List Int} (h1:okT ((PD.init n).all us)) (h2:okT ((PE.init m).all (flat ((PD.init n).all us)))):allX pol n m us=((flat ((PE.init m).all (flat ((PD.init n).all us)))).map w8,0,0,0):=by
 unfold allX
 rw [take_ok _ h1]
 generalize flat ((PD.init n).all us)=ss at *
 unfold PE.all at h2 ⊢
 have h3:=okT_append.1 h2
 have h4:=puts_fine (pol:=pol) ss (x:=x0) (p:=PE.init m) rfl h3.1
 have h5:=puts_ok _ h4
 rw [h5] at h4 ⊢
 unfold finX
 rw [if_pos h4,←wrTs_append,wr_ok _ rfl h2]
 rfl
theorem toks_unitsP {rs:List Rule} {P:Int→Prop} (hP:∀r∈rs,∀u∈r.1,P u):∀(us:List Int) (a:Int),okT (toksA rs a us)→∀u∈us,P u:=by
 intro us
 induction us using toks_ind (rs:=rs) with
 | h0=>intro a _ u hu;cases hu
 | h1 us hne ih=>
  intro a hok u hu
  rw [toksA_cons hne] at hok
  have h0:=hok _ (List.mem_cons_self)
  have hn:nn rs us≠0:=fun h0'=>by
   unfold tok at h0
   rw [if_pos h0'] at h0
   cases h0
  have hadv:adv rs us=nn rs us:=by unfold adv;omega
  rw [←List.take_append_drop (adv rs us) us,List.mem_append] at hu
  rcases hu with hu | hu
  ·obtain ⟨t,ht,et⟩:=anyIn_iff.1 (lngN_has (rs:=rs) (us:=us) us.length (by unfold nn at hn;omega))
   rw [hadv] at hu
   have:u∈t.1:=by rw [et];exact hu
   exact hP t ht u this
  ·exact ih _ (fun x hx=>hok x (List.mem_cons_of_mem _ hx)) u hu
theorem isR_byte:∀r∈isR,∀u∈r.1,0≤u∧u<256:=by
 have h:hdB isR=true:=by kernel_rfl
 simp only [hdB,List.all_eq_true,Bool.and_eq_true,decide_eq_true_eq] at h
 exact h
theorem enc_u8 {n:Nat} {x:List Int} (h:okT ((PE.init n).all x)):isU8 (flat ((PE.init n).all x)):=by
 have hb:=(back_all h).1
 by_cases h0:n=0
 ·subst h0
  have e:PE.init 0=PE.utf 0:=by unfold PE.init;rw [if_pos rfl]
  rw [e] at h ⊢
  rw [PE.all_utf] at h ⊢
  obtain ⟨h1,h2⟩:=stoks_ok x 0 h
  rw [h2]
  exact flat_u8 h1
 ·generalize flat ((PE.init n).all x)=f at hb ⊢
  by_cases h7:n=7
  ·have e:PD.init n=PD.isc isR 0 [] 0:=by unfold PD.init;rw [if_neg h0,if_pos h7]
   rw [e,PD.all_isc,List.nil_append,meanT_ok] at hb
   exact toks_unitsP isR_byte f 0 hb
  ·have e:PD.init n=PD.tab (tabR n) [] 0:=by unfold PD.init;rw [if_neg h0,if_neg h7]
   rw [e,PD.all_tab,List.nil_append] at hb
   exact toks_unitsP (tab_all n).byte f 0 hb
theorem eqS_mk2 (l m:List Int) (h:l=m):eqS (ByteArray.mk (List.toArray (List.map (fun n=>(UInt8.ofNat (Int.toNat n))) l))) (ByteArray.mk (List.toArray (List.map (fun n=>(UInt8.ofNat (Int.toNat n))) m)))=true:=by
 subst h
 rw [eqS_dec,decide_eq_true rfl]
end Go.AM.M
namespace Go.AM.M
open Go.AM
set_option maxRecDepth 100000
def vietL:List (Int×Nat×Nat):=[(97,0,0),(97,0,4607182418800017408),(97,0,4611686018427387904),(97,0,4613937818241073152),(97,0,4616189618054758400),(97,0,4617315517961601024),(97,4607182418800017408,0),(97,4607182418800017408,4607182418800017408),(97,4607182418800017408,4611686018427387904),(97,4607182418800017408,4613937818241073152),(97,4607182418800017408,4616189618054758400),(97,4607182418800017408,4617315517961601024),(97,4611686018427387904,0),(97,4611686018427387904,4607182418800017408),(97,4611686018427387904,4611686018427387904),(97,4611686018427387904,4613937818241073152),(97,4611686018427387904,4616189618054758400),(97,4611686018427387904,4617315517961601024),(101,0,0),(101,0,4607182418800017408),(101,0,4611686018427387904),(101,0,4613937818241073152),(101,0,4616189618054758400),(101,0,4617315517961601024),(101,4611686018427387904,0),(101,4611686018427387904,4607182418800017408),(101,4611686018427387904,4611686018427387904),(101,4611686018427387904,4613937818241073152),(101,4611686018427387904,4616189618054758400),(101,4611686018427387904,4617315517961601024),(105,0,0),(105,0,4607182418800017408),(105,0,4611686018427387904),(105,0,4613937818241073152),(105,0,4616189618054758400),(105,0,4617315517961601024),(111,0,0),(111,0,4607182418800017408),(111,0,4611686018427387904),(111,0,4613937818241073152),(111,0,4616189618054758400),(111,0,4617315517961601024),(111,4611686018427387904,0),(111,4611686018427387904,4607182418800017408),(111,4611686018427387904,4611686018427387904),(111,4611686018427387904,4613937818241073152),(111,4611686018427387904,4616189618054758400),(111,4611686018427387904,4617315517961601024),(111,4613937818241073152,0),(111,4613937818241073152,4607182418800017408),(111,4613937818241073152,4611686018427387904),(111,4613937818241073152,4613937818241073152),(111,4613937818241073152,4616189618054758400),(111,4613937818241073152,4617315517961601024),(117,0,0),(117,0,4607182418800017408),(117,0,4611686018427387904),(117,0,4613937818241073152),(117,0,4616189618054758400),(117,0,4617315517961601024),(117,4613937818241073152,0),(117,4613937818241073152,4607182418800017408),(117,4613937818241073152,4611686018427387904),(117,4613937818241073152,4613937818241073152),(117,4613937818241073152,4616189618054758400),(117,4613937818241073152,4617315517961601024),(121,0,0),(121,0,4607182418800017408),(121,0,4611686018427387904),(121,0,4613937818241073152),(121,0,4616189618054758400),(121,0,4617315517961601024),(100,0,0),(100,4616189618054758400,0),(65,0,0),(65,0,4607182418800017408),(65,0,4611686018427387904),(65,0,4613937818241073152),(65,0,4616189618054758400),(65,0,4617315517961601024),(65,4607182418800017408,0),(65,4607182418800017408,4607182418800017408),(65,4607182418800017408,4611686018427387904),(65,4607182418800017408,4613937818241073152),(65,4607182418800017408,4616189618054758400),(65,4607182418800017408,4617315517961601024),(65,4611686018427387904,0),(65,4611686018427387904,4607182418800017408),(65,4611686018427387904,4611686018427387904),(65,4611686018427387904,4613937818241073152),(65,4611686018427387904,4616189618054758400),(65,4611686018427387904,4617315517961601024),(69,0,0),(69,0,4607182418800017408),(69,0,4611686018427387904),(69,0,4613937818241073152),(69,0,4616189618054758400),(69,0,4617315517961601024),(69,4611686018427387904,0),(69,4611686018427387904,4607182418800017408),(69,4611686018427387904,4611686018427387904),(69,4611686018427387904,4613937818241073152),(69,4611686018427387904,4616189618054758400),(69,4611686018427387904,4617315517961601024),(73,0,0),(73,0,4607182418800017408),(73,0,4611686018427387904),(73,0,4613937818241073152),(73,0,4616189618054758400),(73,0,4617315517961601024),(79,0,0),(79,0,4607182418800017408),(79,0,4611686018427387904),(79,0,4613937818241073152),(79,0,4616189618054758400),(79,0,4617315517961601024),(79,4611686018427387904,0),(79,4611686018427387904,4607182418800017408),(79,4611686018427387904,4611686018427387904),(79,4611686018427387904,4613937818241073152),(79,4611686018427387904,4616189618054758400),(79,4611686018427387904,4617315517961601024),(79,4613937818241073152,0),(79,4613937818241073152,4607182418800017408),(79,4613937818241073152,4611686018427387904),(79,4613937818241073152,4613937818241073152),(79,4613937818241073152,4616189618054758400),(79,4613937818241073152,4617315517961601024),(85,0,0),(85,0,4607182418800017408),(85,0,4611686018427387904),(85,0,4613937818241073152),(85,0,4616189618054758400),(85,0,4617315517961601024),(85,4613937818241073152,0),(85,4613937818241073152,4607182418800017408),(85,4613937818241073152,4611686018427387904),(85,4613937818241073152,4613937818241073152),(85,4613937818241073152,4616189618054758400),(85,4613937818241073152,4617315517961601024),(89,0,0),(89,0,4607182418800017408),(89,0,4611686018427387904),(89,0,4613937818241073152),(89,0,4616189618054758400),(89,0,4617315517961601024),(68,0,0),(68,4616189618054758400,0)]
def vietC:List Int:=[97,224,225,7843,227,7841,259,7857,7855,7859,7861,7863,226,7847,7845,7849,7851,7853,101,232,233,7867,7869,7865,234,7873,7871,7875,7877,7879,105,236,237,7881,297,7883,111,242,243,7887,245,7885,244,7891,7889,7893,7895,7897,417,7901,7899,7903,7905,7907,117,249,250,7911,361,7909,432,7915,7913,7917,7919,7921,121,7923,253,7927,7929,7925,100,273,65,192,193,7842,195,7840,258,7856,7854,7858,7860,7862,194,7846,7844,7848,7850,7852,69,200,201,7866,7868,7864,202,7872,7870,7874,7876,7878,73,204,205,7880,296,7882,79,210,211,7886,213,7884,212,7890,7888,7892,7894,7896,416,7900,7898,7902,7904,7906,85,217,218,7910,360,7908,431,7914,7912,7916,7918,7920,89,7922,221,7926,7928,7924,68,272]
theorem viet_all:viet_All FU64 ()=some (vietL,vietC):=by kernel_rfl
theorem vietL_len:vietL.length=148:=rfl
theorem vietC_len:vietC.length=148:=rfl
theorem vietC_scal:vietC.all scalB=true:=by kernel_rfl
def FL:List Nat:=[0,4607182418800017408,4611686018427387904,4613937818241073152,4616189618054758400,4617315517961601024]
def feq (a b:Nat):Bool:=Go.Op.floatEq Go.FloatKind.f64 a b
theorem FL_refl:(FL.all fun a=>feq a a)=true:=by kernel_rfl
theorem FL_L:(vietL.all fun l=>FL.contains l.2.1 && FL.contains l.2.2)=true:=by kernel_rfl
theorem FL_add:(FL.all fun a=>FL.all fun b=>!(feq a 0 || feq b 0) || (match fadd a b with | some y=>FL.contains y | none=>false))=true:=by kernel_rfl
theorem fadd_ok {a b:Nat} (ha:a∈FL) (hb:b∈FL) (h:feq a 0=true∨feq b 0=true):∃y∈FL,fadd a b=some y:=by
 have h1:=List.all_eq_true.1 (List.all_eq_true.1 FL_add a ha) b hb
 have h2:(feq a 0 || feq b 0)=true:=by rcases h with h | h <;> simp [h]
 rw [h2] at h1
 cases hf:fadd a b with
 | none=>rw [hf] at h1;cases h1
 | some y=>
  rw [hf] at h1
  exact ⟨y,by simpa using h1,rfl⟩
def hitV (y:Int×(Nat×Nat)) (l:Int×(Nat×Nat)):Bool:=eqI y.1 l.1 && ((feq y.2.1 l.2.1 && feq y.2.2 l.2.2) && true)
theorem hitV_refl {l:Int×(Nat×Nat)} (h1:l.2.1∈FL) (h2:l.2.2∈FL):hitV l l=true:=by
 have e1:eqI l.1 l.1=true:=decide_eq_true rfl
 have e2:feq l.2.1 l.2.1=true:=List.all_eq_true.1 FL_refl _ h1
 have e3:feq l.2.2 l.2.2=true:=List.all_eq_true.1 FL_refl _ h2
 unfold hitV
 rw [e1,e2,e3]
 rfl
theorem join_loop (l:Int×(Nat×Nat)):∀(m i g:Nat),i+m=148→m<g→∃j t,loopM (viet_Join_L0 FU64) g (vietL,vietC,vietL,(148:Int),(i:Int),l.1,l.2.1,l.2.2)=some (j,t)∧(t=true→scalB j=true)∧((∃k,∃h:k<vietL.length,i≤k∧hitV vietL[k] l=true)→t=true):=by
 intro m
 induction m with
 | zero=>
  intro i g hi hg
  obtain ⟨g,rfl⟩:∃q,g=q+1:=⟨g - 1,by omega⟩
  refine ⟨0,false,?_,fun h=>(by cases h),fun ⟨k,h1,h2,_⟩=>?_⟩
  ·rw [loopM_succ]
   unfold viet_Join_L0
   dsimp only
   rw [decide_eq_false (by omega),cond_false]
  ·have:=vietL_len
   omega
 | succ m ih=>
  intro i g hi hg
  obtain ⟨g,rfl⟩:∃q,g=q+1:=⟨g - 1,by omega⟩
  have hL:i<vietL.length:=by rw [vietL_len];omega
  have hC:i<vietC.length:=by rw [vietC_len];omega
  have hstep:viet_Join_L0 FU64 (vietL,vietC,vietL,(148:Int),(i:Int),l.1,l.2.1,l.2.2)=bif hitV vietL[i] l then some (.inr (vietC[i],true)) else some (.inl (vietL,vietC,vietL,(148:Int),((i+1:Nat):Int),l.1,l.2.1,l.2.2)):=by
   unfold viet_Join_L0
   dsimp only
   rw [decide_eq_true (by omega),cond_true,nthI_get hL,bind_some',nthI_get hC,bind_some',w64_id (n:=(i:Int)+1) (by omega) (by omega)]
   rfl
  rw [loopM_succ,hstep]
  cases hh:hitV vietL[i] l with
  | true=>exact ⟨vietC[i],true,rfl,fun _=>List.all_eq_true.1 vietC_scal _ (List.getElem_mem hC),fun _=>rfl⟩
  | false=>
   obtain ⟨j,t,e,h1,h2⟩:=ih (i+1) g (by omega) (by omega)
   refine ⟨j,t,e,h1,fun ⟨k,q1,q2,q3⟩=>h2 ⟨k,q1,?_,q3⟩⟩
   rcases Nat.eq_or_lt_of_le q2 with e | e
   ·subst e
    exact absurd (hh.symm.trans q3) (by decide)
   ·exact e
theorem join_ok (l:Int×(Nat×Nat)):∃j t,viet_Join FU64 (l.1,l.2.1,l.2.2)=some (j,t)∧(t=true→scalB j=true)∧((∃k,∃h:k<vietL.length,hitV vietL[k] l=true)→t=true):=by
 obtain ⟨j,t,e,h1,h2⟩:=join_loop l 148 0 FU64 rfl (by unfold FU64;omega)
 refine ⟨j,t,?_,h1,fun ⟨k,q1,q2⟩=>h2 ⟨k,q1,Nat.zero_le _,q2⟩⟩
 unfold viet_Join
 dsimp only
 rw [viet_all,bind_some']
 exact e
def kept (b:Int) (z:Nat×Nat):Prop:=z.1∈FL∧z.2∈FL∧∃j,viet_Join FU64 (b,z.1,z.2)=some (j,true)∧scalB j=true
theorem split_loop (s:Int):∀(m i g:Nat) (q1 q2:Int) (q3 q4:Nat),i+m=148→m<g→∃b z t,loopM (viet_Split_L0 FU64) g (s,vietL,vietC,vietC,(148:Int),(i:Int),q1,q3,q4)=some (b,z,t)∧(t=true→kept b z):=by
 intro m
 induction m with
 | zero=>
  intro i g q1 q2 q3 q4 hi hg
  obtain ⟨g,rfl⟩:∃q,g=q+1:=⟨g - 1,by omega⟩
  refine ⟨0,(0,0),false,?_,fun h=>(by cases h)⟩
  rw [loopM_succ]
  unfold viet_Split_L0
  dsimp only
  rw [decide_eq_false (by omega),cond_false]
 | succ m ih=>
  intro i g q1 q2 q3 q4 hi hg
  obtain ⟨g,rfl⟩:∃q,g=q+1:=⟨g - 1,by omega⟩
  have hL:i<vietL.length:=by rw [vietL_len];omega
  have hC:i<vietC.length:=by rw [vietC_len];omega
  rw [loopM_succ]
  unfold viet_Split_L0
  dsimp only
  rw [decide_eq_true (by omega),cond_true,nthI_get hC,bind_some',nthI_get hL,bind_some',w64_id (n:=(i:Int)+1) (by omega) (by omega)]
  by_cases h:vietC[i]=s
  ·rw [beq_t h,cond_true]
   refine ⟨vietL[i].1,(vietL[i].2.1,vietL[i].2.2),true,rfl,fun _=>?_⟩
   have hf:=List.all_eq_true.1 FL_L _ (List.getElem_mem hL)
   simp only [Bool.and_eq_true,List.contains_iff_mem] at hf
   refine ⟨hf.1,hf.2,?_⟩
   obtain ⟨j,t,e,h1,h2⟩:=join_ok vietL[i]
   have ht:t=true:=h2 ⟨i,hL,hitV_refl hf.1 hf.2⟩
   subst ht
   exact ⟨j,e,h1 rfl⟩
  ·rw [beq_f h,cond_false]
   exact ih (i+1) g q1 q2 q3 q4 (by omega) (by omega)
theorem split_ok (s:Int):∃b z t,viet_Split FU64 s=some (b,z,t)∧(t=true→kept b z):=by
 obtain ⟨b,z,t,e,h⟩:=split_loop s 148 0 FU64 0 0 0 0 rfl (by unfold FU64;omega)
 refine ⟨b,z,t,?_,h⟩
 unfold viet_Split
 dsimp only
 rw [viet_all,bind_some']
 exact e
theorem sign_ok (s:Int):∃z t,viet_Sign FU64 s=some (z,t)∧z.1∈FL∧z.2∈FL:=by
 unfold viet_Sign
 dsimp only
 repeat' (first | exact ⟨_,_,rfl,by decide,by decide⟩ | (cases (s == _) <;> (try rw [cond_true]) <;> (try rw [cond_false])))
theorem add_fin {b:Int} {z w:Nat×Nat} (h1:z.1∈FL) (h2:z.2∈FL) (h3:w.1∈FL) (h4:w.2∈FL) (ha:feq z.1 0=true∨feq w.1 0=true) (hb:feq z.2 0=true∨feq w.2 0=true) :
  ∃b' x t,((fadd z.1 w.1).bind fun y0=>(fadd z.2 w.2).bind fun y1=>(viet_Join FU64 (b,y0,y1)).bind fun y2=>bif (!y2.2) then some (b,(z.1,z.2),false) else some (b,(y0,y1),true))=some (b',x,t)∧(t=true→kept b' x):=by
 obtain ⟨y0,m0,e0⟩:=fadd_ok h1 h3 ha
 obtain ⟨y1,m1,e1⟩:=fadd_ok h2 h4 hb
 obtain ⟨j,t,e,q1,_⟩:=join_ok (b,y0,y1)
 have e:viet_Join FU64 (b,y0,y1)=some (j,t):=e
 rw [e0,bind_some',e1,bind_some',e,bind_some']
 cases t with
 | false=>exact ⟨_,_,_,rfl,fun h=>(by cases h)⟩
 | true=>exact ⟨_,_,_,rfl,fun _=>⟨m0,m1,j,e,q1 rfl⟩⟩
theorem add_ok {b:Int} {z w:Nat×Nat} (h1:z.1∈FL) (h2:z.2∈FL) (h3:w.1∈FL) (h4:w.2∈FL):∃b' x t,viet_Add FU64 (b,(z.1,z.2),w.1,w.2)=some (b',x,t)∧(t=true→kept b' x):=by
 unfold viet_Add
 dsimp only
 rw [show Go.Op.floatEq Go.FloatKind.f64 z.1 0=feq z.1 0 from rfl,show Go.Op.floatEq Go.FloatKind.f64 z.2 0=feq z.2 0 from rfl,show Go.Op.floatEq Go.FloatKind.f64 w.1 0=feq w.1 0 from rfl,show Go.Op.floatEq Go.FloatKind.f64 w.2 0=feq w.2 0 from rfl]
 have key:=fun ha hb=>add_fin (b:=b) h1 h2 h3 h4 ha hb
 have no:∃b' x t,(some (b,(z.1,z.2),false):Option (Int×(Nat×Nat)×Bool))=some (b',x,t)∧(t=true→kept b' x):=⟨_,_,_,rfl,fun h=>(by cases h)⟩
 cases a1:feq z.1 0 <;> cases a2:feq z.2 0 <;> cases a3:feq w.1 0 <;> cases a4:feq w.2 0 <;> first
  | exact no
  | exact key (.inl a1) (.inl a2)
  | exact key (.inl a1) (.inr a4)
  | exact key (.inr a3) (.inl a2)
  | exact key (.inr a3) (.inr a4)
def canS (b:Int) (z:Nat×Nat) (t:Bool):Prop:=t=true→kept b z
theorem cend_ok {b:Int} {z:Nat×Nat} {t:Bool} (h:canS b z t):∃q b' z' t',vcanon_Canon_End FU64 (b,(z.1,z.2),t)=some (q,b',z',t')∧q.length≤1∧(∀s∈q,scalB s=true)∧t'=false:=by
 unfold vcanon_Canon_End
 dsimp only
 cases t with
 | false=>exact ⟨[],b,(z.1,z.2),false,rfl,by simp,fun s hs=>(by cases hs),rfl⟩
 | true=>
  obtain ⟨_,_,j,e,hj⟩:=h rfl
  refine ⟨[j],b,(z.1,z.2),false,?_,by simp,fun s hs=>?_,rfl⟩
  ·rw [e];rfl
  ·rw [List.mem_singleton] at hs
   subst hs;exact hj
theorem cput_end {b:Int} {z:Nat×Nat} {t:Bool} (h:canS b z t) {s:Int} (hs:scalB s=true):∃q b' z' t',((vcanon_Canon_End FU64 (b,(z.1,z.2),t)).bind fun y6=>(viet_Split FU64 s).bind fun y7=>bif y7.2.2 then some (y6.1,y7.1,(y7.2.1.1,y7.2.1.2),true) else bif (decide ((((List.length y6.1)+(List.length [s]))*(8:Nat))≤((2:Nat) ^ (46:Nat)))) then some ((y6.1++[s]),y6.2.1,(y6.2.2.1.1,y6.2.2.1.2),y6.2.2.2) else none)=some (q,b',z',t')∧q.length≤2∧(∀s∈q,scalB s=true)∧canS b' z' t':=by
 obtain ⟨q,b',z',t',e,h1,h2,h3⟩:=cend_ok h
 obtain ⟨b2,z2,t2,e2,h4⟩:=split_ok s
 rw [e,bind_some',e2,bind_some']
 dsimp only
 cases t2 with
 | true=>exact ⟨q,b2,z2,true,rfl,by omega,h2,h4⟩
 | false=>
  rw [cond_false,decide_eq_true (by simp;omega),cond_true]
  refine ⟨q++[s],b',z',t',rfl,by simp;omega,fun x hx=>?_,fun ht=>?_⟩
  ·rw [List.mem_append,List.mem_singleton] at hx
   rcases hx with hx | rfl
   ·exact h2 x hx
   ·exact hs
  ·rw [h3] at ht;cases ht
theorem cput_ok {b:Int} {z:Nat×Nat} {t:Bool} (h:canS b z t) {s:Int} (hs:scalB s=true):∃q b' z' t',vcanon_Canon_Put FU64 (s,b,(z.1,z.2),t)=some (q,b',z',t')∧q.length≤2∧(∀s∈q,scalB s=true)∧canS b' z' t':=by
 obtain ⟨w,g,e,w1,w2⟩:=sign_ok s
 have ce:=cput_end h hs
 unfold vcanon_Canon_Put
 dsimp only
 rw [e,bind_some']
 dsimp only
 cases g with
 | false=>exact ce
 | true=>
  rw [cond_true]
  cases t with
  | false=>exact ce
  | true=>
   rw [cond_true]
   obtain ⟨k1,k2,k3⟩:=h rfl
   obtain ⟨b',x,t',e2,h2⟩:=add_ok (b:=b) k1 k2 w1 w2
   rw [e2,bind_some']
   dsimp only
   cases t' with
   | true=>rw [cond_true];exact ⟨[],b',x,true,rfl,by simp,fun s hs=>(by cases hs),h2⟩
   | false=>rw [cond_false];exact ce
theorem call_loop {us:List Int} (hu:us.length≤1000) (hs:∀u∈us,scalB u=true):∀(m i g:Nat) (out:List Int) (b:Int) (z:Nat×Nat) (t:Bool),i+m=us.length→m<g→canS b z t→out.length≤2*i→(∀u∈out,scalB u=true)→
  ∃ws,loopM (vcanon_All_L0 FU64) g (us,out,us,(us.length:Int),(i:Int),b,(z.1,z.2),t)=some ws∧ws.length≤2*us.length+1∧∀u∈ws,scalB u=true:=by
 intro m
 induction m with
 | zero=>
  intro i g out b z t hi hg hc hl ho
  obtain ⟨g,rfl⟩:∃q,g=q+1:=⟨g - 1,by omega⟩
  obtain ⟨q,b',z',t',e,h1,h2,h3⟩:=cend_ok hc
  refine ⟨out++q,?_,by simp;omega,fun u hu=>(List.mem_append.1 hu).elim (ho u) (h2 u)⟩
  rw [loopM_succ]
  unfold vcanon_All_L0
  dsimp only
  rw [decide_eq_false (by omega),cond_false,e,bind_some',decide_eq_true (by dsimp only;omega),cond_true]
  rfl
 | succ m ih=>
  intro i g out b z t hi hg hc hl ho
  obtain ⟨g,rfl⟩:∃q,g=q+1:=⟨g - 1,by omega⟩
  have hil:i<us.length:=by omega
  obtain ⟨q,b',z',t',e,h1,h2,h3⟩:=cput_ok hc (hs us[i] (List.getElem_mem hil))
  have e0:vcanon_All_L0 FU64 (us,out,us,(us.length:Int),(i:Int),b,(z.1,z.2),t)=some (.inl (us,(out++q,(us,(us.length:Int),((i+1:Nat):Int),b',(z'.1,z'.2),t')))):=by
   unfold vcanon_All_L0
   dsimp only
   rw [decide_eq_true (by omega),cond_true,nthI_get hil,bind_some',e,bind_some',decide_eq_true (by dsimp only;omega),cond_true,w64_succ hil (by omega)]
  rw [loopM_succ,e0]
  exact ih (i+1) g (out++q) b' z' t' (by omega) (by omega) h3 (by simp;omega) (fun u hu=>(List.mem_append.1 hu).elim (ho u) (h2 u))
theorem call_ok {us:List Int} (hu:us.length≤1000) (hs:∀u∈us,scalB u=true):∃ws,vcanon_All FU64 us=some ws∧ws.length≤2*us.length+1∧∀u∈ws,scalB u=true:=
 call_loop hu hs us.length 0 FU64 [] 0 (0,0) false (Nat.zero_add _) (by unfold FU64;omega) (fun h=>(by cases h)) (by simp) (fun u hu=>(by cases hu))
end Go.AM.M
namespace Go.AM.M
open Go.AM
theorem ubytes_eq {us:List Int} (hs:∀u∈us,scalB u=true) (hn:us.length≤10000):utf_Bytes FU64 us=some (us.flatMap u8):=by
 have hlen:∀k:Nat,k≤us.length→((us.take k).flatMap u8).length≤4*k:=fun k hk=>by
  have h4:∀l:List Int,(l.flatMap u8).length≤4*l.length:=fun l=>by
   induction l with
   | nil=>simp
   | cons a l ih=>
    have:=u8_len (s:=a)
    rw [List.flatMap_cons,List.length_append,List.length_cons]
    omega
  have:=h4 (us.take k)
  rw [List.length_take,Nat.min_eq_left hk] at this
  exact this
 unfold utf_Bytes
 dsimp only
 have:=loop_st (f:=utf_Bytes_L0 FU64) (fun k=>(us,(us.take k).flatMap u8,us,(us.length:Int),(k:Int))) (m:=us.length) (fu:=FU64) (r:=us.flatMap u8) (fun k hk=>by
   unfold utf_Bytes_L0
   dsimp only
   have hl:=hlen k (by omega)
   rw [decide_eq_true (by omega),cond_true,nthI_get hk,bind_some',uputok_eq (hs _ (List.getElem_mem hk)) (by omega),bind_some',w64_succ hk (by omega),List.take_succ_eq_append_getElem hk,List.flatMap_append]
   simp) (by
   unfold utf_Bytes_L0
   dsimp only
   rw [decide_eq_false (by omega),cond_false,List.take_length]) (by unfold FU64;omega)
 exact this
theorem puts_ws {pol:Int}:∀(us:List Int) {x:WS} {p:PE},(putsX pol (x,p) us).1=wrTs pol x (p.run us).1
 | [],x,p=>rfl
 | u :: us,x,p=>by
  show _=wrTs pol x ((p.put u).1++(PE.run (p.put u).2 us).1)
  by_cases h0:x.2.2.2=0
  ·have e:putX pol (x,p) u=(wrTs pol x (p.put u).1,(p.put u).2):=if_pos h0
   show (putsX pol (putX pol (x,p) u) us).1=_
   rw [e,puts_ws us,wrTs_append]
  ·rw [putsX_fault h0,wrTs_fault h0]
theorem fin_ws {pol:Int} (us:List Int) {x:WS} {p:PE}:finX pol (putsX pol (x,p) us)=wrTs pol x (p.all us):=by
 unfold finX PE.all
 rw [wrTs_append]
 by_cases h:(putsX pol (x,p) us).1.2.2.2=0
 ·rw [if_pos h,puts_ok us h]
 ·rw [if_neg h,puts_ws]
  rw [puts_ws] at h
  rw [wrTs_fault h]
theorem wr_pre:∀(ts:List Tok) {x:WS},x.2.2.2=0→∃i,okT (ts.take i)∧(wrTs 0 x ts).1=x.1++(flat (ts.take i)).map w8∧((wrTs 0 x ts).2.2.2≠0→(wrTs 0 x ts).2.1=2)
 | [],x,h=>⟨0,fun t ht=>(by cases ht),by simp [wrTs,flat],fun h2=>absurd h h2⟩
 | t :: ts,x,h=>by
  by_cases h0:t.2.2.2=0
  ·have e:wrT 0 x t=(x.1++t.2.2.1.map w8,x.2):=by
    unfold wrT
    rw [if_neg (by simp [h]),if_pos h0]
   obtain ⟨i,h1,h2,h3⟩:=wr_pre ts (x:=(x.1++t.2.2.1.map w8,x.2)) h
   refine ⟨i+1,okT_cons.2 ⟨h0,h1⟩,?_,?_⟩
   ·show (wrTs 0 (wrT 0 x t) ts).1=_
    rw [e,h2]
    simp [flat]
   ·show (wrTs 0 (wrT 0 x t) ts).2.2.2≠0→(wrTs 0 (wrT 0 x t) ts).2.1=2
    rw [e];exact h3
  ·have e:wrT 0 x t=(x.1,2,t.1,t.2.2.2):=by
    unfold wrT
    rw [if_neg (by simp [h]),if_neg h0,if_pos rfl]
   have e2:wrTs 0 x (t :: ts)=(x.1,2,t.1,t.2.2.2):=by
    show wrTs 0 (wrT 0 x t) ts=_
    rw [e,wrTs_fault h0]
   rw [e2]
   exact ⟨0,fun t ht=>(by cases ht),by simp [flat],fun _=>rfl⟩
theorem toks_take {rs:List Rule}:∀(us:List Int) (a:Int) (i:Nat),okT ((toksA rs a us).take i)→∃k,toksA rs a (us.take k)=(toksA rs a us).take i:=by
 intro us
 induction us using toks_ind (rs:=rs) with
 | h0=>intro a i _;exact ⟨0,by simp [toksA_nil]⟩
 | h1 us hne ih=>
  intro a i hok
  cases i with
  | zero=>exact ⟨0,by simp [toksA_nil]⟩
  | succ i=>
   rw [toksA_cons hne,List.take_succ_cons] at hok ⊢
   rw [okT_cons] at hok
   have hn:nn rs us≠0:=fun h0=>by
    have:=hok.1
    unfold tok at this
    rw [if_pos h0] at this
    cases this
   have hadv:adv rs us=nn rs us:=by unfold adv;omega
   obtain ⟨k,hk⟩:=ih _ i hok.2
   have hle:=lngN_le (rs:=rs) (us:=us) us.length
   have hle:nn rs us≤us.length:=hle
   have hV:(us.take (nn rs us+k)).length=min (nn rs us+k) us.length:=List.length_take
   have htk:(us.take (nn rs us+k)).take (nn rs us)=us.take (nn rs us):=by rw [List.take_take,Nat.min_eq_left (by omega)]
   have hVn:us.take (nn rs us+k)≠[]:=fun e=>by
    rw [e] at hV
    have:=List.length_pos_iff.2 hne
    simp at hV
    omega
   have hnn:nn rs (us.take (nn rs us+k))=nn rs us:=by
    show lngN rs _ _=_
    refine lngN_eq (by rw [hV];omega) (.inr ?_) fun q hq hq2=>?_
    ·rw [htk]
     exact lngN_has us.length (by unfold nn at hn;omega)
    ·rw [Bool.eq_false_iff]
     intro hc
     rw [hV] at hq2
     rw [List.take_take,Nat.min_eq_left (by omega)] at hc
     have:=lngN_max (rs:=rs) (us:=us) (n:=q) (by omega) hc us.length (by omega)
     have:q≤nn rs us:=this
     omega
   have hadv2:adv rs (us.take (nn rs us+k))=nn rs us:=by unfold adv;omega
   refine ⟨nn rs us+k,?_⟩
   rw [toksA_cons hVn,hadv2]
   have htok:tok rs a (us.take (nn rs us+k))=tok rs a us:=by
    unfold tok
    rw [hnn,htk]
   rw [hadv] at hk
   rw [htok,List.drop_take,show nn rs us+k - nn rs us=k by omega,hk,hadv]
theorem joinF_take {rs:List Rule}:∀(xs:List Tok) (ah:List Int) (i:Nat),(joinF rs ah (xs.take i)).1=(joinF rs ah xs).1.take i
 | [],_,_=>by simp [joinF]
 | x :: xs,ah,0=>by simp [joinF]
 | x :: xs,ah,i+1=>by
  simp only [List.take_succ_cons,joinF]
  rw [joinF_take xs _ i]
theorem pre_all {m:Nat} (h0:m≠0) (h7:m≠7) {ws:List Int} {i:Nat} (hok:okT (((PE.init m).all ws).take i)):∃k,(PE.init m).all (ws.take k)=((PE.init m).all ws).take i:=by
 have e:PE.init m=PE.tab (tabR m) [] [] 0:=by unfold PE.init;rw [if_neg h0,if_neg h7]
 rw [e,PE.all_tab,List.nil_append,←joinF_take] at hok
 obtain ⟨k,hk⟩:=toks_take ws 0 i (joinF_ok _ _ hok)
 refine ⟨k,?_⟩
 rw [e,PE.all_tab,PE.all_tab,List.nil_append,List.nil_append,hk,joinF_take]
theorem stoks_fine:∀(x:List Int) (a:Int),(∀s∈x,scalB s=true)→okT (stoks a x)
 | [],_,_=>fun t ht=>(by cases ht)
 | s :: x,a,h=>by
  have hs:=h s (by simp)
  refine okT_cons.2 ⟨?_,stoks_fine x (a+1) fun t ht=>h t (List.mem_cons_of_mem _ ht)⟩
  unfold stok
  dsimp only
  rw [if_pos hs]
theorem canon_back {m:Nat} {ws:List Int} (hs:∀s∈ws,scalB s=true) (hok:okT ((PE.init m).all ws)):allX 0 m 0 (flat ((PE.init m).all ws))=(ws.flatMap u8,0,0,0):=by
 obtain ⟨b1,b2⟩:=back_all hok
 have e0:PE.init 0=PE.utf 0:=by unfold PE.init;rw [if_pos rfl]
 have ho:okT ((PE.init 0).all ws):=by rw [e0,PE.all_utf];exact stoks_fine ws 0 hs
 have hf:flat ((PE.init 0).all ws)=ws.flatMap u8:=by
  rw [e0,PE.all_utf]
  exact (stoks_ok ws 0 (stoks_fine ws 0 hs)).2
 rw [allX_fine b1 (by rw [b2];exact ho),b2,hf,map_w8 (flat_u8 hs)]
theorem canon_fwd {m:Nat} {ws:List Int} (hs:∀s∈ws,scalB s=true):allX 0 0 m (ws.flatMap u8)=wrTs 0 x0 ((PE.init m).all ws):=by
 have e0:PD.init 0=PD.utf [] 0:=by unfold PD.init;rw [if_pos rfl]
 obtain ⟨h1,h2⟩:=utoks_all ws 0 hs
 have h8:=flat_u8 hs
 unfold allX
 rw [e0,PD.all_utf,map_w8 h8,List.nil_append,take_ok _ h1,h2,fin_ws]
theorem flat4:∀l:List Int,(l.flatMap u8).length≤4*l.length
 | []=>by simp
 | a :: l=>by
  have:=u8_len (s:=a)
  have:=flat4 l
  rw [List.flatMap_cons,List.length_append,List.length_cons]
  omega
theorem canon_true {v:Int} {l:List Int} (hv:0≤v∧v<256) (hl:isU8 l):lontarlaw20_StreamCanon FU64 (l,v)=some true:=by
 obtain ⟨us,e1,hus,hsc⟩:=some10_eq hl
 obtain ⟨ws,e2,hws,hs⟩:=call_ok (by omega) hsc
 have e3:=ubytes_eq hs (by omega)
 have hb8:=flat_u8 hs
 have hbl:=flat4 ws
 obtain ⟨m,hm,hm0,hm7,n1,n2⟩:∃m:Nat,m<8∧m≠0∧m≠7∧nthI [visN,tcvN,vniN] (Int.tmod v 3)=some (nameN m)∧[visN,tcvN,vniN][Int.toNat (Int.tmod v 3)]? = some (nameN m):=by
  rw [Int.tmod_eq_emod_of_nonneg hv.1]
  have:v % 3=0∨v % 3=1∨v % 3=2:=by omega
  rcases this with h | h | h
  ·rw [h];exact ⟨2,by omega,by omega,by omega,rfl,rfl⟩
  ·rw [h];exact ⟨3,by omega,by omega,by omega,rfl,rfl⟩
  ·rw [h];exact ⟨4,by omega,by omega,by omega,rfl,rfl⟩
 have hA:=canon_fwd (m:=m) hs
 have hA8:isU8 (allX 0 0 m (ws.flatMap u8)).1:=allX_u8
 have s1:=sall_eq (n:=0) (m:=m) (by omega) hm (name_is (by omega)) (name_is hm) (p:=0) (by omega) hb8 (by omega)
 have key:∃k,(allX 0 0 m (ws.flatMap u8)).1=flat ((PE.init m).all (ws.take k))∧okT ((PE.init m).all (ws.take k))∧((allX 0 0 m (ws.flatMap u8)).2.2.2=0→ws.take k=ws)∧((allX 0 0 m (ws.flatMap u8)).2.2.2≠0→(allX 0 0 m (ws.flatMap u8)).2.1=2):=by
  rw [hA]
  by_cases h0:(wrTs 0 x0 ((PE.init m).all ws)).2.2.2=0
  ·have hok:=(wr_strict _ h0).2
   refine ⟨ws.length,?_,by rw [List.take_length];exact hok,fun _=>List.take_length,fun h=>absurd h0 h⟩
   rw [List.take_length,wr_ok _ rfl hok,map_w8 (enc_u8 hok)]
   rfl
  ·obtain ⟨i,h1,h2,h3⟩:=wr_pre ((PE.init m).all ws) (x:=x0) rfl
   obtain ⟨k,hk⟩:=pre_all hm0 hm7 h1
   refine ⟨k,?_,by rw [hk];exact h1,fun h=>absurd h h0,h3⟩
   rw [←hk] at h1 h2
   rw [h2,map_w8 (enc_u8 h1)]
   rfl
 obtain ⟨k,k1,k2,k3,k4⟩:=key
 have hs':∀s∈ws.take k,scalB s=true:=fun s h=>hs s (List.mem_of_mem_take h)
 have hB:=canon_back hs' k2
 have hlenA:(allX 0 0 m (ws.flatMap u8)).1.length≤100000:=by
  obtain ⟨f1,f2⟩:=PE.all_few (us:=ws.take k) (PE.init_ok m).1
  rw [(PE.init_ok m).2] at f2
  have:=flat8 f1 f2
  rw [k1]
  simp at this
  omega
 have s2:=sall_eq (n:=m) (m:=0) hm (by omega) (name_is hm) (name_is (by omega)) (p:=0) (by omega) hA8 hlenA
 rw [k1,hB] at s2
 rw [←k1] at s2
 unfold lontarlaw20_StreamCanon
 dsimp only
 rw [awake20,bind_some',Bool.not_true,cond_false]
 refine bind_to n1 ?_
 refine bind_to n2 ?_
 refine bind_to e1 ?_
 refine bind_to e2 ?_
 refine bind_to e3 ?_
 refine bind_to s1 ?_
 dsimp only
 rw [show ((0:Int) != 0)=false from rfl,cond_false]
 refine bind_to s2 ?_
 dsimp only
 by_cases h0:(allX 0 0 m (ws.flatMap u8)).2.2.2=0
 ·rw [bne_eq_false_iff_eq.2 h0,cond_false,show ((0:Int) == 0)=true from rfl,cond_true,cond_true,k3 h0,eqS_mk2 _ _ rfl]
 ·rw [bne_iff_ne.2 h0,cond_true,beq_t (k4 h0),cond_true,show ((0:Int) == 0)=true from rfl,cond_true,cond_true]
  have hsp:ws.flatMap u8=(ws.take k).flatMap u8++(ws.drop k).flatMap u8:=by rw [←List.flatMap_append,List.take_append_drop]
  have hle:((ws.take k).flatMap u8).length≤(ws.flatMap u8).length:=by rw [hsp,List.length_append];omega
  rw [sliceI_to hle,bind_some',eqS_mk2 _ _ (by rw [hsp,List.take_left])]
theorem canon_law (a0:(Sh.sl (.int .u8)).den) (a1:(Sh.int .u8).den) (w0:wfD (.sl (.int .u8)) a0) (w1:wfD (.int .u8) a1):lontarlaw20_StreamCanon FU64 (a0,a1)=some true:=canon_true (u8_of w1) (isU8_of w0)
end Go.AM.M
