/- Plain laws of the models. -/
import Derived.Test.YtmknfofhhnfkcaaGreatDoorPlB1
set_option linter.all false
namespace Go.AM.M
open Go.AM
set_option maxRecDepth 100000
def sToks (F:Int→List Int):Int→List Int→List Tok
 | _,[]=>[]
 | a,u :: us=>(a,(1,(F u,0))) :: sToks F (a+1) us
theorem sToks_ok (F:Int→List Int):∀(us:List Int) (a:Int),okT (sToks F a us)∧flat (sToks F a us)=us.flatMap F
 | [],_=>⟨(fun x hx=>by cases hx),rfl⟩
 | u :: us,a=>by
  obtain ⟨h1,h2⟩:=sToks_ok F us (a+1)
  refine ⟨okT_cons.2 ⟨rfl,h1⟩,?_⟩
  have:flat (sToks F a (u :: us))=F u++flat (sToks F (a+1) us):=by simp [sToks,flat]
  rw [this,h2,List.flatMap_cons]
structure Alone (rs:List Rule) (F:Int→List Int) (us:List Int):Prop where
 one:∀u∈us,([u],F u)∈rs
 two:∀r∈rs,∀u∈us,∀v∈us,r.1.take 2≠[u,v]
theorem Alone.sub {rs:List Rule} {F:Int→List Int} {us vs:List Int} (h:Alone rs F us) (hs:∀u∈vs,u∈us):Alone rs F vs:=⟨fun u hu=>h.one u (hs u hu),fun r hr u hu v hv=>h.two r hr u (hs u hu) v (hs v hv)⟩
theorem alone_nn {rs:List Rule} {F:Int→List Int} {us:List Int} (h:Alone rs F us) {u:Int} {r:List Int} (hu:us=u :: r):nn rs us=1:=by
 subst hu
 unfold nn
 refine lngN_eq (by simp) (.inr (anyIn_iff.2 ⟨_,h.one u (by simp),by simp⟩)) fun k hk hk2=>?_
 rw [Bool.eq_false_iff]
 intro hc
 obtain ⟨q,hq,e⟩:=anyIn_iff.1 hc
 cases r with
 | nil=>simp at hk2;omega
 | cons v r=>
  refine h.two q hq u (by simp) v (by simp) ?_
  rw [e,List.take_take,Nat.min_eq_left (by omega)]
  rfl
theorem alone_toks {rs:List Rule} (hR:Right rs) {F:Int→List Int}:∀(us:List Int) (a:Int),Alone rs F us→toksA rs a us=sToks F a us
 | [],_,_=>rfl
 | u :: us,a,h=>by
  have hn:=alone_nn h rfl
  have ha:adv rs (u :: us)=1:=by unfold adv;omega
  rw [toksA_cons (by simp),ha]
  show _ :: toksA rs (a+1) us=_
  rw [alone_toks hR us (a+1) (h.sub fun v hv=>List.mem_cons_of_mem _ hv)]
  unfold tok
  rw [hn,if_neg (by omega)]
  show (a,(1,(outI rs (fnd rs [u]),0))) :: _=_
  rw [outI_of hR (h.one u (by simp))]
  rfl
theorem alone_join {rs:List Rule} {F:Int→List Int}:∀(us:List Int) (a:Int) (ah:List Int),(∀u∈us,∀v∈us,joinB rs (F u) (F v)=false)→(∀v∈us,joinB rs ah (F v)=false)→(joinF rs ah (sToks F a us)).1=sToks F a us
 | [],_,_,_,_=>rfl
 | u :: us,a,ah,h,h0=>by
  have hj:joinT rs ah (a,(1,(F u,(0:Int))))=(a,(1,(F u,0))):=by
   unfold joinT
   rw [if_neg (fun hc=>by have:=hc.2;rw [h0 u (by simp)] at this;cases this)]
  have hah:aheadT rs ah (a,(1,(F u,(0:Int))))=F u:=by
   unfold aheadT
   rw [hj,if_pos rfl]
  simp only [sToks,joinF,hj,hah]
  rw [alone_join us (a+1) (F u) (fun x hx y hy=>h x (List.mem_cons_of_mem _ hx) y (List.mem_cons_of_mem _ hy)) (fun v hv=>h u (by simp) v (List.mem_cons_of_mem _ hv))]
theorem joinB_nil {rs:List Rule} {us:List Int}:joinB rs [] us=false:=by unfold joinB;simp
theorem joinB_two {rs:List Rule} {u v:Int} (h:∀r∈rs,r.1.take 2≠[u,v]):joinB rs [u] [v]=false:=by
 rw [Bool.eq_false_iff]
 intro hc
 obtain ⟨_,r,hr,h1,h2,h3⟩:=joinB_iff.1 hc
 refine h r hr ?_
 have hl:r.1.length=2:=by
  simp only [List.length_singleton,List.length_append] at h1 h2
  omega
 rw [hl] at h3
 rw [h3]
 rfl
def asc2B (rs:List Rule):Bool:=rs.all fun r=>(ascL.all fun c=>!(decide (r.2=[c])) || decide (r.1=[c])) && (decide (r.2.length<2) || decide (128≤r.2.headD 0))
theorem asc2_A:asc2B ascR=true:=by kernel_rfl
theorem asc2_V:asc2B visR=true:=by kernel_rfl
theorem asc2_T:asc2B tcvR=true:=by kernel_rfl
theorem asc2_N:asc2B vniR=true:=by kernel_rfl
theorem asc2_H:asc2B tisR=true:=by kernel_rfl
theorem asc2_S:asc2B tscR=true:=by kernel_rfl
theorem asc2_all (n:Nat):asc2B (tabR n)=true:=by
 unfold tabR
 split
 ·exact asc2_A
 ·exact asc2_V
 ·exact asc2_T
 ·exact asc2_N
 ·exact asc2_H
 ·exact asc2_S
theorem ascL_lt:∀c∈ascL,0≤c∧c<128:=by
 intro c hc
 unfold ascL at hc
 simp only [List.mem_cons,List.not_mem_nil,or_false] at hc
 omega
theorem tab_two {rs:List Rule} (h:Tab rs) {us:List Int} (hu:∀u∈us,u∈ascL):∀r∈rs,∀u∈us,∀v∈us,r.1.take 2≠[u,v]:=by
 intro r hr u hu' v hv e
 have hv':=(ascL_lt v (hu v hv)).2
 cases h1:r.1 with
 | nil=>rw [h1] at e;cases e
 | cons x t=>
  cases t with
  | nil=>rw [h1] at e;cases e
  | cons y t=>
   rw [h1] at e
   injection e with e1 e2
   injection e2 with e2 _
   have:=h.tail r hr y (by rw [h1];simp)
   omega
theorem tab_alone {rs:List Rule} (h:Tab rs) {us:List Int} (hu:∀u∈us,u∈ascL):Alone rs (fun u=>[u]) us:=⟨fun u hu'=>h.asc u (hu u hu'),tab_two h hu⟩
theorem turn_alone {rs:List Rule} (h:Tab rs) (h2:asc2B rs=true) {us:List Int} (hu:∀u∈us,u∈ascL):Alone (turn rs) (fun u=>[u]) us:=by
 unfold asc2B at h2
 simp only [List.all_eq_true,Bool.and_eq_true,Bool.or_eq_true,Bool.not_eq_true',decide_eq_true_eq,decide_eq_false_iff_not] at h2
 refine ⟨fun u hu'=>?_,fun r hr u hu' v hv e=>?_⟩
 ·obtain ⟨t,ht,et⟩:=turn_has _ (h.asc u (hu u hu'))
  have hm:=turn_mem t ht
  have:=((h2 _ hm).1 u (hu u hu')).resolve_left (fun hn=>hn et)
  have e:t=([u],[u]):=Prod.ext et this
  rw [←e];exact ht
 ·have hm:=turn_mem r hr
  have hl:2≤r.1.length:=by
   have:=congrArg List.length e
   rw [List.length_take] at this
   simp at this;omega
  have:=(h2 _ hm).2.resolve_left (by show ¬r.1.length<2;omega)
  cases h1:r.1 with
  | nil=>rw [h1] at e;cases e
  | cons x t=>
   rw [h1] at e
   injection e with e1 e2
   have hx:=(ascL_lt u (hu u hu')).2
   have this:128≤r.1.headD 0:=this
   rw [h1] at this
   have this:128≤x:=this
   omega
theorem flatMap_id (us:List Int):us.flatMap (fun u=>[u])=us:=by induction us with
 | nil=>rfl
 | cons u us ih=>rw [List.flatMap_cons,ih];rfl
theorem tab_asc {rs:List Rule} (h:Tab rs) (h2:asc2B rs=true) {us:List Int} (hu:∀u∈us,u∈ascL) :
  (okT ((PD.tab rs [] 0).all us)∧flat ((PD.tab rs [] 0).all us)=us)∧(okT ((PE.tab rs [] [] 0).all us)∧flat ((PE.tab rs [] [] 0).all us)=us):=by
 rw [PD.all_tab,PE.all_tab,List.nil_append,alone_toks h.right us 0 (tab_alone h hu),alone_toks (turn_right h.right.toSides) us 0 (turn_alone h h2 hu),
  alone_join us 0 [] (fun u hu' v hv=>joinB_two fun r hr=>tab_two h hu r hr u hu' v hv) (fun v _=>joinB_nil)]
 have:=sToks_ok (fun u=>[u]) us 0
 rw [flatMap_id] at this
 exact ⟨this,this⟩
theorem u8_asc {c:Int} (h:c<128):u8 c=[c]:=by unfold u8;rw [if_pos h]
theorem flat_u8_asc {us:List Int} (hu:∀u∈us,u∈ascL):us.flatMap u8=us:=by
 induction us with
 | nil=>rfl
 | cons u us ih=>rw [List.flatMap_cons,ih fun v hv=>hu v (List.mem_cons_of_mem _ hv),u8_asc (ascL_lt u (hu u (by simp))).2];rfl
theorem stoks_all:∀(x:List Int) (a:Int),(∀s∈x,scalB s=true)→okT (stoks a x)∧flat (stoks a x)=x.flatMap u8
 | [],_,_=>⟨(fun t ht=>by cases ht),rfl⟩
 | s :: x,a,h=>by
  have hs:=h s (by simp)
  obtain ⟨h1,h2⟩:=stoks_all x (a+1) (fun t ht=>h t (List.mem_cons_of_mem _ ht))
  have e:stok a s=(a,(1,(u8 s,0))):=by unfold stok;rw [if_pos hs,if_pos hs]
  refine ⟨okT_cons.2 ⟨by rw [e],h1⟩,?_⟩
  have:flat (stoks a (s :: x))=(stok a s).2.2.1++flat (stoks (a+1) x):=by simp [stoks,flat]
  rw [this,h2,e];rfl
theorem utf_asc {us:List Int} (hu:∀u∈us,u∈ascL):(okT ((PD.utf [] 0).all us)∧flat ((PD.utf [] 0).all us)=us)∧(okT ((PE.utf 0).all us)∧flat ((PE.utf 0).all us)=us):=by
 have hs:∀s∈us,scalB s=true:=fun s hs=>by have:=ascL_lt s (hu s hs);rw [scalB_iff];omega
 have h8:isU8 us:=fun s hs=>by have:=ascL_lt s (hu s hs);omega
 have h1:=utoks_all us 0 hs
 have h2:=stoks_all us 0 hs
 rw [flat_u8_asc hu] at h1 h2
 rw [PD.all_utf,PE.all_utf,map_w8 h8,List.nil_append]
 exact ⟨h1,h2⟩
def ascIB (rs:List Rule):Bool:=(ascL.all fun c=>rs.any fun r=>decide (r.1=[c]) && decide (r.2=[8192+c])) && rs.all fun r=>(ascL.all fun c=>!(decide (r.2=[8192+c])) || decide (r.1=[c])) && ((decide (r.1.length<2) || decide (128≤r.1.headD 0)) && (decide (r.2.length<2) || decide (r.2.headD 0<4096)))
theorem ascI_is:ascIB isR=true:=by kernel_rfl
theorem muU_asc {us:List Int} (hu:∀u∈us,u∈ascL) (sc:Int):∀p:List Int,(us.map (8192 + ·)).foldl mu1 (p,sc)=(p++us,sc):=by
 induction us with
 | nil=>intro p;simp
 | cons u us ih=>
  intro p
  have h:=ascL_lt u (hu u (by simp))
  rw [List.map_cons,List.foldl_cons]
  have:mu1 (p,sc) (8192+u)=(p++[u],sc):=by
   unfold mu1
   rw [if_pos (by omega)]
   have:w64 (8192+u - 8192)=u:=by rw [w64_id (by omega) (by omega)];omega
   show (p++[w64 (8192+u - 8192)],sc)=_
   rw [this]
  rw [this,ih fun v hv=>hu v (List.mem_cons_of_mem _ hv)]
  simp
theorem esRun_asc {rs:List Rule} {us:List Int} (hu:∀u∈us,u∈ascL):esRun rs 0 es0 us=⟨[],0,0,us.map (8192 + ·)⟩:=by
 induction us using snocInd with
 | nil=>rfl
 | snoc us u ih=>
  rw [esRun_snoc,ih fun v hv=>hu v (by simp [hv])]
  have h:=ascL_lt u (hu u (by simp))
  have ho:okS u=false:=by
   unfold okS
   rw [decide_eq_false_iff_not];omega
  have hs:scalB u=true:=by rw [scalB_iff];omega
  have hu':unitS u=8192+u:=by
   unfold unitS
   rw [ho,hs]
   show w64 (8192+u)=_
   exact w64_id (by omega) (by omega)
  unfold esStep
  rw [if_neg (by rw [ho];simp),hu']
  simp
theorem isc_asc {rs:List Rule} (hI:Isc rs) (h2:ascIB rs=true) {us:List Int} (hu:∀u∈us,u∈ascL) :
  (okT ((PD.isc rs 0 [] 0).all us)∧flat ((PD.isc rs 0 [] 0).all us)=us)∧(okT ((PE.isc rs 0 [] [] 0).all us)∧flat ((PE.isc rs 0 [] [] 0).all us)=us):=by
 unfold ascIB at h2
 simp only [List.all_eq_true,List.any_eq_true,Bool.and_eq_true,Bool.or_eq_true,Bool.not_eq_true',decide_eq_true_eq,decide_eq_false_iff_not] at h2
 obtain ⟨a1,a2⟩:=h2
 have one:∀u∈us,([u],[8192+u])∈rs:=fun u hu'=>by
  obtain ⟨r,hr,e1,e2⟩:=a1 u (hu u hu')
  have:r=([u],[8192+u]):=Prod.ext e1 e2
  rw [←this];exact hr
 have two:∀r∈rs,∀u∈us,∀v:Int,r.1.take 2≠[u,v]:=fun r hr u hu' v e=>by
  have hl:2≤r.1.length:=by
   have:=congrArg List.length e
   rw [List.length_take] at this
   simp at this;omega
  have:=((a2 r hr).2.1).resolve_left (by omega)
  cases h1:r.1 with
  | nil=>rw [h1] at e;cases e
  | cons x t=>
   rw [h1] at e this
   injection e with e1 e2
   have hx:=(ascL_lt u (hu u hu')).2
   have this:128≤x:=this
   omega
 have A:Alone rs (fun u=>[8192+u]) us:=⟨one,fun r hr u hu' v _=>two r hr u hu' v⟩
 have B:Alone (turn rs) (fun u=>[u - 8192]) (us.map (8192 + ·)):=by
  refine ⟨fun u hu'=>?_,fun r hr u hu' v hv e=>?_⟩
  ·obtain ⟨c,hc,rfl⟩:=List.mem_map.1 hu'
   obtain ⟨t,ht,et⟩:=turn_has _ (one c hc)
   have hm:=turn_mem t ht
   have:=((a2 _ hm).1 c (hu c hc)).resolve_left (fun hn=>hn et)
   have e:t=([8192+c],[8192+c - 8192]):=Prod.ext et (this.trans (by congr 1;omega))
   rw [←e];exact ht
  ·obtain ⟨c,hc,rfl⟩:=List.mem_map.1 hu'
   have hm:=turn_mem r hr
   have hl:2≤r.1.length:=by
    have:=congrArg List.length e
    rw [List.length_take] at this
    simp at this;omega
   have:=(a2 _ hm).2.2.resolve_left (by show ¬r.1.length<2;omega)
   cases h1:r.1 with
   | nil=>rw [h1] at e;cases e
   | cons x t=>
    rw [h1] at e
    injection e with e1 e2
    have hx:=(ascL_lt c (hu c hc)).1
    have this:r.1.headD 0<4096:=this
    rw [h1] at this
    have this:x<4096:=this
    omega
 refine ⟨?_,?_⟩
 ·rw [PD.all_isc,List.nil_append,meanT_ok,alone_toks hI.right us 0 A]
  refine ⟨(sToks_ok _ us 0).1,?_⟩
  have hm:=mean_cat 0 (sToks (fun u=>[8192+u]) 0 us)
  have hc:cat (sToks (fun u=>[8192+u]) 0 us)=us.map (8192 + ·):=by
   rw [←flat_cat,(sToks_ok _ us 0).2]
   clear hu one two A B hm
   induction us with
   | nil=>rfl
   | cons u us ih=>rw [List.flatMap_cons,ih];rfl
  rw [hc] at hm
  have:=muU_asc hu 0 []
  rw [show muU 0 (us.map (8192 + ·))=(us.map (8192 + ·)).foldl mu1 ([],0) from rfl,this] at hm
  exact congrArg Prod.fst hm
 ·rw [PE.all_isc hI,esRun_asc hu]
  unfold esOut part
  rw [List.nil_append]
  dsimp only
  rw [alone_toks (turn_right hI.right.toSides) _ 0 B,alone_join _ 0 [] (fun u hu' v hv=>by
   obtain ⟨c,hc,rfl⟩:=List.mem_map.1 hu'
   have e:8192+c - 8192=c:=by omega
   rw [e]
   exact joinB_two fun r hr=>two r hr c hc _) (fun v _=>joinB_nil)]
  refine ⟨(sToks_ok _ _ 0).1,?_⟩
  rw [(sToks_ok _ _ 0).2]
  clear hu one two A B
  induction us with
  | nil=>rfl
  | cons u us ih=>
   rw [List.map_cons,List.flatMap_cons,ih]
   show (8192+u - 8192) :: us=u :: us
   congr 1;omega
theorem asc_all {n:Nat} {us:List Int} (hu:∀u∈us,u∈ascL):(okT ((PD.init n).all us)∧flat ((PD.init n).all us)=us)∧(okT ((PE.init n).all us)∧flat ((PE.init n).all us)=us):=by
 unfold PE.init PD.init
 by_cases h0:n=0
 ·rw [if_pos h0,if_pos h0];exact utf_asc hu
 ·rw [if_neg h0,if_neg h0]
  by_cases h7:n=7
  ·rw [if_pos h7,if_pos h7];exact isc_asc isc_ok ascI_is hu
  ·rw [if_neg h7,if_neg h7];exact tab_asc (tab_all n) (asc2_all n) hu
theorem strI_asc {k:Int} (h0:0≤k) (h1:k<15):∃c,strI (bs [97,98,99,120,121,122,65,66,67,48,49,57,32,46,44]) k=some c∧c∈ascL:=by
 have:k=0∨k=1∨k=2∨k=3∨k=4∨k=5∨k=6∨k=7∨k=8∨k=9∨k=10∨k=11∨k=12∨k=13∨k=14:=by omega
 rcases this with rfl | rfl | rfl | rfl | rfl | rfl | rfl | rfl | rfl | rfl | rfl | rfl | rfl | rfl | rfl
 all_goals exact ⟨_,rfl,by decide⟩
theorem codecAscii_true {v:Int} {b:List Int} (hv:0≤v∧v<256) (hb:isU8 b):lontarlaw19_CodecAscii FU64 (v,b)=some true:=by
 have h8:v.toNat % 8<8:=Nat.mod_lt _ (by omega)
 have hn:=tmod8 hv.1
 generalize v.toNat % 8=n at h8 hn
 obtain ⟨ws,e3,e4,e5⟩:=take60 (l:=b)
 have hw:isU8 ws:=by rw [e5];exact isU8_take hb 60
 unfold lontarlaw19_CodecAscii
 dsimp only
 rw [awake19,bind_some',Bool.not_true,cond_false,e3,bind_some']
 obtain ⟨r,h1,h2⟩:=loop_n (f:=lontarlaw19_CodecAscii_L0 FU64) (n:=ws.length) (I:=fun k x=>∃us:List Int,x=(v,(us,(ws,((ws.length:Int),(k:Int)))))∧us.length=k∧∀u∈us,u∈ascL) (R:=fun r=>r=true)
  (by
   rintro k x hk ⟨us,rfl,hl,hu⟩
   left
   have hx:=hw ws[k] (List.getElem_mem hk)
   unfold lontarlaw19_CodecAscii_L0
   dsimp only
   obtain ⟨c,c1,c2⟩:=strI_asc (k:=Int.tmod ws[k] 15) (by rw [Int.tmod_eq_emod_of_nonneg hx.1];omega) (by rw [Int.tmod_eq_emod_of_nonneg hx.1];omega)
   have hc:=ascL_lt c c2
   rw [decide_eq_true (by omega),cond_true,nthI_get hk,bind_some',c1,bind_some',fit8 (by omega) (by simp),cond_true,w64_id (n:=c) (by omega) (by omega),w64_succ hk (by omega)]
   exact ⟨_,rfl,_,rfl,push_ok (P:=fun u=>u∈ascL) hl hu c2⟩)
  (by
   rintro x ⟨us,rfl,hl,hu⟩
   obtain ⟨xe,e1,r1⟩:=enc_any h8 (name_is h8)
   obtain ⟨xd,e2,r2⟩:=dec_any h8 (name_is h8)
   obtain ⟨x1,a3,_⟩:=allE_eq (us:=us) (PE.init_ok n).1 r1 (by omega)
   obtain ⟨x2,a4,_⟩:=allD_eq (us:=us) (PD.init_ok n).1 r2 (by omega)
   obtain ⟨f1,f2⟩:=PE.all_few (us:=us) (PE.init_ok n).1
   obtain ⟨f3,f4⟩:=PD.all_few (us:=us) (PD.init_ok n).1
   rw [(PE.init_ok n).2] at f2
   rw [(PD.init_ok n).2] at f4
   obtain ⟨⟨g1,g2⟩,g3,g4⟩:=asc_all (n:=n) hu
   unfold lontarlaw19_CodecAscii_L0
   dsimp only
   rw [decide_eq_false (by omega),cond_false,names19_eq,bind_some',hn,nth_name h8,bind_some',get_name h8,bind_some',e2,bind_some']
   dsimp only
   rw [bind_some',nth_name h8,bind_some',get_name h8,bind_some',e1,bind_some']
   dsimp only
   rw [show ((0:Int) != 0)=false from rfl,cond_false,cond_false,a4,bind_some']
   dsimp only
   rw [units_all fu64 (by omega) f3,bind_some',a3,bind_some']
   dsimp only
   rw [units_all fu64 (by omega) f1,bind_some']
   dsimp only
   rw [beq_t ((badT_ok _).2 g1),cond_true,beq_t ((badT_ok _).2 g3),cond_true,g2,g4,units_eq' fu64 (by omega),bind_some',decide_eq_true rfl,cond_true,bind_some']
   exact ⟨_,rfl,rfl⟩)
  FU64 0 (v,(([]:List Int),(ws,((ws.length:Int),(0:Int))))) (by omega) (by show ws.length<0+FU64;unfold FU64;omega) ⟨[],rfl,rfl,fun u hu=>by cases hu⟩
 rw [h1,h2]
theorem codecAscii_law (a0:(Sh.int .u8).den) (a1:(Sh.sl (.int .u8)).den) (w0:wfD (.int .u8) a0) (w1:wfD (.sl (.int .u8)) a1):lontarlaw19_CodecAscii FU64 (a0,a1)=some true:=codecAscii_true (u8_of w0) (isU8_of w1)
end Go.AM.M
