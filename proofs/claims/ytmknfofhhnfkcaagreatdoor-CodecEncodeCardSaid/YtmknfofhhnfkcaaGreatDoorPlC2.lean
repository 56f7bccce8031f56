/- Plain laws of the models. -/
import Derived.Test.YtmknfofhhnfkcaaGreatDoorPlC1
set_option linter.all false
namespace Go.AM.M
open Go.AM
theorem fit1 {n m:Nat} (h:n≤1000000000) (h2:m≤1000000):decide ((n+m)*(1:Nat)≤(2:Nat) ^ (46:Nat))=true:=by
 rw [decide_eq_true_eq];omega
theorem uputok_eq {fu:Nat} {b:List Int} {s:Int} (h:scalB s=true) (hb:b.length≤1000000000):utf_Put_ok fu (b,s)=some (b++u8 s):=by
 have hs:=scalB_iff.1 h
 unfold utf_Put_ok
 dsimp only
 rw [size_eq h,bind_some',u8_size]
 have p6:Int.fdiv s (2 ^ min (Int.toNat 6) 64)=s / 64:=fdiv_pos (k:=6) hs.1
 have p12:Int.fdiv s (2 ^ min (Int.toNat 12) 64)=s / 4096:=fdiv_pos (k:=12) hs.1
 have p18:Int.fdiv s (2 ^ min (Int.toNat 18) 64)=s / 262144:=fdiv_pos (k:=18) hs.1
 rw [p6,p12,p18,and63,and63,and63]
 unfold u8
 have i64:∀x:Int,w64 (x % 64)=x % 64:=fun x=>w64_id (by omega) (by omega)
 have i128:∀x:Int,w8 (w64 (((BitVec.ofInt 64 (128:Int)) ||| (BitVec.ofInt 64 (w64 (x % 64)))).toNat:Int))=128+x % 64:=fun x=>by rw [i64,or128 (by omega) (by omega),w8w64 (by omega) (by omega)]
 rw [i128,i128,i128]
 by_cases c1:s<128
 ·rw [if_pos c1,if_pos c1,beq_t (by rfl),cond_true,w8_id (by omega) (by omega),fit1 hb (by simp),cond_true]
 rw [if_neg c1,if_neg c1]
 by_cases c2:s<2048
 ·rw [if_pos c2,if_pos c2,beq_f (by decide),cond_false,beq_t (by rfl),cond_true,or192 (by omega) (by omega),w8w64 (by omega) (by omega),fit1 hb (by simp),cond_true]
 rw [if_neg c2,if_neg c2]
 by_cases c3:s<65536
 ·rw [if_pos c3,if_pos c3,beq_f (by decide),cond_false,beq_f (by decide),cond_false,beq_t (by rfl),cond_true,or224 (by omega) (by omega),w8w64 (by omega) (by omega),fit1 hb (by simp),cond_true]
 ·rw [if_neg c3,if_neg c3,beq_f (by decide),cond_false,beq_f (by decide),cond_false,beq_f (by decide),cond_false,beq_t (by rfl),cond_true,or240 (by omega) (by omega),w8w64 (by omega) (by omega),fit1 hb (by simp),cond_true]
def Cov (z:Bool):Int→List Tok→Int→Prop
 | a,[],b=>a=b
 | a,t :: ts,b=>t.1=a∧(t.2.2.2=0∨t.2.2.2=3)∧(1≤t.2.1∨(z=true∧t.2.1=0))∧Cov z (a+t.2.1) ts b
theorem Cov.app {z:Bool}:∀{xs ys:List Tok} {a b c:Int},Cov z a xs b→Cov z b ys c→Cov z a (xs++ys) c
 | [],_,_,_,_,h1,h2=>by have h1:_=_:=h1;subst h1;exact h2
 | x :: xs,_,_,_,_,⟨h1,h2,h3,h4⟩,h5=>⟨h1,h2,h3,Cov.app h4 h5⟩
theorem tok_cov {rs:List Rule} {z:Bool} {a:Int} {us:List Int}:(tok rs a us).1=a∧((tok rs a us).2.2.2=0∨(tok rs a us).2.2.2=3)∧(1≤(tok rs a us).2.1∨(z=true∧(tok rs a us).2.1=0))∧(tok rs a us).2.1=(adv rs us:Int):=by
 unfold tok adv
 split
 ·rename_i h;rw [h];exact ⟨rfl,.inr rfl,.inl (Int.le_refl 1),rfl⟩
 ·rename_i h
  refine ⟨rfl,.inl rfl,.inl ?_,?_⟩
  ·show (1:Int)≤(nn rs us:Int);omega
  ·show (nn rs us:Int)=_;omega
theorem toksA_cov {rs:List Rule} {z:Bool}:∀(us:List Int) (a:Int),Cov z a (toksA rs a us) (a+(us.length:Int)):=by
 intro us
 induction us using toks_ind (rs:=rs) with
 | h0=>intro a;show a=a+0;omega
 | h1 us hne ih=>
  intro a
  rw [toksA_cons hne]
  obtain ⟨h1,h2,h3,h4⟩:=tok_cov (rs:=rs) (z:=z) (a:=a) (us:=us)
  refine ⟨h1,h2,h3,?_⟩
  rw [h4]
  have:=ih (a+(adv rs us:Int))
  have hle:=adv_le (rs:=rs) hne
  rw [List.length_drop] at this
  rw [show a+(us.length:Int)=a+(adv rs us:Int)+((us.length - adv rs us:Nat):Int) by omega]
  exact this
theorem takeF_cov {rs:List Rule} {z e:Bool}:∀(n:Nat) (a:Int) (w:List Int),Cov z a (takeF rs e n a w).1 (takeF rs e n a w).2.2
 | 0,a,w=>rfl
 | n+1,a,w=>by
  unfold takeF
  split
  ·rfl
  ·split
   ·rfl
   ·obtain ⟨h1,h2,h3,h4⟩:=tok_cov (rs:=rs) (z:=z) (a:=a) (us:=w)
    refine ⟨h1,h2,h3,?_⟩
    rw [h4]
    exact takeF_cov n _ _
theorem joinF_cov {rs:List Rule} {z:Bool}:∀(xs:List Tok) (ah:List Int) (a b:Int),Cov z a xs b→Cov z a (joinF rs ah xs).1 b
 | [],_,_,_,h=>h
 | x :: xs,ah,a,b,⟨h1,h2,h3,h4⟩=>by
  have h5:(joinT rs ah x).1=x.1∧(joinT rs ah x).2.1=x.2.1∧((joinT rs ah x).2.2.2=x.2.2.2∨(joinT rs ah x).2.2.2=3):=by
   unfold joinT
   split
   ·exact ⟨rfl,rfl,.inr rfl⟩
   ·exact ⟨rfl,rfl,.inl rfl⟩
  simp only [joinF]
  refine ⟨by rw [h5.1];exact h1,?_,by rw [h5.2.1];exact h3,by rw [h5.2.1];exact joinF_cov xs _ _ _ h4⟩
  rcases h5.2.2 with e | e
  ·rw [e];exact h2
  ·exact .inr e
def PE.at':PE→Int
 | .tab _ _ _ a=>a
 | .utf a=>a
 | .isc _ _ _ _ a=>a
def PE.isI:PE→Bool
 | .isc _ _ _ _ _=>true
 | _=>false
theorem putT_cov {rs:List Rule} {z:Bool} {ah w:List Int} {a u:Int}:Cov z a (PE.putT rs ah w a u).1 (PE.putT rs ah w a u).2.2.2:=joinF_cov _ _ _ _ (takeF_cov _ _ _)
theorem PE.put_cov {p:PE} (u:Int):Cov p.isI p.at' (p.put u).1 (p.put u).2.at'∧(p.put u).2.isI=p.isI:=by
 cases p with
 | tab rs ah w a=>exact ⟨putT_cov,rfl⟩
 | utf a=>
  refine ⟨⟨rfl,?_,.inl (Int.le_refl _),rfl⟩,rfl⟩
  show (if scalB u=true then (0:Int) else 3)=0∨(if scalB u=true then (0:Int) else 3)=3
  split
  ·exact .inl rfl
  ·exact .inr rfl
 | isc rs sc ah w a=>
  by_cases hc:okS u=true∧scrS u≠sc
  ·have e:PE.put u (.isc rs sc ah w a)=_:=if_pos hc
   rw [e]
   refine ⟨Cov.app (Cov.app (joinF_cov _ _ _ _ (toksA_cov w a)) (b:=a+(w.length:Int)) ⟨rfl,.inl rfl,.inr ⟨rfl,rfl⟩,?_⟩) putT_cov,rfl⟩
   show a+(w.length:Int)+0=a+(w.length:Int)
   omega
  ·have e:PE.put u (.isc rs sc ah w a)=_:=if_neg hc
   rw [e]
   exact ⟨putT_cov,rfl⟩
theorem PE.fin_cov {p:PE} {k:Nat} (h:p.Ok k):Cov p.isI p.at' p.fin.1 (k:Int):=by
 cases p with
 | tab rs ah w a=>
  have:=PE.at_k h.2
  rw [←this]
  exact joinF_cov _ _ _ _ (toksA_cov w a)
 | utf a=>exact h
 | isc rs sc ah w a=>
  have:=PE.at_k h.2.1
  rw [←this]
  exact joinF_cov _ _ _ _ (toksA_cov w a)
theorem PE.run_cov:∀(us:List Int) (p:PE),Cov p.isI p.at' (p.run us).1 (p.run us).2.at'∧(p.run us).2.isI=p.isI
 | [],p=>⟨rfl,rfl⟩
 | u :: us,p=>by
  obtain ⟨h1,h2⟩:=PE.put_cov (p:=p) u
  obtain ⟨h3,h4⟩:=PE.run_cov us (p.put u).2
  simp only [PE.run]
  rw [h2] at h3 h4
  exact ⟨Cov.app h1 h3,h4⟩
theorem PE.all_cov {p:PE} {us:List Int} (h:p.Ok 0) (h0:p.at'=0):Cov p.isI 0 (p.all us) (us.length:Int):=by
 obtain ⟨h1,h2⟩:=PE.run_cov us p
 have hk:=PE.run_ok us h
 have h3:=PE.fin_cov hk
 rw [h2,Nat.zero_add] at h3
 rw [h0] at h1
 exact Cov.app h1 h3
theorem init_at (n:Nat):(PE.init n).at'=0∧((PE.init n).isI=true→n=7):=by
 unfold PE.init
 by_cases h0:n=0
 ·rw [if_pos h0];exact ⟨rfl,fun h=>by cases h⟩
 ·rw [if_neg h0]
  by_cases h7:n=7
  ·rw [if_pos h7];exact ⟨rfl,fun _=>h7⟩
  ·rw [if_neg h7];exact ⟨rfl,fun h=>by cases h⟩
theorem enc_L0 {v:Int} {l us:List Int} {n:Nat} (hn:Int.tmod v 8=(n:Int)) (hn8:n<8) (hs:lontarlaw19_Scalars FU64 ((n:Int),l)=some us) (hu:us.length≤60) {x1:ESt} {p:PE} (hr:p.Rep us.length x1) (hh:p.held=0) (z) {ts:List Tok} (ht:ts.length≤1000) (i:Bool) (hi:i=true→n=7) :
  ∀(m k:Nat) (g:Nat) (at':Int),k+m=ts.length→m<g→0≤at'→at'≤60→Cov i at' (ts.drop k) (us.length:Int)→
  loopM (lontarlaw19_CodecEncode_L0 FU64) g (v,(l,((0:Nat),(at',(ts,((ts.length:Int),((k:Int),([x1],z))))))))=some true:=by
 intro m
 induction m with
 | zero=>
  intro k g a hk hg _ _ hc
  obtain ⟨g,rfl⟩:∃q,g=q+1:=⟨g - 1,by omega⟩
  rw [List.drop_eq_nil_of_le (by omega)] at hc
  have hc:a=(us.length:Int):=hc
  rw [loopM_succ]
  unfold lontarlaw19_CodecEncode_L0
  dsimp only
  have hd:=encHeld_eq hr
  rw [hh] at hd
  rw [decide_eq_false (by omega),cond_false,hn,w64_id (by omega) (by omega),hs,bind_some',beq_t hc,cond_true,List.getElem?_cons_zero,bind_some',hd,bind_some']
  rfl
 | succ m ih=>
  intro k g a hk hg ha ha2 hc
  obtain ⟨g,rfl⟩:∃q,g=q+1:=⟨g - 1,by omega⟩
  have hkl:k<ts.length:=by omega
  rw [List.drop_eq_getElem_cons hkl] at hc
  obtain ⟨c1,c2,c3,c4⟩:=hc
  have hle:∀(xs:List Tok) (a:Int),Cov i a xs (us.length:Int)→a≤(us.length:Int):=by
   intro xs
   induction xs with
   | nil=>intro a h;have h:a=_:=h;omega
   | cons x xs ihx=>intro a h;have:=ihx _ h.2.2.2;rcases h.2.2.1 with h1 | ⟨_,h1⟩ <;> omega
  have h60:=hle _ _ c4
  have h01:0≤ts[k].2.1:=by rcases c3 with h1 | ⟨_,h1⟩ <;> omega
  have next:=ih (k+1) g (a+ts[k].2.1) (by omega) (by omega) (by omega) (by omega) c4
  rw [loopM_succ]
  have e:lontarlaw19_CodecEncode_L0 FU64 (v,(l,((0:Nat),(a,(ts,((ts.length:Int),((k:Int),([x1],z))))))))=some (.inl (v,(l,((0:Nat),(a+ts[k].2.1,(ts,((ts.length:Int),(((k+1:Nat):Int),([x1],z))))))))):=by
   unfold lontarlaw19_CodecEncode_L0
   dsimp only
   rw [decide_eq_true (by omega),cond_true,nthI_get hkl,bind_some',Int.toNat_natCast,List.getElem?_eq_getElem hkl,bind_some',bne_eq_false_iff_eq.2 c1,cond_false,w64_id (n:=a+ts[k].2.1) (by omega) (by omega),w64_succ hkl (by omega)]
   have tail:(bif decide (ts[k].2.1<1) then (bif Int.tmod v 8 != 7 then some (Sum.inr false) else bif ts[k].2.1 != 0 then some (Sum.inr false) else some (Sum.inl (v,(l,((0:Nat),(a+ts[k].2.1,(ts,((ts.length:Int),(((k+1:Nat):Int),([x1],z)))))))))) else some (Sum.inl (v,(l,((0:Nat),(a+ts[k].2.1,(ts,((ts.length:Int),(((k+1:Nat):Int),([x1],z))))))))))=(some (Sum.inl (v,(l,((0:Nat),(a+ts[k].2.1,(ts,((ts.length:Int),(((k+1:Nat):Int),([x1],z))))))))):Option (lontarlaw19_CodecEncode_S0⊕Bool)):=by
    rcases c3 with h1 | ⟨h1,h2⟩
    ·rw [decide_eq_false (by omega),cond_false]
    ·have:=hi h1
     rw [decide_eq_true (by omega),cond_true,hn,this,show (((7:Nat):Int) != 7)=false from rfl,cond_false,bne_eq_false_iff_eq.2 h2,cond_false]
   by_cases h0:ts[k].2.2.2=0
   ·rw [bne_eq_false_iff_eq.2 h0,cond_false];exact tail
   ·have h3:=c2.resolve_left h0
    rw [bne_iff_ne.2 h0,cond_true,bne_eq_false_iff_eq.2 h3,cond_false];exact tail
  rw [e]
  exact next
theorem stoks_get:∀(x:List Int) (a:Int) (k:Nat),(stoks a x)[k]? = x[k]?.map (stok (a+(k:Int)))
 | [],_,_=>by simp [stoks]
 | u :: x,a,0=>by simp [stoks]
 | u :: x,a,k+1=>by
  simp only [stoks,List.getElem?_cons_succ]
  rw [stoks_get x (a+1) k]
  congr 2
  omega
theorem stoks_len:∀(x:List Int) (a:Int),(stoks a x).length=x.length
 | [],_=>rfl
 | u :: x,a=>by simp [stoks,stoks_len x]
theorem codecEncode_true {v:Int} {l ss:List Int} (hv:0≤v∧v<256) (hl:isU8 l):lontarlaw19_CodecEncode FU64 (v,(l,ss))=some true:=by
 have h8:v.toNat % 8<8:=Nat.mod_lt _ (by omega)
 have hn:=tmod8 hv.1
 generalize v.toNat % 8=n at h8 hn
 obtain ⟨us,s1,s2,_⟩:=scal19_eq h8 hl
 obtain ⟨ws,e3,e4,_⟩:=take60 (l:=ss)
 obtain ⟨xe,e1,r1⟩:=enc_any h8 (name_is h8)
 obtain ⟨xu,e2,r2⟩:=enc_any (n:=0) (nm0:=bs [117,116,102,56]) (by omega) (by kernel_rfl)
 obtain ⟨x1,a1,b1⟩:=allE_eq (us:=ws) (PE.init_ok 0).1 r2 (by omega)
 obtain ⟨x2,a2,b2⟩:=allE_eq (us:=us) (PE.init_ok n).1 r1 (by omega)
 obtain ⟨f1,f2⟩:=PE.all_few (us:=us) (PE.init_ok n).1
 rw [(PE.init_ok n).2] at f2
 have hcov:=PE.all_cov (us:=us) (PE.init_ok n).1 (init_at n).1
 have hfin:=PE.fin_ok (PE.run_ok us (PE.init_ok n).1)
 have hu:(PE.init 0).all ws=stoks 0 ws:=PE.all_utf ws 0
 have hlen:=stoks_len ws 0
 unfold lontarlaw19_CodecEncode
 dsimp only
 rw [awake19,bind_some',Bool.not_true,cond_false,names19_eq,bind_some',hn,nth_name h8,bind_some',get_name h8,bind_some',e1,bind_some']
 dsimp only
 rw [e2,bind_some']
 dsimp only
 rw [show ((0:Int) != 0)=false from rfl,cond_false,cond_false,e3,bind_some',a1,bind_some',hu]
 dsimp only
 rw [hlen]
 refine loop_st (f:=lontarlaw19_CodecEncode_L1 FU64) (fun k=>(v,(l,(ws,((0:Nat),(stoks 0 ws,((ws.length:Int),((k:Int),([xe],[x1])))))))))  (m:=ws.length) (fu:=FU64) (r:=true) (fun k hk=>?_) ?_ (by unfold FU64;omega)
 ·have hg:(stoks 0 ws)[k]? = some (stok (k:Int) ws[k]):=by
   rw [stoks_get,List.getElem?_eq_getElem hk,Int.zero_add];rfl
  have hg2:nthI (stoks 0 ws) (k:Int)=some (stok (k:Int) ws[k]):=by rw [nthI_nat,hg]
  unfold lontarlaw19_CodecEncode_L1
  dsimp only
  rw [decide_eq_true (by omega),cond_true,hg2,bind_some',Int.toNat_natCast,hg,bind_some',nthI_get hk,bind_some',utf_Scalar_eq,bind_some',w64_succ hk (by omega)]
  unfold stok
  cases hsc:scalB ws[k] with
  | true=>
   have h8:=u8_len (s:=ws[k])
   rw [cond_true,bind_some',uputok_eq hsc (by simp),bind_some',List.nil_append,bytes19_eq fu64 (u8_isU8 hsc),bind_some',List.take_of_length_le (by omega),bne_eq_false_iff_eq.2 rfl,cond_false,show ((1:Int) != 1)=false from rfl,cond_false,bind_some',utf_Scalar_eq,bind_some',hsc,if_pos rfl,if_pos rfl,units_eq' fu64 (by show (u8 ws[k]).length≤1000000;omega),bind_some',decide_eq_true rfl]
   rfl
  | false=>
   rw [cond_false,bne_eq_false_iff_eq.2 rfl,cond_false,show ((1:Int) != 1)=false from rfl,cond_false,bind_some',utf_Scalar_eq,bind_some',hsc,if_neg (by simp),if_neg (by simp),units_eq' fu64 (by simp),bind_some',decide_eq_true rfl]
   rfl
 ·unfold lontarlaw19_CodecEncode_L1
  dsimp only
  rw [decide_eq_false (by omega),cond_false,hn,w64_id (by omega) (by omega),s1,bind_some',a2,bind_some']
  dsimp only
  have:=enc_L0 hn h8 s1 s2 b2 hfin.2.1 [x1] (ts:=(PE.init n).all us) (by omega) (PE.init n).isI (init_at n).2 _ 0 FU64 0 (Nat.zero_add _) (by unfold FU64;omega) (by omega) (by omega) (by rw [List.drop_zero];exact hcov)
  rw [show ((0:Nat):Int)=0 from rfl] at this
  rw [this]
  rfl
theorem codecEncode_law (a0:(Sh.int .u8).den) (a1:(Sh.sl (.int .u8)).den) (a2:(Sh.sl (.int .i64)).den) (w0:wfD (.int .u8) a0) (w1:wfD (.sl (.int .u8)) a1) (_:wfD (.sl (.int .i64)) a2):lontarlaw19_CodecEncode FU64 (a0,(a1,a2))=some true:=codecEncode_true (u8_of w0) (isU8_of w1)
end Go.AM.M
namespace Go.AM.M
open Go.AM
set_option maxRecDepth 100000
def oneB (rs:List Rule):Bool:=(rs.all fun r=>decide (r.1.length=1) && decide (r.2.length=1)) && diffK (rs.map fun r=>keyL r.2)
theorem oneA:oneB ascR=true:=by kernel_rfl
theorem oneV:oneB visR=true:=by kernel_rfl
theorem oneT:oneB tcvR=true:=by kernel_rfl
theorem oneH:oneB tisR=true:=by kernel_rfl
theorem diffK_ok2:∀{rs:List Rule},diffK (rs.map fun r=>keyL r.2)=true→rs.Pairwise fun a b=>a.2≠b.2
 | [],_=>List.Pairwise.nil
 | r :: rs,h=>by
  simp only [List.map_cons,diffK,Bool.and_eq_true,List.all_eq_true] at h
  refine List.Pairwise.cons (fun x hx e=>?_) (diffK_ok2 h.2)
  have h1:=h.1 _ (List.mem_map.2 ⟨x,hx,rfl⟩)
  rw [e] at h1
  simp at h1
theorem pw_inj {rs:List Rule} (h:rs.Pairwise fun a b=>a.2≠b.2) {a b:Rule} (ha:a∈rs) (hb:b∈rs) (e:a.2=b.2):a=b:=by
 obtain ⟨i,hi,rfl⟩:=List.getElem_of_mem ha
 obtain ⟨j,hj,rfl⟩:=List.getElem_of_mem hb
 rcases Nat.lt_trichotomy i j with h1 | h1 | h1
 ·exact absurd e (List.pairwise_iff_getElem.1 h i j hi hj h1)
 ·subst h1;rfl
 ·exact absurd e.symm (List.pairwise_iff_getElem.1 h j i hj hi h1)
theorem len1 {l:List Int} (h:l.length=1):∃u,l=[u]:=by
 cases l with
 | nil=>cases h
 | cons u t=>cases t with
  | nil=>exact ⟨u,rfl⟩
  | cons v t=>simp at h
theorem read_outs {rs:List Rule} (hR:Right rs):∀(us:List Int) (a:Int),okT (toksA rs a us)→∃l:List Rule,(∀r∈l,r∈rs)∧us=l.flatMap (·.1)∧flat (toksA rs a us)=l.flatMap (·.2):=by
 intro us
 induction us using toks_ind (rs:=rs) with
 | h0=>intro a _;exact ⟨[],(fun r hr=>by cases hr),rfl,rfl⟩
 | h1 us hne ih=>
  intro a hok
  rw [toksA_cons hne] at hok ⊢
  rw [okT_cons] at hok
  obtain ⟨l,l1,l2,l3⟩:=ih _ hok.2
  have hn:nn rs us≠0:=fun h0=>by
   have:=hok.1
   unfold tok at this
   rw [if_pos h0] at this
   cases this
  have hadv:adv rs us=nn rs us:=by unfold adv;omega
  obtain ⟨t,ht,et⟩:=anyIn_iff.1 (lngN_has (rs:=rs) (us:=us) us.length (by unfold nn at hn;omega))
  refine ⟨t :: l,fun r hr=>?_,?_,?_⟩
  ·rw [List.mem_cons] at hr
   rcases hr with rfl | hr
   ·exact ht
   ·exact l1 r hr
  ·rw [List.flatMap_cons,←l2,et,hadv]
   exact (List.take_append_drop _ _).symm
  ·have:flat (tok rs a us :: toksA rs (a+(adv rs us:Int)) (us.drop (adv rs us)))=(tok rs a us).2.2.1++flat (toksA rs (a+(adv rs us:Int)) (us.drop (adv rs us))):=by simp [flat]
   rw [this,l3,List.flatMap_cons]
   congr 1
   unfold tok
   rw [if_neg hn]
   show outI rs (fnd rs (us.take (lngN rs us us.length)))=t.2
   rw [←et,outI_of hR ht]
theorem one_write {rs:List Rule} (hT:Tab rs) (h1:oneB rs=true) {us:List Int} (hok:okT ((PD.tab rs [] 0).all us)):okT ((PE.tab rs [] [] 0).all (flat ((PD.tab rs [] 0).all us)))∧flat ((PE.tab rs [] [] 0).all (flat ((PD.tab rs [] 0).all us)))=us:=by
 unfold oneB at h1
 simp only [Bool.and_eq_true,List.all_eq_true,decide_eq_true_eq] at h1
 have hd:=diffK_ok2 h1.2
 rw [PD.all_tab,List.nil_append] at hok ⊢
 obtain ⟨l,l1,l2,l3⟩:=read_outs hT.right us 0 hok
 rw [l3,PE.all_tab,List.nil_append]
 have hmem:∀s∈l.flatMap (·.2),∃r∈l,r.2=[s]:=fun s hs=>by
  obtain ⟨r,hr,hs⟩:=List.mem_flatMap.1 hs
  obtain ⟨c,hc⟩:=len1 (h1.1 r (l1 r hr)).2
  rw [hc,List.mem_singleton] at hs
  exact ⟨r,hr,by rw [hc,hs]⟩
 have A:Alone (turn rs) (fun s=>outI (turn rs) (fnd (turn rs) [s])) (l.flatMap (·.2)):=by
  refine ⟨fun s hs=>?_,fun r hr s _ t _ e=>?_⟩
  ·obtain ⟨r,hr,e⟩:=hmem s hs
   obtain ⟨t,ht,et⟩:=turn_has r (l1 r hr)
   have hT':=turn_right hT.right.toSides
   have:outI (turn rs) (fnd (turn rs) [s])=t.2:=by rw [←e,←et];exact outI_of hT' ht
   rw [this,←e,←et]
   exact ht
  ·have:=(h1.1 _ (turn_mem r hr)).2
   have h2:=congrArg List.length e
   rw [List.length_take] at h2
   simp only [List.length_cons,List.length_nil] at h2
   have this:r.1.length=1:=this
   omega
 have hF:∀r∈l,outI (turn rs) (fnd (turn rs) r.2)=r.1:=fun r hr=>by
  obtain ⟨t,ht,et⟩:=turn_has r (l1 r hr)
  rw [←et,outI_of (turn_right hT.right.toSides) ht]
  have:=pw_inj hd (turn_mem t ht) (l1 r hr) et
  rw [←this]
 rw [alone_toks (turn_right hT.right.toSides) _ 0 A,alone_join _ 0 [] (fun u _ v _=>by
  rw [Bool.eq_false_iff]
  intro hc
  obtain ⟨h0,r,hr,h2,h3,h4⟩:=joinB_iff.1 hc
  have:=(h1.1 r hr).1
  have:=List.length_pos_iff.2 h0
  omega) (fun v _=>joinB_nil)]
 refine ⟨(sToks_ok _ _ 0).1,?_⟩
 rw [(sToks_ok _ _ 0).2,l2]
 clear l2 l3 hok A hmem
 induction l with
 | nil=>rfl
 | cons r l ih=>
  rw [List.flatMap_cons,List.flatMap_append,List.flatMap_cons,ih (fun x hx=>l1 x (List.mem_cons_of_mem _ hx)) (fun x hx=>hF x (List.mem_cons_of_mem _ hx))]
  obtain ⟨c,hc⟩:=len1 (h1.1 r (l1 r (by simp))).2
  have:=hF r (by simp)
  rw [hc] at this ⊢
  rw [List.flatMap_cons,List.flatMap_nil,List.append_nil,this]
def headB (rs:List Rule):Bool:=(rs.all fun r=>decide (r.2.length=1)) && rs.all fun r=>r.1.tail.all fun u=>rs.all fun q=>!(decide (q.1.headD 0=u))
theorem headN:headB vniR=true:=by kernel_rfl
theorem head_write {rs:List Rule} (hT:Tab rs) (h1:headB rs=true) {us:List Int} (hok:okT ((PD.tab rs [] 0).all us)):okT ((PE.tab rs [] [] 0).all (flat ((PD.tab rs [] 0).all us))):=by
 unfold headB at h1
 simp only [Bool.and_eq_true,List.all_eq_true,decide_eq_true_eq,Bool.not_eq_true',decide_eq_false_iff_not] at h1
 rw [PD.all_tab,List.nil_append] at hok ⊢
 obtain ⟨l,l1,l2,l3⟩:=read_outs hT.right us 0 hok
 rw [l3,PE.all_tab,List.nil_append]
 have hT':=turn_right hT.right.toSides
 have hmem:∀s∈l.flatMap (·.2),∃t∈turn rs,t.1=[s]∧outI (turn rs) (fnd (turn rs) [s])=t.2:=fun s hs=>by
  obtain ⟨r,hr,hs⟩:=List.mem_flatMap.1 hs
  obtain ⟨c,hc⟩:=len1 (h1.1 r (l1 r hr))
  rw [hc,List.mem_singleton] at hs
  obtain ⟨t,ht,et⟩:=turn_has r (l1 r hr)
  rw [hc,←hs] at et
  exact ⟨t,ht,et,by rw [←et];exact outI_of hT' ht⟩
 have A:Alone (turn rs) (fun s=>outI (turn rs) (fnd (turn rs) [s])) (l.flatMap (·.2)):=by
  refine ⟨fun s hs=>?_,fun r hr s _ t _ e=>?_⟩
  ·obtain ⟨t,ht,e1,e2⟩:=hmem s hs
   rw [e2,←e1];exact ht
  ·have:=h1.1 _ (turn_mem r hr)
   have h2:=congrArg List.length e
   rw [List.length_take] at h2
   simp only [List.length_cons,List.length_nil] at h2
   have this:r.1.length=1:=this
   omega
 rw [alone_toks hT' _ 0 A,alone_join _ 0 [] (fun u hu v hv=>by
  obtain ⟨t,ht,_,e2⟩:=hmem u hu
  obtain ⟨q,hq,_,f2⟩:=hmem v hv
  rw [e2,f2]
  rw [Bool.eq_false_iff]
  intro hc
  obtain ⟨h0,r,hr,h2,h3,h4⟩:=joinB_iff.1 hc
  have hqI:=sideB_len (hT.right.side _ (turn_mem q hq)).1
  have htI:=List.length_pos_iff.2 h0
  have hq0:q.2.head? = some (q.2.headD 0):=by
   cases hq2:q.2 with
   | nil=>have hqI:=hqI.1;rw [show ((q.2,q.1):Rule).1=q.2 from rfl,hq2] at hqI;simp at hqI
   | cons x y=>rfl
  have hmem2:q.2.headD 0∈r.1.tail:=by
   have hg:r.1[t.2.length]? = some (q.2.headD 0):=by
    rw [h4,List.getElem?_take_of_lt h2,List.getElem?_append_right (Nat.le_refl _),Nat.sub_self,←List.head?_eq_getElem?]
    exact hq0
   have:r.1.tail[t.2.length - 1]? = some (q.2.headD 0):=by
    rw [List.getElem?_tail,show t.2.length - 1+1=t.2.length by omega];exact hg
   exact List.mem_of_getElem? this
  exact h1.2 r hr _ hmem2 _ (turn_mem q hq) rfl) (fun v _=>joinB_nil)]
 exact (sToks_ok _ _ 0).1
theorem utf_write:∀(us:List Int) (a:Int),isU8 us→okT (utoksA a us)→(∀s∈flat (utoksA a us),scalB s=true)∧(flat (utoksA a us)).flatMap u8=us:=by
 intro us
 induction us using utok_ind with
 | h0=>intro a _ _;exact ⟨(fun s hs=>by cases hs),rfl⟩
 | h1 us hne ih=>
  intro a h8 hok
  rw [utoksA_cons hne] at hok ⊢
  rw [okT_cons] at hok
  have e0:(oneP us).2.2=0:=by
   have:=hok.1
   unfold utok at this
   exact this
  obtain ⟨i1,i2⟩:=ih (a+(uadv us:Int)) (isU8_drop h8 _) hok.2
  obtain ⟨o1,o2,o3⟩:=u8_one h8 (s:=(oneP us).1) (n:=(oneP us).2.1) (Prod.ext rfl (Prod.ext rfl e0))
  have hf:flat (utok a us :: utoksA (a+(uadv us:Int)) (us.drop (uadv us)))=[(oneP us).1]++flat (utoksA (a+(uadv us:Int)) (us.drop (uadv us))):=by
   simp only [flat,List.flatMap_cons]
   congr 1
   unfold utok
   dsimp only
   rw [if_pos e0]
  rw [hf]
  refine ⟨fun s hs=>?_,?_⟩
  ·rw [List.mem_append,List.mem_singleton] at hs
   rcases hs with rfl | hs
   ·exact o1
   ·exact i1 s hs
  ·rw [List.flatMap_append,i2,List.flatMap_cons,List.flatMap_nil,List.append_nil,←o2]
   exact List.take_append_drop _ _
theorem normal_all {n:Nat} (hn:n<6) {us:List Int} (h8:isU8 us) (hok:okT ((PD.init n).all us)):okT ((PE.init n).all (flat ((PD.init n).all us)))∧(n≠4→flat ((PE.init n).all (flat ((PD.init n).all us)))=us):=by
 have ht:∀k,k≠0→k≠7→oneB (tabR k)=true→okT ((PD.init k).all us)→okT ((PE.init k).all (flat ((PD.init k).all us)))∧(k≠4→flat ((PE.init k).all (flat ((PD.init k).all us)))=us):=by
  intro k h0 h7 h1 hok
  unfold PE.init PD.init at *
  rw [if_neg h0,if_neg h7] at *
  rw [if_neg h0,if_neg h7] at *
  obtain ⟨g1,g2⟩:=one_write (tab_all k) h1 hok
  exact ⟨g1,fun _=>g2⟩
 have:n=0∨n=1∨n=2∨n=3∨n=4∨n=5:=by omega
 rcases this with rfl | rfl | rfl | rfl | rfl | rfl
 ·have e1:(PD.init 0).all us=utoksA 0 us:=by
   show (PD.utf [] 0).all us=_
   rw [PD.all_utf,map_w8 h8,List.nil_append]
  rw [e1] at hok ⊢
  obtain ⟨g1,g2⟩:=utf_write us 0 h8 hok
  have e2:(PE.init 0).all (flat (utoksA 0 us))=stoks 0 (flat (utoksA 0 us)):=PE.all_utf _ 0
  rw [e2]
  obtain ⟨k1,k2⟩:=stoks_all _ 0 g1
  exact ⟨k1,fun _=>by rw [k2,g2]⟩
 ·exact ht 1 (by omega) (by omega) oneA hok
 ·exact ht 2 (by omega) (by omega) oneV hok
 ·exact ht 3 (by omega) (by omega) oneT hok
 ·exact ⟨head_write tabN headN hok,fun h=>absurd rfl h⟩
 ·exact ht 5 (by omega) (by omega) oneH hok
theorem codecNormal_true {v:Int} {b:List Int} (hv:0≤v∧v<256) (hb:isU8 b):lontarlaw19_CodecNormal FU64 (v,b)=some true:=by
 have h8:v.toNat % 8<8:=Nat.mod_lt _ (by omega)
 have hn:=tmod8 hv.1
 generalize v.toNat % 8=n at h8 hn
 obtain ⟨xe,e1,r1⟩:=enc_any h8 (name_is h8)
 obtain ⟨xd,e2,r2⟩:=dec_any h8 (name_is h8)
 have hw:=isU8_take hb 60
 have hl:(b.take 60).length≤60:=by simp;omega
 have hbt:=bytes19_eq fu64 hb
 generalize b.take 60=us at hw hl hbt
 obtain ⟨x1,a1,_⟩:=allD_eq (us:=us) (PD.init_ok n).1 r2 (by omega)
 obtain ⟨f1,f2⟩:=PD.all_few (us:=us) (PD.init_ok n).1
 rw [(PD.init_ok n).2] at f2
 have g1:=flat8 f1 f2
 obtain ⟨x2,a2,_⟩:=allE_eq (us:=flat ((PD.init n).all us)) (PE.init_ok n).1 r1 (by omega)
 obtain ⟨f3,f4⟩:=PE.all_few (us:=flat ((PD.init n).all us)) (PE.init_ok n).1
 rw [(PE.init_ok n).2] at f4
 have g2:=flat8 f3 f4
 obtain ⟨x3,a3,_⟩:=allD_eq (us:=flat ((PE.init n).all (flat ((PD.init n).all us)))) (PD.init_ok n).1 r2 (by omega)
 obtain ⟨f5,f6⟩:=PD.all_few (us:=flat ((PE.init n).all (flat ((PD.init n).all us)))) (PD.init_ok n).1
 rw [(PD.init_ok n).2] at f6
 have g3:=flat8 f5 f6
 unfold lontarlaw19_CodecNormal
 dsimp only
 rw [awake19,bind_some',Bool.not_true,cond_false,names19_eq,bind_some',hn,nth_name h8,bind_some',get_name h8,bind_some',e2,bind_some']
 dsimp only
 rw [bind_some',nth_name h8,bind_some',get_name h8,bind_some',e1,bind_some']
 dsimp only
 rw [bind_some',nth_name h8,bind_some',get_name h8,bind_some',e2,bind_some']
 dsimp only
 rw [show ((0:Int) != 0)=false from rfl,cond_false,cond_false,cond_false,hbt,bind_some',a1,bind_some']
 dsimp only
 rw [units_all fu64 (by omega) f1,bind_some']
 dsimp only
 by_cases ok1:okT ((PD.init n).all us)
 ·rw [bne_eq_false_iff_eq.2 ((badT_ok _).2 ok1),cond_false,a2,bind_some']
  dsimp only
  rw [units_all fu64 (by omega) f3,bind_some']
  dsimp only
  by_cases ok2:okT ((PE.init n).all (flat ((PD.init n).all us)))
  ·obtain ⟨k1,k2⟩:=back_all ok2
   rw [bne_eq_false_iff_eq.2 ((badT_ok _).2 ok2),cond_false,a3,bind_some']
   dsimp only
   rw [units_all fu64 (by omega) f5,bind_some']
   dsimp only
   rw [beq_t ((badT_ok _).2 k1),cond_true,k2,units_eq' fu64 (by omega),bind_some',decide_eq_true rfl,cond_true]
   by_cases h4:n=4
   ·rw [beq_t (by omega),cond_true]
   ·rw [beq_f (by omega),cond_false]
    by_cases h5:n>5
    ·rw [decide_eq_true (by omega),cond_true]
    ·rw [decide_eq_false (by omega),cond_false,bind_some',(normal_all (by omega) hw ok1).2 h4,units_eq' fu64 (by omega),bind_some',decide_eq_true rfl]
  ·have h6:¬n<6:=fun h=>ok2 (normal_all h hw ok1).1
   rw [bne_iff_ne.2 (fun h=>ok2 ((badT_ok _).1 h)),cond_true]
   by_cases h:n=6
   ·rw [beq_t (by omega),cond_true]
   ·rw [beq_f (by omega),cond_false,beq_t (by omega)]
 ·rw [bne_iff_ne.2 (fun h=>ok1 ((badT_ok _).1 h)),cond_true]
theorem codecNormal_law (a0:(Sh.int .u8).den) (a1:(Sh.sl (.int .u8)).den) (w0:wfD (.int .u8) a0) (w1:wfD (.sl (.int .u8)) a1):lontarlaw19_CodecNormal FU64 (a0,a1)=some true:=codecNormal_true (u8_of w0) (isU8_of w1)
end Go.AM.M
